/-
  What the rows' steps share: an argument's reading as a list, the bounds that the form and the given statement lay on it. Conditions: those that each line names.
-/
import Derived.Test.YtkaaabnahpmobaaDoorRows
import Derived.Test.YtkaaabnahpmobaaDoorMem
import Derived.WalkKit
import Derived.ProofKit
import Derived.OpenShut
import Derived.ShutString
import Derived.ChangeOld
import Derived.Below
import Derived.SizedLaws
import Derived.JoinedCond
namespace Go.Proofs.YtkaaabnahpmobaaDoor
open Go.ChangeShapes Go.WideShapes Go.ChangeAt Go.RowKit

theorem bd_i64 {x : Int} (w : (Lit.int .i64 x).wf = true) : -9223372036854775808 ≤ x ∧ x ≤ 9223372036854775807 := by
  simpa [Lit.wf, IntKind.min, IntKind.max, IntKind.signed, IntKind.bits] using w
theorem bd_u64 {x : Int} (w : (Lit.int .u64 x).wf = true) : 0 ≤ x ∧ x < 18446744073709551616 := by
  have : 0 ≤ x ∧ x ≤ 18446744073709551615 := by simpa [Lit.wf, IntKind.min, IntKind.max, IntKind.signed, IntKind.bits] using w
  omega
theorem bd_u32 {x : Int} (w : (Lit.int .u32 x).wf = true) : 0 ≤ x ∧ x < 4294967296 := by
  have : 0 ≤ x ∧ x ≤ 4294967295 := by simpa [Lit.wf, IntKind.min, IntKind.max, IntKind.signed, IntKind.bits] using w
  omega

/-- What a slice's datum has to do with its length. -/
def Dt {H : Type} (d : DataW H) (n : Nat) : Prop := n = 0 ∨ ∃ el sp, d = .slice el sp ∧ n ≤ el.length + sp.length

section
variable {H : Type} {enc : TypeId × Value → H} {P : Program} {W : World} {t e : TypeId} {a : Option Addr} {n c : Nat} {d : DataW H} {ps : List MemPlace}

theorem open_row {k : IntKind} (ht : P.underlying t = some (.slice e)) (he : P.underlying e = some (.int k)) (hc : P.cellsOf e = 1) (h : DataW.Trod enc P W 0 (fun _ => true) true t (.slice a n c) d ps) :
    ∃ zs : List Int, ((a = none ∧ n = 0 ∧ c = 0 ∧ zs = []) ∨ ∃ x, a = some x ∧ n ≤ c ∧ c ≤ maxLen ∧ zs.length = c ∧ (∀ i, i < zs.length → W.cell? (x.add i) = some (.int k (zs.getD i 0))) ∧ ∀ m ∈ zs, (Lit.int k m).wf = true) ∧ Dt d n := by
  obtain ⟨fuel, hf⟩ := h
  rcases open_ints ht he hc hf with ⟨hcs, _⟩ | ⟨x, l, c', zs, hcs, _, hl, hm, hz, hx, hcell, hwz⟩
  · simp [Value.cells] at hcs
    obtain ⟨rfl, rfl, rfl⟩ := hcs
    exact ⟨[], .inl ⟨rfl, rfl, rfl, rfl⟩, .inl rfl⟩
  · simp [Value.cells] at hcs
    obtain ⟨rfl, rfl, rfl⟩ := hcs
    refine ⟨zs, .inr ⟨_, rfl, hl, hm, by simpa using hz, hcell, hwz⟩, .inr ⟨lits k (zs.take n), lits k (zs.drop n), ?_, ?_⟩⟩
    · exact (Prod.mk.inj hx).1
    · have hzc : zs.length = c := by simpa using hz
      simp [lits]; omega

theorem open_bytes (ht : P.underlying t = some (.slice e)) (he : P.underlying e = some (.int .u8)) (hc : P.cellsOf e = 1) (h : DataW.Trod enc P W 0 (fun _ => true) true t (.slice a n c) d ps) :
    ∃ l : List UInt8, l.length = n ∧ RowAt W a n c 1 (l.map B) ∧ Dt d n := by
  obtain ⟨zs, hz, hd⟩ := open_row ht he hc h
  obtain ⟨l, h1, h2⟩ := rowAt_bytes hz
  exact ⟨l, h1, h2, hd⟩

theorem open_nums (ht : P.underlying t = some (.slice e)) (he : P.underlying e = some (.int .u64)) (hc : P.cellsOf e = 1) (h : DataW.Trod enc P W 0 (fun _ => true) true t (.slice a n c) d ps) :
    ∃ l : List UInt64, l.length = n ∧ RowAt W a n c 1 (l.map U) ∧ Dt d n := by
  obtain ⟨zs, hz, hd⟩ := open_row ht he hc h
  obtain ⟨l, h1, h2⟩ := rowAt_nums hz
  exact ⟨l, h1, h2, hd⟩

theorem said_slice {b : Nat} {ts : List TypeId} {ds : List (DataW H)} (hu : P.underlying t = some (.slice e)) (hb : P.bytesOf e = b) (hd : Dt d n) (h : (DataW.weightsEach P ts ds).all (· ≤ reachBytes) = true) {j : Nat}
    (ht : ts[j]? = some t) (hj : ds[j]? = some d) : n * b ≤ 140737488351232 := by
  rcases hd with rfl | ⟨el, sp, rfl, hn⟩
  · simp
  · have := sized_slice h ht hj hu
    rw [hb] at this
    exact Nat.le_trans (Nat.mul_le_mul_right b hn) this

theorem bulk_one (d : DataW H) : 1 ≤ Rows.uptoBulk d := by
  cases d with
  | lit l => cases l <;> simp [Rows.uptoBulk]
  | nil => simp [Rows.uptoBulk]
  | ptr d => simp [Rows.uptoBulk]
  | slice elems spare => simp [Rows.uptoBulk]
  | agg parts => simp [Rows.uptoBulk]
  | iface t d => simp [Rows.uptoBulk]
  | map entries => simp [Rows.uptoBulk]
  | held h => simp [Rows.uptoBulk]

theorem bulk_part {l : List (DataW H)} (h : d ∈ l) : Rows.uptoBulk d ≤ Rows.uptoBulkAll l := by
  induction l with
  | nil => cases h
  | cons x r ih =>
    simp only [Rows.uptoBulkAll]
    cases List.mem_cons.1 h with
    | inl e => subst e; omega
    | inr e => have := ih e; omega

theorem bulk_len (l : List (DataW H)) : l.length ≤ Rows.uptoBulkAll l := by
  induction l with
  | nil => simp [Rows.uptoBulkAll]
  | cons x r ih => have := bulk_one x; simp only [Rows.uptoBulkAll, List.length_cons]; omega

theorem upto_of {l : List (DataW H)} (h : Rows.uptoBulkAll l ≤ 1048576) (hm : d ∈ l) : Rows.uptoBulk d ≤ 1048576 := Nat.le_trans (bulk_part hm) h

theorem upto_slice {l : List (DataW H)} (hd : Dt d n) (h : Rows.uptoBulkAll l ≤ 1048576) (hm : d ∈ l) : n ≤ 1048576 := by
  rcases hd with rfl | ⟨el, sp, rfl, hn⟩
  · omega
  · have h1 := upto_of h hm
    have h2 := bulk_len el
    have h3 := bulk_len sp
    simp only [Rows.uptoBulk] at h1
    omega
end

end Go.Proofs.YtkaaabnahpmobaaDoor
