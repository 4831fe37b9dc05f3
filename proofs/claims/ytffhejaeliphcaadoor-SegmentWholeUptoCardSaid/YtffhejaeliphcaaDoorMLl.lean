/-
  What the rows' steps share: an argument's reading as a list, the bounds that the form and the given statement lay on it. Conditions: those that each line names.
  What the rows' steps share where an argument is a slice of structs or of slices: its reading as a list of elements, each by its cells. Conditions: those that each line names.
  What the rows' steps share where an argument is a segment's entry by value: its reading. No condition.
-/
import Derived.Test.YtffhejaeliphcaaDoorRows
import Derived.Test.YtffhejaeliphcaaDoorMBase
import Derived.WalkKit
import Derived.ProofKit
import Derived.OpenShut
import Derived.ShutString
import Derived.ChangeOld
import Derived.Below
import Derived.SizedLaws
import Derived.JoinedCond
import Derived.Deep.Slices
import Derived.Deep.Strs
namespace Go.Proofs.YtffhejaeliphcaaDoor
open Go.ChangeShapes Go.WideShapes Go.ChangeAt Go.RowKit

theorem bd_i64 {x : Int} (w : (Lit.int .i64 x).wf = true) : -9223372036854775808 ≤ x ∧ x ≤ 9223372036854775807 := by
  simpa [Lit.wf, IntKind.min, IntKind.max, IntKind.signed, IntKind.bits] using w
theorem bd_u64 {x : Int} (w : (Lit.int .u64 x).wf = true) : 0 ≤ x ∧ x < 18446744073709551616 := by
  have : 0 ≤ x ∧ x ≤ 18446744073709551615 := by simpa [Lit.wf, IntKind.min, IntKind.max, IntKind.signed, IntKind.bits] using w
  omega
theorem bd_u32 {x : Int} (w : (Lit.int .u32 x).wf = true) : 0 ≤ x ∧ x < 4294967296 := by
  have : 0 ≤ x ∧ x ≤ 4294967295 := by simpa [Lit.wf, IntKind.min, IntKind.max, IntKind.signed, IntKind.bits] using w
  omega

/-- What a slice's datum has to do with its length. -/
def Dt {H : Type} (d : DataW H) (n : Nat) : Prop := n = 0 ∨ ∃ el sp, d = .slice el sp ∧ n ≤ el.length + sp.length

section
variable {H : Type} {enc : TypeId × Value → H} {P : Program} {W : World} {t e : TypeId} {a : Option Addr} {n c : Nat} {d : DataW H} {ps : List MemPlace}

theorem open_row {k : IntKind} (ht : P.underlying t = some (.slice e)) (he : P.underlying e = some (.int k)) (hc : P.cellsOf e = 1) (h : DataW.Trod enc P W 0 (fun _ => true) true t (.slice a n c) d ps) :
    ∃ zs : List Int, ((a = none ∧ n = 0 ∧ c = 0 ∧ zs = []) ∨ ∃ x, a = some x ∧ n ≤ c ∧ c ≤ maxLen ∧ zs.length = c ∧ (∀ i, i < zs.length → W.cell? (x.add i) = some (.int k (zs.getD i 0))) ∧ ∀ m ∈ zs, (Lit.int k m).wf = true) ∧ Dt d n := by
  obtain ⟨fuel, hf⟩ := h
  rcases open_ints ht he hc hf with ⟨hcs, _⟩ | ⟨x, l, c', zs, hcs, _, hl, hm, hz, hx, hcell, hwz⟩
  · simp [Value.cells] at hcs
    obtain ⟨rfl, rfl, rfl⟩ := hcs
    exact ⟨[], .inl ⟨rfl, rfl, rfl, rfl⟩, .inl rfl⟩
  · simp [Value.cells] at hcs
    obtain ⟨rfl, rfl, rfl⟩ := hcs
    refine ⟨zs, .inr ⟨_, rfl, hl, hm, by simpa using hz, hcell, hwz⟩, .inr ⟨lits k (zs.take n), lits k (zs.drop n), ?_, ?_⟩⟩
    · exact (Prod.mk.inj hx).1
    · have hzc : zs.length = c := by simpa using hz
      simp [lits]; omega

theorem open_bytes (ht : P.underlying t = some (.slice e)) (he : P.underlying e = some (.int .u8)) (hc : P.cellsOf e = 1) (h : DataW.Trod enc P W 0 (fun _ => true) true t (.slice a n c) d ps) :
    ∃ l : List UInt8, l.length = n ∧ RowAt W a n c 1 (l.map B) ∧ Dt d n := by
  obtain ⟨zs, hz, hd⟩ := open_row ht he hc h
  obtain ⟨l, h1, h2⟩ := rowAt_bytes hz
  exact ⟨l, h1, h2, hd⟩

theorem open_nums (ht : P.underlying t = some (.slice e)) (he : P.underlying e = some (.int .u64)) (hc : P.cellsOf e = 1) (h : DataW.Trod enc P W 0 (fun _ => true) true t (.slice a n c) d ps) :
    ∃ l : List UInt64, l.length = n ∧ RowAt W a n c 1 (l.map U) ∧ Dt d n := by
  obtain ⟨zs, hz, hd⟩ := open_row ht he hc h
  obtain ⟨l, h1, h2⟩ := rowAt_nums hz
  exact ⟨l, h1, h2, hd⟩

theorem said_slice {b : Nat} {ts : List TypeId} {ds : List (DataW H)} (hu : P.underlying t = some (.slice e)) (hb : P.bytesOf e = b) (hd : Dt d n) (h : (DataW.weightsEach P ts ds).all (· ≤ reachBytes) = true) {j : Nat}
    (ht : ts[j]? = some t) (hj : ds[j]? = some d) : n * b ≤ 140737488351232 := by
  rcases hd with rfl | ⟨el, sp, rfl, hn⟩
  · simp
  · have := sized_slice h ht hj hu
    rw [hb] at this
    exact Nat.le_trans (Nat.mul_le_mul_right b hn) this

theorem bulk_one (d : DataW H) : 1 ≤ Rows.uptoBulk d := by
  cases d with
  | lit l => cases l <;> simp [Rows.uptoBulk]
  | nil => simp [Rows.uptoBulk]
  | ptr d => simp [Rows.uptoBulk]
  | slice elems spare => simp [Rows.uptoBulk]
  | agg parts => simp [Rows.uptoBulk]
  | iface t d => simp [Rows.uptoBulk]
  | map entries => simp [Rows.uptoBulk]
  | held h => simp [Rows.uptoBulk]

theorem bulk_part {l : List (DataW H)} (h : d ∈ l) : Rows.uptoBulk d ≤ Rows.uptoBulkAll l := by
  induction l with
  | nil => cases h
  | cons x r ih =>
    simp only [Rows.uptoBulkAll]
    cases List.mem_cons.1 h with
    | inl e => subst e; omega
    | inr e => have := ih e; omega

theorem bulk_len (l : List (DataW H)) : l.length ≤ Rows.uptoBulkAll l := by
  induction l with
  | nil => simp [Rows.uptoBulkAll]
  | cons x r ih => have := bulk_one x; simp only [Rows.uptoBulkAll, List.length_cons]; omega

theorem upto_of {l : List (DataW H)} (h : Rows.uptoBulkAll l ≤ 1048576) (hm : d ∈ l) : Rows.uptoBulk d ≤ 1048576 := Nat.le_trans (bulk_part hm) h

theorem upto_slice {l : List (DataW H)} (hd : Dt d n) (h : Rows.uptoBulkAll l ≤ 1048576) (hm : d ∈ l) : n ≤ 1048576 := by
  rcases hd with rfl | ⟨el, sp, rfl, hn⟩
  · omega
  · have h1 := upto_of h hm
    have h2 := bulk_len el
    have h3 := bulk_len sp
    simp only [Rows.uptoBulk] at h1
    omega
end

end Go.Proofs.YtffhejaeliphcaaDoor

namespace Go.Proofs.YtffhejaeliphcaaDoor
open Go.ChangeShapes Go.WideShapes Go.ChangeAt Go.RowKit
set_option linter.unusedVariables false

theorem flat_get {α : Type} (cells : α → List Value) {k : Nat} (hcl : ∀ x, (cells x).length = k) : ∀ (xs : List α) (j : Nat) (u : Value), (xs.flatMap cells)[j]? = some u →
    ∃ i r x, xs[i]? = some x ∧ r < k ∧ j = i * k + r ∧ (cells x)[r]? = some u
  | [], j, u, h => by simp at h
  | y :: l, j, u, h => by
    rw [List.flatMap_cons] at h
    by_cases hj : j < k
    · rw [List.getElem?_append_left (by rw [hcl]; exact hj)] at h
      exact ⟨0, j, y, rfl, hj, by omega, h⟩
    · rw [List.getElem?_append_right (by rw [hcl]; omega), hcl] at h
      obtain ⟨i, r, x, h1, h2, h3, h4⟩ := flat_get cells hcl l (j - k) u h
      exact ⟨i + 1, r, x, h1, h2, by rw [Nat.add_mul]; omega, h4⟩

theorem flat_length {α : Type} (cells : α → List Value) {k : Nat} (hcl : ∀ x, (cells x).length = k) (xs : List α) : (xs.flatMap cells).length = xs.length * k := by
  induction xs with
  | nil => simp
  | cons y l ih => rw [List.flatMap_cons, List.length_append, hcl, ih, List.length_cons, Nat.add_mul]; omega

section
variable {H : Type} {enc : TypeId × Value → H} {P : Program} {W : World} {t e : TypeId} {a : Option Addr} {n c : Nat} {d : DataW H} {ps : List MemPlace}

theorem bulk_sum {α : Type} (wt : α → Nat) (D : Nat → DataW H) (f : Nat → α) : ∀ (n : Nat), (∀ i, i < n → wt (f i) ≤ Rows.uptoBulk (D i)) → (((List.range n).map f).map wt).sum ≤ Rows.uptoBulkAll ((List.range n).map D)
  | 0, _ => by simp
  | n + 1, h => by
    have ih := bulk_sum wt D f n fun i hi => h i (by omega)
    have hn := h n (by omega)
    have ha : ∀ (l r : List (DataW H)), Rows.uptoBulkAll (l ++ r) = Rows.uptoBulkAll l + Rows.uptoBulkAll r := by
      intro l r
      induction l with
      | nil => simp [Rows.uptoBulkAll]
      | cons x l ih => simp only [List.cons_append, Rows.uptoBulkAll, ih]; omega
    rw [List.range_succ, List.map_append, List.map_append, List.map_append, ha, List.sum_append]
    simp only [List.map_cons, List.map_nil, List.sum_cons, List.sum_nil, Rows.uptoBulkAll]
    omega

/-- A slice whose elements are of 'k' cells each, read as a list of elements. -/
theorem open_elems {α : Type} [Inhabited α] {k : Nat} (cells : α → List Value) (good : α → Prop) (wt : α → Nat) (ht : P.underlying t = some (.slice e)) (hk : P.cellsOf e = k) (hpos : 0 < k) (hcl : ∀ x, (cells x).length = k)
    (hel : ∀ m cs y, DataW.trod enc P W 0 (fun _ => true) true m e cs = some y → ∃ x, cs = cells x ∧ good x ∧ wt x ≤ Rows.uptoBulk y.1)
    (h : DataW.Trod enc P W 0 (fun _ => true) true t (.slice a n c) d ps) :
    ∃ xs : List α, xs.length = n ∧ RowAt W a n c k (xs.flatMap cells) ∧ (∀ x ∈ xs, good x) ∧ Dt d n ∧ (xs.map wt).sum ≤ Rows.uptoBulk d := by
  obtain ⟨fuel, hf⟩ := h
  rcases Deep.open_slice ht hf with ⟨hcs, hx⟩ | ⟨ad, len, cap, m, n', D, Pl, hcs, _, hl, hm, hmm, hx, hi⟩
  · simp [Value.cells] at hcs
    obtain ⟨rfl, rfl, rfl⟩ := hcs
    exact ⟨[], rfl, RowAt.nil _ _, (fun x hx => by cases hx), .inl rfl, by simp⟩
  · simp [Value.cells] at hcs
    obtain ⟨rfl, rfl, rfl⟩ := hcs
    rw [if_pos rfl] at hmm
    subst hmm
    have hd : d = .slice ((List.range n).map D) ((List.range (m - n)).map fun j => D (n + j)) := (Prod.mk.inj hx).1
    obtain ⟨f, hfx⟩ := Deep.choose_lt (n := n) (p := fun i (x : α) => (∃ cs', W.cells? 0 (ad.add (i * P.cellsOf e)) (P.cellsOf e) = some cs' ∧ cs' = cells x) ∧ good x ∧ wt x ≤ Rows.uptoBulk (D i)) (fun i hin => by
      obtain ⟨cs', h1, h2⟩ := hi i (by omega)
      obtain ⟨x, h3, h4, h5⟩ := hel _ _ _ h2
      exact ⟨x, ⟨cs', h1, h3⟩, h4, h5⟩)
    have hlen : ((List.range n).map f).length = n := by simp
    refine ⟨(List.range n).map f, hlen, ⟨by rw [flat_length cells hcl, hlen], hl, hm, ?_⟩, ?_, .inr ⟨_, _, hd, by simp⟩, ?_⟩
    · by_cases hn : n = 0
      · exact .inl hn
      · right
        obtain ⟨b, off, spot⟩ := ad
        have hspot : spot = none := by
          obtain ⟨⟨cs', h1, h2⟩, _⟩ := hfx 0 (by omega)
          obtain ⟨_, h4, h5⟩ := World.cells?_some h1
          have h6 := h5 0 (by omega)
          rw [List.getElem?_eq_getElem (by omega)] at h6
          simpa [Addr.add] using World.cell?_spot h6
        subst hspot
        refine ⟨b, off, rfl, fun j u hu => ?_⟩
        obtain ⟨i, r, x, hx1, hr, rfl, hx2⟩ := flat_get cells hcl _ j u hu
        have hin : i < n := by
          have := (List.getElem?_eq_some_iff.1 hx1).1
          simpa using this
        obtain ⟨⟨cs', h1, rfl⟩, _⟩ := hfx i hin
        have hxf : f i = x := by simpa [List.getElem?_map, List.getElem?_range hin] using hx1
        obtain ⟨_, h4, h5⟩ := World.cells?_some h1
        have h6 := h5 r (by omega)
        rw [add_plain, add_plain, hk, hxf, hx2] at h6
        rw [← Nat.add_assoc]; exact h6
    · intro x hx
      obtain ⟨i, hi', rfl⟩ := List.mem_map.1 hx
      exact (hfx i (by simpa using hi')).2.1
    · have := bulk_sum wt D f n fun i hin => (hfx i hin).2.2
      subst hd
      simp only [Rows.uptoBulk]
      omega

/-- A slice of bytes, as a cell. -/
structure Bs where
  a : Option Addr
  n : Nat
  c : Nat
  l : List UInt8
instance : Inhabited Bs := ⟨⟨none, 0, 0, []⟩⟩
def Bs.cells (x : Bs) : List Value := [.slice x.a x.n x.c]
def Bs.good (W : World) (x : Bs) : Prop := RowAt W x.a x.n x.c 1 (x.l.map B)

theorem open_bs (ht : P.underlying t = some (.slice e)) (he : P.underlying e = some (.int .u8)) (hc : P.cellsOf e = 1) (m : Nat) (cs : List Value) (y : DataW H × List MemPlace)
    (h : DataW.trod enc P W 0 (fun _ => true) true m t cs = some y) : ∃ x : Bs, cs = x.cells ∧ x.good W ∧ x.l.length ≤ Rows.uptoBulk y.1 := by
  have hs : ∃ a n c, cs = [.slice a n c] := by
    rcases open_ints ht he hc h with ⟨hcs, _⟩ | ⟨x, l, c', zs, hcs, _⟩
    · exact ⟨_, _, _, hcs⟩
    · exact ⟨_, _, _, hcs⟩
  obtain ⟨a, n, c, rfl⟩ := hs
  obtain ⟨l, h1, h2, h3⟩ := open_bytes (d := y.1) (ps := y.2) ht he hc ⟨m, by simpa [Value.cells] using h⟩
  refine ⟨⟨a, n, c, l⟩, rfl, h2, ?_⟩
  show l.length ≤ _
  rcases h3 with h3 | ⟨el, sp, h3, h4⟩
  · omega
  · rw [h3]; have := bulk_len el; have := bulk_len sp; simp only [Rows.uptoBulk]; omega

theorem open_bss {q : TypeId} (ht : P.underlying t = some (.slice e)) (he : P.underlying e = some (.slice q)) (hq : P.underlying q = some (.int .u8)) (ce : P.cellsOf e = 1) (cq : P.cellsOf q = 1)
    (h : DataW.Trod enc P W 0 (fun _ => true) true t (.slice a n c) d ps) :
    ∃ xs : List Bs, xs.length = n ∧ RowAt W a n c 1 (xs.flatMap Bs.cells) ∧ (∀ x ∈ xs, x.good W) ∧ Dt d n ∧ (xs.map fun x => x.l.length).sum ≤ Rows.uptoBulk d :=
  open_elems Bs.cells (Bs.good W) (fun x => x.l.length) ht ce (by decide) (fun _ => rfl) (fun m cs y h => open_bs he hq cq m cs y h) h

end
end Go.Proofs.YtffhejaeliphcaaDoor

namespace Go.Proofs.YtffhejaeliphcaaDoor
open Go.ChangeShapes Go.WideShapes Go.ChangeAt Go.RowKit
set_option linter.unusedVariables false

section
variable {H : Type} {enc : TypeId × Value → H} {W : World}

theorem seg_field_at {cs : List Value} {fs : Array Field} {n : Nat} {xs : List (DataW H × List MemPlace)} (hx : xs.length = fs.size)
    (hf : ∀ (i : Nat) (f : Field), fs[i]? = some f → DataW.trod enc Tryd.prog W 0 (fun _ => true) true n f.type ((cs.drop f.offset).take (Tryd.prog.cellsOf f.type)) = xs[i]?) (i o : Nat) (f : Field) (hi : fs[i]? = some f)
    (ho : f.offset = o) (hk : Tryd.prog.cellsOf f.type = 1) (hc : o < cs.length) :
    ∃ v y, cs[o]? = some v ∧ DataW.trod enc Tryd.prog W 0 (fun _ => true) true n f.type [v] = some y := by
  have hil : i < fs.size := (Array.getElem?_eq_some_iff.1 hi).1
  have h1 := hf i f hi
  rw [ho, hk, List.drop_eq_getElem_cons hc, List.getElem?_eq_getElem (by omega : i < xs.length)] at h1
  exact ⟨_, _, List.getElem?_eq_getElem hc, h1⟩
theorem seg_int_at {t : TypeId} (ht : Tryd.prog.underlying t = some (.int .i64)) {n : Nat} {v : Value} {y : DataW H × List MemPlace} (h : DataW.trod enc Tryd.prog W 0 (fun _ => true) true n t [v] = some y) : ∃ x : Int, v = .int .i64 x := by
  obtain ⟨x, e, _, hw⟩ := DataW.trod_int ht h
  exact ⟨x, List.singleton_inj.1 e⟩

/-- A segment's entry as an argument of a walk. -/
structure SegArg (v : Value) (g : Int × Int × Int × Int) : Prop where
  is : v = .agg #[.int .i64 g.1, .int .i64 g.2.1, .int .i64 g.2.2.1, .int .i64 g.2.2.2]

set_option maxRecDepth 100000 in
theorem open_seg {r : Reach} {b0 : Nat} {v : Value} {d : DataW H} {p : List MemPlace} (hv : Value.okWide Tryd.prog W r b0 58 v) (h : DataW.Trod enc Tryd.prog W 0 (fun _ => true) true 58 v d p) {X : Prop} (_hsz : X) :
    ∃ y : Int × Int × Int × Int, SegArg v y := by
  obtain ⟨cs, rfl, hsz⟩ := okWide_struct Tryd.underlying58 hv
  obtain ⟨l⟩ := cs
  have hsz' : l.length = 4 := hsz.trans (by kernel_rfl)
  obtain ⟨fuel, hf'⟩ := h
  obtain ⟨xs, n, _, _, _, hxl, hf⟩ := DataW.trod_struct Tryd.underlying58 hf'
  have hc : (Value.agg ⟨l⟩).cells.toList = l := by simp [Value.cells]
  rw [hc] at hf
  obtain ⟨v0, y0, c0, h0⟩ := seg_field_at hxl hf 0 0 _ rfl rfl (by kernel_rfl) (by omega)
  obtain ⟨v1, y1, c1, h1⟩ := seg_field_at hxl hf 1 1 _ rfl rfl (by kernel_rfl) (by omega)
  obtain ⟨v2, y2, c2, h2⟩ := seg_field_at hxl hf 2 2 _ rfl rfl (by kernel_rfl) (by omega)
  obtain ⟨v3, y3, c3, h3⟩ := seg_field_at hxl hf 3 3 _ rfl rfl (by kernel_rfl) (by omega)
  obtain ⟨x0, rfl⟩ := seg_int_at Tryd.underlying3 h0
  obtain ⟨x1, rfl⟩ := seg_int_at Tryd.underlying3 h1
  obtain ⟨x2, rfl⟩ := seg_int_at Tryd.underlying3 h2
  obtain ⟨x3, rfl⟩ := seg_int_at Tryd.underlying3 h3
  match l, hsz' with
  | [z0, z1, z2, z3], _ =>
    simp at c0 c1 c2 c3
    subst c0 c1 c2 c3
    exact ⟨⟨x0, x1, x2, x3⟩, ⟨rfl⟩⟩
end
end Go.Proofs.YtffhejaeliphcaaDoor
