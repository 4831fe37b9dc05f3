/-
  The fields of an event, as data; fields in memory. No condition.
-/
import Derived.Test.YtkdpingniohfhaaDoorMSs
import Derived.Test.YtkdpingniohfhaaDoorMTb
import Derived.Test.YtkdpingniohfhaaDoorMSty
import Derived.Test.YtkdpingniohfhaaDoorMVzig
namespace Go.Proofs.YtkdpingniohfhaaDoor
open Go.RowKit
set_option linter.unusedVariables false

/-- The field of a tag; none where it is empty. -/
def fieldAt (v : Int) (e : Ev) (t : Nat) : List FD :=
  if t = 8 then txtF 8 e.who.data.toList else if t = 10 then txtF 10 e.note.data.toList
  else if t = 4 ∧ v < 3 then numF 4 (zigN e.qty).toNat else numF t (numAt e t).toNat
def fieldsUpto (v : Int) (e : Ev) : Nat → List FD
  | 0 => []
  | k + 1 => fieldsUpto v e k ++ fieldAt v e (k + 1)
theorem fields_upto (v : Int) (e : Ev) (h1 : 1 ≤ v) (h5 : v ≤ 5) : fieldsUpto v e (hasV v).toNat = fieldsE v e := by
  have hc : v = 1 ∨ v = 2 ∨ v = 3 ∨ v = 4 ∨ v = 5 := by omega
  rcases hc with rfl | rfl | rfl | rfl | rfl
  · show fieldsUpto 1 e 5 = f1F e.kind e.order e.item e.qty e.price
    simp [fieldsUpto, fieldAt, f1F, hdF, numAt]
  · show fieldsUpto 2 e 6 = f2F e.kind e.order e.item e.qty e.price e.cur
    simp [fieldsUpto, fieldAt, f2F, f1F, hdF, numAt]
  · show fieldsUpto 3 e 7 = f3F e.kind e.order e.item e.qty e.price e.cur e.tax
    simp [fieldsUpto, fieldAt, f3F, hdF, numAt]
  · show fieldsUpto 4 e 8 = f4F e.kind e.order e.item e.qty e.price e.cur e.tax e.who
    simp [fieldsUpto, fieldAt, f4F, f3F, hdF, numAt]
  · show fieldsUpto 5 e 10 = f5F e.kind e.order e.item e.qty e.price e.cur e.tax e.who e.stamp e.note
    simp [fieldsUpto, fieldAt, f5F, f4F, f3F, hdF, numAt]
theorem upto_len (v : Int) (e : Ev) : ∀ k, (fieldsUpto v e k).length ≤ k
  | 0 => Nat.le_refl _
  | k + 1 => by
    have := upto_len v e k
    have h2 : (fieldAt v e (k + 1)).length ≤ 1 := by
      unfold fieldAt numF txtF
      repeat' split
      all_goals simp
    show (fieldsUpto v e k ++ fieldAt v e (k + 1)).length ≤ k + 1
    rw [List.length_append]; omega

/-- A row of fields of one's own. -/
structure FsIn (w0 w : World) (ds : List FD) (a : Option Addr) (n cap : Nat) (ms : List Fld) : Prop where
  own : w.ownsRow w0.heap.size 81 4 (.slice a n cap) n (ms.flatMap Fld.cells)
  flds : FldsAre w ms ds
  tags : ∀ f ∈ ms, BytesTag w f
  bel : Below w0.heap.size w0 w
structure FKeep (w w' : World) : Prop where
  size : w.heap.size ≤ w'.heap.size
  keep : ∀ (b : Nat) (cs : Array Value) (t : TypeId) (fr : Nat × Nat), w.heap[b]? = some (.cells cs t fr) → t ≠ 81 → w'.heap[b]? = some (.cells cs t fr)
theorem FKeep.trans {a b c : World} (h : FKeep a b) (k : FKeep b c) : FKeep a c := ⟨Nat.le_trans h.size k.size, fun x cs t fr hx ht => k.keep x cs t fr (h.keep x cs t fr hx ht) ht⟩
theorem FKeep.below {w w' : World} (h : Below w.heap.size w w') : FKeep w w' := ⟨h.size, fun b cs t fr hb _ => below_blk' h hb⟩
theorem FKeep.refl (w : World) : FKeep w w := ⟨Nat.le_refl _, fun _ _ _ _ h _ => h⟩
theorem FsIn.below {w0 w w' : World} {ds : List FD} {a : Option Addr} {n cap : Nat} {ms : List Fld} (h : FsIn w0 w ds a n cap ms) (hb : Below w.heap.size w w') : FsIn w0 w' ds a n cap ms :=
  ⟨own_below h.own hb, h.flds.below hb, fun f hf => (h.tags f hf).below hb, h.bel.trans (hb.mono h.bel.size)⟩
theorem FsIn.len {w0 w : World} {ds : List FD} {a : Option Addr} {n cap : Nat} {ms : List Fld} (h : FsIn w0 w ds a n cap ms) : ms.length = n ∧ ds.length = n := by
  have h1 := h.own.1
  rw [F_len] at h1
  have h2 : ms.length = n := by omega
  exact ⟨h2, by rw [← h.flds.len]; exact h2⟩
theorem FsIn.app {w0 w w' : World} {ds : List FD} {a a' : Option Addr} {n cap cap' : Nat} {ms : List Fld} {f : Fld} {d : FD} (h : FsIn w0 w ds a n cap ms) (hf : FldIs w f d) (hb : BytesTag w f)
    (ho : w'.ownsRow w0.heap.size 81 4 (.slice a' (n + 1) cap') (n + 1) (ms.flatMap Fld.cells ++ f.cells)) (hg : w.grownBy w' (Value.slice a n cap).ownBlock) : FsIn w0 w' (ds ++ [d]) a' (n + 1) cap' (ms ++ [f]) ∧ FKeep w w' := by
  have hr : ∀ k, (Value.slice a n cap).ownBlock = some k → Tag w k 81 := fun k e => own_tag h.own e
  refine ⟨⟨by rw [List.flatMap_append]; simpa using ho, FldsAre.snoc (hf.grown hb hg (by decide) hr) (h.flds.grown hg (by decide) hr h.tags), fun g hg2 => ?_, h.bel.grown hg h.bel.size (fun k e => (h.own.lt k e.symm.symm).1)⟩, ⟨hg.size, fun b cs t fr hx ht => (hg.block b (lt_of_block hx) (fun e => (hr b e.symm).ne ⟨cs, fr, hx⟩ (fun e2 => ht e2.symm) rfl)).trans hx⟩⟩
  rcases List.mem_append.1 hg2 with h2 | h2
  · exact (h.tags g h2).grown hg (by decide) hr
  · simp at h2; subst h2; exact hb.grown hg (by decide) hr
theorem F_one1 (f : Fld) : ∀ u ∈ f.cells, u.oneCell' = true := by simp [Fld.cells, Value.oneCell']

theorem num_in {v : Int} {e : Ev} (h : Bd e) (hq : 3 ≤ v → 0 ≤ e.qty) (t : Nat) (h4 : ¬ (t = 4 ∧ v < 3)) : 0 ≤ numAt e t ∧ numAt e t < 9223372036854775808 := by
  obtain ⟨k0, k1, o0, o1, i0, i1, q0, q1, p0, p1, c0, c1, t0, t1, u, s0, s1, n⟩ := h
  unfold numAt
  split <;> first | exact ⟨k0, k1⟩ | exact ⟨o0, o1⟩ | exact ⟨i0, i1⟩ | exact ⟨p0, p1⟩ | exact ⟨c0, c1⟩ | exact ⟨t0, t1⟩ | exact ⟨s0, s1⟩ | exact ⟨hq (by omega), q1⟩ | decide

theorem fields_more (v : Int) (e : Ev) {T : Nat} (hT : 1 ≤ T) : fieldsUpto v e (T + 1 - 1) = fieldsUpto v e (T - 1) ++ fieldAt v e T := by
  obtain ⟨j, rfl⟩ : ∃ j, T = j + 1 := ⟨T - 1, by omega⟩
  rfl
/-- A number's field, a text's. -/
theorem num_fld (w : World) (t : Nat) (x : Int) (hx : 0 ≤ x) : FldIs w ⟨(t : Int), false, x, none, 0, 0⟩ ⟨t, false, x.toNat, []⟩ ∧ BytesTag w ⟨(t : Int), false, x, none, 0, 0⟩ :=
  ⟨⟨rfl, rfl, by show x = (x.toNat : Int); omega, RowAt.nil w 1⟩, fun b o h => by cases h⟩
theorem txt_fld (w : World) (t : Nat) (u : ByteArray) (hu : u.size ≤ 200) : FldIs (Lib.bytesWorld w 5 u) ⟨(t : Int), true, 0, some ⟨w.heap.size, 0, none⟩, u.size, grownCap w u.size 0 5⟩ ⟨t, true, 0, u.data.toList⟩ ∧ BytesTag (Lib.bytesWorld w 5 u) ⟨(t : Int), true, 0, some ⟨w.heap.size, 0, none⟩, u.size, grownCap w u.size 0 5⟩ :=
  ⟨⟨rfl, rfl, rfl, str_row w u (by unfold maxLen; omega)⟩, fun b o h => by cases h; exact str_tag w u⟩
theorem bytes_data {u : ByteArray} (h : u.size ≠ 0) : u.data.toList ≠ [] := by
  intro h2; apply h
  show u.data.size = 0
  rw [← Array.length_toList, h2]; rfl
end Go.Proofs.YtkdpingniohfhaaDoor
