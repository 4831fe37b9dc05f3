/-
  The record of an event, as data: it is short. No condition.
-/
import Derived.Test.YtfiplongnnkhmaaMTwrite
import Derived.Test.YtfiplongnnkhmaaMTb
namespace Go.Proofs.Ytfiplongnnkhmaa
open Go.RowKit
set_option linter.unusedVariables false

/-- The fields of a right event of a version. -/
def fieldsE (v : Int) (e : Ev) : List FD :=
  if v = 1 then f1F e.kind e.order e.item e.qty e.price
  else if v = 2 then f2F e.kind e.order e.item e.qty e.price e.cur
  else if v = 3 then f3F e.kind e.order e.item e.qty e.price e.cur e.tax
  else if v = 4 then f4F e.kind e.order e.item e.qty e.price e.cur e.tax e.who
  else f5F e.kind e.order e.item e.qty e.price e.cur e.tax e.who e.stamp e.note
/-- The record of an event; nothing where it is wrong. -/
def encL (v : Int) (e : Ev) : List UInt8 := if chk v e = 0 then recF (fieldsE v e) else []

theorem recF_append (a b : List FD) : recF (a ++ b) = recF a ++ recF b := by unfold recF; rw [List.flatMap_append]
theorem recF_num_le (t v : Nat) (ht : t ≤ 31) (hv : v < 18446744073709551616) : (recF (numF t v)).length ≤ 20 := by
  unfold numF
  split
  · simp [recF]
  · have h1 := enc_len10 (2 * t) (by omega)
    have h2 := enc_len10 v hv
    simp only [recF, List.flatMap_cons, List.flatMap_nil, List.append_nil]
    rw [oneF_num rfl, List.length_append]
    dsimp only
    omega
theorem recF_txt_le (t : Nat) (l : List UInt8) (ht : t ≤ 31) (hl : l.length ≤ 200) : (recF (txtF t l)).length ≤ 220 := by
  unfold txtF
  split
  · simp [recF]
  · have h1 := enc_len10 (2 * t + 1) (by omega)
    have h2 := enc_len10 l.length (by omega)
    simp only [recF, List.flatMap_cons, List.flatMap_nil, List.append_nil]
    rw [oneF_text rfl, List.length_append, List.length_append]
    dsimp only
    omega
/-- The plain bounds of a right event. -/
structure Bd (e : Ev) : Prop where
  k0 : 0 ≤ e.kind
  k1 : e.kind < 9223372036854775808
  o0 : 0 ≤ e.order
  o1 : e.order < 9223372036854775808
  i0 : 0 ≤ e.item
  i1 : e.item < 9223372036854775808
  q0 : -9223372036854775808 ≤ e.qty
  q1 : e.qty < 9223372036854775808
  p0 : 0 ≤ e.price
  p1 : e.price < 9223372036854775808
  c0 : 0 ≤ e.cur
  c1 : e.cur < 9223372036854775808
  t0 : 0 ≤ e.tax
  t1 : e.tax < 9223372036854775808
  u : e.who.size ≤ 200
  s0 : 0 ≤ e.stamp
  s1 : e.stamp < 9223372036854775808
  n : e.note.size ≤ 200
theorem bd_of {v : Int} {e : Ev} (h : Right v e) : Bd e := by
  obtain ⟨h1, h5, k1, kl, us, ns, o, i, q, q3, p, p1, c, c1, t, t2, u, u3, s, s4, n4⟩ := h
  have hl : lastK v ≤ 10 := by unfold lastK; split <;> (try split) <;> (try split) <;> decide
  exact { k0 := by omega, k1 := by omega, o0 := by omega, o1 := by omega, i0 := by omega, i1 := by omega, q0 := by omega, q1 := by omega, p0 := by omega, p1 := by omega, c0 := by omega, c1 := by omega, t0 := by omega, t1 := by omega, u := by omega, s0 := by omega, s1 := by omega, n := by omega }
theorem rec_short (v : Int) (e : Ev) (h : Bd e) : (recF (fieldsE v e)).length ≤ 1024 := by
  obtain ⟨k0, k1, o0, o1, i0, i1, q0, q1, p0, p1, c0, c1, t0, t1, u, s0, s1, n⟩ := h
  obtain ⟨z0, z1⟩ := zig_bd e.qty q0 (by omega)
  have a1 := recF_num_le 1 e.kind.toNat (by decide) (by omega)
  have a2 := recF_num_le 2 e.order.toNat (by decide) (by omega)
  have a3 := recF_num_le 3 e.item.toNat (by decide) (by omega)
  have a4 := recF_num_le 4 e.qty.toNat (by decide) (by omega)
  have a4' := recF_num_le 4 (zigN e.qty).toNat (by decide) (by omega)
  have a5 := recF_num_le 5 e.price.toNat (by decide) (by omega)
  have a6 := recF_num_le 6 e.cur.toNat (by decide) (by omega)
  have a7 := recF_num_le 7 e.tax.toNat (by decide) (by omega)
  have a8 := recF_txt_le 8 e.who.data.toList (by decide) (by simpa using u)
  have a9 := recF_num_le 9 e.stamp.toNat (by decide) (by omega)
  have a10 := recF_txt_le 10 e.note.data.toList (by decide) (by simpa using n)
  unfold fieldsE
  split
  · simp only [f1F, hdF, recF_append, List.length_append]; omega
  split
  · simp only [f2F, f1F, hdF, recF_append, List.length_append]; omega
  split
  · simp only [f3F, hdF, recF_append, List.length_append]; omega
  split
  · simp only [f4F, f3F, hdF, recF_append, List.length_append]; omega
  · simp only [f5F, f4F, f3F, hdF, recF_append, List.length_append]; omega
end Go.Proofs.Ytfiplongnnkhmaa
