/-
  What the rows' steps share where an argument is an event by value: its reading. No condition.
-/
import Derived.Test.YtkdpingniohfhaaDoorMLawLib
import Derived.Test.YtkdpingniohfhaaDoorMBase
namespace Go.Proofs.YtkdpingniohfhaaDoor
open Go.ChangeShapes Go.WideShapes Go.ChangeAt Go.RowKit
set_option linter.unusedVariables false

section
variable {H : Type} {enc : TypeId × Value → H} {W : World}

theorem field_at {cs : List Value} {fs : Array Field} {n : Nat} {xs : List (DataW H × List MemPlace)} (hx : xs.length = fs.size)
    (hf : ∀ (i : Nat) (f : Field), fs[i]? = some f → DataW.trod enc Tryd.prog W 0 (fun _ => true) true n f.type ((cs.drop f.offset).take (Tryd.prog.cellsOf f.type)) = xs[i]?) (i o : Nat) (f : Field) (hi : fs[i]? = some f)
    (ho : f.offset = o) (hk : Tryd.prog.cellsOf f.type = 1) (hc : o < cs.length) :
    ∃ v y, cs[o]? = some v ∧ DataW.trod enc Tryd.prog W 0 (fun _ => true) true n f.type [v] = some y := by
  have hil : i < fs.size := (Array.getElem?_eq_some_iff.1 hi).1
  have h1 := hf i f hi
  rw [ho, hk, List.drop_eq_getElem_cons hc, List.getElem?_eq_getElem (by omega : i < xs.length)] at h1
  exact ⟨_, _, List.getElem?_eq_getElem hc, h1⟩

theorem int_at {t : TypeId} (ht : Tryd.prog.underlying t = some (.int .i64)) {n : Nat} {v : Value} {y : DataW H × List MemPlace} (h : DataW.trod enc Tryd.prog W 0 (fun _ => true) true n t [v] = some y) : ∃ x : Int, v = .int .i64 x ∧ i64b x := by
  obtain ⟨x, e, _, hw⟩ := DataW.trod_int ht h
  exact ⟨x, List.singleton_inj.1 e, bd_i64 hw⟩
theorem str_at {t : TypeId} (ht : Tryd.prog.underlying t = some .string) {n : Nat} {v : Value} {y : DataW H × List MemPlace} (h : DataW.trod enc Tryd.prog W 0 (fun _ => true) true n t [v] = some y) : ∃ x : ByteArray, v = .string x ∧ x.size ≤ maxLen := by
  obtain ⟨x, e, _, hw⟩ := DataW.trod_string ht h
  exact ⟨x, List.singleton_inj.1 e, hw⟩

set_option maxRecDepth 100000 in
theorem open_ev {r : Reach} {b0 : Nat} {v : Value} {d : DataW H} {p : List MemPlace} (hv : Value.okWide Tryd.prog W r b0 25 v) (h : DataW.Trod enc Tryd.prog W 0 (fun _ => true) true 25 v d p) {X : Prop} (_hsz : X) :
    ∃ y : Ev, v = y.val ∧ y.ok := by
  obtain ⟨cs, rfl, hsz⟩ := okWide_struct Tryd.underlying25 hv
  obtain ⟨l⟩ := cs
  have hsz' : l.length = 10 := hsz.trans (by kernel_rfl)
  obtain ⟨fuel, hf'⟩ := h
  obtain ⟨xs, n, _, _, _, hxl, hf⟩ := DataW.trod_struct Tryd.underlying25 hf'
  have hc : (Value.agg ⟨l⟩).cells.toList = l := by simp [Value.cells]
  rw [hc] at hf
  obtain ⟨v0, y0, c0, h0⟩ := field_at hxl hf 0 0 _ rfl rfl (by kernel_rfl) (by omega)
  obtain ⟨v1, y1, c1, h1⟩ := field_at hxl hf 1 1 _ rfl rfl (by kernel_rfl) (by omega)
  obtain ⟨v2, y2, c2, h2⟩ := field_at hxl hf 2 2 _ rfl rfl (by kernel_rfl) (by omega)
  obtain ⟨v3, y3, c3, h3⟩ := field_at hxl hf 3 3 _ rfl rfl (by kernel_rfl) (by omega)
  obtain ⟨v4, y4, c4, h4⟩ := field_at hxl hf 4 4 _ rfl rfl (by kernel_rfl) (by omega)
  obtain ⟨v5, y5, c5, h5⟩ := field_at hxl hf 5 5 _ rfl rfl (by kernel_rfl) (by omega)
  obtain ⟨v6, y6, c6, h6⟩ := field_at hxl hf 6 6 _ rfl rfl (by kernel_rfl) (by omega)
  obtain ⟨v7, y7, c7, h7⟩ := field_at hxl hf 7 7 _ rfl rfl (by kernel_rfl) (by omega)
  obtain ⟨v8, y8, c8, h8⟩ := field_at hxl hf 8 8 _ rfl rfl (by kernel_rfl) (by omega)
  obtain ⟨v9, y9, c9, h9⟩ := field_at hxl hf 9 9 _ rfl rfl (by kernel_rfl) (by omega)
  obtain ⟨x0, rfl, b0⟩ := int_at Tryd.underlying23 h0
  obtain ⟨x1, rfl, b1⟩ := int_at Tryd.underlying3 h1
  obtain ⟨x2, rfl, b2⟩ := int_at Tryd.underlying3 h2
  obtain ⟨x3, rfl, b3⟩ := int_at Tryd.underlying3 h3
  obtain ⟨x4, rfl, b4⟩ := int_at Tryd.underlying3 h4
  obtain ⟨x5, rfl, b5⟩ := int_at Tryd.underlying3 h5
  obtain ⟨x6, rfl, b6⟩ := int_at Tryd.underlying3 h6
  obtain ⟨x7, rfl, b7⟩ := str_at Tryd.underlying9 h7
  obtain ⟨x8, rfl, b8⟩ := int_at Tryd.underlying3 h8
  obtain ⟨x9, rfl, b9⟩ := str_at Tryd.underlying9 h9
  match l, hsz' with
  | [z0, z1, z2, z3, z4, z5, z6, z7, z8, z9], _ =>
    simp at c0 c1 c2 c3 c4 c5 c6 c7 c8 c9
    subst c0 c1 c2 c3 c4 c5 c6 c7 c8 c9
    exact ⟨⟨x0, x1, x2, x3, x4, x5, x6, x7, x8, x9⟩, rfl, ⟨b0, b1, b2, b3, b4, b5, b6, b7, b8, b9⟩⟩
end
end Go.Proofs.YtkdpingniohfhaaDoor
