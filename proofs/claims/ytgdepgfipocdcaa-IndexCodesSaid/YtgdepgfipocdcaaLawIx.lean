/-
  What the rows' steps of the index share: an argument that is a slice of marks or of placed frames, read as a list. No condition.
-/
import Derived.Test.YtgdepgfipocdcaaLawDeep
import Derived.Test.YtgdepgfipocdcaaIbuild
namespace Go.Proofs.Ytgdepgfipocdcaa
open Go.ChangeShapes Go.WideShapes Go.ChangeAt Go.RowKit Go.Deep
set_option linter.unusedVariables false

section
variable {H : Type} {enc : TypeId × Value → H} {W : World} {a : Option Addr} {n c : Nat} {d : DataW H} {ps : List MemPlace}

theorem field_at {cs : List Value} {fs : Array Field} {n : Nat} {xs : List (DataW H × List MemPlace)} (hx : xs.length = fs.size)
    (hf : ∀ (i : Nat) (f : Field), fs[i]? = some f → DataW.trod enc Try.prog W 0 (fun _ => true) true n f.type ((cs.drop f.offset).take (Try.prog.cellsOf f.type)) = xs[i]?) (i o : Nat) (f : Field) (hi : fs[i]? = some f)
    (ho : f.offset = o) (hk : Try.prog.cellsOf f.type = 1) (hc : o < cs.length) :
    ∃ v y, cs[o]? = some v ∧ DataW.trod enc Try.prog W 0 (fun _ => true) true n f.type [v] = some y := by
  have hil : i < fs.size := (Array.getElem?_eq_some_iff.1 hi).1
  have h1 := hf i f hi
  rw [ho, hk, List.drop_eq_getElem_cons hc, List.getElem?_eq_getElem (by omega : i < xs.length)] at h1
  exact ⟨_, _, List.getElem?_eq_getElem hc, h1⟩

theorem open_mk (m : Nat) (cs : List Value) (y : DataW H × List MemPlace) (h : DataW.trod enc Try.prog W 0 (fun _ => true) true m 31 cs = some y) : ∃ x : Mk, cs = x.cells ∧ True ∧ 0 ≤ Rows.uptoBulk y.1 := by
  obtain ⟨xs, n, _, _, hlen, hxl, hf⟩ := DataW.trod_struct Try.underlying31 h
  rw [show Try.prog.cellsOf 31 = 2 by kernel_rfl] at hlen
  obtain ⟨v0, y0, c0, h0⟩ := field_at hxl hf 0 0 _ rfl rfl (by kernel_rfl) (by omega)
  obtain ⟨v1, y1, c1, h1⟩ := field_at hxl hf 1 1 _ rfl rfl (by kernel_rfl) (by omega)
  obtain ⟨s, e0, _, _⟩ := DataW.trod_int Try.underlying3 h0
  obtain ⟨t, e1, _, _⟩ := DataW.trod_int Try.underlying3 h1
  obtain rfl := List.singleton_inj.1 e0
  obtain rfl := List.singleton_inj.1 e1
  match cs, hlen with
  | [x0, x1], _ =>
    simp at c0 c1
    subst c0 c1
    exact ⟨⟨s, t⟩, rfl, trivial, Nat.zero_le _⟩

theorem open_pl (m : Nat) (cs : List Value) (y : DataW H × List MemPlace) (h : DataW.trod enc Try.prog W 0 (fun _ => true) true m 43 cs = some y) : ∃ x : Pl, cs = x.cells ∧ True ∧ 0 ≤ Rows.uptoBulk y.1 := by
  obtain ⟨xs, n, _, _, hlen, hxl, hf⟩ := DataW.trod_struct Try.underlying43 h
  rw [show Try.prog.cellsOf 43 = 5 by kernel_rfl] at hlen
  obtain ⟨v0, y0, c0, h0⟩ := field_at hxl hf 0 0 _ rfl rfl (by kernel_rfl) (by omega)
  obtain ⟨v1, y1, c1, h1⟩ := field_at hxl hf 1 1 _ rfl rfl (by kernel_rfl) (by omega)
  have hF : DataW.trod enc Try.prog W 0 (fun _ => true) true n 41 ((cs.drop 2).take (Try.prog.cellsOf 41)) = xs[2]? := hf 2 _ rfl
  rw [show Try.prog.cellsOf 41 = 3 by kernel_rfl] at hF
  have hx3 : xs.length = 3 := hxl
  rw [List.getElem?_eq_getElem (by omega : 2 < xs.length)] at hF
  obtain ⟨zs, n', _, _, hlen', hzl, hg⟩ := DataW.trod_struct Try.underlying41 hF
  rw [show Try.prog.cellsOf 41 = 3 by kernel_rfl] at hlen'
  obtain ⟨v2, y2, c2, h2⟩ := field_at hzl hg 0 0 _ rfl rfl (by kernel_rfl) (by omega)
  obtain ⟨v3, y3, c3, h3⟩ := field_at hzl hg 1 1 _ rfl rfl (by kernel_rfl) (by omega)
  obtain ⟨v4, y4, c4, h4⟩ := field_at hzl hg 2 2 _ rfl rfl (by kernel_rfl) (by omega)
  obtain ⟨s0, e0, _, _⟩ := DataW.trod_int Try.underlying3 h0
  obtain ⟨s1, e1, _, _⟩ := DataW.trod_int Try.underlying3 h1
  obtain ⟨s2, e2, _, _⟩ := DataW.trod_int Try.underlying3 h2
  obtain ⟨s3, e3, _, _⟩ := DataW.trod_int Try.underlying3 h3
  obtain rfl := List.singleton_inj.1 e0
  obtain rfl := List.singleton_inj.1 e1
  obtain rfl := List.singleton_inj.1 e2
  obtain rfl := List.singleton_inj.1 e3
  have hb : ∃ a n c, v4 = .slice a n c := by
    rcases DataW.trod_slice Try.underlying39 h4 with ⟨e4, _⟩ | ⟨a, l, c, _, _, _, _, e4, _⟩
    · exact ⟨_, _, _, List.singleton_inj.1 e4⟩
    · exact ⟨_, _, _, List.singleton_inj.1 e4⟩
  obtain ⟨ba, bn, bc, rfl⟩ := hb
  match cs, hlen with
  | [x0, x1, x2, x3, x4], _ =>
    simp at c0 c1 c2 c3 c4
    subst c0 c1 c2 c3 c4
    exact ⟨⟨s0, s1, s2, s3, ba, bn, bc⟩, rfl, trivial, Nat.zero_le _⟩

theorem open_pls (h : DataW.Trod enc Try.prog W 0 (fun _ => true) true 36 (.slice a n c) d ps) : ∃ xs : List Pl, xs.length = n ∧ RowAt W a n c 5 (xs.flatMap Pl.cells) ∧ Dt d n := by
  obtain ⟨xs, h1, h2, _, h3, _⟩ := open_elems (k := 5) Pl.cells (fun _ => True) (fun _ => 0) Try.underlying36 (by kernel_rfl) (by decide) (fun _ => rfl) (fun m cs y h => open_pl m cs y h) h
  exact ⟨xs, h1, h2, h3⟩

theorem open_marks (h : DataW.Trod enc Try.prog W 0 (fun _ => true) true 26 (.slice a n c) d ps) : ∃ xs : List Mk, xs.length = n ∧ RowAt W a n c 2 (xs.flatMap Mk.cells) ∧ Dt d n := by
  obtain ⟨xs, h1, h2, _, h3, _⟩ := open_elems (k := 2) Mk.cells (fun _ => True) (fun _ => 0) Try.underlying26 (by kernel_rfl) (by decide) (fun _ => rfl) (fun m cs y h => open_mk m cs y h) h
  exact ⟨xs, h1, h2, h3⟩
end
end Go.Proofs.Ytgdepgfipocdcaa
