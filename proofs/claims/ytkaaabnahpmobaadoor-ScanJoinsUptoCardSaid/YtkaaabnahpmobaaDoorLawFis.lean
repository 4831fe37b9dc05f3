/-
  What the rows' steps of the scan share: an argument that is a slice of frames, read as a list of frames with their bytes. No condition.
-/
import Derived.Test.YtkaaabnahpmobaaDoorLawDeep
import Derived.Test.YtkaaabnahpmobaaDoorPlay
namespace Go.Proofs.YtkaaabnahpmobaaDoor
open Go.ChangeShapes Go.WideShapes Go.ChangeAt Go.RowKit Go.Deep
set_option linter.unusedVariables false

instance : Inhabited FI := ⟨⟨0, 0, none, 0, []⟩⟩
section
variable {H : Type} {enc : TypeId × Value → H} {W : World} {a : Option Addr} {n c : Nat} {d : DataW H} {ps : List MemPlace}

theorem fi_field {cs : List Value} {fs : Array Field} {n : Nat} {xs : List (DataW H × List MemPlace)} (hx : xs.length = fs.size)
    (hf : ∀ (i : Nat) (f : Field), fs[i]? = some f → DataW.trod enc Tryd.prog W 0 (fun _ => true) true n f.type ((cs.drop f.offset).take (Tryd.prog.cellsOf f.type)) = xs[i]?) (i o : Nat) (f : Field) (hi : fs[i]? = some f)
    (ho : f.offset = o) (hk : Tryd.prog.cellsOf f.type = 1) (hc : o < cs.length) :
    ∃ v y, cs[o]? = some v ∧ xs[i]? = some y ∧ DataW.trod enc Tryd.prog W 0 (fun _ => true) true n f.type [v] = some y := by
  have hil : i < fs.size := (Array.getElem?_eq_some_iff.1 hi).1
  have h1 := hf i f hi
  rw [ho, hk, List.drop_eq_getElem_cons hc, List.getElem?_eq_getElem (by omega : i < xs.length)] at h1
  exact ⟨_, _, List.getElem?_eq_getElem hc, List.getElem?_eq_getElem (by omega : i < xs.length), h1⟩

theorem open_fi (m : Nat) (cs : List Value) (y : DataW H × List MemPlace) (h : DataW.trod enc Tryd.prog W 0 (fun _ => true) true m 34 cs = some y) :
    ∃ x : FI, cs = x.cells ∧ RowAt W x.a x.body.length x.c 1 (x.body.map B) ∧ x.body.length ≤ Rows.uptoBulk y.1 := by
  obtain ⟨xs, n, _, hy, hlen, hxl, hf⟩ := DataW.trod_struct Tryd.underlying34 h
  rw [show Tryd.prog.cellsOf 34 = 3 by kernel_rfl] at hlen
  obtain ⟨v0, y0, c0, _, h0⟩ := fi_field hxl hf 0 0 _ rfl rfl (by kernel_rfl) (by omega)
  obtain ⟨v1, y1, c1, _, h1⟩ := fi_field hxl hf 1 1 _ rfl rfl (by kernel_rfl) (by omega)
  obtain ⟨v2, y2, c2, g2, h2⟩ := fi_field hxl hf 2 2 _ rfl rfl (by kernel_rfl) (by omega)
  obtain ⟨s0, e0, _, _⟩ := DataW.trod_int Tryd.underlying3 h0
  obtain ⟨s1, e1, _, _⟩ := DataW.trod_int Tryd.underlying3 h1
  obtain rfl := List.singleton_inj.1 e0
  obtain rfl := List.singleton_inj.1 e1
  have hb : ∃ a n c, v2 = .slice a n c := by
    rcases DataW.trod_slice Tryd.underlying22 h2 with ⟨e2, _⟩ | ⟨a, l, c, _, _, _, _, e2, _⟩
    · exact ⟨_, _, _, List.singleton_inj.1 e2⟩
    · exact ⟨_, _, _, List.singleton_inj.1 e2⟩
  obtain ⟨ba, bn, bc, rfl⟩ := hb
  obtain ⟨l, hl, hr, hd⟩ := open_bytes (d := y2.1) (ps := y2.2) Tryd.underlying22 Tryd.underlying5 (by kernel_rfl) ⟨n, by simpa [Value.cells] using h2⟩
  subst hl
  match cs, hlen with
  | [x0, x1, x2], _ =>
    simp at c0 c1 c2
    subst c0 c1 c2
    refine ⟨⟨s0, s1, ba, bc, l⟩, rfl, hr, ?_⟩
    have hp : y2.1 ∈ xs.map (·.1) := List.mem_map_of_mem (List.mem_of_getElem? g2)
    have h3 := bulk_part hp
    have h4 : l.length ≤ Rows.uptoBulk y2.1 := by
      rcases hd with hd | ⟨el, sp, hd, h4⟩
      · omega
      · rw [hd]; have := bulk_len el; have := bulk_len sp; simp only [Rows.uptoBulk]; omega
    rw [hy]
    show l.length ≤ Rows.uptoBulkAll (xs.map (·.1)) + 1
    omega

theorem open_fis (h : DataW.Trod enc Tryd.prog W 0 (fun _ => true) true 46 (.slice a n c) d ps) : ∃ xs : List FI, FisRd a n c xs W ∧ Dt d n ∧ (xs.map fun x => x.body.length).sum ≤ Rows.uptoBulk d := by
  obtain ⟨xs, h1, h2, h3, h4, h5⟩ := open_elems (k := 3) FI.cells (fun x => RowAt W x.a x.body.length x.c 1 (x.body.map B)) (fun x => x.body.length) Tryd.underlying46 (by kernel_rfl) (by decide) (fun _ => rfl) (fun m cs y h => open_fi m cs y h) h
  exact ⟨xs, ⟨h2, h3⟩, h4, h5⟩

/-- Frames as an argument of a walk. -/
structure FisArg (W : World) (v : Value) (fs : List FI) : Prop where
  rd : ∃ a n c, v = .slice a n c ∧ n ≤ 1048576 ∧ FisRd a n c fs W
  bound : ∀ x ∈ fs, x.body.length ≤ 1048576
  all : (fs.map fun x => x.body.length).sum ≤ 1048576
theorem mem_sum {α : Type} (f : α → Nat) : ∀ (xs : List α) (x : α), x ∈ xs → f x ≤ (xs.map f).sum
  | y :: l, x, h => by
    rw [List.map_cons, List.sum_cons]
    rcases List.mem_cons.1 h with rfl | h
    · omega
    · have := mem_sum f l x h; omega
theorem open_frames {base : Nat} {v : Value} (hv : Value.okWide Tryd.prog W .any base 46 v) (h : DataW.Trod enc Tryd.prog W 0 (fun _ => true) true 46 v d ps) (hk : Rows.uptoBulk d ≤ 1048576) :
    ∃ fs, FisArg W v fs := by
  obtain ⟨a, n, c, rfl⟩ := okWide_slice Tryd.underlying46 hv
  obtain ⟨fs, h1, h2, h3⟩ := open_fis h
  have hn : n ≤ 1048576 := by
    rcases h2 with rfl | ⟨el, sp, rfl, h4⟩
    · omega
    · have := bulk_len el; have := bulk_len sp; simp only [Rows.uptoBulk] at hk; omega
  exact ⟨fs, ⟨_, _, _, rfl, hn, h1⟩, fun x hx => by have := mem_sum (fun x : FI => x.body.length) fs x hx; omega, by omega⟩
end
end Go.Proofs.YtkaaabnahpmobaaDoor
