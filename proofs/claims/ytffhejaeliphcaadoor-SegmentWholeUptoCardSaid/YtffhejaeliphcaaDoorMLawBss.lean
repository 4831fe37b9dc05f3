/-
  What the rows' steps of the segment share: an argument that is a slice of slices of bytes. No condition.
-/
import Derived.Test.YtffhejaeliphcaaDoorMLl
import Derived.Test.YtffhejaeliphcaaDoorMGlaid
namespace Go.Proofs.YtffhejaeliphcaaDoor
open Go.ChangeShapes Go.WideShapes Go.ChangeAt Go.RowKit Go.Deep
set_option linter.unusedVariables false

/-- Bodies as an argument of a walk. -/
structure BssArg (W : World) (v : Value) (bs : List Bs) : Prop where
  rd : ∃ a n c, v = .slice a n c ∧ n ≤ 1048576 ∧ BssRd a n c bs W
section
variable {H : Type} {enc : TypeId × Value → H} {W : World} {d : DataW H} {ps : List MemPlace}
set_option maxRecDepth 100000 in
theorem open_bodies {base : Nat} {v : Value} (hv : Value.okWide Tryd.prog W .any base 38 v) (h : DataW.Trod enc Tryd.prog W 0 (fun _ => true) true 38 v d ps) (hk : Rows.uptoBulk d ≤ 1048576) :
    ∃ bs, BssArg W v bs := by
  obtain ⟨a, n, c, rfl⟩ := okWide_slice Tryd.underlying38 hv
  obtain ⟨bs, h1, h2, h3, h4, h5⟩ := open_bss Tryd.underlying38 Tryd.underlying22 Tryd.underlying5 (by kernel_rfl) (by kernel_rfl) h
  have hn : n ≤ 1048576 := by
    clear h5
    rcases h4 with rfl | ⟨el, sp, rfl, h4⟩
    · exact Nat.zero_le _
    · have := bulk_len el; have := bulk_len sp; simp only [Rows.uptoBulk] at hk; omega
  exact ⟨bs, ⟨_, _, _, rfl, hn, h2, h3⟩⟩
end
end Go.Proofs.YtffhejaeliphcaaDoor
