/-
  Laid frames that are cut, and the frames found in them against the frames that were laid, as data. No condition.
-/
import Derived.Test.YtkaaabnahpmobaaDoorPlaid
import Derived.Test.YtkaaabnahpmobaaDoorFsame
import Derived.Test.YtkaaabnahpmobaaDoorProw
namespace Go.Proofs.YtkaaabnahpmobaaDoor
open Go.RowKit
set_option linter.unusedVariables false

theorem lay_at {gs : List Fr} {k : Nat} (h : k < gs.length) : layN gs = layN (gs.take k) ++ (gs[k].bytes ++ layN (gs.drop (k + 1))) := by
  have e : gs = gs.take k ++ (gs[k] :: gs.drop (k + 1)) := by rw [← List.drop_eq_getElem_cons h, List.take_append_drop]
  have h2 : layN gs = layN (gs.take k ++ (gs[k] :: gs.drop (k + 1))) := congrArg layN e
  rw [h2, layN_app]
  congr 1
theorem lay_take {gs : List Fr} {k : Nat} (h : k < gs.length) : layN (gs.take (k + 1)) = layN (gs.take k) ++ gs[k].bytes := by
  rw [List.take_add_one, List.getElem?_eq_getElem h]
  exact layN_snoc _ _
theorem torn_scan {gs : List Fr} (h : ∀ g ∈ gs, g.right) {k C : Nat} (hk : k ≤ gs.length) (h1 : (layN (gs.take k)).length ≤ C) (hC : C ≤ (layN gs).length) (h2 : k < gs.length → C < (layN (gs.take (k + 1))).length) :
    scanF ((layN gs).take C) = (pcsN 0 (gs.take k), (layN (gs.take k)).length, if C = (layN (gs.take k)).length then 0 else 60) := by
  have ht : ∀ g ∈ gs.take k, g.right := fun g hg => h g (List.mem_of_mem_take hg)
  by_cases hkl : k < gs.length
  · have h3 := h2 hkl
    rw [lay_take hkl, List.length_append, Fr.bytes_len] at h3
    rw [lay_at hkl]
    by_cases he : C = (layN (gs.take k)).length
    · rw [if_pos he, he]
      exact scanF_whole ht _
    · rw [if_neg he]
      have := scanF_torn (j := C - (layN (gs.take k)).length) ht (h gs[k] (List.getElem_mem _)) (by omega) (by omega) (layN (gs.drop (k + 1)))
      rwa [show (layN (gs.take k)).length + (C - (layN (gs.take k)).length) = C by omega] at this
  · have e : gs.take k = gs := List.take_of_length_le (by omega)
    rw [e] at h1 ⊢
    obtain rfl : C = (layN gs).length := by omega
    rw [if_pos rfl]
    have := scanF_whole h []
    rwa [List.append_nil] at this
theorem scan_laid {gs : List Fr} (h : ∀ g ∈ gs, g.right) : scanF (layN gs) = (pcsN 0 gs, (layN gs).length, 0) := by
  have := scanF_lay h []
  rw [List.append_nil, scanF_nil] at this
  rw [this]; simp
/-- A frame that was found is the one that was laid. -/
theorem fr_same {xs : List It} {fs : List FI} {k i : Nat} {x : It} {y : FI} (hxq : xs.map It.q = pcsN 0 ((fs.map FI.fr).take k)) (hi : i < k) (hx : xs[i]? = some x) (hy : fs[i]? = some y) (hok : y.ok) :
    frEq (x.q.f.kind : Int) (x.q.f.seq : Int) x.q.f.body y.kind y.seq y.body = true := by
  have h1 : ((xs.map It.q).map Pc.f)[i]? = ((fs.map FI.fr).take k)[i]? := by rw [hxq, pcsN_f]
  rw [List.getElem?_map, List.getElem?_map, hx, List.getElem?_take, if_pos hi, List.getElem?_map, hy] at h1
  have h2 : x.q.f = y.fr := Option.some.inj h1
  obtain ⟨-, h3, h4⟩ := hok
  rw [h2, ← h3, ← h4]
  exact frEq_refl _ _ _
theorem endsN_get {gs : List Fr} {k E : Nat} (h : (endsN gs)[k]? = some E) : E = (layN (gs.take (k + 1))).length := by
  have hl : k < gs.length := by have := (List.getElem?_eq_some_iff.1 h).1; rwa [endsN_len] at this
  rw [endsN_at hl] at h
  exact (Option.some.inj h).symm
theorem layN_take_le (gs : List Fr) (k : Nat) : (layN (gs.take k)).length ≤ (layN gs).length := by
  have h : layN gs = layN (gs.take k) ++ layN (gs.drop k) := by rw [← layN_app, List.take_append_drop]
  rw [h, List.length_append]; omega
end Go.Proofs.YtkaaabnahpmobaaDoor
