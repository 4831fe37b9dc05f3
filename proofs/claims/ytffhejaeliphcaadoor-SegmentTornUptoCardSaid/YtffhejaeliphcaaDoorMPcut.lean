/-
  Laid frames that are cut, as data. No condition.
-/
import Derived.Test.YtffhejaeliphcaaDoorMPjoin
namespace Go.Proofs.YtffhejaeliphcaaDoor
open Go.RowKit
set_option linter.unusedVariables false

theorem lay_at {gs : List Fr} {k : Nat} (h : k < gs.length) : layN gs = layN (gs.take k) ++ (gs[k].bytes ++ layN (gs.drop (k + 1))) := by
  have e : gs = gs.take k ++ (gs[k] :: gs.drop (k + 1)) := by rw [← List.drop_eq_getElem_cons h, List.take_append_drop]
  have h2 : layN gs = layN (gs.take k ++ (gs[k] :: gs.drop (k + 1))) := congrArg layN e
  rw [h2, layN_app]
  congr 1
theorem lay_take {gs : List Fr} {k : Nat} (h : k < gs.length) : layN (gs.take (k + 1)) = layN (gs.take k) ++ gs[k].bytes := by
  rw [List.take_add_one, List.getElem?_eq_getElem h]
  exact layN_snoc _ _
theorem torn_scan {gs : List Fr} (h : ∀ g ∈ gs, g.right) {k C : Nat} (hk : k ≤ gs.length) (h1 : (layN (gs.take k)).length ≤ C) (hC : C ≤ (layN gs).length) (h2 : k < gs.length → C < (layN (gs.take (k + 1))).length) :
    scanF ((layN gs).take C) = (pcsN 0 (gs.take k), (layN (gs.take k)).length, if C = (layN (gs.take k)).length then 0 else 60) := by
  have ht : ∀ g ∈ gs.take k, g.right := fun g hg => h g (List.mem_of_mem_take hg)
  by_cases hkl : k < gs.length
  · have h3 := h2 hkl
    rw [lay_take hkl, List.length_append, Fr.bytes_len] at h3
    rw [lay_at hkl]
    by_cases he : C = (layN (gs.take k)).length
    · rw [if_pos he, he]
      exact scanF_whole ht _
    · rw [if_neg he]
      have := scanF_torn (j := C - (layN (gs.take k)).length) ht (h gs[k] (List.getElem_mem _)) (by omega) (by omega) (layN (gs.drop (k + 1)))
      rwa [show (layN (gs.take k)).length + (C - (layN (gs.take k)).length) = C by omega] at this
  · have e : gs.take k = gs := List.take_of_length_le (by omega)
    rw [e] at h1 ⊢
    obtain rfl : C = (layN gs).length := by omega
    rw [if_pos rfl]
    have := scanF_whole h []
    rwa [List.append_nil] at this
theorem scan_laid {gs : List Fr} (h : ∀ g ∈ gs, g.right) : scanF (layN gs) = (pcsN 0 gs, (layN gs).length, 0) := by
  have := scanF_lay h []
  rw [List.append_nil, scanF_nil] at this
  rw [this]; simp
theorem layN_take_le (gs : List Fr) (k : Nat) : (layN (gs.take k)).length ≤ (layN gs).length := by
  have h : layN gs = layN (gs.take k) ++ layN (gs.drop k) := by rw [← layN_app, List.take_append_drop]
  rw [h, List.length_append]; omega
theorem layN_len_le {gs : List Fr} (h : ∀ g ∈ gs, g.right) : (layN gs).length ≤ gs.length * 16404 := by
  induction gs with
  | nil => simp [layN]
  | cons g r ih =>
    have h1 := ih (fun x hx => h x (List.mem_cons_of_mem _ hx))
    have h2 := (h g (List.mem_cons_self ..)).2.2.1
    unfold layN at h1 ⊢
    rw [List.flatMap_cons, List.length_append, g.bytes_len, List.length_cons]
    omega
end Go.Proofs.YtffhejaeliphcaaDoor
