/-
  The walk of the reference's Lay of a segment that is not sealed. Condition: the bodies read as slices of bytes, within what a segment may have.
-/
import Derived.Test.YtffhejaeliphcaaDoorMGlaid
import Derived.Test.YtffhejaeliphcaaDoorMFrenc
namespace Go.Proofs.YtffhejaeliphcaaDoor
open Go.RowKit
set_option linter.unusedVariables false

set_option maxHeartbeats 1600000 in
theorem rlay_any (num first : Nat) (a : Option Addr) (n c : Nat) (bs : List Bs) (w : World) (hf : FewP num first n bs) (r : BssRd a n c bs w) :
    Calls Tryd.prog 22 #[.int .i64 (num : Int), .int .i64 (first : Int), .slice a n c, .int .i64 0] w (GivesB 5 w (segL num first (bs.map Bs.l))) := by
  obtain ⟨n1, n2, f1, f2, hc1, hc2, hbd⟩ := hf
  have hl := r.len
  have m1 := r.1.2.1
  have m2 := r.1.2.2.1
  unfold maxLen at m2
  have HL := Lib.hid hl
  have hh := rheader_any (num : Int) (first : Int) w
  have hP : hdrP (num : Int) (first : Int) = ((hdrFr num first).bytes, 0) := by
    rw [hdrP_yes ((rightB_iff _ _).2 ⟨by omega, by omega, by omega, by omega⟩)]
    rfl
  have hbl := (hdrFr num first).bytes_len
  have htl := twoN_len num first (by omega) (by omega)
  have hseg0 : segL num first [] = (hdrFr num first).bytes := by unfold segL; simp [evsN, layN]
  obtain ⟨H, hH⟩ : ∃ H, (hdrFr num first).bytes = H := ⟨_, rfl⟩
  rw [hP, hH] at hh
  rw [hH] at hbl hseg0
  have hHl : H.length ≤ 40 := by rw [hbl]; show 20 + (twoN num first).length ≤ 40; omega
  unfold GivesE at hh
  simp only at hh
  have HH := Lib.hid hh
  have HS0 := Lib.hid hseg0
  clear hh hP hbl htl hH hl hseg0
  go_enter Tryd.func22, Tryd.ntmps22
  go_wp2_with fail
  (with_reducible refine (HH.out).mono ?_)
  rintro e w1 ⟨ah, ch, rfl, hoh, hb1⟩
  clear HH
  go_wp2_with fail
  go_loopw [9, 24] (fun mv iv wr => ∃ (k N : Nat) (L : List UInt8) (av : Option Addr) (cap : Nat), mv = .slice av N cap ∧ iv = .int .i64 (k : Int) ∧ k ≤ n ∧ N ≤ 40 + k * 16404 ∧
    Hid (L.length = N ∧ segL num first ((bs.take k).map Bs.l) = L) ∧ wr.ownsRow w.heap.size 5 1 (.slice av N cap) N (L.map B) ∧ Below w.heap.size w wr) (fun _ iv _ => n - (intOf iv).toNat)
  case atStart => exact ⟨0, H.length, H, ah, ch, rfl, rfl, Nat.zero_le _, by omega, Lib.hid ⟨rfl, HS0.out⟩, hoh, hb1⟩
  case round =>
    clear hb1 hoh
    obtain ⟨k, N, L, av, cap, rfl, rfl, hk, hN, HK, hrow, hb⟩ := hrel
    by_cases hlt : k < n
    · obtain ⟨b, off, x, rfl, hx, c0, rx⟩ := (r.below hb).at k hlt
      have HX := Lib.hid hx
      have hxb := hbd x (List.mem_of_getElem? hx)
      have hxl : x.l.length = x.n := by simpa using rx.len
      have htk := ls_take hx
      have hxr : encF 1 ((first : Int) + (k : Int)) x.l = (Fr.bytes ⟨1, first + k, x.l⟩, 0) := by
        unfold encF
        rw [if_neg (by omega), if_neg (by omega)]
        unfold Fr.bytes
        simp only
        rw [show ((1 : Int)).toNat = 1 from rfl, show ((first : Int) + (k : Int)).toNat = first + k by omega]
      have hkl : ((bs.take k).map Bs.l).length = k := by rw [List.length_map, List.length_take, HL.out]; omega
      have HN : Hid (segL num first ((bs.take (k + 1)).map Bs.l) = L ++ Fr.bytes ⟨1, first + k, x.l⟩) := Lib.hid (by
        obtain ⟨g1, g2⟩ := HK.out
        rw [htk, segL_snoc, g2, hkl])
      have hmb := (Fr.mk 1 (first + k) x.l).bytes_len
      have hmb2 : (Fr.bytes ⟨1, first + k, x.l⟩).length ≤ 16404 := by rw [hmb]; show 20 + x.l.length ≤ 16404; omega
      have hen := frenc_any 1 ((first : Int) + (k : Int)) x.a x.n x.c x.l wr rx
      rw [hxr] at hen
      obtain ⟨M, hM⟩ : ∃ M, Fr.bytes ⟨1, first + k, x.l⟩ = M := ⟨_, rfl⟩
      rw [hM] at hen HN hmb2
      obtain ⟨mm, hmm⟩ : ∃ mm, M.length = mm := ⟨_, rfl⟩
      unfold GivesE at hen
      simp only at hen
      rw [hmm] at hen hmb2
      have HEN := Lib.hid hen
      have HLN := HK.out.1
      have hby : (N + mm) * 1 ≤ 140737488355328 := by omega
      clear hen hx rx hxl htk hxr hkl hmb hM hxb hbd
      go_wp2_with fail
      (with_reducible refine (HEN.out).mono ?_)
      rintro e w6 ⟨a6, c6, rfl, ho6, hb6⟩
      have hrow6 := own_below hrow hb6
      have hc6 := hb.trans (hb6.mono hb.size)
      have hsrc := own_rowAt ho6
      clear hrow HEN hb6 hb
      go_wp2_with (at_builtin; refine wpList_app rfl _ _ 22 rfl slB rfl hrow6 rfl hsrc (B_one _) hby hc6.size fun a7 c7 w7 hown7 hg7 => ?_; have hc7 := hc6.grown hg7 hc6.size (own_block hrow6))
      go_roundw
      case rel => exact ⟨k + 1, N + mm, L ++ M, a7, c7, rfl, by go_num, by omega, by omega, Lib.hid ⟨by rw [List.length_append, HLN, hmm], HN.out⟩, by rw [List.map_append]; exact hown7, hc7⟩
      case measure => simp [intOf]; omega
    · obtain rfl : k = n := by omega
      have h := HK.out
      rw [List.take_of_length_le (by rw [HL.out]; exact Nat.le_refl _)] at h
      obtain ⟨h1, h2⟩ := h
      go_wp2_with fail
      go_ret
      exact ⟨av, cap, by rw [h2, h1]; rfl, by rw [h2, h1]; exact hrow, hb⟩
end Go.Proofs.YtffhejaeliphcaaDoor
