/-
  The walk of the reference's HeaderOf. Condition: the argument reads as bytes.
  The one answer that the statements of the segment ask first. Condition: the table of nibbles holds what its text lays.
-/
import Derived.Test.YtffhejaeliphcaaDoorMHw
namespace Go.Proofs.YtffhejaeliphcaaDoor
open Go.RowKit
set_option linter.unusedVariables false

set_option maxHeartbeats 3200000 in
theorem rhof_any (a : Option Addr) (n c : Nat) (l : List UInt8) (w : World) (r : RowAt w a n c 1 (l.map B)) :
    Calls Tryd.prog 28 #[.slice a n c] w fun e w' => e = .returned (hdV (hofR l)) ∧ Below w.heap.size w w' := by
  obtain ⟨y, hy⟩ : ∃ y, decF l = y := ⟨_, rfl⟩
  obtain ⟨f, q, er⟩ := y
  obtain ⟨x, hx⟩ : ∃ x, dec f.body = x := ⟨_, rfl⟩
  obtain ⟨u, p, e1⟩ := x
  obtain ⟨z, hz⟩ : ∃ z, dec (f.body.drop p) = z := ⟨_, rfl⟩
  obtain ⟨v, m, e2⟩ := z
  have bu := dec_bd f.body
  have bv := dec_bd (f.body.drop p)
  rw [hx] at bu
  rw [hz] at bv
  simp only at bu bv
  obtain ⟨bu1, bu2, bu3, bu4⟩ := bu
  obtain ⟨bv1, bv2, bv3, bv4⟩ := bv
  have hqn : er = 0 → q ≤ n := fun he => by
    subst he
    have := (decF_one hy).2.2.2.2.2.1
    have e1 : l.length = n := by simpa using r.len
    omega
  have HD := Lib.hid hy
  have HU : Hid (decV f.body = .tuple #[.int .u64 (u : Int), .int .i64 (p : Int), .int .i64 (e1 : Int)]) := Lib.hid (by unfold decV; rw [hx])
  have HV : Hid (decV (f.body.drop p) = .tuple #[.int .u64 (v : Int), .int .i64 (m : Int), .int .i64 (e2 : Int)]) := Lib.hid (by unfold decV; rw [hz])
  have HG : Hid (hofR l = if er ≠ 0 ∨ f.kind ≠ 2 then hdBad else if e1 ≠ 0 then hdBad else if e2 ≠ 0 ∨ 999999 < u ∨ 2199023255552 < v then hdBad
    else if (hdrP (u : Int) (v : Int)).2 ≠ 0 ∨ (hdrP (u : Int) (v : Int)).1 ≠ l.take q then hdBad else (u, v, q, 0)) := Lib.hid (by unfold hofR; rw [HD.out]; simp only; rw [hx]; simp only; rw [hz])
  clear hy hx hz
  go_enter Tryd.func28, Tryd.ntmps28
  go_wp2_with fail
  (with_reducible refine (frdec_any _ _ _ l _ r).mono ?_)
  rintro e w1 ⟨a1, c1, rfl, ho1, hb1⟩
  rw [HD.out] at ho1 ⊢
  simp only at ho1 ⊢
  have hbm := below_made w1 (.cells #[.int .i64 (f.kind : Int), .int .i64 (f.seq : Int), .slice a1 f.body.length c1] 53)
  have hm := heap_alloc_new w1 (.cells #[.int .i64 (f.kind : Int), .int .i64 (f.seq : Int), .slice a1 f.body.length c1] 53)
  have q1 := (own_rowAt ho1).below hbm
  have hb2 := below_next hb1 hbm
  have r2 := r.below hb2
  clear hb1 ho1 hbm
  obtain ⟨bl, hbl'⟩ : ∃ bl, f.body.length = bl := ⟨_, rfl⟩
  rw [hbl'] at hm q1 hb2 r2 bu3 ⊢
  clear hbl'
  obtain ⟨kind, seq, body⟩ := f
  simp only at hm q1 hb2 r2 HG HU HV bv3 ⊢
  obtain ⟨c0, c1', c2, _, _, _⟩ := laid3 hm
  by_cases he : er = 0
  · subst he
    have hqn2 := hqn rfl
    have hqc : q ≤ c := Nat.le_trans hqn2 r.2.1
    clear hqn
    by_cases hk : kind = 2
    · have hk' : ((kind : Int) != 2) = false := by rw [hk]; rfl
      have HK := Lib.hid hk
      clear hk
      by_cases he1 : e1 = 0
      · subst he1
        have HG2 : Hid (hofR l = if e2 ≠ 0 ∨ 999999 < u ∨ 2199023255552 < v then hdBad
          else if (hdrP (u : Int) (v : Int)).2 ≠ 0 ∨ (hdrP (u : Int) (v : Int)).1 ≠ l.take q then hdBad else (u, v, q, 0)) := Lib.hid (by rw [HG.out, if_neg (by simp [HK.out]), if_neg (by simp)])
        clear HG
        obtain ⟨a', hcut, r3⟩ := cut_from slB q1 p (by omega)
        rw [Nat.mul_one, ← List.map_drop] at r3
        go_wp2_with fail
        (with_reducible refine (rdec_any _ _ _ body _ q1).mono ?_)
        rintro e w2 ⟨rfl, rfl⟩
        rw [HU.out]
        go_wp2_with fail
        (with_reducible refine (rdec_any _ _ _ (body.drop p) _ r3).mono ?_)
        rintro e w2 ⟨rfl, rfl⟩
        rw [HV.out]
        by_cases hbad : e2 ≠ 0 ∨ 999999 < u ∨ 2199023255552 < v
        · have HQ : Hid (hofR l = hdBad) := Lib.hid (by rw [HG2.out, if_pos hbad])
          clear HG2
          by_cases d1 : e2 = 0
          · subst d1
            by_cases d2 : 999999 < u
            · clear hbad
              go_wp2_with fail
              exact bodyPost_ret (v := hdV (hofR l)) (by rw [HQ.out]; simp [hdV, hdBad, results, Tryd.results28, go_sem]) rfl ⟨rfl, hb2⟩
            · have d3 : 2199023255552 < v := by omega
              clear hbad
              go_wp2_with fail
              exact bodyPost_ret (v := hdV (hofR l)) (by rw [HQ.out]; simp [hdV, hdBad, results, Tryd.results28, go_sem]) rfl ⟨rfl, hb2⟩
          · have d1' : ((e2 : Int) != 0) = true := by rw [bne_iff_ne]; omega
            clear hbad d1
            go_wp2_with fail
            exact bodyPost_ret (v := hdV (hofR l)) (by rw [HQ.out]; simp [hdV, hdBad, results, Tryd.results28, go_sem]) rfl ⟨rfl, hb2⟩
        · have d1 : e2 = 0 := by omega
          subst d1
          have d2 : ¬ 999999 < u := by omega
          have d3 : ¬ 2199023255552 < v := by omega
          obtain ⟨h, hh⟩ : ∃ h, hdrP (u : Int) (v : Int) = h := ⟨_, rfl⟩
          obtain ⟨hl, he'⟩ := h
          have HP := Lib.hid hh
          have HG3 : Hid (hofR l = if he' ≠ 0 ∨ hl ≠ l.take q then hdBad else (u, v, q, 0)) := Lib.hid (by rw [HG2.out, if_neg hbad, hh])
          clear HG2 hbad hh
          have r4 := rowB_upto r2 hqn2
          go_wp2_with fail
          (with_reducible refine (rheader_any _ _ _).mono ?_)
          rintro e w3 ⟨a5, c5, rfl, ho5, hb5⟩
          rw [HP.out] at ho5 ⊢
          simp only at ho5 ⊢
          have r5 := r4.below hb5
          have q5 := own_rowAt ho5
          have hb6 := below_next hb2 hb5
          by_cases d4 : he' = 0
          · subst d4
            cases hsm : (hl == l.take q) with
            | true =>
              have hs2 : hl = l.take q := by simpa using hsm
              have HQ : Hid (hofR l = (u, v, q, 0)) := Lib.hid (by rw [HG3.out, if_neg (by simp [hs2])])
              have HS := Lib.hid hsm
              clear hsm hs2 HG3
              go_wp2_with fail
              (with_reducible refine (same_any _ _ _ hl _ _ _ (l.take q) _ q5 r5).mono ?_)
              rintro e w4 ⟨rfl, hst⟩
              rw [HS.out]
              go_wp2_with fail
              exact bodyPost_ret (v := hdV (hofR l)) (by rw [HQ.out]; simp [hdV, results, Tryd.results28, go_sem]) rfl ⟨rfl, below_still hb6 hst⟩
            | false =>
              have hs2 : hl ≠ l.take q := by simpa using hsm
              have HQ : Hid (hofR l = hdBad) := Lib.hid (by rw [HG3.out, if_pos (.inr hs2)])
              have HS := Lib.hid hsm
              clear hsm hs2 HG3
              go_wp2_with fail
              (with_reducible refine (same_any _ _ _ hl _ _ _ (l.take q) _ q5 r5).mono ?_)
              rintro e w4 ⟨rfl, hst⟩
              rw [HS.out]
              go_wp2_with fail
              exact bodyPost_ret (v := hdV (hofR l)) (by rw [HQ.out]; simp [hdV, hdBad, results, Tryd.results28, go_sem]) rfl ⟨rfl, below_still hb6 hst⟩
          · have d4' : ((he' : Int) != 0) = true := by rw [bne_iff_ne]; omega
            have HQ : Hid (hofR l = hdBad) := Lib.hid (by rw [HG3.out, if_pos (.inl d4)])
            clear d4 HG3
            go_wp2_with fail
            exact bodyPost_ret (v := hdV (hofR l)) (by rw [HQ.out]; simp [hdV, hdBad, results, Tryd.results28, go_sem]) rfl ⟨rfl, hb6⟩
      · have he1' : ((e1 : Int) != 0) = true := by rw [bne_iff_ne]; omega
        have HQ : Hid (hofR l = hdBad) := Lib.hid (by rw [HG.out, if_neg (by simp [HK.out]), if_pos he1])
        clear he1 HG
        go_wp2_with fail
        (with_reducible refine (rdec_any _ _ _ body _ q1).mono ?_)
        rintro e w2 ⟨rfl, rfl⟩
        rw [HU.out]
        go_wp2_with fail
        exact bodyPost_ret (v := hdV (hofR l)) (by rw [HQ.out]; simp [hdV, hdBad, results, Tryd.results28, go_sem]) rfl ⟨rfl, hb2⟩
    · have hk' : ((kind : Int) != 2) = true := by rw [bne_iff_ne]; omega
      have HQ : Hid (hofR l = hdBad) := Lib.hid (by rw [HG.out, if_pos (.inr hk)])
      clear hk HG
      go_wp2_with fail
      exact bodyPost_ret (v := hdV (hofR l)) (by rw [HQ.out]; simp [hdV, hdBad, results, Tryd.results28, go_sem]) rfl ⟨rfl, hb2⟩
  · have he' : ((er : Int) != 0) = true := by rw [bne_iff_ne]; omega
    have HQ : Hid (hofR l = hdBad) := Lib.hid (by rw [HG.out, if_pos (.inl he)])
    clear he HG
    go_wp2_with fail
    exact bodyPost_ret (v := hdV (hofR l)) (by rw [HQ.out]; simp [hdV, hdBad, results, Tryd.results28, go_sem]) rfl ⟨rfl, hb2⟩
end Go.Proofs.YtffhejaeliphcaaDoor

namespace Go.Proofs.YtffhejaeliphcaaDoor
open Go.RowKit
set_option linter.unusedVariables false

theorem hh_two : twoN 1 1 = [1, 1] := by unfold twoN; rw [enc_lt (by decide)]; rfl
theorem hh_hdr : hdrP 1 1 = (frameF 2 1 [1, 1], 0) := by
  have h : rightB 1 1 = true := by decide
  rw [hdrP_yes h]
  show (frameF 2 1 (twoN 1 1), 0) = _
  rw [hh_two]
theorem hh_len : (frameF 2 1 [1, 1]).length = 22 := frameF_len _ _ _
theorem hh_of : hofG (frameF 2 1 [1, 1]) = (1, 1, 22, 0) := by
  have := decF_laid (kind := 2) (seq := 1) (body := [1, 1]) (by decide) (by decide) (by decide) (by decide) []
  rw [List.append_nil] at this
  unfold hofG
  rw [this]
  decide

set_option maxHeartbeats 800000 in
theorem hhead_any (w : World) (ht : Tab w) : Calls Tryd.prog 9 #[] w fun e w' => e = .returned (.bool true) ∧ Below w.heap.size w w' := by
  have HE := Lib.hid hh_hdr
  have HD := Lib.hid hh_of
  have HN := Lib.hid hh_len
  obtain ⟨D, hD⟩ : ∃ D, frameF 2 1 [1, 1] = D := ⟨_, rfl⟩
  rw [hD] at HE HD HN
  clear hD
  go_enter Tryd.func9, Tryd.ntmps9
  go_wp2_with fail
  (with_reducible refine (header_any 1 1 _ ht).mono ?_)
  rintro e w1 ⟨a1, c1, rfl, ho1, hb1⟩
  rw [HE.out] at ho1 ⊢
  simp only at ho1 ⊢
  rw [HN.out] at ho1 ⊢
  have t1 := ht.below hb1
  have r1 := own_rowAt ho1
  clear ho1
  go_wp2_with fail
  (with_reducible refine (hof_any _ _ _ D _ r1 t1).mono ?_)
  rintro e w2 ⟨rfl, hb2⟩
  have HV : Hid (hdV (hofG D) = .tuple #[.int .i64 1, .int .i64 1, .int .i64 22, .int .i64 0]) := Lib.hid (by rw [HD.out]; rfl)
  rw [HV.out]
  go_wp2_with fail
  go_ret
  exact ⟨rfl, below_next hb1 hb2⟩
end Go.Proofs.YtffhejaeliphcaaDoor
