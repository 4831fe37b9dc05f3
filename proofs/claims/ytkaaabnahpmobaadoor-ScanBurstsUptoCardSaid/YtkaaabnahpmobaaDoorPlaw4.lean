/-
  The walk of ScanBursts. Conditions: the frames read as frames, within the statement's own bound; the program's table of nibbles holds what its text lays.
-/
import Derived.Test.YtkaaabnahpmobaaDoorPhead
import Derived.Test.YtkaaabnahpmobaaDoorPtorn
import Derived.Test.YtkaaabnahpmobaaDoorLawFis
import Derived.Test.YtkaaabnahpmobaaDoorCturnw
import Derived.Deep.DeepCutAuto
import Derived.Deep.CutBlock
namespace Go.Proofs.YtkaaabnahpmobaaDoor
open Go.RowKit
set_option linter.unusedVariables false

theorem burst_scan {gs : List Fr} (h : ∀ g ∈ gs, g.right) {k t p : Nat} (hk : k < gs.length) (hp : p < 4294967296) (ht : t ≤ 8 * gs[k].bytes.length) (hne : turn gs[k].bytes t p 32 ≠ gs[k].bytes) :
    ∃ e, (e = 61 ∨ e = 62) ∧ scanF (layN (gs.take k) ++ (turn gs[k].bytes t p 32 ++ layN (gs.drop (k + 1)))) = (pcsN 0 (gs.take k), (layN (gs.take k)).length, e) := by
  obtain ⟨q, hq, hn⟩ := turn_is gs[k].bytes t p ht hp
  exact scanF_turned (fun g hg => h g (List.mem_of_mem_take hg)) (h _ (List.getElem_mem _)) hq (turn_length _ _ _ _) ht hn hne

set_option maxRecDepth 8000 in
set_option maxHeartbeats 6400000 in
theorem bursts_walk (v : Value) (fs : List FI) (which t p : Int) (w : World) (hv : FisArg w v fs) (i0 : -9223372036854775808 ≤ which) (i1 : which ≤ 9223372036854775807) (j0 : -9223372036854775808 ≤ t) (j1 : t ≤ 9223372036854775807) (p0 : 0 ≤ p) (p1 : p < 4294967296) (ht : Tab w) :
    Calls Tryd.prog 7 #[v, .int .i64 which, .int .i64 t, .int .u32 p] w fun e w' => e = .returned (.bool true) ∧ Below w.heap.size w w' := by
  obtain ⟨⟨a, n, c, rfl, hn, r⟩, hbd, -⟩ := hv
  have hl := r.len
  have HL := Lib.hid hl
  clear hl
  go_enter Tryd.func7, Tryd.ntmps7
  go_wp2_with fail
  (with_reducible refine (phead_any _ ht).mono ?_)
  rintro e w1 ⟨rfl, hb1⟩
  have r1 := r.below hb1
  have t1 := ht.below hb1
  go_wp2_with fail
  (with_reducible refine (plaid_any a n c fs _ hn r1 hbd t1).mono ?_)
  rintro e w2 (⟨hok, ab, cb, ae, ce, rfl, hob, hoe, hb2⟩ | ⟨rfl, hb2⟩)
  · have r2 := r1.below hb2
    have t2 := t1.below hb2
    have hc2 := below_next hb1 hb2
    rw [HL.out] at hoe ⊢
    by_cases hw0 : which < 0
    · clear hok hob hoe
      go_wp2_with fail
      go_ret
      exact ⟨rfl, hc2⟩
    by_cases hw1 : (n : Int) ≤ which
    · clear hok hob hoe
      go_wp2_with fail
      go_ret
      exact ⟨rfl, hc2⟩
    obtain ⟨k, rfl⟩ : ∃ k : Nat, which = (k : Int) := ⟨which.toNat, by omega⟩
    have hkn : k < n := by omega
    obtain ⟨gs, hgs⟩ : ∃ gs, fs.map FI.fr = gs := ⟨_, rfl⟩
    have hgl : gs.length = n := by rw [← hgs, List.length_map, HL.out]
    have hgr : ∀ g ∈ gs, g.right := by
      rw [← hgs]; intro g hg
      obtain ⟨x, hx, rfl⟩ := List.mem_map.1 hg
      exact (hok x hx).1
    have hNle := layN_le hgr
    have hkg : k < gs.length := by omega
    have hlt := lay_take hkg
    have hla := lay_at hkg
    have hm := (gs[k]).bytes_len
    have hbb := (hgr gs[k] (List.getElem_mem _)).2.2.1
    have hsc := fun t p => burst_scan hgr (t := t) (p := p) hkg
    rw [hgs] at hob hoe
    obtain ⟨M0, hM0⟩ : ∃ M0, gs[k].bytes = M0 := ⟨_, rfl⟩
    obtain ⟨A, hA⟩ : ∃ A, layN (gs.take k) = A := ⟨_, rfl⟩
    obtain ⟨Z, hZ⟩ : ∃ Z, layN (gs.drop (k + 1)) = Z := ⟨_, rfl⟩
    obtain ⟨L, hL⟩ : ∃ L, layN gs = L := ⟨_, rfl⟩
    obtain ⟨N, hN⟩ : ∃ N, L.length = N := ⟨_, rfl⟩
    obtain ⟨G, hG⟩ : ∃ G, A.length = G := ⟨_, rfl⟩
    obtain ⟨m, hmm⟩ : ∃ m, M0.length = m := ⟨_, rfl⟩
    rw [hM0, hA, hZ] at hsc hla
    rw [hA, hM0] at hlt
    rw [hM0, hmm] at hm
    rw [hL] at hob hNle hla
    rw [hN] at hob hNle
    rw [hG, hmm] at hsc
    rw [hgl] at hNle
    obtain ⟨E, hE⟩ : ∃ E, G + m = E := ⟨_, rfl⟩
    have hEN : E ≤ N := by
      have := congrArg List.length hla
      rw [hN, List.length_append, List.length_append, hG, hmm] at this
      omega
    have hEk : (layN (gs.take (k + 1))).length = E := by rw [hlt, List.length_append, hG, hmm, hE]
    have rb := own_rowAt hob
    have re := own_rowAt hoe
    have hcG := fun wx => run_cut0 (a := ab) (n := N) (cap := cb) slB wx G (by have := rb.2.1; omega)
    obtain ⟨aM, hcM, rM⟩ := cut_mid slB rb G E (by omega) hEN
    obtain ⟨aZ, hcZ, rZ⟩ := cut_from slB rb E hEN
    have rA := rowB_upto rb (show G ≤ N by omega)
    rw [Nat.mul_one, Nat.mul_one, ← List.map_take, ← List.map_drop, show E - G = m by omega, hla, ← List.append_assoc, List.take_append_of_le_length (by rw [List.length_append]; omega), List.take_of_length_le (by rw [List.length_append]; omega), ← hG, List.drop_left] at rM
    rw [Nat.mul_one, ← List.map_drop, hla, ← List.append_assoc, ← show (A ++ M0).length = E by rw [List.length_append]; omega, List.drop_left, List.length_append, hG, hmm, hE] at rZ
    rw [hla, ← hG, List.take_left, hG] at rA
    rw [hG] at rM
    rw [show E - G = m by omega] at hcM
    obtain ⟨be, oe, E', rfl, hE', hce⟩ := re.elem k hkn
    have hE2 := endsN_get hE'
    rw [hEk] at hE2
    subst hE2
    have hceE : w2.cell? ⟨be, oe + k, none⟩ = some (.int .i64 (E' : Int)) := hce
    have mb1 := rb.2.2.1
    have mb2 := rb.2.1
    have me1 := re.2.2.1
    have me2 := re.2.1
    unfold maxLen at mb1 me1
    rw [hgs, hL, hN]
    have hprev : ∀ k', k = k' + 1 → w2.cell? ⟨be, oe + k', none⟩ = some (.int .i64 (G : Int)) := fun k' hk' => by
      obtain ⟨b', o', E'', hbo, h1, h2⟩ := re.elem k' (by omega)
      obtain ⟨rfl, rfl⟩ : be = b' ∧ oe = o' := by simpa using hbo
      have h3 := endsN_get h1
      rw [← hk', hA, hG] at h3
      rw [h2, h3]
      rfl
    have hG0 : k = 0 → G = 0 := fun h => by rw [← hG, ← hA, h]; rfl
    have HPREV := Lib.hid hprev
    have HG0 := Lib.hid hG0
    have HSC := Lib.hid hsc
    have HGS := Lib.hid hgs
    have HOK := Lib.hid hok
    have HKG : Hid ((gs.take k).length = k) := Lib.hid (by rw [List.length_take]; omega)
    have HE := Lib.hid hE
    have HM0 := Lib.hid hmm
    have HAL := Lib.hid hG
    have hm1 : m ≤ 16404 := by omega
    have hN40 : N ≤ 17201364992 := by omega
    clear hprev hG0 hsc hgs hok hw0 hw1 hgl hgr hkg hbb hM0 hlt hA hZ hla hL hNle hob hoe hN hG hm hmm hEk hE' hce hE rb re i0 i1 hb1 hb2 r1 t1 j0 j1 r
    go_upto_if 41 with fail
    go_cut [12] (fun s wx => s = .int .i64 (G : Int) ∧ wx = w2)
    case first =>
      rcases k with _ | k'
      · have h := HG0.out rfl
        subst h
        go_wp2_with fail
        go_meet
        exact ⟨rfl, by trivial⟩
      · have hp := HPREV.out k' rfl
        go_wp2_with fail
        go_meet
        exact ⟨rfl, by trivial⟩
    case rest =>
      obtain ⟨rfl, rfl⟩ := hcut
      clear HPREV HG0
      have hEG : (E' : Int) - (G : Int) = (m : Int) := by have := HE.out; omega
      have hGE : G ≤ E' := by have := HE.out; omega
      have hEG2 : wrap64 ((E' : Int) - (G : Int)) = (m : Int) := by rw [hEG]; unfold wrap64; omega
      by_cases h0 : t < 0
      · go_wp2_with fail
        go_ret
        exact ⟨rfl, hc2⟩
      by_cases h1 : 8 * (m : Int) ≤ t
      · go_wp2_with fail
        go_ret
        exact ⟨rfl, hc2⟩
      obtain ⟨t, rfl⟩ : ∃ t' : Nat, t = (t' : Int) := ⟨t.toNat, by omega⟩
      obtain ⟨p, rfl⟩ : ∃ p' : Nat, p = (p' : Int) := ⟨p.toNat, by omega⟩
      have ht8 : t ≤ 8 * m := by omega
      have hp8 : p < 4294967296 := by omega
      clear p0 p1
      go_wp2_with fail
      (with_reducible refine (turn_any _ _ _ M0 t p _ (by omega) (by omega) hp8 rM).mono ?_)
      rintro e w3 ⟨a3, c3, rfl, ho3, hb3⟩
      obtain ⟨T, hT⟩ : ∃ T, turn M0 t p 32 = T := ⟨_, rfl⟩
      have hTl : T.length = m := by rw [← hT, turn_length, HM0.out]
      rw [hT, hTl] at ho3
      rw [hT, hTl]
      have r3 := r2.below hb3
      have rM3 := rM.below hb3
      have rA3 := rA.below hb3
      have rZ3 := rZ.below hb3
      have t3 := t2.below hb3
      have hce3 := below_cell hb3 hceE
      have q3 := own_rowAt ho3
      have hc3 := below_next hc2 hb3
      have HT := Lib.hid hT
      have HTL := Lib.hid hTl
      clear ho3 hb3 hc2 r2 rM rA rZ t2 hceE hT hTl
      go_wp2_with fail
      (with_reducible refine (same_any _ _ _ T _ _ _ M0 _ q3 rM3).mono ?_)
      rintro e w4 ⟨rfl, hst⟩
      have hc4 := below_still hc3 hst
      by_cases hne : T = M0
      · rw [hne, beq_self_eq_true]
        go_wp2_with fail
        go_ret
        exact ⟨rfl, hc4⟩
      rw [show (T == M0) = false from by rw [beq_eq_false_iff_ne]; exact hne]
      obtain ⟨er, hr1, hr2⟩ := HSC.out t p hp8 ht8 (by rw [HT.out]; exact hne)
      rw [HT.out] at hr2
      have HR1 := Lib.hid hr1
      have HR2 := Lib.hid hr2
      have hc34 : Below w3.heap.size w3 w4 := below_still (Below.refl _ _) hst
      have r4 := r3.below hc34
      have rA4 := rA3.below hc34
      have rZ4 := rZ3.below hc34
      have t4 := t3.below hc34
      have hce4 := below_cell hc34 hce3
      have q4 := q3.below hc34
      clear hr1 hr2 hne hst hc34 hc3 r3 rM3 rA3 rZ3 t3 hce3 q3 HSC
      have hby1 : (G + m) * 1 ≤ 140737488355328 := by omega
      have hby2 : (G + m + (N - E')) * 1 ≤ 140737488355328 := by omega
      have HCP := Lib.hid fun wx (rx : RowAt wx ab G cb 1 (A.map B)) => copy_any ab G cb A wx (by omega) rx
      have hlbe := World.block_lt_of_cell? w4 _ hce4
      go_wp2_with fail
      go_region_held3 (fun w' => w'.cell? ⟨be, oe + k, none⟩ = some (.int .i64 (E' : Int)))
        (first
          | exact hce4
          | exact cc7
          | exact cc6
          | exact cc5)
        (first
          | (go_at_call 10; refine (HCP.out _ (by exact rA4)).mono ?_; rintro e w5 ⟨a5, c5, rfl, ho5, hb5⟩; rw [HAL.out] at ho5 ⊢; have hb5' := below_undrew hb5; have cc5 := below_cell hb5' hce4; have q5 := q4.below hb5'; have z5 := rZ4.below hb5'; have hz5 := hb5.size; have hfar5 : ∀ j, (Value.slice a5 G c5).ownBlock = some j → be < j := fun j hj => Nat.lt_of_lt_of_le hlbe (own_block ho5 j hj))
          | (refine step_app rfl _ _ 22 (by rfl) slB (by rfl) ho5 (by rfl) q5 (B_one _) hby1 hz5 ?_; intro a6 c6 w6 ho6 hg6; have cc6 := far_cell hg6 cc5 hfar5; have hb6 := hb5.grown hg6 hz5 (own_block ho5); have hb6' := below_undrew hb6; have z6 := rZ4.below hb6'; have hz6 := hb6.size; have hfar6 : ∀ j, (Value.slice a6 (G + m) c6).ownBlock = some j → be < j := fun j hj => Nat.lt_of_lt_of_le hlbe (own_block ho6 j hj))
          | (refine step_app rfl _ _ 22 (by rfl) slB (by rfl) ho6 (by rfl) z6 (B_one _) hby2 hz6 ?_; intro a7 c7 w7 ho7 hg7; have cc7 := far_cell hg7 cc6 hfar6; have hb7 := hb6.grown hg7 hz6 (own_block ho6)))
      have hb7' := below_undrew hb7
      have r7 := r4.below hb7'
      have t7 := t4.below hb7'
      have hc7 := hc4.trans (hb7'.mono hc4.size)
      have e7 : G + m + (N - E') = N := by have := HE.out; omega
      rw [e7, ← List.map_append, ← List.map_append, List.append_assoc] at ho7
      have q7 := own_rowAt ho7
      rw [e7]
      clear ho7 hg7 cc7 cc6 cc5 hg6 ho6 ho5 hb5 hb5' hb6 hb6' hb7 hb7' q5 z5 z6 hfar5 hfar6 hz5 hz6 rA4 rZ4 r4 t4 q4 hc4 hce4 HCP e7
      go_wp2_with fail
      (with_reducible refine (sall_any _ _ _ (A ++ (T ++ Z)) _ (by omega) q7 t7).mono ?_)
      rintro e w8 ⟨xs, ax, cx, hxq, rfl, hps, hb8⟩
      rw [HR2.out] at hxq ⊢
      simp only at hxq ⊢
      have hl8 : xs.length = k := by
        have := congrArg List.length hxq
        rw [List.length_map, pcsN_len, HKG.out] at this
        exact this
      rw [hl8] at hps ⊢
      have q3 := hps.rd hl8
      have r3 := r7.below hb8
      have hc3 := below_next hc7 hb8
      have HXQ := Lib.hid hxq
      have hk := Nat.le_of_lt hkn
      have e0 : ((G : Int) != (G : Int)) = false := by simp
      have e00 : ((k : Int) != (k : Int)) = false := by simp
      clear hxq hl8 hps r7 hc7 hb8 q7 t7 hcG hcM hcZ
      go_upto_region 17 with fail
      go_cut [115] (fun s wx => s = .bool false ∧ wx = w8)
      case first =>
        rcases HR1.out with rfl | rfl
        · go_wp2_with fail
          go_meet
          exact ⟨by simp, by trivial⟩
        · go_wp2_with fail
          go_meet
          exact ⟨by simp, by trivial⟩
      case rest =>
        obtain ⟨rfl, rfl⟩ := hcut
        clear mb1 mb2 me1 me2 hN40 e0 e00 HR1 HR2 HT HTL
        have hgs := HGS.out
        go_wp2_with fail
        go_loopw [118] (fun iv wr => ∃ j : Nat, iv = .int .i64 (j : Int) ∧ j ≤ k ∧ Below w.heap.size w wr ∧ PlsRd ax k cx xs wr ∧ FisRd a n c fs wr) (fun iv _ => k - (intOf iv).toNat)
        case atStart => exact ⟨0, rfl, Nat.zero_le _, hc3, q3, r3⟩
        case round =>
          clear hc3 q3 r3
          obtain ⟨j, rfl, hj, hb, hq, hr⟩ := hrel
          by_cases hjk : j < k
          · obtain ⟨b, off, x, rfl, hx, d0, d1, d2, d3, d4, dx⟩ := hq.at j hjk
            obtain ⟨b', off', y, rfl, hy, f0, f1, f2, fx⟩ := hr.at j (by omega)
            have hsame := fr_same (fs := fs) (by rw [HGS.out]; exact HXQ.out) hjk hx hy (HOK.out y (List.mem_of_getElem? hy))
            have hf := fun wx rx ry => fsame_any (x.q.f.kind : Int) (x.q.f.seq : Int) x.a x.q.f.body.length x.c x.q.f.body y.kind y.seq y.a y.body.length y.c y.body wx rx ry
            rw [hsame] at hf
            have HF := Lib.hid hf
            have hm := hq.1.2.2.1
            have hm2 := hq.1.2.1
            have hm3 := hr.1.2.2.1
            have hm4 := hr.1.2.1
            unfold maxLen at hm hm3
            have HQ := Lib.hid hq
            have HRD := Lib.hid hr
            have hjn : j < n := by omega
            clear hsame hf hx hy d0 d1 hq hr
            go_wp2_with fail
            go_region_held3 (fun w' => w'.cell? ⟨b, off + j * 5 + 2, none⟩ = some (.int .i64 (x.q.f.kind : Int)) ∧ w'.cell? ⟨b, off + j * 5 + 3, none⟩ = some (.int .i64 (x.q.f.seq : Int)) ∧ w'.cell? ⟨b, off + j * 5 + 4, none⟩ = some (.slice x.a x.q.f.body.length x.c) ∧ w'.cell? ⟨b', off' + j * 3, none⟩ = some (.int .i64 y.kind) ∧ w'.cell? ⟨b', off' + j * 3 + 1, none⟩ = some (.int .i64 y.seq) ∧ w'.cell? ⟨b', off' + j * 3 + 2, none⟩ = some (.slice y.a y.body.length y.c))
              (first
                | exact ⟨d2, d3, d4, f0, f1, f2⟩
                | exact ⟨below_cell hb5 d2, below_cell hb5 d3, below_cell hb5 d4, below_cell hb5 f0, below_cell hb5 f1, below_cell hb5 f2⟩)
              (first | (go_at_call 16; refine (HF.out _ (by exact dx) (by exact fx)).mono ?_; rintro e w5 ⟨rfl, hb5⟩))
            have hb6 : Below wr.heap.size wr w5 := below_undrew hb5
            go_wp2_with fail
            go_roundw
            case rel => exact ⟨j + 1, by go_num, by omega, hb.trans (hb6.mono hb.size), HQ.out.below hb6, HRD.out.below hb6⟩
            case measure => simp [intOf]; omega
          · go_wp2_with fail
            go_ret
            exact ⟨rfl, hb⟩
  · have hc2 := below_next hb1 hb2
    go_wp2_with fail
    go_ret
    exact ⟨rfl, hc2⟩
end Go.Proofs.YtkaaabnahpmobaaDoor
