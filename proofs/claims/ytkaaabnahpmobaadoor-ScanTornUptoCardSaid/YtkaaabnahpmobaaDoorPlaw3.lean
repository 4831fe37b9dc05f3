/-
  The walk of ScanTorn. Conditions: the frames read as frames, within the statement's own bound; the program's table of nibbles holds what its text lays.
-/
import Derived.Test.YtkaaabnahpmobaaDoorPhead
import Derived.Test.YtkaaabnahpmobaaDoorPtorn
import Derived.Test.YtkaaabnahpmobaaDoorLawFis
import Derived.Deep.DeepCutAuto
import Derived.Deep.CutBlock
namespace Go.Proofs.YtkaaabnahpmobaaDoor
open Go.RowKit
set_option linter.unusedVariables false

set_option maxRecDepth 8000 in
set_option maxHeartbeats 6400000 in
theorem torn_walk (v : Value) (fs : List FI) (cut : Int) (w : World) (hv : FisArg w v fs) (p0 : -9223372036854775808 ≤ cut) (p1 : cut ≤ 9223372036854775807) (ht : Tab w) :
    Calls Tryd.prog 6 #[v, .int .i64 cut] w fun e w' => e = .returned (.bool true) ∧ Below w.heap.size w w' := by
  obtain ⟨⟨a, n, c, rfl, hn, r⟩, hbd, -⟩ := hv
  have hl := r.len
  have HL := Lib.hid hl
  clear hl p0 p1
  go_enter Tryd.func6, Tryd.ntmps6
  go_wp2_with fail
  (with_reducible refine (phead_any _ ht).mono ?_)
  rintro e w1 ⟨rfl, hb1⟩
  have r1 := r.below hb1
  have t1 := ht.below hb1
  go_wp2_with fail
  (with_reducible refine (plaid_any a n c fs _ hn r1 hbd t1).mono ?_)
  rintro e w2 (⟨hok, ab, cb, ae, ce, rfl, hob, hoe, hb2⟩ | ⟨rfl, hb2⟩)
  · have r2 := r1.below hb2
    have t2 := t1.below hb2
    have hc2 := below_next hb1 hb2
    obtain ⟨gs, hgs⟩ : ∃ gs, fs.map FI.fr = gs := ⟨_, rfl⟩
    have hgl : gs.length = n := by rw [← hgs, List.length_map, HL.out]
    have hgr : ∀ g ∈ gs, g.right := by
      rw [← hgs]; intro g hg
      obtain ⟨x, hx, rfl⟩ := List.mem_map.1 hg
      exact (hok x hx).1
    have hNle := layN_le hgr
    rw [hgs, HL.out] at hoe ⊢
    rw [hgs] at hob
    obtain ⟨L, hL⟩ : ∃ L, layN gs = L := ⟨_, rfl⟩
    obtain ⟨N, hN⟩ : ∃ N, L.length = N := ⟨_, rfl⟩
    rw [hL, hN] at hob hNle ⊢
    rw [hgl] at hNle
    have hN40 : N ≤ 1099511627776 := by omega
    have rb := own_rowAt hob
    have re := own_rowAt hoe
    have mb1 := rb.2.2.1
    have mb2 := rb.2.1
    unfold maxLen at mb1
    have HG := Lib.hid (And.intro hgs (And.intro hL hN))
    have HGL := Lib.hid hgl
    have HR := Lib.hid hgr
    have HOK := Lib.hid hok
    clear hgs hL hN hgl hgr hok hNle hb1 hb2 r1 t1 hob hoe
    obtain ⟨bb, hbb⟩ : ∃ bb, decide (cut < 0 ∨ (N : Int) < cut) = bb := ⟨_, rfl⟩
    go_upto_region 6 with fail
    go_cut [31] (fun s wx => s = .bool bb ∧ wx = w2)
    case first =>
      by_cases h1 : cut < 0
      · have hb : bb = true := by rw [← hbb]; exact decide_eq_true (.inl h1)
        subst hb
        go_wp2_with fail
        go_meet
        exact ⟨rfl, rfl⟩
      · have hb : decide ((N : Int) < cut) = bb := by rw [← hbb]; simp [h1]
        subst hb
        go_wp2_with fail
        go_meet
        exact ⟨by simp, rfl⟩
    case rest =>
      obtain ⟨rfl, rfl⟩ := hcut
      have HBB := Lib.hid hbb
      clear hbb
      go_upto_if 31 with fail
      go_cut [1] (fun s wx => ∃ C : Nat, s = .int .i64 (C : Int) ∧ C ≤ N ∧ wx = wc)
      case first =>
        cases bb with
        | true =>
          go_wp2_with fail
          go_meet
          exact ⟨N, rfl, Nat.le_refl _, rfl⟩
        | false =>
          have h := of_decide_eq_false HBB.out
          go_wp2_with fail
          go_meet
          exact ⟨cut.toNat, by rw [Int.toNat_of_nonneg (by omega)], by omega, rfl⟩
      case rest =>
        obtain ⟨C, rfl, hC, rfl⟩ := hcut
        clear HBB
        go_upto_block 0 with fail
        go_cut [8, 9] (fun s8 s9 wx => ∃ k G : Nat, s8 = .int .i64 (k : Int) ∧ s9 = .int .i64 (G : Int) ∧ k ≤ n ∧ Hid ((layN (gs.take k)).length = G) ∧ G ≤ C ∧ Hid (k < n → C < (layN (gs.take (k + 1))).length) ∧ wx = wc)
        case first =>
          go_wp2_with fail
          go_loopw [8, 9] (fun kv gv wr => ∃ k G : Nat, kv = .int .i64 (k : Int) ∧ gv = .int .i64 (G : Int) ∧ k ≤ n ∧ Hid ((layN (gs.take k)).length = G) ∧ G ≤ C ∧ wr = wc) (fun kv _ _ => n - (intOf kv).toNat)
          case atStart => exact ⟨0, 0, rfl, rfl, Nat.zero_le _, Lib.hid rfl, Nat.zero_le _, rfl⟩
          case round =>
            obtain ⟨k, G, rfl, rfl, hk, HGk, hGC, rfl⟩ := hrel
            by_cases hkn : k < n
            · obtain ⟨b, off, E, rfl, hE, hc⟩ := re.elem k hkn
              have HE := Lib.hid (endsN_get hE)
              have hcE : wr.cell? ⟨b, off + k, none⟩ = some (.int .i64 (E : Int)) := hc
              clear hE hc
              by_cases hEC : E ≤ C
              · have e1 : decide ((E : Int) ≤ (C : Int)) = true := decide_eq_true (by omega)
                go_wp2_with fail
                go_roundw
                case rel => exact ⟨k + 1, E, by go_num, rfl, by omega, Lib.hid HE.out.symm, by omega, by trivial⟩
                case measure => simp [intOf]; omega
              · have e1 : decide ((E : Int) ≤ (C : Int)) = false := decide_eq_false (by omega)
                go_wp2_with fail
                go_meet
                exact ⟨k, G, rfl, rfl, hk, HGk, hGC, Lib.hid fun _ => by rw [← HE.out]; omega, by trivial⟩
            · go_wp2_with fail
              go_meet
              exact ⟨k, G, rfl, rfl, hk, HGk, hGC, Lib.hid fun h => (hkn h).elim, by trivial⟩
        case rest =>
          obtain ⟨k, G, rfl, rfl, hk, HGk, hGC, HMX, rfl⟩ := hcut
          have hsc : scanF (L.take C) = (pcsN 0 (gs.take k), G, if C = G then 0 else 60) := by
            have h1 := HG.out
            have h2 := torn_scan (k := k) (C := C) HR.out (by rw [HGL.out]; exact hk) (by rw [HGk.out]; exact hGC) (by rw [h1.2.1, h1.2.2]; exact hC) (fun h => HMX.out (by rw [← HGL.out]; exact h))
            rwa [h1.2.1, HGk.out] at h2
          obtain ⟨E, hE⟩ : ∃ E : Nat, (if C = G then 0 else 60) = E := ⟨_, rfl⟩
          rw [hE] at hsc
          have HS := Lib.hid hsc
          have HT := Lib.hid hE
          have hcut := fun wx => run_cut0 (a := ab) (n := N) (cap := cb) slB wx C (Nat.le_trans hC mb2)
          have rc := rowB_upto rb hC
          clear hsc hE HMX
          go_wp2_with fail
          (with_reducible refine (sall_any _ _ _ _ _ (by omega) rc t2).mono ?_)
          rintro e w3 ⟨xs, ax, cx, hxq, rfl, hps, hb3⟩
          rw [HS.out] at hxq ⊢
          simp only at hxq ⊢
          have hl3 : xs.length = k := by
            have := congrArg List.length hxq
            rw [List.length_map, pcsN_len, List.length_take, HGL.out] at this
            omega
          rw [hl3] at hps ⊢
          have q3 := hps.rd hl3
          have r3 := r2.below hb3
          have hc3 := below_next hc2 hb3
          have HXQ := Lib.hid hxq
          have HL3 := Lib.hid hl3
          clear hxq hl3 hps r2 hc2 hb3 rc hcut
          have e0 : ((G : Int) != (G : Int)) = false := by simp
          have e00 : ((k : Int) != (k : Int)) = false := by simp
          go_upto_region 14 with fail
          go_cut [84] (fun s wx => s = .bool false ∧ wx = w3)
          case first =>
            by_cases hCG : C = G
            · have h := HT.out
              rw [if_pos hCG] at h
              subst h hCG
              go_wp2_with fail
              go_meet
              exact ⟨by simp, by trivial⟩
            · have h := HT.out
              rw [if_neg hCG] at h
              subst h
              have e1 : ((G : Int) == (C : Int)) = false := by rw [beq_eq_false_iff_ne]; omega
              go_wp2_with fail
              go_meet
              exact ⟨by simp, by trivial⟩
          case rest =>
            obtain ⟨rfl, rfl⟩ := hcut
            clear HT HS HGk hGC hC mb1 mb2 hN40 rb re t2 e0 e00
            go_wp2_with fail
            go_loopw [87] (fun iv wr => ∃ j : Nat, iv = .int .i64 (j : Int) ∧ j ≤ k ∧ Below w.heap.size w wr ∧ PlsRd ax k cx xs wr ∧ FisRd a n c fs wr) (fun iv _ => k - (intOf iv).toNat)
            case atStart => exact ⟨0, rfl, Nat.zero_le _, hc3, q3, r3⟩
            case round =>
              clear hc3 q3 r3 r
              obtain ⟨j, rfl, hj, hb, hq, hr⟩ := hrel
              by_cases hjk : j < k
              · obtain ⟨b, off, x, rfl, hx, d0, d1, d2, d3, d4, dx⟩ := hq.at j hjk
                obtain ⟨b', off', y, rfl, hy, f0, f1, f2, fx⟩ := hr.at j (by omega)
                have hsame := fr_same (fs := fs) (by rw [HG.out.1]; exact HXQ.out) hjk hx hy (HOK.out y (List.mem_of_getElem? hy))
                have hf := fun wx rx ry => fsame_any (x.q.f.kind : Int) (x.q.f.seq : Int) x.a x.q.f.body.length x.c x.q.f.body y.kind y.seq y.a y.body.length y.c y.body wx rx ry
                rw [hsame] at hf
                have HF := Lib.hid hf
                have hm := hq.1.2.2.1
                have hm2 := hq.1.2.1
                have hm3 := hr.1.2.2.1
                have hm4 := hr.1.2.1
                unfold maxLen at hm hm3
                have HQ := Lib.hid hq
                have HRD := Lib.hid hr
                have hjn : j < n := by omega
                clear hsame hf hx hy d0 d1 hq hr
                go_wp2_with fail
                go_region_held3 (fun w' => w'.cell? ⟨b, off + j * 5 + 2, none⟩ = some (.int .i64 (x.q.f.kind : Int)) ∧ w'.cell? ⟨b, off + j * 5 + 3, none⟩ = some (.int .i64 (x.q.f.seq : Int)) ∧ w'.cell? ⟨b, off + j * 5 + 4, none⟩ = some (.slice x.a x.q.f.body.length x.c) ∧ w'.cell? ⟨b', off' + j * 3, none⟩ = some (.int .i64 y.kind) ∧ w'.cell? ⟨b', off' + j * 3 + 1, none⟩ = some (.int .i64 y.seq) ∧ w'.cell? ⟨b', off' + j * 3 + 2, none⟩ = some (.slice y.a y.body.length y.c))
                  (first
                    | exact ⟨d2, d3, d4, f0, f1, f2⟩
                    | exact ⟨below_cell hb5 d2, below_cell hb5 d3, below_cell hb5 d4, below_cell hb5 f0, below_cell hb5 f1, below_cell hb5 f2⟩)
                  (first | (go_at_call 16; refine (HF.out _ (by exact dx) (by exact fx)).mono ?_; rintro e w5 ⟨rfl, hb5⟩))
                have hb6 : Below wr.heap.size wr w5 := below_undrew hb5
                go_wp2_with fail
                go_roundw
                case rel => exact ⟨j + 1, by go_num, by omega, hb.trans (hb6.mono hb.size), HQ.out.below hb6, HRD.out.below hb6⟩
                case measure => simp [intOf]; omega
              · go_wp2_with fail
                go_ret
                exact ⟨rfl, hb⟩
  · have hc2 := below_next hb1 hb2
    go_wp2_with fail
    go_ret
    exact ⟨rfl, hc2⟩
end Go.Proofs.YtkaaabnahpmobaaDoor
