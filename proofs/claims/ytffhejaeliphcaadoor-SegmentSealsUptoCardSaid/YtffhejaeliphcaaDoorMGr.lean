/-
  The walk of the reference's footer body. Conditions: the numbers are small; the marks read as marks.
  The walk of the reference's Scan of a segment. Condition: the argument reads as bytes, no longer than 2^40.
-/
import Derived.Test.YtffhejaeliphcaaDoorMGsc
import Derived.Test.YtffhejaeliphcaaDoorMHwalk
import Derived.Test.YtffhejaeliphcaaDoorMIi
import Derived.Test.YtffhejaeliphcaaDoorMGscan
import Derived.Test.YtffhejaeliphcaaDoorMHh
import Derived.Test.YtffhejaeliphcaaDoorMPrrun
import Derived.Test.YtffhejaeliphcaaDoorMFrdec
namespace Go.Proofs.YtffhejaeliphcaaDoor
open Go.RowKit
set_option linter.unusedVariables false

set_option maxHeartbeats 1600000 in
theorem rfoot_any (y cnt t : Nat) (a : Option Addr) (n c : Nat) (ms : List Mk) (w : World) (hy : y ≤ 2199023255552) (hc : cnt ≤ 2199023255552) (ht : t ≤ 2199023255552) (r : RowAt w a n c 2 (ms.flatMap Mk.cells)) :
    Calls Tryd.prog 32 #[.int .i64 (y : Int), .int .i64 (cnt : Int), .int .i64 (t : Int), .slice a n c] w (GivesB 5 w (footB y cnt t ms)) := by
  have hl := twoN_len y cnt (by omega) (by omega)
  have hl2 := enc_len10 t (by omega)
  have hx := encIx_bd ms
  obtain ⟨X, hX⟩ : ∃ X, encIx ms = X := ⟨_, rfl⟩
  have hi := irenc_any a n c ms w r
  rw [hX] at hi hx
  obtain ⟨X, ex⟩ := X
  simp only at hx
  have HX := Lib.hid hX
  obtain ⟨T, hT⟩ : ∃ T, twoN y cnt = T := ⟨_, rfl⟩
  obtain ⟨E, hE⟩ : ∃ E, enc t = E := ⟨_, rfl⟩
  rw [hT] at hl
  rw [hE] at hl2
  have htw := fun wx => two_any (y : Int) (cnt : Int) wx (by omega) (by omega) (by omega) (by omega)
  simp only [Int.toNat_natCast, hT] at htw
  have hen := fun wx => renc_n t (t : Int) wx (by omega) (by omega) (by omega)
  simp only [Int.toNat_natCast, hE] at hen
  have HTW := Lib.hid htw
  have HEN := Lib.hid hen
  have HI := Lib.hid hi
  have HTT := Lib.hid hT
  have HEE := Lib.hid hE
  clear htw hen hi hT hE hX r
  go_enter Tryd.func32, Tryd.ntmps32
  go_wp2_with fail
  (with_reducible refine (HI.out).mono ?_)
  rintro e w1 ⟨a1, c1, rfl, ho1, hb1⟩
  simp only at ho1 ⊢
  go_wp2_with fail
  (with_reducible refine (HTW.out _).mono ?_)
  rintro e w2 ⟨a2, c2, rfl, ho2, hb2⟩
  have hlt1 := fun g hg => (ho1.lt g hg).2
  have q1 := own_below ho1 hb2
  have hb12 := below_next hb1 hb2
  clear ho1
  go_wp2_with fail
  (with_reducible refine (HEN.out _).mono ?_)
  rintro e w3 ⟨a3, c3, rfl, ho3, hb3⟩
  have q2 := own_below ho2 hb3
  have q11 := own_below q1 hb3
  have hb13 := below_next hb12 hb3
  have hs1 := hb1.size
  have hs2 := hb2.size
  have hs3 := hb3.size
  have hlt := q11.lt
  have hown1 : ∀ g, (Value.slice a1 X.length c1).ownBlock = some g → g < w1.heap.size := hlt1
  clear ho2 q1 hb12
  go_wp2_with (first
    | (at_builtin; refine wpList_app rfl _ _ 22 rfl slB rfl q2 rfl (own_rowAt ho3) (B_one _) (by omega) (by omega) fun a4 c4 w4 ho4 hg4 => ?_; have q12 : w4.ownsRow w.heap.size 5 1 (.slice a1 X.length c1) X.length (X.map B) := own_on q11 (fun g cs hg hb hw => (hg4.block g (lt_of_block hw) fun e => by have h1 := (own_block q2 g e.symm); have h2 := hlt g hg; have h3 := hown1 g hg; omega).trans hw); have hb4 := hb13.grown hg4 hb13.size (fun k hk => by have := own_block q2 k hk; omega); have hs4 := hg4.size)
    | (at_builtin; refine wpList_app rfl _ _ 22 rfl slB rfl ho4 rfl (own_rowAt q12) (B_one _) (by omega) (by omega) fun a5 c5 w5 ho5 hg5 => ?_; have hb5 := hb4.grown hg5 hb4.size (fun k hk => by have := own_block ho4 k hk; omega)))
  go_ret
  have e : footB y cnt t ms = T ++ E ++ X := by unfold footB; rw [HTT.out, HEE.out, HX.out]
  refine ⟨a5, c5, ?_, ?_, hb5⟩
  · rw [e, List.length_append, List.length_append]; rfl
  · rw [e, List.length_append, List.length_append, List.map_append, List.map_append]; exact own_mono ho5 (by omega)
end Go.Proofs.YtffhejaeliphcaaDoor

namespace Go.Proofs.YtffhejaeliphcaaDoor
open Go.RowKit
set_option linter.unusedVariables false

theorem rscanS_ok {l : List UInt8} {x y q : Nat} (hh : hofG l = (x, y, q, 0)) {R : List Pc × Nat} (hR : runF l q y 512 = R) : scanS l = (segOf l x y R sealR, R.1, 0) := by
  rw [← scan_same]; unfold scanWith; rw [← hof_same, hh]; simp only; rw [if_neg (by simp), hR]
theorem sealR_nil {body : List UInt8} {y : Nat} : sealR body y [] = none := by unfold sealR; rw [if_pos rfl]
theorem sealR_none {body : List UInt8} {y : Nat} {P : List Pc} (h : ∀ s, 1 ≤ s → s ≤ 64 → body ≠ footB y P.length s (marksQ P s)) : sealR body y P = none := by
  unfold sealR
  split
  · rfl
  · rw [List.find?_eq_none]
    intro s hs
    rw [List.mem_range'_1] at hs
    simpa using h s (by omega) (by omega)
theorem sealR_some {body : List UInt8} {y t : Nat} {P : List Pc} (hP : P ≠ []) (h1 : 1 ≤ t) (h2 : t ≤ 64) (h : ∀ s, 1 ≤ s → s < t → body ≠ footB y P.length s (marksQ P s)) (ht : body = footB y P.length t (marksQ P t)) : sealR body y P = some t := by
  unfold sealR
  rw [if_neg hP, List.find?_range'_eq_some]
  exact ⟨by simpa using ht, by rw [List.mem_range'_1]; omega, fun j hj hjt => by simpa using h j hj hjt⟩

set_option maxRecDepth 8000 in
set_option maxHeartbeats 6400000 in
theorem rscan_any (a : Option Addr) (n c : Nat) (l : List UInt8) (w : World) (hn : n ≤ 1099511627776) (r : RowAt w a n c 1 (l.map B)) :
    Calls Tryd.prog 11 #[.slice a n c] w (GivesSeg w (scanS l)) := by
  have hln : l.length = n := by simpa using r.len
  have hb0 := below_made w (.cells zRow 27)
  have hg0 := World.alloc_heap_new w (.cells zRow 27)
  have r0 := r.below hb0
  have hG := rhof_any a n c l _ r0
  have hbd := hofG_bd l
  obtain ⟨h, hh⟩ : ∃ h, hofG l = h := ⟨_, rfl⟩
  have hok := hofG_ok (l := l)
  rw [← hof_same] at hG
  rw [hh] at hG hbd hok
  obtain ⟨x, y, q, er⟩ := h
  simp only at hbd hok
  have HG := Lib.hid hG
  have HLN := Lib.hid hln
  have HOK := Lib.hid hok
  have m1 := r.2.1
  have m2 := r.2.2.1
  unfold maxLen at m2
  clear hG hok
  unfold zRow at hb0 hg0 r0 HG
  go_enter Tryd.func11, Tryd.ntmps11
  go_wp2_with fail
  (with_reducible refine (HG.out).mono ?_)
  rintro e w1 ⟨rfl, hb1⟩
  unfold hdV
  simp only
  have hg1 := below_blk2 hb1 hg0
  have r1 := r0.below hb1
  have hc1 := below_next hb0 hb1
  have hlt := lt_of_block hg1
  clear hb0 hg0 r0 HG hb1
  by_cases he : er = 0
  · subst he
    obtain ⟨x1, y1, q1⟩ := HOK.out rfl
    have hq : q ≤ n := by rw [← hln]; exact hbd.2.2.1
    obtain ⟨R, hR⟩ : ∃ R, runF l (q : Int) (y : Int) 512 = R := ⟨_, rfl⟩
    have HS := Lib.hid (rscanS_ok hh hR)
    have hri := runF_is (l := l) (d := q) (first := (y : Int)) (by omega)
    rw [hR] at hri
    have hrf := hri.facts
    obtain ⟨P, E⟩ := R
    simp only at hri hrf
    have hbdy : y ≤ 1099511627777 := hbd.2.1
    have hPl := hrf.1
    have hEn : E ≤ n := by rw [← hln]; exact hrf.2.2.1
    have HR := Lib.hid hR
    have HRI := Lib.hid hri
    clear hR hri hrf hh hbd
    go_wp2_with fail
    (with_reducible refine (rrun_any a n c l q y 512 _ hn r1).mono ?_)
    rintro e w2 ⟨xs, ax, cx, hxq, rfl, hpx, hb2⟩
    rw [HR.out] at hxq ⊢
    simp only at hxq ⊢
    have hg2 := below_blk2 hb2 hg1
    have r2 := r1.below hb2
    have hc2 := below_next hc1 hb2
    have hxl : xs.length = P.length := by rw [← hxq, List.length_map]
    obtain ⟨cnt, hcnt⟩ : ∃ cnt, P.length = cnt := ⟨_, rfl⟩
    rw [hxl, hcnt] at hpx ⊢
    rw [hcnt] at hPl
    obtain ⟨lo, hlo⟩ : ∃ lo, w1.heap.size = lo := ⟨_, rfl⟩
    rw [hlo] at hpx hlt
    have hs2 := hb2.size
    have hc2s := hc2.size
    have HXQ := Lib.hid hxq
    have HXL := Lib.hid (hxl.trans hcnt)
    have HCNT := Lib.hid hcnt
    clear hg1 r1 hc1 hb2 hxq hxl hcnt hlo
    obtain ⟨aE, hcE, rE⟩ := cut_from slB r2 E hEn
    rw [Nat.mul_one, ← List.map_drop] at rE
    have hm3 := below_made w2 (.cells (bRow x y cnt E) 27)
    have hs3 := World.alloc_heap_new w2 (.cells (bRow x y cnt E) 27)
    have hg3 := below_blk2 hm3 hg2
    have rE3 := rE.below hm3
    have hc3 := below_next hc2 hm3
    have hp3 := hpx.below hm3
    have hd := frdec_any aE (n - E) (c - E) (l.drop E) _ rE3
    obtain ⟨z, hz⟩ : ∃ z, decF (l.drop E) = z := ⟨_, rfl⟩
    rw [hz] at hd
    obtain ⟨f, k, ef⟩ := z
    unfold GivesF at hd
    simp only at hd
    have HD := Lib.hid hd
    have HZ := Lib.hid hz
    unfold bRow at hm3 hs3 hg3 rE3 hc3 hp3 HD
    clear hd hz r2 rE hc2 hpx hg2 hm3
    go_wp2_with fail
    (with_reducible refine (HD.out).mono ?_)
    rintro e w4 ⟨ab, cb, rfl, hob, hb4⟩
    have hm5 := below_made w4 (.cells #[.int .i64 (f.kind : Int), .int .i64 (f.seq : Int), .slice ab f.body.length cb] 53)
    have hf5 := World.alloc_heap_new w4 (.cells #[.int .i64 (f.kind : Int), .int .i64 (f.seq : Int), .slice ab f.body.length cb] 53)
    have hb5 := below_next hb4 hm5
    have hs5 := below_blk2 hb5 hs3
    have hg5 := below_blk2 hb5 hg3
    have hc5 := below_next hc3 hb5
    have hp5 := hp3.below hb5
    have hr5 := (own_rowAt hob).below hm5
    have c0 : (w4.alloc (.cells #[.int .i64 (f.kind : Int), .int .i64 (f.seq : Int), .slice ab f.body.length cb] 53)).cell? ⟨w4.heap.size, 0, none⟩ = some (.int .i64 (f.kind : Int)) := cell_blk hf5 rfl
    have c1 : (w4.alloc (.cells #[.int .i64 (f.kind : Int), .int .i64 (f.seq : Int), .slice ab f.body.length cb] 53)).cell? ⟨w4.heap.size, 1, none⟩ = some (.int .i64 (f.seq : Int)) := cell_blk hf5 rfl
    have c2 : (w4.alloc (.cells #[.int .i64 (f.kind : Int), .int .i64 (f.seq : Int), .slice ab f.body.length cb] 53)).cell? ⟨w4.heap.size, 2, none⟩ = some (.slice ab f.body.length cb) := cell_blk hf5 rfl
    obtain ⟨bb, hbb⟩ : ∃ bb, decide (ef ≠ 0 ∨ f.kind ≠ 3 ∨ f.seq ≠ x ∨ cnt = 0) = bb := ⟨_, rfl⟩
    have HBB := Lib.hid hbb
    clear hg3 hs3 rE3 hc3 hp3 HD hob hb4 hm5 hbb hb5 hf5
    go_upto_region 7 with fail
    obtain ⟨W5, hW5⟩ : ∃ W5, w4.alloc (.cells #[.int .i64 (f.kind : Int), .int .i64 (f.seq : Int), .slice ab f.body.length cb] 53) = W5 := ⟨_, rfl⟩
    rw [hW5] at hs5 hg5 hc5 hp5 hr5 c0 c1 c2 ⊢
    clear hW5
    go_cut [65] (fun s wx => s = .bool bb ∧ wx = W5)
    case first =>
      have hb := HBB.out
      by_cases d1 : ef = 0
      · subst d1
        by_cases d2 : f.kind = 3
        · by_cases d3 : f.seq = x
          · have g2 : ((f.kind : Int) != 3) = false := by rw [bne_eq_false_iff_eq]; omega
            have g3 : ((f.seq : Int) != (x : Int)) = false := by rw [bne_eq_false_iff_eq]; omega
            have g4 : ((cnt : Int) == 0) = bb := by
              rw [← hb]
              by_cases d4 : cnt = 0
              · rw [decide_eq_true (Or.inr (Or.inr (Or.inr d4))), d4]; rfl
              · rw [decide_eq_false (by omega), beq_eq_false_iff_ne]; omega
            have g5 : (cnt == 0) = bb := by
              rw [← g4]
              cases cnt <;> simp
              omega
            clear d2 d3 hb
            go_wp2_with fail
            go_meet
            exact ⟨by first | rfl | simp [g4] | simp [g5], by trivial⟩
          · have g2 : ((f.kind : Int) != 3) = false := by rw [bne_eq_false_iff_eq]; omega
            have g3 : ((f.seq : Int) != (x : Int)) = true := by rw [bne_iff_ne]; omega
            obtain rfl : true = bb := by rw [← hb]; symm; exact decide_eq_true (by omega)
            clear d2 d3 hb
            go_wp2_with fail
            go_meet
            exact ⟨by simp, by trivial⟩
        · have g2 : ((f.kind : Int) != 3) = true := by rw [bne_iff_ne]; omega
          obtain rfl : true = bb := by rw [← hb]; symm; exact decide_eq_true (by omega)
          clear d2 hb
          go_wp2_with fail
          go_meet
          exact ⟨by simp, by trivial⟩
      · have g1 : ((ef : Int) != 0) = true := by rw [bne_iff_ne]; omega
        obtain rfl : true = bb := by rw [← hb]; symm; exact decide_eq_true (by omega)
        clear d1 hb
        go_wp2_with fail
        go_meet
        exact ⟨by simp, by trivial⟩
    case rest =>
      obtain ⟨rfl, rfl⟩ := hcut
      cases bb with
      | true =>
        have HQ : Hid (segOf l x y (P, E) sealR = ⟨x, y, P.length, false, 0, [], E⟩) := Lib.hid (by
          by_cases hb : ef ≠ 0 ∨ f.kind ≠ 3 ∨ f.seq ≠ x
          · exact seg_bad HZ.out hb
          · refine seg_open HZ.out hb ?_
            have h0 := of_decide_eq_true HBB.out
            have h1 : P.length = 0 := by rw [HCNT.out]; omega
            rw [List.length_eq_zero_iff.1 h1]
            exact sealR_nil)
        go_wp2_with (first
          | (with_reducible refine wpList_load_row rfl 27 (.tmp 11) rfl w2.heap.size rfl _ _ (0, 0) _ hs5 Tryd.underlying27 rfl (by with_unfolding_all exact info_sg) ?_)
          | (with_reducible refine wpList_store_row rfl 27 (.tmp 2) (.tmp 66) rfl w.heap.size (bRow x y cnt E) rfl rfl _ _ hg5 (by with_unfolding_all exact info_sg) (by with_unfolding_all exact rfl) (by with_unfolding_all exact rfl) ?_))
        have h0Z := setRow_heap _ w.heap.size _ (bRow x y cnt E) _ _ hg5
        refine bodyPost_ret (ret_sg (cs := bRow x y cnt E) rfl rfl h0Z rfl rfl rfl) rfl ?_
        rw [HS.out, HQ.out]
        refine ⟨xs, ax, cx, none, 0, HXQ.out, ?_, (hp5.set (bRow x y cnt E) hlt).lower (by omega) |> cast (by rw [HXL.out]), World.ownsRow_nil _ _ _ _, row_end hc5⟩
        rw [HXL.out, HCNT.out]
        rfl
      | false =>
        have hnb : ¬ (ef ≠ 0 ∨ f.kind ≠ 3 ∨ f.seq ≠ x) := by have := of_decide_eq_false HBB.out; omega
        have hP : P ≠ [] := by
          intro h
          have := of_decide_eq_false HBB.out
          have := HCNT.out
          rw [h] at this
          simp at this
          omega
        have hk20 : k ≤ 16404 := by
          have he0 : ef = 0 := by omega
          have hz := HZ.out
          rw [he0] at hz
          have := decF_one hz
          omega
        have hE40 : E ≤ 1099511627776 := by omega
        have hy40 : y ≤ 2199023255552 := by have := hbdy; omega
        have HNB := Lib.hid hnb
        have HPN := Lib.hid hP
        obtain ⟨Wc, hWc⟩ : ∃ Wc, wc = Wc := ⟨_, rfl⟩
        have hbW : Below Wc.heap.size Wc wc := by rw [hWc]; exact Below.refl _ _
        rw [hWc] at hs5 hg5 hc5 hp5 hr5 c2
        clear c0 c1 hnb hP hcE m1 m2 hq y1 q1 hWc hEn hs2
        go_wp2_with fail
        go_loopw [14] (fun tv wr => ∃ t : Nat, tv = .int .i64 (t : Int) ∧ 1 ≤ t ∧ t ≤ 65 ∧ Hid (∀ s, 1 ≤ s → s < t → f.body ≠ footB y P.length s (marksQ P s)) ∧ Below Wc.heap.size Wc wr) (fun tv _ => 65 - (intOf tv).toNat)
        case atStart => exact ⟨1, rfl, Nat.le_refl _, by omega, Lib.hid (fun s h1 h2 => by omega), hbW⟩
        case round =>
          clear hbW
          obtain ⟨t, rfl, ht1, ht2, HN, hb⟩ := hrel
          have hs6 := below_blk2 hb hs5
          have hg6 := below_blk2 hb hg5
          have hc6 := hc5.trans (hb.mono hc5.size)
          have hp6 := hp5.below hb
          have hr6 := hr5.below hb
          have c26 := below_cell hb c2
          have hws := lt_of_block hs6
          by_cases hlt64 : t ≤ 64
          · have hpr : RowAt wr ax cnt cx 5 ((xs.map It.pl).flatMap Pl.cells) := by
              rw [pl_cells]; exact own_rowAt (HXL.out ▸ hp6.1)
            have hbl := rbuild_any ax cnt cx (xs.map It.pl) (t : Int) wr (by omega) hpr (by omega)
            have hB : buildN (xs.map It.pl) (t : Int) = marksQ P t := by
              unfold buildN
              rw [if_neg (by omega), Int.toNat_natCast, pl_marks, HXQ.out]
            obtain ⟨M, hM⟩ : ∃ M, marksQ P t = M := ⟨_, rfl⟩
            rw [hB, hM] at hbl
            have HBL := Lib.hid hbl
            have HM := Lib.hid hM
            clear hbl hB hM hpr
            go_wp2_with fail
            (with_reducible refine (HBL.out).mono ?_)
            rintro e w7 ⟨am, cm, rfl, hom, hb7⟩
            have hs7 := below_blk2 hb7 hs6
            have hg7 := below_blk2 hb7 hg6
            have hc7 := hc6.trans (hb7.mono hc6.size)
            have hp7 := hp6.below hb7
            have hr7 := hr6.below hb7
            have c27 := below_cell hb7 c26
            have hbb7 := hb.trans (hb7.mono hb.size)
            have hmr := own_rowAt hom
            have hft := fun wx rx => rfoot_any y cnt t am M.length cm M wx hy40 (by omega) (by omega) rx
            obtain ⟨F, hF⟩ : ∃ F, footB y cnt t M = F := ⟨_, rfl⟩
            rw [hF] at hft
            have hsm := fun a2 c2 wx rx ry => same_any ab f.body.length cb f.body a2 F.length c2 F wx rx ry
            obtain ⟨bq, hbq⟩ : ∃ bq, (f.body == F) = bq := ⟨_, rfl⟩
            rw [hbq] at hsm
            have HFT := Lib.hid hft
            have HSM := Lib.hid hsm
            have HF := Lib.hid hF
            have HBQ := Lib.hid hbq
            have hlow := hom.lt
            clear hft hsm hF hbq hs6 hg6 hc6 hp6 hr6 c26 hb HBL
            go_upto_region 13 with fail
            go_cut [83] (fun s wx => s = .bool bq ∧ Below w7.heap.size w7 wx)
            case first =>
              clear hs7 hg7 hc7 hp7 hbb7 hb7 hom hlow hs5 hg5 hc5 hp5 hr5 c2 hE40 hk20 hlt
              go_region_held3 (fun w' => w'.cell? ⟨w4.heap.size, 2, none⟩ = some (.slice ab f.body.length cb))
                (first
                  | exact c27
                  | exact d27
                  | exact e27)
                (first
                  | (go_at_call 32; refine (HFT.out _ (by exact hmr)).mono ?_; rintro e w8 ⟨a8, c8, rfl, ho8, hb8⟩; have hb8' := below_undrew hb8; have d27 := below_cell hb8' c27; have hr8 := hr7.below hb8')
                  | (go_at_call 15; refine (HSM.out _ _ _ (by exact hr8) (own_rowAt ho8)).mono ?_; rintro e w9 ⟨rfl, hst9⟩; have hb9 : Below w8.heap.size w8 w9 := below_still (Below.refl _ _) hst9; have e27 := below_cell hb9 d27))
              go_wp2_with fail
              go_meet
              exact ⟨by simp, below_next hb8' hb9⟩
            case rest =>
              obtain ⟨rfl, hb9⟩ := hcut
              have hs9 := below_blk2 hb9 hs7
              have hg9 := below_blk2 hb9 hg7
              have hc9 := hc7.trans (hb9.mono hc7.size)
              have hp9 := hp7.below hb9
              have hom9 := own_below hom hb9
              have hbb9 := hbb7.trans (hb9.mono hbb7.size)
              clear hs7 hg7 hc7 hp7 hom hbb7 hb7 hb9 c27 hr7 hmr HFT HSM
              cases bq with
              | false =>
                have hne : f.body ≠ footB y P.length t (marksQ P t) := by
                  rw [HCNT.out, HM.out, HF.out]
                  exact fun h => by have := HBQ.out; rw [h, beq_self_eq_true] at this; cases this
                clear hs9 hg9 hc9 hp9 hom9 hlow
                go_wp2_with fail
                go_roundw
                case rel => exact ⟨t + 1, by go_num, by omega, by omega, Lib.hid (fun s h1 h2 => by
                  by_cases hst : s = t
                  · rw [hst]; exact hne
                  · exact HN.out s h1 (by omega)), hbb9⟩
                case measure => simp [intOf]; omega
              | true =>
                have heq : f.body = footB y P.length t (marksQ P t) := by
                  rw [HCNT.out, HM.out, HF.out]
                  exact eq_of_beq HBQ.out
                have HQ := Lib.hid (seg_shut (y := y) (P := P) (sl := sealR) HZ.out HNB.out (sealR_some HPN.out ht1 hlt64 HN.out heq))
                clear heq
                have z3 : wc.frozen? ⟨w2.heap.size, 3, none⟩ = false := by unfold World.frozen?; simp [hs9]
                have z4 : wc.frozen? ⟨w2.heap.size, 4, none⟩ = false := by unfold World.frozen?; simp [hs9]
                have z5 : wc.frozen? ⟨w2.heap.size, 5, none⟩ = false := by unfold World.frozen?; simp [hs9]
                have z6 : wc.frozen? ⟨w2.heap.size, 6, none⟩ = false := by unfold World.frozen?; simp [hs9]
                have y3 : wc.cell? ⟨w2.heap.size, 3, none⟩ = some (.bool false) := cell_blk hs9 rfl
                have y4 : wc.cell? ⟨w2.heap.size, 4, none⟩ = some (.int .i64 0) := cell_blk hs9 rfl
                have y5 : wc.cell? ⟨w2.heap.size, 5, none⟩ = some (.slice none 0 0) := cell_blk hs9 rfl
                have y6 : wc.cell? ⟨w2.heap.size, 6, none⟩ = some (.int .i64 (E : Int)) := cell_blk hs9 rfl
                have h1 : (wc.setCell ⟨w2.heap.size, 3, none⟩ (.bool true)).heap[w2.heap.size]? = some (.cells #[.int .i64 (x : Int), .int .i64 (y : Int), .int .i64 (cnt : Int), .bool true, .int .i64 0, .slice none 0 0, .int .i64 (E : Int)] 27 (0, 0)) := blk_set hs9
                have h2 : ((wc.setCell ⟨w2.heap.size, 3, none⟩ (.bool true)).setCell ⟨w2.heap.size, 4, none⟩ (.int .i64 (t : Int))).heap[w2.heap.size]? = some (.cells #[.int .i64 (x : Int), .int .i64 (y : Int), .int .i64 (cnt : Int), .bool true, .int .i64 (t : Int), .slice none 0 0, .int .i64 (E : Int)] 27 (0, 0)) := blk_set h1
                have h3 : (((wc.setCell ⟨w2.heap.size, 3, none⟩ (.bool true)).setCell ⟨w2.heap.size, 4, none⟩ (.int .i64 (t : Int))).setCell ⟨w2.heap.size, 5, none⟩ (.slice am M.length cm)).heap[w2.heap.size]? = some (.cells #[.int .i64 (x : Int), .int .i64 (y : Int), .int .i64 (cnt : Int), .bool true, .int .i64 (t : Int), .slice am M.length cm, .int .i64 (E : Int)] 27 (0, 0)) := blk_set h2
                have h4 : ((((wc.setCell ⟨w2.heap.size, 3, none⟩ (.bool true)).setCell ⟨w2.heap.size, 4, none⟩ (.int .i64 (t : Int))).setCell ⟨w2.heap.size, 5, none⟩ (.slice am M.length cm)).setCell ⟨w2.heap.size, 6, none⟩ (.int .i64 ((E : Int) + (k : Int)))).heap[w2.heap.size]? = some (.cells #[.int .i64 (x : Int), .int .i64 (y : Int), .int .i64 (cnt : Int), .bool true, .int .i64 (t : Int), .slice am M.length cm, .int .i64 ((E : Int) + (k : Int))] 27 (0, 0)) := blk_set h3
                have hgr : wc.grownBy ((((wc.setCell ⟨w2.heap.size, 3, none⟩ (.bool true)).setCell ⟨w2.heap.size, 4, none⟩ (.int .i64 (t : Int))).setCell ⟨w2.heap.size, 5, none⟩ (.slice am M.length cm)).setCell ⟨w2.heap.size, 6, none⟩ (.int .i64 ((E : Int) + (k : Int)))) (some w2.heap.size) := grownBy_trans (grownBy_trans (grownBy_trans (grownBy_setCell1 wc w2.heap.size 3 (.bool true)) (grownBy_setCell1 _ w2.heap.size 4 (.int .i64 (t : Int)))) (grownBy_setCell1 _ w2.heap.size 5 (.slice am M.length cm))) (grownBy_setCell1 _ w2.heap.size 6 (.int .i64 ((E : Int) + (k : Int))))
                have hneg : w.heap.size ≠ w2.heap.size := by
                  intro e
                  rw [e, hs9] at hg9
                  simp at hg9
                  omega
                have hg11 := (hgr.block w.heap.size (lt_of_block hg9) (fun e => hneg (Option.some.inj e))).trans hg9
                have hc11 := hc9.grown hgr hc9.size (fun j e => by cases e; exact hc2s)
                have hp11 : PlsAt lo (.slice ax cnt cx) xs ((((wc.setCell ⟨w2.heap.size, 3, none⟩ (.bool true)).setCell ⟨w2.heap.size, 4, none⟩ (.int .i64 (t : Int))).setCell ⟨w2.heap.size, 5, none⟩ (.slice am M.length cm)).setCell ⟨w2.heap.size, 6, none⟩ (.int .i64 ((E : Int) + (k : Int)))) :=
                  ⟨own_on hp9.1 fun g cs _ _ hw => (hgr.block g (lt_of_block hw) fun e => by
                      rw [Option.some.inj e, hs9] at hw
                      simp at hw).trans hw, fun z hz => own_on (hp9.2 z hz) fun g cs _ _ hw => (hgr.block g (lt_of_block hw) fun e => by
                      rw [Option.some.inj e, hs9] at hw
                      simp at hw).trans hw⟩
                have hom11 := own_on (W' := ((((wc.setCell ⟨w2.heap.size, 3, none⟩ (.bool true)).setCell ⟨w2.heap.size, 4, none⟩ (.int .i64 (t : Int))).setCell ⟨w2.heap.size, 5, none⟩ (.slice am M.length cm)).setCell ⟨w2.heap.size, 6, none⟩ (.int .i64 ((E : Int) + (k : Int))))) hom9 fun g cs _ hb hw => (hgr.block g (lt_of_block hw) fun e => by have := Option.some.inj e; omega).trans hw
                have HP := Lib.hid hp11
                have HO := Lib.hid hom11
                have HCC := Lib.hid hc11
                have HG11 := Lib.hid hg11
                have HS11 := Lib.hid h4
                clear h1 h2 h3 h4 hgr hp11 hom11 hc11 hg11 hs9 hg9 hc9 hp9 hom9 hbb9 hlow hs5 hg5 hc5 hp5 hr5 c2
                go_upto_region 18 with fail
                have hs12 := HS11.out
                have hg12 := HG11.out
                go_wp2_with (first
                  | (with_reducible refine wpList_load_row rfl 27 (.tmp 11) rfl w2.heap.size rfl _ _ (0, 0) _ hs12 Tryd.underlying27 rfl (by with_unfolding_all exact info_sg) ?_)
                  | (with_reducible refine wpList_store_row rfl 27 (.tmp 2) (.tmp 93) rfl w.heap.size (sgRow ⟨x, y, cnt, true, t, M, E + k⟩ (.slice am M.length cm)) rfl rfl _ _ hg12 (by with_unfolding_all exact info_sg) (by with_unfolding_all exact rfl) (by with_unfolding_all exact rfl) ?_))
                have h0Z := setRow_heap _ w.heap.size _ (sgRow ⟨x, y, cnt, true, t, M, E + k⟩ (.slice am M.length cm)) _ _ hg12
                refine bodyPost_ret (ret_sg (cs := sgRow ⟨x, y, cnt, true, t, M, E + k⟩ (.slice am M.length cm)) rfl rfl h0Z rfl rfl rfl) rfl ?_
                rw [HS.out, HQ.out, HM.out]
                refine ⟨xs, ax, cx, am, cm, HXQ.out, ?_, (HP.out.set _ hlt).lower (by omega) |> cast (by rw [HXL.out]), own_mono (own_set HO.out _ (by omega)) (by omega), row_end HCC.out⟩
                rw [HXL.out, HCNT.out]
                rfl
          · have HQ := Lib.hid (seg_open (y := y) (P := P) (sl := sealR) HZ.out HNB.out (sealR_none fun s h1 h2 => HN.out s h1 (by omega)))
            go_wp2_with (first
              | (with_reducible refine wpList_load_row rfl 27 (.tmp 11) rfl w2.heap.size rfl _ _ (0, 0) _ hs6 Tryd.underlying27 rfl (by with_unfolding_all exact info_sg) ?_)
              | (with_reducible refine wpList_store_row rfl 27 (.tmp 2) (.tmp 95) rfl w.heap.size (bRow x y cnt E) rfl rfl _ _ hg6 (by with_unfolding_all exact info_sg) (by with_unfolding_all exact rfl) (by with_unfolding_all exact rfl) ?_))
            have h0Z := setRow_heap _ w.heap.size _ (bRow x y cnt E) _ _ hg6
            refine bodyPost_ret (ret_sg (cs := bRow x y cnt E) rfl rfl h0Z rfl rfl rfl) rfl ?_
            rw [HS.out, HQ.out]
            refine ⟨xs, ax, cx, none, 0, HXQ.out, ?_, (hp6.set (bRow x y cnt E) hlt).lower (by omega) |> cast (by rw [HXL.out]), World.ownsRow_nil _ _ _ _, row_end hc6⟩
            rw [HXL.out, HCNT.out]
            rfl
  · have heb : ((er : Int) != 0) = true := by rw [bne_iff_ne]; omega
    have HR := Lib.hid (scanS_err hh he)
    clear hh hbd
    go_wp2_with (with_reducible refine wpList_store_row rfl 27 (.tmp 2) (.tmp 25) rfl w.heap.size zRow rfl rfl _ _ hg1 (by with_unfolding_all exact info_sg) (by with_unfolding_all exact rfl) (by with_unfolding_all exact rfl) ?_)
    have hgZ := setRow_heap w1 w.heap.size _ zRow _ _ hg1
    refine bodyPost_ret (ret_sg (cs := zRow) rfl rfl hgZ rfl rfl rfl) rfl ?_
    rw [HR.out]
    exact ⟨[], none, 0, none, 0, rfl, rfl, PlsAt.nil _ _, World.ownsRow_nil _ _ _ _, row_end hc1⟩
end Go.Proofs.YtffhejaeliphcaaDoor
