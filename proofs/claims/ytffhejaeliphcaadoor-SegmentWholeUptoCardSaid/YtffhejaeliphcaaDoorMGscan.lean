/-
  The walk of segment.Scan. Conditions: the argument reads as bytes, no longer than 2^40; the program's table of nibbles holds what its text lays.
-/
import Derived.Test.YtffhejaeliphcaaDoorMGsc
import Derived.Deep.DeepCutAuto
import Derived.Deep.RegionHeld3
namespace Go.Proofs.YtffhejaeliphcaaDoor
open Go.RowKit
set_option linter.unusedVariables false

theorem row_end {w wx : World} {cs : Array Value} (h : Below w.heap.size w wx) : Below w.heap.size w (wx.setRow w.heap.size cs) :=
  h.grown ⟨rfl, rfl, rfl, by simp, fun k hk hne => setRow_other wx w.heap.size k _ (fun e => hne (by rw [e]))⟩ h.size (fun k e => by cases e; exact Nat.le_refl _)
def zRow : Array Value := #[.int .i64 0, .int .i64 0, .int .i64 0, .bool false, .int .i64 0, .slice none 0 0, .int .i64 0]
def bRow (num first : Nat) (count good : Nat) : Array Value := #[.int .i64 (num : Int), .int .i64 (first : Int), .int .i64 (count : Int), .bool false, .int .i64 0, .slice none 0 0, .int .i64 (good : Int)]
theorem scanS_err {l : List UInt8} {h : Hd} (hh : hofG l = h) (he : h.2.2.2 ≠ 0) : scanS l = (Sg.zero, [], h.2.2.2) := by
  unfold scanS scanWith; rw [hh, if_pos he]
theorem scanS_ok {l : List UInt8} {x y q : Nat} (hh : hofG l = (x, y, q, 0)) {R : List Pc × Nat} (hR : runF l q y 512 = R) : scanS l = (segOf l x y R sealG, R.1, 0) := by
  unfold scanS scanWith; rw [hh]; simp only; rw [if_neg (by simp), hR]

theorem cell_oth {w : World} {g j b o : Nat} {v u : Value} (h : b ≠ g) (hc : w.cell? ⟨b, o, none⟩ = some u) : (w.setCell ⟨g, j, none⟩ v).cell? ⟨b, o, none⟩ = some u :=
  (World.cell?_of_block (heap_setCell_other w ⟨g, j, none⟩ b _ h)).trans hc
theorem seg_bad {l : List UInt8} {x y E k ef : Nat} {P : List Pc} {f : Fr} {sl : List UInt8 → Nat → List Pc → Option Nat} (hz : decF (l.drop E) = (f, k, ef)) (h : ef ≠ 0 ∨ f.kind ≠ 3 ∨ f.seq ≠ x) : segOf l x y (P, E) sl = ⟨x, y, P.length, false, 0, [], E⟩ := by
  unfold segOf; simp only; rw [hz, if_pos h]
theorem seg_open {l : List UInt8} {x y E k ef : Nat} {P : List Pc} {f : Fr} {sl : List UInt8 → Nat → List Pc → Option Nat} (hz : decF (l.drop E) = (f, k, ef)) (h : ¬ (ef ≠ 0 ∨ f.kind ≠ 3 ∨ f.seq ≠ x)) (hs : sl f.body y P = none) : segOf l x y (P, E) sl = ⟨x, y, P.length, false, 0, [], E⟩ := by
  unfold segOf; simp only; rw [hz, if_neg h]; simp only; rw [hs]
theorem seg_shut {l : List UInt8} {x y E k ef t : Nat} {P : List Pc} {f : Fr} {sl : List UInt8 → Nat → List Pc → Option Nat} (hz : decF (l.drop E) = (f, k, ef)) (h : ¬ (ef ≠ 0 ∨ f.kind ≠ 3 ∨ f.seq ≠ x)) (hs : sl f.body y P = some t) : segOf l x y (P, E) sl = ⟨x, y, P.length, true, t, marksQ P t, E + k⟩ := by
  unfold segOf; simp only; rw [hz, if_neg h]; simp only; rw [hs]
theorem sealG_none {body : List UInt8} {y : Nat} {P : List Pc} (h : unclF body = none) : sealG body y P = none := by unfold sealG; rw [h]
theorem sealG_some {body : List UInt8} {y : Nat} {P : List Pc} {c : Cl} (h : unclF body = some c) : sealG body y P = if c.first = y ∧ c.count = P.length ∧ c.marks = marksQ P c.stride then some c.stride else none := by unfold sealG; rw [h]

set_option maxRecDepth 8000 in
set_option maxHeartbeats 6400000 in
theorem sscan_any (a : Option Addr) (n c : Nat) (l : List UInt8) (w : World) (hn : n ≤ 1099511627776) (r : RowAt w a n c 1 (l.map B)) (ht : Tab w) :
    Calls Tryd.prog 12 #[.slice a n c] w (GivesSeg w (scanS l)) := by
  have hln : l.length = n := by simpa using r.len
  have hb0 := below_made w (.cells zRow 27)
  have hg0 := World.alloc_heap_new w (.cells zRow 27)
  have r0 := r.below hb0
  have t0 := ht.below hb0
  have hG := hof_any a n c l _ r0 t0
  have hbd := hofG_bd l
  obtain ⟨h, hh⟩ : ∃ h, hofG l = h := ⟨_, rfl⟩
  have hok := hofG_ok (l := l)
  rw [hh] at hG hbd hok
  obtain ⟨x, y, q, er⟩ := h
  simp only at hbd hok
  have HG := Lib.hid hG
  have HLN := Lib.hid hln
  have HOK := Lib.hid hok
  have m1 := r.2.1
  have m2 := r.2.2.1
  unfold maxLen at m2
  clear hG hok
  unfold zRow at hb0 hg0 r0 t0 HG
  go_enter Tryd.func12, Tryd.ntmps12
  go_wp2_with fail
  (with_reducible refine (HG.out).mono ?_)
  rintro e w1 ⟨rfl, hb1⟩
  unfold hdV
  simp only
  have hg1 := below_blk2 hb1 hg0
  have r1 := r0.below hb1
  have t1 := t0.below hb1
  have hc1 := below_next hb0 hb1
  have hlt := lt_of_block hg1
  clear hb0 hg0 r0 t0 HG hb1
  by_cases he : er = 0
  · subst he
    obtain ⟨x1, y1, q1⟩ := HOK.out rfl
    have hq : q ≤ n := by rw [← hln]; exact hbd.2.2.1
    obtain ⟨R, hR⟩ : ∃ R, runF l (q : Int) (y : Int) 512 = R := ⟨_, rfl⟩
    have HS := Lib.hid (scanS_ok hh hR)
    have hri := runF_is (l := l) (d := q) (first := (y : Int)) (by omega)
    rw [hR] at hri
    have hrf := hri.facts
    obtain ⟨P, E⟩ := R
    simp only at hri hrf
    have hPl := hrf.1
    have hEn : E ≤ n := by rw [← hln]; exact hrf.2.2.1
    have HR := Lib.hid hR
    have HRI := Lib.hid hri
    clear hR hri hrf hh hbd
    go_wp2_with fail
    (with_reducible refine (srun_any a n c l q y 512 _ hn r1 t1).mono ?_)
    rintro e w2 ⟨xs, ax, cx, hxq, rfl, hpx, hb2⟩
    rw [HR.out] at hxq ⊢
    simp only at hxq ⊢
    have hg2 := below_blk2 hb2 hg1
    have r2 := r1.below hb2
    have t2 := t1.below hb2
    have hc2 := below_next hc1 hb2
    have hxl : xs.length = P.length := by rw [← hxq, List.length_map]
    obtain ⟨cnt, hcnt⟩ : ∃ cnt, P.length = cnt := ⟨_, rfl⟩
    rw [hxl, hcnt] at hpx ⊢
    rw [hcnt] at hPl
    obtain ⟨lo, hlo⟩ : ∃ lo, w1.heap.size = lo := ⟨_, rfl⟩
    rw [hlo] at hpx hlt
    have hs2 := hb2.size
    have hc2s := hc2.size
    have HXQ := Lib.hid hxq
    have HXL := Lib.hid (hxl.trans hcnt)
    have HCNT := Lib.hid hcnt
    clear hg1 r1 t1 hc1 hb2 hxq hxl hcnt hlo
    obtain ⟨aE, hcE, rE⟩ := cut_from slB r2 E hEn
    rw [Nat.mul_one, ← List.map_drop] at rE
    have hm3 := below_made w2 (.cells (bRow x y cnt E) 27)
    have hs3 := World.alloc_heap_new w2 (.cells (bRow x y cnt E) 27)
    have hg3 := below_blk2 hm3 hg2
    have rE3 := rE.below hm3
    have t3 := t2.below hm3
    have hc3 := below_next hc2 hm3
    have hp3 := hpx.below hm3
    have hd := fdec_any aE (n - E) (c - E) (l.drop E) _ rE3 t3
    obtain ⟨z, hz⟩ : ∃ z, decF (l.drop E) = z := ⟨_, rfl⟩
    rw [hz] at hd
    obtain ⟨f, k, ef⟩ := z
    unfold GivesF at hd
    simp only at hd
    have HD := Lib.hid hd
    have HZ := Lib.hid hz
    unfold bRow at hm3 hs3 hg3 rE3 t3 hc3 hp3 HD
    clear hd hz r2 rE t2 hc2 hpx hg2 hm3
    go_wp2_with fail
    (with_reducible refine (HD.out).mono ?_)
    rintro e w4 ⟨ab, cb, rfl, hob, hb4⟩
    have hm5 := below_made w4 (.cells #[.int .i64 (f.kind : Int), .int .i64 (f.seq : Int), .slice ab f.body.length cb] 53)
    have hf5 := World.alloc_heap_new w4 (.cells #[.int .i64 (f.kind : Int), .int .i64 (f.seq : Int), .slice ab f.body.length cb] 53)
    have hb5 := below_next hb4 hm5
    have hs5 := below_blk2 hb5 hs3
    have hg5 := below_blk2 hb5 hg3
    have t5 := t3.below hb5
    have hc5 := below_next hc3 hb5
    have hp5 := hp3.below hb5
    have hr5 := (own_rowAt hob).below hm5
    have c0 : (w4.alloc (.cells #[.int .i64 (f.kind : Int), .int .i64 (f.seq : Int), .slice ab f.body.length cb] 53)).cell? ⟨w4.heap.size, 0, none⟩ = some (.int .i64 (f.kind : Int)) := cell_blk hf5 rfl
    have c1 : (w4.alloc (.cells #[.int .i64 (f.kind : Int), .int .i64 (f.seq : Int), .slice ab f.body.length cb] 53)).cell? ⟨w4.heap.size, 1, none⟩ = some (.int .i64 (f.seq : Int)) := cell_blk hf5 rfl
    have c2 : (w4.alloc (.cells #[.int .i64 (f.kind : Int), .int .i64 (f.seq : Int), .slice ab f.body.length cb] 53)).cell? ⟨w4.heap.size, 2, none⟩ = some (.slice ab f.body.length cb) := cell_blk hf5 rfl
    obtain ⟨bb, hbb⟩ : ∃ bb, decide (ef ≠ 0 ∨ f.kind ≠ 3 ∨ f.seq ≠ x) = bb := ⟨_, rfl⟩
    have HBB := Lib.hid hbb
    clear hg3 hs3 rE3 t3 hc3 hp3 HD hob hb4 hm5 hbb hb5 hf5
    go_upto_region 7 with fail
    obtain ⟨W5, hW5⟩ : ∃ W5, w4.alloc (.cells #[.int .i64 (f.kind : Int), .int .i64 (f.seq : Int), .slice ab f.body.length cb] 53) = W5 := ⟨_, rfl⟩
    rw [hW5] at hs5 hg5 t5 hc5 hp5 hr5 c0 c1 c2 ⊢
    clear hW5
    go_cut [60] (fun s wx => s = .bool bb ∧ wx = W5)
    case first =>
      have hb := HBB.out
      by_cases d1 : ef = 0
      · subst d1
        by_cases d2 : f.kind = 3
        · by_cases d3 : f.seq = x
          · have g2 : ((f.kind : Int) != 3) = false := by rw [bne_eq_false_iff_eq]; omega
            have g3 : ((f.seq : Int) != (x : Int)) = false := by rw [bne_eq_false_iff_eq]; omega
            obtain rfl : false = bb := by rw [← hb]; symm; exact decide_eq_false (by omega)
            clear d2 d3 hb
            go_wp2_with fail
            go_meet
            exact ⟨by simp, by trivial⟩
          · have g2 : ((f.kind : Int) != 3) = false := by rw [bne_eq_false_iff_eq]; omega
            have g3 : ((f.seq : Int) != (x : Int)) = true := by rw [bne_iff_ne]; omega
            obtain rfl : true = bb := by rw [← hb]; symm; exact decide_eq_true (by omega)
            clear d2 d3 hb
            go_wp2_with fail
            go_meet
            exact ⟨by simp, by trivial⟩
        · have g2 : ((f.kind : Int) != 3) = true := by rw [bne_iff_ne]; omega
          obtain rfl : true = bb := by rw [← hb]; symm; exact decide_eq_true (by omega)
          clear d2 hb
          go_wp2_with fail
          go_meet
          exact ⟨by simp, by trivial⟩
      · have g1 : ((ef : Int) != 0) = true := by rw [bne_iff_ne]; omega
        obtain rfl : true = bb := by rw [← hb]; symm; exact decide_eq_true (by omega)
        clear d1 hb
        go_wp2_with fail
        go_meet
        exact ⟨by simp, by trivial⟩
    case rest =>
      obtain ⟨rfl, rfl⟩ := hcut
      cases bb with
      | true =>
        have HQ := Lib.hid (seg_bad (y := y) (P := P) (sl := sealG) HZ.out (of_decide_eq_true HBB.out))
        go_wp2_with (first
          | (with_reducible refine wpList_load_row rfl 27 (.tmp 11) rfl w2.heap.size rfl _ _ (0, 0) _ hs5 Tryd.underlying27 rfl (by with_unfolding_all exact info_sg) ?_)
          | (with_reducible refine wpList_store_row rfl 27 (.tmp 2) (.tmp 61) rfl w.heap.size (bRow x y cnt E) rfl rfl _ _ hg5 (by with_unfolding_all exact info_sg) (by with_unfolding_all exact rfl) (by with_unfolding_all exact rfl) ?_))
        have h0Z := setRow_heap _ w.heap.size _ (bRow x y cnt E) _ _ hg5
        refine bodyPost_ret (ret_sg (cs := bRow x y cnt E) rfl rfl h0Z rfl rfl rfl) rfl ?_
        rw [HS.out, HQ.out]
        refine ⟨xs, ax, cx, none, 0, HXQ.out, ?_, (hp5.set (bRow x y cnt E) hlt).lower (by omega) |> cast (by rw [HXL.out]), World.ownsRow_nil _ _ _ _, row_end hc5⟩
        rw [HXL.out, HCNT.out]
        rfl
      | false =>
        have hnb := of_decide_eq_false HBB.out
        have hu := uncl_any ab f.body.length cb f.body _ hr5
        obtain ⟨cl, hcl⟩ : ∃ cl, unclF f.body = cl := ⟨_, rfl⟩
        rw [hcl] at hu
        have HU := Lib.hid hu
        have HCL := Lib.hid hcl
        clear hu hcl hr5 c0 c1
        go_wp2_with fail
        (with_reducible refine (HU.out).mono ?_)
        cases cl with
        | none =>
          rintro e w6 ⟨df, dc, ds, da, dn, dk, rfl, hb6⟩
          have hbm := below_made w6 (.cells (clRow df dc ds (.slice da dn dk)) 84)
          have hb7 := below_next hb6 hbm
          have hs7 := below_blk2 hb7 hs5
          have hg7 := below_blk2 hb7 hg5
          have hc7 := below_next hc5 hb7
          have hp7 := hp5.below hb7
          have HQ := Lib.hid (seg_open (y := y) (P := P) HZ.out hnb (sealG_none HCL.out))
          unfold clRow at hs7 hg7 hc7 hp7 ⊢
          clear hs5 hg5 hc5 hp5 t5 hb6 hbm hb7 hnb c2 HU
          obtain ⟨W7, hW7⟩ : ∃ W7, w6.alloc (.cells #[.int .i64 df, .int .i64 dc, .int .i64 ds, .slice da dn dk] 84) = W7 := ⟨_, rfl⟩
          go_wp2_with fail
          rw [hW7] at hs7 hg7 hc7 hp7
          clear hW7
          go_quiet (fail)
          have hs8 : (W7.drewN nq).heap[w2.heap.size]? = _ := hs7
          have hg8 : (W7.drewN nq).heap[w.heap.size]? = _ := hg7
          have hc8 : Below w.heap.size w (W7.drewN nq) := hc7.trans ⟨rfl, rfl, rfl, Nat.le_refl _, fun _ _ => rfl⟩
          have hp8 : PlsAt lo (.slice ax cnt cx) xs (W7.drewN nq) := hp7.below ⟨rfl, rfl, rfl, Nat.le_refl _, fun _ _ => rfl⟩
          clear hs7 hg7 hc7 hp7
          go_wp2_with (first
            | (with_reducible refine wpList_load_row rfl 27 (.tmp 11) rfl w2.heap.size rfl _ _ (0, 0) _ hs8 Tryd.underlying27 rfl (by with_unfolding_all exact info_sg) ?_)
            | (with_reducible refine wpList_store_row rfl 27 (.tmp 2) (.tmp 104) rfl w.heap.size (bRow x y cnt E) rfl rfl _ _ hg8 (by with_unfolding_all exact info_sg) (by with_unfolding_all exact rfl) (by with_unfolding_all exact rfl) ?_))
          have h0Z := setRow_heap _ w.heap.size _ (bRow x y cnt E) _ _ hg8
          refine bodyPost_ret (ret_sg (cs := bRow x y cnt E) rfl rfl h0Z rfl rfl rfl) rfl ?_
          rw [HS.out, HQ.out]
          refine ⟨xs, ax, cx, none, 0, HXQ.out, ?_, (hp8.set (bRow x y cnt E) hlt).lower (by omega) |> cast (by rw [HXL.out]), World.ownsRow_nil _ _ _ _, row_end hc8⟩
          rw [HXL.out, HCNT.out]
          rfl
        | some cl =>
          rintro e w6 ⟨am, cm, rfl, hom, hb6⟩
          have hbm := below_made w6 (.cells (clRow cl.first cl.count cl.stride (.slice am cl.marks.length cm)) 84)
          have hk7 := World.alloc_heap_new w6 (.cells (clRow cl.first cl.count cl.stride (.slice am cl.marks.length cm)) 84)
          have hb7 := below_next hb6 hbm
          have hs7 := below_blk2 hb7 hs5
          have hg7 := below_blk2 hb7 hg5
          have hc7 := below_next hc5 hb7
          have hp7 := hp5.below hb7
          have hom7 := own_below hom hbm
          have ho2 := hom.lt
          have hw2 := lt_of_block hs5
          have hQ := sealG_some (y := y) (P := P) HCL.out
          rw [HCNT.out] at hQ
          have HQQ := Lib.hid hQ
          unfold clRow at hk7 hs7 hg7 hc7 hp7 hom7 ⊢
          clear hs5 hg5 hc5 hp5 t5 hb6 hbm hb7 c2 HU hom hQ ho2
          obtain ⟨W7, hW7⟩ : ∃ W7, w6.alloc (.cells #[.int .i64 (cl.first : Int), .int .i64 (cl.count : Int), .int .i64 (cl.stride : Int), .slice am cl.marks.length cm] 84) = W7 := ⟨_, rfl⟩
          go_wp2_with fail
          rw [hW7] at hk7 hs7 hg7 hc7 hp7 hom7
          clear hW7
          obtain ⟨lo2, hlo2⟩ : ∃ lo2, wc.heap.size = lo2 := ⟨_, rfl⟩
          rw [hlo2] at hom7 hw2
          obtain ⟨f1, f2, f3, f4, f5, f6⟩ := unclF_bd HCL.out
          have hB : buildN (xs.map It.pl) (cl.stride : Int) = marksQ P cl.stride := by
            unfold buildN
            rw [if_neg (by omega), Int.toNat_natCast, pl_marks, HXQ.out]
          have k0 : W7.cell? ⟨w6.heap.size, 0, none⟩ = some (.int .i64 (cl.first : Int)) := cell_blk hk7 rfl
          have k1 : W7.cell? ⟨w6.heap.size, 1, none⟩ = some (.int .i64 (cl.count : Int)) := cell_blk hk7 rfl
          have k2 : W7.cell? ⟨w6.heap.size, 2, none⟩ = some (.int .i64 (cl.stride : Int)) := cell_blk hk7 rfl
          have k3 : W7.cell? ⟨w6.heap.size, 3, none⟩ = some (.slice am cl.marks.length cm) := cell_blk hk7 rfl
          have hpr : RowAt W7 ax cnt cx 5 ((xs.map It.pl).flatMap Pl.cells) := by
            rw [pl_cells]; exact own_rowAt (HXL.out ▸ hp7.1)
          have hmr := own_rowAt hom7
          have hbl := fun wx rx => build_any ax cnt cx (xs.map It.pl) (cl.stride : Int) wx (by omega) rx (by omega)
          rw [hB] at hbl
          have HBL := Lib.hid hbl
          obtain ⟨bq, hbq⟩ : ∃ bq, decide (cl.first = y ∧ cl.count = cnt ∧ cl.marks = marksQ P cl.stride) = bq := ⟨_, rfl⟩
          have HBQ := Lib.hid hbq
          clear hlo2 hB hbl hbq
          go_cut [91] (fun s wx => s = .bool bq ∧ Below W7.heap.size W7 wx)
          case first =>
            have hb := HBQ.out
            by_cases d1 : cl.first = y
            · have g1 : ((cl.first : Int) == (y : Int)) = true := by rw [beq_iff_eq]; omega
              by_cases d2 : cl.count = cnt
              · have g2 : ((cl.count : Int) == (cnt : Int)) = true := by rw [beq_iff_eq]; omega
                have g3 : decide (cl.marks = marksQ P cl.stride) = bq := by rw [← hb]; simp [d1, d2]
                obtain ⟨M, hM⟩ : ∃ M, marksQ P cl.stride = M := ⟨_, rfl⟩
                rw [hM] at g3 HBL
                have heq := fun a2 c2 wx rx ry => meq_any am cl.marks.length cm cl.marks a2 M.length c2 M wx rx ry
                rw [g3] at heq
                have HEQ := Lib.hid heq
                clear d1 d2 hb heq hM g3 x1 y1 q1 hq hs2 hc2s hs7 hg7 hc7 hp7 hom7 hk7 hw2 hlt hcE hnb f4 f5 f6 m1 m2 r ht
                go_region_held3 (fun w' => w'.cell? ⟨w6.heap.size, 0, none⟩ = some (.int .i64 (cl.first : Int)) ∧ w'.cell? ⟨w6.heap.size, 1, none⟩ = some (.int .i64 (cl.count : Int)) ∧ w'.cell? ⟨w6.heap.size, 2, none⟩ = some (.int .i64 (cl.stride : Int)) ∧ w'.cell? ⟨w6.heap.size, 3, none⟩ = some (.slice am cl.marks.length cm))
                  (first
                    | exact ⟨k0, k1, k2, k3⟩
                    | exact ⟨j0, j1, j2, j3⟩
                    | exact ⟨i0, i1, i2, i3⟩)
                  (first
                    | (go_at_call 37; refine (HBL.out _ (by exact hpr)).mono ?_; rintro e w8 ⟨a8, c8, rfl, ho8, hb8⟩; have hb8' := below_undrew hb8; have j0 := below_cell hb8' k0; have j1 := below_cell hb8' k1; have j2 := below_cell hb8' k2; have j3 := below_cell hb8' k3; have hm8 := hmr.below hb8')
                    | (go_at_call 36; refine (HEQ.out _ _ _ (by exact hm8) (own_rowAt ho8)).mono ?_; rintro e w9 ⟨rfl, hst9⟩; have hb9 : Below w8.heap.size w8 w9 := below_still (Below.refl _ _) hst9; have i0 := below_cell hb9 j0; have i1 := below_cell hb9 j1; have i2 := below_cell hb9 j2; have i3 := below_cell hb9 j3))
                go_wp2_with fail
                go_meet
                exact ⟨by simp, below_next hb8' hb9⟩
              · have g2 : ((cl.count : Int) == (cnt : Int)) = false := by rw [beq_eq_false_iff_ne]; omega
                obtain rfl : false = bq := by rw [← hb]; symm; exact decide_eq_false (by rintro ⟨-, h, -⟩; exact d2 h)
                clear d1 d2 hb
                go_quiet (fail)
                go_wp2_with fail
                go_meet
                exact ⟨by simp, ⟨rfl, rfl, rfl, Nat.le_refl _, fun _ _ => rfl⟩⟩
            · have g1 : ((cl.first : Int) == (y : Int)) = false := by rw [beq_eq_false_iff_ne]; omega
              obtain rfl : false = bq := by rw [← hb]; symm; exact decide_eq_false (by rintro ⟨h, -⟩; exact d1 h)
              clear d1 hb
              go_quiet (fail)
              go_wp2_with fail
              go_meet
              exact ⟨by simp, ⟨rfl, rfl, rfl, Nat.le_refl _, fun _ _ => rfl⟩⟩
          case rest =>
            obtain ⟨rfl, hb9⟩ := hcut
            have hs9 := below_blk2 hb9 hs7
            have hg9 := below_blk2 hb9 hg7
            have hk9 := below_blk2 hb9 hk7
            have hc9 := hc7.trans (hb9.mono hc7.size)
            have hp9 := hp7.below hb9
            have hom9 := own_below hom7 hb9
            clear hs7 hg7 hk7 hc7 hp7 hom7 hb9 k0 k1 k2 k3 hpr hmr HBL
            cases bq with
            | false =>
              have HQ := Lib.hid (seg_open (y := y) (P := P) (sl := sealG) HZ.out hnb (by rw [HQQ.out, if_neg (of_decide_eq_false HBQ.out)]))
              go_wp2_with (first
                | (with_reducible refine wpList_load_row rfl 27 (.tmp 11) rfl w2.heap.size rfl _ _ (0, 0) _ hs9 Tryd.underlying27 rfl (by with_unfolding_all exact info_sg) ?_)
                | (with_reducible refine wpList_store_row rfl 27 (.tmp 2) (.tmp 104) rfl w.heap.size (bRow x y cnt E) rfl rfl _ _ hg9 (by with_unfolding_all exact info_sg) (by with_unfolding_all exact rfl) (by with_unfolding_all exact rfl) ?_))
              have h0Z := setRow_heap _ w.heap.size _ (bRow x y cnt E) _ _ hg9
              refine bodyPost_ret (ret_sg (cs := bRow x y cnt E) rfl rfl h0Z rfl rfl rfl) rfl ?_
              rw [HS.out, HQ.out]
              refine ⟨xs, ax, cx, none, 0, HXQ.out, ?_, (hp9.set (bRow x y cnt E) hlt).lower (by omega) |> cast (by rw [HXL.out]), World.ownsRow_nil _ _ _ _, row_end hc9⟩
              rw [HXL.out, HCNT.out]
              rfl
            | true =>
              have hqq := of_decide_eq_true HBQ.out
              have HQ := Lib.hid (seg_shut (y := y) (P := P) (sl := sealG) HZ.out hnb (by rw [HQQ.out, if_pos hqq]))
              have HQ3 := Lib.hid hqq
              clear hqq
              have hk20 : k ≤ 16404 := by
                have he0 : ef = 0 := by omega
                have hz := HZ.out
                rw [he0] at hz
                have := decF_one hz
                omega
              have hE40 : E ≤ 1099511627776 := by omega
              have k2 : wc.cell? ⟨w6.heap.size, 2, none⟩ = some (.int .i64 (cl.stride : Int)) := cell_blk hk9 rfl
              have k3 : wc.cell? ⟨w6.heap.size, 3, none⟩ = some (.slice am cl.marks.length cm) := cell_blk hk9 rfl
              have z3 : wc.frozen? ⟨w2.heap.size, 3, none⟩ = false := by unfold World.frozen?; simp [hs9]
              have z4 : wc.frozen? ⟨w2.heap.size, 4, none⟩ = false := by unfold World.frozen?; simp [hs9]
              have z5 : wc.frozen? ⟨w2.heap.size, 5, none⟩ = false := by unfold World.frozen?; simp [hs9]
              have y3 : wc.cell? ⟨w2.heap.size, 3, none⟩ = some (.bool false) := cell_blk hs9 rfl
              have y4 : wc.cell? ⟨w2.heap.size, 4, none⟩ = some (.int .i64 0) := cell_blk hs9 rfl
              have y5 : wc.cell? ⟨w2.heap.size, 5, none⟩ = some (.slice none 0 0) := cell_blk hs9 rfl
              have hne : w6.heap.size ≠ w2.heap.size := by
                intro e
                rw [e, hs9] at hk9
                simp at hk9
              go_wp2_with fail
              go_region_held3 (fun w' => w'.cell? ⟨w6.heap.size, 2, none⟩ = some (.int .i64 (cl.stride : Int)) ∧ w'.cell? ⟨w6.heap.size, 3, none⟩ = some (.slice am cl.marks.length cm))
                (first
                  | exact ⟨k2, k3⟩
                  | exact ⟨cell_oth hne k2, cell_oth hne k3⟩
                  | exact ⟨cell_oth hne (cell_oth hne k2), cell_oth hne (cell_oth hne k3)⟩
                  | exact ⟨cell_oth hne (cell_oth hne (cell_oth hne k2)), cell_oth hne (cell_oth hne (cell_oth hne k3))⟩)
                (fail)
              have hs10 : ((((wc.setCell ⟨w2.heap.size, 3, none⟩ (.bool true)).setCell ⟨w2.heap.size, 4, none⟩ (.int .i64 (cl.stride : Int))).setCell ⟨w2.heap.size, 5, none⟩ (.slice am cl.marks.length cm)).drew).heap[w2.heap.size]? =
                  some (.cells #[.int .i64 (x : Int), .int .i64 (y : Int), .int .i64 (cnt : Int), .bool true, .int .i64 (cl.stride : Int), .slice am cl.marks.length cm, .int .i64 (E : Int)] 27 (0, 0)) := by
                have h1 : (wc.setCell ⟨w2.heap.size, 3, none⟩ (.bool true)).heap[w2.heap.size]? = some (.cells #[.int .i64 (x : Int), .int .i64 (y : Int), .int .i64 (cnt : Int), .bool true, .int .i64 0, .slice none 0 0, .int .i64 (E : Int)] 27 (0, 0)) := blk_set hs9
                have h2 : ((wc.setCell ⟨w2.heap.size, 3, none⟩ (.bool true)).setCell ⟨w2.heap.size, 4, none⟩ (.int .i64 (cl.stride : Int))).heap[w2.heap.size]? = some (.cells #[.int .i64 (x : Int), .int .i64 (y : Int), .int .i64 (cnt : Int), .bool true, .int .i64 (cl.stride : Int), .slice none 0 0, .int .i64 (E : Int)] 27 (0, 0)) := blk_set h1
                exact blk_set h2
              have hgr : wc.grownBy ((((wc.setCell ⟨w2.heap.size, 3, none⟩ (.bool true)).setCell ⟨w2.heap.size, 4, none⟩ (.int .i64 (cl.stride : Int))).setCell ⟨w2.heap.size, 5, none⟩ (.slice am cl.marks.length cm)).drew) (some w2.heap.size) := by
                have g := grownBy_trans (grownBy_trans (grownBy_setCell1 wc w2.heap.size 3 (.bool true)) (grownBy_setCell1 _ w2.heap.size 4 (.int .i64 (cl.stride : Int)))) (grownBy_setCell1 _ w2.heap.size 5 (.slice am cl.marks.length cm))
                exact ⟨g.os, g.tape, g.output, g.size, g.block⟩
              obtain ⟨WA, hWA⟩ : ∃ WA, ((((wc.setCell ⟨w2.heap.size, 3, none⟩ (.bool true)).setCell ⟨w2.heap.size, 4, none⟩ (.int .i64 (cl.stride : Int))).setCell ⟨w2.heap.size, 5, none⟩ (.slice am cl.marks.length cm)).drew) = WA := ⟨_, rfl⟩
              rw [hWA] at hs10 hgr ⊢
              have v6 : WA.cell? ⟨w2.heap.size, 6, none⟩ = some (.int .i64 (E : Int)) := cell_blk hs10 rfl
              have v7 : WA.frozen? ⟨w2.heap.size, 6, none⟩ = false := by unfold World.frozen?; simp [hs10]
              have hs11 : (WA.setCell ⟨w2.heap.size, 6, none⟩ (.int .i64 ((E : Int) + (k : Int)))).heap[w2.heap.size]? = some (.cells #[.int .i64 (x : Int), .int .i64 (y : Int), .int .i64 (cnt : Int), .bool true, .int .i64 (cl.stride : Int), .slice am cl.marks.length cm, .int .i64 ((E : Int) + (k : Int))] 27 (0, 0)) := blk_set hs10
              have hg2 := grownBy_trans hgr (grownBy_setCell1 WA w2.heap.size 6 (.int .i64 ((E : Int) + (k : Int))))
              have hloz : w.heap.size ≤ w2.heap.size := hc2s
              have hneg : w.heap.size ≠ w2.heap.size := by
                intro e
                rw [e, hs9] at hg9
                simp at hg9
                omega
              have hg11 := (hg2.block w.heap.size (lt_of_block hg9) (fun e => hneg (Option.some.inj e))).trans hg9
              have hc11 := hc9.grown hg2 hc9.size (fun j e => by cases e; exact hloz)
              have hp11 : PlsAt lo (.slice ax cnt cx) xs (WA.setCell ⟨w2.heap.size, 6, none⟩ (.int .i64 ((E : Int) + (k : Int)))) :=
                ⟨own_on hp9.1 fun g cs _ _ hw => (hg2.block g (lt_of_block hw) fun e => by
                    rw [Option.some.inj e, hs9] at hw
                    simp at hw).trans hw, fun z hz => own_on (hp9.2 z hz) fun g cs _ _ hw => (hg2.block g (lt_of_block hw) fun e => by
                    rw [Option.some.inj e, hs9] at hw
                    simp at hw).trans hw⟩
              have hom11 := own_on (W' := WA.setCell ⟨w2.heap.size, 6, none⟩ (.int .i64 ((E : Int) + (k : Int)))) hom9 fun g cs _ hb hw => (hg2.block g (lt_of_block hw) fun e => by have := Option.some.inj e; omega).trans hw
              have HP := Lib.hid hp11
              have HO := Lib.hid hom11
              have HCC := Lib.hid hc11
              have HG11 := Lib.hid hg11
              have HS11 := Lib.hid hs11
              clear hWA hs10 hgr hg2 hp11 hom11 hc11 hg11 hs11 k2 k3 z3 z4 z5 y3 y4 y5 hs9 hg9 hk9 hc9 hp9 hom9
              go_upto_region 13 with fail
              have hs12 := HS11.out
              have hg12 := HG11.out
              go_wp2_with (first
                | (with_reducible refine wpList_load_row rfl 27 (.tmp 11) rfl w2.heap.size rfl _ _ (0, 0) _ hs12 Tryd.underlying27 rfl (by with_unfolding_all exact info_sg) ?_)
                | (with_reducible refine wpList_store_row rfl 27 (.tmp 2) (.tmp 104) rfl w.heap.size (sgRow ⟨x, y, cnt, true, cl.stride, cl.marks, E + k⟩ (.slice am cl.marks.length cm)) rfl rfl _ _ hg12 (by with_unfolding_all exact info_sg) (by with_unfolding_all exact rfl) (by with_unfolding_all exact rfl) ?_))
              have h0Z := setRow_heap _ w.heap.size _ (sgRow ⟨x, y, cnt, true, cl.stride, cl.marks, E + k⟩ (.slice am cl.marks.length cm)) _ _ hg12
              refine bodyPost_ret (ret_sg (cs := sgRow ⟨x, y, cnt, true, cl.stride, cl.marks, E + k⟩ (.slice am cl.marks.length cm)) rfl rfl h0Z rfl rfl rfl) rfl ?_
              rw [HS.out, HQ.out, ← HQ3.out.2.2]
              refine ⟨xs, ax, cx, am, cm, HXQ.out, ?_, (HP.out.set _ hlt).lower (by omega) |> cast (by rw [HXL.out]), own_mono (own_set HO.out _ (by omega)) (by omega), row_end HCC.out⟩
              rw [HXL.out, HCNT.out]
              rfl
  · have heb : ((er : Int) != 0) = true := by rw [bne_iff_ne]; omega
    have HR := Lib.hid (scanS_err hh he)
    clear hh hbd
    go_wp2_with (with_reducible refine wpList_store_row rfl 27 (.tmp 2) (.tmp 25) rfl w.heap.size zRow rfl rfl _ _ hg1 (by with_unfolding_all exact info_sg) (by with_unfolding_all exact rfl) (by with_unfolding_all exact rfl) ?_)
    have hgZ := setRow_heap w1 w.heap.size _ zRow _ _ hg1
    refine bodyPost_ret (ret_sg (cs := zRow) rfl rfl hgZ rfl rfl rfl) rfl ?_
    rw [HR.out]
    exact ⟨[], none, 0, none, 0, rfl, rfl, PlsAt.nil _ _, World.ownsRow_nil _ _ _ _, row_end hc1⟩
end Go.Proofs.YtffhejaeliphcaaDoor
