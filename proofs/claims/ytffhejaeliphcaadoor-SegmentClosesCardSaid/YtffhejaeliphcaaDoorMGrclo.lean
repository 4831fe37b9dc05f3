/-
  The walk of the reference's Closing. Condition: the argument reads as bytes.
-/
import Derived.Test.YtffhejaeliphcaaDoorMGq
import Derived.Test.YtffhejaeliphcaaDoorMIrdec
import Derived.Test.YtffhejaeliphcaaDoorMVd
import Derived.Deep.DeepCutAuto
import Derived.Deep.CutBlock
namespace Go.Proofs.YtffhejaeliphcaaDoor
open Go.RowKit
set_option linter.unusedVariables false

/-- An unsigned number in memory. -/
def UN (n : Nat) : Value := .int .u64 (n : Int)
theorem slUN : SlTy Tryd.prog 98 99 1 8 (.int .u64 0) := slTy_mk Tryd.underlying98 (by kernel_rfl) rfl (by decide) (by decide)
def slN : Value → Nat
  | .slice _ n _ => n
  | _ => 0
theorem ceil_eq {ct st n : Nat} (hs : 1 ≤ st) (h1 : ct ≤ n * st) (h2 : n * st < ct + st) : n = (ct + st - 1) / st := by
  symm
  refine Nat.div_eq_of_lt_le (by omega) ?_
  rw [Nat.succ_mul]; omega
theorem ceil_small {ct st n : Nat} (hs : 1 ≤ st) (h : n * st < ct) : n ≠ (ct + st - 1) / st := by
  intro he
  have := (Nat.div_lt_iff_lt_mul (x := ct + st - 1) (y := n + 1) hs).1 (by omega)
  rw [Nat.succ_mul] at this
  omega
theorem ceil_big {ct st n j : Nat} (hs : 1 ≤ st) (h : ct ≤ j * st) (hj : j < n) : n ≠ (ct + st - 1) / st := by
  intro he
  have := (Nat.div_lt_iff_lt_mul (x := ct + st - 1) (y := j + 1) hs).2 (by rw [Nat.succ_mul]; omega)
  omega

set_option maxRecDepth 8000 in
set_option maxHeartbeats 3200000 in
theorem rclosing_any (a : Option Addr) (n c : Nat) (l : List UInt8) (num first count ft : Int) (w : World) (r : RowAt w a n c 1 (l.map B)) :
    Calls Tryd.prog 24 #[.slice a n c, .agg #[.int .i64 num, .int .i64 first, .int .i64 count, .int .i64 ft]] w (GivesCs w (closF l num first count ft)) := by
  have hb0 := below_made w (.cells #[.int .i64 num, .int .i64 first, .int .i64 count, .int .i64 ft] 58)
  have hg0 := World.alloc_heap_new w (.cells #[.int .i64 num, .int .i64 first, .int .i64 count, .int .i64 ft] 58)
  have r0 := r.below hb0
  obtain ⟨x, hx⟩ : ∃ x, wholeF l 3 = x := ⟨_, rfl⟩
  obtain ⟨f, er⟩ := x
  have HW := fun wx rx => rwhole_any a n c l 3 wx rx
  rw [hx] at HW
  have HWH := Lib.hid HW
  have HX := Lib.hid hx
  clear HW hx
  go_enter Tryd.func24, Tryd.ntmps24
  go_wp2_with fail
  (with_reducible refine (HWH.out _ r0).mono ?_)
  rintro e w1 ⟨a1, c1, rfl, ho1, hb1⟩
  simp only at ho1 ⊢
  have hm2 := below_made w1 (.cells #[.int .i64 (f.kind : Int), .int .i64 (f.seq : Int), .slice a1 f.body.length c1] 53)
  have hg2 := World.alloc_heap_new w1 (.cells #[.int .i64 (f.kind : Int), .int .i64 (f.seq : Int), .slice a1 f.body.length c1] 53)
  have hs2 := below_blk2 (hb1.trans (hm2.mono hb1.size)) hg0
  have hc2 := below_next (below_next hb0 hb1) hm2
  have q2 := (own_rowAt ho1).below hm2
  obtain ⟨w2, hw2⟩ : ∃ w2, w1.alloc (.cells #[.int .i64 (f.kind : Int), .int .i64 (f.seq : Int), .slice a1 f.body.length c1] 53) = w2 := ⟨_, rfl⟩
  rw [hw2] at hg2 hs2 hc2 q2
  have y1 := cls_at hg2 1 (.int .i64 (f.seq : Int)) rfl
  have y2 := cls_at hg2 2 (.slice a1 f.body.length c1) rfl
  have z0 := cls_at hs2 0 (.int .i64 num) rfl
  have z1 := cls_at hs2 1 (.int .i64 first) rfl
  have z2 := cls_at hs2 2 (.int .i64 count) rfl
  have z3 := cls_at hs2 3 (.int .i64 ft) rfl
  clear hb0 hg0 r0 HWH ho1 hb1 hm2 hg2
  go_upto_region 2 with fail
  clear hw2
  by_cases he : er = 0
  rotate_left
  · have HR := Lib.hid (closF_err (first := first) (count := count) (ft := ft) (num := num) HX.out (.inl he))
    have heb : ((er : Int) != 0) = true := by rw [bne_iff_ne]; omega
    clear he
    go_wp2_with fail
    go_ret3
    rw [HR.out]
    exact ⟨rfl, hc2⟩
  subst he
  rw [show ((0 : Nat) : Int) = 0 from rfl]
  by_cases hq : (f.seq : Int) = num
  rotate_left
  · have HR := Lib.hid (closF_err (first := first) (count := count) (ft := ft) HX.out (.inr hq))
    have hqb : ((f.seq : Int) != num) = true := by rw [bne_iff_ne]; exact hq
    clear hq
    go_wp2_with fail
    go_ret3
    rw [HR.out]
    exact ⟨rfl, hc2⟩
  have hqb : ((f.seq : Int) != num) = false := by simp [hq]
  have HR := Lib.hid (closF_ok (first := first) (count := count) (ft := ft) HX.out hq)
  obtain ⟨bd, hbd⟩ : ∃ bd, f.body = bd := ⟨_, rfl⟩
  rw [hbd] at HR q2 y2
  have HBD := Lib.hid hbd
  obtain ⟨nb, hnb⟩ : ∃ nb, bd.length = nb := ⟨_, rfl⟩
  rw [hnb] at q2 y2
  have HNB := Lib.hid hnb
  have mq1 := q2.2.1
  have mq2 := q2.2.2.1
  unfold maxLen at mq2
  clear hq hbd hnb HX
  have hm3 := below_made w2 (.cells #[] 99)
  have ho3 := World.alloc_heap_new w2 (.cells #[] 99)
  have hc3 := below_next hc2 hm3
  have hI0 : (w2.alloc (.cells #[] 99)).ownsRow w2.heap.size 99 1 (.slice (some ⟨w2.heap.size, 0, none⟩) 0 0) 0 (([] : List Nat).map UN) := ⟨rfl, .inr ⟨w2.heap.size, 0, #[], rfl, Nat.le_refl _, ho3, Nat.le_refl _, by decide, rfl, rfl⟩⟩
  clear ho3
  go_wp2_with fail
  clear y1 z0 hqb
  go_loopw [9, 10] (fun vv tv wr => ∃ (us : List Nat) (at0 : Nat) (av : Option Addr) (cv : Nat), vv = .slice av us.length cv ∧ tv = .int .i64 (at0 : Int) ∧ us.length ≤ 3 ∧ at0 ≤ nb ∧ Hid (unN bd us.length = some (us, bd.drop at0)) ∧
    wr.ownsRow w2.heap.size 99 1 (.slice av us.length cv) us.length (us.map UN) ∧ Below w2.heap.size w2 wr) (fun vv _ _ => 3 - slN vv)
  case atStart => exact ⟨[], 0, _, _, rfl, rfl, by simp, Nat.zero_le _, Lib.hid rfl, hI0, hm3⟩
  case round =>
    clear hI0 hm3 hc3
    obtain ⟨us, at0, av, cv, rfl, rfl, hu3, ha, HT, hown, hb⟩ := hrel
    have f2 := (World.cell?_of_block (hb.block _ (World.block_lt_of_cell? w2 _ y2))).trans y2
    by_cases hlt : us.length < 3
    · obtain ⟨g1, g2, g3, g4⟩ := dec_bd (bd.drop at0)
      obtain ⟨y, hy⟩ : ∃ y, dec (bd.drop at0) = y := ⟨_, rfl⟩
      obtain ⟨u, q, e⟩ := y
      have HY := Lib.hid hy
      rw [hy] at g1 g2 g3 g4
      simp only at g1 g2 g3 g4
      rw [List.length_drop, HNB.out] at g3
      have g1' : u < 2 ^ 64 := by omega
      have HS := Lib.hid (unN_step HT.out)
      have HW : Hid (decV (bd.drop at0) = .tuple #[.int .u64 (u : Int), .int .i64 (q : Int), .int .i64 (e : Int)]) := Lib.hid (by unfold decV; rw [HY.out])
      rw [HY.out] at HS
      obtain ⟨a', hcut, r4⟩ := cut_from slB (q2.below hb) at0 ha
      rw [Nat.mul_one, ← List.map_drop] at r4
      clear hy g1
      have hno : unN bd 3 = none → Hid (closF l num first count ft = none) := fun h => Lib.hid (HR.out.trans (by rw [unclF_none h]; rfl))
      by_cases he : e = 0
      · subst he
        by_cases hu : 2199023255552 < u
        · have HN := hno (unN_more (by rw [HS.out, if_pos (.inr hu)]) 3 (by omega))
          clear hno
          go_wp2_with fail
          refine (rdec_any _ _ _ (bd.drop at0) _ r4).mono ?_
          rintro e w5 ⟨rfl, rfl⟩
          rw [HW.out]
          go_wp2_with fail
          go_ret3
          rw [HN.out]
          exact ⟨rfl, hc2.trans (hb.mono hc2.size)⟩
        · have HN : Hid (unN bd (us ++ [u]).length = some (us ++ [u], bd.drop (at0 + q))) := Lib.hid (by rw [List.length_append, List.length_singleton, HS.out, if_neg (by simp; omega), List.drop_drop])
          clear hno
          have hsz := hb.size
          go_wp2_with fail
          refine (rdec_any _ _ _ (bd.drop at0) _ r4).mono ?_
          rintro e w5 ⟨rfl, rfl⟩
          rw [HW.out]
          go_wp2_with (at_builtin; refine wpList_app1 rfl _ _ 98 rfl slUN rfl hown rfl rfl (one1 _ _) (by omega) (by omega) fun a3 cap3 w3 hown3 hg3 => ?_)
          go_roundw
          case rel =>
            exact ⟨us ++ [u], at0 + q, a3, cap3, by simp, by go_num, by simp; omega, by omega, HN, by simpa [UN] using hown3, hb.grown hg3 hsz (own_block hown)⟩
          case measure => simp [slN]; omega
      · have he' : ((e : Int) != 0) = true := by rw [bne_iff_ne]; omega
        have HN := hno (unN_more (by rw [HS.out, if_pos (.inl he)]) 3 (by omega))
        clear he hno
        go_wp2_with fail
        refine (rdec_any _ _ _ (bd.drop at0) _ r4).mono ?_
        rintro e w5 ⟨rfl, rfl⟩
        rw [HW.out]
        go_wp2_with fail
        go_ret3
        rw [HN.out]
        exact ⟨rfl, hc2.trans (hb.mono hc2.size)⟩
    · obtain ⟨f', ct, st, rfl⟩ : ∃ f' ct st, us = [f', ct, st] := by
        match us, (show us.length = 3 by omega) with
        | [x, y, z], _ => exact ⟨x, y, z, rfl⟩
      have HU : Hid (unN bd 3 = some ([f', ct, st], bd.drop at0)) := Lib.hid HT.out
      obtain ⟨_, _, _, hv, v1, v2, v3⟩ := unN3_some HU.out
      simp only [List.cons.injEq, and_true] at hv
      obtain ⟨rfl, rfl, rfl⟩ := hv
      have r4 := own_rowAt hown
      simp only [List.map_cons, List.map_nil, List.length_cons, List.length_nil, Nat.zero_add, Nat.reduceAdd] at r4 ⊢
      obtain ⟨bv, ov, rfl, hc0, hc1, hc2'⟩ : ∃ bv ov, av = some ⟨bv, ov, none⟩ ∧ wr.cell? ⟨bv, ov, none⟩ = some (.int .u64 (f' : Int)) ∧ wr.cell? ⟨bv, ov + 1, none⟩ = some (.int .u64 (ct : Int)) ∧ wr.cell? ⟨bv, ov + 2, none⟩ = some (.int .u64 (st : Int)) := by
        obtain ⟨b0, o0, x0, e0, h0, d0⟩ := r4.at 0 (by decide)
        obtain ⟨b1, o1, x1, e1, h1, d1⟩ := r4.at 1 (by decide)
        obtain ⟨b2, o2, x2, e2, h2, d2⟩ := r4.at 2 (by decide)
        rw [e0] at e1 e2
        cases e1
        cases e2
        simp [UN] at h0 h1 h2
        exact ⟨b0, o0, e0, by rw [Nat.add_zero] at d0; rw [d0, ← h0], by rw [d1, ← h1], by rw [d2, ← h2]⟩
      have mv1 := r4.2.1
      have mv2 := r4.2.2.1
      unfold maxLen at mv2
      obtain ⟨a5, hcut, r5⟩ := cut_from slB (q2.below hb) at0 ha
      rw [Nat.mul_one, ← List.map_drop] at r5
      have f4 := (World.cell?_of_block (hb.block _ (World.block_lt_of_cell? w2 _ z1))).trans z1
      have f5 := (World.cell?_of_block (hb.block _ (World.block_lt_of_cell? w2 _ z2))).trans z2
      have f6 := (World.cell?_of_block (hb.block _ (World.block_lt_of_cell? w2 _ z3))).trans z3
      have hc7 := hc2.trans (hb.mono hc2.size)
      obtain ⟨x, hxd⟩ : ∃ x, decIx (bd.drop at0) = x := ⟨_, rfl⟩
      obtain ⟨ms, er⟩ := x
      have hd := irdec_any a5 (nb - at0) (c1 - at0) (bd.drop at0) wr r5
      rw [hxd] at hd
      have HD := Lib.hid hd
      have HXD := Lib.hid hxd
      clear hd hxd r5 r4 hown z1 z2 z3 y2 q2 hs2 hb hc2 HT hlt
      go_wp2_with fail
      (with_reducible refine (HD.out).mono ?_)
      rintro e w5 ⟨am, cm, rfl, hom, hb5⟩
      simp only at hom ⊢
      have g0 := (World.cell?_of_block (hb5.block _ (World.block_lt_of_cell? wr _ hc0))).trans hc0
      have g1 := (World.cell?_of_block (hb5.block _ (World.block_lt_of_cell? wr _ hc1))).trans hc1
      have g2 := (World.cell?_of_block (hb5.block _ (World.block_lt_of_cell? wr _ hc2'))).trans hc2'
      have g4 := (World.cell?_of_block (hb5.block _ (World.block_lt_of_cell? wr _ f4))).trans f4
      have g5 := (World.cell?_of_block (hb5.block _ (World.block_lt_of_cell? wr _ f5))).trans f5
      have g6 := (World.cell?_of_block (hb5.block _ (World.block_lt_of_cell? wr _ f6))).trans f6
      have hc8 := below_next hc7 hb5
      have ho8 := own_mono hom hc7.size
      clear hc0 hc1 hc2' f2 f4 f5 f6 hb5 hom HD hc7
      obtain ⟨bb, hbb⟩ : ∃ bb, decide (er ≠ 0 ∨ ct < 1 ∨ st < 1 ∨ 64 < st ∨ (f' : Int) ≠ first ∨ (ct : Int) ≠ count) = bb := ⟨_, rfl⟩
      go_upto_region 13 with fail
      go_cut [103] (fun s wx => s = .bool bb ∧ ∃ q, wx = w5.drewN q)
      case first =>
        by_cases d1 : er = 0
        · have e1 : ((er : Int) != 0) = false := by simp [d1]
          by_cases d2 : ct < 1
          · have e2 : decide ((ct : Int) < 1) = true := decide_eq_true (by omega)
            have hb : bb = true := by rw [← hbb]; exact decide_eq_true (.inr (.inl d2))
            subst hb
            clear hbb
            go_quiet (fail)
            go_wp2_with fail
            go_meet
            exact ⟨by simp, _, rfl⟩
          have e2 : decide ((ct : Int) < 1) = false := decide_eq_false (by omega)
          by_cases d3 : st < 1
          · have e3 : decide ((st : Int) < 1) = true := decide_eq_true (by omega)
            have hb : bb = true := by rw [← hbb]; exact decide_eq_true (.inr (.inr (.inl d3)))
            subst hb
            clear hbb
            go_quiet (fail)
            go_wp2_with fail
            go_meet
            exact ⟨by simp, _, rfl⟩
          have e3 : decide ((st : Int) < 1) = false := decide_eq_false (by omega)
          by_cases d4 : 64 < st
          · have e4 : decide (64 < (st : Int)) = true := decide_eq_true (by omega)
            have hb : bb = true := by rw [← hbb]; exact decide_eq_true (.inr (.inr (.inr (.inl d4))))
            subst hb
            clear hbb
            go_quiet (fail)
            go_wp2_with fail
            go_meet
            exact ⟨by simp, _, rfl⟩
          have e4 : decide (64 < (st : Int)) = false := decide_eq_false (by omega)
          by_cases d5 : (f' : Int) = first
          · have e5 : ((f' : Int) != first) = false := by simp [d5]
            by_cases d6 : (ct : Int) = count
            · have e6 : ((ct : Int) != count) = false := by simp [d6]
              have hb : bb = false := by rw [← hbb]; exact decide_eq_false (by exact fun hh => hh.elim (fun h => h d1) fun hh => hh.elim d2 fun hh => hh.elim d3 fun hh => hh.elim d4 fun hh => hh.elim (fun h => h d5) (fun h => h d6))
              subst hb
              clear hbb d5 d6
              go_quiet (fail)
              go_wp2_with fail
              go_meet
              exact ⟨by simp, _, rfl⟩
            · have e6 : ((ct : Int) != count) = true := by rw [bne_iff_ne]; exact d6
              have hb : bb = true := by rw [← hbb]; exact decide_eq_true (.inr (.inr (.inr (.inr (.inr d6)))))
              subst hb
              clear hbb d5 d6
              go_quiet (fail)
              go_wp2_with fail
              go_meet
              exact ⟨by simp, _, rfl⟩
          · have e5 : ((f' : Int) != first) = true := by rw [bne_iff_ne]; exact d5
            have hb : bb = true := by rw [← hbb]; exact decide_eq_true (.inr (.inr (.inr (.inr (.inl d5)))))
            subst hb
            clear hbb d5
            go_quiet (fail)
            go_wp2_with fail
            go_meet
            exact ⟨by simp, _, rfl⟩
        · have e1 : ((er : Int) != 0) = true := by rw [bne_iff_ne]; omega
          have hb : bb = true := by rw [← hbb]; exact decide_eq_true (.inl d1)
          subst hb
          clear hbb d1
          go_quiet (fail)
          go_wp2_with fail
          go_meet
          exact ⟨by simp, _, rfl⟩
      case rest =>
        obtain ⟨rfl, nq, rfl⟩ := hcut
        have HB := Lib.hid hbb
        clear hbb
        cases bb with
        | true =>
          have HN : Hid (closF l num first count ft = none) := Lib.hid (by
            rw [HR.out]
            have h := of_decide_eq_true HB.out
            by_cases hb : st < 1 ∨ 64 < st ∨ ct < 1
            · rw [unclF_bad HU.out hb]; rfl
            · by_cases he : (decIx (bd.drop at0)).2 = 0
              · rw [unclF_ok HU.out hb he]
                rw [HXD.out] at he
                refine closB_no ?_
                simp only at he ⊢
                omega
              · rw [unclF_err HU.out hb he]; rfl)
          go_wp2_with fail
          go_ret3
          rw [HN.out]
          exact ⟨rfl, below_dn hc8⟩
        | false =>
          have hB := of_decide_eq_false HB.out
          obtain ⟨rfl, d2, d3, d4, d5, d6⟩ : er = 0 ∧ 1 ≤ ct ∧ 1 ≤ st ∧ st ≤ 64 ∧ (f' : Int) = first ∧ (ct : Int) = count := by omega
          rw [show ((0 : Nat) : Int) = 0 from rfl]
          have HC : Hid (closF l num first count ft = closB (some ⟨f', ct, st, ms⟩) first count ft) := Lib.hid (by
            rw [HR.out, unclF_ok HU.out (by omega) (by rw [HXD.out]), HXD.out])
          have hok : okN ms = true := by
            have := (ix_one (l := bd.drop at0) (by rw [HXD.out])).1
            rwa [HXD.out] at this
          have k7 := ((okN_iff ms).1 hok).1
          have k8 := ((okN_iff ms).1 hok).2.1
          obtain ⟨nm, hnm⟩ : ∃ nm, ms.length = nm := ⟨_, rfl⟩
          rw [hnm] at ho8 k7 ⊢
          have HNM := Lib.hid hnm
          have HK8 := Lib.hid k8
          have HD5 := Lib.hid d5
          have HD6 := Lib.hid d6
          rw [← d6] at g5
          rw [← d5] at g4
          obtain ⟨w6, hw6⟩ : ∃ w6, w5.drewN nq = w6 := ⟨_, rfl⟩
          have hb6 : Below w5.heap.size w5 w6 := by rw [← hw6]; exact below_dn (Below.refl _ _)
          have hc9 := hc8.trans (hb6.mono hc8.size)
          have ho9 := own_below ho8 hb6
          have m2 : w6.cell? ⟨bv, ov + 2, none⟩ = some (.int .u64 (st : Int)) := by rw [← hw6]; exact g2
          have m4 : w6.cell? ⟨w.heap.size, 1, none⟩ = some (.int .i64 (f' : Int)) := by rw [← hw6]; exact g4
          have m5 : w6.cell? ⟨w.heap.size, 2, none⟩ = some (.int .i64 (ct : Int)) := by rw [← hw6]; exact g5
          have m6 : w6.cell? ⟨w.heap.size, 3, none⟩ = some (.int .i64 ft) := by rw [← hw6]; exact g6
          rw [hw6]
          have r6 := own_rowAt ho9
          clear hB hok k8 hnm d5 d6 g0 g1 g2 g4 g5 g6 hc8 ho8 hw6 hb6 HB
          go_wp2_with fail
          go_loopw [16, 112] (fun lv iv wr => ∃ (j : Nat) (D : Int), lv = .int .i64 D ∧ iv = .int .i64 (j : Int) ∧ j ≤ nm ∧ Hid (D = (ct : Int) - ((j * st : Nat) : Int)) ∧ -32768 ≤ D ∧ D ≤ 2199023255552 ∧ Hid (j * st < ct + st) ∧
            Hid (∀ i m, i < j → ms[i]? = some m → m.s = ((f' + i * st : Nat) : Int) ∧ m.a < ft) ∧ Below w6.heap.size w6 wr) (fun _ iv _ => nm - (intOf iv).toNat)
          case atStart => exact ⟨0, (ct : Int), rfl, rfl, Nat.zero_le _, Lib.hid (by simp), by omega, by omega, Lib.hid (by omega), Lib.hid (fun i m h => absurd h (Nat.not_lt_zero _)), Below.refl _ _⟩
          case round =>
            obtain ⟨j, D, rfl, rfl, hj, HD, hD1, hD2, HQ, HJ, hb⟩ := hrel
            have k4 := (World.cell?_of_block (hb.block _ (World.block_lt_of_cell? w6 _ m4))).trans m4
            have k6 := (World.cell?_of_block (hb.block _ (World.block_lt_of_cell? w6 _ m6))).trans m6
            have hfin : Hid (∀ wx, Below w6.heap.size w6 wx → Below w.heap.size w wx) := Lib.hid fun wx h => hc9.trans (h.mono hc9.size)
            by_cases hjn : j < nm
            · obtain ⟨b, off, m, rfl, hm, x0, x1⟩ := mk_at (r6.below hb) j hjn
              have hmm := HK8.out m (List.mem_of_getElem? hm)
              obtain ⟨q0, q1, q2, q3⟩ := hmm
              have HM := Lib.hid hm
              have me1 := r6.2.1
              have me2 := r6.2.2.1
              unfold maxLen at me2
              have hmul : j * st ≤ 512 * 64 := Nat.mul_le_mul (by omega) d4
              have hmul2 : (j + 1) * st ≤ 512 * 64 := Nat.mul_le_mul (by omega) d4
              have hjy : (j : Int) * (st : Int) = ((j * st : Nat) : Int) := by simp
              have hjw : IntKind.i64.wrap ((j : Int) * (st : Int)) = ((j * st : Nat) : Int) := by rw [hjy]; exact IntWalk.i64_in _ (by omega)
              rw [Nat.succ_mul] at hmul2
              obtain ⟨P, hP⟩ : ∃ P, j * st = P := ⟨_, rfl⟩
              rw [hP] at hmul hjw hmul2
              have HP := Lib.hid hP
              by_cases d1 : D ≤ 0
              · have HN : Hid (closF l num first count ft = none) := Lib.hid (HC.out.trans (closB_no (.inr (.inr (by
                  show ms.length ≠ (ct + st - 1) / st
                  rw [HNM.out]
                  exact ceil_big d3 (by have h := HD.out; rw [hP] at h ⊢; omega) hjn)))))
                clear hjy hP hm x0 x1 k4 k6
                go_wp2_with fail
                go_quiet (fail)
                go_wp2_with fail
                go_ret3
                rw [HN.out]
                exact ⟨rfl, hfin.out _ (below_dn hb)⟩
              have e1 : decide (D ≤ 0) = false := decide_eq_false d1
              have hno : ¬ (m.s = ((f' + P : Nat) : Int) ∧ m.a < ft) → Hid (closF l num first count ft = none) := fun h =>
                Lib.hid (HC.out.trans (closB_unfit (fitM_no HM.out (by rw [HP.out]; exact h))))
              by_cases d7 : m.s = ((f' : Int) + (P : Int))
              · have e2 : (m.s != ((f' : Int) + (P : Int))) = false := by simp [d7]
                by_cases d8 : m.a < ft
                · have e3 : decide (ft ≤ m.a) = false := decide_eq_false (by omega)
                  have HS : Hid (∀ i m', i < j + 1 → ms[i]? = some m' → m'.s = ((f' + i * st : Nat) : Int) ∧ m'.a < ft) := Lib.hid fun i m' hi hm' => by
                    by_cases hij : i < j
                    · exact HJ.out i m' hij hm'
                    · obtain rfl : i = j := by omega
                      rw [HM.out] at hm'
                      obtain rfl := Option.some.inj hm'
                      rw [HP.out]
                      exact ⟨by rw [d7]; simp, d8⟩
                  have HD' : Hid (D - (st : Int) = (ct : Int) - (((j + 1) * st : Nat) : Int)) := Lib.hid (by rw [HD.out, Nat.succ_mul]; omega)
                  have HQ' : Hid ((j + 1) * st < ct + st) := Lib.hid (by rw [Nat.succ_mul]; have := HD.out; omega)
                  have hD3 : -32768 ≤ D - (st : Int) := by omega
                  clear hno d7 hjy hP hm
                  go_wp2_with fail
                  go_quiet (fail)
                  go_wp2_with fail
                  go_roundw
                  case rel => exact ⟨j + 1, D - (st : Int), by go_num, by go_num, by omega, HD', hD3, by omega, HQ', HS, below_dn hb⟩
                  case measure => simp [intOf]; omega
                · have e3 : decide (ft ≤ m.a) = true := decide_eq_true (by omega)
                  have HN := hno (fun h => d8 h.2)
                  clear hno d7 hjy hP hm
                  go_wp2_with fail
                  go_quiet (fail)
                  go_wp2_with fail
                  go_ret3
                  rw [HN.out]
                  exact ⟨rfl, hfin.out _ (below_dn hb)⟩
              · have e2 : (m.s != ((f' : Int) + (P : Int))) = true := by rw [bne_iff_ne]; exact d7
                have HN := hno (fun h => d7 (by rw [h.1]; simp))
                clear hno d7 hjy hP hm
                go_wp2_with fail
                go_quiet (fail)
                go_wp2_with fail
                go_ret3
                rw [HN.out]
                exact ⟨rfl, hfin.out _ (below_dn hb)⟩
            · obtain rfl : j = nm := by omega
              by_cases d1 : 0 < D
              · have HN : Hid (closF l num first count ft = none) := Lib.hid (HC.out.trans (closB_no (.inr (.inr (by
                  show ms.length ≠ (ct + st - 1) / st
                  rw [HNM.out]
                  exact ceil_small d3 (by have h := HD.out; obtain ⟨P, hP⟩ : ∃ P, j * st = P := ⟨_, rfl⟩; rw [hP] at h ⊢; omega))))))
                go_wp2_with fail
                go_ret3
                rw [HN.out]
                exact ⟨rfl, hfin.out _ hb⟩
              · have HF : Hid (fitM f' st ft 0 ms = true) := Lib.hid (fitM_yes fun i m hi hm => HJ.out i m (by rw [HNM.out] at hi; omega) hm)
                have HY := Lib.hid (HC.out.trans (closB_yes HD5.out HD6.out (by show ms.length = (ct + st - 1) / st; rw [HNM.out]; exact ceil_eq d3 (by have h := HD.out; obtain ⟨P, hP⟩ : ∃ P, j * st = P := ⟨_, rfl⟩; rw [hP] at h ⊢; omega) HQ.out) HF.out))
                go_wp2_with fail
                go_ret3
                rw [HY.out]
                exact ⟨am, cm, by simp [HNM.out], by rw [HNM.out]; exact own_below ho9 hb, hfin.out _ hb⟩
end Go.Proofs.YtffhejaeliphcaaDoor
