/-
  The walk of scan.Run. Conditions: the first argument reads as bytes, no longer than 2^40; the program's table of nibbles holds what its text lays.
-/
import Derived.Test.YtffhejaeliphcaaDoorMPrunst
namespace Go.Proofs.YtffhejaeliphcaaDoor
open Go.RowKit Go.Shelf
set_option linter.unusedVariables false
attribute [local go_sem] Oper.semAt_some

theorem below_drewN' {B q : Nat} {w w' : World} (hb : Below B w w') : Below B w (w'.drewN q) := hb.trans ⟨rfl, rfl, rfl, Nat.le_refl _, fun _ _ => rfl⟩

set_option maxRecDepth 100000 in
set_option maxHeartbeats 1000000 in
theorem srun_any (a : Option Addr) (n c : Nat) (l : List UInt8) (p first most : Int) (w : World) (hn : n ≤ 1099511627776) (r : RowAt w a n c 1 (l.map B)) (ht : Tab w) :
    Calls Tryd.prog 33 #[.slice a n c, .int .i64 p, .int .i64 first, .int .i64 most] w (GivesRn w (runF l p first most)) := by
  have hln : l.length = n := by simpa using r.len
  have m1 := r.2.2.1
  have m2 := r.2.1
  unfold maxLen at m1
  by_cases hp : p < 0 ∨ (n : Int) < p
  · have hrf : runF l p first most = ([], 0) := by unfold runF; rw [if_pos (by rw [hln]; exact hp)]
    rw [hrf]
    refine (callsIn_wide (n := 3)).1 ?_
    refine callsIn_of_wp_marks Tryd.func33 rfl trivial ?_ rfl
    simp only [Tryd.ntmps33, List.size_toArray, List.length_cons, List.length_nil, Nat.reduceAdd, Nat.reduceSub, Array.replicate_succ, Array.replicate_zero, List.push_toArray, List.append_toArray, List.nil_append, List.cons_append]
    have h13 : 1 ≤ 3 := by omega
    have hmix : Tryd.prog.follows .mixedOrders = true := by kernel_rfl
    clear hrf
    by_cases h0 : p < 0
    · have t1 : decide (p < 0) = true := by simp [h0]
      gi_wp2
      exact ⟨_, results_tmp2 rfl _ _ _, [], none, 0, rfl, rfl, ⟨World.ownsRow_nil _ _ _ _, Bodies.nil _ _⟩, below_next (below_next (below_made w _) (below_made _ _)) (below_made _ _)⟩
    · have t1 : decide (p < 0) = false := by simp; omega
      have t2 : decide ((n : Int) < p) = true := by simp; omega
      gi_wp2
      exact ⟨_, results_tmp2 rfl _ _ _, [], none, 0, rfl, rfl, ⟨World.ownsRow_nil _ _ _ _, Bodies.nil _ _⟩, below_next (below_next (below_made w _) (below_made _ _)) (below_made _ _)⟩
  · obtain ⟨d, rfl⟩ : ∃ d : Nat, p = (d : Int) := ⟨p.toNat, by omega⟩
    have hdn : d ≤ n := by omega
    by_cases hm : most ≤ 0
    · rw [runF_none (by omega) hm]
      refine (callsIn_wide (n := 3)).1 ?_
      refine callsIn_of_wp_marks Tryd.func33 rfl trivial ?_ rfl
      simp only [Tryd.ntmps33, List.size_toArray, List.length_cons, List.length_nil, Nat.reduceAdd, Nat.reduceSub, Array.replicate_succ, Array.replicate_zero, List.push_toArray, List.append_toArray, List.nil_append, List.cons_append]
      have h13 : 1 ≤ 3 := by omega
      have hmix : Tryd.prog.follows .mixedOrders = true := by kernel_rfl
      have t1 : decide ((d : Int) < 0) = false := by simp
      have t2 : decide ((n : Int) < (d : Int)) = false := by simp; omega
      have t3 : decide (most ≤ 0) = true := by simp; omega
      have hv : Boxed (((((w.alloc (Obj.cells #[Value.int IntKind.i64 (d : Int)] 3)).alloc (Obj.cells #[Value.int IntKind.i64 first] 3)).alloc (Obj.cells #[Value.int IntKind.i64 most] 3)).alloc (Obj.cells #[Value.slice none 0 0] 28)).alloc (Obj.cells #[Value.int IntKind.i64 (d : Int)] 3)) (w.heap.size + 1 + 1 + 1) 28 (.slice none 0 0) := (box_new3 w _ _ _ _ _).alloc _
      have hg := box_new4 w (Obj.cells #[Value.int IntKind.i64 (d : Int)] 3) (Obj.cells #[Value.int IntKind.i64 first] 3) (Obj.cells #[Value.int IntKind.i64 most] 3) (Obj.cells #[Value.slice none 0 0] 28) 3 (Value.int IntKind.i64 (d : Int))
      have cv := hv.cell
      have cg := hg.cell
      gi_wp2
      gi_quiet (fail)
      all_goals gi_wp2
      exact ⟨_, results_tmp2 rfl _ _ _, [], none, 0, rfl, rfl, ⟨World.ownsRow_nil _ _ _ _, Bodies.nil _ _⟩, below_drewN' (below_next (below_next (below_next (below_next (below_made w _) (below_made _ _)) (below_made _ _)) (below_made _ _)) (below_made _ _))⟩
    · refine (callsIn_wide (n := 3)).1 ?_
      refine callsIn_of_wp_marks Tryd.func33 rfl trivial ?_ rfl
      simp only [Tryd.ntmps33, List.size_toArray, List.length_cons, List.length_nil, Nat.reduceAdd, Nat.reduceSub, Array.replicate_succ, Array.replicate_zero, List.push_toArray, List.append_toArray, List.nil_append, List.cons_append]
      have h13 : 1 ≤ 3 := by omega
      have t1 : decide ((d : Int) < 0) = false := by simp
      have t2 : decide ((n : Int) < (d : Int)) = false := by simp; omega
      have t3 : decide (most ≤ 0) = false := by simp; omega
      obtain ⟨a', hcut, r1⟩ := cut_from slB r d hdn
      rw [Nat.mul_one, ← List.map_drop] at r1
      gi_wp2_with (refine ⟨trivial, ?_⟩; gi_at_call 59; refine (callsIn_wide.2 (seach_any _ _ _ _)).mono ?_; rintro e w' ⟨rfl, rfl⟩)
      have hB : ∃ wE, ((((((w.alloc (Obj.cells #[Value.int IntKind.i64 (d : Int)] 3)).alloc (Obj.cells #[Value.int IntKind.i64 first] 3)).alloc (Obj.cells #[Value.int IntKind.i64 most] 3)).alloc (Obj.cells #[Value.slice none 0 0] 28)).alloc (Obj.cells #[Value.int IntKind.i64 (d : Int)] 3)).alloc (Obj.cells #[Value.slice a' (n - d) (c - d)] 22)) = wE ∧ wE.heap.size = w.heap.size + 6 ∧ RunSt w (w.heap.size + 6) d first most [] wE ∧ wE.heap[w.heap.size + 1 + 1 + 1 + 1 + 1]? = some (.cells #[.slice a' (n - d) (c - d)] 22 (0, 0)) := by
        refine ⟨_, rfl, by simp, ⟨⟨none, 0, ?_, World.ownsRow_nil _ _ _ _⟩, ?_, ?_, ?_, ?_, ?_, by simp⟩, ?_⟩
        · exact (box_new3 w _ _ _ _ _).alloc _ |>.alloc _
        · exact (box_new4 w _ _ _ _ _ _).alloc _
        · exact (((((Boxed.new w _ _).alloc _).alloc _).alloc _).alloc _).alloc _
        · exact ((((box_new1 w _ _ _).alloc _).alloc _).alloc _).alloc _
        · exact (((box_new2 w _ _ _ _).alloc _).alloc _).alloc _
        · exact below_next (below_next (below_next (below_next (below_next (below_made w _) (below_made _ _)) (below_made _ _)) (below_made _ _)) (below_made _ _)) (below_made _ _)
        · exact box_new5 w _ _ _ _ _ _ _
      obtain ⟨wE, hwE, hsz, hst0, hx0⟩ := hB
      rw [hwE]
      have hBw := hst0.below
      clear hwE t1 t2 t3
      refine rangeBy rfl h13 (gf := 74) (lb := #[.pointer (some ⟨w.heap.size + 1 + 1 + 1 + 1 + 1, 0, none⟩)]) rfl trivial (enters_of Tryd.func74 (by kernel_rfl) rfl)
        (each_goes w wE hBw (w.heap.size + 1 + 1 + 1 + 1 + 1) a' (n - d) (c - d) (l.drop d) r1 ht hx0 2 (by omega)) (Below.refl _ _) (fun _ => rfl) (fun h k => KeepB.trans h k) (keepB_put (by omega)) wayE_sees wayE_ends wayE_left
        (IRun w (w.heap.size + 6) d first most) (XRun w (w.heap.size + 6) d first most) ?own ?ownx ?start
        (fun x a1 W => ∃ Bx, w.heap.size + 6 ≤ Bx ∧ W.heap[Bx]? = some (.cells #[.int .i64 (x.q.f.kind : Int), .int .i64 (x.q.f.seq : Int), .slice x.a x.q.f.body.length x.c] 53 (0, 0)) ∧
          a1 = { tmps := #[.slice a n c, .int .i64 (d : Int), .int .i64 first, .int .i64 most, undef, .pointer (some ⟨w.heap.size, 0, none⟩), .pointer (some ⟨w.heap.size + 1, 0, none⟩), .pointer (some ⟨w.heap.size + 1 + 1, 0, none⟩), .slice none 0 0, .int .i64 0, .pointer (some ⟨w.heap.size + 1 + 1 + 1, 0, none⟩), .pointer (some ⟨w.heap.size + 1 + 1 + 1 + 1, 0, none⟩), .int .i64 (x.q.at' : Int), .pointer (some ⟨Bx, 0, none⟩), undef, .int .i64 (d : Int), .bool false, .bool false, .int .i64 (d : Int), .slice a n c, .int .i64 (n : Int), .bool false, .bool false, .int .i64 (d : Int), .int .i64 most, .bool false, undef, .slice a n c, .int .i64 (d : Int), .slice a' (n - d) (c - d), .func (.func 74) #[] #[.pointer (some ⟨w.heap.size + 1 + 1 + 1 + 1 + 1, 0, none⟩)], .int .i64 (x.q.at' : Int), x.fr, undef, undef, undef, undef, undef, undef, undef, undef, undef, undef, undef, undef, undef, undef, undef, undef, undef, undef, undef, undef, undef, undef, undef, undef, undef, undef, undef, undef, undef, undef, undef, undef], defers := [] })
        ?ax ?assign ?body ?done ?stop
      case own =>
        rintro pre A Bw row ⟨h1, h2, h3⟩ hg hr
        exact ⟨RunSt.own (by omega) _ _ _ row h1 hg hr, h2, h3⟩
      case ownx =>
        rintro cc pre A Bw row ⟨h1, k, h2, h3⟩ hg hr
        exact ⟨h1, k, RunSt.own (by omega) _ _ _ row h2 hg hr, h3⟩
      case start => exact ⟨hst0, fun j q h => by simp at h, by simp; omega⟩
      case ax =>
        rintro x a1 s A Bw row ⟨Bx, hBx, hfx, rfl⟩ hg hr
        refine ⟨Bx, hBx, (hg.block _ (lt_of_block hfx) fun e => ?_).trans hfx, rfl⟩
        obtain ⟨_, o, ho, hoc⟩ := hr Bx e.symm
        rw [hfx] at ho; cases ho; cases hoc
      case assign =>
        intro lp pre x W K hi hs hK
        dsimp only [wayE, It.fr]
        gi_wp2
        have hm := below_made W (.cells #[.int .i64 (x.q.f.kind : Int), .int .i64 (x.q.f.seq : Int), .slice x.a x.q.f.body.length x.c] 53)
        have hkb := KeepB.calls hm hi.1.below.size
        exact hK _ _ ((KeepsOthers.alloc _ _).from _) hkb ⟨RunSt.own (D := w.heap.size + 6) (by omega) _ _ _ none hi.1 (grown_of_below hm) (fun r e => by cases e), hi.2⟩ ⟨hs.1, hs.2.1, hs.2.2.1, hs.2.2.2.keep hkb⟩ ⟨W.heap.size, hi.1.size, World.alloc_heap_new _ _, rfl⟩
      case body =>
        rintro lp pre x a0 W hl ⟨hst, hgd, hlm⟩ ⟨hc2, hpl, hdec, hbod⟩ ⟨Bx, hBx, hfx, rfl⟩
        clear m1 m2
        have HST := hst
        obtain ⟨⟨av, cap, hv, hrow⟩, hg1, hat, hfst, hmost, hb, hsE⟩ := hst
        rw [List.length_map] at hv hrow
        have cv := hv.cell
        have fv := hv.frozen
        have cg := hg1.cell
        have fg := hg1.frozen
        have ca := hat.cell
        have cf := hfst.cell
        have cm := hmost.cell
        have c0 : W.cell? ⟨Bx, 0, none⟩ = some (.int .i64 (x.q.f.kind : Int)) := cell_blk hfx rfl
        have c1 : W.cell? ⟨Bx, 1, none⟩ = some (.int .i64 (x.q.f.seq : Int)) := cell_blk hfx rfl
        have c2 : W.cell? ⟨Bx, 2, none⟩ = some (.slice x.a x.q.f.body.length x.c) := cell_blk hfx rfl
        dsimp only [It.fr]
        have hok := pc_ok (Nat.le_of_lt hpl) hdec
        have hsq0 := hok.seq
        have hfit := hok.fits
        have hsz5 := hok.size
        simp only at hsq0 hfit hsz5
        have hld : (l.drop d).length = n - d := by rw [List.length_drop]; omega
        have hle := hc2.le
        rw [List.length_map] at hle
        rw [hld] at hfit hle hpl
        have hsub : wrap64 ((x.q.f.seq : Int) - (pre.length : Int)) = (x.q.f.seq : Int) - (pre.length : Int) := by unfold wrap64; omega
        have hsub' : IntKind.i64.wrap ((x.q.f.seq : Int) - (pre.length : Int)) = (x.q.f.seq : Int) - (pre.length : Int) := IntWalk.i64_in _ (by omega)
        by_cases hk1 : x.q.f.kind = 1
        · have e1 : ((x.q.f.kind : Int) != 1) = false := by rw [bne_eq_false_iff_eq]; omega
          by_cases hsq : (x.q.f.seq : Int) = first + (pre.length : Int)
          · have e2 : ((x.q.f.seq : Int) - (pre.length : Int) != first) = false := by rw [bne_eq_false_iff_eq]; omega
            obtain ⟨P, hP⟩ : ∃ P : Nat, x.q.at' + d = P := ⟨_, rfl⟩
            have hPn : P ≤ 1099511627776 := ar_le hP hpl hdn hn
            have hadd : wrap64 ((d : Int) + (x.q.at' : Int)) = (P : Int) := ar_add hP hPn
            have hadd2 : wrap64 ((P : Int) + (20 + (x.q.f.body.length : Int))) = (P : Int) + (x.q.size : Int) := ar_add2 hPn hsz5 hok.body
            have hby : (pre.length + 1) * 56 ≤ 140737488355328 := ar_by hle hn
            have hlt := hrow.lt
            obtain ⟨bb, hbb0⟩ : ∃ bb, decide ((pre.length : Int) + 1 = most) = bb := ⟨_, rfl⟩
            have e3 : (((pre.length + 1 : Nat) : Int) == most) = bb := by rw [← hbb0]; push_cast; rfl
            have e4 : (((pre.length : Int) + 1) == most) = bb := by rw [← hbb0]; rfl
            have HF : Hid (fits first most pre.length x.q) := Lib.hid ⟨hlm, hk1, hsq⟩
            have HSZ := Lib.hid hsz
            have HS5 := Lib.hid hsz5
            have hPe : (d : Int) + (x.q.at' : Int) = (P : Int) := by omega
            have hPw : wrap64 (P : Int) = (P : Int) := by have := hadd; rwa [hPe] at this
            have HP := Lib.hid hP
            have HBB := Lib.hid hbb0
            have HH := Lib.hid hn
            have HW0 : w.heap.size ≤ W.heap.size := hb.size
            clear hsub' hle hfit hsz5 hsq0 hk1 hsq hsz hP hbb0 hld hp hdn hPn hn hm hsE hlm hpl
            cases bb with
            | true =>
              gi_wp2_with (first
                | (refine ⟨trivial, ?_⟩; gi_at_call 60; refine (CallsIn.inRound lp (callsIn_wide.2 (placed_any _ _ _ _ _ _ _ hok.body))).mono ?_; rintro e w1 ⟨rfl, hb1⟩; have hm2 := below_made w1 (.cells #[.int .i64 (P : Int), .int .i64 (20 + (x.q.f.body.length : Int)), .int .i64 (x.q.f.kind : Int), .int .i64 (x.q.f.seq : Int), .slice x.a x.q.f.body.length x.c] 55); have hba := below_next hb1 hm2; have hv2 := hv.kept (grown_of_below hba) (by simp); have cv2 := hv2.cell; have hm3 := below_made (w1.alloc (.cells #[.int .i64 (P : Int), .int .i64 (20 + (x.q.f.body.length : Int)), .int .i64 (x.q.f.kind : Int), .int .i64 (x.q.f.seq : Int), .slice x.a x.q.f.body.length x.c] 55)) (.cells #[.int .i64 (P : Int), .int .i64 (20 + (x.q.f.body.length : Int)), .int .i64 (x.q.f.kind : Int), .int .i64 (x.q.f.seq : Int), .slice x.a x.q.f.body.length x.c] 55); have hbb := below_next hba hm3; have hv3 := hv.kept (grown_of_below hbb) (by simp); have hg3 := hg1.kept (grown_of_below hbb) (by simp); have hmo3 := hmost.kept (grown_of_below hbb) (by simp); have hp3 := below_blk2 hm3 (World.alloc_heap_new w1 (.cells #[.int .i64 (P : Int), .int .i64 (20 + (x.q.f.body.length : Int)), .int .i64 (x.q.f.kind : Int), .int .i64 (x.q.f.seq : Int), .slice x.a x.q.f.body.length x.c] 55)); have hrow3 := own_below hrow hbb; have hsrc3 := rowAt_lit (w1.alloc (.cells #[.int .i64 (P : Int), .int .i64 (20 + (x.q.f.body.length : Int)), .int .i64 (x.q.f.kind : Int), .int .i64 (x.q.f.seq : Int), .slice x.a x.q.f.body.length x.c] 55)) [.int .i64 (P : Int), .int .i64 (20 + (x.q.f.body.length : Int)), .int .i64 (x.q.f.kind : Int), .int .i64 (x.q.f.seq : Int), .slice x.a x.q.f.body.length x.c] 1 5 55 rfl (by decide); have hs1 := hb1.size; rw [World.size_alloc] at hsrc3)
                | (gi_at_builtin; refine wpListIn_app1 rfl _ _ 28 rfl slPl rfl hrow3 rfl hsrc3 (by simp [Value.oneCell']) hby (Nat.le_trans hb.size hbb.size) fun a4 c4 w4 hown4 hgr4 => ?_; obtain ⟨k1, k2, k3, k4, k5⟩ := after_app hv3 hg3 hp3 hrow3 (fun e => by have := (hlt _ e).2; omega) hgr4 hown4 (by omega) (by have := hv.lt; omega); have d1 := k1.cell; have d2 := k1.frozen; have d3 := k3.cell; have d4 := k3.frozen; have d5 : _ = some (Value.int .i64 (20 + (x.q.f.body.length : Int))) := cell_blk (j := 1) k4 rfl; have d6 : _ = some (Value.int .i64 (P : Int)) := cell_blk (j := 0) k4 rfl; have gs := grownBy_setCell' (w4.setCell ⟨w.heap.size + 1 + 1 + 1, 0, none⟩ (.slice a4 (pre.length + 1) c4)) (w.heap.size + 1 + 1 + 1 + 1) (.int .i64 ((P : Int) + (x.q.size : Int))); have j1 := k2.kept gs (fun e => by have := Option.some.inj e; omega); have jm := ((hmo3.kept hgr4 (hmo3.not_row (by decide) hrow3)).kept (grownBy_setCell' w4 (w.heap.size + 1 + 1 + 1) (.slice a4 (pre.length + 1) c4)) (fun e => by have := Option.some.inj e; omega)).kept gs (fun e => by have := Option.some.inj e; omega); have d7 := j1.cell; have d8 := jm.cell))
              obtain ⟨q1, q2, q3⟩ := run_step (B := wE.heap.size) HST hok HP.out hbb hrow3 hgr4 k1 k2 k3 k5
              exact ⟨q1, q2, rfl, pre.length + 1, by rw [take_all1]; exact q3, run_full1 (hgd.snoc (by rw [List.length_map]; exact HF.out)) (by have := HBB.out; simpa using this)⟩
            | false =>
              gi_wp2_with (first
                | (refine ⟨trivial, ?_⟩; gi_at_call 60; refine (CallsIn.inRound lp (callsIn_wide.2 (placed_any _ _ _ _ _ _ _ hok.body))).mono ?_; rintro e w1 ⟨rfl, hb1⟩; have hm2 := below_made w1 (.cells #[.int .i64 (P : Int), .int .i64 (20 + (x.q.f.body.length : Int)), .int .i64 (x.q.f.kind : Int), .int .i64 (x.q.f.seq : Int), .slice x.a x.q.f.body.length x.c] 55); have hba := below_next hb1 hm2; have hv2 := hv.kept (grown_of_below hba) (by simp); have cv2 := hv2.cell; have hm3 := below_made (w1.alloc (.cells #[.int .i64 (P : Int), .int .i64 (20 + (x.q.f.body.length : Int)), .int .i64 (x.q.f.kind : Int), .int .i64 (x.q.f.seq : Int), .slice x.a x.q.f.body.length x.c] 55)) (.cells #[.int .i64 (P : Int), .int .i64 (20 + (x.q.f.body.length : Int)), .int .i64 (x.q.f.kind : Int), .int .i64 (x.q.f.seq : Int), .slice x.a x.q.f.body.length x.c] 55); have hbb := below_next hba hm3; have hv3 := hv.kept (grown_of_below hbb) (by simp); have hg3 := hg1.kept (grown_of_below hbb) (by simp); have hmo3 := hmost.kept (grown_of_below hbb) (by simp); have hp3 := below_blk2 hm3 (World.alloc_heap_new w1 (.cells #[.int .i64 (P : Int), .int .i64 (20 + (x.q.f.body.length : Int)), .int .i64 (x.q.f.kind : Int), .int .i64 (x.q.f.seq : Int), .slice x.a x.q.f.body.length x.c] 55)); have hrow3 := own_below hrow hbb; have hsrc3 := rowAt_lit (w1.alloc (.cells #[.int .i64 (P : Int), .int .i64 (20 + (x.q.f.body.length : Int)), .int .i64 (x.q.f.kind : Int), .int .i64 (x.q.f.seq : Int), .slice x.a x.q.f.body.length x.c] 55)) [.int .i64 (P : Int), .int .i64 (20 + (x.q.f.body.length : Int)), .int .i64 (x.q.f.kind : Int), .int .i64 (x.q.f.seq : Int), .slice x.a x.q.f.body.length x.c] 1 5 55 rfl (by decide); have hs1 := hb1.size; rw [World.size_alloc] at hsrc3)
                | (gi_at_builtin; refine wpListIn_app1 rfl _ _ 28 rfl slPl rfl hrow3 rfl hsrc3 (by simp [Value.oneCell']) hby (Nat.le_trans hb.size hbb.size) fun a4 c4 w4 hown4 hgr4 => ?_; obtain ⟨k1, k2, k3, k4, k5⟩ := after_app hv3 hg3 hp3 hrow3 (fun e => by have := (hlt _ e).2; omega) hgr4 hown4 (by omega) (by have := hv.lt; omega); have d1 := k1.cell; have d2 := k1.frozen; have d3 := k3.cell; have d4 := k3.frozen; have d5 : _ = some (Value.int .i64 (20 + (x.q.f.body.length : Int))) := cell_blk (j := 1) k4 rfl; have d6 : _ = some (Value.int .i64 (P : Int)) := cell_blk (j := 0) k4 rfl; have gs := grownBy_setCell' (w4.setCell ⟨w.heap.size + 1 + 1 + 1, 0, none⟩ (.slice a4 (pre.length + 1) c4)) (w.heap.size + 1 + 1 + 1 + 1) (.int .i64 ((P : Int) + (x.q.size : Int))); have j1 := k2.kept gs (fun e => by have := Option.some.inj e; omega); have jm := ((hmo3.kept hgr4 (hmo3.not_row (by decide) hrow3)).kept (grownBy_setCell' w4 (w.heap.size + 1 + 1 + 1) (.slice a4 (pre.length + 1) c4)) (fun e => by have := Option.some.inj e; omega)).kept gs (fun e => by have := Option.some.inj e; omega); have d7 := j1.cell; have d8 := jm.cell))
              obtain ⟨q1, q2, q3⟩ := run_step (B := wE.heap.size) HST hok HP.out hbb hrow3 hgr4 k1 k2 k3 k5
              exact ⟨q1, q2, q3, goods1 (hgd.snoc (by rw [List.length_map]; exact HF.out)), lt1 HF.out HBB.out⟩
          · have e2 : ((x.q.f.seq : Int) - (pre.length : Int) != first) = true := by rw [bne_iff_ne]; omega
            have hx := run_left (d := d) hgd (x := x) (fun h => hsq h.2.2)
            gi_wp2
            exact ⟨KeepsFrom.refl _ _, KeepB.refl _ _, rfl, pre.length, by rw [take_all]; exact HST, hx⟩
        · have e1 : ((x.q.f.kind : Int) != 1) = true := by rw [bne_iff_ne]; omega
          have hx := run_left (d := d) hgd (x := x) (fun h => hk1 h.2.1)
          gi_wp2
          exact ⟨KeepsFrom.refl _ _, KeepB.refl _ _, rfl, pre.length, by rw [take_all]; exact HST, hx⟩
      case done =>
        rintro D xs W hD ⟨⟨p', e, hch, hend⟩, hbod⟩ ⟨hst, hgd, hlm⟩ hK
        have HSC := Lib.hid (runF_done (by omega) hch hend hgd)
        obtain ⟨⟨av, cap, hv, hrow⟩, hg1, -, -, -, hb, -⟩ := hst
        have hbod2 := bodies_move (d := d) (k := xs.length) hbod
        rw [List.take_length] at hbod2
        obtain ⟨ys, hys⟩ : ∃ ys, xs.map (It.move d) = ys := ⟨_, rfl⟩
        rw [hys] at hv hrow hg1 hbod2 HSC
        obtain ⟨E, hE⟩ : ∃ E, endG d (ys.map It.q) = E := ⟨_, rfl⟩
        rw [hE] at hg1 HSC
        have cv := hv.cell
        have cg := hg1.cell
        clear hys hE hst0 hch hend hgd hlm hbod hln hp hdn hm hcut r1 m1 m2 r ht hx0
        have hmix : Tryd.prog.follows .mixedOrders = true := by kernel_rfl
        gi_wp2
        gi_quiet (fail)
        all_goals gi_wp2
        unfold GivesRn
        rw [HSC.out]
        refine ⟨by simp, .inl ⟨_, _, rfl, run_takeDeferred (w := W.drewN nq) hK, ?_⟩⟩
        exact ⟨_, results_tmp2 rfl _ _ _, ys, av, cap, rfl, rfl, PlsAt.end hrow hbod2 (by omega) hK, end_below hb (by omega) hK⟩
      case stop =>
        rintro D cc pre W hD ⟨⟨p', hch⟩, hbod⟩ ⟨rfl, k, hst, hrn⟩ hK
        have HSC := Lib.hid (runF_stop (by omega) hch hrn)
        obtain ⟨⟨av, cap, hv, hrow⟩, hg1, -, -, -, hb, -⟩ := hst
        have hbod2 := bodies_move (d := d) (k := k) hbod
        obtain ⟨ys, hys⟩ : ∃ ys, (pre.take k).map (It.move d) = ys := ⟨_, rfl⟩
        rw [hys] at hv hrow hg1 hbod2 HSC
        obtain ⟨E, hE⟩ : ∃ E, endG d (ys.map It.q) = E := ⟨_, rfl⟩
        rw [hE] at hg1 HSC
        have cv := hv.cell
        have cg := hg1.cell
        clear hys hE hst0 hch hrn hbod hln hp hdn hm hcut r1 m1 m2 r ht hx0
        have hmix : Tryd.prog.follows .mixedOrders = true := by kernel_rfl
        gi_wp2
        gi_quiet (fail)
        all_goals gi_wp2
        unfold GivesRn
        rw [HSC.out]
        refine ⟨by simp, .inl ⟨_, _, rfl, run_takeDeferred (w := W.drewN nq) hK, ?_⟩⟩
        exact ⟨_, results_tmp2 rfl _ _ _, ys, av, cap, rfl, rfl, PlsAt.end hrow hbod2 (by omega) hK, end_below hb (by omega) hK⟩
end Go.Proofs.YtffhejaeliphcaaDoor
