/-
  The walk of the cursor's field: it reads a field, or panics with the error's number. Conditions: the cursor's block, its bytes, which are elsewhere.
-/
import Derived.Test.YtkdpingniohfhaaDoorMTcur
import Derived.Test.YtkdpingniohfhaaDoorMDn
import Derived.Test.YtkdpingniohfhaaDoorMRn
import Derived.Test.YtkdpingniohfhaaDoorMClone
import Derived.Deep.Cut
import Derived.IntWalk
import Derived.Deep.RegionHeld3
namespace Go.Proofs.YtkdpingniohfhaaDoor
open Go.RowKit
set_option linter.unusedVariables false

theorem grown_below {w w' : World} {r : Option Nat} (h : Below w.heap.size w w') : w.grownBy w' r := ⟨h.os, h.tape, h.output, h.size, fun k hk _ => h.block k hk⟩
theorem ret_fld1 {fn : Func} {p : Tmp} {cs : Array Value} {tmps : Array Value} {w : World} {g : Nat} {e : TypeId} (h : fn.results = #[.cell p 81]) (hp : tmps.getD p undef = .pointer (some ⟨g, 0, none⟩)) (hg : w.heap[g]? = some (.cells cs e (0, 0))) (hs : cs.size = 4) :
    (results fn tmps).run Tryd.prog w = .ok (.agg cs) w :=
  results_cell_row h tmps w g e cs (0, 0) _ hp hg Tryd.underlying81 rfl (by rw [hs]; exact info_fld)
theorem two_kept {w3 : World} {g1 g2 j k : Nat} {v : Value} {cs : Array Value} (h1 : k ≠ g1) (h2 : k ≠ g2) : ((w3.setCell ⟨g1, j, none⟩ v).setRow g2 cs).heap[k]? = w3.heap[k]? :=
  (setRow_other _ g2 k cs h2).trans (Below.heap_setCell w3 ⟨g1, j, none⟩ v k h1)
theorem grown_two {w w3 : World} {p g1 g2 j : Nat} {v : Value} {cs : Array Value} (h : w.grownBy w3 (some p)) (h1 : w.heap.size ≤ g1) (h2 : w.heap.size ≤ g2) : w.grownBy ((w3.setCell ⟨g1, j, none⟩ v).setRow g2 cs) (some p) :=
  ⟨h.os, h.tape, h.output, by have := h.size; simp; omega, fun k hk hne => (two_kept (by omega) (by omega)).trans (h.block k hk hne)⟩
/-- What the cursor's field does: y as nextF says of what stands at the place. -/
def CurField (p : Nat) (a : Option Addr) (n c : Nat) (at' : Nat) (y : FD × Nat × Nat) (w : World) (x : Ending) (w' : World) : Prop :=
  w.grownBy w' (some p) ∧ if y.2.2 = 0 then ∃ f : Fld, x = .returned (.agg f.row) ∧ FldIs w' f y.1 ∧ BytesTag w' f ∧ CurAt w' p a n c (at' + y.2.1)
  else x = .panicked [{ v := .iface 26 (.int .i64 (y.2.2 : Int)), recovered := false }]

set_option maxHeartbeats 3200000 in
theorem cfield_any (p : Nat) (a : Option Addr) (n c : Nat) (at' : Nat) (l : List UInt8) (last : Nat) (w : World) (hc : CurAt w p a n c at') (r : RowAt w a n c 1 (l.map B)) (hap : ∀ b o, a = some ⟨b, o, none⟩ → b ≠ p) (hat : at' ≤ n) (hl : last ≤ 31) (hn : n ≤ 1024) :
    Calls Tryd.prog 53 #[.pointer (some ⟨p, 0, none⟩), .int .i64 (last : Int)] w (CurField p a n c at' (nextF (l.drop at') last) w) := by
  have hln : l.length = n := by simpa using r.len
  obtain ⟨x1, hx1⟩ : ∃ x, dec (l.drop at') = x := ⟨_, rfl⟩
  obtain ⟨k, q, er⟩ := x1
  obtain ⟨x2, hx2⟩ : ∃ x, dec ((l.drop at').drop q) = x := ⟨_, rfl⟩
  obtain ⟨u, m, er2⟩ := x2
  have d1 := dec_bd (l.drop at')
  have d2 := dec_bd ((l.drop at').drop q)
  rw [hx1] at d1
  rw [hx2] at d2
  simp only [List.length_drop] at d1 d2
  obtain ⟨d11, d12, d13, d14⟩ := d1
  obtain ⟨d21, d22, d23, d24⟩ := d2
  have HN := Lib.hid (nextF_of (last := last) hx1 hx2)
  have hbm := below_made w (.cells Fld.zero.row 81)
  have hR := heap_alloc_new w (.cells Fld.zero.row 81)
  have hpl : p < w.heap.size := lt_of_block hc
  have hC0 : CurAt (w.alloc (.cells Fld.zero.row 81)) p a n c at' := below_blk' hbm hc
  have r0 := r.below hbm
  have hnum := fun wx (h1 : CurAt wx p a n c at') (h2 : RowAt wx a n c 1 (l.map B)) => cnum_any p a n c at' l wx h1 h2 hat
  rw [hx1] at hnum
  have HNUM := Lib.hid hnum
  have HX2 := Lib.hid hx2
  have HLN := Lib.hid hln
  clear hx1 hx2 hnum
  have HW := Lib.hid (⟨_, rfl⟩ : ∃ wm, w.alloc (.cells Fld.zero.row 81) = wm)
  go_enter Tryd.func53, Tryd.ntmps53
  go_upto_region 1 with (fail)
  rw [show (#[.int .i64 0, .bool false, .int .u64 0, .slice none 0 0] : Array Value) = Fld.zero.row from rfl]
  obtain ⟨wm, hwm⟩ := HW.out
  rw [hwm] at hbm hR hC0 r0 ⊢
  clear hwm HW
  go_wp2_with fail
  (with_reducible refine (HNUM.out _ hC0 r0).mono ?_)
  rintro x w1 hcn
  unfold CurNum at hcn
  simp only at hcn
  have hG0 : w.grownBy wm (some p) := grown_below hbm
  by_cases he : er = 0
  · subst he
    rw [if_pos rfl] at hcn
    obtain ⟨rfl, hC1, hg1⟩ := hcn
    have hR1 := (hg1.block w.heap.size (lt_of_block hR) (fun e => by cases e; omega)).trans hR
    have r1 := r0.grown hg1 (fun b o e e2 => hap b o e (Option.some.inj e2))
    have hG1 := grownBy_trans hG0 hg1
    have HN2 := Lib.hid HN.out
    rw [if_neg (by simp)] at HN2
    clear HN hbm hR hC0 r0 hg1 hG0
    by_cases hk63 : 63 < k
    · have HQ : Hid (nextF (l.drop at') last = (default, 0, 20)) := Lib.hid (by rw [HN2.out, if_pos (.inr hk63)])
      clear HN2
      go_wp2_with fail
      rw [HQ.out]
      exact ⟨rfl, hG1, rfl⟩
    by_cases hk2 : k < 2
    · have HQ : Hid (nextF (l.drop at') last = (default, 0, 20)) := Lib.hid (by rw [HN2.out, if_pos (.inl hk2)])
      have hkk : (k : Int) / 2 = 0 := by omega
      have hG2 := fun o => grownBy_trans hG1 (grown_below (r := some p) (below_made w1 o))
      clear HN2
      go_wp2_with fail
      rw [HQ.out]
      exact ⟨rfl, hG2 _, rfl⟩
    rw [if_neg (by omega)] at HN2
    have hkz : ((k : Int) / 2 == 0) = false := by rw [beq_eq_false_iff_ne]; omega
    by_cases hkl : k / 2 ≤ last
    · have HQ : Hid (nextF (l.drop at') last = (default, 0, 21)) := Lib.hid (by rw [HN2.out, if_pos hkl])
      have hkl' : (k : Int) / 2 ≤ (last : Int) := by omega
      have hG2 := fun o => grownBy_trans hG1 (grown_below (r := some p) (below_made w1 o))
      clear HN2
      go_wp2_with fail
      rw [HQ.out]
      exact ⟨rfl, hG2 _, rfl⟩
    rw [if_neg hkl] at HN2
    have hkl' : ¬ (k : Int) / 2 ≤ (last : Int) := by omega
    obtain ⟨tx, htx⟩ : ∃ tx, ((k : Int) % 2 == 1) = tx := ⟨_, rfl⟩
    have hbf := below_made w1 (.cells #[.int .i64 ((k : Int) / 2), .bool tx, .int .u64 0, .slice none 0 0] 81)
    have hFf := heap_alloc_new w1 (.cells #[.int .i64 ((k : Int) / 2), .bool tx, .int .u64 0, .slice none 0 0] 81)
    have hC2 : CurAt _ p a n c (at' + q) := below_blk' hbf hC1
    have hR2 := below_blk' hbf hR1
    have r2 := r1.below hbf
    have hG2 := grownBy_trans hG1 (grown_below (r := some p) hbf)
    have hs1 := lt_of_block hR1
    have hp1 := lt_of_block hC1
    go_upto_region 9 with (fail)
    obtain ⟨wf, hwf⟩ : ∃ wf, w1.alloc (.cells #[.int .i64 ((k : Int) / 2), .bool tx, .int .u64 0, .slice none 0 0] 81) = wf := ⟨_, rfl⟩
    rw [hwf] at hbf hFf hC2 hR2 r2 hG2 ⊢
    clear hwf hbf hC1 hR1 r1 hG1 hkl hk2
    have hnum2 := cnum_any p a n c (at' + q) l wf hC2 r2 (by omega)
    rw [show dec (l.drop (at' + q)) = (u, m, er2) by rw [← List.drop_drop]; exact HX2.out] at hnum2
    have HN4 := Lib.hid hnum2
    clear hnum2
    go_wp2_with fail
    (with_reducible refine HN4.out.mono ?_)
    rintro x w3 hcn
    unfold CurNum at hcn
    simp only at hcn
    by_cases he2 : er2 = 0
    · subst he2
      rw [if_pos rfl] at hcn
      obtain ⟨rfl, hC3, hg3⟩ := hcn
      have hR3 := (hg3.block w.heap.size (lt_of_block hR2) (fun e => by cases e; omega)).trans hR2
      have hF3 := (hg3.block w1.heap.size (lt_of_block hFf) (fun e => by cases e; omega)).trans hFf
      have r3 := r2.grown hg3 (fun b o e e2 => hap b o e (Option.some.inj e2))
      have hG3 := grownBy_trans hG2 hg3
      have HN5 := Lib.hid HN2.out
      rw [if_neg (by simp)] at HN5
      clear HN2 hR2 hFf r2 hG2 hg3 hC2
      by_cases hu0 : u = 0
      · subst hu0
        have HQ : Hid (nextF (l.drop at') last = (default, 0, 22)) := Lib.hid (by rw [HN5.out, if_pos rfl])
        clear HN5
        go_wp2_with fail
        rw [HQ.out]
        exact ⟨rfl, hG3, rfl⟩
      rw [if_neg hu0] at HN5
      have hu1 : ((u : Int) == 0) = false := by rw [beq_eq_false_iff_ne]; omega
      have g2 : w3.frozen? ⟨w1.heap.size, 2, none⟩ = false := free_blk hF3
      by_cases hk0 : k % 2 = 0
      · have HQ : Hid (nextF (l.drop at') last = (⟨k / 2, false, u, []⟩, q + m, 0)) := Lib.hid (by rw [HN5.out, if_pos hk0])
        obtain rfl : false = tx := by rw [← htx]; symm; rw [beq_eq_false_iff_ne]; omega
        have hF4 : (w3.setCell ⟨w1.heap.size, 2, none⟩ (.int .u64 (u : Int))).heap[w1.heap.size]? = some (.cells #[.int .i64 ((k : Int) / 2), .bool false, .int .u64 (u : Int), .slice none 0 0] 81 (0, 0)) := blk_set hF3
        have hR4 := (Below.heap_setCell w3 ⟨w1.heap.size, 2, none⟩ (.int .u64 (u : Int)) w.heap.size (by show w.heap.size ≠ w1.heap.size; omega)).trans hR3
        have g1 : w3.cell? ⟨w1.heap.size, 1, none⟩ = some (.bool false) := cell_blk hF3 rfl
        have g2c : w3.cell? ⟨w1.heap.size, 2, none⟩ = some (.int .u64 0) := cell_blk hF3 rfl
        clear HN5 htx hk0
        go_wp2_with (first
          | (with_reducible refine wpList_load_row rfl 81 (.tmp 6) rfl w1.heap.size rfl _ #[.int .i64 ((k : Int) / 2), .bool false, .int .u64 (u : Int), .slice none 0 0] (0, 0) _ hF4 Tryd.underlying81 rfl (by with_unfolding_all exact info_fld) ?_)
          | (with_reducible refine wpList_store_row rfl 81 (.tmp 4) (.tmp 41) rfl w.heap.size #[.int .i64 ((k : Int) / 2), .bool false, .int .u64 (u : Int), .slice none 0 0] rfl rfl _ _ hR4 (by with_unfolding_all exact info_fld) (by with_unfolding_all exact rfl) (by with_unfolding_all exact rfl) ?_))
        refine bodyPost_ret (v := .agg #[.int .i64 ((k : Int) / 2), .bool false, .int .u64 (u : Int), .slice none 0 0]) (ret_fld1 rfl rfl (setRow_heap _ w.heap.size _ #[.int .i64 ((k : Int) / 2), .bool false, .int .u64 (u : Int), .slice none 0 0] _ _ hR4) rfl) rfl ?_
        rw [HQ.out]
        refine ⟨grown_two hG3 (by omega) (Nat.le_refl _), ⟨⟨(k : Int) / 2, false, (u : Int), none, 0, 0⟩, rfl, ⟨by show (k : Int) / 2 = ((k / 2 : Nat) : Int); omega, rfl, rfl, RowAt.nil _ 1⟩, (fun b o h => by cases h), ?_⟩⟩
        have hC4 := (two_kept (w3 := w3) (g1 := w1.heap.size) (g2 := w.heap.size) (j := 2) (v := .int .u64 (u : Int)) (cs := #[.int .i64 ((k : Int) / 2), .bool false, .int .u64 (u : Int), .slice none 0 0]) (k := p) (by omega) (by omega)).trans hC3
        rw [Nat.add_assoc] at hC4
        exact hC4
      rw [if_neg hk0] at HN5
      obtain rfl : true = tx := by rw [← htx]; symm; rw [beq_iff_eq]; omega
      have g1 : w3.cell? ⟨w1.heap.size, 1, none⟩ = some (.bool true) := cell_blk hF3 rfl
      clear htx hk0
      by_cases hu2 : 200 < u
      · have HQ : Hid (nextF (l.drop at') last = (default, 0, 23)) := Lib.hid (by rw [HN5.out, if_pos hu2])
        clear HN5
        go_wp2_with fail
        rw [HQ.out]
        exact ⟨rfl, hG3, rfl⟩
      rw [if_neg hu2] at HN5
      have k0 : w3.cell? ⟨p, 0, none⟩ = some (.slice a n c) := cell_blk hC3 rfl
      have k1 : w3.cell? ⟨p, 1, none⟩ = some (.int .i64 ((at' + q + m : Nat) : Int)) := cell_blk hC3 rfl
      have hll : (l.drop at').length = n - at' := by rw [List.length_drop, HLN.out]
      have hrm : ((l.drop at').drop q).length = n - at' - q := by rw [List.length_drop, hll]
      have wz : IntKind.u64.wrap ((n : Int) - ((at' : Int) + (q : Int) + (m : Int))) = (n : Int) - ((at' : Int) + (q : Int) + (m : Int)) := by rw [wrap_u64]; omega
      rw [hll] at HN5
      by_cases hsh : n - at' < q + m + u
      · have HQ : Hid (nextF (l.drop at') last = (default, 0, 10)) := Lib.hid (by rw [HN5.out, if_pos hsh])
        have hs' : (n : Int) - ((at' : Int) + (q : Int) + (m : Int)) < (u : Int) := by omega
        clear HN5
        go_wp2_with fail
        go_quiet (fail)
        all_goals
          go_wp2_with fail
          rw [HQ.out]
          exact ⟨rfl, grownBy_trans hG3 (grown_below (Still.below ⟨_, rfl⟩ _)), rfl⟩
      rw [if_neg hsh] at HN5
      have hs' : ¬ (n : Int) - ((at' : Int) + (q : Int) + (m : Int)) < (u : Int) := by omega
      obtain ⟨pz, hpz⟩ : ∃ pz, at' + q + m = pz := ⟨_, rfl⟩
      rw [hpz] at hC3 k1
      obtain ⟨a5, hcut5, r5⟩ := cut_mid slB r3 pz (pz + u) (by omega) (by omega)
      rw [show pz + u - pz = u by omega] at hcut5 r5
      rw [Nat.mul_one, Nat.mul_one, ← List.map_take, ← List.map_drop, List.drop_take, show pz + u - pz = u by omega, show l.drop pz = (l.drop at').drop (q + m) by rw [List.drop_drop]; congr 1; omega] at r5
      simp only [Int.natCast_add] at hcut5
      have hpz2 : pz + u ≤ n := by omega
      have hf3 : w3.frozen? ⟨w1.heap.size, 3, none⟩ = false := free_blk hF3
      have hA : a5 = none → u = 0 := by
        rintro rfl
        rcases r5.2.2.2 with h | ⟨b, o, h, _⟩
        · omega
        · cases h
      have HA := Lib.hid hA
      clear hA
      obtain ⟨D, hD⟩ : ∃ D, List.take u (List.drop (q + m) (List.drop at' l)) = D := ⟨_, rfl⟩
      rw [hD] at r5
      have hDl : D.length = u := by have := r5.len; simpa using this
      have HDL := Lib.hid hDl
      have HQ : Hid (nextF (l.drop at') last = (⟨k / 2, true, 0, D⟩, q + m + u, 0)) := Lib.hid (by rw [← hD]; exact HN5.out)
      have HPZ := Lib.hid hpz
      have hne : w1.heap.size ≠ p := by omega
      have wu : IntKind.i64.wrap (u : Int) = (u : Int) := IntWalk.i64_in _ (by omega)
      have wpu : IntKind.i64.wrap ((pz : Int) + (u : Int)) = (pz : Int) + (u : Int) := IntWalk.i64_in _ (by omega)
      have wz' : IntKind.u64.wrap ((n : Int) - (pz : Int)) = (n : Int) - (pz : Int) := by rw [wrap_u64]; omega
      have hs'' : ¬ (n : Int) - (pz : Int) < (u : Int) := by omega
      clear hD hDl HN5 hpz hs' hsh wz
      go_wp2_with fail
      go_quiet (fail)
      all_goals
        go_wp2_with fail
        go_region_held3 (fun w' => w'.cell? ⟨p, 0, none⟩ = some (.slice a n c) ∧ w'.cell? ⟨p, 1, none⟩ = some (.int .i64 (pz : Int)))
          (first
            | go_keep
            | (go_split_ands; exact ⟨k0, k1⟩))
          (first
            | (go_at_call 55; refine (clone_any _ _ _ D _ (by omega) (by first | exact (r5.drewN).drewN (k := 1) | exact r5.drewN | exact rowAt_drew r5.drewN) HA.out).mono ?_; rintro x w5 ⟨a6, c6, rfl, ho6, hb6⟩; have hF5 := below_blk' hb6 hF3; have hC5 := below_blk' hb6 hC3; have hR5 := below_blk' hb6 hR3; have c3 : w5.cell? ⟨w1.heap.size, 3, none⟩ = some (.slice none 0 0) := cell_blk hF5 rfl; have f3 : w5.frozen? ⟨w1.heap.size, 3, none⟩ = false := free_blk hF5; have k0 : w5.cell? ⟨p, 0, none⟩ = some (.slice a n c) := cell_blk hC5 rfl; have k1 : w5.cell? ⟨p, 1, none⟩ = some (.int .i64 (pz : Int)) := cell_blk hC5 rfl))
        have hb7 : Below w3.heap.size w3 w5 := ⟨hb6.os, hb6.tape, hb6.output, hb6.size, hb6.block⟩
        have hF6 : (w5.setCell ⟨w1.heap.size, 3, none⟩ (.slice a6 D.length c6)).heap[w1.heap.size]? = some (.cells #[.int .i64 ((k : Int) / 2), .bool true, .int .u64 0, .slice a6 D.length c6] 81 (0, 0)) := blk_set hF5
        have hC6 := (Below.heap_setCell w5 ⟨w1.heap.size, 3, none⟩ (.slice a6 D.length c6) p hne.symm).trans hC5
        have hR6 := (Below.heap_setCell w5 ⟨w1.heap.size, 3, none⟩ (.slice a6 D.length c6) w.heap.size (by show w.heap.size ≠ w1.heap.size; omega)).trans hR5
        have hs3 := lt_of_block hF3
        have ho7 : w5.ownsRow w3.heap.size 5 1 (.slice a6 D.length c6) D.length (D.map B) := ho6
        have hne6 : (Value.slice a6 D.length c6).ownBlock ≠ some w1.heap.size := fun e => by have := (ho7.lt _ e).1; omega
        have ho8 := ho7.kept (grown_set w5 w1.heap.size 3 (.slice a6 D.length c6)) (.inr hne6)
        have hG5 := grownBy_trans hG3 (grown_below (r := some p) hb7)
        have hG6 : w.grownBy (w5.setCell ⟨w1.heap.size, 3, none⟩ (.slice a6 D.length c6)) (some p) := ⟨hG5.os, hG5.tape, hG5.output, Nat.le_trans hG5.size (grown_set w5 w1.heap.size 3 (.slice a6 D.length c6)).size, fun j hj hne => (Below.heap_setCell w5 ⟨w1.heap.size, 3, none⟩ _ j (by show j ≠ w1.heap.size; omega)).trans (hG5.block j hj hne)⟩
        clear hF5 hC5 hR5 c3 f3 k0 k1 ho6 hb6 hb7 ho7 hG5 hne6
        obtain ⟨w6, hw6⟩ : ∃ w6, w5.setCell ⟨w1.heap.size, 3, none⟩ (.slice a6 D.length c6) = w6 := ⟨_, rfl⟩
        rw [hw6] at hF6 hC6 hR6 ho8 hG6 ⊢
        rename_i hheld
        clear hheld hw6 w5
        have k0 : w6.cell? ⟨p, 0, none⟩ = some (.slice a n c) := cell_blk hC6 rfl
        have k1 : w6.cell? ⟨p, 1, none⟩ = some (.int .i64 (pz : Int)) := cell_blk hC6 rfl
        have kf : w6.frozen? ⟨p, 1, none⟩ = false := free_blk hC6
        have hF7 := (Below.heap_setCell w6 ⟨p, 1, none⟩ (.int .i64 ((pz : Int) + (u : Int))) w1.heap.size hne).trans hF6
        have hR7 := (Below.heap_setCell w6 ⟨p, 1, none⟩ (.int .i64 ((pz : Int) + (u : Int))) w.heap.size (by show w.heap.size ≠ p; omega)).trans hR6
        have hC7 := two_set1 (u := .int .i64 ((pz : Int) + (u : Int))) hC6
        have hG7 := grownBy_trans hG6 (grown_set w6 p 1 (.int .i64 ((pz : Int) + (u : Int))))
        have ho9 := ho8.kept (grown_set w6 p 1 (.int .i64 ((pz : Int) + (u : Int)))) (.inr fun e => by have := (ho8.lt _ e).1; omega)
        clear hF6 hR6 hC6 hG6 ho8
        go_wp2_with (first
          | (with_reducible refine wpList_load_row rfl 81 (.tmp 6) rfl w1.heap.size rfl _ #[.int .i64 ((k : Int) / 2), .bool true, .int .u64 0, .slice a6 D.length c6] (0, 0) _ hF7 Tryd.underlying81 rfl (by with_unfolding_all exact info_fld) ?_)
          | (with_reducible refine wpList_store_row rfl 81 (.tmp 4) (.tmp 88) rfl w.heap.size #[.int .i64 ((k : Int) / 2), .bool true, .int .u64 0, .slice a6 D.length c6] rfl rfl _ _ hR7 (by with_unfolding_all exact info_fld) (by with_unfolding_all exact rfl) (by with_unfolding_all exact rfl) ?_))
        refine bodyPost_ret (v := .agg #[.int .i64 ((k : Int) / 2), .bool true, .int .u64 0, .slice a6 D.length c6]) (ret_fld1 rfl rfl (setRow_heap _ w.heap.size _ #[.int .i64 ((k : Int) / 2), .bool true, .int .u64 0, .slice a6 D.length c6] _ _ hR7) rfl) rfl ?_
        rw [HQ.out]
        have ho10 := ho9.kept (grown_row _ w.heap.size #[.int .i64 ((k : Int) / 2), .bool true, .int .u64 0, .slice a6 D.length c6]) (.inr fun e => by have := (ho9.lt _ e).1; omega)
        refine ⟨⟨hG7.os, hG7.tape, hG7.output, by have := hG7.size; simpa using this, fun j hj hne => (setRow_other _ w.heap.size j _ (by omega)).trans (hG7.block j hj hne)⟩, ⟨⟨(k : Int) / 2, true, 0, a6, D.length, c6⟩, rfl, ⟨by show (k : Int) / 2 = ((k / 2 : Nat) : Int); omega, rfl, rfl, own_rowAt ho10⟩, (fun b o h => by
          have h' : a6 = some ⟨b, o, none⟩ := h
          subst h'
          exact own_tag ho10 rfl), ?_⟩⟩
        have hC8 := (setRow_other _ w.heap.size p #[.int .i64 ((k : Int) / 2), .bool true, .int .u64 0, .slice a6 D.length c6] (by omega)).trans hC7
        have hpq := HPZ.out
        have e1 : ((at' + (q + m + u) : Nat) : Int) = (pz : Int) + (u : Int) := by omega
        unfold CurAt
        rw [e1]
        exact hC8
    · rw [if_neg he2] at hcn
      obtain ⟨rfl, hst⟩ := hcn
      have HQ : Hid (nextF (l.drop at') last = (default, 0, er2)) := Lib.hid (by rw [HN2.out, if_pos he2])
      clear HN2
      go_wp2_with fail
      rw [HQ.out]
      refine ⟨rfl, grownBy_trans hG2 (grown_below (hst.below _)), ?_⟩
      simp only [he2, if_false]
  · rw [if_neg he] at hcn
    obtain ⟨rfl, hst⟩ := hcn
    have HQ : Hid (nextF (l.drop at') last = (default, 0, er)) := Lib.hid (by rw [HN.out, if_pos he])
    clear HN
    go_wp2_with fail
    rw [HQ.out]
    refine ⟨rfl, grownBy_trans hG0 (grown_below (hst.below _)), ?_⟩
    simp only [he, if_false]
end Go.Proofs.YtkdpingniohfhaaDoor
