/-
  The walk of schema.Decode at version 1. Condition: the argument reads as bytes.
  The walk of schema.Decode at version 2. Condition: the argument reads as bytes.
-/
import Derived.Test.YtkdpingniohfhaaDoorMRr
import Derived.Deep.Cut
namespace Go.Proofs.YtkdpingniohfhaaDoor
open Go.RowKit
set_option linter.unusedVariables false

set_option maxRecDepth 8000 in
set_option maxHeartbeats 6400000 in
theorem sdec1_any (a : Option Addr) (n c : Nat) (l : List UInt8) (w : World) (r : RowAt w a n c 1 (l.map B)) :
    Calls Tryd.prog 21 #[.int .i64 1, .slice a n c] w (GivesDE w (sdecF 1 l)) := by
  have hbm := below_made w (.cells (default : Ev).cells 25)
  have hR := heap_alloc_new w (.cells (default : Ev).cells 25)
  have r0 := r.below hbm
  have HW := Lib.hid (⟨_, rfl⟩ : ∃ w0, w.alloc (.cells (default : Ev).cells 25) = w0)
  have hG := decodeF_right l
  have HS : Hid (sdecF 1 l = _) := Lib.hid (by unfold sdecF; rw [if_neg (by decide)])
  have hnew := fun wx hx => newrd_any a n c l wx hx
  obtain ⟨y, hy⟩ : ∃ y, decodeF l = y := ⟨_, rfl⟩
  rw [hy] at hG hnew HS
  obtain ⟨ds, pl, e⟩ := y
  have HNEW := Lib.hid hnew
  simp only at hG HS
  clear hy hnew
  by_cases he : e = 0
  · subst he
    obtain ⟨k1, hk1⟩ : ∃ z, clampI (look ds 1 false).num = z := ⟨_, rfl⟩
    obtain ⟨k2, hk2⟩ : ∃ z, clampI (look ds 2 false).num = z := ⟨_, rfl⟩
    obtain ⟨k3, hk3⟩ : ∃ z, clampI (look ds 3 false).num = z := ⟨_, rfl⟩
    obtain ⟨q4, hk4⟩ : ∃ z, zagN ((look ds 4 false).num : Int) = z := ⟨_, rfl⟩
    obtain ⟨p5, hk5⟩ : ∃ z, clampI (look ds 5 false).num = z := ⟨_, rfl⟩
    have hev : evOf 1 ds = ⟨k1, k2, k3, q4, p5, 0, 0, ⟨#[]⟩, 0, ⟨#[]⟩⟩ := by unfold evOf; simp only [hk1, hk2, hk3, hk4, hk5]; rfl
    rw [hev] at HS
    have HK1 := Lib.hid hk1
    have HK2 := Lib.hid hk2
    have HK3 := Lib.hid hk3
    have HK4 := Lib.hid hk4
    have HK5 := Lib.hid hk5
    clear hev hk1 hk2 hk3 hk4 hk5
    obtain ⟨er, her⟩ : ∃ er, errF (left ds (seqV 1)) (badT ds (seqV 1)) = er := ⟨_, rfl⟩
    rw [her] at HS
    have HER : Hid (errF (left ds [(5, false), (4, false), (3, false), (2, false), (1, false)]) (badT ds [(5, false), (4, false), (3, false), (2, false), (1, false)]) = er) := Lib.hid (by rw [← her]; exact errF_perm ds _ _ (by decide))
    have hck := fun wx => chk_any 1 ⟨k1, k2, k3, q4, p5, 0, 0, ⟨#[]⟩, 0, ⟨#[]⟩⟩ wx
    unfold GivesC at hck
    unfold Ev.val Ev.cells at hck
    obtain ⟨ck, hckq⟩ : ∃ ck, chk 1 ⟨k1, k2, k3, q4, p5, 0, 0, ⟨#[]⟩, 0, ⟨#[]⟩⟩ = ck := ⟨_, rfl⟩
    rw [hckq] at hck HS
    have HCK := Lib.hid hck
    clear her hck hckq
    go_enter Tryd.func21, Tryd.ntmps21
    go_upto_region 1 with (fail)
    rw [show (#[.int .i64 0, .int .i64 0, .int .i64 0, .int .i64 0, .int .i64 0, .int .i64 0, .int .i64 0, .string ⟨#[]⟩, .int .i64 0, .string ⟨#[]⟩] : Array Value) = (default : Ev).cells from rfl]
    obtain ⟨w0, hw0⟩ := HW.out
    rw [hw0] at hbm hR r0 ⊢
    clear hw0 HW r
    go_wp2_with fail
    (with_reducible refine (HNEW.out _ r0).mono ?_)
    rintro x w1 hq
    unfold NewQ at hq
    rw [if_pos rfl] at hq
    obtain ⟨p, rfl, hrd⟩ := hq
    have h : DecR w0 w1 p w.heap.size ds [] := ⟨by rw [left_nil, badT_nil]; exact hrd, below_blk' hrd.bel hR⟩
    clear hrd hR r0 HNEW
    go_wp2_with fail
    (with_reducible refine (dnumR h hG 1 1 rfl (by decide) rfl).mono ?_)
    clear h
    rintro x w2 ⟨rfl, h, _⟩
    go_wp2_with fail
    (with_reducible refine (snum_any _ (look_num hG 1 false).1 _).mono ?_)
    rintro x w' ⟨rfl, rfl⟩
    rw [HK1.out]
    go_wp2_with fail
    (with_reducible refine (dnumR h hG 2 2 rfl (by decide) rfl).mono ?_)
    clear h
    rintro x w3 ⟨rfl, h, _⟩
    go_wp2_with fail
    (with_reducible refine (snum_any _ (look_num hG 2 false).1 _).mono ?_)
    rintro x w' ⟨rfl, rfl⟩
    rw [HK2.out]
    go_wp2_with fail
    (with_reducible refine (dnumR h hG 3 3 rfl (by decide) rfl).mono ?_)
    clear h
    rintro x w4 ⟨rfl, h, _⟩
    go_wp2_with fail
    (with_reducible refine (snum_any _ (look_num hG 3 false).1 _).mono ?_)
    rintro x w' ⟨rfl, rfl⟩
    rw [HK3.out]
    have hbe := below_made w4 (.cells #[.int .i64 k1, .int .i64 k2, .int .i64 k3, .int .i64 0, .int .i64 0, .int .i64 0, .int .i64 0, .string ⟨#[]⟩, .int .i64 0, .string ⟨#[]⟩] 25)
    have hE := heap_alloc_new w4 (.cells #[.int .i64 k1, .int .i64 k2, .int .i64 k3, .int .i64 0, .int .i64 0, .int .i64 0, .int .i64 0, .string ⟨#[]⟩, .int .i64 0, .string ⟨#[]⟩] 25)
    have hlt := lt_of_block h.ret
    have hwE : ∃ E, w4.heap.size = E := ⟨_, rfl⟩
    have h : DecIn w0 _ p w.heap.size w4.heap.size ds [(3, false), (2, false), (1, false)] #[.int .i64 k1, .int .i64 k2, .int .i64 k3, .int .i64 0, .int .i64 0, .int .i64 0, .int .i64 0, .string ⟨#[]⟩, .int .i64 0, .string ⟨#[]⟩] := ⟨h.below hbe, hE, by omega, h.rd.bel.size⟩
    have HW5 := Lib.hid (⟨_, rfl⟩ : ∃ w5, w4.alloc (.cells #[.int .i64 k1, .int .i64 k2, .int .i64 k3, .int .i64 0, .int .i64 0, .int .i64 0, .int .i64 0, .string ⟨#[]⟩, .int .i64 0, .string ⟨#[]⟩] 25) = w5)
    go_upto_region 7 with (fail)
    obtain ⟨w5, hw5⟩ := HW5.out
    rw [hw5] at h ⊢
    obtain ⟨E, hEq⟩ := hwE
    rw [hEq] at h ⊢
    clear hw5 HW5 hbe hE hlt hEq
    go_wp2_with fail
    (with_reducible refine (dint h hG 4 4 rfl (by decide) rfl).mono ?_)
    clear h
    rintro x w6 ⟨rfl, h⟩
    rw [HK4.out]
    have ce : w6.cell? ⟨E, 3, none⟩ = some (.int .i64 0) := cell_blk h.ev rfl
    have fe : w6.frozen? ⟨E, 3, none⟩ = false := free_blk h.ev
    have h : DecIn w0 _ p w.heap.size E ds [(4, false), (3, false), (2, false), (1, false)] #[.int .i64 k1, .int .i64 k2, .int .i64 k3, .int .i64 q4, .int .i64 0, .int .i64 0, .int .i64 0, .string ⟨#[]⟩, .int .i64 0, .string ⟨#[]⟩] := h.set 3 (.int .i64 q4)
    go_wp2_with fail
    (with_reducible refine (dnum h hG 5 5 rfl (by decide) rfl).mono ?_)
    clear h
    rintro x w7 ⟨rfl, h⟩
    go_wp2_with fail
    (with_reducible refine (snum_any _ (look_num hG 5 false).1 _).mono ?_)
    rintro x w' ⟨rfl, rfl⟩
    rw [HK5.out]
    have ce : w7.cell? ⟨E, 4, none⟩ = some (.int .i64 0) := cell_blk h.ev rfl
    have fe : w7.frozen? ⟨E, 4, none⟩ = false := free_blk h.ev
    have h : DecIn w0 _ p w.heap.size E ds [(5, false), (4, false), (3, false), (2, false), (1, false)] #[.int .i64 k1, .int .i64 k2, .int .i64 k3, .int .i64 q4, .int .i64 p5, .int .i64 0, .int .i64 0, .string ⟨#[]⟩, .int .i64 0, .string ⟨#[]⟩] := h.set 4 (.int .i64 p5)
    have hwl := h
    go_wp2_with fail
    (with_reducible refine (derr h).mono ?_)
    rintro x w' ⟨rfl, rfl⟩
    rw [HER.out]
    obtain ⟨wx, hwx⟩ : ∃ wx, w7.setCell ⟨E, 4, none⟩ (.int .i64 p5) = wx := ⟨_, rfl⟩
    rw [hwx] at h ⊢
    clear hwx hwl
    have hB := below_next hbm h.r.rd.bel
    have hR := h.r.ret
    have hE := h.ev
    by_cases her : er = 0
    · subst her
      rw [if_neg (by simp), if_neg (by simp)] at HS
      by_cases hck : ck = 0
      · subst hck
        rw [if_neg (by simp)] at HS
        clear h hG
        go_wp2_with (first
          | (with_reducible refine wpList_load_row rfl 25 (.tmp 8) rfl E rfl _ #[.int .i64 k1, .int .i64 k2, .int .i64 k3, .int .i64 q4, .int .i64 p5, .int .i64 0, .int .i64 0, .string ⟨#[]⟩, .int .i64 0, .string ⟨#[]⟩] (0, 0) _ hE Tryd.underlying25 rfl (by with_unfolding_all exact info_ev) ?_)
          | ((with_reducible refine (HCK.out _).mono ?_); rintro x wy ⟨rfl, hby⟩; have hR := below_blk' hby hR; have hE := below_blk' hby hE; have hB := below_next hB hby)
          | (with_reducible refine wpList_store_row rfl 25 (.tmp 4) (.tmp 92) rfl w.heap.size #[.int .i64 k1, .int .i64 k2, .int .i64 k3, .int .i64 q4, .int .i64 p5, .int .i64 0, .int .i64 0, .string ⟨#[]⟩, .int .i64 0, .string ⟨#[]⟩] rfl rfl _ _ hR (by with_unfolding_all exact info_ev) (by with_unfolding_all exact rfl) (by with_unfolding_all exact rfl) ?_))
        refine bodyPost_ret (v := .tuple #[.agg #[.int .i64 k1, .int .i64 k2, .int .i64 k3, .int .i64 q4, .int .i64 p5, .int .i64 0, .int .i64 0, .string ⟨#[]⟩, .int .i64 0, .string ⟨#[]⟩], .int .i64 0]) (ret_evN rfl rfl (setRow_heap _ w.heap.size _ #[.int .i64 k1, .int .i64 k2, .int .i64 k3, .int .i64 q4, .int .i64 p5, .int .i64 0, .int .i64 0, .string ⟨#[]⟩, .int .i64 0, .string ⟨#[]⟩] _ _ hR) rfl rfl) rfl ?_
        rw [HS.out]
        exact ⟨rfl, below_row hB (Nat.le_refl _) _⟩
      · have hck' : (ck != 0) = true := by rw [bne_iff_ne]; exact hck
        rw [if_pos hck] at HS
        clear h hG hck
        go_wp2_with (first
          | (with_reducible refine wpList_load_row rfl 25 (.tmp 8) rfl E rfl _ #[.int .i64 k1, .int .i64 k2, .int .i64 k3, .int .i64 q4, .int .i64 p5, .int .i64 0, .int .i64 0, .string ⟨#[]⟩, .int .i64 0, .string ⟨#[]⟩] (0, 0) _ hE Tryd.underlying25 rfl (by with_unfolding_all exact info_ev) ?_)
          | ((with_reducible refine (HCK.out _).mono ?_); rintro x wy ⟨rfl, hby⟩; have hR := below_blk' hby hR; have hB := below_next hB hby)
          | (with_reducible refine wpList_store_row rfl 25 (.tmp 4) (.tmp 90) rfl w.heap.size (default : Ev).cells rfl rfl _ _ hR (by with_unfolding_all exact info_ev) (by with_unfolding_all exact rfl) (by with_unfolding_all exact rfl) ?_))
        refine bodyPost_ret (v := .tuple #[.agg (default : Ev).cells, .int .i64 ck]) (ret_evN rfl rfl (setRow_heap _ w.heap.size _ (default : Ev).cells _ _ hR) rfl rfl) rfl ?_
        rw [HS.out]
        exact ⟨rfl, below_row hB (Nat.le_refl _) _⟩
    · have her' : ((er : Int) != 0) = true := by rw [bne_iff_ne]; omega
      rw [if_neg (by simp), if_pos her] at HS
      clear h hG her hE
      go_wp2_with (with_reducible refine wpList_store_row rfl 25 (.tmp 4) (.tmp 83) rfl w.heap.size (default : Ev).cells rfl rfl _ _ hR (by with_unfolding_all exact info_ev) (by with_unfolding_all exact rfl) (by with_unfolding_all exact rfl) ?_)
      refine bodyPost_ret (v := .tuple #[.agg (default : Ev).cells, .int .i64 (er : Int)]) (ret_evN rfl rfl (setRow_heap _ w.heap.size _ (default : Ev).cells _ _ hR) rfl rfl) rfl ?_
      rw [HS.out]
      exact ⟨rfl, below_row hB (Nat.le_refl _) _⟩
  · have he' : ((e : Int) != 0) = true := by rw [bne_iff_ne]; omega
    have HE := Lib.hid he
    rw [if_pos he] at HS
    clear he hG
    go_enter Tryd.func21, Tryd.ntmps21
    go_upto_region 1 with (fail)
    rw [show (#[.int .i64 0, .int .i64 0, .int .i64 0, .int .i64 0, .int .i64 0, .int .i64 0, .int .i64 0, .string ⟨#[]⟩, .int .i64 0, .string ⟨#[]⟩] : Array Value) = (default : Ev).cells from rfl]
    obtain ⟨w0, hw0⟩ := HW.out
    rw [hw0] at hbm hR r0 ⊢
    clear hw0 HW r
    go_wp2_with fail
    (with_reducible refine (HNEW.out _ r0).mono ?_)
    rintro x w1 hq
    unfold NewQ at hq
    rw [if_neg HE.out] at hq
    obtain ⟨rfl, hb1⟩ := hq
    have hR1 := below_blk' hb1 hR
    have hB := below_next hbm hb1
    clear hR r0 HNEW
    go_wp2_with (with_reducible refine wpList_store_row rfl 25 (.tmp 4) (.tmp 25) rfl w.heap.size (default : Ev).cells rfl rfl _ _ hR1 (by with_unfolding_all exact info_ev) (by with_unfolding_all exact rfl) (by with_unfolding_all exact rfl) ?_)
    refine bodyPost_ret (v := .tuple #[.agg (default : Ev).cells, .int .i64 (e : Int)]) (ret_evN rfl rfl (setRow_heap _ w.heap.size _ (default : Ev).cells _ _ hR1) rfl rfl) rfl ?_
    rw [HS.out]
    exact ⟨rfl, below_row hB (Nat.le_refl _) _⟩
end Go.Proofs.YtkdpingniohfhaaDoor

namespace Go.Proofs.YtkdpingniohfhaaDoor
open Go.RowKit
set_option linter.unusedVariables false

set_option maxRecDepth 8000 in
set_option maxHeartbeats 6400000 in
theorem sdec2_any (a : Option Addr) (n c : Nat) (l : List UInt8) (w : World) (r : RowAt w a n c 1 (l.map B)) :
    Calls Tryd.prog 21 #[.int .i64 2, .slice a n c] w (GivesDE w (sdecF 2 l)) := by
  have hbm := below_made w (.cells (default : Ev).cells 25)
  have hR := heap_alloc_new w (.cells (default : Ev).cells 25)
  have r0 := r.below hbm
  have HW := Lib.hid (⟨_, rfl⟩ : ∃ w0, w.alloc (.cells (default : Ev).cells 25) = w0)
  have hG := decodeF_right l
  have HS : Hid (sdecF 2 l = _) := Lib.hid (by unfold sdecF; rw [if_neg (by decide)])
  have hnew := fun wx hx => newrd_any a n c l wx hx
  obtain ⟨y, hy⟩ : ∃ y, decodeF l = y := ⟨_, rfl⟩
  rw [hy] at hG hnew HS
  obtain ⟨ds, pl, e⟩ := y
  have HNEW := Lib.hid hnew
  simp only at hG HS
  clear hy hnew
  by_cases he : e = 0
  · subst he
    obtain ⟨k1, hk1⟩ : ∃ z, clampI (look ds 1 false).num = z := ⟨_, rfl⟩
    obtain ⟨k2, hk2⟩ : ∃ z, clampI (look ds 2 false).num = z := ⟨_, rfl⟩
    obtain ⟨k3, hk3⟩ : ∃ z, clampI (look ds 3 false).num = z := ⟨_, rfl⟩
    obtain ⟨q4, hk4⟩ : ∃ z, zagN ((look ds 4 false).num : Int) = z := ⟨_, rfl⟩
    obtain ⟨p5, hk5⟩ : ∃ z, clampI (look ds 5 false).num = z := ⟨_, rfl⟩
    obtain ⟨c6, hk6⟩ : ∃ z, clampI (look ds 6 false).num = z := ⟨_, rfl⟩
    have hev : evOf 2 ds = ⟨k1, k2, k3, q4, p5, c6, 0, ⟨#[]⟩, 0, ⟨#[]⟩⟩ := by unfold evOf; simp only [hk1, hk2, hk3, hk4, hk5, hk6]; rfl
    rw [hev] at HS
    have HK1 := Lib.hid hk1
    have HK2 := Lib.hid hk2
    have HK3 := Lib.hid hk3
    have HK4 := Lib.hid hk4
    have HK5 := Lib.hid hk5
    have HK6 := Lib.hid hk6
    clear hev hk1 hk2 hk3 hk4 hk5 hk6
    obtain ⟨er, her⟩ : ∃ er, errF (left ds (seqV 2)) (badT ds (seqV 2)) = er := ⟨_, rfl⟩
    rw [her] at HS
    have HER : Hid (errF (left ds [(6, false), (5, false), (4, false), (3, false), (2, false), (1, false)]) (badT ds [(6, false), (5, false), (4, false), (3, false), (2, false), (1, false)]) = er) := Lib.hid (by rw [← her]; exact errF_perm ds _ _ (by decide))
    have hck := fun wx => chk_any 2 ⟨k1, k2, k3, q4, p5, c6, 0, ⟨#[]⟩, 0, ⟨#[]⟩⟩ wx
    unfold GivesC at hck
    unfold Ev.val Ev.cells at hck
    obtain ⟨ck, hckq⟩ : ∃ ck, chk 2 ⟨k1, k2, k3, q4, p5, c6, 0, ⟨#[]⟩, 0, ⟨#[]⟩⟩ = ck := ⟨_, rfl⟩
    rw [hckq] at hck HS
    have HCK := Lib.hid hck
    clear her hck hckq
    go_enter Tryd.func21, Tryd.ntmps21
    go_upto_region 1 with (fail)
    rw [show (#[.int .i64 0, .int .i64 0, .int .i64 0, .int .i64 0, .int .i64 0, .int .i64 0, .int .i64 0, .string ⟨#[]⟩, .int .i64 0, .string ⟨#[]⟩] : Array Value) = (default : Ev).cells from rfl]
    obtain ⟨w0, hw0⟩ := HW.out
    rw [hw0] at hbm hR r0 ⊢
    clear hw0 HW r
    go_wp2_with fail
    (with_reducible refine (HNEW.out _ r0).mono ?_)
    rintro x w1 hq
    unfold NewQ at hq
    rw [if_pos rfl] at hq
    obtain ⟨p, rfl, hrd⟩ := hq
    have h : DecR w0 w1 p w.heap.size ds [] := ⟨by rw [left_nil, badT_nil]; exact hrd, below_blk' hrd.bel hR⟩
    clear hrd hR r0 HNEW
    go_wp2_with fail
    (with_reducible refine (dnumR h hG 1 1 rfl (by decide) rfl).mono ?_)
    clear h
    rintro x w2 ⟨rfl, h, _⟩
    go_wp2_with fail
    (with_reducible refine (snum_any _ (look_num hG 1 false).1 _).mono ?_)
    rintro x w' ⟨rfl, rfl⟩
    rw [HK1.out]
    go_wp2_with fail
    (with_reducible refine (dnumR h hG 2 2 rfl (by decide) rfl).mono ?_)
    clear h
    rintro x w3 ⟨rfl, h, _⟩
    go_wp2_with fail
    (with_reducible refine (snum_any _ (look_num hG 2 false).1 _).mono ?_)
    rintro x w' ⟨rfl, rfl⟩
    rw [HK2.out]
    go_wp2_with fail
    (with_reducible refine (dnumR h hG 3 3 rfl (by decide) rfl).mono ?_)
    clear h
    rintro x w4 ⟨rfl, h, _⟩
    go_wp2_with fail
    (with_reducible refine (snum_any _ (look_num hG 3 false).1 _).mono ?_)
    rintro x w' ⟨rfl, rfl⟩
    rw [HK3.out]
    have hbe := below_made w4 (.cells #[.int .i64 k1, .int .i64 k2, .int .i64 k3, .int .i64 0, .int .i64 0, .int .i64 0, .int .i64 0, .string ⟨#[]⟩, .int .i64 0, .string ⟨#[]⟩] 25)
    have hE := heap_alloc_new w4 (.cells #[.int .i64 k1, .int .i64 k2, .int .i64 k3, .int .i64 0, .int .i64 0, .int .i64 0, .int .i64 0, .string ⟨#[]⟩, .int .i64 0, .string ⟨#[]⟩] 25)
    have hlt := lt_of_block h.ret
    have hwE : ∃ E, w4.heap.size = E := ⟨_, rfl⟩
    have h : DecIn w0 _ p w.heap.size w4.heap.size ds [(3, false), (2, false), (1, false)] #[.int .i64 k1, .int .i64 k2, .int .i64 k3, .int .i64 0, .int .i64 0, .int .i64 0, .int .i64 0, .string ⟨#[]⟩, .int .i64 0, .string ⟨#[]⟩] := ⟨h.below hbe, hE, by omega, h.rd.bel.size⟩
    have HW5 := Lib.hid (⟨_, rfl⟩ : ∃ w5, w4.alloc (.cells #[.int .i64 k1, .int .i64 k2, .int .i64 k3, .int .i64 0, .int .i64 0, .int .i64 0, .int .i64 0, .string ⟨#[]⟩, .int .i64 0, .string ⟨#[]⟩] 25) = w5)
    go_upto_region 7 with (fail)
    obtain ⟨w5, hw5⟩ := HW5.out
    rw [hw5] at h ⊢
    obtain ⟨E, hEq⟩ := hwE
    rw [hEq] at h ⊢
    clear hw5 HW5 hbe hE hlt hEq
    go_wp2_with fail
    (with_reducible refine (dint h hG 4 4 rfl (by decide) rfl).mono ?_)
    clear h
    rintro x w6 ⟨rfl, h⟩
    rw [HK4.out]
    have ce : w6.cell? ⟨E, 3, none⟩ = some (.int .i64 0) := cell_blk h.ev rfl
    have fe : w6.frozen? ⟨E, 3, none⟩ = false := free_blk h.ev
    have h : DecIn w0 _ p w.heap.size E ds [(4, false), (3, false), (2, false), (1, false)] #[.int .i64 k1, .int .i64 k2, .int .i64 k3, .int .i64 q4, .int .i64 0, .int .i64 0, .int .i64 0, .string ⟨#[]⟩, .int .i64 0, .string ⟨#[]⟩] := h.set 3 (.int .i64 q4)
    go_wp2_with fail
    (with_reducible refine (dnum h hG 5 5 rfl (by decide) rfl).mono ?_)
    clear h
    rintro x w7 ⟨rfl, h⟩
    go_wp2_with fail
    (with_reducible refine (snum_any _ (look_num hG 5 false).1 _).mono ?_)
    rintro x w' ⟨rfl, rfl⟩
    rw [HK5.out]
    have ce : w7.cell? ⟨E, 4, none⟩ = some (.int .i64 0) := cell_blk h.ev rfl
    have fe : w7.frozen? ⟨E, 4, none⟩ = false := free_blk h.ev
    have h : DecIn w0 _ p w.heap.size E ds [(5, false), (4, false), (3, false), (2, false), (1, false)] #[.int .i64 k1, .int .i64 k2, .int .i64 k3, .int .i64 q4, .int .i64 p5, .int .i64 0, .int .i64 0, .string ⟨#[]⟩, .int .i64 0, .string ⟨#[]⟩] := h.set 4 (.int .i64 p5)
    go_wp2_with fail
    (with_reducible refine (dnum h hG 6 6 rfl (by decide) rfl).mono ?_)
    clear h
    rintro x w8 ⟨rfl, h⟩
    go_wp2_with fail
    (with_reducible refine (snum_any _ (look_num hG 6 false).1 _).mono ?_)
    rintro x w' ⟨rfl, rfl⟩
    rw [HK6.out]
    have ce : w8.cell? ⟨E, 5, none⟩ = some (.int .i64 0) := cell_blk h.ev rfl
    have fe : w8.frozen? ⟨E, 5, none⟩ = false := free_blk h.ev
    have h : DecIn w0 _ p w.heap.size E ds [(6, false), (5, false), (4, false), (3, false), (2, false), (1, false)] #[.int .i64 k1, .int .i64 k2, .int .i64 k3, .int .i64 q4, .int .i64 p5, .int .i64 c6, .int .i64 0, .string ⟨#[]⟩, .int .i64 0, .string ⟨#[]⟩] := h.set 5 (.int .i64 c6)
    have hwl := h
    go_wp2_with fail
    (with_reducible refine (derr h).mono ?_)
    rintro x w' ⟨rfl, rfl⟩
    rw [HER.out]
    obtain ⟨wx, hwx⟩ : ∃ wx, w8.setCell ⟨E, 5, none⟩ (.int .i64 c6) = wx := ⟨_, rfl⟩
    rw [hwx] at h ⊢
    clear hwx hwl
    have hB := below_next hbm h.r.rd.bel
    have hR := h.r.ret
    have hE := h.ev
    by_cases her : er = 0
    · subst her
      rw [if_neg (by simp), if_neg (by simp)] at HS
      by_cases hck : ck = 0
      · subst hck
        rw [if_neg (by simp)] at HS
        clear h hG
        go_wp2_with (first
          | (with_reducible refine wpList_load_row rfl 25 (.tmp 8) rfl E rfl _ #[.int .i64 k1, .int .i64 k2, .int .i64 k3, .int .i64 q4, .int .i64 p5, .int .i64 c6, .int .i64 0, .string ⟨#[]⟩, .int .i64 0, .string ⟨#[]⟩] (0, 0) _ hE Tryd.underlying25 rfl (by with_unfolding_all exact info_ev) ?_)
          | ((with_reducible refine (HCK.out _).mono ?_); rintro x wy ⟨rfl, hby⟩; have hR := below_blk' hby hR; have hE := below_blk' hby hE; have hB := below_next hB hby)
          | (with_reducible refine wpList_store_row rfl 25 (.tmp 4) (.tmp 92) rfl w.heap.size #[.int .i64 k1, .int .i64 k2, .int .i64 k3, .int .i64 q4, .int .i64 p5, .int .i64 c6, .int .i64 0, .string ⟨#[]⟩, .int .i64 0, .string ⟨#[]⟩] rfl rfl _ _ hR (by with_unfolding_all exact info_ev) (by with_unfolding_all exact rfl) (by with_unfolding_all exact rfl) ?_))
        refine bodyPost_ret (v := .tuple #[.agg #[.int .i64 k1, .int .i64 k2, .int .i64 k3, .int .i64 q4, .int .i64 p5, .int .i64 c6, .int .i64 0, .string ⟨#[]⟩, .int .i64 0, .string ⟨#[]⟩], .int .i64 0]) (ret_evN rfl rfl (setRow_heap _ w.heap.size _ #[.int .i64 k1, .int .i64 k2, .int .i64 k3, .int .i64 q4, .int .i64 p5, .int .i64 c6, .int .i64 0, .string ⟨#[]⟩, .int .i64 0, .string ⟨#[]⟩] _ _ hR) rfl rfl) rfl ?_
        rw [HS.out]
        exact ⟨rfl, below_row hB (Nat.le_refl _) _⟩
      · have hck' : (ck != 0) = true := by rw [bne_iff_ne]; exact hck
        rw [if_pos hck] at HS
        clear h hG hck
        go_wp2_with (first
          | (with_reducible refine wpList_load_row rfl 25 (.tmp 8) rfl E rfl _ #[.int .i64 k1, .int .i64 k2, .int .i64 k3, .int .i64 q4, .int .i64 p5, .int .i64 c6, .int .i64 0, .string ⟨#[]⟩, .int .i64 0, .string ⟨#[]⟩] (0, 0) _ hE Tryd.underlying25 rfl (by with_unfolding_all exact info_ev) ?_)
          | ((with_reducible refine (HCK.out _).mono ?_); rintro x wy ⟨rfl, hby⟩; have hR := below_blk' hby hR; have hB := below_next hB hby)
          | (with_reducible refine wpList_store_row rfl 25 (.tmp 4) (.tmp 90) rfl w.heap.size (default : Ev).cells rfl rfl _ _ hR (by with_unfolding_all exact info_ev) (by with_unfolding_all exact rfl) (by with_unfolding_all exact rfl) ?_))
        refine bodyPost_ret (v := .tuple #[.agg (default : Ev).cells, .int .i64 ck]) (ret_evN rfl rfl (setRow_heap _ w.heap.size _ (default : Ev).cells _ _ hR) rfl rfl) rfl ?_
        rw [HS.out]
        exact ⟨rfl, below_row hB (Nat.le_refl _) _⟩
    · have her' : ((er : Int) != 0) = true := by rw [bne_iff_ne]; omega
      rw [if_neg (by simp), if_pos her] at HS
      clear h hG her hE
      go_wp2_with (with_reducible refine wpList_store_row rfl 25 (.tmp 4) (.tmp 83) rfl w.heap.size (default : Ev).cells rfl rfl _ _ hR (by with_unfolding_all exact info_ev) (by with_unfolding_all exact rfl) (by with_unfolding_all exact rfl) ?_)
      refine bodyPost_ret (v := .tuple #[.agg (default : Ev).cells, .int .i64 (er : Int)]) (ret_evN rfl rfl (setRow_heap _ w.heap.size _ (default : Ev).cells _ _ hR) rfl rfl) rfl ?_
      rw [HS.out]
      exact ⟨rfl, below_row hB (Nat.le_refl _) _⟩
  · have he' : ((e : Int) != 0) = true := by rw [bne_iff_ne]; omega
    have HE := Lib.hid he
    rw [if_pos he] at HS
    clear he hG
    go_enter Tryd.func21, Tryd.ntmps21
    go_upto_region 1 with (fail)
    rw [show (#[.int .i64 0, .int .i64 0, .int .i64 0, .int .i64 0, .int .i64 0, .int .i64 0, .int .i64 0, .string ⟨#[]⟩, .int .i64 0, .string ⟨#[]⟩] : Array Value) = (default : Ev).cells from rfl]
    obtain ⟨w0, hw0⟩ := HW.out
    rw [hw0] at hbm hR r0 ⊢
    clear hw0 HW r
    go_wp2_with fail
    (with_reducible refine (HNEW.out _ r0).mono ?_)
    rintro x w1 hq
    unfold NewQ at hq
    rw [if_neg HE.out] at hq
    obtain ⟨rfl, hb1⟩ := hq
    have hR1 := below_blk' hb1 hR
    have hB := below_next hbm hb1
    clear hR r0 HNEW
    go_wp2_with (with_reducible refine wpList_store_row rfl 25 (.tmp 4) (.tmp 25) rfl w.heap.size (default : Ev).cells rfl rfl _ _ hR1 (by with_unfolding_all exact info_ev) (by with_unfolding_all exact rfl) (by with_unfolding_all exact rfl) ?_)
    refine bodyPost_ret (v := .tuple #[.agg (default : Ev).cells, .int .i64 (e : Int)]) (ret_evN rfl rfl (setRow_heap _ w.heap.size _ (default : Ev).cells _ _ hR1) rfl rfl) rfl ?_
    rw [HS.out]
    exact ⟨rfl, below_row hB (Nat.le_refl _) _⟩
end Go.Proofs.YtkdpingniohfhaaDoor
