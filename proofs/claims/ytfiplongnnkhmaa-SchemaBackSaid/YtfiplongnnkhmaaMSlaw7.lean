/-
  The walks of SchemaBack and SchemaOneForm, printed by genslaw7.py. Condition: the argument reads as bytes.
-/
import Derived.Test.YtfiplongnnkhmaaMShead
import Derived.Test.YtfiplongnnkhmaaMSinv3
import Derived.Deep.Cut
namespace Go.Proofs.Ytfiplongnnkhmaa
open Go.RowKit
set_option linter.unusedVariables false

set_option maxRecDepth 8000 in
set_option maxHeartbeats 3200000 in
theorem back6_walk (v : Int) (ev : Value) (e : Ev) (w : World) (v0 : -9223372036854775808 ≤ v) (v1 : v ≤ 9223372036854775807) (he : ev = e.val ∧ e.ok) :
    Calls Try.prog 6 #[.int .i64 v, ev] w fun x w' => x = .returned (.bool true) ∧ Below w.heap.size w w' := by
  obtain ⟨rfl, -⟩ := he
  have hs := fun wx => senc_any v e wx
  have hc := fun wx => chk_any v e wx
  have hinv := @dec_back v e
  have hnil : chk v e ≠ 0 → encL v e = [] := fun h => by unfold encL; rw [if_neg h]
  have hd := fun L wx a n c hx => sdec_any v a n c L wx hx
  obtain ⟨k0, k1, k2, k3, k4, k5, k6, k7, k8, k9⟩ := e
  obtain ⟨ck, hck⟩ : ∃ ck, chk v ⟨k0, k1, k2, k3, k4, k5, k6, k7, k8, k9⟩ = ck := ⟨_, rfl⟩
  obtain ⟨L, hL⟩ : ∃ L, encL v ⟨k0, k1, k2, k3, k4, k5, k6, k7, k8, k9⟩ = L := ⟨_, rfl⟩
  unfold GivesE at hs
  unfold GivesC at hc
  rw [hck, hL] at hs hinv hnil
  rw [hck] at hc
  unfold Ev.val Ev.cells at hs hc ⊢
  have HS := Lib.hid hs
  have HC := Lib.hid hc
  have HH := Lib.hid schead_any
  have hbm := below_made w (.cells #[.int .i64 k0, .int .i64 k1, .int .i64 k2, .int .i64 k3, .int .i64 k4, .int .i64 k5, .int .i64 k6, .string k7, .int .i64 k8, .string k9] 24)
  have hE := heap_alloc_new w (.cells #[.int .i64 k0, .int .i64 k1, .int .i64 k2, .int .i64 k3, .int .i64 k4, .int .i64 k5, .int .i64 k6, .string k7, .int .i64 k8, .string k9] 24)
  have HD0 := hd L
  by_cases hz : ck = 0
  · subst hz
    obtain ⟨hi, hlen⟩ := hinv rfl
    unfold GivesDE at HD0
    rw [hi] at HD0
    unfold Ev.val Ev.cells at HD0
    dsimp only at HD0
    have HD := Lib.hid HD0
    obtain ⟨n, hn⟩ : ∃ n, L.length = n := ⟨_, rfl⟩
    rw [hn] at HS hlen
    have hlen' : (n : Int) ≤ 1024 := by omega
    clear hs hc hck hL v0 v1 hinv hnil hd HD0 hi hn
    go_enter Try.func6, Try.ntmps6
    go_upto_region 1 with (fail)
    obtain ⟨w0, hw0⟩ : ∃ w0, w.alloc (.cells #[.int .i64 k0, .int .i64 k1, .int .i64 k2, .int .i64 k3, .int .i64 k4, .int .i64 k5, .int .i64 k6, .string k7, .int .i64 k8, .string k9] 24) = w0 := ⟨_, rfl⟩
    rw [hw0] at hbm hE ⊢
    clear hw0
    go_wp2_with (first
      | ((with_reducible refine (HH.out _).mono ?_); rintro x w1 ⟨rfl, hb1⟩; have hE := below_blk' hb1 hE; have hbm := below_next hbm hb1)
      | (with_reducible refine wpList_load_row rfl 24 (.tmp 3) rfl w.heap.size rfl _ #[.int .i64 k0, .int .i64 k1, .int .i64 k2, .int .i64 k3, .int .i64 k4, .int .i64 k5, .int .i64 k6, .string k7, .int .i64 k8, .string k9] (0, 0) _ hE Try.underlying24 rfl (by with_unfolding_all exact info_ev) ?_)
      | ((with_reducible refine (HS.out _).mono ?_); rintro x w2 ⟨a, c, l, rfl, rfl, ho, hb1⟩; have hE := below_blk' hb1 hE; have hbm := below_next hbm hb1; have r1 := own_rowAt ho)
      | ((with_reducible refine (HC.out _).mono ?_); rintro x w3 ⟨rfl, hb1⟩; have hE := below_blk' hb1 hE; have hbm := below_next hbm hb1; have r1 := r1.below hb1))
    (with_reducible refine (HD.out _ _ _ _ r1).mono ?_)
    rintro x w4 ⟨rfl, hb1⟩
    have hbf := below_made w4 (.cells #[.int .i64 k0, .int .i64 k1, .int .i64 k2, .int .i64 k3, .int .i64 k4, .int .i64 k5, .int .i64 k6, .string k7, .int .i64 k8, .string k9] 24)
    have hF := heap_alloc_new w4 (.cells #[.int .i64 k0, .int .i64 k1, .int .i64 k2, .int .i64 k3, .int .i64 k4, .int .i64 k5, .int .i64 k6, .string k7, .int .i64 k8, .string k9] 24)
    have hE5 := below_blk' hbf (below_blk' hb1 hE)
    have hbm5 := below_next (below_next hbm hb1) hbf
    have HW := Lib.hid (⟨_, rfl⟩ : ∃ wf, w4.alloc (.cells #[.int .i64 k0, .int .i64 k1, .int .i64 k2, .int .i64 k3, .int .i64 k4, .int .i64 k5, .int .i64 k6, .string k7, .int .i64 k8, .string k9] 24) = wf)
    clear hbf hb1 hE hbm
    go_upto_region 9 with (fail)
    obtain ⟨w5, hw5⟩ := HW.out
    rw [hw5] at hF hE5 hbm5 ⊢
    clear hw5 HW
    go_wp2_with (first
      | (with_reducible refine wpList_load_rowG rfl 24 (.tmp 7) rfl w4.heap.size rfl _ #[.int .i64 k0, .int .i64 k1, .int .i64 k2, .int .i64 k3, .int .i64 k4, .int .i64 k5, .int .i64 k6, .string k7, .int .i64 k8, .string k9] (0, 0) _ hF Try.underlying24 rfl (by with_unfolding_all exact info_ev) ?_)
      | (with_reducible refine wpList_load_rowG rfl 24 (.tmp 3) rfl w.heap.size rfl _ #[.int .i64 k0, .int .i64 k1, .int .i64 k2, .int .i64 k3, .int .i64 k4, .int .i64 k5, .int .i64 k6, .string k7, .int .i64 k8, .string k9] (0, 0) _ hE5 Try.underlying24 rfl (by with_unfolding_all exact info_ev) ?_))
    go_ret
    exact ⟨rfl, hbm5⟩
  · have hnl := hnil hz
    subst hnl
    have hck' : (ck != 0) = true := by rw [bne_iff_ne]; exact hz
    simp only [List.length_nil, List.map_nil] at HS
    clear hs hc hck hL v0 v1 hinv hnil hd HD0 hz
    go_enter Try.func6, Try.ntmps6
    go_upto_region 1 with (fail)
    obtain ⟨w0, hw0⟩ : ∃ w0, w.alloc (.cells #[.int .i64 k0, .int .i64 k1, .int .i64 k2, .int .i64 k3, .int .i64 k4, .int .i64 k5, .int .i64 k6, .string k7, .int .i64 k8, .string k9] 24) = w0 := ⟨_, rfl⟩
    rw [hw0] at hbm hE ⊢
    clear hw0
    go_wp2_with (first
      | ((with_reducible refine (HH.out _).mono ?_); rintro x w1 ⟨rfl, hb1⟩; have hE := below_blk' hb1 hE; have hbm := below_next hbm hb1)
      | (with_reducible refine wpList_load_row rfl 24 (.tmp 3) rfl w.heap.size rfl _ #[.int .i64 k0, .int .i64 k1, .int .i64 k2, .int .i64 k3, .int .i64 k4, .int .i64 k5, .int .i64 k6, .string k7, .int .i64 k8, .string k9] (0, 0) _ hE Try.underlying24 rfl (by with_unfolding_all exact info_ev) ?_)
      | ((with_reducible refine (HS.out _).mono ?_); rintro x w2 ⟨a, c, l, rfl, rfl, ho, hb1⟩; have hE := below_blk' hb1 hE; have hbm := below_next hbm hb1)
      | ((with_reducible refine (HC.out _).mono ?_); rintro x w3 ⟨rfl, hb1⟩; have hbm := below_next hbm hb1))
    go_ret
    exact ⟨rfl, hbm⟩

set_option maxRecDepth 8000 in
set_option maxHeartbeats 6400000 in
theorem oneForm6_walk (a : Option Addr) (n c : Nat) (l : List UInt8) (w : World) (r : RowAt w a n c 1 (l.map B)) (hs : n * 1 ≤ 140737488351232) :
    Calls Try.prog 7 #[.slice a n c] w fun x w' => x = .returned (.bool true) ∧ Below w.heap.size w w' := by
  have HH := Lib.hid schead_any
  have hcp := fun wx hx => copy_any a n c l wx (by omega) hx
  unfold GivesB at hcp
  obtain ⟨n2, hn2⟩ : ∃ n2, l.length = n2 := ⟨_, rfl⟩
  have hn2' := hn2
  rw [hn2] at hcp
  have HCP := Lib.hid hcp
  have HN2 := Lib.hid hn2'
  clear hcp hs hn2 hn2'
  go_enter Try.func7, Try.ntmps7
  go_wp2_with fail
  (with_reducible refine (HH.out _).mono ?_)
  rintro x w1 ⟨rfl, hb1⟩
  have r1 := r.below hb1
  go_wp2_with fail
  go_loopw [3] (fun kv wr => ∃ k : Nat, kv = .int .i64 (k : Int) ∧ 1 ≤ k ∧ k ≤ 6 ∧ RowAt wr a n c 1 (l.map B) ∧ Below w.heap.size w wr) (fun kv _ => 6 - (intOf kv).toNat)
  case atStart => exact ⟨1, rfl, by omega, by omega, r1, hb1⟩
  case round =>
    clear r1 hb1 HH
    obtain ⟨k, rfl, hk1, hk, r3, hbm⟩ := hrel
    by_cases hlt : k ≤ 5
    · have hd := fun wx a n c hx => sdec_any (k : Int) a n c l wx hx
      have hform := @dec_form (k : Int) l
      have hbad := @dec_bad (k : Int) l
      obtain ⟨z, hz⟩ : ∃ z, sdecF (k : Int) l = z := ⟨_, rfl⟩
      rw [hz] at hd hform hbad
      obtain ⟨e, ez⟩ := z
      simp only at hform hbad
      by_cases hez : ez = 0
      · subst hez
        obtain ⟨-, -, hck, hL⟩ := hform rfl
        have he := fun wx => senc_any (k : Int) e wx
        unfold GivesE at he
        rw [hck, hL] at he
        obtain ⟨k0, k1, k2, k3, k4, k5, k6, k7, k8, k9⟩ := e
        unfold GivesDE Ev.val Ev.cells at hd
        unfold Ev.val Ev.cells at he
        simp only at hd
        have HD := Lib.hid hd
        have HE := Lib.hid he
        clear hz hd he hform hbad hck hL
        go_wp2_with fail
        (with_reducible refine (HCP.out _ r3).mono ?_)
        rintro x w4 ⟨a4, c4, rfl, ho4, hb4⟩
        have r4 := r3.below hb4
        have m4 := own_rowAt ho4
        have hbm4 := below_next hbm hb4
        clear ho4 hb4 r3 hbm
        go_wp2_with fail
        (with_reducible refine (HD.out _ _ _ _ m4).mono ?_)
        rintro x w5 ⟨rfl, hb5⟩
        have hbf := below_made w5 (.cells #[.int .i64 k0, .int .i64 k1, .int .i64 k2, .int .i64 k3, .int .i64 k4, .int .i64 k5, .int .i64 k6, .string k7, .int .i64 k8, .string k9] 24)
        have hX := heap_alloc_new w5 (.cells #[.int .i64 k0, .int .i64 k1, .int .i64 k2, .int .i64 k3, .int .i64 k4, .int .i64 k5, .int .i64 k6, .string k7, .int .i64 k8, .string k9] 24)
        have r5 := (r4.below hb5).below hbf
        have hbm5 := below_next (below_next hbm4 hb5) hbf
        have HW := Lib.hid (⟨_, rfl⟩ : ∃ wf, w5.alloc (.cells #[.int .i64 k0, .int .i64 k1, .int .i64 k2, .int .i64 k3, .int .i64 k4, .int .i64 k5, .int .i64 k6, .string k7, .int .i64 k8, .string k9] 24) = wf)
        clear hb5 hbf r4 m4 hbm4
        go_upto_region 7 with (fail)
        obtain ⟨w6, hw6⟩ := HW.out
        rw [hw6] at hX r5 hbm5 ⊢
        clear hw6 HW
        go_wp2_with (first
          | (with_reducible refine wpList_load_row rfl 24 (.tmp 4) rfl w5.heap.size rfl _ #[.int .i64 k0, .int .i64 k1, .int .i64 k2, .int .i64 k3, .int .i64 k4, .int .i64 k5, .int .i64 k6, .string k7, .int .i64 k8, .string k9] (0, 0) _ hX Try.underlying24 rfl (by with_unfolding_all exact info_ev) ?_)
          | ((with_reducible refine (HE.out _).mono ?_); rintro x w7 ⟨a7, c7, l7, rfl, rfl, ho7, hb7⟩; have r7 := r5.below hb7; have m7 := own_rowAt ho7; have hbm7 := below_next hbm5 hb7)
          | (go_at_call 16; refine (same_any _ _ _ l _ _ _ l _ m7 r7).mono ?_; rintro x w8 ⟨rfl, hst⟩; have r8 := r7.below (hst.below _); have hbm8 := hbm7.trans (hst.below _); simp only [beq_self_eq_true]))
        go_roundw
        case rel => exact ⟨k + 1, by go_num, by omega, by omega, r8, hbm8⟩
        case measure => simp [intOf]; omega
      · obtain rfl := hbad hez
        have hez' : (ez != 0) = true := by rw [bne_iff_ne]; exact hez
        unfold GivesDE at hd
        rw [show (default : Ev).val = .agg #[.int .i64 0, .int .i64 0, .int .i64 0, .int .i64 0, .int .i64 0, .int .i64 0, .int .i64 0, .string ⟨#[]⟩, .int .i64 0, .string ⟨#[]⟩] from rfl] at hd
        have HD := Lib.hid hd
        clear hz hd hform hbad hez
        go_wp2_with fail
        (with_reducible refine (HCP.out _ r3).mono ?_)
        rintro x w4 ⟨a4, c4, rfl, ho4, hb4⟩
        have r4 := r3.below hb4
        have m4 := own_rowAt ho4
        have hbm4 := below_next hbm hb4
        clear ho4 hb4 r3 hbm
        go_wp2_with fail
        (with_reducible refine (HD.out _ _ _ _ m4).mono ?_)
        rintro x w5 ⟨rfl, hb5⟩
        have hbf := below_made w5 (.cells #[.int .i64 0, .int .i64 0, .int .i64 0, .int .i64 0, .int .i64 0, .int .i64 0, .int .i64 0, .string ⟨#[]⟩, .int .i64 0, .string ⟨#[]⟩] 24)
        have hX := heap_alloc_new w5 (.cells #[.int .i64 0, .int .i64 0, .int .i64 0, .int .i64 0, .int .i64 0, .int .i64 0, .int .i64 0, .string ⟨#[]⟩, .int .i64 0, .string ⟨#[]⟩] 24)
        have r5 := (r4.below hb5).below hbf
        have hbm5 := below_next (below_next hbm4 hb5) hbf
        have HW := Lib.hid (⟨_, rfl⟩ : ∃ wf, w5.alloc (.cells #[.int .i64 0, .int .i64 0, .int .i64 0, .int .i64 0, .int .i64 0, .int .i64 0, .int .i64 0, .string ⟨#[]⟩, .int .i64 0, .string ⟨#[]⟩] 24) = wf)
        clear hb5 hbf r4 m4 hbm4
        go_upto_region 7 with (fail)
        obtain ⟨w6, hw6⟩ := HW.out
        rw [hw6] at hX r5 hbm5 ⊢
        clear hw6 HW
        go_wp2_with (with_reducible refine wpList_load_row rfl 24 (.tmp 4) rfl w5.heap.size rfl _ #[.int .i64 0, .int .i64 0, .int .i64 0, .int .i64 0, .int .i64 0, .int .i64 0, .int .i64 0, .string ⟨#[]⟩, .int .i64 0, .string ⟨#[]⟩] (0, 0) _ hX Try.underlying24 rfl (by with_unfolding_all exact info_ev) ?_)
        go_roundw
        case rel => exact ⟨k + 1, by go_num, by omega, by omega, r5, hbm5⟩
        case measure => simp [intOf]; omega
    · go_wp2_with fail
      go_ret
      exact ⟨rfl, hbm⟩
end Go.Proofs.Ytfiplongnnkhmaa
