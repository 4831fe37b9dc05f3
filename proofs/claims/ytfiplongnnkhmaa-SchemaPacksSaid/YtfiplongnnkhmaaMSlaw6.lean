/-
  The walk of SchemaPacks, printed by genslaw6.py. Condition: the argument reads as bytes.
-/
import Derived.Test.YtfiplongnnkhmaaMShead
import Derived.Test.YtfiplongnnkhmaaMRunp6
import Derived.Deep.Cut
namespace Go.Proofs.Ytfiplongnnkhmaa
open Go.RowKit
set_option linter.unusedVariables false

/-- What is left of a row from a place on. -/
def TailB (w : World) (b n k : Nat) : Prop := ∃ cs, w.heap[b]? = some (.cells cs 5 (0, 0)) ∧ ∀ i, k ≤ i → i < n → ∃ x : Int, cs[i]? = some (.int .u8 x) ∧ 0 ≤ x ∧ x ≤ 255
theorem tail_of {w : World} {base : Nat} {a : Option Addr} {c : Nat} {l : List UInt8} (h : w.ownsRow base 5 1 (.slice a l.length c) l.length (l.map B)) (hl : 0 < l.length) : ∃ b, a = some ⟨b, 0, none⟩ ∧ base ≤ b ∧ TailB w b l.length 0 := by
  rcases h.2 with ⟨hv, h0⟩ | ⟨g, cc, cur, hv, hb, hg, hn, hm, hs, ht⟩
  · omega
  · injection hv with e1 e2 e3
    subst e1
    refine ⟨g, rfl, hb, cur, hg, fun i _ hi => ?_⟩
    have hx : (l.map B)[i]? = some (B l[i]) := by rw [List.getElem?_map, List.getElem?_eq_getElem hi]; rfl
    rw [← ht, List.getElem?_take] at hx
    split at hx
    · refine ⟨(l[i].toNat : Int), by simpa [B] using hx, by omega, ?_⟩
      have := l[i].toNat_lt; omega
    · cases hx
theorem TailB.set {w : World} {b n k : Nat} (h : TailB w b n k) (v : Value) : TailB (w.setCell ⟨b, k, none⟩ v) b n (k + 1) := by
  obtain ⟨cs, hb, hc⟩ := h
  refine ⟨_, blk_set hb, fun i h1 h2 => ?_⟩
  obtain ⟨x, h3, h4⟩ := hc i (by omega) h2
  refine ⟨x, ?_, h4⟩
  rw [Array.getElem?_setIfInBounds_ne (by omega)]
  exact h3

set_option maxRecDepth 8000 in
set_option maxHeartbeats 6400000 in
theorem packs6_walk (v : Int) (ev : Value) (e : Ev) (a2 : Option Addr) (n2 c2 : Nat) (l2 : List UInt8) (w : World) (v0 : -9223372036854775808 ≤ v) (v1 : v ≤ 9223372036854775807) (he : ev = e.val ∧ e.ok) (r : RowAt w a2 n2 c2 1 (l2.map B)) (hs2 : n2 * 1 ≤ 140737488351232) :
    Calls Try.prog 8 #[.int .i64 v, ev, .slice a2 n2 c2] w fun x w' => x = .returned (.bool true) ∧ Below w.heap.size w w' := by
  obtain ⟨rfl, -⟩ := he
  have hp := fun wx => pack_any v e wx
  have hr := fun wx => rpack_any v e wx
  have hcp := fun wx hx => copy_any a2 n2 c2 l2 wx (by omega) hx
  have hsu := fun wx a n c hx => unp_any a n c l2 wx hx
  have hru := fun wx hx => runp_any a2 n2 c2 l2 wx hx
  obtain ⟨z, hz⟩ : ∃ z, unpF l2 = z := ⟨_, rfl⟩
  rw [hz] at hsu hru
  obtain ⟨vz, ⟨j0, j1, j2, j3, j4, j5, j6, j7, j8, j9⟩, ez⟩ := z
  unfold GivesU Ev.val Ev.cells at hsu hru
  unfold GivesB at hcp
  simp only at hsu hru
  obtain ⟨k0, k1, k2, k3, k4, k5, k6, k7, k8, k9⟩ := e
  obtain ⟨ck, hck⟩ : ∃ ck, chk v ⟨k0, k1, k2, k3, k4, k5, k6, k7, k8, k9⟩ = ck := ⟨_, rfl⟩
  obtain ⟨L, hL⟩ : ∃ L, packL v ⟨k0, k1, k2, k3, k4, k5, k6, k7, k8, k9⟩ = L := ⟨_, rfl⟩
  unfold GivesP at hp hr
  rw [hck, hL] at hp hr
  unfold Ev.val Ev.cells at hp hr ⊢
  have HP := Lib.hid hp
  have HR := Lib.hid hr
  have HCP := Lib.hid hcp
  have HSU := Lib.hid hsu
  have HRU := Lib.hid hru
  have HH := Lib.hid schead_any
  have hbm := below_made w (.cells #[.int .i64 k0, .int .i64 k1, .int .i64 k2, .int .i64 k3, .int .i64 k4, .int .i64 k5, .int .i64 k6, .string k7, .int .i64 k8, .string k9] 24)
  have hE := heap_alloc_new w (.cells #[.int .i64 k0, .int .i64 k1, .int .i64 k2, .int .i64 k3, .int .i64 k4, .int .i64 k5, .int .i64 k6, .string k7, .int .i64 k8, .string k9] 24)
  clear hp hr hck hL hcp hsu hru hz v0 v1 hs2
  go_enter Try.func8, Try.ntmps8
  go_upto_region 1 with (fail)
  obtain ⟨w0, hw0⟩ : ∃ w0, w.alloc (.cells #[.int .i64 k0, .int .i64 k1, .int .i64 k2, .int .i64 k3, .int .i64 k4, .int .i64 k5, .int .i64 k6, .string k7, .int .i64 k8, .string k9] 24) = w0 := ⟨_, rfl⟩
  rw [hw0] at hbm hE ⊢
  clear hw0
  go_wp2_with (first
    | (with_reducible refine wpList_load_row rfl 24 (.tmp 4) rfl w.heap.size rfl _ #[.int .i64 k0, .int .i64 k1, .int .i64 k2, .int .i64 k3, .int .i64 k4, .int .i64 k5, .int .i64 k6, .string k7, .int .i64 k8, .string k9] (0, 0) _ hE Try.underlying24 rfl (by with_unfolding_all exact info_ev) ?_)
    | ((with_reducible refine (HH.out _).mono ?_); rintro x w1 ⟨rfl, hb1⟩; have hE := below_blk' hb1 hE; have hbm := below_next hbm hb1)
    | ((with_reducible refine (HR.out _).mono ?_); rintro x w2 ⟨a3, c3, l, rfl, rfl, ho, hb1⟩; have hE := below_blk' hb1 hE; have hbm := below_next hbm hb1; have r1 := own_rowAt ho))
  have q2 := r1
  have hbm2 := hbm
  (with_reducible refine (HP.out _).mono ?_)
  rintro x w3 ⟨a4, c4, l, rfl, rfl, ho4, hb1⟩
  have hE := below_blk' hb1 hE
  have hbm := below_next hbm hb1
  have r1 := r1.below hb1
  have hbP := hb1
  have ho4' := ho4
  go_wp2_with (with_reducible refine wpList_load_row rfl 24 (.tmp 4) rfl w.heap.size rfl _ #[.int .i64 k0, .int .i64 k1, .int .i64 k2, .int .i64 k3, .int .i64 k4, .int .i64 k5, .int .i64 k6, .string k7, .int .i64 k8, .string k9] (0, 0) _ hE Try.underlying24 rfl (by with_unfolding_all exact info_ev) ?_)
  (with_reducible refine (HP.out _).mono ?_)
  rintro x w4 ⟨a5, c5, l, rfl, rfl, ho5, hb1⟩
  have hbm4 := below_next hbm hb1
  have r4 := trivial
  have q4 := r1.below hb1
  have ho4 := own_below ho4 hb1
  have p4 := own_rowAt ho4
  have s4 := own_rowAt ho5
  have hw3 := hb1.size
  have hbw2 : Below w2.heap.size w2 w4 := below_next hbP hb1
  have hw2 := hbP.size
  have hn5 : ∀ b o, a5 = some ⟨b, o, none⟩ → w3.heap.size ≤ b := fun b o e => by subst e; exact (ho5.lt b rfl).1
  have hl4 : 0 < L.length → ∃ b, a4 = some ⟨b, 0, none⟩ ∧ w2.heap.size ≤ b ∧ b < w3.heap.size ∧ TailB w4 b L.length 0 := fun hl => by
    obtain ⟨b, e, h1, h2⟩ := tail_of ho4 hl
    subst e
    exact ⟨b, rfl, h1, (ho4'.lt b rfl).2, h2⟩
  obtain ⟨n, hn⟩ : ∃ n, L.length = n := ⟨_, rfl⟩
  rw [hn] at p4 q4 s4 hl4 q2 ⊢
  have HN5 := Lib.hid hn5
  have m4 := p4.2.2.1
  have m4' := p4.2.1
  unfold maxLen at m4
  clear ho4 ho4' ho5 hb1 hbP hn hn5 r4 HP HR HH
  go_wp2_with (go_at_call 16; refine (same_any _ _ _ L _ _ _ L _ p4 q4).mono ?_; rintro x w5 ⟨rfl, hst⟩; simp only [beq_self_eq_true])
  have hbm5 := hbm4.trans (hst.below _)
  have hbw5 := hbw2.trans (hst.below _)
  have s5 := s4.below (hst.below _)
  have hl5 : 0 < n → ∃ b, a4 = some ⟨b, 0, none⟩ ∧ w2.heap.size ≤ b ∧ b < w3.heap.size ∧ TailB w5 b n 0 := fun hl => by
    obtain ⟨b, e, h1, h2, cs, h3, h4⟩ := hl4 hl
    exact ⟨b, e, h1, h2, cs, (show w5.heap[b]? = _ by rw [hst.heap]; exact h3), h4⟩
  have hw25 : w2.heap.size ≤ w5.heap.size := hbw5.size
  have hw0 := hbm2.size
  clear hst p4 q4 s4 hl4 hbm4 hbw2
  by_cases hn0 : 0 < n
  · obtain ⟨b4, rfl, hb4, hb4', hT⟩ := hl5 hn0
    clear hl5
    go_loopw [52] (fun iv wr => ∃ k : Nat, iv = .int .i64 (k : Int) ∧ k ≤ n ∧ TailB wr b4 n k ∧ RowAt wr a5 n c5 1 (L.map B) ∧ Below w2.heap.size w2 wr ∧ Below w.heap.size w wr) (fun iv _ => n - (intOf iv).toNat)
    case atStart => exact ⟨0, rfl, by omega, hT, s5, hbw5, hbm5⟩
    case round =>
      clear hT s5 hbw5 hbm5
      obtain ⟨k, rfl, hk, hT, s6, hbw6, hbm6⟩ := hrel
      by_cases hlt : k < n
      · obtain ⟨cs, hcs, hat⟩ := id hT
        obtain ⟨x, hx, x0, x1⟩ := hat k (Nat.le_refl _) hlt
        have cx : wr.cell? ⟨b4, k, none⟩ = some (.int .u8 x) := cell_blk hcs hx
        have fx : wr.frozen? ⟨b4, k, none⟩ = false := free_blk hcs
        clear hcs hat hx
        go_wp2_with fail
        go_roundw
        case rel => exact ⟨k + 1, by go_num, by omega, hT.set _, s6.grown (grown_set _ _ _ _) (fun b o e e2 => by have h1 := HN5.out b o e; have h2 := Option.some.inj e2; omega), hbw6.setCell (p := ⟨b4, k, none⟩) hb4 _, hbm6.setCell (p := ⟨b4, k, none⟩) (by show w.heap.size ≤ b4; omega) _⟩
        case measure => simp [intOf]; omega
      · have r6 := r.below hbm6
        have q6 := q2.below hbw6
        go_upto_region 15 with (go_at_call 16; refine (same_any _ _ _ L _ _ _ L _ s6 q6).mono ?_; rintro x w6' ⟨rfl, hst⟩; have hbm6 := hbm6.trans (hst.below _); have r6 := r6.below (hst.below _); simp only [beq_self_eq_true])
        go_wp2_with fail
        (with_reducible refine (HCP.out _ r6).mono ?_)
        rintro x w7 ⟨a7, c7, rfl, ho7, hb7⟩
        have r7 := r6.below hb7
        have m7 := own_rowAt ho7
        have hbm7 := below_next hbm6 hb7
        obtain ⟨n7, hn7⟩ : ∃ n7, l2.length = n7 := ⟨_, rfl⟩
        rw [hn7] at m7 ⊢
        clear hn7 ho7 r6 hbm6 hb7
        go_wp2_with fail
        (with_reducible refine (HRU.out _ r7).mono ?_)
        rintro x w8 ⟨rfl, hb8⟩
        have hbf := below_made w8 (.cells #[.int .i64 j0, .int .i64 j1, .int .i64 j2, .int .i64 j3, .int .i64 j4, .int .i64 j5, .int .i64 j6, .string j7, .int .i64 j8, .string j9] 24)
        have hX := heap_alloc_new w8 (.cells #[.int .i64 j0, .int .i64 j1, .int .i64 j2, .int .i64 j3, .int .i64 j4, .int .i64 j5, .int .i64 j6, .string j7, .int .i64 j8, .string j9] 24)
        have r8 := (r7.below hb8).below hbf
        have m8 := (m7.below hb8).below hbf
        have hbm8 := below_next (below_next hbm7 hb8) hbf
        have HW := Lib.hid (⟨_, rfl⟩ : ∃ wf, w8.alloc (.cells #[.int .i64 j0, .int .i64 j1, .int .i64 j2, .int .i64 j3, .int .i64 j4, .int .i64 j5, .int .i64 j6, .string j7, .int .i64 j8, .string j9] 24) = wf)
        clear hb8 hbf r7 m7 hbm7
        go_upto_region 17 with (fail)
        obtain ⟨w9, hw9⟩ := HW.out
        rw [hw9] at hX r8 m8 hbm8 ⊢
        clear hw9 HW
        go_wp2_with fail
        (with_reducible refine (HSU.out _ _ _ _ m8).mono ?_)
        rintro x w10 ⟨rfl, hb10⟩
        have hbf := below_made w10 (.cells #[.int .i64 j0, .int .i64 j1, .int .i64 j2, .int .i64 j3, .int .i64 j4, .int .i64 j5, .int .i64 j6, .string j7, .int .i64 j8, .string j9] 24)
        have hY := heap_alloc_new w10 (.cells #[.int .i64 j0, .int .i64 j1, .int .i64 j2, .int .i64 j3, .int .i64 j4, .int .i64 j5, .int .i64 j6, .string j7, .int .i64 j8, .string j9] 24)
        have hX10 := below_blk' hbf (below_blk' hb10 hX)
        have r10 := (r8.below hb10).below hbf
        have m10 := (m8.below hb10).below hbf
        have hbm10 := below_next (below_next hbm8 hb10) hbf
        have HW := Lib.hid (⟨_, rfl⟩ : ∃ wf, w10.alloc (.cells #[.int .i64 j0, .int .i64 j1, .int .i64 j2, .int .i64 j3, .int .i64 j4, .int .i64 j5, .int .i64 j6, .string j7, .int .i64 j8, .string j9] 24) = wf)
        clear hb10 hbf r8 m8 hbm8 hX
        go_upto_region 18 with (fail)
        obtain ⟨w11, hw11⟩ := HW.out
        rw [hw11] at hX10 hY r10 m10 hbm10 ⊢
        clear hw11 HW
        go_wp2_with (first
          | (with_reducible refine wpList_load_rowG rfl 24 (.tmp 19) rfl w10.heap.size rfl _ #[.int .i64 j0, .int .i64 j1, .int .i64 j2, .int .i64 j3, .int .i64 j4, .int .i64 j5, .int .i64 j6, .string j7, .int .i64 j8, .string j9] (0, 0) _ hY Try.underlying24 rfl (by with_unfolding_all exact info_ev) ?_)
          | (with_reducible refine wpList_load_rowG rfl 24 (.tmp 16) rfl w8.heap.size rfl _ #[.int .i64 j0, .int .i64 j1, .int .i64 j2, .int .i64 j3, .int .i64 j4, .int .i64 j5, .int .i64 j6, .string j7, .int .i64 j8, .string j9] (0, 0) _ hX10 Try.underlying24 rfl (by with_unfolding_all exact info_ev) ?_)
          | (go_at_call 16; refine (same_any _ _ _ l2 _ _ _ l2 _ m10 r10).mono ?_; rintro x w12 ⟨rfl, hst⟩; have hbm12 := hbm10.trans (hst.below _); simp only [beq_self_eq_true]))
        go_ret
        exact ⟨rfl, hbm12⟩
  · obtain rfl : n = 0 := by omega
    clear hl5
    go_loopw [52] (fun iv wr => iv = .int .i64 0 ∧ RowAt wr a5 0 c5 1 (L.map B) ∧ Below w2.heap.size w2 wr ∧ Below w.heap.size w wr) (fun iv _ => 0)
    case atStart => exact ⟨rfl, s5, hbw5, hbm5⟩
    case round =>
      clear s5 hbw5 hbm5
      obtain ⟨rfl, s6, hbw6, hbm6⟩ := hrel
      have r6 := r.below hbm6
      have q6 := q2.below hbw6
      go_upto_region 15 with (go_at_call 16; refine (same_any _ _ _ L _ _ _ L _ s6 q6).mono ?_; rintro x w6' ⟨rfl, hst⟩; have hbm6 := hbm6.trans (hst.below _); have r6 := r6.below (hst.below _); simp only [beq_self_eq_true])
      go_wp2_with fail
      (with_reducible refine (HCP.out _ r6).mono ?_)
      rintro x w7 ⟨a7, c7, rfl, ho7, hb7⟩
      have r7 := r6.below hb7
      have m7 := own_rowAt ho7
      have hbm7 := below_next hbm6 hb7
      obtain ⟨n7, hn7⟩ : ∃ n7, l2.length = n7 := ⟨_, rfl⟩
      rw [hn7] at m7 ⊢
      clear hn7 ho7 r6 hbm6 hb7
      go_wp2_with fail
      (with_reducible refine (HRU.out _ r7).mono ?_)
      rintro x w8 ⟨rfl, hb8⟩
      have hbf := below_made w8 (.cells #[.int .i64 j0, .int .i64 j1, .int .i64 j2, .int .i64 j3, .int .i64 j4, .int .i64 j5, .int .i64 j6, .string j7, .int .i64 j8, .string j9] 24)
      have hX := heap_alloc_new w8 (.cells #[.int .i64 j0, .int .i64 j1, .int .i64 j2, .int .i64 j3, .int .i64 j4, .int .i64 j5, .int .i64 j6, .string j7, .int .i64 j8, .string j9] 24)
      have r8 := (r7.below hb8).below hbf
      have m8 := (m7.below hb8).below hbf
      have hbm8 := below_next (below_next hbm7 hb8) hbf
      have HW := Lib.hid (⟨_, rfl⟩ : ∃ wf, w8.alloc (.cells #[.int .i64 j0, .int .i64 j1, .int .i64 j2, .int .i64 j3, .int .i64 j4, .int .i64 j5, .int .i64 j6, .string j7, .int .i64 j8, .string j9] 24) = wf)
      clear hb8 hbf r7 m7 hbm7
      go_upto_region 17 with (fail)
      obtain ⟨w9, hw9⟩ := HW.out
      rw [hw9] at hX r8 m8 hbm8 ⊢
      clear hw9 HW
      go_wp2_with fail
      (with_reducible refine (HSU.out _ _ _ _ m8).mono ?_)
      rintro x w10 ⟨rfl, hb10⟩
      have hbf := below_made w10 (.cells #[.int .i64 j0, .int .i64 j1, .int .i64 j2, .int .i64 j3, .int .i64 j4, .int .i64 j5, .int .i64 j6, .string j7, .int .i64 j8, .string j9] 24)
      have hY := heap_alloc_new w10 (.cells #[.int .i64 j0, .int .i64 j1, .int .i64 j2, .int .i64 j3, .int .i64 j4, .int .i64 j5, .int .i64 j6, .string j7, .int .i64 j8, .string j9] 24)
      have hX10 := below_blk' hbf (below_blk' hb10 hX)
      have r10 := (r8.below hb10).below hbf
      have m10 := (m8.below hb10).below hbf
      have hbm10 := below_next (below_next hbm8 hb10) hbf
      have HW := Lib.hid (⟨_, rfl⟩ : ∃ wf, w10.alloc (.cells #[.int .i64 j0, .int .i64 j1, .int .i64 j2, .int .i64 j3, .int .i64 j4, .int .i64 j5, .int .i64 j6, .string j7, .int .i64 j8, .string j9] 24) = wf)
      clear hb10 hbf r8 m8 hbm8 hX
      go_upto_region 18 with (fail)
      obtain ⟨w11, hw11⟩ := HW.out
      rw [hw11] at hX10 hY r10 m10 hbm10 ⊢
      clear hw11 HW
      go_wp2_with (first
        | (with_reducible refine wpList_load_rowG rfl 24 (.tmp 19) rfl w10.heap.size rfl _ #[.int .i64 j0, .int .i64 j1, .int .i64 j2, .int .i64 j3, .int .i64 j4, .int .i64 j5, .int .i64 j6, .string j7, .int .i64 j8, .string j9] (0, 0) _ hY Try.underlying24 rfl (by with_unfolding_all exact info_ev) ?_)
        | (with_reducible refine wpList_load_rowG rfl 24 (.tmp 16) rfl w8.heap.size rfl _ #[.int .i64 j0, .int .i64 j1, .int .i64 j2, .int .i64 j3, .int .i64 j4, .int .i64 j5, .int .i64 j6, .string j7, .int .i64 j8, .string j9] (0, 0) _ hX10 Try.underlying24 rfl (by with_unfolding_all exact info_ev) ?_)
        | (go_at_call 16; refine (same_any _ _ _ l2 _ _ _ l2 _ m10 r10).mono ?_; rintro x w12 ⟨rfl, hst⟩; have hbm12 := hbm10.trans (hst.below _); simp only [beq_self_eq_true]))
      go_ret
      exact ⟨rfl, hbm12⟩
end Go.Proofs.Ytfiplongnnkhmaa
