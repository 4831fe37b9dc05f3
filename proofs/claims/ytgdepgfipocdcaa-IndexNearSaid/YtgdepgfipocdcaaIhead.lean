/-
  The walk of the one answer that the statements of the index ask first. No condition.
-/
import Derived.Test.YtgdepgfipocdcaaIenc
namespace Go.Proofs.Ytgdepgfipocdcaa
open Go.RowKit
set_option linter.unusedVariables false

def hm : List Mk := [⟨5, 30⟩, ⟨7, 90⟩]
theorem hm_ok : okN hm = true := by decide +kernel
theorem hm_enc : encIx hm = ([4, 5, 30, 2, 60], 0) := by
  unfold encIx
  rw [if_pos hm_ok]
  have : diffs ⟨0, 0⟩ hm = [5, 30, 2, 60] := by decide +kernel
  rw [this]
  have e : ∀ u, u < 128 → enc u = [UInt8.ofNat u] := fun u h => enc_lt h
  simp only [encAll, encs, List.flatMap_cons, List.flatMap_nil, List.length_cons, List.length_nil]
  rw [e _ (by decide), e _ (by decide), e _ (by decide), e _ (by decide), e _ (by decide)]
  decide
theorem hm_last {l : Nat} (h : LastIs hm 6 2 l) : l = 1 := by
  obtain ⟨h1, h2, h3⟩ := h
  match l, h1 with
  | 0, _ => have := h2 ⟨5, 30⟩ rfl; simp at this
  | 1, _ => rfl
  | 2, _ => have := h3 ⟨7, 90⟩ (by decide) rfl; simp at this

set_option maxHeartbeats 800000 in
theorem head_any (w : World) : Calls Try.prog 13 #[] w fun e w' => e = .returned (.bool true) ∧ Below w.heap.size w w' := by
  have HE := Lib.hid hm_enc
  have HK := Lib.hid hm_ok
  have r0 : RowAt (w.alloc (.cells #[.int .i64 5, .int .i64 30, .int .i64 7, .int .i64 90] 31)) (some ⟨w.heap.size, 0, none⟩) 2 2 2 (hm.flatMap Mk.cells) := rowAt_lit w [.int .i64 5, .int .i64 30, .int .i64 7, .int .i64 90] 2 2 31 rfl (by decide)
  have hb0 := below_made w (.cells #[.int .i64 5, .int .i64 30, .int .i64 7, .int .i64 90] 31)
  go_enter Try.func13, Try.ntmps13
  go_wp2_with fail
  (with_reducible refine (ienc_any _ _ _ hm _ r0).mono ?_)
  rintro e w1 ⟨a1, c1, rfl, ho1, hb1⟩
  rw [HE.out] at ho1 ⊢
  have r1 := r0.below hb1
  have hbx := below_next hb0 hb1
  have rb := own_rowAt ho1
  simp only [List.length_cons, List.length_nil, Nat.zero_add, Nat.reduceAdd] at rb
  clear r0 hb0 hb1 ho1
  go_wp2_with fail
  (with_reducible refine (seek_any _ _ _ hm 6 _ r1 (by decide)).mono ?_)
  rintro e w2 ⟨⟨l, rfl, hl⟩, hb2⟩
  obtain rfl := hm_last hl
  have hv : foundV hm 1 = .tuple #[.agg #[.int .i64 5, .int .i64 30], .bool true] := rfl
  rw [hv]
  have r2 := r1.below hb2
  have rb2 := rb.below hb2
  have hby := below_next hbx hb2
  clear hl hv r1 rb hbx hb2
  go_wp2_with fail
  have hk1 := below_made w2 (.cells #[.int .i64 5, .int .i64 30] 31)
  have hk2 := below_made (w2.alloc (.cells #[.int .i64 5, .int .i64 30] 31)) (.cells #[.int .u8 4, .int .u8 5, .int .u8 30, .int .u8 2, .int .u8 60] 5)
  have hk := below_next hk1 hk2
  have r5 : RowAt ((w2.alloc (.cells #[.int .i64 5, .int .i64 30] 31)).alloc (.cells #[.int .u8 4, .int .u8 5, .int .u8 30, .int .u8 2, .int .u8 60] 5)) (some ⟨w2.heap.size + 1, 0, none⟩) 5 5 1 (([4, 5, 30, 2, 60] : List UInt8).map B) := by
    have := rowAt_lit (w2.alloc (.cells #[.int .i64 5, .int .i64 30] 31)) [.int .u8 4, .int .u8 5, .int .u8 30, .int .u8 2, .int .u8 60] 5 1 5 rfl (by decide)
    rw [show (w2.alloc (.cells #[.int .i64 5, .int .i64 30] 31)).heap.size = w2.heap.size + 1 by simp] at this
    exact this
  have r6 := rb2.below hk
  have r7 := r2.below hk
  have hbz := below_next hby hk
  have hmb : ((w2.alloc (.cells #[.int .i64 5, .int .i64 30] 31)).alloc (.cells #[.int .u8 4, .int .u8 5, .int .u8 30, .int .u8 2, .int .u8 60] 5)).heap[w2.heap.size]? = some (.cells #[.int .i64 5, .int .i64 30] 31) := by
    rw [Below.heap_alloc _ _ _ (by simp)]; exact heap_alloc_new w2 _
  have hsz : w2.heap.size < ((w2.alloc (.cells #[.int .i64 5, .int .i64 30] 31)).alloc (.cells #[.int .u8 4, .int .u8 5, .int .u8 30, .int .u8 2, .int .u8 60] 5)).heap.size := by simp; omega
  obtain ⟨w3, hw3⟩ : ∃ w3, ((w2.alloc (.cells #[.int .i64 5, .int .i64 30] 31)).alloc (.cells #[.int .u8 4, .int .u8 5, .int .u8 30, .int .u8 2, .int .u8 60] 5)) = w3 := ⟨_, rfl⟩
  rw [hw3] at r5 r6 r7 hbz hmb hsz ⊢
  clear hw3 hk1 hk2 hk r2 rb2 hby
  (with_reducible refine (same_any _ _ _ _ _ _ _ _ _ r6 r5).mono ?_)
  rintro e w4 ⟨rfl, hst⟩
  rw [show (([4, 5, 30, 2, 60] : List UInt8) == [4, 5, 30, 2, 60]) = true from by decide]
  have hm4 : w4.heap[w2.heap.size]? = some (.cells #[.int .i64 5, .int .i64 30] 31) := by rw [hst.heap]; exact hmb
  have g0 := cell_two0 hm4
  have g1 := cell_two1 hm4
  have r8 := r7.still hst
  have hb4 := below_still hbz hst
  clear r5 r6 r7 hbz hmb hst hm4
  go_wp2_with fail
  (with_reducible refine (valid_any _ _ _ hm _ r8).mono ?_)
  rintro e w5 ⟨rfl, hb5⟩
  rw [HK.out]
  go_wp2_with fail
  go_ret
  exact ⟨rfl, below_next hb4 hb5⟩
end Go.Proofs.Ytgdepgfipocdcaa
