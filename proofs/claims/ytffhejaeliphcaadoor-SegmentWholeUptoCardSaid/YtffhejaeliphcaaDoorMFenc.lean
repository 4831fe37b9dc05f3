/-
  The walk of Encode of a frame. Conditions: the body reads as bytes; the program's table of nibbles holds what its text lays.
-/
import Derived.Test.YtffhejaeliphcaaDoorMFd
import Derived.Test.YtffhejaeliphcaaDoorMGvE
namespace Go.Proofs.YtffhejaeliphcaaDoor
open Go.RowKit
set_option linter.unusedVariables false


theorem byteof (x : Nat) : (x : Int) % 256 = ((UInt8.ofNat x).toNat : Int) := by
  simp only [UInt8.toNat_ofNat']; omega

/-- The k-th byte of a number. -/
theorem low_get : ∀ (k s j : Nat), j < k → (lowBytes k s)[j]? = some (UInt8.ofNat (s / 256 ^ j))
  | 0, s, j, h => by omega
  | k + 1, s, 0, h => by simp [lowBytes]
  | k + 1, s, j + 1, h => by
    rw [lowBytes, List.getElem?_cons_succ, low_get k (s / 256) j (by omega), Nat.div_div_eq_div_mul, ← Nat.pow_succ']
theorem low_take (s j : Nat) (h : j < 8) : (lowBytes 8 s).take (j + 1) = (lowBytes 8 s).take j ++ [UInt8.ofNat (s / 256 ^ j)] := by
  rw [List.take_add_one, low_get 8 s j h]; rfl

set_option maxHeartbeats 1600000 in
theorem fenc_ok (kd sq : Nat) (a : Option Addr) (n c : Nat) (body : List UInt8) (w : World) (r : RowAt w a n c 1 (body.map B)) (ht : Tab w) (k1 : 1 ≤ kd) (k2 : kd ≤ 7) (s2 : sq ≤ 1099511627776) (hn : n ≤ 16384) :
    Calls Tryd.prog 39 #[.agg #[.int .i64 (kd : Int), .int .i64 (sq : Int), .slice a n c]] w (GivesE 5 w (frameF kd sq body, 0)) := by
  have e1 : body.length = n := by simpa using r.len
  have H1 := Lib.hid e1
  clear e1
  have hb0 := below_made w (.cells #[.int .i64 (kd : Int), .int .i64 (sq : Int), .slice a n c] 53)
  have h0 := heap_alloc_new w (.cells #[.int .i64 (kd : Int), .int .i64 (sq : Int), .slice a n c] 53)
  have hz0 : w.heap.size < (w.alloc (.cells #[.int .i64 (kd : Int), .int .i64 (sq : Int), .slice a n c] 53)).heap.size := by simp
  have r0 := r.below hb0
  have ht0 := ht.below hb0
  have q1 : ¬ (kd : Int) ≤ 0 := by omega
  have q2 : ¬ (7 : Int) < (kd : Int) := by omega
  obtain ⟨S, hS⟩ : ∃ S : Int, (sq : Int) = S := ⟨_, rfl⟩
  have q3 : 0 ≤ S := by omega
  have q4 : S ≤ 1099511627776 := by omega
  have q5 : ¬ (16384 : Int) < (n : Int) := by omega
  have hkm : (kd : Int) % 256 = (kd : Int) := by omega
  rw [hS] at hb0 h0 hz0 r0 ht0 ⊢
  have HS := Lib.hid hS
  clear hS
  go_enter Tryd.func39, Tryd.ntmps39
  go_wp2_with fail
  obtain ⟨wb, hwb⟩ : ∃ wb, w.alloc (.cells #[.int .i64 (kd : Int), .int .i64 S, .slice a n c] 53) = wb := ⟨_, rfl⟩
  have hsb : wb.heap.size = w.heap.size + 1 := by rw [← hwb]; simp
  rw [hwb] at hb0 h0 hz0 r0 ht0 ⊢
  clear hwb
  have ho0 := own_lit wb [.int .u8 165, .int .u8 (kd : Int), .int .u8 ((n : Int) % 256), .int .u8 ((n : Int) / 256)] 4 1 5 rfl (by decide)
  have hbm := below_made wb (.cells #[.int .u8 165, .int .u8 (kd : Int), .int .u8 ((n : Int) % 256), .int .u8 ((n : Int) / 256)] 5)
  have hp4 : ([.int .u8 165, .int .u8 (kd : Int), .int .u8 ((n : Int) % 256), .int .u8 ((n : Int) / 256)] : List Value) = ([165, UInt8.ofNat kd, UInt8.ofNat n, UInt8.ofNat (n / 256)] ++ (lowBytes 8 sq).take 0).map B := by
    have x1 : (kd : Int) = ((UInt8.ofNat kd).toNat : Int) := by simp only [UInt8.toNat_ofNat']; omega
    have x3 : (n : Int) / 256 = ((UInt8.ofNat (n / 256)).toNat : Int) := by simp only [UInt8.toNat_ofNat']; omega
    rw [byteof n, x3]
    conv => lhs; rw [x1]
    rfl
  have ho1 : (wb.alloc (.cells #[.int .u8 165, .int .u8 (kd : Int), .int .u8 ((n : Int) % 256), .int .u8 ((n : Int) / 256)] 5)).ownsRow (w.heap.size + 1) 5 1 (.slice (some ⟨w.heap.size + 1, 0, none⟩) 4 4) 4 (([165, UInt8.ofNat kd, UInt8.ofNat n, UInt8.ofNat (n / 256)] ++ (lowBytes 8 sq).take 0).map B) := by
    rw [← hp4, ← hsb]; exact ho0
  clear hp4 ho0
  go_loopw [5, 42] (fun pv iv wr => ∃ (k : Nat) (a : Option Addr) (cap : Nat), pv = .slice a (4 + k) cap ∧ iv = .int .i64 (k : Int) ∧ k ≤ 8 ∧ wr.ownsRow (w.heap.size + 1) 5 1 (.slice a (4 + k) cap) (4 + k) (([165, UInt8.ofNat kd, UInt8.ofNat n, UInt8.ofNat (n / 256)] ++ (lowBytes 8 sq).take k).map B) ∧ Below wb.heap.size wb wr) (fun _ iv _ => 8 - (intOf iv).toNat)
  case atStart => exact ⟨0, _, _, rfl, rfl, Nat.zero_le _, ho1, hbm⟩
  case round =>
    clear ho1 hbm
    obtain ⟨k, a2, cap, rfl, rfl, hk, ho, hb⟩ := hrel
    have h1 := (hb.block _ hz0).trans h0
    obtain ⟨c0, c1, c2, _, _, _⟩ := laid3 h1
    have hsz := hb.size
    rw [hsb] at hsz
    by_cases hlt : k < 8
    · have hval : S / 2 ^ (8 * k) % 256 = ((UInt8.ofNat (sq / 256 ^ k)).toNat : Int) := by
        rw [← byteof, ← HS.out, Int.natCast_ediv, Int.natCast_pow, Int.pow_mul]; rfl
      have HT := Lib.hid (low_take sq k hlt)
      go_wp2_with (at_builtin; refine wpList_app1 rfl _ _ 22 rfl slB rfl ho rfl rfl (one1 _ _) (by omega) hsz fun a3 c3 w3 hown3 hg3 => ?_)
      go_roundw
      case rel =>
        refine ⟨k + 1, a3, c3, rfl, by go_num, by omega, ?_, hb.grown hg3 (by omega) (fun j hj => by have := (ho.lt j hj).1; omega)⟩
        rw [HT.out, ← List.append_assoc, List.map_append]
        simp only [List.map_cons, List.map_nil, B]
        exact hown3
      case measure => simp [intOf]; omega
    · obtain ⟨k8, hk8⟩ : ∃ k8, k8 = k ∧ k8 = 8 := ⟨k, rfl, by omega⟩
      obtain ⟨rfl, hk8⟩ := hk8
      have hlk : ¬ (k8 : Int) < 8 := by omega
      have h12 : [165, UInt8.ofNat kd, UInt8.ofNat n, UInt8.ofNat (n / 256)] ++ (lowBytes 8 sq).take k8 = head12 kd n sq := by
        rw [hk8, List.take_of_length_le (by rw [lowBytes_len]; exact Nat.le_refl _)]; rfl
      rw [h12] at ho
      have h4k : 4 + k8 = 12 := by omega
      rw [h4k] at ho ⊢
      have htr := ht0.below hb
      have hsl := sumN_lt 0 (head12 kd n sq)
      have hsl2 := sumN_lt 0 body
      have hbr := hb
      clear h12 hk8 h4k
      go_wp2_with fail
      (with_reducible refine (sum_any _ _ _ (head12 kd n sq) _ (own_rowAt ho) htr).mono ?_)
      rintro e w1 ⟨rfl, rfl⟩
      go_wp2_with fail
      (with_reducible refine (four_any _ _ hsl).mono ?_)
      rintro e w2 ⟨a4, c4, rfl, ho4, hb4⟩
      have ox := own_below ho hb4
      have hsz2 := hb4.size
      have hsb2 : wb.heap.size ≤ w.heap.size + 1 := by omega
      go_wp2_with (first
        | (at_builtin; refine wpList_app rfl _ _ 22 rfl slB rfl ox rfl (own_rowAt ho4) (B_one _) (by simp [four]) (by omega) fun a5 c5 w5 ho5 hg5 => ?_; have hb5 : Below wb.heap.size wb w5 := (below_next hbr hb4).grown hg5 (by omega) (fun j hj => by have := (ox.lt j hj).1; omega); have c25 : w5.cell? ⟨w.heap.size, 2, none⟩ = some (.slice a n c) := cell_blk ((hb5.block _ hz0).trans h0) rfl; have hsz5 := hb5.size; rw [← List.map_append] at ho5; have r5 := r0.below hb5)
        | (at_builtin; refine wpList_app rfl _ _ 22 rfl slB rfl ho5 rfl r5 (B_one _) (by simp [four]; omega) (by omega) fun a6 c6 w6 ho6 hg6 => ?_; have hb6 : Below wb.heap.size wb w6 := hb5.grown hg6 hsz5 (fun j hj => by have := (ho5.lt j hj).1; omega); have c26 : w6.cell? ⟨w.heap.size, 2, none⟩ = some (.slice a n c) := cell_blk ((hb6.block _ hz0).trans h0) rfl; have hsz6 := hb6.size; rw [← List.map_append] at ho6; have r6 := r0.below hb6; have t6 := ht0.below hb6))
      (with_reducible refine (sum_any _ _ _ body _ r6 t6).mono ?_)
      rintro e w7 ⟨rfl, rfl⟩
      go_wp2_with fail
      (with_reducible refine (four_any _ _ hsl2).mono ?_)
      rintro e w8 ⟨a8, c8, rfl, ho8, hb8⟩
      have oy := own_below ho6 hb8
      have hsz8 := hb8.size
      go_wp2_with (at_builtin; refine wpList_app rfl _ _ 22 rfl slB rfl oy rfl (own_rowAt ho8) (B_one _) (by simp [four]; omega) (by omega) fun a9 c9 w9 ho9 hg9 => ?_)
      go_ret2
      have hb9 : Below wb.heap.size wb w9 := (below_next hb6 hb8).grown hg9 (by omega) (fun j hj => by have := (oy.lt j hj).1; omega)
      rw [← List.map_append] at ho9
      have hfl : head12 kd n sq ++ four (sumN 0 (head12 kd n sq)) ++ body ++ four (sumN 0 body) = frameF kd sq body := by
        unfold frameF headF; rw [H1.out]; simp
      have hfn : 12 + (four (sumN 0 (head12 kd n sq))).length + n + (four (sumN 0 body)).length = (frameF kd sq body).length := by
        rw [frameF_len, H1.out]; simp [four]; omega
      rw [hfl, hfn] at ho9
      refine ⟨a9, c9, ?_, own_mono ho9 (by omega), below_next hb0 hb9⟩
      show Ending.returned (.tuple #[.slice a9 _ c9, .int .i64 0]) = .returned (.tuple #[.slice a9 (frameF kd sq body).length c9, .int .i64 0])
      rw [← hfn]

/-- The ways that refuse. -/
theorem fenc_no (kind seq : Int) (a : Option Addr) (n c : Nat) (body : List UInt8) (w : World) (r : RowAt w a n c 1 (body.map B)) (h : ¬ (encF kind seq body).2 = 0) :
    Calls Tryd.prog 39 #[.agg #[.int .i64 kind, .int .i64 seq, .slice a n c]] w (GivesE 5 w (encF kind seq body)) := by
  have e1 : body.length = n := by simpa using r.len
  have hb0 := below_made w (.cells #[.int .i64 kind, .int .i64 seq, .slice a n c] 53)
  by_cases c1 : kind ≤ 0
  · have HE : Hid (encF kind seq body = ([], 63)) := Lib.hid (by unfold encF; rw [if_pos (by omega)])
    clear h e1
    go_enter Tryd.func39, Tryd.ntmps39
    go_wp2_with fail
    go_ret2
    rw [HE.out]
    exact ⟨none, 0, rfl, World.ownsRow_nil _ _ _ _, hb0⟩
  · by_cases c2 : 7 < kind
    · have HE : Hid (encF kind seq body = ([], 63)) := Lib.hid (by unfold encF; rw [if_pos (by omega)])
      clear h e1
      go_enter Tryd.func39, Tryd.ntmps39
      go_wp2_with fail
      go_ret2
      rw [HE.out]
      exact ⟨none, 0, rfl, World.ownsRow_nil _ _ _ _, hb0⟩
    · by_cases c3 : seq < 0
      · have HE : Hid (encF kind seq body = ([], 63)) := Lib.hid (by unfold encF; rw [if_pos (by omega)])
        clear h e1
        go_enter Tryd.func39, Tryd.ntmps39
        go_wp2_with fail
        go_ret2
        rw [HE.out]
        exact ⟨none, 0, rfl, World.ownsRow_nil _ _ _ _, hb0⟩
      · by_cases c4 : 1099511627776 < seq
        · have HE : Hid (encF kind seq body = ([], 63)) := Lib.hid (by unfold encF; rw [if_pos (by omega)])
          clear h e1
          go_enter Tryd.func39, Tryd.ntmps39
          go_wp2_with fail
          go_ret2
          rw [HE.out]
          exact ⟨none, 0, rfl, World.ownsRow_nil _ _ _ _, hb0⟩
        · have hn : 16384 < n := by
            by_cases hn : 16384 < n
            · exact hn
            · exfalso; apply h; unfold encF; rw [if_neg (by omega), if_neg (by omega)]
          have HE : Hid (encF kind seq body = ([], 24)) := Lib.hid (by unfold encF; rw [if_neg (by omega), if_pos (by omega)])
          have c5 : (16384 : Int) < (n : Int) := by omega
          clear h e1
          go_enter Tryd.func39, Tryd.ntmps39
          go_wp2_with fail
          go_ret2
          rw [HE.out]
          exact ⟨none, 0, rfl, World.ownsRow_nil _ _ _ _, hb0⟩

theorem encF_ok {kind seq : Int} {body : List UInt8} (h : (encF kind seq body).2 = 0) : ∃ kd sq : Nat, (kd : Int) = kind ∧ (sq : Int) = seq ∧ 1 ≤ kd ∧ kd ≤ 7 ∧ sq ≤ 1099511627776 ∧ body.length ≤ 16384 ∧ encF kind seq body = (frameF kd sq body, 0) := by
  unfold encF at h ⊢
  by_cases c1 : kind < 1 ∨ 7 < kind ∨ seq < 0 ∨ 1099511627776 < seq
  · rw [if_pos c1] at h; simp at h
  · rw [if_neg c1] at h ⊢
    by_cases c2 : 16384 < body.length
    · rw [if_pos c2] at h; simp at h
    · rw [if_neg c2]
      exact ⟨kind.toNat, seq.toNat, by omega, by omega, by omega, by omega, by omega, by omega, rfl⟩

theorem fenc_any (kind seq : Int) (a : Option Addr) (n c : Nat) (body : List UInt8) (w : World) (r : RowAt w a n c 1 (body.map B)) (ht : Tab w) :
    Calls Tryd.prog 39 #[.agg #[.int .i64 kind, .int .i64 seq, .slice a n c]] w (GivesE 5 w (encF kind seq body)) := by
  by_cases h : (encF kind seq body).2 = 0
  · obtain ⟨kd, sq, rfl, rfl, h1, h2, h3, h4, h5⟩ := encF_ok h
    rw [h5]
    have e1 : body.length = n := by simpa using r.len
    exact fenc_ok kd sq a n c body w r ht h1 h2 h3 (by omega)
  · exact fenc_no kind seq a n c body w r h
end Go.Proofs.YtffhejaeliphcaaDoor
