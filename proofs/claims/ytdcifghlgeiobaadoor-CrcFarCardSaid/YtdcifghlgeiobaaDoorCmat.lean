/-
  The walks of the matrix of the check sum: times, squared, oneByte, Combine, and the reference's Combine. Condition: the table of nibbles holds what the text lays.
-/
import Derived.Test.YtdcifghlgeiobaaDoorCwalk
namespace Go.Proofs.YtdcifghlgeiobaaDoor
open Go.RowKit
set_option linter.unusedVariables false

theorem mul_xor2 (n a b : Nat) : 2 ^ n * (a ^^^ b) = 2 ^ n * a ^^^ 2 ^ n * b := by
  apply Nat.eq_of_testBit_eq; intro i
  simp only [Nat.testBit_xor, Nat.testBit_two_pow_mul]
  by_cases h : n ≤ i <;> simp [h]

def matE (N i : Nat) : Value := .int .u32 ((bitN N (2 ^ i) : Nat) : Int)
def matA (N : Nat) : Array Value := ((List.range 32).map (matE N)).toArray
theorem matA_size (N : Nat) : (matA N).size = 32 := by simp [matA]
theorem matA_get (N i : Nat) (h : i < 32) : (matA N)[i]? = some (matE N i) := by simp [matA, h]
theorem matA_one (N : Nat) : (matA N).all (·.oneCell') = true := by
  rw [Array.all_eq_true_iff_forall_mem]
  intro x hx
  simp only [matA, List.mem_toArray, List.mem_map] at hx
  obtain ⟨i, _, rfl⟩ := hx
  rfl
theorem matA_of {cur : Array Value} {N : Nat} (hs : cur.size = 32) (h : ∀ j, j < 32 → cur[j]? = some (matE N j)) : cur = matA N := by
  apply Array.ext_getElem?
  intro i
  by_cases hi : i < 32
  · rw [h i hi, matA_get N i hi]
  · rw [Array.getElem?_eq_none (by omega), Array.getElem?_eq_none (by rw [matA_size]; omega)]

theorem bitN_pow_lt (N i : Nat) (h : i < 32) : bitN N (2 ^ i) < 4294967296 := bitN_lt N _ (Nat.pow_lt_pow_right (n := 32) (by decide) h)

/-- The matrix of N bits stands in block b. -/
def MatAt (w : World) (b N : Nat) : Prop := ∀ i, i < 32 → w.cell? ⟨b, i, none⟩ = some (matE N i)

theorem step_int (c x : Int) (w : World) (h0 : 0 ≤ c) (hc : c < 4294967296) (hx0 : 0 ≤ x) (hx : x < 256) (ht : Tab w) :
    Calls Tryd.prog 30 #[.int .u32 c, .int .u8 x] w fun e w' => e = .returned (.int .u32 ((take8 c.toNat x.toNat : Nat) : Int)) ∧ w = w' := by
  obtain ⟨c, rfl⟩ := Int.eq_ofNat_of_zero_le h0
  obtain ⟨x, rfl⟩ := Int.eq_ofNat_of_zero_le hx0
  exact step_any c x w (by omega) (by omega) ht

set_option maxHeartbeats 400000 in
theorem times_any (b N v : Nat) (w : World) (hv : v < 4294967296) (hm : MatAt w b N) :
    Calls Tryd.prog 33 #[.pointer (some ⟨b, 0, none⟩), .int .u32 (v : Int)] w fun e w' => e = .returned (.int .u32 ((bitN N v : Nat) : Int)) ∧ Still w w' := by
  go_enter Tryd.func33, Tryd.ntmps33
  go_wp2_with fail
  go_loopw [1, 5, 6] (fun vv ov iv wr => ∃ (k x o : Nat), iv = .int .i64 (k : Int) ∧ vv = .int .u32 (x : Int) ∧ ov = .int .u32 (o : Int) ∧ Hid (x < 2 ^ (32 - k)) ∧ k ≤ 32 ∧ x ≤ 4294967295 ∧ o < 4294967296 ∧ Hid (o ^^^ bitN N (2 ^ k * x) = bitN N v) ∧ Still w wr) (fun vv _ _ _ => (intOf vv).toNat)
  case atStart => exact ⟨0, v, 0, rfl, rfl, rfl, Lib.hid hv, by omega, by omega, by omega, Lib.hid (by simp), Still.refl _⟩
  case round =>
    obtain ⟨k, x, o, rfl, rfl, rfl, HX, hk, hxl, ho, HT, hst⟩ := hrel
    by_cases hx0 : x = 0
    · subst hx0
      go_wp2_with fail
      go_ret
      exact ⟨ret_int (by have := HT.out; rw [Nat.mul_zero, bitN_zero, Nat.xor_zero] at this; rw [this]), hst⟩
    · have hk31 : k < 32 := by
        by_cases h : k = 32
        · subst h; have := HX.out; simp at this; omega
        · omega
      have hb0 : ((x : Int) != 0) = true := by rw [bne_iff_ne]; omega
      have hx1 : 1 ≤ x := by omega
      have hand : bits .and .u32 (x : Int) 1 = ((x % 2 : Nat) : Int) := by
        have := u32_and_nat x 1 (by omega) (by decide)
        rw [nat_mask1] at this; exact this
      have hc0 : wr.cell? ⟨b, k, none⟩ = some (matE N k) := by
        have := hm k hk31
        have hh := hst.heap
        simp only [World.cell?] at this ⊢
        rw [hh]; exact this
      unfold matE at hc0
      have hE := bitN_pow_lt N k hk31
      have hxor := u32_xor_nat o (bitN N (2 ^ k)) ho hE
      have hnew := Nat.xor_lt_two_pow (n := 32) ho hE
      have hx2 : x = x % 2 ^^^ 2 ^ 1 * (x / 2) := by rw [add_xor 1 _ _ (by omega)]; omega
      have HN : Hid (bitN N (2 ^ k * x) = bitN N (2 ^ k * (x % 2)) ^^^ bitN N (2 ^ (k + 1) * (x / 2))) := Lib.hid (by
        rw [← bitN_xor]; congr 1
        conv => lhs; rw [hx2]
        rw [mul_xor2, Nat.pow_succ 2 k, Nat.pow_one, Nat.mul_assoc])
      have HX' : Hid (x / 2 < 2 ^ (32 - (k + 1))) := Lib.hid (by have := HX.out; rw [show 32 - k = (32 - (k + 1)) + 1 by omega, Nat.pow_succ] at this; omega)
      clear hx2
      obtain ⟨q, hq⟩ : ∃ q, x % 2 = q := ⟨_, rfl⟩
      rw [hq] at hand HN
      by_cases h1 : q = 1
      · subst h1
        have HT' : Hid ((o ^^^ bitN N (2 ^ k)) ^^^ bitN N (2 ^ (k + 1) * (x / 2)) = bitN N v) := Lib.hid (by
          rw [Nat.xor_assoc, ← HT.out, HN.out, Nat.mul_one])
        generalize bitN N (2 ^ k) = E at *
        generalize o ^^^ E = oE at *
        clear HT HN hq
        have hb1 : ((1 : Int) == 1) = true := rfl
        go_wp2_with fail
        go_roundw
        case rel => exact ⟨k + 1, x / 2, oE, by go_num, rfl, rfl, HX', by omega, by omega, hnew, HT', hst⟩
        case measure => first | (simp [intOf]; omega) | simp [intOf]
      · have HT' : Hid (o ^^^ bitN N (2 ^ (k + 1) * (x / 2)) = bitN N v) := Lib.hid (by
          rw [← HT.out, HN.out, show q = 0 by omega, Nat.mul_zero, bitN_zero, Nat.zero_xor])
        have hb1 : ((q : Int) == 1) = false := by rw [beq_eq_false_iff_ne]; omega
        clear HT HN hq hxor hnew hE
        go_wp2_with fail
        go_roundw
        case rel => exact ⟨k + 1, x / 2, o, by go_num, rfl, rfl, HX', by omega, by omega, ho, HT', hst⟩
        case measure => first | (simp [intOf]; omega) | simp [intOf]

theorem bitN_double (N x : Nat) : bitN N (bitN N x) = bitN (2 * N) x := by rw [Nat.two_mul, bitN_add]

/-- A matrix being filled. -/
def Filling (w : World) (b : Nat) (N k : Nat) : Prop := ∃ cur e, w.heap[b]? = some (.cells cur e (0, 0)) ∧ cur.size = 32 ∧ ∀ j, j < k → cur[j]? = some (matE N j)

theorem Filling.store {w : World} {b N k : Nat} (h : Filling w b N k) (hk : k < 32) {v : Value} (hv : v = matE N k) :
    (∃ u, w.cell? ⟨b, k, none⟩ = some u) ∧ w.frozen? ⟨b, k, none⟩ = false ∧ Filling (w.setCell ⟨b, k, none⟩ v) b N (k + 1) := by
  obtain ⟨cur, e, hg, hs, hj⟩ := h
  refine ⟨?_, frozen_of_row w b k cur e hg, cur.setIfInBounds k v, e, heap_setCell_same w b k cur e v hg, by simpa using hs, fun j hjk => ?_⟩
  · rw [cell_of_row w b k cur e (0, 0) hg, Array.getElem?_eq_getElem (by omega)]; exact ⟨_, rfl⟩
  · rw [Array.getElem?_setIfInBounds]
    by_cases hjk2 : k = j
    · subst hjk2; rw [if_pos rfl, if_pos (by omega), hv]
    · rw [if_neg hjk2]; exact hj j (by omega)

theorem Filling.full {w : World} {b N : Nat} (h : Filling w b N 32) : ∃ e, w.heap[b]? = some (.cells (matA N) e (0, 0)) := by
  obtain ⟨cur, e, hg, hs, hj⟩ := h
  exact ⟨e, by rw [← matA_of hs hj]; exact hg⟩

theorem filling_zero {w : World} {b N : Nat} {cur : Array Value} {e : TypeId} (hg : w.heap[b]? = some (.cells cur e (0, 0))) (hs : cur.size = 32) : Filling w b N 0 := ⟨cur, e, hg, hs, fun j hj => by omega⟩

theorem matAt_of {w : World} {b N : Nat} {e : TypeId} (h : w.heap[b]? = some (.cells (matA N) e (0, 0))) : MatAt w b N := fun i hi => by
  rw [cell_of_row w b i _ e (0, 0) h]; exact matA_get N i hi

theorem info_mat : (Tryd.prog.info? 53).map (·.size) = some 32 := by kernel_rfl

def Old (w : World) (b : Nat) : Prop := ∃ cur e, w.heap[b]? = some (.cells cur e (0, 0)) ∧ cur.size = 32

theorem below_setRow1 {B g : Nat} {w0 w : World} (hb : Below B w0 w) (hBg : B ≤ g) (cs : Array Value) : Below B w0 (w.setRow g cs) :=
  hb.trans ⟨rfl, rfl, rfl, by simp, fun k hk => setRow_other w g k _ (by omega)⟩

theorem ret_mat {fn : Func} {p : Tmp} {N : Nat} {tmps : Array Value} {w : World} {g : Nat} {e : TypeId} (h : fn.results = #[.cell p 53]) (hp : tmps.getD p undef = .pointer (some ⟨g, 0, none⟩)) (hg : w.heap[g]? = some (.cells (matA N) e (0, 0))) :
    (results fn tmps).run Tryd.prog w = .ok (.agg (matA N)) w :=
  results_cell_row h tmps w g e (matA N) (0, 0) _ hp hg Tryd.underlying53 rfl (by rw [matA_size]; exact info_mat)

theorem pow_wrap (k : Nat) (h : k < 32) : (2 : Int) ^ k % 4294967296 = ((2 ^ k : Nat) : Int) := by
  have h3 : 2 ^ k < 4294967296 := Nat.pow_lt_pow_right (n := 32) (by decide) h
  rw [show (2 : Int) ^ k = ((2 ^ k : Nat) : Int) by simp]
  exact Int.emod_eq_of_lt (Int.natCast_nonneg _) (Int.ofNat_lt.2 h3)

set_option maxHeartbeats 800000 in
theorem oneByte_any (w : World) (ht : Tab w) :
    Calls Tryd.prog 32 #[] w fun e w' => e = .returned (.agg (matA 8)) ∧ Below w.heap.size w w' := by
  go_enter Tryd.func32, Tryd.ntmps32
  go_wp2_with fail
  go_loopw [2, 3] (fun _ iv wr => ∃ k : Nat, iv = .int .i64 (k : Int) ∧ k ≤ 32 ∧ Filling wr (w.heap.size + 1) 8 k ∧ Old wr w.heap.size ∧ Below w.heap.size w wr) (fun _ iv _ => 32 - (intOf iv).toNat)
  case atStart =>
    refine ⟨0, rfl, by omega, filling_zero (heap_alloc2_new _ _ _) rfl, ⟨_, _, heap_alloc2_old _ _ _, rfl⟩, ?_⟩
    exact below_next (below_made _ _) (below_made _ _)
  case round =>
    obtain ⟨k, rfl, hk, hF, hO, hb⟩ := hrel
    by_cases hlt : k < 32
    · have hp3 : 2 ^ k < 4294967296 := Nat.pow_lt_pow_right (n := 32) (by decide) hlt
      have hpe := pow_wrap k hlt
      have hp4 : (0 : Int) ≤ 2 ^ k % 4294967296 ∧ (2 : Int) ^ k % 4294967296 < 4294967296 := by omega
      have HV : Hid (Value.int .u32 ((take8 ((2 : Int) ^ k % 4294967296).toNat (0 : Int).toNat : Nat) : Int) = matE 8 k) := Lib.hid (by
        unfold matE take8
        rw [hpe, Int.toNat_natCast]
        simp)
      obtain ⟨⟨u, hu⟩, hf, hF2⟩ := hF.store hlt HV.out
      clear hp3 hpe
      have ht2 := ht.below hb
      go_wp2_with fail
      (with_reducible refine (step_int _ _ _ hp4.1 hp4.2 (by decide) (by decide) ht2).mono ?_)
      rintro e w' ⟨rfl, rfl⟩
      rw [HV.out]
      have hb2 := hb.setCell (p := ⟨w.heap.size + 1, k, none⟩) (by simp) (matE 8 k)
      rw [HV.out] at hF2
      have hO2 : Old (wr.setCell ⟨w.heap.size + 1, k, none⟩ (matE 8 k)) w.heap.size := by
        obtain ⟨cur, e, hg, hs⟩ := hO
        exact ⟨cur, e, by rw [Below.heap_setCell _ _ _ _ (by simp)]; exact hg, hs⟩
      unfold matE at hb2 hF2 hO2 ⊢
      clear HV hp4
      go_wp2_with fail
      go_roundw
      case rel => exact ⟨k + 1, by go_num, by omega, hF2, hO2, hb2⟩
      case measure => first | (simp [intOf]; omega) | simp [intOf]
    · obtain rfl : k = 32 := by omega
      obtain ⟨e, hg⟩ := hF.full
      obtain ⟨cur, e', hgo, hs⟩ := hO
      have HG := Lib.hid (setRow_heap wr w.heap.size cur (matA 8) e' _ hgo)
      go_wp2_with (first
        | (with_reducible refine wpList_load_row rfl 53 (.tmp 1) rfl (w.heap.size + 1) rfl e (matA 8) (0, 0) _ hg Tryd.underlying53 rfl (by rw [matA_size]; exact info_mat) ?_)
        | (with_reducible refine wpList_store_row rfl 53 (.tmp 0) (.tmp 12) rfl w.heap.size (matA 8) rfl rfl e' cur hgo (by rw [matA_size]; exact info_mat) (by rw [matA_size]; exact hs) (matA_one 8) ?_))
      exact bodyPost_ret (v := .agg (matA 8)) (ret_mat rfl rfl HG.out) rfl ⟨rfl, below_setRow1 hb (Nat.le_refl _) _⟩

theorem times_int (b N : Nat) (v : Int) (w : World) (h0 : 0 ≤ v) (hv : v < 4294967296) (hm : MatAt w b N) :
    Calls Tryd.prog 33 #[.pointer (some ⟨b, 0, none⟩), .int .u32 v] w fun e w' => e = .returned (.int .u32 ((bitN N v.toNat : Nat) : Int)) ∧ Still w w' := by
  obtain ⟨v, rfl⟩ := Int.eq_ofNat_of_zero_le h0
  exact times_any b N v w (by omega) hm

theorem heap3_new (w : World) (A B C : Obj) : (((w.alloc A).alloc B).alloc C).heap[w.heap.size + 1 + 1]? = some C := by
  have := heap_alloc_new ((w.alloc A).alloc B) C
  have e : ((w.alloc A).alloc B).heap.size = w.heap.size + 1 + 1 := by simp
  rwa [e] at this
theorem heap3_mid (w : World) (A B C : Obj) : (((w.alloc A).alloc B).alloc C).heap[w.heap.size + 1]? = some B := by
  rw [Below.heap_alloc _ _ _ (by simp)]; exact heap_alloc2_new w A B

set_option maxHeartbeats 800000 in
theorem squared_any (N : Nat) (w : World) :
    Calls Tryd.prog 34 #[.agg (matA N)] w fun e w' => e = .returned (.agg (matA (2 * N))) ∧ Below w.heap.size w w' := by
  go_enter Tryd.func34, Tryd.ntmps34
  go_wp2_with fail
  go_loopw [4, 5] (fun _ iv wr => ∃ k : Nat, iv = .int .i64 (k : Int) ∧ k ≤ 32 ∧ Filling wr (w.heap.size + 1 + 1) (2 * N) k ∧ Old wr (w.heap.size + 1) ∧ MatAt wr w.heap.size N ∧ Below w.heap.size w wr) (fun _ iv _ => 32 - (intOf iv).toNat)
  case atStart =>
    have e0 := heap_alloc_new w (.cells (matA N) 53)
    refine ⟨0, rfl, by omega, filling_zero (heap3_new _ _ _ _) rfl, ⟨_, _, heap3_mid _ _ _ _, rfl⟩, ?_, ?_⟩
    · refine matAt_of (e := 53) ?_
      rw [Below.heap_alloc _ _ _ (by simp; omega), Below.heap_alloc _ _ _ (by simp)]
      exact e0
    · exact below_next (below_next (below_made _ _) (below_made _ _)) (below_made _ _)
  case round =>
    obtain ⟨k, rfl, hk, hF, hO, hM, hb⟩ := hrel
    by_cases hlt : k < 32
    · have hc0 := hM k hlt
      have hE := bitN_pow_lt N k hlt
      have HV : Hid (Value.int .u32 ((bitN N (bitN N (2 ^ k)) : Nat) : Int) = matE (2 * N) k) := Lib.hid (by unfold matE; rw [bitN_double])
      unfold matE at hc0
      obtain ⟨E, hEe⟩ : ∃ E, bitN N (2 ^ k) = E := ⟨_, rfl⟩
      rw [hEe] at hE hc0 HV
      clear hEe
      obtain ⟨⟨u, hu⟩, hf, hF2⟩ := hF.store hlt HV.out
      go_wp2_with fail
      (with_reducible refine (times_any _ N E _ hE hM).mono ?_)
      rintro e w' ⟨rfl, q, rfl⟩
      have hb2 := below_still (hb.setCell (p := ⟨w.heap.size + 1 + 1, k, none⟩) (by show w.heap.size ≤ w.heap.size + 1 + 1; omega) (Value.int .u32 ((bitN N E : Nat) : Int))) (Still.one _ q)
      have hF3 : Filling ((wr.setCell ⟨w.heap.size + 1 + 1, k, none⟩ (Value.int .u32 ((bitN N E : Nat) : Int))).drewN q) (w.heap.size + 1 + 1) (2 * N) (k + 1) := hF2
      have hO2 : Old ((wr.setCell ⟨w.heap.size + 1 + 1, k, none⟩ (Value.int .u32 ((bitN N E : Nat) : Int))).drewN q) (w.heap.size + 1) := by
        obtain ⟨cur, e, hg, hs⟩ := hO
        refine ⟨cur, e, ?_, hs⟩
        have := Below.heap_setCell wr ⟨w.heap.size + 1 + 1, k, none⟩ (Value.int .u32 ((bitN N E : Nat) : Int)) (w.heap.size + 1) (by simp)
        exact this.trans hg
      have hM2 : MatAt ((wr.setCell ⟨w.heap.size + 1 + 1, k, none⟩ (Value.int .u32 ((bitN N E : Nat) : Int))).drewN q) w.heap.size N := fun i hi => by
        have h1 := hM i hi
        rw [← h1]
        exact World.cell?_of_block (Below.heap_setCell wr ⟨w.heap.size + 1 + 1, k, none⟩ (Value.int .u32 ((bitN N E : Nat) : Int)) w.heap.size (by simp; omega))
      generalize bitN N E = F at *
      clear HV hc0 hF hO hM hF2
      go_wp2_with fail
      go_roundw
      case rel => exact ⟨k + 1, by go_num, by omega, hF3, hO2, hM2, hb2⟩
      case measure => first | (simp [intOf]; omega) | simp [intOf]
    · obtain rfl : k = 32 := by omega
      obtain ⟨e, hg⟩ := hF.full
      obtain ⟨cur, e', hgo, hs⟩ := hO
      have HG := Lib.hid (setRow_heap wr (w.heap.size + 1) cur (matA (2 * N)) e' _ hgo)
      clear hF hM
      go_wp2_with (first
        | (with_reducible refine wpList_load_row rfl 53 (.tmp 3) rfl (w.heap.size + 1 + 1) rfl e (matA (2 * N)) (0, 0) _ hg Tryd.underlying53 rfl (by rw [matA_size]; exact info_mat) ?_)
        | (with_reducible refine wpList_store_row rfl 53 (.tmp 2) (.tmp 15) rfl (w.heap.size + 1) (matA (2 * N)) rfl rfl e' cur hgo (by rw [matA_size]; exact info_mat) (by rw [matA_size]; exact hs) (matA_one (2 * N)) ?_))
      exact bodyPost_ret (v := .agg (matA (2 * N))) (ret_mat rfl rfl HG.out) rfl ⟨rfl, below_setRow1 hb (by omega) _⟩

theorem bitN_comm (a b x : Nat) : bitN a (bitN b x) = bitN b (bitN a x) := by rw [← bitN_add, ← bitN_add, Nat.add_comm]

theorem info_matT : (Tryd.prog.info? 53).map (·.size) = some 32 := info_mat

theorem i64_and1 (y : Nat) (h : y < 2 ^ 63) : bits .and .i64 (y : Int) 1 = ((y % 2 : Nat) : Int) := by
  have := (bits_nat .i64 63 (by decide) (fun n h0 h1 => IntWalk.i64_in n (by omega)) y 1 h (by decide)).1
  rw [nat_mask1] at this
  exact this

theorem even_odd (N y x : Nat) : bitN (N * y) x = bitN (2 * N * (y / 2)) (bitN (N * (y % 2)) x) := by
  rw [← bitN_add]
  congr 1
  have h : y = y % 2 + 2 * (y / 2) := by omega
  conv => lhs; rw [h]
  rw [Nat.mul_add, Nat.mul_comm 2 N, Nat.mul_assoc]

set_option maxHeartbeats 1600000 in
theorem combine_nat (a b n : Nat) (w : World) (ha : a < 4294967296) (hb0 : b < 4294967296) (hn : n < 2 ^ 63) (ht : Tab w) :
    Calls Tryd.prog 28 #[.int .u32 (a : Int), .int .u32 (b : Int), .int .i64 (n : Int)] w fun e w' => e = .returned (.int .u32 ((bitN (8 * n) a ^^^ b : Nat) : Int)) ∧ Below w.heap.size w w' := by
  go_enter Tryd.func28, Tryd.ntmps28
  go_wp2_with fail
  (with_reducible refine (oneByte_any _ ht).mono ?_)
  rintro e w1 ⟨rfl, hb1⟩
  go_wp2_with (with_reducible refine wpList_store_row rfl 53 (.tmp 7) (.tmp 8) rfl w1.heap.size (matA 8) rfl rfl _ _ (heap_alloc_new w1 _) (by rw [matA_size]; exact info_mat) (by rw [matA_size]; with_unfolding_all exact rfl) (matA_one 8) ?_)
  have hg1 := setRow_heap _ w1.heap.size _ (matA 8) _ _ (heap_alloc_new w1 (.cells #[.int .u32 0, .int .u32 0, .int .u32 0, .int .u32 0, .int .u32 0, .int .u32 0, .int .u32 0, .int .u32 0, .int .u32 0, .int .u32 0, .int .u32 0, .int .u32 0, .int .u32 0, .int .u32 0, .int .u32 0, .int .u32 0, .int .u32 0, .int .u32 0, .int .u32 0, .int .u32 0, .int .u32 0, .int .u32 0, .int .u32 0, .int .u32 0, .int .u32 0, .int .u32 0, .int .u32 0, .int .u32 0, .int .u32 0, .int .u32 0, .int .u32 0, .int .u32 0] 53))
  have z1 := hb1.size
  have hb2 := below_setRow1 (below_next hb1 (below_made w1 (.cells #[.int .u32 0, .int .u32 0, .int .u32 0, .int .u32 0, .int .u32 0, .int .u32 0, .int .u32 0, .int .u32 0, .int .u32 0, .int .u32 0, .int .u32 0, .int .u32 0, .int .u32 0, .int .u32 0, .int .u32 0, .int .u32 0, .int .u32 0, .int .u32 0, .int .u32 0, .int .u32 0, .int .u32 0, .int .u32 0, .int .u32 0, .int .u32 0, .int .u32 0, .int .u32 0, .int .u32 0, .int .u32 0, .int .u32 0, .int .u32 0, .int .u32 0, .int .u32 0] 53))) z1 (matA 8)
  obtain ⟨G, hG⟩ : ∃ G, G = w1.heap.size := ⟨_, rfl⟩
  rw [← hG] at hg1 hb2 z1 ⊢
  clear hb1 hG
  simp only [Act.put]
  go_loopw [0, 2] (fun av nv wr => ∃ (x y N : Nat) (e : TypeId), av = .int .u32 (x : Int) ∧ nv = .int .i64 (y : Int) ∧ x < 4294967296 ∧ y < 2 ^ 63 ∧ wr.heap[G]? = some (.cells (matA N) e (0, 0)) ∧ Hid (bitN (N * y) x = bitN (8 * n) a) ∧ Below w.heap.size w wr) (fun _ nv _ => (intOf nv).toNat)
  case atStart => exact ⟨a, n, 8, _, rfl, rfl, ha, hn, hg1, Lib.hid rfl, hb2⟩
  case round =>
    clear hg1 hb2
    obtain ⟨x, y, N, e, rfl, rfl, hx, hy, hg, HT, hb⟩ := hrel
    by_cases hy0 : y = 0
    · subst hy0
      have hxor := u32_xor_nat x b hx hb0
      go_wp2_with fail
      go_ret
      exact ⟨ret_int (by have := HT.out; rw [Nat.mul_zero] at this; rw [← this]; rfl), hb⟩
    · have hy1 : 1 ≤ y := by omega
      have hand := i64_and1 y hy
      obtain ⟨q, hq⟩ : ∃ q, y % 2 = q := ⟨_, rfl⟩
      have HE := Lib.hid (even_odd N y x)
      rw [hq] at hand HE
      clear hy0
      by_cases h1 : q = 1
      · subst h1
        have hb1 : ((1 : Int) == 1) = true := rfl
        clear hq
        go_wp2_with fail
        (with_reducible refine (times_any G N x _ hx (matAt_of hg)).mono ?_)
        rintro e2 w' ⟨rfl, k, rfl⟩
        have hg2 : (wr.drewN k).heap[G]? = some (.cells (matA N) e (0, 0)) := hg
        have hb3 := below_still hb (Still.one wr k)
        have hx2 := bitN_lt N x hx
        have HT2 : Hid (bitN (2 * N * (y / 2)) (bitN N x) = bitN (8 * n) a) := Lib.hid (by rw [← HT.out, HE.out, Nat.mul_one])
        clear hg hb HT HE
        generalize bitN N x = x' at *
        go_wp2_with (with_reducible refine wpList_load_row rfl 53 (.tmp 7) rfl G rfl e (matA N) (0, 0) _ hg2 Tryd.underlying53 rfl (by rw [matA_size]; exact info_mat) ?_)
        have hG : G < (wr.drewN k).heap.size := (Array.getElem?_eq_some_iff.mp hg2).1
        go_wp2_with (with_reducible refine wpList_load_row rfl 53 (.tmp 7) rfl G rfl e (matA N) (0, 0) _ hg2 Tryd.underlying53 rfl (by rw [matA_size]; exact info_mat) ?_)
        (with_reducible refine (squared_any N _).mono ?_)
        rintro e2 w3 ⟨rfl, hb4⟩
        have hg3 : w3.heap[G]? = some (.cells (matA N) e (0, 0)) := by rw [hb4.block G hG]; exact hg2
        have hg4 := setRow_heap w3 G _ (matA (2 * N)) _ _ hg3
        have hb5 := below_setRow1 (below_next hb3 hb4) z1 (matA (2 * N))
        go_wp2_with (with_reducible refine wpList_store_row rfl 53 (.tmp 7) (.tmp 19) rfl G (matA (2 * N)) rfl rfl _ _ hg3 (by rw [matA_size]; exact info_mat) (by rw [matA_size, matA_size]) (matA_one (2 * N)) ?_)
        go_roundw
        case rel => exact ⟨x', y / 2, 2 * N, _, rfl, by go_num, hx2, by omega, hg4, HT2, hb5⟩
        case measure => simp [intOf]; omega
      · obtain rfl : q = 0 := by omega
        have hb1 : ((0 : Int) == 1) = false := rfl
        have HT2 : Hid (bitN (2 * N * (y / 2)) x = bitN (8 * n) a) := Lib.hid (by rw [← HT.out, HE.out, Nat.mul_zero]; rfl)
        clear hq HT HE
        have hG : G < wr.heap.size := (Array.getElem?_eq_some_iff.mp hg).1
        go_wp2_with (with_reducible refine wpList_load_row rfl 53 (.tmp 7) rfl G rfl e (matA N) (0, 0) _ hg Tryd.underlying53 rfl (by rw [matA_size]; exact info_mat) ?_)
        (with_reducible refine (squared_any N _).mono ?_)
        rintro e2 w3 ⟨rfl, hb4⟩
        have hg3 : w3.heap[G]? = some (.cells (matA N) e (0, 0)) := by rw [hb4.block G hG]; exact hg
        have hg4 := setRow_heap w3 G _ (matA (2 * N)) _ _ hg3
        have hb5 := below_setRow1 (below_next hb hb4) z1 (matA (2 * N))
        go_wp2_with (with_reducible refine wpList_store_row rfl 53 (.tmp 7) (.tmp 19) rfl G (matA (2 * N)) rfl rfl _ _ hg3 (by rw [matA_size]; exact info_mat) (by rw [matA_size, matA_size]) (matA_one (2 * N)) ?_)
        go_roundw
        case rel => exact ⟨x, y / 2, 2 * N, _, rfl, by go_num, hx, by omega, hg4, HT2, hb5⟩
        case measure => simp [intOf]; omega
end Go.Proofs.YtdcifghlgeiobaaDoor
