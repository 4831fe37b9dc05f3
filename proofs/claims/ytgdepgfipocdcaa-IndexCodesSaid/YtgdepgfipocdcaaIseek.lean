/-
  The walks of the reference's Same, of Last over marks, of both Seek. Condition: the slices read as lists of marks.
-/
import Derived.Test.YtgdepgfipocdcaaIref
namespace Go.Proofs.Ytgdepgfipocdcaa
open Go.RowKit
set_option linter.unusedVariables false

theorem mtake_ne {l m : List Mk} {k : Nat} {c d : Mk} (hc : l[k]? = some c) (hd : m[k]? = some d) (hcd : c ≠ d) : l ≠ m := by
  rintro rfl; rw [hc] at hd; exact hcd (Option.some.inj hd)
theorem msame_step {l m : List Mk} {k : Nat} {c d : Mk} (hc : l[k]? = some c) (hd : m[k]? = some d) (h : l.take k = m.take k) (hcd : c = d) : l.take (k + 1) = m.take (k + 1) := by
  rw [List.take_add_one, List.take_add_one, hc, hd, h, hcd]

set_option maxHeartbeats 800000 in
theorem rmsame_any (a1 : Option Addr) (n1 c1 : Nat) (l1 : List Mk) (a2 : Option Addr) (n2 c2 : Nat) (l2 : List Mk) (w : World) (r1 : RowAt w a1 n1 c1 2 (l1.flatMap Mk.cells)) (r2 : RowAt w a2 n2 c2 2 (l2.flatMap Mk.cells)) :
    Calls Try.prog 19 #[.slice a1 n1 c1, .slice a2 n2 c2] w fun e w' => e = .returned (.bool (decide (l1 = l2))) ∧ Still w w' := by
  have e1 : l1.length = n1 := by have := r1.1; rw [M_len] at this; omega
  have e2 : l2.length = n2 := by have := r2.1; rw [M_len] at this; omega
  have m1 := r1.2.2.1
  have m2 := r1.2.1
  unfold maxLen at m1
  by_cases hn : n1 = n2
  · subst hn
    have H2 := Lib.hid e2; clear e2
    have H1 := Lib.hid e1; clear e1
    go_enter Try.func19, Try.ntmps19
    go_wp2_with fail
    go_loopw [13] (fun iv wr => ∃ k : Nat, iv = .int .i64 (k : Int) ∧ k ≤ n1 ∧ Hid (l1.take k = l2.take k) ∧ Still w wr) (fun iv _ => n1 - (intOf iv).toNat)
    case atStart => exact ⟨0, rfl, Nat.zero_le _, Lib.hid rfl, Still.refl _⟩
    case round =>
      obtain ⟨k, rfl, hk, HT, hst⟩ := hrel
      by_cases hlt : k < n1
      · obtain ⟨b1, o1, x1, rfl, hx1, hc1, hd1⟩ := mk_at (r1.still hst) k hlt
        obtain ⟨b2, o2, x2, rfl, hx2, hc2, hd2⟩ := mk_at (r2.still hst) k hlt
        have HX1 := Lib.hid hx1; clear hx1
        have HX2 := Lib.hid hx2; clear hx2
        have hlt' : (k : Int) < (n1 : Int) := by omega
        by_cases hcd : x1 = x2
        · subst hcd
          go_wp2_with fail
          go_quiet (fail)
          go_wp2_with fail
          go_roundw
          case rel => exact ⟨k + 1, by go_num, by omega, Lib.hid (msame_step HX1.out HX2.out HT.out rfl), hst.trans (Still.one _ _)⟩
          case measure => simp [intOf]; omega
        · have HN := Lib.hid (mtake_ne HX1.out HX2.out hcd)
          by_cases hs : x1.s = x2.s
          · have hb1 : (x1.s == x2.s) = true := by simpa using hs
            have hb2 : (x1.a == x2.a) = false := by
              rw [beq_eq_false_iff_ne]; intro h; exact hcd (by cases x1; cases x2; simp_all)
            clear hs hcd
            go_wp2_with fail
            go_quiet (fail)
            go_wp2_with fail
            go_ret
            exact ⟨ret_bool (decide_eq_false HN.out).symm, hst.trans (Still.one _ _)⟩
          · have hb1 : (x1.s == x2.s) = false := by simpa using hs
            clear hs hcd
            go_wp2_with fail
            go_quiet (fail)
            go_wp2_with fail
            go_ret
            exact ⟨ret_bool (decide_eq_false HN.out).symm, hst.trans (Still.one _ _)⟩
      · go_wp2_with fail
        go_ret
        refine ⟨ret_bool ?_, hst⟩
        have ht := HT.out
        rw [List.take_of_length_le (by have := H1.out; omega), List.take_of_length_le (by have := H2.out; omega)] at ht
        rw [ht]; simp
  · have hb : ((n1 : Int) != (n2 : Int)) = true := by rw [bne_iff_ne]; omega
    have HN : Hid (l1 ≠ l2) := Lib.hid (by rintro rfl; omega)
    clear e1 e2
    go_enter Try.func19, Try.ntmps19
    go_wp2_with fail
    go_ret
    exact ⟨ret_bool (decide_eq_false HN.out).symm, Still.refl _⟩

theorem upTo_mark (m : Mk) (t : Int) (b0 : Nat) (w : World) (hc0 : w.cell? ⟨b0, 0, none⟩ = some (.int .i64 t)) : Calls Try.prog 29 #[.agg #[.int .i64 m.s, .int .i64 m.a], .pointer (some ⟨b0, 0, none⟩)] w fun e w' => e = .returned (.bool (decide (m.s ≤ t))) ∧ Below w.heap.size w w' := by
  have hlt := World.block_lt_of_cell? w _ hc0
  have hc1 : (w.alloc (.cells #[.int .i64 m.s, .int .i64 m.a] 31)).cell? ⟨b0, 0, none⟩ = some (.int .i64 t) := (World.cell?_of_block ((below_made w _).block _ hlt)).trans hc0
  go_enter Try.func29, Try.ntmps29
  go_wp2_with fail
  go_ret
  exact ⟨rfl, below_made w _⟩

/-- What Last has found: l of the first are in, the next one is out. -/
def LastIs (ms : List Mk) (t : Int) (n l : Nat) : Prop := l ≤ n ∧ (∀ x, ms[l]? = some x → t < x.s) ∧ (∀ x, 0 < l → ms[l - 1]? = some x → x.s ≤ t)

set_option maxHeartbeats 400000 in
theorem mark_last (t : Int) (b0 : Nat) (a : Option Addr) (n c : Nat) (ms : List Mk) (w : World) (hc0 : w.cell? ⟨b0, 0, none⟩ = some (.int .i64 t)) (r : RowAt w a n c 2 (ms.flatMap Mk.cells)) (hn : n ≤ 140737488351232) :
    Calls Try.prog 28 #[.slice a n c, .func (.func 29) #[] #[.pointer (some ⟨b0, 0, none⟩)]] w fun e w' => (∃ l : Nat, e = .returned (.int .i64 ((l : Int) - 1)) ∧ LastIs ms t n l) ∧ Below w.heap.size w w' := by
  have hml : ms.length = n := by have := r.1; rw [M_len] at this; omega
  have hl0 := World.block_lt_of_cell? w _ hc0
  simp only at hl0
  go_enter Try.func28, Try.ntmps28
  go_wp2_with fail
  go_loopw [5, 6] (fun lv hv wr => ∃ l h : Nat, lv = .int .i64 ((l : Int) - 1) ∧ hv = .int .i64 (h : Int) ∧ l ≤ h ∧ h ≤ n ∧ (∀ x, ms[h]? = some x → t < x.s) ∧ (∀ x, 0 < l → ms[l - 1]? = some x → x.s ≤ t) ∧ Below w.heap.size w wr) (fun lv hv _ => (intOf hv).toNat - ((intOf lv) + 1).toNat)
  case atStart => exact ⟨0, n, rfl, rfl, Nat.zero_le _, Nat.le_refl _, (fun x hx => by rw [List.getElem?_eq_none (by omega)] at hx; cases hx), (fun x h0 => by omega), Below.refl _ _⟩
  case round =>
    obtain ⟨l, h, rfl, rfl, hlh, hhn, hH, hL, hb⟩ := hrel
    by_cases hlt : l < h
    · obtain ⟨m, hm⟩ : ∃ m : Nat, (l + h - 1) / 2 = m := ⟨_, rfl⟩
      have hm1 : l ≤ m := by omega
      have hm2 : m < h := by omega
      have hmi : ((l : Int) - 1 + (h : Int)) / 2 = (m : Int) := by omega
      have hgt : (1 : Int) < (h : Int) - ((l : Int) - 1) := by omega
      obtain ⟨b, off, x, rfl, hx, hx0, hx1⟩ := mk_at (r.below hb) m (by omega)
      have hcr : wr.cell? ⟨b0, 0, none⟩ = some (.int .i64 t) := (World.cell?_of_block (hb.block _ hl0)).trans hc0
      by_cases hp : x.s ≤ t
      all_goals
        have hd : decide (x.s ≤ t) = decide (x.s ≤ t) := rfl
        go_wp2_with (go_at_call 29; refine (upTo_mark x t b0 _ hcr).mono ?_; rintro e w2 ⟨rfl, hb2⟩)
      · go_roundw
        case rel => exact ⟨m + 1, h, by go_num, rfl, by omega, hhn, hH, (fun y _ hy => by rw [Nat.add_sub_cancel, hx] at hy; cases hy; omega), below_next hb hb2⟩
        case measure => simp [intOf]; omega
      · go_roundw
        case rel => exact ⟨l, m, rfl, rfl, hm1, by omega, (fun y hy => by rw [hx] at hy; cases hy; omega), hL, below_next hb hb2⟩
        case measure => simp [intOf]; omega
    · obtain rfl : l = h := by omega
      have hgt : ¬ (1 : Int) < (l : Int) - ((l : Int) - 1) := by omega
      go_wp2_with fail
      go_ret
      exact ⟨⟨l, rfl, hhn, hH, hL⟩, hb⟩

/-- What Seek gives, by how many of the first are at or ahead of the number. -/
def foundV (ms : List Mk) (l : Nat) : Value := if l = 0 then .tuple #[.agg #[.int .i64 0, .int .i64 0], .bool false] else .tuple #[.agg #[.int .i64 (ms.getD (l - 1) ⟨0, 0⟩).s, .int .i64 (ms.getD (l - 1) ⟨0, 0⟩).a], .bool true]

set_option maxHeartbeats 400000 in
theorem seek_any (a : Option Addr) (n c : Nat) (ms : List Mk) (t : Int) (w : World) (r : RowAt w a n c 2 (ms.flatMap Mk.cells)) (hn : n ≤ 140737488351232) :
    Calls Try.prog 18 #[.slice a n c, .int .i64 t] w fun e w' => (∃ l : Nat, e = .returned (foundV ms l) ∧ LastIs ms t n l) ∧ Below w.heap.size w w' := by
  have hmf : ∀ (fn : Fn) (first cap : Array Value) (w : World), (Instr.makeFunc fn first cap).run Try.prog w = .ok (.func fn first cap) w := fun _ _ _ _ => rfl
  go_enter Try.func18, Try.ntmps18
  go_wp2_with fail
  have hml : ms.length = n := by have := r.1; rw [M_len] at this; omega
  have hbx : Below w.heap.size w ((w.alloc (.cells #[.int .i64 t] 3)).alloc (.cells #[.int .i64 0, .int .i64 0] 31)) := below_next (below_made _ _) (below_made _ _)
  have h0 : ((w.alloc (.cells #[.int .i64 t] 3)).alloc (.cells #[.int .i64 0, .int .i64 0] 31)).heap[w.heap.size]? = some (.cells #[.int .i64 t] 3) := by
    rw [Below.heap_alloc _ _ _ (by simp)]; exact heap_alloc_new w _
  have h1 : ((w.alloc (.cells #[.int .i64 t] 3)).alloc (.cells #[.int .i64 0, .int .i64 0] 31)).heap[w.heap.size + 1]? = some (.cells #[.int .i64 0, .int .i64 0] 31) := by
    have := heap_alloc_new (w.alloc (.cells #[.int .i64 t] 3)) (.cells #[.int .i64 0, .int .i64 0] 31)
    simpa using this
  have hsz : ((w.alloc (.cells #[.int .i64 t] 3)).alloc (.cells #[.int .i64 0, .int .i64 0] 31)).heap.size = w.heap.size + 2 := by simp
  obtain ⟨w1, hw1⟩ : ∃ w1, ((w.alloc (.cells #[.int .i64 t] 3)).alloc (.cells #[.int .i64 0, .int .i64 0] 31)) = w1 := ⟨_, rfl⟩
  rw [hw1] at hbx h0 h1 hsz ⊢
  clear hw1
  have hc0 := cell_of_one h0
  (with_reducible refine (mark_last t _ _ _ _ ms _ hc0 (r.below hbx) hn).mono ?_)
  rintro e w2 ⟨⟨l, rfl, hl⟩, hb2⟩
  have h2 : w2.heap[w.heap.size + 1]? = some (.cells #[.int .i64 0, .int .i64 0] 31) := (hb2.block _ (by omega)).trans h1
  have hb3 := below_next hbx hb2
  have g0 := cell_two0 h2
  have g1 := cell_two1 h2
  have f0 := free_two0 h2
  have f1 := free_two1 h2
  have HL := Lib.hid hl
  have hln := hl.1
  clear hl
  by_cases hl0 : l = 0
  · have hd : (l : Int) - 1 < 0 := by omega
    have hs0 := two_set0 (u := .int .i64 0) h2
    have k1 := free_two1 hs0
    have hs1 := two_set1 (u := .int .i64 0) hs0
    have d0 := cell_two0 hs1
    have d1 := cell_two1 hs1
    have hbs := (hb3.setCell (p := ⟨w.heap.size + 1, 0, none⟩) (Nat.le_succ _) (.int .i64 0)).setCell (p := ⟨w.heap.size + 1, 1, none⟩) (Nat.le_succ _) (.int .i64 0)
    clear hs0 hs1 h2 h1 h0
    go_wp2_with fail
    subst hl0
    exact bodyPost_ret (v := foundV ms 0) (by simp [results, Try.results18, go_sem, foundV, d0, d1]) rfl ⟨⟨0, rfl, HL.out⟩, hbs⟩
  · obtain ⟨j, rfl⟩ : ∃ j, l = j + 1 := ⟨l - 1, by omega⟩
    obtain ⟨b, off, m, rfl, hm, x0, x1⟩ := mk_at (r.below hb3) j (by omega)
    have hd : ¬ ((j + 1 : Nat) : Int) - 1 < 0 := by omega
    have hj : ((j + 1 : Nat) : Int) - 1 = (j : Int) := by omega
    have hs0 := two_set0 (u := .int .i64 m.s) h2
    have k1 := free_two1 hs0
    have hs1 := two_set1 (u := .int .i64 m.a) hs0
    have d0 := cell_two0 hs1
    have d1 := cell_two1 hs1
    have hbs := (hb3.setCell (p := ⟨w.heap.size + 1, 0, none⟩) (Nat.le_succ _) (.int .i64 m.s)).setCell (p := ⟨w.heap.size + 1, 1, none⟩) (Nat.le_succ _) (.int .i64 m.a)
    have HM : Hid (ms[j]? = some m) := Lib.hid hm
    clear hs0 hs1 h2 h1 h0 hm
    go_wp2_with fail
    exact bodyPost_ret (v := foundV ms (j + 1)) (by simp [results, Try.results18, go_sem, foundV, d0, d1, HM.out]) rfl ⟨⟨j + 1, rfl, HL.out⟩, hbs⟩

/-- What the reference's Seek has found among the first k. -/
def SeekIs (ms : List Mk) (t : Int) (k l : Nat) : Prop := l ≤ k ∧ (∀ x, 0 < l → ms[l - 1]? = some x → x.s ≤ t) ∧ (∀ i x, l ≤ i → i < k → ms[i]? = some x → t < x.s)

set_option maxHeartbeats 400000 in
theorem rseek_any (a : Option Addr) (n c : Nat) (ms : List Mk) (t : Int) (w : World) (r : RowAt w a n c 2 (ms.flatMap Mk.cells)) :
    Calls Try.prog 17 #[.slice a n c, .int .i64 t] w fun e w' => (∃ l : Nat, e = .returned (foundV ms l) ∧ SeekIs ms t n l) ∧ Below w.heap.size w w' := by
  have m1 := r.2.2.1
  have m2 := r.2.1
  unfold maxLen at m1
  have hbx : Below w.heap.size w ((w.alloc (.cells #[.int .i64 0, .int .i64 0] 31)).alloc (.cells #[.int .i64 0, .int .i64 0] 31)) := below_next (below_made _ _) (below_made _ _)
  have h0 : ((w.alloc (.cells #[.int .i64 0, .int .i64 0] 31)).alloc (.cells #[.int .i64 0, .int .i64 0] 31)).heap[w.heap.size]? = some (.cells #[.int .i64 0, .int .i64 0] 31) := by
    rw [Below.heap_alloc _ _ _ (by simp)]; exact heap_alloc_new w _
  have h1 : ((w.alloc (.cells #[.int .i64 0, .int .i64 0] 31)).alloc (.cells #[.int .i64 0, .int .i64 0] 31)).heap[w.heap.size + 1]? = some (.cells #[.int .i64 0, .int .i64 0] 31) := by
    have := heap_alloc_new (w.alloc (.cells #[.int .i64 0, .int .i64 0] 31)) (.cells #[.int .i64 0, .int .i64 0] 31)
    simpa using this
  go_enter Try.func17, Try.ntmps17
  go_wp2_with fail
  go_loopw [7, 12] (fun fv iv wr => ∃ (k l : Nat) (m : Mk), fv = .bool (decide (0 < l)) ∧ iv = .int .i64 (k : Int) ∧ k ≤ n ∧ wr.heap[w.heap.size]? = some (.cells #[.int .i64 0, .int .i64 0] 31) ∧ wr.heap[w.heap.size + 1]? = some (.cells #[.int .i64 m.s, .int .i64 m.a] 31) ∧ Hid (SeekIs ms t k l ∧ (l = 0 → m = ⟨0, 0⟩) ∧ (0 < l → ms[l - 1]? = some m)) ∧ Below w.heap.size w wr) (fun _ iv _ => n - (intOf iv).toNat)
  case atStart => exact ⟨0, 0, ⟨0, 0⟩, rfl, rfl, Nat.zero_le _, h0, h1, Lib.hid ⟨⟨Nat.le_refl _, (fun x h => by omega), (fun i x _ h => by omega)⟩, (fun _ => rfl), (fun h => by omega)⟩, hbx⟩
  case round =>
    clear h0 h1
    obtain ⟨k, l, m, rfl, rfl, hk, h0, h1, HS, hb⟩ := hrel
    by_cases hlt : k < n
    · obtain ⟨b, off, x, rfl, hx, x0, x1⟩ := mk_at (r.below hb) k hlt
      have HX := Lib.hid hx
      clear hx
      by_cases hle : x.s ≤ t
      · have hs0 := two_set0 (u := .int .i64 x.s) h1
        have g0 := cell_two0 h1
        have g1 := cell_two1 h1
        have k0 := free_two0 h1
        have k1 := free_two1 hs0
        have hs1 := two_set1 (u := .int .i64 x.a) hs0
        have hbs := (hb.setCell (p := ⟨w.heap.size + 1, 0, none⟩) (Nat.le_succ _) (.int .i64 x.s)).setCell (p := ⟨w.heap.size + 1, 1, none⟩) (Nat.le_succ _) (.int .i64 x.a)
        have z0 : ((wr.setCell ⟨w.heap.size + 1, 0, none⟩ (.int .i64 x.s)).setCell ⟨w.heap.size + 1, 1, none⟩ (.int .i64 x.a)).heap[w.heap.size]? = some (.cells #[.int .i64 0, .int .i64 0] 31) := by
          rw [Below.heap_setCell _ _ _ _ (by simp), Below.heap_setCell _ _ _ _ (by simp)]; exact h0
        clear hs0 h0 h1
        go_wp2_with fail
        go_roundw
        case rel => exact ⟨k + 1, k + 1, x, by simp, by go_num, by omega, z0, hs1, Lib.hid ⟨⟨Nat.le_refl _, (fun y _ hy => by rw [Nat.add_sub_cancel, HX.out] at hy; cases hy; exact hle), (fun i y h1 h2 => by omega)⟩, (fun h => by omega), (fun _ => by rw [Nat.add_sub_cancel]; exact HX.out)⟩, hbs⟩
        case measure => simp [intOf]; omega
      · go_wp2_with fail
        go_roundw
        case rel =>
          refine ⟨k + 1, l, m, rfl, by go_num, by omega, h0, h1, Lib.hid ?_, hb⟩
          obtain ⟨⟨s1, s2, s3⟩, s4, s5⟩ := HS.out
          refine ⟨⟨by omega, s2, fun i y h1 h2 hy => ?_⟩, s4, s5⟩
          by_cases hik : i = k
          · subst hik; rw [HX.out] at hy; cases hy; omega
          · exact s3 i y h1 (by omega) hy
        case measure => simp [intOf]; omega
    · obtain rfl : k = n := by omega
      have hlk : ¬ (k : Int) < (k : Int) := by omega
      have g0 := cell_two0 h1
      have g1 := cell_two1 h1
      have q0 := cell_two0 h0
      have q1 := cell_two1 h0
      have f0 := free_two0 h0
      have hs0 := two_set0 (u := .int .i64 m.s) h0
      have k1 := free_two1 hs0
      have hs1 := two_set1 (u := .int .i64 m.a) hs0
      have d0 := cell_two0 hs1
      have d1 := cell_two1 hs1
      have hbs := (hb.setCell (p := ⟨w.heap.size, 0, none⟩) (Nat.le_refl _) (.int .i64 m.s)).setCell (p := ⟨w.heap.size, 1, none⟩) (Nat.le_refl _) (.int .i64 m.a)
      have HV : Hid (foundV ms l = .tuple #[.agg #[.int .i64 m.s, .int .i64 m.a], .bool (decide (0 < l))]) := Lib.hid (by
        obtain ⟨_, s4, s5⟩ := HS.out
        unfold foundV
        by_cases hl0 : l = 0
        · rw [if_pos hl0, s4 hl0, decide_eq_false (by omega)]
        · rw [if_neg hl0, List.getD_eq_getElem?_getD, s5 (by omega), decide_eq_true (by omega)]; rfl)
      clear hs0 hs1 h1 h0
      go_wp2_with fail
      refine bodyPost_ret (v := foundV ms l) (by rw [HV.out]; simp [results, Try.results17, go_sem, d0, d1]) rfl ⟨⟨l, rfl, HS.out.1⟩, hbs⟩

theorem okFrom_all : ∀ (l : List Mk) (p : Mk), okFrom p l = true ↔ (∀ x ∈ l, p.s < x.s ∧ p.a < x.a ∧ x.s ≤ 1099511627776 ∧ x.a ≤ 1099511627776) ∧ l.Pairwise (fun x y => x.s < y.s ∧ x.a < y.a)
  | [], p => by simp [okFrom]
  | m :: r, p => by
    rw [okFrom, Bool.and_eq_true, okFrom_all r m, List.pairwise_cons, decide_eq_true_iff]
    constructor
    · rintro ⟨⟨h1, h2, h3, h4⟩, h5, h6⟩
      refine ⟨fun x hx => ?_, fun x hx => ⟨(h5 x hx).1, (h5 x hx).2.1⟩, h6⟩
      rcases List.mem_cons.1 hx with rfl | hx
      · exact ⟨h1, h2, h3, h4⟩
      · have := h5 x hx; omega
    · rintro ⟨h1, h2, h3⟩
      refine ⟨h1 m List.mem_cons_self, fun x hx => ?_, h3⟩
      have := h1 x (List.mem_cons_of_mem _ hx)
      have := h2 x hx
      omega

theorem okN_iff (ms : List Mk) : okN ms = true ↔ ms.length ≤ 512 ∧ (∀ x ∈ ms, 0 < x.s ∧ -1 < x.a ∧ x.s ≤ 1099511627776 ∧ x.a ≤ 1099511627776) ∧ ms.Pairwise (fun x y => x.s < y.s ∧ x.a < y.a) := by
  unfold okN; rw [Bool.and_eq_true, okFrom_all, decide_eq_true_iff]

theorem pair_at {ms : List Mk} (h : ms.Pairwise (fun x y => x.s < y.s ∧ x.a < y.a)) {i j : Nat} {x y : Mk} (hij : i < j) (hx : ms[i]? = some x) (hy : ms[j]? = some y) : x.s < y.s ∧ x.a < y.a := by
  obtain ⟨hi, rfl⟩ := List.getElem?_eq_some_iff.1 hx
  obtain ⟨hj, rfl⟩ := List.getElem?_eq_some_iff.1 hy
  exact List.pairwise_iff_getElem.1 h i j hi hj hij

/-- In marks that rise both Seek find the same. -/
theorem seek_same {ms : List Mk} {t : Int} {n l l' : Nat} (h : ms.Pairwise (fun x y => x.s < y.s ∧ x.a < y.a)) (hn : ms.length = n) (h1 : LastIs ms t n l) (h2 : SeekIs ms t n l') : l = l' := by
  obtain ⟨a1, a2, a3⟩ := h1
  obtain ⟨b1, b2, b3⟩ := h2
  rcases Nat.lt_trichotomy l l' with hl | hl | hl
  · have e1 : ms[l]? = some (ms[l]'(by omega)) := List.getElem?_eq_getElem (by omega)
    have e2 : ms[l' - 1]? = some (ms[l' - 1]'(by omega)) := List.getElem?_eq_getElem (by omega)
    have c1 := a2 _ e1
    have c2 := b2 _ (by omega) e2
    by_cases hll : l = l' - 1
    · subst hll; rw [e1] at e2; injection e2 with e2; rw [e2] at c1; omega
    · have := (pair_at h (by omega) e1 e2).1; omega
  · exact hl
  · have e1 : ms[l - 1]? = some (ms[l - 1]'(by omega)) := List.getElem?_eq_getElem (by omega)
    have c1 := a3 _ (by omega) e1
    have c2 := b3 (l - 1) _ (by omega) (by omega) e1
    omega
end Go.Proofs.Ytgdepgfipocdcaa
