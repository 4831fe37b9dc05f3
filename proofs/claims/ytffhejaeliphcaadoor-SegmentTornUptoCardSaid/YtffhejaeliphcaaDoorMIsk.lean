/-
  The walk of index.Seek; when marks are an index, in words. Conditions: those that each line names.
-/
import Derived.Test.YtffhejaeliphcaaDoorMIk
namespace Go.Proofs.YtffhejaeliphcaaDoor
open Go.RowKit
set_option linter.unusedVariables false

theorem upTo_mark (m : Mk) (t : Int) (b0 : Nat) (w : World) (hc0 : w.cell? ⟨b0, 0, none⟩ = some (.int .i64 t)) : Calls Tryd.prog 50 #[.agg #[.int .i64 m.s, .int .i64 m.a], .pointer (some ⟨b0, 0, none⟩)] w fun e w' => e = .returned (.bool (decide (m.s ≤ t))) ∧ Below w.heap.size w w' := by
  have hlt := World.block_lt_of_cell? w _ hc0
  have hc1 : (w.alloc (.cells #[.int .i64 m.s, .int .i64 m.a] 67)).cell? ⟨b0, 0, none⟩ = some (.int .i64 t) := (World.cell?_of_block ((below_made w _).block _ hlt)).trans hc0
  go_enter Tryd.func50, Tryd.ntmps50
  go_wp2_with fail
  go_ret
  exact ⟨rfl, below_made w _⟩

/-- What Last has found: l of the first are in, the next one is out. -/
def LastIs (ms : List Mk) (t : Int) (n l : Nat) : Prop := l ≤ n ∧ (∀ x, ms[l]? = some x → t < x.s) ∧ (∀ x, 0 < l → ms[l - 1]? = some x → x.s ≤ t)

set_option maxHeartbeats 400000 in
theorem mark_last (t : Int) (b0 : Nat) (a : Option Addr) (n c : Nat) (ms : List Mk) (w : World) (hc0 : w.cell? ⟨b0, 0, none⟩ = some (.int .i64 t)) (r : RowAt w a n c 2 (ms.flatMap Mk.cells)) (hn : n ≤ 140737488351232) :
    Calls Tryd.prog 49 #[.slice a n c, .func (.func 50) #[] #[.pointer (some ⟨b0, 0, none⟩)]] w fun e w' => (∃ l : Nat, e = .returned (.int .i64 ((l : Int) - 1)) ∧ LastIs ms t n l) ∧ Below w.heap.size w w' := by
  have hml : ms.length = n := by have := r.1; rw [M_len] at this; omega
  have hl0 := World.block_lt_of_cell? w _ hc0
  simp only at hl0
  go_enter Tryd.func49, Tryd.ntmps49
  go_wp2_with fail
  go_loopw [5, 6] (fun lv hv wr => ∃ l h : Nat, lv = .int .i64 ((l : Int) - 1) ∧ hv = .int .i64 (h : Int) ∧ l ≤ h ∧ h ≤ n ∧ (∀ x, ms[h]? = some x → t < x.s) ∧ (∀ x, 0 < l → ms[l - 1]? = some x → x.s ≤ t) ∧ Below w.heap.size w wr) (fun lv hv _ => (intOf hv).toNat - ((intOf lv) + 1).toNat)
  case atStart => exact ⟨0, n, rfl, rfl, Nat.zero_le _, Nat.le_refl _, (fun x hx => by rw [List.getElem?_eq_none (by omega)] at hx; cases hx), (fun x h0 => by omega), Below.refl _ _⟩
  case round =>
    obtain ⟨l, h, rfl, rfl, hlh, hhn, hH, hL, hb⟩ := hrel
    by_cases hlt : l < h
    · obtain ⟨m, hm⟩ : ∃ m : Nat, (l + h - 1) / 2 = m := ⟨_, rfl⟩
      have hm1 : l ≤ m := by omega
      have hm2 : m < h := by omega
      have hmi : ((l : Int) - 1 + (h : Int)) / 2 = (m : Int) := by omega
      have hgt : (1 : Int) < (h : Int) - ((l : Int) - 1) := by omega
      obtain ⟨b, off, x, rfl, hx, hx0, hx1⟩ := mk_at (r.below hb) m (by omega)
      have hcr : wr.cell? ⟨b0, 0, none⟩ = some (.int .i64 t) := (World.cell?_of_block (hb.block _ hl0)).trans hc0
      by_cases hp : x.s ≤ t
      all_goals
        have hd : decide (x.s ≤ t) = decide (x.s ≤ t) := rfl
        go_wp2_with (go_at_call 50; refine (upTo_mark x t b0 _ hcr).mono ?_; rintro e w2 ⟨rfl, hb2⟩)
      · go_roundw
        case rel => exact ⟨m + 1, h, by go_num, rfl, by omega, hhn, hH, (fun y _ hy => by rw [Nat.add_sub_cancel, hx] at hy; cases hy; omega), below_next hb hb2⟩
        case measure => simp [intOf]; omega
      · go_roundw
        case rel => exact ⟨l, m, rfl, rfl, hm1, by omega, (fun y hy => by rw [hx] at hy; cases hy; omega), hL, below_next hb hb2⟩
        case measure => simp [intOf]; omega
    · obtain rfl : l = h := by omega
      have hgt : ¬ (1 : Int) < (l : Int) - ((l : Int) - 1) := by omega
      go_wp2_with fail
      go_ret
      exact ⟨⟨l, rfl, hhn, hH, hL⟩, hb⟩

/-- What Seek gives, by how many of the first are at or ahead of the number. -/
def foundV (ms : List Mk) (l : Nat) : Value := if l = 0 then .tuple #[.agg #[.int .i64 0, .int .i64 0], .bool false] else .tuple #[.agg #[.int .i64 (ms.getD (l - 1) ⟨0, 0⟩).s, .int .i64 (ms.getD (l - 1) ⟨0, 0⟩).a], .bool true]

set_option maxHeartbeats 400000 in
theorem seek_any (a : Option Addr) (n c : Nat) (ms : List Mk) (t : Int) (w : World) (r : RowAt w a n c 2 (ms.flatMap Mk.cells)) (hn : n ≤ 140737488351232) :
    Calls Tryd.prog 26 #[.slice a n c, .int .i64 t] w fun e w' => (∃ l : Nat, e = .returned (foundV ms l) ∧ LastIs ms t n l) ∧ Below w.heap.size w w' := by
  have hmf : ∀ (fn : Fn) (first cap : Array Value) (w : World), (Instr.makeFunc fn first cap).run Tryd.prog w = .ok (.func fn first cap) w := fun _ _ _ _ => rfl
  go_enter Tryd.func26, Tryd.ntmps26
  go_wp2_with fail
  have hml : ms.length = n := by have := r.1; rw [M_len] at this; omega
  have hbx : Below w.heap.size w ((w.alloc (.cells #[.int .i64 t] 3)).alloc (.cells #[.int .i64 0, .int .i64 0] 67)) := below_next (below_made _ _) (below_made _ _)
  have h0 : ((w.alloc (.cells #[.int .i64 t] 3)).alloc (.cells #[.int .i64 0, .int .i64 0] 67)).heap[w.heap.size]? = some (.cells #[.int .i64 t] 3) := by
    rw [Below.heap_alloc _ _ _ (by simp)]; exact heap_alloc_new w _
  have h1 : ((w.alloc (.cells #[.int .i64 t] 3)).alloc (.cells #[.int .i64 0, .int .i64 0] 67)).heap[w.heap.size + 1]? = some (.cells #[.int .i64 0, .int .i64 0] 67) := by
    have := heap_alloc_new (w.alloc (.cells #[.int .i64 t] 3)) (.cells #[.int .i64 0, .int .i64 0] 67)
    simpa using this
  have hsz : ((w.alloc (.cells #[.int .i64 t] 3)).alloc (.cells #[.int .i64 0, .int .i64 0] 67)).heap.size = w.heap.size + 2 := by simp
  obtain ⟨w1, hw1⟩ : ∃ w1, ((w.alloc (.cells #[.int .i64 t] 3)).alloc (.cells #[.int .i64 0, .int .i64 0] 67)) = w1 := ⟨_, rfl⟩
  rw [hw1] at hbx h0 h1 hsz ⊢
  clear hw1
  have hc0 := cell_of_one h0
  (with_reducible refine (mark_last t _ _ _ _ ms _ hc0 (r.below hbx) hn).mono ?_)
  rintro e w2 ⟨⟨l, rfl, hl⟩, hb2⟩
  have h2 : w2.heap[w.heap.size + 1]? = some (.cells #[.int .i64 0, .int .i64 0] 67) := (hb2.block _ (by omega)).trans h1
  have hb3 := below_next hbx hb2
  have g0 := cell_two0 h2
  have g1 := cell_two1 h2
  have f0 := free_two0 h2
  have f1 := free_two1 h2
  have HL := Lib.hid hl
  have hln := hl.1
  clear hl
  by_cases hl0 : l = 0
  · have hd : (l : Int) - 1 < 0 := by omega
    have hs0 := two_set0 (u := .int .i64 0) h2
    have k1 := free_two1 hs0
    have hs1 := two_set1 (u := .int .i64 0) hs0
    have d0 := cell_two0 hs1
    have d1 := cell_two1 hs1
    have hbs := (hb3.setCell (p := ⟨w.heap.size + 1, 0, none⟩) (Nat.le_succ _) (.int .i64 0)).setCell (p := ⟨w.heap.size + 1, 1, none⟩) (Nat.le_succ _) (.int .i64 0)
    clear hs0 hs1 h2 h1 h0
    go_wp2_with fail
    subst hl0
    exact bodyPost_ret (v := foundV ms 0) (by simp [results, Tryd.results26, go_sem, foundV, d0, d1]) rfl ⟨⟨0, rfl, HL.out⟩, hbs⟩
  · obtain ⟨j, rfl⟩ : ∃ j, l = j + 1 := ⟨l - 1, by omega⟩
    obtain ⟨b, off, m, rfl, hm, x0, x1⟩ := mk_at (r.below hb3) j (by omega)
    have hd : ¬ ((j + 1 : Nat) : Int) - 1 < 0 := by omega
    have hj : ((j + 1 : Nat) : Int) - 1 = (j : Int) := by omega
    have hs0 := two_set0 (u := .int .i64 m.s) h2
    have k1 := free_two1 hs0
    have hs1 := two_set1 (u := .int .i64 m.a) hs0
    have d0 := cell_two0 hs1
    have d1 := cell_two1 hs1
    have hbs := (hb3.setCell (p := ⟨w.heap.size + 1, 0, none⟩) (Nat.le_succ _) (.int .i64 m.s)).setCell (p := ⟨w.heap.size + 1, 1, none⟩) (Nat.le_succ _) (.int .i64 m.a)
    have HM : Hid (ms[j]? = some m) := Lib.hid hm
    clear hs0 hs1 h2 h1 h0 hm
    go_wp2_with fail
    exact bodyPost_ret (v := foundV ms (j + 1)) (by simp [results, Tryd.results26, go_sem, foundV, d0, d1, HM.out]) rfl ⟨⟨j + 1, rfl, HL.out⟩, hbs⟩

theorem okFrom_all : ∀ (l : List Mk) (p : Mk), okFrom p l = true ↔ (∀ x ∈ l, p.s < x.s ∧ p.a < x.a ∧ x.s ≤ 1099511627776 ∧ x.a ≤ 1099511627776) ∧ l.Pairwise (fun x y => x.s < y.s ∧ x.a < y.a)
  | [], p => by simp [okFrom]
  | m :: r, p => by
    rw [okFrom, Bool.and_eq_true, okFrom_all r m, List.pairwise_cons, decide_eq_true_iff]
    constructor
    · rintro ⟨⟨h1, h2, h3, h4⟩, h5, h6⟩
      refine ⟨fun x hx => ?_, fun x hx => ⟨(h5 x hx).1, (h5 x hx).2.1⟩, h6⟩
      rcases List.mem_cons.1 hx with rfl | hx
      · exact ⟨h1, h2, h3, h4⟩
      · have := h5 x hx; omega
    · rintro ⟨h1, h2, h3⟩
      refine ⟨h1 m List.mem_cons_self, fun x hx => ?_, h3⟩
      have := h1 x (List.mem_cons_of_mem _ hx)
      have := h2 x hx
      omega

theorem okN_iff (ms : List Mk) : okN ms = true ↔ ms.length ≤ 512 ∧ (∀ x ∈ ms, 0 < x.s ∧ -1 < x.a ∧ x.s ≤ 1099511627776 ∧ x.a ≤ 1099511627776) ∧ ms.Pairwise (fun x y => x.s < y.s ∧ x.a < y.a) := by
  unfold okN; rw [Bool.and_eq_true, okFrom_all, decide_eq_true_iff]

theorem pair_at {ms : List Mk} (h : ms.Pairwise (fun x y => x.s < y.s ∧ x.a < y.a)) {i j : Nat} {x y : Mk} (hij : i < j) (hx : ms[i]? = some x) (hy : ms[j]? = some y) : x.s < y.s ∧ x.a < y.a := by
  obtain ⟨hi, rfl⟩ := List.getElem?_eq_some_iff.1 hx
  obtain ⟨hj, rfl⟩ := List.getElem?_eq_some_iff.1 hy
  exact List.pairwise_iff_getElem.1 h i j hi hj hij
end Go.Proofs.YtffhejaeliphcaaDoor
