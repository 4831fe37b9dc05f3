/-
  The reference's reading of an event, field by field: as data. No condition.
-/
import Derived.Test.YtkdpingniohfhaaDoorMRr
import Derived.Test.YtkdpingniohfhaaDoorMTb
namespace Go.Proofs.YtkdpingniohfhaaDoor
open Go.RowKit
set_option linter.unusedVariables false

def numsA (g : Nat → Int) : Array Value := #[.int .i64 (g 0), .int .i64 (g 1), .int .i64 (g 2), .int .i64 (g 3), .int .i64 (g 4), .int .i64 (g 5), .int .i64 (g 6), .int .i64 (g 7), .int .i64 (g 8), .int .i64 (g 9), .int .i64 (g 10)]
theorem numsA_set (g : Nat → Int) (t : Nat) (x : Int) (h : t ≤ 10) : (numsA g).setIfInBounds t (.int .i64 x) = numsA (fun s => if s = t then x else g s) := by
  have hc : t = 0 ∨ t = 1 ∨ t = 2 ∨ t = 3 ∨ t = 4 ∨ t = 5 ∨ t = 6 ∨ t = 7 ∨ t = 8 ∨ t = 9 ∨ t = 10 := by omega
  rcases hc with rfl | rfl | rfl | rfl | rfl | rfl | rfl | rfl | rfl | rfl | rfl <;> simp [numsA]
theorem numsA_congr {g h : Nat → Int} (e : ∀ t, t ≤ 10 → g t = h t) : numsA g = numsA h := by
  unfold numsA
  rw [e 0 (by omega), e 1 (by omega), e 2 (by omega), e 3 (by omega), e 4 (by omega), e 5 (by omega), e 6 (by omega), e 7 (by omega), e 8 (by omega), e 9 (by omega), e 10 (by omega)]
theorem numsA_at (g : Nat → Int) (t : Nat) (h : t ≤ 10) : (numsA g)[t]? = some (.int .i64 (g t)) := by
  have hc : t = 0 ∨ t = 1 ∨ t = 2 ∨ t = 3 ∨ t = 4 ∨ t = 5 ∨ t = 6 ∨ t = 7 ∨ t = 8 ∨ t = 9 ∨ t = 10 := by omega
  rcases hc with rfl | rfl | rfl | rfl | rfl | rfl | rfl | rfl | rfl | rfl | rfl <;> rfl

/-- The numbers of the fields, tag by tag. -/
def nAt (v : Int) (ds : List FD) (t : Nat) : Int :=
  if hasV v < (t : Int) ∨ t = 8 ∨ t = 10 ∨ t = 0 then 0 else if t = 4 ∧ v < 3 then zagN ((look ds t false).num : Int) else clampI (look ds t false).num
def whoAt (v : Int) (ds : List FD) : ByteArray := if v < 4 then ByteArray.empty else strD (look ds 8 true).bytes
def noteAt (v : Int) (ds : List FD) : ByteArray := if v < 5 then ByteArray.empty else strD (look ds 10 true).bytes
theorem evOf_nAt {v : Int} (h1 : 1 ≤ v) (h5 : v ≤ 5) (ds : List FD) : evOf v ds = ⟨nAt v ds 1, nAt v ds 2, nAt v ds 3, nAt v ds 4, nAt v ds 5, nAt v ds 6, nAt v ds 7, whoAt v ds, nAt v ds 9, noteAt v ds⟩ := by
  have hc : v = 1 ∨ v = 2 ∨ v = 3 ∨ v = 4 ∨ v = 5 := by omega
  rcases hc with rfl | rfl | rfl | rfl | rfl <;> simp [evOf, nAt, whoAt, noteAt, hasV]
theorem nAt_nil (v : Int) (t : Nat) : nAt v [] t = 0 := by
  unfold nAt look
  simp only [List.find?_nil]
  split
  · rfl
  split
  · show zagN 0 = 0
    decide
  · rfl
theorem look_snoc {ds : List FD} {d : FD} (h : hasT ds d.tag = false) (t : Nat) (x : Bool) : look (ds ++ [d]) t x = if d.tag = t then (if d.text = x then d else default) else look ds t x := by
  unfold look
  rw [List.find?_append]
  by_cases ht : d.tag = t
  · have hn : ds.find? (fun e => e.tag == t) = none := by
      rw [List.find?_eq_none]
      intro e he
      have := (List.any_eq_false.1 h) e he
      rw [ht] at this
      exact this
    rw [hn, if_pos ht]
    simp [ht]
  · rw [if_neg ht]
    have : ([d] : List FD).find? (fun e => e.tag == t) = none := by simp [ht]
    rw [this]
    simp
theorem hasV_bd {v : Int} (h1 : 1 ≤ v) : 5 ≤ hasV v ∧ hasV v ≤ 10 ∧ (8 ≤ hasV v → 4 ≤ v) ∧ (10 ≤ hasV v → 5 ≤ v) := by
  unfold hasV
  split
  · omega
  split
  · omega
  split
  · omega
  split
  · omega
  · omega
section
variable {v : Int} {ds : List FD} {d : FD} (h1 : 1 ≤ v) (h5 : v ≤ 5) (h : hasT ds d.tag = false)
include h1 h5 h
theorem nAt_alien (hd : hasV v < (d.tag : Int)) : (∀ t, t ≤ 10 → nAt v (ds ++ [d]) t = nAt v ds t) ∧ whoAt v (ds ++ [d]) = whoAt v ds ∧ noteAt v (ds ++ [d]) = noteAt v ds := by
  have hb : (4 ≤ v → 8 ≤ hasV v) ∧ (5 ≤ v → 10 ≤ hasV v) := by unfold hasV; split <;> (try split) <;> (try split) <;> (try split) <;> omega
  refine ⟨fun t ht => ?_, ?_, ?_⟩
  · unfold nAt
    by_cases hc : hasV v < (t : Int) ∨ t = 8 ∨ t = 10 ∨ t = 0
    · rw [if_pos hc, if_pos hc]
    · rw [if_neg hc, if_neg hc, look_snoc h, if_neg (show ¬ d.tag = t by omega)]
  · unfold whoAt
    by_cases hc : v < 4
    · rw [if_pos hc, if_pos hc]
    · rw [if_neg hc, if_neg hc, look_snoc h, if_neg (by omega)]
  · unfold noteAt
    by_cases hc : v < 5
    · rw [if_pos hc, if_pos hc]
    · rw [if_neg hc, if_neg hc, look_snoc h, if_neg (by omega)]
theorem nAt_who (ht8 : d.tag = 8) (hx : d.text = true) (hd : ¬ hasV v < (d.tag : Int)) : (∀ t, t ≤ 10 → nAt v (ds ++ [d]) t = nAt v ds t) ∧ whoAt v (ds ++ [d]) = strD d.bytes ∧ noteAt v (ds ++ [d]) = noteAt v ds := by
  have hb := hasV_bd h1
  refine ⟨fun t ht => ?_, ?_, ?_⟩
  · unfold nAt
    by_cases hc : hasV v < (t : Int) ∨ t = 8 ∨ t = 10 ∨ t = 0
    · rw [if_pos hc, if_pos hc]
    · rw [if_neg hc, if_neg hc, look_snoc h, if_neg (show ¬ d.tag = t by omega)]
  · unfold whoAt
    rw [if_neg (by omega), look_snoc h, if_pos ht8, if_pos hx]
  · unfold noteAt
    by_cases hc : v < 5
    · rw [if_pos hc, if_pos hc]
    · rw [if_neg hc, if_neg hc, look_snoc h, if_neg (by omega)]
theorem nAt_note (ht8 : d.tag = 10) (hx : d.text = true) (hd : ¬ hasV v < (d.tag : Int)) : (∀ t, t ≤ 10 → nAt v (ds ++ [d]) t = nAt v ds t) ∧ whoAt v (ds ++ [d]) = whoAt v ds ∧ noteAt v (ds ++ [d]) = strD d.bytes := by
  have hb := hasV_bd h1
  refine ⟨fun t ht => ?_, ?_, ?_⟩
  · unfold nAt
    by_cases hc : hasV v < (t : Int) ∨ t = 8 ∨ t = 10 ∨ t = 0
    · rw [if_pos hc, if_pos hc]
    · rw [if_neg hc, if_neg hc, look_snoc h, if_neg (show ¬ d.tag = t by omega)]
  · unfold whoAt
    by_cases hc : v < 4
    · rw [if_pos hc, if_pos hc]
    · rw [if_neg hc, if_neg hc, look_snoc h, if_neg (by omega)]
  · unfold noteAt
    rw [if_neg (by omega), look_snoc h, if_pos ht8, if_pos hx]
end
/-- A number's field. -/
theorem nAt_num {v : Int} {ds : List FD} {d : FD} (h : hasT ds d.tag = false) (ht8 : d.tag ≠ 8) (ht10 : d.tag ≠ 10) (ht0 : 1 ≤ d.tag) (hx : d.text = false) (hd : ¬ hasV v < (d.tag : Int)) : (∀ t, t ≤ 10 → nAt v (ds ++ [d]) t = if t = d.tag then (if d.tag = 4 ∧ v < 3 then zagN (d.num : Int) else clampI d.num) else nAt v ds t) ∧ whoAt v (ds ++ [d]) = whoAt v ds ∧ noteAt v (ds ++ [d]) = noteAt v ds := by
  refine ⟨fun t ht => ?_, ?_, ?_⟩
  · by_cases e : t = d.tag
    · subst e
      unfold nAt
      rw [if_neg (by omega), if_pos rfl, look_snoc h, if_pos rfl, if_pos hx]
    · rw [if_neg e]
      unfold nAt
      by_cases hc : hasV v < (t : Int) ∨ t = 8 ∨ t = 10 ∨ t = 0
      · rw [if_pos hc, if_pos hc]
      · rw [if_neg hc, if_neg hc, look_snoc h, if_neg (show ¬ d.tag = t from fun q => e q.symm)]
  · unfold whoAt
    by_cases hc : v < 4
    · rw [if_pos hc, if_pos hc]
    · rw [if_neg hc, if_neg hc, look_snoc h, if_neg (by omega)]
  · unfold noteAt
    by_cases hc : v < 5
    · rw [if_pos hc, if_pos hc]
    · rw [if_neg hc, if_neg hc, look_snoc h, if_neg (by omega)]

/-- Which tags a version has; which of them are texts'. -/
theorem inT_seq {v : Int} (h1 : 1 ≤ v) (h5 : v ≤ 5) {t : Nat} (ht : 1 ≤ t) : inT (seqV v) t = decide ((t : Int) ≤ hasV v) := by
  have hv : v = 1 ∨ v = 2 ∨ v = 3 ∨ v = 4 ∨ v = 5 := by omega
  by_cases h10 : 10 < t
  · have e1 : decide ((t : Int) ≤ hasV v) = false := by rw [decide_eq_false_iff_not]; have := (hasV_bd h1).2.1; omega
    rw [e1]
    unfold inT
    rw [List.any_eq_false]
    intro q hq
    have hq10 : q.1 ≤ 10 := by
      rcases hv with rfl | rfl | rfl | rfl | rfl <;> revert hq <;> revert q <;> decide
    simp; omega
  · have hc : t = 1 ∨ t = 2 ∨ t = 3 ∨ t = 4 ∨ t = 5 ∨ t = 6 ∨ t = 7 ∨ t = 8 ∨ t = 9 ∨ t = 10 := by omega
    rcases hv with rfl | rfl | rfl | rfl | rfl <;> rcases hc with rfl | rfl | rfl | rfl | rfl | rfl | rfl | rfl | rfl | rfl <;> decide
theorem mis_seq {v : Int} (h1 : 1 ≤ v) (h5 : v ≤ 5) {t : Nat} (ht : 1 ≤ t) (x : Bool) : (seqV v).any (fun q => q.1 == t && q.2 != x) = (decide ((t : Int) ≤ hasV v) && (x != (t == 8 || t == 10))) := by
  have hv : v = 1 ∨ v = 2 ∨ v = 3 ∨ v = 4 ∨ v = 5 := by omega
  by_cases h10 : 10 < t
  · have e1 : decide ((t : Int) ≤ hasV v) = false := by rw [decide_eq_false_iff_not]; have := (hasV_bd h1).2.1; omega
    rw [e1]
    simp only [Bool.false_and]
    rw [List.any_eq_false]
    intro q hq
    have hq10 : q.1 ≤ 10 := by
      rcases hv with rfl | rfl | rfl | rfl | rfl <;> revert hq <;> revert q <;> decide
    have : ¬ q.1 = t := by omega
    simp [this]
  · have hc : t = 1 ∨ t = 2 ∨ t = 3 ∨ t = 4 ∨ t = 5 ∨ t = 6 ∨ t = 7 ∨ t = 8 ∨ t = 9 ∨ t = 10 := by omega
    rcases hv with rfl | rfl | rfl | rfl | rfl <;> rcases hc with rfl | rfl | rfl | rfl | rfl | rfl | rfl | rfl | rfl | rfl <;> cases x <;> decide
theorem mis_snoc (ds : List FD) (d : FD) (tx : List (Nat × Bool)) : misT (ds ++ [d]) tx = (misT ds tx || tx.any (fun q => q.1 == d.tag && q.2 != d.text)) := by unfold misT; simp
theorem left_snoc (ds : List FD) (d : FD) (tx : List (Nat × Bool)) : left (ds ++ [d]) tx = left ds tx ++ (if inT tx d.tag then [] else [d]) := by
  unfold left
  rw [List.filter_append]
  congr 1
  simp only [List.filter_cons, List.filter_nil]
  cases inT tx d.tag <;> rfl
theorem mis_more {ds : List FD} {tx : List (Nat × Bool)} {j : Nat} (h : misT (ds.take j) tx = true) : misT ds tx = true := by
  unfold misT at h ⊢
  obtain ⟨d, hd, hx⟩ := List.any_eq_true.1 h
  exact List.any_eq_true.2 ⟨d, List.mem_of_mem_take hd, hx⟩
end Go.Proofs.YtkdpingniohfhaaDoor
