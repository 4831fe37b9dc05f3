/-
  What is wrong with an event of a version, and what each step makes of it, as functions. No condition.
-/
import Derived.Test.YtfpmlmohmmccjaaDoorEv
namespace Go.Proofs.YtfpmlmohmmccjaaDoor
open Go.RowKit
set_option linter.unusedVariables false

def wi (x lo hi : Int) : Bool := decide (lo ≤ x ∧ x ≤ hi)
theorem wi_yes {x lo hi : Int} (h1 : lo ≤ x) (h2 : x ≤ hi) : wi x lo hi = true := decide_eq_true ⟨h1, h2⟩
theorem wi_no {x lo hi : Int} (h : ¬ (lo ≤ x ∧ x ≤ hi)) : wi x lo hi = false := decide_eq_false h
theorem wi_of {x lo hi : Int} (h : wi x lo hi = true) : lo ≤ x ∧ x ≤ hi := of_decide_eq_true h

def coreB (o i q p least dear : Int) : Bool := wi o 1 1099511627776 && (wi i 0 65535 && (wi q least 10000 && wi p 0 dear))
def okc (c : UInt8) : Bool := c == 45 || (decide (48 ≤ c.toNat) && decide (c.toNat ≤ 57)) || (decide (97 ≤ c.toNat) && decide (c.toNat ≤ 122))
def plainB (s : ByteArray) : Bool := s.data.toList.all okc
theorem plainB_yes {s : ByteArray} (h : ∀ i (hi : i < s.size), okc s[i] = true) : plainB s = true := by
  unfold plainB
  rw [List.all_eq_true]
  intro c hc
  obtain ⟨i, hi, rfl⟩ := List.getElem_of_mem hc
  exact h i (by simpa using hi)
theorem plainB_no {s : ByteArray} {i : Nat} (hi : i < s.size) (h : okc s[i] = false) : plainB s = false := by
  unfold plainB
  rw [List.all_eq_false]
  exact ⟨s[i], List.getElem_mem (l := s.data.toList) (by simpa using hi), by simp [h]⟩
theorem okc_yes {c : UInt8} {x : Int} (hx : x = (c.toNat : Int)) (h : x = 45 ∨ (48 ≤ x ∧ x ≤ 57) ∨ (97 ≤ x ∧ x ≤ 122)) : okc c = true := by
  subst hx
  unfold okc
  rcases h with h | h | h
  · have : c = 45 := UInt8.toNat_inj.mp (by show c.toNat = 45; omega)
    subst this; rfl
  · rw [decide_eq_true (by omega : 48 ≤ c.toNat), decide_eq_true (by omega : c.toNat ≤ 57)]; simp
  · rw [decide_eq_true (by omega : 97 ≤ c.toNat), decide_eq_true (by omega : c.toNat ≤ 122)]; simp
theorem okc_no {c : UInt8} {x : Int} (hx : x = (c.toNat : Int)) (h : ¬ (x = 45 ∨ (48 ≤ x ∧ x ≤ 57) ∨ (97 ≤ x ∧ x ≤ 122))) : okc c = false := by
  subst hx
  have h45 : (c == 45) = false := by
    rw [beq_eq_false_iff_ne]; rintro rfl; exact h (.inl rfl)
  unfold okc
  rw [h45]
  simp only [Bool.false_or, Bool.or_eq_false_iff, Bool.and_eq_false_iff, decide_eq_false_iff_not]
  omega

def Ev.fit1 (e : Ev) : Bool := coreB e.order e.item e.qty e.price (-10000) 1000000
def Ev.fit2 (e : Ev) : Bool := coreB e.order e.item e.qty e.price (-10000) 100000000 && wi e.cur 0 3
def Ev.fit3 (e : Ev) : Bool := e.fit2 && (decide (0 ≤ e.qty) && wi e.tax 0 5000)
def Ev.fit4 (e : Ev) : Bool := e.fit3 && plainB e.who
def Ev.fit5 (e : Ev) : Bool := e.fit4 && wi e.stamp 0 1099511627776
def Ev.fitB (v : Int) (e : Ev) : Bool :=
  if v = 1 then e.fit1 else if v = 2 then e.fit2 else if v = 3 then e.fit3 else if v = 4 then e.fit4 else e.fit5
/-- The fields that a version does not have are empty. -/
def Ev.bareB (v : Int) (e : Ev) : Bool :=
  (decide (1 < v) || e.cur == 0) && ((decide (2 < v) || e.tax == 0) && ((decide (3 < v) || e.who.size == 0) && ((decide (4 < v) || e.stamp == 0) && (decide (4 < v) || e.note.size == 0))))
def lastK (v : Int) : Int := if v < 3 then 5 else if v = 3 then 7 else if v = 4 then 9 else 10
/-- What is wrong. -/
def chk (v : Int) (e : Ev) : Int :=
  if v < 1 ∨ 5 < v then 30
  else if e.kind < 1 ∨ lastK v < e.kind then 31
  else if 16 < e.who.size ∨ 120 < e.note.size then 24
  else if e.fitB v && e.bareB v then 0 else 32

section
variable {v : Int} {e : Ev}
theorem chk_low (h1 : 1 ≤ v) (h5 : v ≤ 5) (hk : e.kind < 1) : chk v e = 31 := by
  unfold chk; rw [if_neg (by omega), if_pos (.inl hk)]
theorem chk_high (h1 : 1 ≤ v) (h5 : v ≤ 5) (hk : lastK v < e.kind) : chk v e = 31 := by
  unfold chk; rw [if_neg (by omega), if_pos (.inr hk)]
theorem chk_who (h1 : 1 ≤ v) (h5 : v ≤ 5) (hk : ¬ e.kind < 1) (hl : e.kind ≤ lastK v) (hs : 16 < e.who.size ∨ 120 < e.note.size) : chk v e = 24 := by
  unfold chk; rw [if_neg (by omega), if_neg (by omega), if_pos hs]
theorem chk_in (h1 : 1 ≤ v) (h5 : v ≤ 5) (hk : ¬ e.kind < 1) (hl : e.kind ≤ lastK v) (hs : e.who.size ≤ 16) (hn : e.note.size ≤ 120) : chk v e = if e.fitB v && e.bareB v then 0 else 32 := by
  unfold chk; rw [if_neg (by omega), if_neg (by omega), if_neg (by omega)]
theorem chk_none (h : v < 1 ∨ 5 < v) : chk v e = 30 := by unfold chk; rw [if_pos h]
theorem chk_bad {a b : Bool} (h : a = false ∨ b = false) : (if a && b then (0 : Int) else 32) = 32 := by
  rcases h with h | h <;> subst h <;> simp
theorem chk_good {a b : Bool} (h : a = true) (k : b = true) : (if a && b then (0 : Int) else 32) = 0 := by subst h k; rfl
end
theorem bytes_nil {u : ByteArray} (h : u.size = 0) : u = ⟨#[]⟩ := by
  obtain ⟨⟨l⟩⟩ := u
  have : l = [] := List.eq_nil_of_length_eq_zero h
  subst this; rfl
theorem bytes_ne {u : ByteArray} (h : u.size ≠ 0) : ((ByteArray.mk #[]).toList == u.toList) = false ∧ (u.toList == (ByteArray.mk #[]).toList) = false ∧ ([] == u.toList) = false ∧ (u.toList == []) = false := by
  have hne : u.toList ≠ [] := by
    rw [ByteArray.toList_eq]; intro h2; apply h
    show u.data.size = 0
    rw [← Array.length_toList, h2]; rfl
  have h0 : (ByteArray.mk #[]).toList = [] := by rw [ByteArray.toList_eq]
  rw [h0]
  refine ⟨?_, ?_, ?_, ?_⟩ <;> (rw [beq_eq_false_iff_ne]) <;> first | exact hne | exact fun h => hne h.symm

/-- The word of Check. -/
def GivesC (v : Int) (e : Ev) (w : World) (x : Ending) (w' : World) : Prop := x = .returned (.int .i64 (chk v e)) ∧ Below w.heap.size w w'
end Go.Proofs.YtfpmlmohmmccjaaDoor
