/-
  What a right event of a version is, and that each step brings a right event of the next version. No condition.
-/
import Derived.Test.YtfpmlmohmmccjaaDoorUtab
import Derived.Test.YtfpmlmohmmccjaaDoorUtax
namespace Go.Proofs.YtfpmlmohmmccjaaDoor
open Go.RowKit
set_option linter.unusedVariables false

/-- A right event of a version. -/
structure Right (v : Int) (e : Ev) : Prop where
  v1 : 1 ≤ v
  v5 : v ≤ 5
  k1 : 1 ≤ e.kind
  kl : e.kind ≤ lastK v
  us : e.who.size ≤ 16
  ns : e.note.size ≤ 120
  o : 1 ≤ e.order ∧ e.order ≤ 1099511627776
  i : 0 ≤ e.item ∧ e.item ≤ 65535
  q : -10000 ≤ e.qty ∧ e.qty ≤ 10000
  q3 : 3 ≤ v → 0 ≤ e.qty
  p : 0 ≤ e.price ∧ e.price ≤ 100000000
  p1 : v = 1 → e.price ≤ 1000000
  c : 0 ≤ e.cur ∧ e.cur ≤ 3
  c1 : v = 1 → e.cur = 0
  t : 0 ≤ e.tax ∧ e.tax ≤ 5000
  t2 : v ≤ 2 → e.tax = 0
  u : plainB e.who = true
  u3 : v ≤ 3 → e.who.size = 0
  s : 0 ≤ e.stamp ∧ e.stamp ≤ 1099511627776
  s4 : v ≤ 4 → e.stamp = 0
  n4 : v ≤ 4 → e.note.size = 0

theorem right_of {v : Int} {e : Ev} (h : chk v e = 0) : Right v e := by
  have hv : ¬ (v < 1 ∨ 5 < v) := fun hn => by rw [chk_none hn] at h; exact absurd h (by decide)
  have h1 : 1 ≤ v := by omega
  have h5 : v ≤ 5 := by omega
  have hk : ¬ e.kind < 1 := fun hn => by rw [chk_low h1 h5 hn] at h; exact absurd h (by decide)
  have hl : ¬ lastK v < e.kind := fun hn => by rw [chk_high h1 h5 hn] at h; exact absurd h (by decide)
  have hs : ¬ (16 < e.who.size ∨ 120 < e.note.size) := fun hn => by rw [chk_who h1 h5 hk (by omega) hn] at h; exact absurd h (by decide)
  rw [chk_in h1 h5 hk (by omega) (by omega) (by omega)] at h
  have hb : (e.fitB v && e.bareB v) = true := by
    by_cases hh : (e.fitB v && e.bareB v) = true
    · exact hh
    · rw [if_neg hh] at h; exact absurd h (by decide)
  rw [fit_iff v e h1 h5 hk (by omega), allOk_all] at hb
  obtain ⟨⟨a1, a2, a3, a4, a5, a6, a7, a8, a9, a10⟩, hw, hn, hp⟩ := hb
  clear h hv
  have hc : v = 1 ∨ v = 2 ∨ v = 3 ∨ v = 4 ∨ v = 5 := by omega
  rcases hc with rfl | rfl | rfl | rfl | rfl
  all_goals
    simp [okAt, hasV, lowAt, highAt, numAt] at a1 a2 a3 a4 a5 a6 a7 a8 a9 a10
    exact { v1 := h1, v5 := h5, k1 := by omega, kl := by omega, us := by omega, ns := by omega, o := by omega, i := by omega, q := by omega, q3 := by omega, p := by omega, p1 := by omega, c := by omega, c1 := by omega, t := by omega, t2 := by omega, u := hp, u3 := fun _ => hw (by omega), s := by omega, s4 := by omega, n4 := fun _ => hn (by omega) }

theorem right_to {v : Int} {e : Ev} (h : Right v e) : chk v e = 0 := by
  obtain ⟨h1, h5, k1, kl, us, ns, o, i, q, q3, p, p1, c, c1, t, t2, u, u3, s, s4, n4⟩ := h
  have hk : ¬ e.kind < 1 := by omega
  rw [chk_in h1 h5 hk kl us ns]
  refine if_pos ?_
  rw [fit_iff v e h1 h5 hk kl, allOk_all]
  refine ⟨?_, fun h => u3 (by omega), fun h => n4 (by omega), u⟩
  clear u u3 n4
  have hc : v = 1 ∨ v = 2 ∨ v = 3 ∨ v = 4 ∨ v = 5 := by omega
  rcases hc with rfl | rfl | rfl | rfl | rfl
  all_goals
    simp [lastK] at kl
    simp [okAt, hasV, lowAt, highAt, numAt]
    omega

theorem taxOf_in (c : Int) : 0 ≤ taxOf c ∧ taxOf c ≤ 5000 := by
  unfold taxOf; split <;> (try split) <;> (try split) <;> decide

theorem up2_kind {e : Ev} (h1 : 1 ≤ e.kind) (h2 : e.kind ≤ 5) : 1 ≤ e.up2.kind ∧ e.up2.kind ≤ 7 := by
  unfold Ev.up2; dsimp only; split <;> omega
theorem up2_qty {e : Ev} (h1 : -10000 ≤ e.qty) (h2 : e.qty ≤ 10000) : 0 ≤ e.up2.qty ∧ e.up2.qty ≤ 10000 := by
  unfold Ev.up2; dsimp only; split
  · split <;> omega
  · omega
theorem up4_kind {e : Ev} (h1 : 1 ≤ e.kind) (h2 : e.kind ≤ 9) : 1 ≤ e.up4.kind ∧ e.up4.kind ≤ 10 := by
  unfold Ev.up4; dsimp only; split <;> omega
theorem up4_item {e : Ev} (h1 : 0 ≤ e.item) (h2 : e.item ≤ 65535) : 0 ≤ e.up4.item ∧ e.up4.item ≤ 65535 := by
  unfold Ev.up4; dsimp only; split <;> omega

theorem right_up {v : Int} {e : Ev} (h : Right v e) (hv : v < 5) : Right (v + 1) (e.up v) := by
  obtain ⟨h1, h5, k1, kl, us, ns, o, i, q, q3, p, p1, c, c1, t, t2, u, u3, s, s4, n4⟩ := h
  have ht := taxOf_in e.cur
  have hc : v = 1 ∨ v = 2 ∨ v = 3 ∨ v = 4 := by omega
  rcases hc with rfl | rfl | rfl | rfl
  · have hE : e.up 1 = e.up1 := rfl
    rw [hE]
    simp [lastK] at kl
    exact { v1 := by omega, v5 := by omega, k1 := k1, kl := by simp [lastK, Ev.up1]; omega, us := us, ns := ns, o := o, i := i, q := q, q3 := fun h => absurd h (by omega), p := by simp [Ev.up1]; omega, p1 := fun h => absurd h (by omega), c := c, c1 := fun h => absurd h (by omega), t := t, t2 := fun _ => t2 (by omega), u := u, u3 := fun _ => u3 (by omega), s := s, s4 := fun _ => s4 (by omega), n4 := fun _ => n4 (by omega) }
  · have hE : e.up 2 = e.up2 := rfl
    rw [hE]
    simp [lastK] at kl
    exact { v1 := by omega, v5 := by omega, k1 := (up2_kind k1 kl).1, kl := by have := (up2_kind k1 kl).2; simp [lastK]; omega, us := us, ns := ns, o := o, i := i, q := by have := up2_qty q.1 q.2; omega, q3 := fun _ => (up2_qty q.1 q.2).1, p := p, p1 := fun h => absurd h (by omega), c := c, c1 := fun h => absurd h (by omega), t := ht, t2 := fun h => absurd h (by omega), u := u, u3 := fun _ => u3 (by omega), s := s, s4 := fun _ => s4 (by omega), n4 := fun _ => n4 (by omega) }
  · have hE : e.up 3 = e.up3 := rfl
    rw [hE]
    simp [lastK] at kl
    exact { v1 := by omega, v5 := by omega, k1 := k1, kl := by simp [lastK, Ev.up3]; omega, us := by show (3 : Nat) ≤ 16; decide, ns := ns, o := o, i := i, q := q, q3 := fun _ => q3 (by omega), p := p, p1 := fun h => absurd h (by omega), c := c, c1 := fun h => absurd h (by omega), t := t, t2 := fun h => absurd h (by omega), u := (by decide : plainB ⟨#[111, 108, 100]⟩ = true), u3 := fun h => absurd h (by omega), s := s, s4 := fun _ => s4 (by omega), n4 := fun _ => n4 (by omega) }
  · have hE : e.up 4 = e.up4 := rfl
    rw [hE]
    simp [lastK] at kl
    exact { v1 := by omega, v5 := by omega, k1 := (up4_kind k1 kl).1, kl := by have := (up4_kind k1 kl).2; simp [lastK]; omega, us := us, ns := ns, o := o, i := up4_item i.1 i.2, q := q, q3 := fun _ => q3 (by omega), p := p, p1 := fun h => absurd h (by omega), c := c, c1 := fun h => absurd h (by omega), t := t, t2 := fun h => absurd h (by omega), u := u, u3 := fun h => absurd h (by omega), s := s, s4 := fun h => absurd h (by omega), n4 := fun h => absurd h (by omega) }

/-- Step after step. -/
def Ev.steps : Nat → Int → Ev → Ev
  | 0, _, e => e
  | n + 1, v, e => Ev.steps n (v + 1) (e.up v)
theorem steps_succ (n : Nat) (v : Int) (e : Ev) : Ev.steps (n + 1) v e = (Ev.steps n v e).up (v + n) := by
  induction n generalizing v e with
  | zero => simp [Ev.steps]
  | succ n ih =>
    show Ev.steps (n + 1) (v + 1) (e.up v) = _
    rw [ih]
    show _ = (Ev.steps n (v + 1) (e.up v)).up _
    congr 1
    omega
theorem right_steps (n : Nat) {v : Int} {e : Ev} (h : Right v e) (hn : v + n ≤ 5) : Right (v + n) (Ev.steps n v e) := by
  induction n with
  | zero => simpa [Ev.steps] using h
  | succ n ih =>
    rw [steps_succ]
    have := right_up (ih (by omega)) (by omega)
    have he : v + ((n + 1 : Nat) : Int) = v + n + 1 := by omega
    rw [he]; exact this
theorem steps_add (m n : Nat) (v : Int) (e : Ev) : Ev.steps (m + n) v e = Ev.steps n (v + m) (Ev.steps m v e) := by
  induction m generalizing v e with
  | zero => simp [Ev.steps]
  | succ m ih =>
    have : m + 1 + n = (m + n) + 1 := by omega
    rw [this]
    show Ev.steps (m + n) (v + 1) (e.up v) = Ev.steps n _ (Ev.steps m (v + 1) (e.up v))
    rw [ih]
    congr 1
    omega
end Go.Proofs.YtfpmlmohmmccjaaDoor
