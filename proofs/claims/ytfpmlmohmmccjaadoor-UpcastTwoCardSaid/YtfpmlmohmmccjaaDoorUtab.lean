/-
  The table by which the reference looks at an event, and that it says what chk says. No condition.
-/
import Derived.Test.YtfpmlmohmmccjaaDoorUplain
namespace Go.Proofs.YtfpmlmohmmccjaaDoor
open Go.RowKit
set_option linter.unusedVariables false

def hasV (v : Int) : Int := if v = 1 then 5 else if v = 2 then 6 else if v = 3 then 7 else if v = 4 then 8 else 10
def numAt (e : Ev) : Nat → Int
  | 1 => e.kind | 2 => e.order | 3 => e.item | 4 => e.qty | 5 => e.price | 6 => e.cur | 7 => e.tax | 9 => e.stamp | _ => 0
def lowAt (v : Int) : Nat → Int
  | 1 => 1 | 2 => 1 | 4 => if v < 3 then -10000 else 0 | _ => 0
def highAt (v : Int) : Nat → Int
  | 1 => 10 | 2 => 1099511627776 | 3 => 65535 | 4 => 10000 | 5 => if v = 1 then 1000000 else 100000000 | 6 => 3 | 7 => 5000 | 9 => 1099511627776 | _ => 0
def arr11 (f : Nat → Int) : Array Value := #[.int .i64 (f 0), .int .i64 (f 1), .int .i64 (f 2), .int .i64 (f 3), .int .i64 (f 4), .int .i64 (f 5), .int .i64 (f 6), .int .i64 (f 7), .int .i64 (f 8), .int .i64 (f 9), .int .i64 (f 10)]
theorem arr11_at (f : Nat → Int) : ∀ (j : Nat), j < 11 → (arr11 f)[j]? = some (.int .i64 (f j))
  | 0, _ => rfl | 1, _ => rfl | 2, _ => rfl | 3, _ => rfl | 4, _ => rfl | 5, _ => rfl | 6, _ => rfl | 7, _ => rfl | 8, _ => rfl | 9, _ => rfl | 10, _ => rfl
  | n + 11, h => absurd h (by omega)
/-- A number of an event is as the table says. -/
def okAt (v : Int) (e : Ev) (t : Nat) : Prop := (hasV v < t → numAt e t = 0) ∧ lowAt v t ≤ numAt e t ∧ numAt e t ≤ highAt v t
/-- All of them, and the texts. -/
def allOk (v : Int) (e : Ev) : Prop := (∀ t : Nat, 1 ≤ t → t < 11 → okAt v e t)
theorem allOk_all {v : Int} {e : Ev} : allOk v e ↔ (okAt v e 1 ∧ okAt v e 2 ∧ okAt v e 3 ∧ okAt v e 4 ∧ okAt v e 5 ∧ okAt v e 6 ∧ okAt v e 7 ∧ okAt v e 8 ∧ okAt v e 9 ∧ okAt v e 10) := by
  constructor
  · intro h
    exact ⟨h 1 (by omega) (by omega), h 2 (by omega) (by omega), h 3 (by omega) (by omega), h 4 (by omega) (by omega), h 5 (by omega) (by omega), h 6 (by omega) (by omega), h 7 (by omega) (by omega), h 8 (by omega) (by omega), h 9 (by omega) (by omega), h 10 (by omega) (by omega)⟩
  · rintro ⟨h1, h2, h3, h4, h5, h6, h7, h8, h9, h10⟩ t ht1 ht
    match t, ht1, ht with
    | 1, _, _ => exact h1
    | 2, _, _ => exact h2
    | 3, _, _ => exact h3
    | 4, _, _ => exact h4
    | 5, _, _ => exact h5
    | 6, _, _ => exact h6
    | 7, _, _ => exact h7
    | 8, _, _ => exact h8
    | 9, _, _ => exact h9
    | 10, _, _ => exact h10
    | n + 11, _, h => exact absurd h (by omega)

theorem plainB_nil {u : ByteArray} (h : u.size = 0) : plainB u = true := by rw [bytes_nil h]; rfl

theorem fit_iff (v : Int) (e : Ev) (h1 : 1 ≤ v) (h5 : v ≤ 5) (k1 : ¬ e.kind < 1) (kl : e.kind ≤ lastK v) : ((e.fitB v && e.bareB v) = true) ↔ (allOk v e ∧ (v < 4 → e.who.size = 0) ∧ (v < 5 → e.note.size = 0) ∧ plainB e.who = true) := by
  rw [allOk_all]
  have hc : v = 1 ∨ v = 2 ∨ v = 3 ∨ v = 4 ∨ v = 5 := by omega
  rcases hc with rfl | rfl | rfl | rfl | rfl
  all_goals
    simp [lastK] at kl
    simp [Ev.fitB, Ev.bareB, Ev.fit5, Ev.fit4, Ev.fit3, Ev.fit2, Ev.fit1, coreB, wi, okAt, hasV, lowAt, highAt, numAt]
    constructor
    · intro h
      obtain ⟨h, h'⟩ := h
      first
        | (refine ⟨by omega, ?_⟩; simp_all <;> first | rfl | omega)
        | (refine ⟨by omega, by omega, ?_⟩; simp_all <;> first | rfl | omega)
        | (simp_all <;> first | rfl | omega)
    · intro h
      obtain ⟨h, h'⟩ := h
      simp_all <;> omega

/-- What the reference may say of an event whose kind and texts are in their bounds. -/
structure Says (v : Int) (e : Ev) : Prop where
  good : allOk v e → (v < 4 → e.who.size = 0) → (v < 5 → e.note.size = 0) → plainB e.who = true → chk v e = 0
  badT : ∀ t, 1 ≤ t → t < 11 → ¬ okAt v e t → chk v e = 32
  badU : v < 4 → e.who.size ≠ 0 → chk v e = 32
  badN : v < 5 → e.note.size ≠ 0 → chk v e = 32
  badP : plainB e.who = false → chk v e = 32
theorem says (v : Int) (e : Ev) (h1 : 1 ≤ v) (h5 : v ≤ 5) (k1 : ¬ e.kind < 1) (kl : e.kind ≤ lastK v) (hu : e.who.size ≤ 16) (hn : e.note.size ≤ 120) : Says v e := by
  have hi := fit_iff v e h1 h5 k1 kl
  have hc := chk_in h1 h5 k1 kl hu hn
  have hno : ¬ (allOk v e ∧ (v < 4 → e.who.size = 0) ∧ (v < 5 → e.note.size = 0) ∧ plainB e.who = true) → chk v e = 32 := fun h => by
    rw [hc, if_neg (fun hh => h (hi.mp hh))]
  exact { good := fun a b c d => by rw [hc, if_pos (hi.mpr ⟨a, b, c, d⟩)], badT := fun t a b c => hno (fun h => c (h.1 t a b)), badU := fun a b => hno (fun h => b (h.2.1 a)), badN := fun a b => hno (fun h => b (h.2.2.1 a)), badP := fun a => hno (fun h => by rw [a] at h; exact absurd h.2.2.2 (by decide)) }
end Go.Proofs.YtfpmlmohmmccjaaDoor
