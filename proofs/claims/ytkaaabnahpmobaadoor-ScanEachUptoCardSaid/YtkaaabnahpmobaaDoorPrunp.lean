/-
  What a run of frames is, as data. No condition.
-/
import Derived.Test.YtkaaabnahpmobaaDoorPplain
namespace Go.Proofs.YtkaaabnahpmobaaDoor
open Go.RowKit
set_option linter.unusedVariables false

/-- The events of rising numbers from the first on, moved by d; i of them stand ahead. -/
def runG (first most : Int) (d : Nat) : Nat → List Pc → List Pc
  | _, [] => []
  | i, q :: r => if most ≤ (i : Int) ∨ q.f.kind ≠ 1 ∨ (q.f.seq : Int) ≠ first + (i : Int) then [] else { q with at' := q.at' + d } :: runG first most d (i + 1) r
/-- Where they end. -/
def endG (d : Nat) (ps : List Pc) : Nat := match ps.getLast? with
  | none => d
  | some q => q.at' + q.size
/-- Every Run. -/
def runF (l : List UInt8) (p first most : Int) : List Pc × Nat :=
  if p < 0 ∨ (l.length : Int) < p then ([], 0)
  else (runG first most p.toNat 0 (scanF (l.drop p.toNat)).1, endG p.toNat (runG first most p.toNat 0 (scanF (l.drop p.toNat)).1))

def Pc.move (d : Nat) (q : Pc) : Pc := { q with at' := q.at' + d }
/-- A frame that a run takes in as its i-th. -/
def fits (first most : Int) (i : Nat) (q : Pc) : Prop := (i : Int) < most ∧ q.f.kind = 1 ∧ (q.f.seq : Int) = first + (i : Int)
theorem runG_good {first most : Int} {d : Nat} : ∀ (qs r : List Pc) (i : Nat), (∀ j q, qs[j]? = some q → fits first most (i + j) q) → runG first most d i (qs ++ r) = qs.map (Pc.move d) ++ runG first most d (i + qs.length) r
  | [], r, i, _ => by simp
  | q :: qs, r, i, h => by
    have h0 := h 0 q rfl
    rw [Nat.add_zero] at h0
    obtain ⟨a, b, c⟩ := h0
    have ih := runG_good (d := d) qs r (i + 1) (fun j x hx => by have := h (j + 1) x (by simpa using hx); rwa [show i + (j + 1) = i + 1 + j by omega] at this)
    rw [List.cons_append, runG, if_neg (by omega), ih, List.map_cons, List.length_cons, show i + 1 + qs.length = i + (qs.length + 1) by omega]
    rfl
theorem runG_stop {first most : Int} {d i : Nat} {q : Pc} {r : List Pc} (h : ¬ fits first most i q) : runG first most d i (q :: r) = [] := by
  rw [runG, if_pos]
  unfold fits at h
  omega
theorem runG_full {first most : Int} {d i : Nat} {r : List Pc} (h : most ≤ (i : Int)) : runG first most d i r = [] := by
  cases r with
  | nil => rfl
  | cons q r => rw [runG, if_pos (.inl h)]
theorem runG_nil {first most : Int} {d i : Nat} : runG first most d i [] = [] := rfl
theorem endG_nil (d : Nat) : endG d [] = d := rfl
theorem endG_snoc (d : Nat) (ps : List Pc) (q : Pc) : endG d (ps ++ [q]) = q.at' + q.size := by unfold endG; rw [List.getLast?_append]; simp
end Go.Proofs.YtkaaabnahpmobaaDoor
