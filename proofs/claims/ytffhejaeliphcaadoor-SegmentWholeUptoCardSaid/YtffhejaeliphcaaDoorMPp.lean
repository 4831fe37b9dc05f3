/-
  Frames behind one another, as data: what a scan finds. No condition.
  What a run of frames is, as data. No condition.
-/
import Derived.Test.YtffhejaeliphcaaDoorMFb
namespace Go.Proofs.YtffhejaeliphcaaDoor
open Go.RowKit
set_option linter.unusedVariables false

/-- A frame with its place. -/
structure Pc where
  at' : Nat
  size : Nat
  f : Fr
deriving DecidableEq

/-- From a place on, with so much fuel: the frames, where they end, why there. -/
def scanG (l : List UInt8) : Nat → Nat → List Pc × Nat × Nat
  | 0, p => ([], p, 0)
  | k + 1, p =>
    if l.length ≤ p then ([], p, 0)
    else if (decF (l.drop p)).2.2 ≠ 0 then ([], p, (decF (l.drop p)).2.2)
    else (⟨p, (decF (l.drop p)).2.1, (decF (l.drop p)).1⟩ :: (scanG l k (p + (decF (l.drop p)).2.1)).1, (scanG l k (p + (decF (l.drop p)).2.1)).2)
def scanF (l : List UInt8) : List Pc × Nat × Nat := scanG l (l.length + 1) 0

/-- These frames stand from the beginning, up to a place. -/
inductive Chain (l : List UInt8) : List Pc → Nat → Prop
  | nil : Chain l [] 0
  | snoc {ps : List Pc} {p : Nat} {f : Fr} {n : Nat} : Chain l ps p → p < l.length → decF (l.drop p) = (f, n, 0) → Chain l (ps ++ [⟨p, n, f⟩]) (p + n)

/-- What a frame that was found is like. -/
structure Pc.ok (l : List UInt8) (q : Pc) : Prop where
  k1 : 1 ≤ q.f.kind
  k7 : q.f.kind ≤ 7
  seq : q.f.seq ≤ 1099511627776
  body : q.f.body.length ≤ 16384
  size : q.size = 20 + q.f.body.length
  fits : q.at' + q.size ≤ l.length
theorem pc_ok {l : List UInt8} {p n : Nat} {f : Fr} (hp : p ≤ l.length) (h : decF (l.drop p) = (f, n, 0)) : Pc.ok l ⟨p, n, f⟩ := by
  obtain ⟨h1, h2, h3, h4, h5, h6, -, -⟩ := decF_one h
  rw [List.length_drop] at h6
  exact ⟨h1, h2, h3, h4, h5, by show p + n ≤ l.length; omega⟩
theorem Chain.le {l : List UInt8} {ps : List Pc} {p : Nat} (h : Chain l ps p) : p ≤ l.length ∧ 20 * ps.length ≤ p := by
  induction h with
  | nil => exact ⟨Nat.zero_le _, Nat.le_refl _⟩
  | snoc hc hp hd ih =>
    have ho := pc_ok (Nat.le_of_lt hp) hd
    have h5 := ho.size
    have h6 := ho.fits
    simp only at h5 h6
    rw [List.length_append, List.length_singleton]
    exact ⟨h6, by omega⟩
theorem Chain.oks {l : List UInt8} {ps : List Pc} {p : Nat} (h : Chain l ps p) : ∀ q ∈ ps, Pc.ok l q := by
  induction h with
  | nil => intro q hq; cases hq
  | snoc hc hp hd ih =>
    intro q hq
    rw [List.mem_append, List.mem_singleton] at hq
    rcases hq with hq | rfl
    · exact ih q hq
    · exact pc_ok (Nat.le_of_lt hp) hd
theorem Chain.grows {l : List UInt8} {ps : List Pc} {p : Nat} (h : Chain l ps p) : ∀ k, scanG l (ps.length + k) 0 = (ps ++ (scanG l k p).1, (scanG l k p).2) := by
  induction h with
  | nil => intro k; simp
  | snoc hc hp hd ih =>
    rename_i ps p f n
    intro k
    rw [List.length_append, List.length_singleton, show ps.length + 1 + k = ps.length + (k + 1) by omega, ih (k + 1)]
    have e : scanG l (k + 1) p = (⟨p, n, f⟩ :: (scanG l k (p + n)).1, (scanG l k (p + n)).2) := by
      rw [scanG, if_neg (by omega), hd]
      simp
    rw [e]
    simp
theorem Chain.sum {l : List UInt8} {ps : List Pc} {p : Nat} (h : Chain l ps p) : p = (ps.map Pc.size).sum := by
  induction h with
  | nil => rfl
  | snoc hc hp hd ih => rw [List.map_append, List.sum_append, ← ih]; simp
theorem Chain.one {l : List UInt8} {ps : List Pc} {p q : Nat} (h : Chain l ps p) (k : Chain l ps q) : p = q := h.sum.trans k.sum.symm
/-- Why a scan ends at a place. -/
def EndsAt (l : List UInt8) (p e : Nat) : Prop := (p = l.length ∧ e = 0) ∨ (p < l.length ∧ (decF (l.drop p)).2.2 = e ∧ e ≠ 0)
theorem scan_is {l : List UInt8} {ps : List Pc} {p e : Nat} (h : Chain l ps p) (he : EndsAt l p e) : scanF l = (ps, p, e) := by
  obtain ⟨h1, h2⟩ := h.le
  obtain ⟨k, hk⟩ : ∃ k, l.length + 1 = ps.length + (k + 1) := ⟨l.length - ps.length, by omega⟩
  unfold scanF
  rw [hk, h.grows (k + 1)]
  have hg : scanG l (k + 1) p = ([], p, e) := by
    rw [scanG]
    rcases he with ⟨h3, h4⟩ | ⟨h3, h4, h5⟩
    · rw [if_pos (by omega), h4]
    · rw [if_neg (by omega), if_pos (by rw [h4]; exact h5), h4]
  rw [hg]
  simp
/-- A chain and its place go on to what the scan finds. -/
theorem Chain.pre {l : List UInt8} {ps : List Pc} {p : Nat} (h : Chain l ps p) : ps <+: (scanF l).1 := by
  obtain ⟨h1, h2⟩ := h.le
  obtain ⟨k, hk⟩ : ∃ k, l.length + 1 = ps.length + (k + 1) := ⟨l.length - ps.length, by omega⟩
  unfold scanF
  rw [hk, h.grows (k + 1)]
  exact List.prefix_append _ _
/-- There is always an end. -/
theorem chain_to (l : List UInt8) : ∀ (k : Nat) (ps : List Pc) (p : Nat), l.length - p ≤ k → Chain l ps p → ∃ qs q e, Chain l qs q ∧ EndsAt l q e ∧ ps <+: qs
  | k, ps, p, hk, h => by
    have hp := h.le.1
    by_cases h1 : p = l.length
    · exact ⟨ps, p, 0, h, .inl ⟨h1, rfl⟩, List.prefix_refl _⟩
    by_cases h2 : (decF (l.drop p)).2.2 = 0
    · have hd : decF (l.drop p) = ((decF (l.drop p)).1, (decF (l.drop p)).2.1, 0) := by rw [← h2]
      have ho := pc_ok hp hd
      have h5 := ho.size
      simp only at h5
      cases k with
      | zero => omega
      | succ k =>
        obtain ⟨qs, q, e, a, b, c⟩ := chain_to l k _ _ (by omega) (h.snoc (by omega) hd)
        exact ⟨qs, q, e, a, b, (List.prefix_append _ _).trans c⟩
    · exact ⟨ps, p, _, h, .inr ⟨by omega, rfl, h2⟩, List.prefix_refl _⟩
theorem scan_chain (l : List UInt8) : Chain l (scanF l).1 (scanF l).2.1 ∧ EndsAt l (scanF l).2.1 (scanF l).2.2 := by
  obtain ⟨qs, q, e, a, b, -⟩ := chain_to l l.length [] 0 (by omega) .nil
  rw [scan_is a b]
  exact ⟨a, b⟩
end Go.Proofs.YtffhejaeliphcaaDoor

namespace Go.Proofs.YtffhejaeliphcaaDoor
open Go.RowKit
set_option linter.unusedVariables false

/-- The events of rising numbers from the first on, moved by d; i of them stand ahead. -/
def runG (first most : Int) (d : Nat) : Nat → List Pc → List Pc
  | _, [] => []
  | i, q :: r => if most ≤ (i : Int) ∨ q.f.kind ≠ 1 ∨ (q.f.seq : Int) ≠ first + (i : Int) then [] else { q with at' := q.at' + d } :: runG first most d (i + 1) r
/-- Where they end. -/
def endG (d : Nat) (ps : List Pc) : Nat := match ps.getLast? with
  | none => d
  | some q => q.at' + q.size
/-- Every Run. -/
def runF (l : List UInt8) (p first most : Int) : List Pc × Nat :=
  if p < 0 ∨ (l.length : Int) < p then ([], 0)
  else (runG first most p.toNat 0 (scanF (l.drop p.toNat)).1, endG p.toNat (runG first most p.toNat 0 (scanF (l.drop p.toNat)).1))

def Pc.move (d : Nat) (q : Pc) : Pc := { q with at' := q.at' + d }
/-- A frame that a run takes in as its i-th. -/
def fits (first most : Int) (i : Nat) (q : Pc) : Prop := (i : Int) < most ∧ q.f.kind = 1 ∧ (q.f.seq : Int) = first + (i : Int)
theorem runG_good {first most : Int} {d : Nat} : ∀ (qs r : List Pc) (i : Nat), (∀ j q, qs[j]? = some q → fits first most (i + j) q) → runG first most d i (qs ++ r) = qs.map (Pc.move d) ++ runG first most d (i + qs.length) r
  | [], r, i, _ => by simp
  | q :: qs, r, i, h => by
    have h0 := h 0 q rfl
    rw [Nat.add_zero] at h0
    obtain ⟨a, b, c⟩ := h0
    have ih := runG_good (d := d) qs r (i + 1) (fun j x hx => by have := h (j + 1) x (by simpa using hx); rwa [show i + (j + 1) = i + 1 + j by omega] at this)
    rw [List.cons_append, runG, if_neg (by omega), ih, List.map_cons, List.length_cons, show i + 1 + qs.length = i + (qs.length + 1) by omega]
    rfl
theorem runG_stop {first most : Int} {d i : Nat} {q : Pc} {r : List Pc} (h : ¬ fits first most i q) : runG first most d i (q :: r) = [] := by
  rw [runG, if_pos]
  unfold fits at h
  omega
theorem runG_full {first most : Int} {d i : Nat} {r : List Pc} (h : most ≤ (i : Int)) : runG first most d i r = [] := by
  cases r with
  | nil => rfl
  | cons q r => rw [runG, if_pos (.inl h)]
theorem runG_nil {first most : Int} {d i : Nat} : runG first most d i [] = [] := rfl
theorem endG_nil (d : Nat) : endG d [] = d := rfl
theorem endG_snoc (d : Nat) (ps : List Pc) (q : Pc) : endG d (ps ++ [q]) = q.at' + q.size := by unfold endG; rw [List.getLast?_append]; simp
end Go.Proofs.YtffhejaeliphcaaDoor
