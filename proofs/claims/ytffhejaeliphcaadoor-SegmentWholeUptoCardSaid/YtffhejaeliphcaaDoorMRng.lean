/-
  A range over a function whose iterator hands new memory to its rounds: what the iterator and the rounds tell each other, both ways, and the law of the statement, out of the base law. No condition.
-/
import Derived.RangeFuncNested
import Derived.RangeFuncBound
import Derived.RangeFuncCalls
import Derived.RangeFuncLeaves
namespace Go.Proofs.YtffhejaeliphcaaDoor
open Go.RowKit
set_option linter.unusedVariables false

section law
variable {F : Fence} {n : Nat} {P : Program}

/-- The loop's record in a state, with a jump that waits. -/
def loopRec (fn : FuncId) (tmps : Array Value) (ps : Array Tmp) (assign body : Code) (d : Nat) (s : LoopState) (j : Option Code) : Loop :=
  { state := s, pending := j, fn := fn, tmps := tmps, params := ps, assign := assign, body := body, defers := d }
/-- The two blocks that the statement keeps for itself. -/
def TwoB (d l : Nat) (r : Loop) (W : World) : Prop := W.heap[l]? = some (.loop r) ∧ W.heap[d]? = some (.deferred (some []))
theorem TwoB.step {d l : Nat} {r : Loop} {W W' : World} (h : TwoB d l r W) (hk : ∀ k o, d ≤ k → W.heap[k]? = some o → o.isCells = false → o.isWalk = false → W'.heap[k]? = some o) (hd : d ≤ l) : TwoB d l r W' :=
  ⟨hk _ _ hd h.1 rfl rfl, hk _ _ (Nat.le_refl _) h.2 rfl rfl⟩
theorem TwoB.put {d l : Nat} {r : Loop} {W : World} (h : TwoB d l r W) (hd : d < l) (r' : Loop) : TwoB d l r' (W.putObj l (.loop r')) :=
  ⟨World.putObj_heap_same (Array.getElem?_eq_some_iff.1 h.1).1, (World.putObj_heap_other (by omega)).trans h.2⟩

/-- How a round's body is left: what the round says of the world, by the jump that waits. -/
def leftBy (R : Option Code → World → Prop) : Exit → Act → World → Prop
  | .normal, _, W => R none W
  | .ret, _, W => R (some .ret) W
  | .exit id, _, W => R (some (.exit id)) W
  | .goto t, _, W => R (some (.goto t)) W
  | .panic _, _, _ => False
  | .outgrown, _, _ => False

theorem oneRound {l d : Nat} {fn : FuncId} {tmps : Array Value} {ps : Array Tmp} {assign body : Code} {m : Nat} {W : World} {xs : Array Value} {R : Option Code → World → Prop} (hF : F.fn fn) (hd : d < l)
    (hT : TwoB d l (loopRec fn tmps ps assign body d .ready none) W) (hx : xs.size = ps.size)
    (h : assign.wpIn (F.inRound l) m P (Exit.then (fun a₁ W₁ => TwoB d l (loopRec fn tmps ps assign body d .ready none) W₁ ∧
        body.wpIn (F.inRound l) m P (leftBy fun j W₂ => TwoB d l (loopRec fn tmps ps assign body d .busy none) W₂ ∧ R j W₂) a₁ (W₁.putObj l (.loop (loopRec fn tmps ps assign body d .busy none)))) (fun _ _ _ => False))
      { tmps := (ps.zip xs).foldl (fun t (p, v) => t.setIfInBounds p v) tmps, defers := [] } W) :
    YieldAt F m P l xs W fun e W' => ∃ j W₂, e = .returned (.bool j.isNone) ∧ R j W₂ ∧ TwoB d l (loopRec fn tmps ps assign body d .busy none) W₂ ∧ W' = W₂.putObj l (.loop (loopRec fn tmps ps assign body d (if j.isNone then .ready else .done) j)) := by
  have fin : ∀ (j : Option Code) (W₂ : World), TwoB d l (loopRec fn tmps ps assign body d .busy none) W₂ ∧ R j W₂ → ∃ v w', (Instr.endRound l j).run P W₂ = .ok v w' ∧
      ∃ j' W₃, Ending.returned v = .returned (.bool j'.isNone) ∧ R j' W₃ ∧ TwoB d l (loopRec fn tmps ps assign body d .busy none) W₃ ∧ w' = W₃.putObj l (.loop (loopRec fn tmps ps assign body d (if j'.isNone then .ready else .done) j')) :=
    fun j W₂ hq => ⟨_, _, run_endRound j hq.1.1, j, W₂, rfl, hq.2, hq.1, rfl⟩
  refine ⟨fn, _, assign, body, run_yield hT.1 hx, roundIn_of_wpIn hF (wpIn_mono h ?_)⟩
  rintro e a₁ W₁ hq
  cases e <;> first | exact hq.elim | skip
  refine ⟨_, run_beginRound hq.1.1 rfl, wpIn_mono hq.2 ?_⟩
  rintro e₂ a₂ W₂ hq₂
  cases e₂ <;> first | exact hq₂.elim | exact fin _ W₂ hq₂

/-- What an iterator hands and says: the values of an x; what a round may know when it is handed x, others having come; what a round keeps; what is so when all have come, when a round has left. -/
structure Way (α : Type) where
  vals : α → Array Value
  sees : List α → α → World → Prop
  keeps : World → World → Prop
  ends : List α → World → Prop
  left : List α → World → Prop

/-- What speaks of no block but cells abides that any other is turned. -/
def Cellwise (X : World → Prop) : Prop := ∀ W r o o', X W → W.heap[r]? = some o → o.isCells = false → X (W.putObj r o')

/-- The iterator's contract. -/
def GoesBy {α : Type} (F : Fence) (n : Nat) (P : Program) (g : Nat) (lb : Array Value) (y : Way α) (w : World) : Prop :=
  ∀ (l : Nat) (J Jx : List α → World → Prop) (W : World), Below w.heap.size w W → (∀ s A B, J s A → A.grownBy B none → J s B) → (∀ s A B, Jx s A → A.grownBy B none → Jx s B) →
    (∀ pre x W₁, J pre W₁ → y.sees pre x W₁ → YieldAt F (n - 1) P l (y.vals x) W₁ fun e W' =>
      (e = .returned (.bool true) ∧ J (pre ++ [x]) W' ∧ y.keeps W₁ W') ∨ (e = .returned (.bool false) ∧ Jx (pre ++ [x]) W' ∧ y.keeps W₁ W')) →
    J [] W →
    CallsIn F n P g (#[.func (.yield l) #[] #[]] ++ lb) W fun e W' => (∃ v, e = .returned v) ∧ ((∃ xs, y.ends xs W' ∧ J xs W') ∨ (∃ pre, y.left pre W' ∧ Jx pre W'))

/-- What a round's body owes, by how it is left. -/
def owes {α : Type} (B : Nat) (y : Way α) (I : List α → World → Prop) (Ix : Code → List α → World → Prop) (xs : List α) (W : World) (j : Option Code) (W' : World) : Prop :=
  KeepsFrom B W W' ∧ y.keeps W W' ∧ (match j with | none => I xs W' | some c => Ix c xs W')

theorem rangeBy {α : Type} {g : Operand} {ps : Array Tmp} {assign body : Code} {Q : Exit → Act → World → Prop} {a : Act} {w w0 : World} {y : Way α}
    (hro : F.round = none) (h1 : 1 ≤ n) {gf : Nat} {lb : Array Value} (hg : a.eval g = .func (.func gf) #[] lb) (hFg : F.fn gf) (eg : ∀ args w, (callFunc gf args).run P w = .ok (.enter gf args) w)
    (hgo : GoesBy F (n - 1) P gf lb y w0) (hb0 : Below w0.heap.size w0 w) (hps : ∀ x, (y.vals x).size = ps.size)
    (ktr : ∀ {A B C : World}, y.keeps A B → y.keeps B C → y.keeps A C) (kput : ∀ (W : World) (l : Nat) (o o' : Obj), w.heap.size ≤ l → W.heap[l]? = some o → o.isCells = false → o.isWalk = false → y.keeps W (W.putObj l o'))
    (cs : ∀ pre x, Cellwise (y.sees pre x)) (ce : ∀ xs, Cellwise (y.ends xs)) (cl : ∀ xs, Cellwise (y.left xs))
    (I : List α → World → Prop) (Ix : Code → List α → World → Prop) (hI : OwnFrom w.heap.size I) (hIx : ∀ c, OwnFrom w.heap.size (Ix c)) (h0 : I [] w)
    (Ax : α → Act → World → Prop) (hAx : ∀ x a', OwnFrom w.heap.size (fun (_ : Unit) W => Ax x a' W))
    (hassign : ∀ (l : Nat) (pre : List α) (x : α) (W : World) (K : Act → World → Prop), I pre W → y.sees pre x W → (∀ a' W', KeepsFrom w.heap.size W W' → y.keeps W W' → I pre W' → y.sees pre x W' → Ax x a' W' → K a' W') →
      assign.wpIn (F.inRound l) (n - 1 - 1) P (Exit.then K (fun _ _ _ => False)) { tmps := (ps.zip (y.vals x)).foldl (fun t (p, v) => t.setIfInBounds p v) a.tmps, defers := [] } W)
    (hbody : ∀ (l : Nat) (pre : List α) (x : α) (a' : Act) (W : World), w.heap.size ≤ l → I pre W → y.sees pre x W → Ax x a' W → body.wpIn (F.inRound l) (n - 1 - 1) P (leftBy (owes w.heap.size y I Ix (pre ++ [x]) W)) a' W)
    (hdone : ∀ (D : Nat) (xs : List α) (W : World), w.heap.size ≤ D → y.ends xs W → I xs W → W.heap[D]? = some (.deferred (some [])) → Q .normal { a with defers := { target := .collected D, args := #[] } :: a.defers } W)
    (hstop : ∀ (D : Nat) (c : Code) (pre : List α) (W : World), w.heap.size ≤ D → y.left pre W → Ix c pre W → W.heap[D]? = some (.deferred (some [])) → c.wpIn F n P Q { a with defers := { target := .collected D, args := #[] } :: a.defers } W) :
    (Code.rangeFunc g ps assign body).wpIn F n P Q a w := by
  refine wpIn_rangeFunc fun fn hfn => ?_
  rw [hro]
  have hnew : ∃ W1, (w.alloc (.deferred (some []))).alloc (.loop (loopRec fn a.tmps ps assign body w.heap.size .ready none)) = W1 ∧ TwoB w.heap.size (w.heap.size + 1) (loopRec fn a.tmps ps assign body w.heap.size .ready none) W1 ∧ I [] W1 ∧ Below w.heap.size w W1 := by
    refine ⟨_, rfl, ⟨?_, ?_⟩, hI.alloc _ (hI.alloc _ h0), ((Below.refl _ w).alloc (Nat.le_refl _) _).alloc (by simp) _⟩
    · have e := World.alloc_heap_new (w.alloc (.deferred (some []))) (.loop (loopRec fn a.tmps ps assign body w.heap.size .ready none))
      rwa [World.size_alloc] at e
    · exact (Below.heap_alloc _ _ _ (by simp)).trans (World.alloc_heap_new w _)
  obtain ⟨W1, eW, hT1, hI1, hB1⟩ := hnew
  refine ⟨w.heap.size + 1, [{ target := .collected w.heap.size, args := #[] }], W1, { target := .fn (.func gf) lb, args := #[.func (.yield (w.heap.size + 1)) #[] #[]] }, W1, gf, #[.func (.yield (w.heap.size + 1)) #[] #[]] ++ lb, W1, ?_, ?_, ?_, ?_, fun _ => h1, ?_⟩
  · rw [← eW]; exact run_enterLoop_outer _ _ _ _ _
  · simp only [resolve, hg]
    simp [go_sem]
  · rintro f' hf'
    obtain rfl : gf = f' := by simpa [Target.leads] using hf'
    exact hFg
  · simp [invoke, go_sem, eg]
  have grow2 : ∀ (r : Loop) (A B : World), TwoB w.heap.size (w.heap.size + 1) r A → A.grownBy B none → TwoB w.heap.size (w.heap.size + 1) r B := fun r A B hT hg' =>
    hT.step (fun k o _ hk _ _ => (hg'.block k (Array.getElem?_eq_some_iff.1 hk).1 (by simp)).trans hk) (Nat.le_succ _)
  refine (hgo (w.heap.size + 1)
    (fun pre W => I pre W ∧ TwoB w.heap.size (w.heap.size + 1) (loopRec fn a.tmps ps assign body w.heap.size .ready none) W)
    (fun pre W => ∃ c, Ix c pre W ∧ TwoB w.heap.size (w.heap.size + 1) (loopRec fn a.tmps ps assign body w.heap.size .done (some c)) W)
    W1 (hb0.trans (hB1.mono hb0.size))
    (fun s A B hs hg' => ⟨hI s A B none hs.1 hg' (fun r e => by cases e), grow2 _ A B hs.2 hg'⟩)
    (fun s A B hs hg' => by
      obtain ⟨c, h, hT⟩ := hs
      exact ⟨c, hIx c s A B none h hg' (fun r e => by cases e), grow2 _ A B hT hg'⟩)
    ?_ ⟨hI1, hT1⟩).mono ?_
  · rintro pre x W ⟨hi, hT⟩ hs
    refine (oneRound (R := fun j W₂ => y.keeps W W₂ ∧ (match j with | none => I (pre ++ [x]) W₂ | some c => Ix c (pre ++ [x]) W₂)) hfn (Nat.lt_succ_self _) hT (hps x) (hassign _ pre x W _ hi hs ?_)).mono ?_
    · rintro a' W' hk hky hi' hs' ha'
      have hT' := hT.step (W' := W') (fun k o hB hk' ho _ => hk.same k o hB hk' ho) (Nat.le_succ _)
      have hTb := hT'.put (Nat.lt_succ_self _) (loopRec fn a.tmps ps assign body w.heap.size .busy none)
      refine ⟨hT', wpIn_mono (hbody _ pre x a' _ (Nat.le_succ _) (hI.putObj _ hi' (Nat.le_succ _) hT'.1 rfl) (cs pre x _ _ _ _ hs' hT'.1 rfl) ((hAx x a').putObj (s := ()) _ ha' (Nat.le_succ _) hT'.1 rfl)) ?_⟩
      have fin : ∀ (j : Option Code) (W₂ : World), owes w.heap.size y I Ix (pre ++ [x]) (W'.putObj (w.heap.size + 1) (.loop (loopRec fn a.tmps ps assign body w.heap.size .busy none))) j W₂ →
          TwoB w.heap.size (w.heap.size + 1) (loopRec fn a.tmps ps assign body w.heap.size .busy none) W₂ ∧ y.keeps W W₂ ∧ (match j with | none => I (pre ++ [x]) W₂ | some c => Ix c (pre ++ [x]) W₂) := fun j W₂ hq =>
        ⟨hTb.step (fun k o hB hk' ho _ => hq.1.same k o hB hk' ho) (Nat.le_succ _), ktr (ktr hky (kput _ _ _ _ (Nat.le_succ _) hT'.1 rfl rfl)) hq.2.1, hq.2.2⟩
      rintro e a₂ W₂ hq
      cases e with
      | normal => exact fin none W₂ hq
      | ret => exact fin (some .ret) W₂ hq
      | exit id => exact fin (some (.exit id)) W₂ hq
      | goto t => exact fin (some (.goto t)) W₂ hq
      | panic ch => exact hq.elim
      | outgrown => exact hq.elim
    · rintro e W' ⟨j, W₂, rfl, ⟨hky, hj⟩, hT₂, rfl⟩
      have hky' := ktr hky (kput W₂ (w.heap.size + 1) _ (.loop (loopRec fn a.tmps ps assign body w.heap.size (if j.isNone then .ready else .done) j)) (Nat.le_succ _) hT₂.1 rfl rfl)
      have hT₃ := hT₂.put (Nat.lt_succ_self _) (loopRec fn a.tmps ps assign body w.heap.size (if j.isNone then .ready else .done) j)
      cases j with
      | none => exact .inl ⟨rfl, ⟨hI.putObj _ hj (Nat.le_succ _) hT₂.1 rfl, hT₃⟩, hky'⟩
      | some c => exact .inr ⟨rfl, ⟨c, (hIx c).putObj _ hj (Nat.le_succ _) hT₂.1 rfl, hT₃⟩, hky'⟩
  · rintro e W2 ⟨⟨v, rfl⟩, (⟨xs, he, hi, hT⟩ | ⟨pre, hl, c, hi, hT⟩)⟩
    · exact ⟨none, _, run_endLoop hT.1 (by simp [loopRec]), hdone _ xs _ (Nat.le_refl _) (ce xs _ _ _ _ he hT.1 rfl) (hI.putObj _ hi (Nat.le_succ _) hT.1 rfl) ((World.putObj_heap_other (by omega)).trans hT.2)⟩
    · exact ⟨some c, _, run_endLoop hT.1 (by simp [loopRec]), hstop _ c pre _ (Nat.le_refl _) (cl pre _ _ _ _ hl hT.1 rfl) ((hIx c).putObj _ hi (Nat.le_succ _) hT.1 rfl) ((World.putObj_heap_other (by omega)).trans hT.2)⟩
end law
end Go.Proofs.YtffhejaeliphcaaDoor
