/-
  Frames with their places in memory: the row, and each frame's bytes in memory of their own; what a round of a loop over the scan keeps. No condition.
-/
import Derived.Test.YtffhejaeliphcaaDoorMPp
import Derived.Test.YtffhejaeliphcaaDoorMRng
import Derived.Test.YtffhejaeliphcaaDoorMFd
namespace Go.Proofs.YtffhejaeliphcaaDoor
open Go.RowKit
set_option linter.unusedVariables false

/-- A frame that was found, with its bytes' slice. -/
structure It where
  q : Pc
  a : Option Addr
  c : Nat
def It.fr (x : It) : Value := .agg #[.int .i64 (x.q.f.kind : Int), .int .i64 (x.q.f.seq : Int), .slice x.a x.q.f.body.length x.c]
def It.cells (x : It) : List Value := [.int .i64 (x.q.at' : Int), .int .i64 (x.q.size : Int), .int .i64 (x.q.f.kind : Int), .int .i64 (x.q.f.seq : Int), .slice x.a x.q.f.body.length x.c]

theorem own_on {W W' : World} {lo : Nat} {e : TypeId} {size : Nat} {v : Value} {n : Nat} {xs : List Value} (h : W.ownsRow lo e size v n xs)
    (hk : ∀ g cs, v.ownBlock = some g → lo ≤ g → W.heap[g]? = some (.cells cs e (0, 0)) → W'.heap[g]? = some (.cells cs e (0, 0))) : W'.ownsRow lo e size v n xs := by
  obtain ⟨h1, h2⟩ := h
  refine ⟨h1, ?_⟩
  rcases h2 with h2 | ⟨g, cap, cur, rfl, hb, hg, h3⟩
  · exact .inl h2
  · exact .inr ⟨g, cap, cur, rfl, hb, hk g cur rfl hb hg, h3⟩

/-- The body lies in memory of its own, from a block on. -/
def BodyAt (lo : Nat) (x : It) (W : World) : Prop := W.ownsRow lo 5 1 (.slice x.a x.q.f.body.length x.c) x.q.f.body.length (x.q.f.body.map B)
def Bodies (lo : Nat) (xs : List It) (W : World) : Prop := ∀ x ∈ xs, BodyAt lo x W

/-- A block of bytes, or a variable that holds a slice of bytes. -/
def byteish : Obj → Bool
  | .cells _ t _ => t == 5 || t == 22
  | _ => false
/-- What a round keeps. -/
structure KeepB (n₀ : Nat) (W W' : World) : Prop where
  below : Below n₀ W W'
  same : ∀ (k : Nat) (o : Obj), W.heap[k]? = some o → byteish o = true → W'.heap[k]? = some o
theorem KeepB.refl (n₀ : Nat) (W : World) : KeepB n₀ W W := ⟨Below.refl _ _, fun _ _ h _ => h⟩
theorem KeepB.trans {n₀ : Nat} {X Y Z : World} (h : KeepB n₀ X Y) (k : KeepB n₀ Y Z) : KeepB n₀ X Z := ⟨h.below.trans k.below, fun i o hi ho => k.same i o (h.same i o hi ho) ho⟩
theorem KeepB.of {n₀ : Nat} {W W' : World} {row : Option Nat} (hg : W.grownBy W' row) (hn : n₀ ≤ W.heap.size) (hr : ∀ j, row = some j → n₀ ≤ j ∧ ∀ (o : Obj), W.heap[j]? = some o → byteish o = false) : KeepB n₀ W W' :=
  ⟨(Below.refl n₀ W).grown hg hn (fun k e => (hr k e).1), fun k o hk ho => by
    refine (hg.block k (Array.getElem?_eq_some_iff.1 hk).1 fun e => ?_).trans hk
    rw [(hr k e.symm).2 o hk] at ho; cases ho⟩
theorem grown_of_below {W W' : World} (h : Below W.heap.size W W') : W.grownBy W' none := ⟨h.os, h.tape, h.output, h.size, fun k hk _ => h.block k hk⟩
theorem KeepB.calls {n₀ : Nat} {W W' : World} (h : Below W.heap.size W W') (hn : n₀ ≤ W.heap.size) : KeepB n₀ W W' := .of (grown_of_below h) hn (fun j e => by cases e)
theorem keepB_put {n₀ D : Nat} (hn : n₀ ≤ D) (W : World) (l : Nat) (o o' : Obj) (hl : D ≤ l) (h : W.heap[l]? = some o) (hc : o.isCells = false) (_ : o.isWalk = false) : KeepB n₀ W (W.putObj l o') :=
  .of (grownBy_putObj' W l o') (by have := (Array.getElem?_eq_some_iff.1 h).1; omega) (fun j e => by
    cases e
    refine ⟨by omega, fun o2 h2 => ?_⟩
    rw [h] at h2; cases h2
    cases o <;> first | rfl | cases hc)
theorem BodyAt.keep {n₀ lo : Nat} {x : It} {W W' : World} (h : BodyAt lo x W) (hk : KeepB n₀ W W') : BodyAt lo x W' := own_on h fun g cs _ _ hg => hk.same g _ hg (by simp [byteish])
theorem Bodies.keep {n₀ lo : Nat} {xs : List It} {W W' : World} (h : Bodies lo xs W) (hk : KeepB n₀ W W') : Bodies lo xs W' := fun x hx => (h x hx).keep hk
theorem Bodies.put (lo : Nat) (xs : List It) : Cellwise (Bodies lo xs) := fun W r o o' h hr ho x hx => own_on (h x hx) fun g cs _ _ hg => by
  refine (World.putObj_heap_other ?_).trans hg
  rintro rfl
  rw [hr] at hg; cases hg; cases ho
theorem Bodies.nil (lo : Nat) (W : World) : Bodies lo [] W := fun x hx => by cases hx
theorem Bodies.snoc {lo : Nat} {xs : List It} {x : It} {W : World} (h : Bodies lo xs W) (hx : BodyAt lo x W) : Bodies lo (xs ++ [x]) W := fun z hz => by
  rw [List.mem_append, List.mem_singleton] at hz
  rcases hz with hz | rfl
  · exact h z hz
  · exact hx
theorem Bodies.on {lo hi : Nat} {xs : List It} {W W' : World} (h : Bodies lo xs W) (ht : ∀ x ∈ xs, ∀ g, (Value.slice x.a x.q.f.body.length x.c).ownBlock = some g → g < hi)
    (hk : ∀ g, lo ≤ g → g < hi → W'.heap[g]? = W.heap[g]?) : Bodies lo xs W' := fun x hx => own_on (h x hx) fun g cs hg hb hw => (hk g hb (ht x hx g hg)).trans hw

/-- The scan's way of handing out its frames: what a round may know, what it keeps, what is so at the end. -/
def wayE (l : List UInt8) (n₀ lo : Nat) : Way It where
  vals x := #[.int .i64 (x.q.at' : Int), x.fr]
  sees pre x W := Chain l (pre.map It.q) x.q.at' ∧ x.q.at' < l.length ∧ decF (l.drop x.q.at') = (x.q.f, x.q.size, 0) ∧ Bodies lo (pre ++ [x]) W
  keeps := KeepB n₀
  ends xs W := (∃ p e, Chain l (xs.map It.q) p ∧ EndsAt l p e) ∧ Bodies lo xs W
  left pre W := (∃ p, Chain l (pre.map It.q) p) ∧ Bodies lo pre W
theorem wayE_sees {l : List UInt8} {n₀ lo : Nat} (pre : List It) (x : It) : Cellwise ((wayE l n₀ lo).sees pre x) := fun W r o o' h hr ho => ⟨h.1, h.2.1, h.2.2.1, Bodies.put lo _ W r o o' h.2.2.2 hr ho⟩
theorem wayE_ends {l : List UInt8} {n₀ lo : Nat} (xs : List It) : Cellwise ((wayE l n₀ lo).ends xs) := fun W r o o' h hr ho => ⟨h.1, Bodies.put lo _ W r o o' h.2 hr ho⟩
theorem wayE_left {l : List UInt8} {n₀ lo : Nat} (xs : List It) : Cellwise ((wayE l n₀ lo).left xs) := fun W r o o' h hr ho => ⟨h.1, Bodies.put lo _ W r o o' h.2 hr ho⟩
theorem chain_map {l : List UInt8} {pre : List It} {x : It} (h : Chain l (pre.map It.q) x.q.at') (hp : x.q.at' < l.length) (hd : decF (l.drop x.q.at') = (x.q.f, x.q.size, 0)) : Chain l ((pre ++ [x]).map It.q) (x.q.at' + x.q.size) := by
  have := h.snoc hp hd
  rw [List.map_append, List.map_singleton]
  exact this
end Go.Proofs.YtffhejaeliphcaaDoor
