/-
  What the script of digests keeps from step to step: two digests, two texts that the call owns, a copy: all in blocks of their own. No condition.
-/
import Derived.Test.YtdcifghlgeiobaaDoorCdig
namespace Go.Proofs.YtdcifghlgeiobaaDoor
open Go.RowKit
set_option linter.unusedVariables false

theorem DigAt.lt {w : World} {D s n : Nat} (h : DigAt w D s n) : D < w.heap.size := by obtain ⟨t, h⟩ := h; exact lt_of_block h
theorem DigAt.kept {w w' : World} {D s n : Nat} {row : Option Nat} (h : DigAt w D s n) (hg : w.grownBy w' row) (hne : row ≠ some D) : DigAt w' D s n := by
  have hl := h.lt
  obtain ⟨t, h⟩ := h
  exact ⟨t, by rw [hg.block D hl (fun e => hne e.symm)]; exact h⟩
theorem DigAt.same {w : World} {D s n s' n' : Nat} (h : DigAt w D s n) (hs : s = s') (hn : n = n') : DigAt w D s' n' := by subst hs hn; exact h

structure St (w0 w : World) (D F : Nat) (x y : Value) (X Y : List UInt8) : Prop where
  ox : w.ownsRow w0.heap.size 5 1 x X.length (X.map B)
  oy : w.ownsRow w0.heap.size 5 1 y Y.length (Y.map B)
  ne : Ne2 x y
  dD : DigAt w D (sumN 0 X) X.length
  dF : DigAt w F (sumN 0 Y) Y.length
  xD : x.ownBlock ≠ some D
  xF : x.ownBlock ≠ some F
  yD : y.ownBlock ≠ some D
  yF : y.ownBlock ≠ some F
  DF : D ≠ F
  D0 : w0.heap.size ≤ D
  F0 : w0.heap.size ≤ F
  bl : Below w0.heap.size w0 w

structure Ap (D F : Nat) (x y c : Value) : Prop where
  cx : Ne2 c x
  cy : Ne2 c y
  cD : c.ownBlock ≠ some D
  cF : c.ownBlock ≠ some F

variable {w0 w w' w2 w3 : World} {D F : Nat} {x y x' c : Value} {X Y l : List UInt8}

theorem St.swap (S : St w0 w D F x y X Y) : St w0 w F D y x Y X := ⟨S.oy, S.ox, S.ne.symm, S.dF, S.dD, S.yF, S.yD, S.xF, S.xD, S.DF.symm, S.F0, S.D0, S.bl⟩
theorem Ap.swap (A : Ap D F x y c) : Ap F D y x c := ⟨A.cy, A.cx, A.cF, A.cD⟩

theorem kept_ne {b : Nat} {e : TypeId} {n : Nat} {v : Value} {vs : List Value} {row : Option Nat} (h : w.ownsRow b e 1 v n vs) (hg : w.grownBy w' row) (hne : ∀ k, v.ownBlock = some k → row ≠ some k) : w'.ownsRow b e 1 v n vs := by
  refine h.kept hg ?_
  cases hv : v.ownBlock with
  | none => exact .inl rfl
  | some k => exact .inr fun e => hne k hv e.symm

/-- A write into a block that is none of theirs. -/
theorem St.other {row : Option Nat} (S : St w0 w D F x y X Y) (hg : w.grownBy w' row) (hx : ∀ k, x.ownBlock = some k → row ≠ some k) (hy : ∀ k, y.ownBlock = some k → row ≠ some k) (hD : row ≠ some D) (hF : row ≠ some F)
    (h0 : ∀ k, row = some k → w0.heap.size ≤ k) : St w0 w' D F x y X Y :=
  ⟨kept_ne S.ox hg hx, kept_ne S.oy hg hy, S.ne, S.dD.kept hg hD, S.dF.kept hg hF, S.xD, S.xF, S.yD, S.yF, S.DF, S.D0, S.F0, S.bl.grown hg S.bl.size h0⟩

theorem below_grown (h : Below w.heap.size w w') : w.grownBy w' none := ⟨h.os, h.tape, h.output, h.size, fun i hi _ => h.block i hi⟩

theorem St.next (S : St w0 w D F x y X Y) (h : Below w.heap.size w w') : St w0 w' D F x y X Y :=
  S.other (below_grown h) (fun _ _ => by simp) (fun _ _ => by simp) (by simp) (by simp) (fun _ h => by cases h)

/-- The copy lies in a block of its own. -/
theorem St.apart {b : Nat} {n : Nat} {e : TypeId} {vs : List Value} (S : St w0 w D F x y X Y) (oc : w'.ownsRow b e 1 c n vs) (hb : w.heap.size ≤ b) : Ap D F x y c := by
  refine ⟨(ne_later S.ox oc hb).symm, (ne_later S.oy oc hb).symm, fun h => ?_, fun h => ?_⟩
  · have := (oc.lt D h).1; have := S.dD.lt; omega
  · have := (oc.lt F h).1; have := S.dF.lt; omega

/-- The first digest begun anew. -/
theorem St.reset (S : St w0 w D F x y X Y) (hd : DigAt w' D 0 0) (hg : w.grownBy w' (some D)) : St w0 w' D F (.slice none 0 0) y [] Y := by
  have hF : some D ≠ some F := fun e => S.DF (Option.some.inj e)
  have hsum : sumN 0 ([] : List UInt8) = 0 := by decide
  refine ⟨⟨rfl, .inl ⟨rfl, rfl⟩⟩, kept_ne S.oy hg (fun k hk e => S.yD (by rw [hk, e])), (fun k hk => by cases hk), hd.same hsum.symm rfl, S.dF.kept hg hF, (fun h => by cases h), (fun h => by cases h), S.yD, S.yF, S.DF, S.D0, S.F0, ?_⟩
  exact S.bl.grown hg S.bl.size (fun k hk => by cases hk; exact S.D0)

/-- Bytes put behind those of the first digest and of its text. -/
theorem St.add {n : Nat} (S : St w0 w D F x y X Y) (hd : DigAt w2 D (sumN (sumN 0 X) l) (X.length + n)) (hg : w.grownBy w2 (some D)) (hl : l.length = n)
    (ho : w3.ownsRow w0.heap.size 5 1 x' (X.length + n) (X.map B ++ l.map B)) (hg2 : w2.grownBy w3 x.ownBlock) (hn : NewOr w2 x x') : St w0 w3 D F x' y (X ++ l) Y := by
  subst hl
  have hF : some D ≠ some F := fun e => S.DF (Option.some.inj e)
  have oy2 := kept_ne S.oy hg (fun k hk e => S.yD (by rw [hk, e]))
  have ox2 := kept_ne S.ox hg (fun k hk e => S.xD (by rw [hk, e]))
  have dF2 := S.dF.kept hg hF
  have hb2 : Below w0.heap.size w0 w2 := S.bl.grown hg S.bl.size (fun k hk => by cases hk; exact S.D0)
  have oy3 : w3.ownsRow w0.heap.size 5 1 y Y.length (Y.map B) := own_ne oy2 hg2 S.ne
  refine ⟨by simpa using ho, oy3, ne_new hn S.ne (fun k hk => (oy2.lt k hk).2), ?_, dF2.kept hg2 S.xF, ?_, ?_, S.yD, S.yF, S.DF, S.D0, S.F0, ?_⟩
  · exact (hd.kept hg2 S.xD).same (sumN_append 0 X l (by decide)) (by simp)
  · intro h
    rcases hn D h with h1 | h1
    · exact S.xD h1
    · have := hd.lt; omega
  · intro h
    rcases hn F h with h1 | h1
    · exact S.xF h1
    · have := dF2.lt; omega
  · exact hb2.grown hg2 hb2.size (fun k hk => (ox2.lt k hk).1)

/-- The copy stays, and stays apart. -/
theorem Ap.add {b n : Nat} {e : TypeId} {vs : List Value} (A : Ap D F x y c) (oc : w.ownsRow b e 1 c n vs) (hg : w.grownBy w2 (some D)) (hg2 : w2.grownBy w3 x.ownBlock) (hn : NewOr w2 x x') :
    w3.ownsRow b e 1 c n vs ∧ Ap D F x' y c := by
  have oc2 := kept_ne oc hg (fun k hk e => A.cD (by rw [hk, e]))
  exact ⟨own_ne oc2 hg2 A.cx.symm, (ne_new hn A.cx.symm (fun k hk => (oc2.lt k hk).2)).symm, A.cy, A.cD, A.cF⟩

theorem Ap.reset {b n : Nat} {e : TypeId} {vs : List Value} (A : Ap D F x y c) (oc : w.ownsRow b e 1 c n vs) (hg : w.grownBy w' (some D)) :
    w'.ownsRow b e 1 c n vs ∧ Ap D F (.slice none 0 0) y c :=
  ⟨kept_ne oc hg (fun k hk e => A.cD (by rw [hk, e])), ⟨(fun k _ h => by cases h), A.cy, A.cD, A.cF⟩⟩
end Go.Proofs.YtdcifghlgeiobaaDoor
