/-
  The walk of scan.Each, and what walks over it share: frames found, in memory of their own; appends to a row in a variable. Conditions: those that each line names.
-/
import Derived.Test.YtffhejaeliphcaaDoorMPeach
import Derived.Test.YtffhejaeliphcaaDoorMPplaced
import Derived.RangeFuncBox
import Derived.Sort.QuietIn
namespace Go.Proofs.YtffhejaeliphcaaDoor
open Go.RowKit Go.Shelf
set_option linter.unusedVariables false
attribute [local go_sem] Oper.semAt_some

theorem seach_any (a : Option Addr) (n c : Nat) (w : World) : Calls Tryd.prog 59 #[.slice a n c] w fun e w' =>
    e = .returned (.func (.func 74) #[] #[.pointer (some ⟨w.heap.size, 0, none⟩)]) ∧ w' = w.alloc (.cells #[.slice a n c] 22) := by
  go_enter Tryd.func59, Tryd.ntmps59
  go_wp2_with fail
  go_ret
  exact ⟨rfl, rfl⟩

theorem slPl : SlTy Tryd.prog 28 55 5 56 (.agg #[.int .i64 0, .int .i64 0, .int .i64 0, .int .i64 0, .slice none 0 0]) := slTy_mk Tryd.underlying28 (by kernel_rfl) rfl (by decide) (by decide)
theorem wpListIn_app1 {F : Fence} {n : Nat} {P : Program} {w : World} {ops : Array Oper} {rest : List Oper} {o : Oper} {act : Act} {Q : Exit → Act → World → Prop} (hgd : o.guard = none) (s x : Operand) (t : TypeId)
    (ho : o.op = .call { callee := .builtin .append, args := #[s, x], argTypes := #[t, t] }) {e : TypeId} {size bytes : Nat} {z : Value} (hT : SlTy P t e size bytes z)
    {base : Nat} {a : Option Addr} {k cap : Nat} {xs : List Value} (hs : act.eval s = .slice a k cap) (hown : w.ownsRow base e size (.slice a k cap) k xs)
    {sa : Option Addr} {m sc : Nat} {news : List Value} (hx : act.eval x = .slice sa m sc) (hsrc : RowAt w sa m sc size news) (h1 : ∀ u ∈ news, u.oneCell' = true)
    (hbytes : (k + m) * bytes ≤ 140737488355328) (hbase : base ≤ w.heap.size)
    (h : ∀ a' cap' w', w'.ownsRow base e size (.slice a' (k + m) cap') (k + m) (xs ++ news) → w.grownBy w' (Value.slice a k cap).ownBlock →
      wpListIn F n P ops Q rest (act.put o.dst (.slice a' (k + m) cap')) w') : wpListIn F n P ops Q (o :: rest) act w := by
  refine wpListIn_plain hgd fun K hK => ?_
  obtain ⟨a', cap', w', hr, h2, h3, _⟩ := run_app (P := P) (w := w) (t := t) (ty := o.type) hT hown hsrc h1 hbytes hbase
  unfold Oper.wpIn
  refine ⟨?_, ?_⟩
  · simp [Oper.about, ho, resolve, Target.leads, Sem.run_pure]
  · rw [Oper.semAt_plain F _ _ (by rw [ho]; intro c hc'; cases hc')]
    simp [execOp, ho, resolve, invoke, builtin, hs, hx, hr, Result.andThen]
    exact hK _ _ (h a' cap' w' h2 h3)

/-- Frames in memory of their own, found in these bytes. -/
def PlsAt (lo : Nat) (v : Value) (xs : List It) (W : World) : Prop := W.ownsRow lo 55 5 v xs.length (xs.flatMap It.cells) ∧ Bodies lo xs W
def GivesPs (w : World) (x : List Pc × Nat × Nat) (e : Ending) (w' : World) : Prop :=
  ∃ xs a cap, xs.map It.q = x.1 ∧ e = .returned (.tuple #[.slice a xs.length cap, .int .i64 (x.2.1 : Int), .int .i64 (x.2.2 : Int)]) ∧ PlsAt w.heap.size (.slice a xs.length cap) xs w' ∧ Below w.heap.size w w'

/-- Behind an append to a variable's row: the variable, another variable and a block beside. -/
theorem after_app {wb w4 : World} {n0 B1 B2 Bp : Nat} {v v' u : Value} {k k' : Nat} {xs ys : List Value} {cs : Array Value} (h1 : Boxed wb B1 28 v) (h2 : Boxed wb B2 3 u) (hp : wb.heap[Bp]? = some (.cells cs 55 (0, 0)))
    (hr : wb.ownsRow n0 55 5 v k xs) (hne : v.ownBlock ≠ some Bp) (hg : wb.grownBy w4 v.ownBlock) (ho : w4.ownsRow n0 55 5 v' k' ys) (h12 : B1 ≠ B2) (h1p : B1 ≠ Bp) :
    Boxed w4 B1 28 v ∧ Boxed (w4.setCell ⟨B1, 0, none⟩ v') B1 28 v' ∧ Boxed (w4.setCell ⟨B1, 0, none⟩ v') B2 3 u ∧ (w4.setCell ⟨B1, 0, none⟩ v').heap[Bp]? = some (.cells cs 55 (0, 0)) ∧ (w4.setCell ⟨B1, 0, none⟩ v').ownsRow n0 55 5 v' k' ys := by
  have a1 : Boxed w4 B1 28 v := h1.kept hg (h1.not_row (by decide) hr)
  have a2 : Boxed w4 B2 3 u := h2.kept hg (h2.not_row (by decide) hr)
  have ap : w4.heap[Bp]? = some (.cells cs 55 (0, 0)) := (hg.block _ (lt_of_block hp) (Ne.symm hne)).trans hp
  have gs := grownBy_setCell' w4 B1 v'
  refine ⟨a1, a1.set v', a2.kept gs (by simp; omega), (gs.block _ (lt_of_block ap) (by simp; omega)).trans ap, own_on ho fun g cs' _ _ hc => (gs.block _ (lt_of_block hc) ?_).trans hc⟩
  intro e
  obtain rfl : g = B1 := by simpa using e
  rw [show w4.heap[g]? = _ from a1] at hc
  simp at hc

/-- What such a round has kept. -/
theorem app_keeps {W wb w4 : World} {n0 B B1 B2 : Nat} {v v' u u' : Value} {k : Nat} {xs : List Value} (hbb : Below W.heap.size W wb) (hn : n0 ≤ W.heap.size) (hr : wb.ownsRow n0 55 5 v k xs) (hg : wb.grownBy w4 v.ownBlock)
    (h1 : Boxed w4 B1 28 v) (h2 : Boxed (w4.setCell ⟨B1, 0, none⟩ v') B2 3 u) (b1 : n0 ≤ B1) (b2 : n0 ≤ B2) :
    KeepsFrom B W ((w4.setCell ⟨B1, 0, none⟩ v').setCell ⟨B2, 0, none⟩ u') ∧ KeepB n0 W ((w4.setCell ⟨B1, 0, none⟩ v').setCell ⟨B2, 0, none⟩ u') := by
  have hrow : ∀ (j : Nat) (o : Obj), v.ownBlock = some j → wb.heap[j]? = some o → n0 ≤ j ∧ o.isCells = true ∧ byteish o = false := fun j o ej hj => by
    rcases hr.2 with ⟨rfl, _⟩ | ⟨g, cap, cur, rfl, hb, hgb, _⟩
    · simp [Value.ownBlock] at ej
    · obtain rfl : g = j := by simpa [Value.ownBlock] using ej
      rw [hgb] at hj; cases hj
      exact ⟨hb, rfl, rfl⟩
  constructor
  · exact ((((KeepsFrom.of_grownBy (B := B) (grown_of_below hbb) (fun j e => by cases e)).trans ((KeepsOthers.of_grownBy hg fun j o ej hj => (hrow j o ej hj).2.1).from B)).trans ((KeepsOthers.setCell _ _ _).from B)).trans ((KeepsOthers.setCell _ _ _).from B))
  · refine (((KeepB.calls hbb hn).trans (KeepB.of hg (Nat.le_trans hn hbb.size) fun j e => ⟨?_, fun o ho => (hrow j o e ho).2.2⟩)).trans (KeepB.of (grownBy_setCell' w4 B1 v') (Nat.le_trans hn (Nat.le_trans hbb.size hg.size)) fun j e => ?_)).trans (KeepB.of (grownBy_setCell' _ B2 u') (Nat.le_trans b2 (Nat.le_of_lt h2.lt)) fun j e => ?_)
    · rcases hr.2 with ⟨rfl, _⟩ | ⟨g, cap, cur, rfl, hb, hgb, _⟩
      · simp [Value.ownBlock] at e
      · obtain rfl : g = j := by simpa [Value.ownBlock] using e
        exact hb
    · cases e
      refine ⟨b1, fun o ho => ?_⟩
      rw [show w4.heap[B1]? = _ from h1] at ho; cases ho; rfl
    · cases e
      refine ⟨b2, fun o ho => ?_⟩
      rw [show (w4.setCell ⟨B1, 0, none⟩ v').heap[B2]? = _ from h2] at ho; cases ho; rfl
theorem It.cells_is {l : List UInt8} {x : It} (h : Pc.ok l x.q) : It.cells x = [.int .i64 (x.q.at' : Int), .int .i64 (20 + (x.q.f.body.length : Int)), .int .i64 (x.q.f.kind : Int), .int .i64 (x.q.f.seq : Int), .slice x.a x.q.f.body.length x.c] := by
  unfold It.cells
  rw [h.size]
  simp

/-- At the function's end: a draw or more, and the block of the rounds' deferred calls shut. -/
theorem end_cells {W : World} {D q : Nat} {ds : Option (List Deferred)} (hK : W.heap[D]? = some (.deferred ds)) (g : Nat) (cs : Array Value) (t : TypeId) (hc : W.heap[g]? = some (.cells cs t (0, 0))) : ((W.drewN q).putObj D (.deferred none)).heap[g]? = some (.cells cs t (0, 0)) := by
  refine (World.putObj_heap_other ?_).trans hc
  rintro rfl
  rw [hK] at hc; cases hc
theorem end_below {w W : World} {D q : Nat} {ds : Option (List Deferred)} (hb : Below w.heap.size w W) (hD : w.heap.size ≤ D) (hK : W.heap[D]? = some (.deferred ds)) : Below w.heap.size w ((W.drewN q).putObj D (.deferred none)) :=
  hb.trans ((Below.trans (b := W.drewN q) ⟨rfl, rfl, rfl, Nat.le_refl _, fun _ _ => rfl⟩ ((Below.refl _ _).grown (grownBy_putObj' (W.drewN q) D _) hb.size (fun k e => by cases e; exact hD))))
theorem PlsAt.end {n0 lo : Nat} {v : Value} {xs : List It} {W : World} {D q : Nat} {ds : Option (List Deferred)} (hr : W.ownsRow n0 55 5 v xs.length (xs.flatMap It.cells)) (hb : Bodies lo xs W) (hn : n0 ≤ lo) (hK : W.heap[D]? = some (.deferred ds)) : PlsAt n0 v xs ((W.drewN q).putObj D (.deferred none)) :=
  ⟨own_on hr fun g cs _ _ hc => end_cells hK g cs _ hc, fun x hx => own_mono (own_on (hb x hx) fun g cs _ _ hc => end_cells hK g cs _ hc) hn⟩
end Go.Proofs.YtffhejaeliphcaaDoor
