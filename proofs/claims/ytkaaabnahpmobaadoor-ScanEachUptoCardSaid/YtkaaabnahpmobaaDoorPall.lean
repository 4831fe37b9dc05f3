/-
  The walks of scan.Each and scan.All. Conditions: the argument reads as bytes, no longer than 2^40; the program's table of nibbles holds what its text lays.
-/
import Derived.Test.YtkaaabnahpmobaaDoorPeach
import Derived.Test.YtkaaabnahpmobaaDoorPplaced
import Derived.RangeFuncBox
import Derived.Sort.QuietIn
namespace Go.Proofs.YtkaaabnahpmobaaDoor
open Go.RowKit Go.Shelf
set_option linter.unusedVariables false
attribute [local go_sem] Oper.semAt_some

theorem seach_any (a : Option Addr) (n c : Nat) (w : World) : Calls Tryd.prog 15 #[.slice a n c] w fun e w' =>
    e = .returned (.func (.func 25) #[] #[.pointer (some ⟨w.heap.size, 0, none⟩)]) ∧ w' = w.alloc (.cells #[.slice a n c] 22) := by
  go_enter Tryd.func15, Tryd.ntmps15
  go_wp2_with fail
  go_ret
  exact ⟨rfl, rfl⟩

theorem slPl : SlTy Tryd.prog 25 36 5 56 (.agg #[.int .i64 0, .int .i64 0, .int .i64 0, .int .i64 0, .slice none 0 0]) := slTy_mk Tryd.underlying25 (by kernel_rfl) rfl (by decide) (by decide)
theorem wpListIn_app1 {F : Fence} {n : Nat} {P : Program} {w : World} {ops : Array Oper} {rest : List Oper} {o : Oper} {act : Act} {Q : Exit → Act → World → Prop} (hgd : o.guard = none) (s x : Operand) (t : TypeId)
    (ho : o.op = .call { callee := .builtin .append, args := #[s, x], argTypes := #[t, t] }) {e : TypeId} {size bytes : Nat} {z : Value} (hT : SlTy P t e size bytes z)
    {base : Nat} {a : Option Addr} {k cap : Nat} {xs : List Value} (hs : act.eval s = .slice a k cap) (hown : w.ownsRow base e size (.slice a k cap) k xs)
    {sa : Option Addr} {m sc : Nat} {news : List Value} (hx : act.eval x = .slice sa m sc) (hsrc : RowAt w sa m sc size news) (h1 : ∀ u ∈ news, u.oneCell' = true)
    (hbytes : (k + m) * bytes ≤ 140737488355328) (hbase : base ≤ w.heap.size)
    (h : ∀ a' cap' w', w'.ownsRow base e size (.slice a' (k + m) cap') (k + m) (xs ++ news) → w.grownBy w' (Value.slice a k cap).ownBlock →
      wpListIn F n P ops Q rest (act.put o.dst (.slice a' (k + m) cap')) w') : wpListIn F n P ops Q (o :: rest) act w := by
  refine wpListIn_plain hgd fun K hK => ?_
  obtain ⟨a', cap', w', hr, h2, h3, _⟩ := run_app (P := P) (w := w) (t := t) (ty := o.type) hT hown hsrc h1 hbytes hbase
  unfold Oper.wpIn
  refine ⟨?_, ?_⟩
  · simp [Oper.about, ho, resolve, Target.leads, Sem.run_pure]
  · rw [Oper.semAt_plain F _ _ (by rw [ho]; intro c hc'; cases hc')]
    simp [execOp, ho, resolve, invoke, builtin, hs, hx, hr, Result.andThen]
    exact hK _ _ (h a' cap' w' h2 h3)

/-- Frames in memory of their own, found in these bytes. -/
def PlsAt (lo : Nat) (v : Value) (xs : List It) (W : World) : Prop := W.ownsRow lo 36 5 v xs.length (xs.flatMap It.cells) ∧ Bodies lo xs W
def GivesPs (w : World) (x : List Pc × Nat × Nat) (e : Ending) (w' : World) : Prop :=
  ∃ xs a cap, xs.map It.q = x.1 ∧ e = .returned (.tuple #[.slice a xs.length cap, .int .i64 (x.2.1 : Int), .int .i64 (x.2.2 : Int)]) ∧ PlsAt w.heap.size (.slice a xs.length cap) xs w' ∧ Below w.heap.size w w'

/-- Behind an append to a variable's row: the variable, another variable and a block beside. -/
theorem after_app {wb w4 : World} {n0 B1 B2 Bp : Nat} {v v' u : Value} {k k' : Nat} {xs ys : List Value} {cs : Array Value} (h1 : Boxed wb B1 25 v) (h2 : Boxed wb B2 3 u) (hp : wb.heap[Bp]? = some (.cells cs 36 (0, 0)))
    (hr : wb.ownsRow n0 36 5 v k xs) (hne : v.ownBlock ≠ some Bp) (hg : wb.grownBy w4 v.ownBlock) (ho : w4.ownsRow n0 36 5 v' k' ys) (h12 : B1 ≠ B2) (h1p : B1 ≠ Bp) :
    Boxed w4 B1 25 v ∧ Boxed (w4.setCell ⟨B1, 0, none⟩ v') B1 25 v' ∧ Boxed (w4.setCell ⟨B1, 0, none⟩ v') B2 3 u ∧ (w4.setCell ⟨B1, 0, none⟩ v').heap[Bp]? = some (.cells cs 36 (0, 0)) ∧ (w4.setCell ⟨B1, 0, none⟩ v').ownsRow n0 36 5 v' k' ys := by
  have a1 : Boxed w4 B1 25 v := h1.kept hg (h1.not_row (by decide) hr)
  have a2 : Boxed w4 B2 3 u := h2.kept hg (h2.not_row (by decide) hr)
  have ap : w4.heap[Bp]? = some (.cells cs 36 (0, 0)) := (hg.block _ (lt_of_block hp) (Ne.symm hne)).trans hp
  have gs := grownBy_setCell' w4 B1 v'
  refine ⟨a1, a1.set v', a2.kept gs (by simp; omega), (gs.block _ (lt_of_block ap) (by simp; omega)).trans ap, own_on ho fun g cs' _ _ hc => (gs.block _ (lt_of_block hc) ?_).trans hc⟩
  intro e
  obtain rfl : g = B1 := by simpa using e
  rw [show w4.heap[g]? = _ from a1] at hc
  simp at hc

/-- What such a round has kept. -/
theorem app_keeps {W wb w4 : World} {n0 B B1 B2 : Nat} {v v' u u' : Value} {k : Nat} {xs : List Value} (hbb : Below W.heap.size W wb) (hn : n0 ≤ W.heap.size) (hr : wb.ownsRow n0 36 5 v k xs) (hg : wb.grownBy w4 v.ownBlock)
    (h1 : Boxed w4 B1 25 v) (h2 : Boxed (w4.setCell ⟨B1, 0, none⟩ v') B2 3 u) (b1 : n0 ≤ B1) (b2 : n0 ≤ B2) :
    KeepsFrom B W ((w4.setCell ⟨B1, 0, none⟩ v').setCell ⟨B2, 0, none⟩ u') ∧ KeepB n0 W ((w4.setCell ⟨B1, 0, none⟩ v').setCell ⟨B2, 0, none⟩ u') := by
  have hrow : ∀ (j : Nat) (o : Obj), v.ownBlock = some j → wb.heap[j]? = some o → n0 ≤ j ∧ o.isCells = true ∧ byteish o = false := fun j o ej hj => by
    rcases hr.2 with ⟨rfl, _⟩ | ⟨g, cap, cur, rfl, hb, hgb, _⟩
    · simp [Value.ownBlock] at ej
    · obtain rfl : g = j := by simpa [Value.ownBlock] using ej
      rw [hgb] at hj; cases hj
      exact ⟨hb, rfl, rfl⟩
  constructor
  · exact ((((KeepsFrom.of_grownBy (B := B) (grown_of_below hbb) (fun j e => by cases e)).trans ((KeepsOthers.of_grownBy hg fun j o ej hj => (hrow j o ej hj).2.1).from B)).trans ((KeepsOthers.setCell _ _ _).from B)).trans ((KeepsOthers.setCell _ _ _).from B))
  · refine (((KeepB.calls hbb hn).trans (KeepB.of hg (Nat.le_trans hn hbb.size) fun j e => ⟨?_, fun o ho => (hrow j o e ho).2.2⟩)).trans (KeepB.of (grownBy_setCell' w4 B1 v') (Nat.le_trans hn (Nat.le_trans hbb.size hg.size)) fun j e => ?_)).trans (KeepB.of (grownBy_setCell' _ B2 u') (Nat.le_trans b2 (Nat.le_of_lt h2.lt)) fun j e => ?_)
    · rcases hr.2 with ⟨rfl, _⟩ | ⟨g, cap, cur, rfl, hb, hgb, _⟩
      · simp [Value.ownBlock] at e
      · obtain rfl : g = j := by simpa [Value.ownBlock] using e
        exact hb
    · cases e
      refine ⟨b1, fun o ho => ?_⟩
      rw [show w4.heap[B1]? = _ from h1] at ho; cases ho; rfl
    · cases e
      refine ⟨b2, fun o ho => ?_⟩
      rw [show (w4.setCell ⟨B1, 0, none⟩ v').heap[B2]? = _ from h2] at ho; cases ho; rfl
theorem It.cells_is {l : List UInt8} {x : It} (h : Pc.ok l x.q) : It.cells x = [.int .i64 (x.q.at' : Int), .int .i64 (20 + (x.q.f.body.length : Int)), .int .i64 (x.q.f.kind : Int), .int .i64 (x.q.f.seq : Int), .slice x.a x.q.f.body.length x.c] := by
  unfold It.cells
  rw [h.size]
  simp

/-- At the function's end: a draw or more, and the block of the rounds' deferred calls shut. -/
theorem end_cells {W : World} {D q : Nat} {ds : Option (List Deferred)} (hK : W.heap[D]? = some (.deferred ds)) (g : Nat) (cs : Array Value) (t : TypeId) (hc : W.heap[g]? = some (.cells cs t (0, 0))) : ((W.drewN q).putObj D (.deferred none)).heap[g]? = some (.cells cs t (0, 0)) := by
  refine (World.putObj_heap_other ?_).trans hc
  rintro rfl
  rw [hK] at hc; cases hc
theorem end_below {w W : World} {D q : Nat} {ds : Option (List Deferred)} (hb : Below w.heap.size w W) (hD : w.heap.size ≤ D) (hK : W.heap[D]? = some (.deferred ds)) : Below w.heap.size w ((W.drewN q).putObj D (.deferred none)) :=
  hb.trans ((Below.trans (b := W.drewN q) ⟨rfl, rfl, rfl, Nat.le_refl _, fun _ _ => rfl⟩ ((Below.refl _ _).grown (grownBy_putObj' (W.drewN q) D _) hb.size (fun k e => by cases e; exact hD))))
theorem PlsAt.end {n0 lo : Nat} {v : Value} {xs : List It} {W : World} {D q : Nat} {ds : Option (List Deferred)} (hr : W.ownsRow n0 36 5 v xs.length (xs.flatMap It.cells)) (hb : Bodies lo xs W) (hn : n0 ≤ lo) (hK : W.heap[D]? = some (.deferred ds)) : PlsAt n0 v xs ((W.drewN q).putObj D (.deferred none)) :=
  ⟨own_on hr fun g cs _ _ hc => end_cells hK g cs _ hc, fun x hx => own_mono (own_on (hb x hx) fun g cs _ _ hc => end_cells hK g cs _ hc) hn⟩

/-- Between two rounds of scan.All: the row and the place lie in their variables. -/
def IAll (w : World) (S : Nat) (l : List UInt8) (pre : List It) (W : World) : Prop :=
  (∃ av cap, Boxed W w.heap.size 25 (.slice av pre.length cap) ∧ W.ownsRow w.heap.size 36 5 (.slice av pre.length cap) pre.length (pre.flatMap It.cells)) ∧
  (∃ p : Nat, Boxed W (w.heap.size + 1) 3 (.int .i64 (p : Int)) ∧ Chain l (pre.map It.q) p) ∧ Below w.heap.size w W ∧ S ≤ W.heap.size
theorem IAll.own {w : World} {S D : Nat} {l : List UInt8} (hD : w.heap.size + 2 ≤ D) : OwnFrom D (IAll w S l) := by
  rintro pre A B row ⟨⟨av, cap, h1, h2⟩, ⟨p, h3, h4⟩, h5, h6⟩ hg hr
  have ne : ∀ b, b < D → some b ≠ row := fun b hb e => by have := (hr b e.symm).1; omega
  refine ⟨⟨av, cap, h1.kept hg (ne _ (by omega)), own_on h2 fun g cs _ _ hc => ?_⟩, ⟨p, h3.kept hg (ne _ (by omega)), h4⟩, h5.grown hg h5.size fun k e => ?_, Nat.le_trans h6 hg.size⟩
  · refine (hg.block g (lt_of_block hc) fun e => ?_).trans hc
    obtain ⟨_, o, ho, hoc⟩ := hr g e.symm
    rw [hc] at ho; cases ho; cases hoc
  · have := (hr k e).1; omega

set_option maxRecDepth 100000 in
set_option maxHeartbeats 4000000 in
theorem sall_any (a : Option Addr) (n c : Nat) (l : List UInt8) (w : World) (hn : n ≤ 1099511627776) (r : RowAt w a n c 1 (l.map B)) (ht : Tab w) :
    Calls Tryd.prog 12 #[.slice a n c] w (GivesPs w (scanF l)) := by
  refine (callsIn_wide (n := 3)).1 ?_
  refine callsIn_of_wp_marks Tryd.func12 rfl trivial ?_ rfl
  simp only [Tryd.ntmps12, List.size_toArray, List.length_cons, List.length_nil, Nat.reduceAdd, Nat.reduceSub, Array.replicate_succ, Array.replicate_zero, List.push_toArray, List.append_toArray, List.nil_append, List.cons_append]
  have h13 : 1 ≤ 3 := by omega
  gi_wp2_with (refine ⟨trivial, ?_⟩; gi_at_call 15; refine (callsIn_wide.2 (seach_any _ _ _ _)).mono ?_; rintro e w' ⟨rfl, rfl⟩)
  have hsz : ((((w.alloc (.cells #[.slice none 0 0] 25)).alloc (.cells #[.int .i64 0] 3)).alloc (.cells #[.slice a n c] 22))).heap.size = w.heap.size + 3 := by simp
  have hB : Below w.heap.size w (((w.alloc (.cells #[.slice none 0 0] 25)).alloc (.cells #[.int .i64 0] 3)).alloc (.cells #[.slice a n c] 22)) := below_next (below_next (below_made w _) (below_made _ _)) (below_made _ _)
  have hv0 : Boxed (((w.alloc (.cells #[.slice none 0 0] 25)).alloc (.cells #[.int .i64 0] 3)).alloc (.cells #[.slice a n c] 22)) w.heap.size 25 (.slice none 0 0) := ((Boxed.new w _ _).alloc _).alloc _
  have hg0 : Boxed (((w.alloc (.cells #[.slice none 0 0] 25)).alloc (.cells #[.int .i64 0] 3)).alloc (.cells #[.slice a n c] 22)) (w.heap.size + 1) 3 (.int .i64 0) := by
    have h := Boxed.new (w.alloc (.cells #[.slice none 0 0] 25)) 3 (.int .i64 0)
    rw [World.size_alloc] at h
    exact h.alloc _
  have hx0 := World.alloc_heap_new ((w.alloc (.cells #[.slice none 0 0] 25)).alloc (.cells #[.int .i64 0] 3)) (.cells #[.slice a n c] 22)
  rw [World.size_alloc, World.size_alloc] at hx0
  obtain ⟨wE, hwE⟩ : ∃ wE, ((w.alloc (.cells #[.slice none 0 0] 25)).alloc (.cells #[.int .i64 0] 3)).alloc (.cells #[.slice a n c] 22) = wE := ⟨_, rfl⟩
  rw [hwE] at hsz hB hv0 hg0 hx0 ⊢
  clear hwE
  refine rangeBy rfl h13 (gf := 25) (lb := #[.pointer (some ⟨w.heap.size + 1 + 1, 0, none⟩)]) rfl trivial (enters_of Tryd.func25 (by kernel_rfl) rfl)
    (each_goes w wE hB (w.heap.size + 1 + 1) a n c l r ht hx0 2 (by omega)) (Below.refl _ _) (fun _ => rfl) (fun h k => KeepB.trans h k) (keepB_put (by omega)) wayE_sees wayE_ends wayE_left
    (IAll w wE.heap.size l)
    (fun _ _ _ => False) ?own (fun _ _ _ _ _ h _ _ => h) ?start
    (fun x a' W => ∃ Bx, wE.heap.size ≤ Bx ∧ W.heap[Bx]? = some (.cells #[.int .i64 (x.q.f.kind : Int), .int .i64 (x.q.f.seq : Int), .slice x.a x.q.f.body.length x.c] 34 (0, 0)) ∧
      a' = { tmps := #[.slice a n c, undef, .slice none 0 0, .int .i64 0, .int .i64 0, .pointer (some ⟨w.heap.size, 0, none⟩), .pointer (some ⟨w.heap.size + 1, 0, none⟩), .int .i64 (x.q.at' : Int), .pointer (some ⟨Bx, 0, none⟩), undef, undef, undef, undef, .slice a n c, .func (.func 25) #[] #[.pointer (some ⟨w.heap.size + 1 + 1, 0, none⟩)], .int .i64 (x.q.at' : Int), x.fr, undef, undef, undef, undef, undef, undef, undef, undef, undef, undef, undef, undef, undef, undef, undef, undef, undef, undef, undef, undef, undef, undef, undef, undef, undef, undef, undef, undef], defers := [] })
    ?ax ?assign ?body ?done (fun _ _ _ _ _ _ h _ => h.elim)
  case own => exact IAll.own (by omega)
  case start => exact ⟨⟨none, 0, hv0, World.ownsRow_nil _ _ _ _⟩, ⟨0, hg0, .nil⟩, hB, Nat.le_refl _⟩
  case ax =>
    rintro x a' s A Bw row ⟨Bx, hBx, hfx, rfl⟩ hg hr
    refine ⟨Bx, hBx, (hg.block _ (lt_of_block hfx) fun e => ?_).trans hfx, rfl⟩
    obtain ⟨_, o, ho, hoc⟩ := hr Bx e.symm
    rw [hfx] at ho; cases ho; cases hoc
  case assign =>
    intro lp pre x W K hi hs hK
    dsimp only [wayE, It.fr]
    gi_wp2
    have hm := below_made W (.cells #[.int .i64 (x.q.f.kind : Int), .int .i64 (x.q.f.seq : Int), .slice x.a x.q.f.body.length x.c] 34)
    have hkb := KeepB.calls hm hi.2.2.1.size
    exact hK _ _ ((KeepsOthers.alloc _ _).from _) hkb (IAll.own (w := w) (S := wE.heap.size) (l := l) (D := wE.heap.size) (by omega) pre _ _ none hi (grown_of_below hm) (fun r e => by cases e)) ⟨hs.1, hs.2.1, hs.2.2.1, hs.2.2.2.keep hkb⟩ ⟨W.heap.size, hi.2.2.2, World.alloc_heap_new _ _, rfl⟩
  case body =>
    rintro lp pre x a' W hl ⟨⟨av, cap, hv, hrow⟩, ⟨p, hg1, hch⟩, hb, hsE⟩ ⟨hc2, hpl, hdec, hbod⟩ ⟨Bx, hBx, hfx, rfl⟩
    have cv := hv.cell
    have fv := hv.frozen
    have cg := hg1.cell
    have fg := hg1.frozen
    have c0 : W.cell? ⟨Bx, 0, none⟩ = some (.int .i64 (x.q.f.kind : Int)) := cell_blk hfx rfl
    have c1 : W.cell? ⟨Bx, 1, none⟩ = some (.int .i64 (x.q.f.seq : Int)) := cell_blk hfx rfl
    have c2 : W.cell? ⟨Bx, 2, none⟩ = some (.slice x.a x.q.f.body.length x.c) := cell_blk hfx rfl
    dsimp only [It.fr]
    have hln : l.length = n := by simpa using r.len
    have hle := hc2.le
    rw [List.length_map] at hle
    have hby : (pre.length + 1) * 56 ≤ 140737488355328 := by omega
    have hlt := hrow.lt
    clear hln hle
    gi_wp2_with (first
      | (refine ⟨trivial, ?_⟩; gi_at_call 23; refine (CallsIn.inRound lp (callsIn_wide.2 (placed_any _ _ _ _ _ _ _ (pc_ok (Nat.le_of_lt hpl) hdec).body))).mono ?_; rintro e w1 ⟨rfl, hb1⟩; have hm2 := below_made w1 (.cells #[.int .i64 (x.q.at' : Int), .int .i64 (20 + (x.q.f.body.length : Int)), .int .i64 (x.q.f.kind : Int), .int .i64 (x.q.f.seq : Int), .slice x.a x.q.f.body.length x.c] 36); have hba := below_next hb1 hm2; have hv2 := hv.kept (grown_of_below hba) (by simp); have cv2 := hv2.cell; have hm3 := below_made (w1.alloc (.cells #[.int .i64 (x.q.at' : Int), .int .i64 (20 + (x.q.f.body.length : Int)), .int .i64 (x.q.f.kind : Int), .int .i64 (x.q.f.seq : Int), .slice x.a x.q.f.body.length x.c] 36)) (.cells #[.int .i64 (x.q.at' : Int), .int .i64 (20 + (x.q.f.body.length : Int)), .int .i64 (x.q.f.kind : Int), .int .i64 (x.q.f.seq : Int), .slice x.a x.q.f.body.length x.c] 36); have hbb := below_next hba hm3; have hv3 := hv.kept (grown_of_below hbb) (by simp); have hg3 := hg1.kept (grown_of_below hbb) (by simp); have hp3 := below_blk2 hm3 (World.alloc_heap_new w1 (.cells #[.int .i64 (x.q.at' : Int), .int .i64 (20 + (x.q.f.body.length : Int)), .int .i64 (x.q.f.kind : Int), .int .i64 (x.q.f.seq : Int), .slice x.a x.q.f.body.length x.c] 36)); have hrow3 := own_below hrow hbb; have hsrc3 := rowAt_lit (w1.alloc (.cells #[.int .i64 (x.q.at' : Int), .int .i64 (20 + (x.q.f.body.length : Int)), .int .i64 (x.q.f.kind : Int), .int .i64 (x.q.f.seq : Int), .slice x.a x.q.f.body.length x.c] 36)) [.int .i64 (x.q.at' : Int), .int .i64 (20 + (x.q.f.body.length : Int)), .int .i64 (x.q.f.kind : Int), .int .i64 (x.q.f.seq : Int), .slice x.a x.q.f.body.length x.c] 1 5 36 rfl (by decide); have hs1 := hb1.size; rw [World.size_alloc] at hsrc3)
      | (gi_at_builtin; refine wpListIn_app1 rfl _ _ 25 rfl slPl rfl hrow3 rfl hsrc3 (by simp [Value.oneCell']) hby (Nat.le_trans hb.size hbb.size) fun a4 c4 w4 hown4 hgr4 => ?_; obtain ⟨k1, k2, k3, k4, k5⟩ := after_app hv3 hg3 hp3 hrow3 (fun e => by have := (hlt _ e).2; omega) hgr4 hown4 (by omega) (by have := hv.lt; omega); have d1 := k1.cell; have d2 := k1.frozen; have d3 := k3.cell; have d4 := k3.frozen; have d5 : _ = some (Value.int .i64 (20 + (x.q.f.body.length : Int))) := cell_blk (j := 1) k4 rfl))
    have hok : Pc.ok l x.q := pc_ok (Nat.le_of_lt hpl) hdec
    have hsz5 := hok.size
    have hfit := hok.fits
    have hln : l.length = n := by simpa using r.len
    obtain ⟨q1, q2⟩ := app_keeps (B := wE.heap.size) (u' := .int .i64 (wrap64 ((x.q.at' : Int) + (20 + (x.q.f.body.length : Int))))) hbb hb.size hrow3 hgr4 k1 k3 (Nat.le_refl _) (Nat.le_succ _)
    have gs := grownBy_setCell' (w4.setCell ⟨w.heap.size, 0, none⟩ (.slice a4 (pre.length + 1) c4)) (w.heap.size + 1) (.int .i64 (wrap64 ((x.q.at' : Int) + (20 + (x.q.f.body.length : Int)))))
    have k5' := own_on (W' := (w4.setCell ⟨w.heap.size, 0, none⟩ (.slice a4 (pre.length + 1) c4)).setCell ⟨w.heap.size + 1, 0, none⟩ (.int .i64 (wrap64 ((x.q.at' : Int) + (20 + (x.q.f.body.length : Int)))))) k5 fun g cs _ _ hc => (gs.block _ (lt_of_block hc) (fun e => by
      obtain rfl : g = w.heap.size + 1 := by simpa using e
      rw [show (w4.setCell _ _).heap[w.heap.size + 1]? = _ from k3] at hc
      simp at hc)).trans hc
    have k2' := k2.kept gs (by simp)
    have k3' := k3.set (.int .i64 (wrap64 ((x.q.at' : Int) + (20 + (x.q.f.body.length : Int)))))
    have hw : wrap64 ((x.q.at' : Int) + (20 + (x.q.f.body.length : Int))) = ((x.q.at' + x.q.size : Nat) : Int) := by unfold wrap64; omega
    rw [hw] at q1 q2 k2' k3' k5' ⊢
    refine ⟨q1, q2, ⟨a4, c4, ?_, ?_⟩, ⟨x.q.at' + x.q.size, k3', chain_map hc2 hpl hdec⟩, hb.trans q2.below, Nat.le_trans hsE q2.below.size⟩
    · rw [List.length_append, List.length_singleton]; exact k2'
    · rw [List.length_append, List.length_singleton, List.flatMap_append, List.flatMap_singleton, It.cells_is hok]; exact k5'
  case done =>
    rintro D xs W hD ⟨⟨p', e, hch, hend⟩, hbod⟩ ⟨⟨av, cap, hv, hrow⟩, ⟨p, hg1, hch2⟩, hb, hsE⟩ hK
    obtain rfl := hch.one hch2
    have hsc := scan_is hch hend
    have HSC := Lib.hid hsc
    have hln : l.length = n := by simpa using r.len
    have hle := hch.le.1
    rw [hln] at hle
    have cv := hv.cell
    have cg := hg1.cell
    clear hsc hch hch2
    rcases hend with ⟨h1, rfl⟩ | ⟨h1, h2, h3⟩
    · obtain rfl : p' = n := by omega
      clear h1 hln
      have hmix : Tryd.prog.follows .mixedOrders = true := by kernel_rfl
      gi_wp2
      gi_quiet (fail)
      all_goals gi_wp2
      unfold GivesPs
      rw [HSC.out]
      refine ⟨by simp, .inl ⟨_, _, rfl, run_takeDeferred (w := W.drewN nq) hK, ?_⟩⟩
      exact ⟨_, results_tmp3 rfl _ _ _, xs, av, cap, rfl, rfl, PlsAt.end hrow hbod (by omega) hK, end_below hb (by omega) hK⟩
    · have hp'n : p' < n := by omega
      obtain ⟨a', hcut, r1⟩ := cut_from slB (r.below hb) p' hle
      rw [Nat.mul_one, ← List.map_drop] at r1
      have hd := fdec_any a' (n - p') (c - p') (l.drop p') W r1 (ht.below hb)
      obtain ⟨y, hy⟩ : ∃ y, decF (l.drop p') = y := ⟨_, rfl⟩
      rw [hy] at hd h2
      obtain ⟨f, k, e'⟩ := y
      obtain rfl : e' = e := h2
      unfold GivesF at hd
      simp only at hd
      have HD := Lib.hid hd
      have hne : ((p' : Int) == (n : Int)) = false := by rw [beq_eq_false_iff_ne]; omega
      have m1 := r.2.2.1
      have m2 := r.2.1
      unfold maxLen at m1
      clear hd hy h1 h3 hln r1
      gi_wp2_with (refine ⟨trivial, ?_⟩; gi_at_call 24; refine (callsIn_wide.2 HD.out).mono ?_; rintro e w1 ⟨ab, cb, rfl, hob, hb1⟩; have hba := below_next hb1 (below_made w1 (.cells #[.int .i64 (f.kind : Int), .int .i64 (f.seq : Int), .slice ab f.body.length cb] 34)); have hv2 := hv.kept (grown_of_below hba) (by simp); have cv2 := hv2.cell; have hg2 := hg1.kept (grown_of_below hba) (by simp); have cg2 := hg2.cell)
      have hK2 := below_blk2 hba hK
      have hrow2 := own_below hrow hba
      have hbod2 := hbod.keep (KeepB.calls (n₀ := w.heap.size) hba hb.size)
      have hb2 := hb.trans (hba.mono hb.size)
      have hmix : Tryd.prog.follows .mixedOrders = true := by kernel_rfl
      gi_quiet (fail)
      all_goals gi_wp2
      unfold GivesPs
      rw [HSC.out]
      refine ⟨by simp, .inl ⟨_, _, rfl, run_takeDeferred hK2, ?_⟩⟩
      exact ⟨_, results_tmp3 rfl _ _ _, xs, av, cap, rfl, rfl, PlsAt.end hrow2 hbod2 (by omega) hK2, end_below hb2 (by omega) hK2⟩
end Go.Proofs.YtkaaabnahpmobaaDoor
