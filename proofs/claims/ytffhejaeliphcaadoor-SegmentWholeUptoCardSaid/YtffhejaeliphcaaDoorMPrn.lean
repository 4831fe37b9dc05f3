/-
  What a walk of scan.Run holds between two rounds, and what its answer is. No condition.
  The walk of scan.Run. Conditions: the first argument reads as bytes, no longer than 2^40; the program's table of nibbles holds what its text lays.
-/
import Derived.Test.YtffhejaeliphcaaDoorMPapp
import Derived.Test.YtffhejaeliphcaaDoorMPp
namespace Go.Proofs.YtffhejaeliphcaaDoor
open Go.RowKit Go.Shelf
set_option linter.unusedVariables false
attribute [local go_sem] Oper.semAt_some

def It.move (d : Nat) (x : It) : It := { x with q := x.q.move d }
def GivesRn (w : World) (x : List Pc × Nat) (e : Ending) (w' : World) : Prop :=
  ∃ xs a cap, xs.map It.q = x.1 ∧ e = .returned (.tuple #[.slice a xs.length cap, .int .i64 (x.2 : Int)]) ∧ PlsAt w.heap.size (.slice a xs.length cap) xs w' ∧ Below w.heap.size w w'

theorem box_new1 (w : World) (o : Obj) (t : TypeId) (v : Value) : Boxed ((w.alloc o).alloc (.cells #[v] t)) (w.heap.size + 1) t v := by
  have h := Boxed.new (w.alloc o) t v
  rwa [World.size_alloc] at h
theorem box_new2 (w : World) (o o2 : Obj) (t : TypeId) (v : Value) : Boxed (((w.alloc o).alloc o2).alloc (.cells #[v] t)) (w.heap.size + 1 + 1) t v := by
  have h := Boxed.new ((w.alloc o).alloc o2) t v
  rwa [World.size_alloc, World.size_alloc] at h
theorem box_new3 (w : World) (o o2 o3 : Obj) (t : TypeId) (v : Value) : Boxed ((((w.alloc o).alloc o2).alloc o3).alloc (.cells #[v] t)) (w.heap.size + 1 + 1 + 1) t v := by
  have h := Boxed.new (((w.alloc o).alloc o2).alloc o3) t v
  rwa [World.size_alloc, World.size_alloc, World.size_alloc] at h
theorem box_new4 (w : World) (o o2 o3 o4 : Obj) (t : TypeId) (v : Value) : Boxed (((((w.alloc o).alloc o2).alloc o3).alloc o4).alloc (.cells #[v] t)) (w.heap.size + 1 + 1 + 1 + 1) t v := by
  have h := Boxed.new ((((w.alloc o).alloc o2).alloc o3).alloc o4) t v
  rwa [World.size_alloc, World.size_alloc, World.size_alloc, World.size_alloc] at h
theorem box_new5 (w : World) (o o2 o3 o4 o5 : Obj) (t : TypeId) (v : Value) : Boxed ((((((w.alloc o).alloc o2).alloc o3).alloc o4).alloc o5).alloc (.cells #[v] t)) (w.heap.size + 1 + 1 + 1 + 1 + 1) t v := by
  have h := Boxed.new (((((w.alloc o).alloc o2).alloc o3).alloc o4).alloc o5) t v
  rwa [World.size_alloc, World.size_alloc, World.size_alloc, World.size_alloc, World.size_alloc] at h

/-- Between two rounds of scan.Run: the row of what is taken, its end, the three arguments in their boxes. -/
structure RunSt (w : World) (S d : Nat) (first most : Int) (ys : List It) (W : World) : Prop where
  row : ∃ av cap, Boxed W (w.heap.size + 1 + 1 + 1) 28 (.slice av ys.length cap) ∧ W.ownsRow w.heap.size 55 5 (.slice av ys.length cap) ys.length (ys.flatMap It.cells)
  stop : Boxed W (w.heap.size + 1 + 1 + 1 + 1) 3 (.int .i64 (endG d (ys.map It.q) : Int))
  at' : Boxed W w.heap.size 3 (.int .i64 (d : Int))
  fst : Boxed W (w.heap.size + 1) 3 (.int .i64 first)
  most : Boxed W (w.heap.size + 1 + 1) 3 (.int .i64 most)
  below : Below w.heap.size w W
  size : S ≤ W.heap.size
theorem RunSt.own {w : World} {S d D : Nat} {first most : Int} (hD : w.heap.size + 5 ≤ D) : OwnFrom D (RunSt w S d first most) := by
  rintro ys A B row ⟨⟨av, cap, h1, h2⟩, h3, h4, h5, h6, h7, h8⟩ hg hr
  have ne : ∀ b, b < D → some b ≠ row := fun b hb e => by have := (hr b e.symm).1; omega
  refine ⟨⟨av, cap, h1.kept hg (ne _ (by omega)), own_on h2 fun g cs _ _ hc => ?_⟩, h3.kept hg (ne _ (by omega)), h4.kept hg (ne _ (by omega)), h5.kept hg (ne _ (by omega)), h6.kept hg (ne _ (by omega)), h7.grown hg h7.size fun k e => ?_, Nat.le_trans h8 hg.size⟩
  · refine (hg.block g (lt_of_block hc) fun e => ?_).trans hc
    obtain ⟨_, o, ho, hoc⟩ := hr g e.symm
    rw [hc] at ho; cases ho; cases hoc
  · have := (hr k e).1; omega
/-- All of them were taken. -/
def Goods (first most : Int) (qs : List Pc) : Prop := ∀ j q, qs[j]? = some q → fits first most (0 + j) q
theorem Goods.snoc {first most : Int} {qs : List Pc} {q : Pc} (h : Goods first most qs) (hq : fits first most qs.length q) : Goods first most (qs ++ [q]) := fun j x hx => by
  by_cases hj : j < qs.length
  · rw [List.getElem?_append_left hj] at hx; exact h j x hx
  · rw [List.getElem?_append_right (by omega)] at hx
    have : j - qs.length = 0 := by
      by_cases e : j - qs.length = 0
      · exact e
      · rw [List.getElem?_eq_none (by simp; omega)] at hx; cases hx
    rw [this] at hx
    simp at hx
    subst hx
    rw [show 0 + j = qs.length by omega]
    exact hq
def IRun (w : World) (S d : Nat) (first most : Int) (pre : List It) (W : World) : Prop := RunSt w S d first most (pre.map (It.move d)) W ∧ Goods first most (pre.map It.q) ∧ (pre.length : Int) < most
def XRun (w : World) (S d : Nat) (first most : Int) (c : Code) (pre : List It) (W : World) : Prop := c = .exit 0 ∧ ∃ k, RunSt w S d first most ((pre.take k).map (It.move d)) W ∧ ∀ r, runG first most d 0 (pre.map It.q ++ r) = ((pre.take k).map (It.move d)).map It.q

theorem take_all (pre : List It) (x : It) : (pre ++ [x]).take pre.length = pre := by simp
theorem run_left {first most : Int} {d : Nat} {pre : List It} {x : It} (hgd : Goods first most (pre.map It.q)) (h : ¬ fits first most pre.length x.q) :
    ∀ r, runG first most d 0 ((pre ++ [x]).map It.q ++ r) = (((pre ++ [x]).take pre.length).map (It.move d)).map It.q := fun r => by
  rw [take_all, List.map_append, List.append_assoc, runG_good _ _ _ hgd, List.map_singleton, List.singleton_append, List.length_map, Nat.zero_add, runG_stop h, List.append_nil, List.map_map, List.map_map]
  rfl
theorem run_full {first most : Int} {d : Nat} {pre : List It} (hgd : Goods first most (pre.map It.q)) (hm : (pre.length : Int) = most) :
    ∀ r, runG first most d 0 (pre.map It.q ++ r) = ((pre.take pre.length).map (It.move d)).map It.q := fun r => by
  rw [runG_good _ _ _ hgd, List.length_map, Nat.zero_add, runG_full (by omega), List.append_nil, List.map_map, List.take_length, List.map_map]
  rfl
theorem bodies_move {lo d k : Nat} {pre : List It} {W : World} (h : Bodies lo pre W) : Bodies lo ((pre.take k).map (It.move d)) W := fun y hy => by
  obtain ⟨x, hx, rfl⟩ := List.mem_map.1 hy
  exact h x (List.mem_of_mem_take hx)

theorem ar_add {d p P : Nat} (h : p + d = P) (hP : P ≤ 1099511627776) : wrap64 ((d : Int) + (p : Int)) = (P : Int) := by unfold wrap64; omega
theorem ar_add2 {P s b : Nat} (hP : P ≤ 1099511627776) (h : s = 20 + b) (hb : b ≤ 16384) : wrap64 ((P : Int) + (20 + (b : Int))) = (P : Int) + (s : Int) := by unfold wrap64; omega
theorem ar_by {n d p k : Nat} (h : p ≤ n - d ∧ 20 * k ≤ p) (hn : n ≤ 1099511627776) : (k + 1) * 56 ≤ 140737488355328 := by omega
theorem ar_le {n d p P : Nat} (h : p + d = P) (hp : p < n - d) (hd : d ≤ n) (hn : n ≤ 1099511627776) : P ≤ 1099511627776 := by omega

theorem take_all1 (pre : List It) (x : It) : (pre ++ [x]).take (pre.length + 1) = pre ++ [x] := List.take_of_length_le (by simp)
theorem goods1 {first most : Int} {pre : List It} {x : It} (h : Goods first most (pre.map It.q ++ [x.q])) : Goods first most ((pre ++ [x]).map It.q) := by
  rwa [List.map_append, List.map_singleton]
theorem run_full1 {first most : Int} {d : Nat} {pre : List It} {x : It} (hgd : Goods first most (pre.map It.q ++ [x.q])) (hm : (pre.length : Int) + 1 = most) :
    ∀ r, runG first most d 0 ((pre ++ [x]).map It.q ++ r) = (((pre ++ [x]).take (pre.length + 1)).map (It.move d)).map It.q := by
  have h := run_full (d := d) (goods1 hgd) (by rw [List.length_append, List.length_singleton]; omega)
  rwa [List.length_append, List.length_singleton] at h
theorem lt1 {first most : Int} {pre : List It} {x : It} (hf : fits first most pre.length x.q) (h : decide ((pre.length : Int) + 1 = most) = false) : ((pre ++ [x]).length : Int) < most := by
  have h1 := hf.1
  have h2 := of_decide_eq_false h
  rw [List.length_append, List.length_singleton]
  omega
theorem runF_done {l : List UInt8} {d p e : Nat} {first most : Int} {xs : List It} (hd : d ≤ l.length) (hc : Chain (l.drop d) (xs.map It.q) p) (he : EndsAt (l.drop d) p e) (hg : Goods first most (xs.map It.q)) :
    runF l (d : Int) first most = ((xs.map (It.move d)).map It.q, endG d ((xs.map (It.move d)).map It.q)) := by
  have h : runG first most d 0 (scanF (l.drop d)).1 = (xs.map (It.move d)).map It.q := by
    have := runG_good (d := d) (xs.map It.q) [] 0 hg
    rw [List.append_nil, runG_nil, List.append_nil] at this
    rw [scan_is hc he, this, List.map_map, List.map_map]
    rfl
  unfold runF
  rw [if_neg (by omega), Int.toNat_natCast, h]
theorem runF_stop {l : List UInt8} {d p k : Nat} {first most : Int} {pre : List It} (hd : d ≤ l.length) (hc : Chain (l.drop d) (pre.map It.q) p) (hr : ∀ r, runG first most d 0 (pre.map It.q ++ r) = ((pre.take k).map (It.move d)).map It.q) :
    runF l (d : Int) first most = (((pre.take k).map (It.move d)).map It.q, endG d (((pre.take k).map (It.move d)).map It.q)) := by
  obtain ⟨r, hs⟩ := hc.pre
  have h : runG first most d 0 (scanF (l.drop d)).1 = ((pre.take k).map (It.move d)).map It.q := by rw [← hs]; exact hr r
  unfold runF
  rw [if_neg (by omega), Int.toNat_natCast, h]
theorem runF_none {l : List UInt8} {d : Nat} {first most : Int} (hd : d ≤ l.length) (hm : most ≤ 0) : runF l (d : Int) first most = ([], d) := by
  unfold runF
  rw [if_neg (by omega), Int.toNat_natCast, runG_full (by omega)]
  rfl
theorem cells_move {L : List UInt8} {x : It} (h : Pc.ok L x.q) {d P : Nat} (hP : x.q.at' + d = P) : It.cells (x.move d) = [.int .i64 (P : Int), .int .i64 (20 + (x.q.f.body.length : Int)), .int .i64 (x.q.f.kind : Int), .int .i64 (x.q.f.seq : Int), .slice x.a x.q.f.body.length x.c] := by
  subst hP
  unfold It.cells It.move Pc.move
  rw [h.size]
  simp
/-- A round that has taken its frame. -/
theorem run_step {w W wb w4 : World} {S d B P cap c4 : Nat} {first most : Int} {pre : List It} {x : It} {L : List UInt8} {av a4 : Option Addr} {u : Value}
    (hst : RunSt w S d first most (pre.map (It.move d)) W) (hok : Pc.ok L x.q) (hP : x.q.at' + d = P) (hbb : Below W.heap.size W wb)
    (hr : wb.ownsRow w.heap.size 55 5 (.slice av pre.length cap) pre.length ((pre.map (It.move d)).flatMap It.cells)) (hg : wb.grownBy w4 (Value.slice av pre.length cap).ownBlock)
    (k1 : Boxed w4 (w.heap.size + 1 + 1 + 1) 28 (.slice av pre.length cap)) (k2 : Boxed (w4.setCell ⟨w.heap.size + 1 + 1 + 1, 0, none⟩ (.slice a4 (pre.length + 1) c4)) (w.heap.size + 1 + 1 + 1) 28 (.slice a4 (pre.length + 1) c4))
    (k3 : Boxed (w4.setCell ⟨w.heap.size + 1 + 1 + 1, 0, none⟩ (.slice a4 (pre.length + 1) c4)) (w.heap.size + 1 + 1 + 1 + 1) 3 u)
    (k5 : (w4.setCell ⟨w.heap.size + 1 + 1 + 1, 0, none⟩ (.slice a4 (pre.length + 1) c4)).ownsRow w.heap.size 55 5 (.slice a4 (pre.length + 1) c4) (pre.length + 1) ((pre.map (It.move d)).flatMap It.cells ++ [.int .i64 (P : Int), .int .i64 (20 + (x.q.f.body.length : Int)), .int .i64 (x.q.f.kind : Int), .int .i64 (x.q.f.seq : Int), .slice x.a x.q.f.body.length x.c])) :
    KeepsFrom B W ((w4.setCell ⟨w.heap.size + 1 + 1 + 1, 0, none⟩ (.slice a4 (pre.length + 1) c4)).setCell ⟨w.heap.size + 1 + 1 + 1 + 1, 0, none⟩ (.int .i64 ((P : Int) + (x.q.size : Int)))) ∧
    KeepB w.heap.size W ((w4.setCell ⟨w.heap.size + 1 + 1 + 1, 0, none⟩ (.slice a4 (pre.length + 1) c4)).setCell ⟨w.heap.size + 1 + 1 + 1 + 1, 0, none⟩ (.int .i64 ((P : Int) + (x.q.size : Int)))) ∧
    RunSt w S d first most ((pre ++ [x]).map (It.move d)) ((w4.setCell ⟨w.heap.size + 1 + 1 + 1, 0, none⟩ (.slice a4 (pre.length + 1) c4)).setCell ⟨w.heap.size + 1 + 1 + 1 + 1, 0, none⟩ (.int .i64 ((P : Int) + (x.q.size : Int)))) := by
  obtain ⟨-, hg1, hat, hfst, hmost, hb, hsE⟩ := hst
  obtain ⟨q1, q2⟩ := app_keeps (B := B) (u' := .int .i64 ((P : Int) + (x.q.size : Int))) hbb hb.size hr hg k1 k3 (by omega) (by omega)
  have gs0 := grownBy_setCell' w4 (w.heap.size + 1 + 1 + 1) (.slice a4 (pre.length + 1) c4)
  have gs := grownBy_setCell' (w4.setCell ⟨w.heap.size + 1 + 1 + 1, 0, none⟩ (.slice a4 (pre.length + 1) c4)) (w.heap.size + 1 + 1 + 1 + 1) (.int .i64 ((P : Int) + (x.q.size : Int)))
  have keep : ∀ {Bk : Nat} {t : TypeId} {v : Value}, Boxed W Bk t v → (t == 55) = false → Bk < w.heap.size + 1 + 1 + 1 → Boxed ((w4.setCell ⟨w.heap.size + 1 + 1 + 1, 0, none⟩ (.slice a4 (pre.length + 1) c4)).setCell ⟨w.heap.size + 1 + 1 + 1 + 1, 0, none⟩ (.int .i64 ((P : Int) + (x.q.size : Int)))) Bk t v := by
    intro Bk t v h ht hlt
    have h3 := h.kept (grown_of_below hbb) (by simp)
    exact ((h3.kept hg (h3.not_row (by intro e; subst e; simp at ht) hr)).kept gs0 (fun e => by have := Option.some.inj e; omega)).kept gs (fun e => by have := Option.some.inj e; omega)
  refine ⟨q1, q2, ⟨a4, c4, ?_, ?_⟩, ?_, keep hat rfl (by omega), keep hfst rfl (by omega), keep hmost rfl (by omega), hb.trans q2.below, Nat.le_trans hsE q2.below.size⟩
  · rw [List.length_map, List.length_append, List.length_singleton]
    exact k2.kept gs (fun e => by have := Option.some.inj e; omega)
  · rw [List.length_map, List.length_append, List.length_singleton, List.map_append, List.flatMap_append, List.map_singleton, List.flatMap_singleton, cells_move hok hP]
    exact own_on k5 fun g cs _ _ hc => (gs.block _ (lt_of_block hc) (fun e => by
      obtain rfl : g = w.heap.size + 1 + 1 + 1 + 1 := by simpa using e
      rw [show (w4.setCell _ _).heap[w.heap.size + 1 + 1 + 1 + 1]? = _ from k3] at hc
      simp at hc)).trans hc
  · have e : ((endG d (((pre ++ [x]).map (It.move d)).map It.q) : Nat) : Int) = (P : Int) + (x.q.size : Int) := by
      rw [List.map_append, List.map_append, List.map_singleton, List.map_singleton, endG_snoc]
      unfold It.move Pc.move
      simp only
      omega
    rw [e]
    exact k3.set _
end Go.Proofs.YtffhejaeliphcaaDoor

namespace Go.Proofs.YtffhejaeliphcaaDoor
open Go.RowKit Go.Shelf
set_option linter.unusedVariables false
attribute [local go_sem] Oper.semAt_some

theorem below_drewN' {B q : Nat} {w w' : World} (hb : Below B w w') : Below B w (w'.drewN q) := hb.trans ⟨rfl, rfl, rfl, Nat.le_refl _, fun _ _ => rfl⟩

set_option maxRecDepth 100000 in
set_option maxHeartbeats 1000000 in
theorem srun_any (a : Option Addr) (n c : Nat) (l : List UInt8) (p first most : Int) (w : World) (hn : n ≤ 1099511627776) (r : RowAt w a n c 1 (l.map B)) (ht : Tab w) :
    Calls Tryd.prog 33 #[.slice a n c, .int .i64 p, .int .i64 first, .int .i64 most] w (GivesRn w (runF l p first most)) := by
  have hln : l.length = n := by simpa using r.len
  have m1 := r.2.2.1
  have m2 := r.2.1
  unfold maxLen at m1
  by_cases hp : p < 0 ∨ (n : Int) < p
  · have hrf : runF l p first most = ([], 0) := by unfold runF; rw [if_pos (by rw [hln]; exact hp)]
    rw [hrf]
    refine (callsIn_wide (n := 3)).1 ?_
    refine callsIn_of_wp_marks Tryd.func33 rfl trivial ?_ rfl
    simp only [Tryd.ntmps33, List.size_toArray, List.length_cons, List.length_nil, Nat.reduceAdd, Nat.reduceSub, Array.replicate_succ, Array.replicate_zero, List.push_toArray, List.append_toArray, List.nil_append, List.cons_append]
    have h13 : 1 ≤ 3 := by omega
    have hmix : Tryd.prog.follows .mixedOrders = true := by kernel_rfl
    clear hrf
    by_cases h0 : p < 0
    · have t1 : decide (p < 0) = true := by simp [h0]
      gi_wp2
      exact ⟨_, results_tmp2 rfl _ _ _, [], none, 0, rfl, rfl, ⟨World.ownsRow_nil _ _ _ _, Bodies.nil _ _⟩, below_next (below_next (below_made w _) (below_made _ _)) (below_made _ _)⟩
    · have t1 : decide (p < 0) = false := by simp; omega
      have t2 : decide ((n : Int) < p) = true := by simp; omega
      gi_wp2
      exact ⟨_, results_tmp2 rfl _ _ _, [], none, 0, rfl, rfl, ⟨World.ownsRow_nil _ _ _ _, Bodies.nil _ _⟩, below_next (below_next (below_made w _) (below_made _ _)) (below_made _ _)⟩
  · obtain ⟨d, rfl⟩ : ∃ d : Nat, p = (d : Int) := ⟨p.toNat, by omega⟩
    have hdn : d ≤ n := by omega
    by_cases hm : most ≤ 0
    · rw [runF_none (by omega) hm]
      refine (callsIn_wide (n := 3)).1 ?_
      refine callsIn_of_wp_marks Tryd.func33 rfl trivial ?_ rfl
      simp only [Tryd.ntmps33, List.size_toArray, List.length_cons, List.length_nil, Nat.reduceAdd, Nat.reduceSub, Array.replicate_succ, Array.replicate_zero, List.push_toArray, List.append_toArray, List.nil_append, List.cons_append]
      have h13 : 1 ≤ 3 := by omega
      have hmix : Tryd.prog.follows .mixedOrders = true := by kernel_rfl
      have t1 : decide ((d : Int) < 0) = false := by simp
      have t2 : decide ((n : Int) < (d : Int)) = false := by simp; omega
      have t3 : decide (most ≤ 0) = true := by simp; omega
      have hv : Boxed (((((w.alloc (Obj.cells #[Value.int IntKind.i64 (d : Int)] 3)).alloc (Obj.cells #[Value.int IntKind.i64 first] 3)).alloc (Obj.cells #[Value.int IntKind.i64 most] 3)).alloc (Obj.cells #[Value.slice none 0 0] 28)).alloc (Obj.cells #[Value.int IntKind.i64 (d : Int)] 3)) (w.heap.size + 1 + 1 + 1) 28 (.slice none 0 0) := (box_new3 w _ _ _ _ _).alloc _
      have hg := box_new4 w (Obj.cells #[Value.int IntKind.i64 (d : Int)] 3) (Obj.cells #[Value.int IntKind.i64 first] 3) (Obj.cells #[Value.int IntKind.i64 most] 3) (Obj.cells #[Value.slice none 0 0] 28) 3 (Value.int IntKind.i64 (d : Int))
      have cv := hv.cell
      have cg := hg.cell
      gi_wp2
      gi_quiet (fail)
      all_goals gi_wp2
      exact ⟨_, results_tmp2 rfl _ _ _, [], none, 0, rfl, rfl, ⟨World.ownsRow_nil _ _ _ _, Bodies.nil _ _⟩, below_drewN' (below_next (below_next (below_next (below_next (below_made w _) (below_made _ _)) (below_made _ _)) (below_made _ _)) (below_made _ _))⟩
    · refine (callsIn_wide (n := 3)).1 ?_
      refine callsIn_of_wp_marks Tryd.func33 rfl trivial ?_ rfl
      simp only [Tryd.ntmps33, List.size_toArray, List.length_cons, List.length_nil, Nat.reduceAdd, Nat.reduceSub, Array.replicate_succ, Array.replicate_zero, List.push_toArray, List.append_toArray, List.nil_append, List.cons_append]
      have h13 : 1 ≤ 3 := by omega
      have t1 : decide ((d : Int) < 0) = false := by simp
      have t2 : decide ((n : Int) < (d : Int)) = false := by simp; omega
      have t3 : decide (most ≤ 0) = false := by simp; omega
      obtain ⟨a', hcut, r1⟩ := cut_from slB r d hdn
      rw [Nat.mul_one, ← List.map_drop] at r1
      gi_wp2_with (refine ⟨trivial, ?_⟩; gi_at_call 59; refine (callsIn_wide.2 (seach_any _ _ _ _)).mono ?_; rintro e w' ⟨rfl, rfl⟩)
      have hB : ∃ wE, ((((((w.alloc (Obj.cells #[Value.int IntKind.i64 (d : Int)] 3)).alloc (Obj.cells #[Value.int IntKind.i64 first] 3)).alloc (Obj.cells #[Value.int IntKind.i64 most] 3)).alloc (Obj.cells #[Value.slice none 0 0] 28)).alloc (Obj.cells #[Value.int IntKind.i64 (d : Int)] 3)).alloc (Obj.cells #[Value.slice a' (n - d) (c - d)] 22)) = wE ∧ wE.heap.size = w.heap.size + 6 ∧ RunSt w (w.heap.size + 6) d first most [] wE ∧ wE.heap[w.heap.size + 1 + 1 + 1 + 1 + 1]? = some (.cells #[.slice a' (n - d) (c - d)] 22 (0, 0)) := by
        refine ⟨_, rfl, by simp, ⟨⟨none, 0, ?_, World.ownsRow_nil _ _ _ _⟩, ?_, ?_, ?_, ?_, ?_, by simp⟩, ?_⟩
        · exact (box_new3 w _ _ _ _ _).alloc _ |>.alloc _
        · exact (box_new4 w _ _ _ _ _ _).alloc _
        · exact (((((Boxed.new w _ _).alloc _).alloc _).alloc _).alloc _).alloc _
        · exact ((((box_new1 w _ _ _).alloc _).alloc _).alloc _).alloc _
        · exact (((box_new2 w _ _ _ _).alloc _).alloc _).alloc _
        · exact below_next (below_next (below_next (below_next (below_next (below_made w _) (below_made _ _)) (below_made _ _)) (below_made _ _)) (below_made _ _)) (below_made _ _)
        · exact box_new5 w _ _ _ _ _ _ _
      obtain ⟨wE, hwE, hsz, hst0, hx0⟩ := hB
      rw [hwE]
      have hBw := hst0.below
      clear hwE t1 t2 t3
      refine rangeBy rfl h13 (gf := 74) (lb := #[.pointer (some ⟨w.heap.size + 1 + 1 + 1 + 1 + 1, 0, none⟩)]) rfl trivial (enters_of Tryd.func74 (by kernel_rfl) rfl)
        (each_goes w wE hBw (w.heap.size + 1 + 1 + 1 + 1 + 1) a' (n - d) (c - d) (l.drop d) r1 ht hx0 2 (by omega)) (Below.refl _ _) (fun _ => rfl) (fun h k => KeepB.trans h k) (keepB_put (by omega)) wayE_sees wayE_ends wayE_left
        (IRun w (w.heap.size + 6) d first most) (XRun w (w.heap.size + 6) d first most) ?own ?ownx ?start
        (fun x a1 W => ∃ Bx, w.heap.size + 6 ≤ Bx ∧ W.heap[Bx]? = some (.cells #[.int .i64 (x.q.f.kind : Int), .int .i64 (x.q.f.seq : Int), .slice x.a x.q.f.body.length x.c] 53 (0, 0)) ∧
          a1 = { tmps := #[.slice a n c, .int .i64 (d : Int), .int .i64 first, .int .i64 most, undef, .pointer (some ⟨w.heap.size, 0, none⟩), .pointer (some ⟨w.heap.size + 1, 0, none⟩), .pointer (some ⟨w.heap.size + 1 + 1, 0, none⟩), .slice none 0 0, .int .i64 0, .pointer (some ⟨w.heap.size + 1 + 1 + 1, 0, none⟩), .pointer (some ⟨w.heap.size + 1 + 1 + 1 + 1, 0, none⟩), .int .i64 (x.q.at' : Int), .pointer (some ⟨Bx, 0, none⟩), undef, .int .i64 (d : Int), .bool false, .bool false, .int .i64 (d : Int), .slice a n c, .int .i64 (n : Int), .bool false, .bool false, .int .i64 (d : Int), .int .i64 most, .bool false, undef, .slice a n c, .int .i64 (d : Int), .slice a' (n - d) (c - d), .func (.func 74) #[] #[.pointer (some ⟨w.heap.size + 1 + 1 + 1 + 1 + 1, 0, none⟩)], .int .i64 (x.q.at' : Int), x.fr, undef, undef, undef, undef, undef, undef, undef, undef, undef, undef, undef, undef, undef, undef, undef, undef, undef, undef, undef, undef, undef, undef, undef, undef, undef, undef, undef, undef, undef, undef, undef, undef], defers := [] })
        ?ax ?assign ?body ?done ?stop
      case own =>
        rintro pre A Bw row ⟨h1, h2, h3⟩ hg hr
        exact ⟨RunSt.own (by omega) _ _ _ row h1 hg hr, h2, h3⟩
      case ownx =>
        rintro cc pre A Bw row ⟨h1, k, h2, h3⟩ hg hr
        exact ⟨h1, k, RunSt.own (by omega) _ _ _ row h2 hg hr, h3⟩
      case start => exact ⟨hst0, fun j q h => by simp at h, by simp; omega⟩
      case ax =>
        rintro x a1 s A Bw row ⟨Bx, hBx, hfx, rfl⟩ hg hr
        refine ⟨Bx, hBx, (hg.block _ (lt_of_block hfx) fun e => ?_).trans hfx, rfl⟩
        obtain ⟨_, o, ho, hoc⟩ := hr Bx e.symm
        rw [hfx] at ho; cases ho; cases hoc
      case assign =>
        intro lp pre x W K hi hs hK
        dsimp only [wayE, It.fr]
        gi_wp2
        have hm := below_made W (.cells #[.int .i64 (x.q.f.kind : Int), .int .i64 (x.q.f.seq : Int), .slice x.a x.q.f.body.length x.c] 53)
        have hkb := KeepB.calls hm hi.1.below.size
        exact hK _ _ ((KeepsOthers.alloc _ _).from _) hkb ⟨RunSt.own (D := w.heap.size + 6) (by omega) _ _ _ none hi.1 (grown_of_below hm) (fun r e => by cases e), hi.2⟩ ⟨hs.1, hs.2.1, hs.2.2.1, hs.2.2.2.keep hkb⟩ ⟨W.heap.size, hi.1.size, World.alloc_heap_new _ _, rfl⟩
      case body =>
        rintro lp pre x a0 W hl ⟨hst, hgd, hlm⟩ ⟨hc2, hpl, hdec, hbod⟩ ⟨Bx, hBx, hfx, rfl⟩
        clear m1 m2
        have HST := hst
        obtain ⟨⟨av, cap, hv, hrow⟩, hg1, hat, hfst, hmost, hb, hsE⟩ := hst
        rw [List.length_map] at hv hrow
        have cv := hv.cell
        have fv := hv.frozen
        have cg := hg1.cell
        have fg := hg1.frozen
        have ca := hat.cell
        have cf := hfst.cell
        have cm := hmost.cell
        have c0 : W.cell? ⟨Bx, 0, none⟩ = some (.int .i64 (x.q.f.kind : Int)) := cell_blk hfx rfl
        have c1 : W.cell? ⟨Bx, 1, none⟩ = some (.int .i64 (x.q.f.seq : Int)) := cell_blk hfx rfl
        have c2 : W.cell? ⟨Bx, 2, none⟩ = some (.slice x.a x.q.f.body.length x.c) := cell_blk hfx rfl
        dsimp only [It.fr]
        have hok := pc_ok (Nat.le_of_lt hpl) hdec
        have hsq0 := hok.seq
        have hfit := hok.fits
        have hsz5 := hok.size
        simp only at hsq0 hfit hsz5
        have hld : (l.drop d).length = n - d := by rw [List.length_drop]; omega
        have hle := hc2.le
        rw [List.length_map] at hle
        rw [hld] at hfit hle hpl
        have hsub : wrap64 ((x.q.f.seq : Int) - (pre.length : Int)) = (x.q.f.seq : Int) - (pre.length : Int) := by unfold wrap64; omega
        have hsub' : IntKind.i64.wrap ((x.q.f.seq : Int) - (pre.length : Int)) = (x.q.f.seq : Int) - (pre.length : Int) := IntWalk.i64_in _ (by omega)
        by_cases hk1 : x.q.f.kind = 1
        · have e1 : ((x.q.f.kind : Int) != 1) = false := by rw [bne_eq_false_iff_eq]; omega
          by_cases hsq : (x.q.f.seq : Int) = first + (pre.length : Int)
          · have e2 : ((x.q.f.seq : Int) - (pre.length : Int) != first) = false := by rw [bne_eq_false_iff_eq]; omega
            obtain ⟨P, hP⟩ : ∃ P : Nat, x.q.at' + d = P := ⟨_, rfl⟩
            have hPn : P ≤ 1099511627776 := ar_le hP hpl hdn hn
            have hadd : wrap64 ((d : Int) + (x.q.at' : Int)) = (P : Int) := ar_add hP hPn
            have hadd2 : wrap64 ((P : Int) + (20 + (x.q.f.body.length : Int))) = (P : Int) + (x.q.size : Int) := ar_add2 hPn hsz5 hok.body
            have hby : (pre.length + 1) * 56 ≤ 140737488355328 := ar_by hle hn
            have hlt := hrow.lt
            obtain ⟨bb, hbb0⟩ : ∃ bb, decide ((pre.length : Int) + 1 = most) = bb := ⟨_, rfl⟩
            have e3 : (((pre.length + 1 : Nat) : Int) == most) = bb := by rw [← hbb0]; push_cast; rfl
            have e4 : (((pre.length : Int) + 1) == most) = bb := by rw [← hbb0]; rfl
            have HF : Hid (fits first most pre.length x.q) := Lib.hid ⟨hlm, hk1, hsq⟩
            have HSZ := Lib.hid hsz
            have HS5 := Lib.hid hsz5
            have hPe : (d : Int) + (x.q.at' : Int) = (P : Int) := by omega
            have hPw : wrap64 (P : Int) = (P : Int) := by have := hadd; rwa [hPe] at this
            have HP := Lib.hid hP
            have HBB := Lib.hid hbb0
            have HH := Lib.hid hn
            have HW0 : w.heap.size ≤ W.heap.size := hb.size
            clear hsub' hle hfit hsz5 hsq0 hk1 hsq hsz hP hbb0 hld hp hdn hPn hn hm hsE hlm hpl
            cases bb with
            | true =>
              gi_wp2_with (first
                | (refine ⟨trivial, ?_⟩; gi_at_call 60; refine (CallsIn.inRound lp (callsIn_wide.2 (placed_any _ _ _ _ _ _ _ hok.body))).mono ?_; rintro e w1 ⟨rfl, hb1⟩; have hm2 := below_made w1 (.cells #[.int .i64 (P : Int), .int .i64 (20 + (x.q.f.body.length : Int)), .int .i64 (x.q.f.kind : Int), .int .i64 (x.q.f.seq : Int), .slice x.a x.q.f.body.length x.c] 55); have hba := below_next hb1 hm2; have hv2 := hv.kept (grown_of_below hba) (by simp); have cv2 := hv2.cell; have hm3 := below_made (w1.alloc (.cells #[.int .i64 (P : Int), .int .i64 (20 + (x.q.f.body.length : Int)), .int .i64 (x.q.f.kind : Int), .int .i64 (x.q.f.seq : Int), .slice x.a x.q.f.body.length x.c] 55)) (.cells #[.int .i64 (P : Int), .int .i64 (20 + (x.q.f.body.length : Int)), .int .i64 (x.q.f.kind : Int), .int .i64 (x.q.f.seq : Int), .slice x.a x.q.f.body.length x.c] 55); have hbb := below_next hba hm3; have hv3 := hv.kept (grown_of_below hbb) (by simp); have hg3 := hg1.kept (grown_of_below hbb) (by simp); have hmo3 := hmost.kept (grown_of_below hbb) (by simp); have hp3 := below_blk2 hm3 (World.alloc_heap_new w1 (.cells #[.int .i64 (P : Int), .int .i64 (20 + (x.q.f.body.length : Int)), .int .i64 (x.q.f.kind : Int), .int .i64 (x.q.f.seq : Int), .slice x.a x.q.f.body.length x.c] 55)); have hrow3 := own_below hrow hbb; have hsrc3 := rowAt_lit (w1.alloc (.cells #[.int .i64 (P : Int), .int .i64 (20 + (x.q.f.body.length : Int)), .int .i64 (x.q.f.kind : Int), .int .i64 (x.q.f.seq : Int), .slice x.a x.q.f.body.length x.c] 55)) [.int .i64 (P : Int), .int .i64 (20 + (x.q.f.body.length : Int)), .int .i64 (x.q.f.kind : Int), .int .i64 (x.q.f.seq : Int), .slice x.a x.q.f.body.length x.c] 1 5 55 rfl (by decide); have hs1 := hb1.size; rw [World.size_alloc] at hsrc3)
                | (gi_at_builtin; refine wpListIn_app1 rfl _ _ 28 rfl slPl rfl hrow3 rfl hsrc3 (by simp [Value.oneCell']) hby (Nat.le_trans hb.size hbb.size) fun a4 c4 w4 hown4 hgr4 => ?_; obtain ⟨k1, k2, k3, k4, k5⟩ := after_app hv3 hg3 hp3 hrow3 (fun e => by have := (hlt _ e).2; omega) hgr4 hown4 (by omega) (by have := hv.lt; omega); have d1 := k1.cell; have d2 := k1.frozen; have d3 := k3.cell; have d4 := k3.frozen; have d5 : _ = some (Value.int .i64 (20 + (x.q.f.body.length : Int))) := cell_blk (j := 1) k4 rfl; have d6 : _ = some (Value.int .i64 (P : Int)) := cell_blk (j := 0) k4 rfl; have gs := grownBy_setCell' (w4.setCell ⟨w.heap.size + 1 + 1 + 1, 0, none⟩ (.slice a4 (pre.length + 1) c4)) (w.heap.size + 1 + 1 + 1 + 1) (.int .i64 ((P : Int) + (x.q.size : Int))); have j1 := k2.kept gs (fun e => by have := Option.some.inj e; omega); have jm := ((hmo3.kept hgr4 (hmo3.not_row (by decide) hrow3)).kept (grownBy_setCell' w4 (w.heap.size + 1 + 1 + 1) (.slice a4 (pre.length + 1) c4)) (fun e => by have := Option.some.inj e; omega)).kept gs (fun e => by have := Option.some.inj e; omega); have d7 := j1.cell; have d8 := jm.cell))
              obtain ⟨q1, q2, q3⟩ := run_step (B := wE.heap.size) HST hok HP.out hbb hrow3 hgr4 k1 k2 k3 k5
              exact ⟨q1, q2, rfl, pre.length + 1, by rw [take_all1]; exact q3, run_full1 (hgd.snoc (by rw [List.length_map]; exact HF.out)) (by have := HBB.out; simpa using this)⟩
            | false =>
              gi_wp2_with (first
                | (refine ⟨trivial, ?_⟩; gi_at_call 60; refine (CallsIn.inRound lp (callsIn_wide.2 (placed_any _ _ _ _ _ _ _ hok.body))).mono ?_; rintro e w1 ⟨rfl, hb1⟩; have hm2 := below_made w1 (.cells #[.int .i64 (P : Int), .int .i64 (20 + (x.q.f.body.length : Int)), .int .i64 (x.q.f.kind : Int), .int .i64 (x.q.f.seq : Int), .slice x.a x.q.f.body.length x.c] 55); have hba := below_next hb1 hm2; have hv2 := hv.kept (grown_of_below hba) (by simp); have cv2 := hv2.cell; have hm3 := below_made (w1.alloc (.cells #[.int .i64 (P : Int), .int .i64 (20 + (x.q.f.body.length : Int)), .int .i64 (x.q.f.kind : Int), .int .i64 (x.q.f.seq : Int), .slice x.a x.q.f.body.length x.c] 55)) (.cells #[.int .i64 (P : Int), .int .i64 (20 + (x.q.f.body.length : Int)), .int .i64 (x.q.f.kind : Int), .int .i64 (x.q.f.seq : Int), .slice x.a x.q.f.body.length x.c] 55); have hbb := below_next hba hm3; have hv3 := hv.kept (grown_of_below hbb) (by simp); have hg3 := hg1.kept (grown_of_below hbb) (by simp); have hmo3 := hmost.kept (grown_of_below hbb) (by simp); have hp3 := below_blk2 hm3 (World.alloc_heap_new w1 (.cells #[.int .i64 (P : Int), .int .i64 (20 + (x.q.f.body.length : Int)), .int .i64 (x.q.f.kind : Int), .int .i64 (x.q.f.seq : Int), .slice x.a x.q.f.body.length x.c] 55)); have hrow3 := own_below hrow hbb; have hsrc3 := rowAt_lit (w1.alloc (.cells #[.int .i64 (P : Int), .int .i64 (20 + (x.q.f.body.length : Int)), .int .i64 (x.q.f.kind : Int), .int .i64 (x.q.f.seq : Int), .slice x.a x.q.f.body.length x.c] 55)) [.int .i64 (P : Int), .int .i64 (20 + (x.q.f.body.length : Int)), .int .i64 (x.q.f.kind : Int), .int .i64 (x.q.f.seq : Int), .slice x.a x.q.f.body.length x.c] 1 5 55 rfl (by decide); have hs1 := hb1.size; rw [World.size_alloc] at hsrc3)
                | (gi_at_builtin; refine wpListIn_app1 rfl _ _ 28 rfl slPl rfl hrow3 rfl hsrc3 (by simp [Value.oneCell']) hby (Nat.le_trans hb.size hbb.size) fun a4 c4 w4 hown4 hgr4 => ?_; obtain ⟨k1, k2, k3, k4, k5⟩ := after_app hv3 hg3 hp3 hrow3 (fun e => by have := (hlt _ e).2; omega) hgr4 hown4 (by omega) (by have := hv.lt; omega); have d1 := k1.cell; have d2 := k1.frozen; have d3 := k3.cell; have d4 := k3.frozen; have d5 : _ = some (Value.int .i64 (20 + (x.q.f.body.length : Int))) := cell_blk (j := 1) k4 rfl; have d6 : _ = some (Value.int .i64 (P : Int)) := cell_blk (j := 0) k4 rfl; have gs := grownBy_setCell' (w4.setCell ⟨w.heap.size + 1 + 1 + 1, 0, none⟩ (.slice a4 (pre.length + 1) c4)) (w.heap.size + 1 + 1 + 1 + 1) (.int .i64 ((P : Int) + (x.q.size : Int))); have j1 := k2.kept gs (fun e => by have := Option.some.inj e; omega); have jm := ((hmo3.kept hgr4 (hmo3.not_row (by decide) hrow3)).kept (grownBy_setCell' w4 (w.heap.size + 1 + 1 + 1) (.slice a4 (pre.length + 1) c4)) (fun e => by have := Option.some.inj e; omega)).kept gs (fun e => by have := Option.some.inj e; omega); have d7 := j1.cell; have d8 := jm.cell))
              obtain ⟨q1, q2, q3⟩ := run_step (B := wE.heap.size) HST hok HP.out hbb hrow3 hgr4 k1 k2 k3 k5
              exact ⟨q1, q2, q3, goods1 (hgd.snoc (by rw [List.length_map]; exact HF.out)), lt1 HF.out HBB.out⟩
          · have e2 : ((x.q.f.seq : Int) - (pre.length : Int) != first) = true := by rw [bne_iff_ne]; omega
            have hx := run_left (d := d) hgd (x := x) (fun h => hsq h.2.2)
            gi_wp2
            exact ⟨KeepsFrom.refl _ _, KeepB.refl _ _, rfl, pre.length, by rw [take_all]; exact HST, hx⟩
        · have e1 : ((x.q.f.kind : Int) != 1) = true := by rw [bne_iff_ne]; omega
          have hx := run_left (d := d) hgd (x := x) (fun h => hk1 h.2.1)
          gi_wp2
          exact ⟨KeepsFrom.refl _ _, KeepB.refl _ _, rfl, pre.length, by rw [take_all]; exact HST, hx⟩
      case done =>
        rintro D xs W hD ⟨⟨p', e, hch, hend⟩, hbod⟩ ⟨hst, hgd, hlm⟩ hK
        have HSC := Lib.hid (runF_done (by omega) hch hend hgd)
        obtain ⟨⟨av, cap, hv, hrow⟩, hg1, -, -, -, hb, -⟩ := hst
        have hbod2 := bodies_move (d := d) (k := xs.length) hbod
        rw [List.take_length] at hbod2
        obtain ⟨ys, hys⟩ : ∃ ys, xs.map (It.move d) = ys := ⟨_, rfl⟩
        rw [hys] at hv hrow hg1 hbod2 HSC
        obtain ⟨E, hE⟩ : ∃ E, endG d (ys.map It.q) = E := ⟨_, rfl⟩
        rw [hE] at hg1 HSC
        have cv := hv.cell
        have cg := hg1.cell
        clear hys hE hst0 hch hend hgd hlm hbod hln hp hdn hm hcut r1 m1 m2 r ht hx0
        have hmix : Tryd.prog.follows .mixedOrders = true := by kernel_rfl
        gi_wp2
        gi_quiet (fail)
        all_goals gi_wp2
        unfold GivesRn
        rw [HSC.out]
        refine ⟨by simp, .inl ⟨_, _, rfl, run_takeDeferred (w := W.drewN nq) hK, ?_⟩⟩
        exact ⟨_, results_tmp2 rfl _ _ _, ys, av, cap, rfl, rfl, PlsAt.end hrow hbod2 (by omega) hK, end_below hb (by omega) hK⟩
      case stop =>
        rintro D cc pre W hD ⟨⟨p', hch⟩, hbod⟩ ⟨rfl, k, hst, hrn⟩ hK
        have HSC := Lib.hid (runF_stop (by omega) hch hrn)
        obtain ⟨⟨av, cap, hv, hrow⟩, hg1, -, -, -, hb, -⟩ := hst
        have hbod2 := bodies_move (d := d) (k := k) hbod
        obtain ⟨ys, hys⟩ : ∃ ys, (pre.take k).map (It.move d) = ys := ⟨_, rfl⟩
        rw [hys] at hv hrow hg1 hbod2 HSC
        obtain ⟨E, hE⟩ : ∃ E, endG d (ys.map It.q) = E := ⟨_, rfl⟩
        rw [hE] at hg1 HSC
        have cv := hv.cell
        have cg := hg1.cell
        clear hys hE hst0 hch hrn hbod hln hp hdn hm hcut r1 m1 m2 r ht hx0
        have hmix : Tryd.prog.follows .mixedOrders = true := by kernel_rfl
        gi_wp2
        gi_quiet (fail)
        all_goals gi_wp2
        unfold GivesRn
        rw [HSC.out]
        refine ⟨by simp, .inl ⟨_, _, rfl, run_takeDeferred (w := W.drewN nq) hK, ?_⟩⟩
        exact ⟨_, results_tmp2 rfl _ _ _, ys, av, cap, rfl, rfl, PlsAt.end hrow hbod2 (by omega) hK, end_below hb (by omega) hK⟩
end Go.Proofs.YtffhejaeliphcaaDoor
