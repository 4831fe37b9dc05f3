/-
  What a walk of scan.Run holds between two rounds, and what its answer is. No condition.
-/
import Derived.Test.YtffhejaeliphcaaDoorMPapp
import Derived.Test.YtffhejaeliphcaaDoorMPp
namespace Go.Proofs.YtffhejaeliphcaaDoor
open Go.RowKit Go.Shelf
set_option linter.unusedVariables false
attribute [local go_sem] Oper.semAt_some

def It.move (d : Nat) (x : It) : It := { x with q := x.q.move d }
def GivesRn (w : World) (x : List Pc × Nat) (e : Ending) (w' : World) : Prop :=
  ∃ xs a cap, xs.map It.q = x.1 ∧ e = .returned (.tuple #[.slice a xs.length cap, .int .i64 (x.2 : Int)]) ∧ PlsAt w.heap.size (.slice a xs.length cap) xs w' ∧ Below w.heap.size w w'

theorem box_new1 (w : World) (o : Obj) (t : TypeId) (v : Value) : Boxed ((w.alloc o).alloc (.cells #[v] t)) (w.heap.size + 1) t v := by
  have h := Boxed.new (w.alloc o) t v
  rwa [World.size_alloc] at h
theorem box_new2 (w : World) (o o2 : Obj) (t : TypeId) (v : Value) : Boxed (((w.alloc o).alloc o2).alloc (.cells #[v] t)) (w.heap.size + 1 + 1) t v := by
  have h := Boxed.new ((w.alloc o).alloc o2) t v
  rwa [World.size_alloc, World.size_alloc] at h
theorem box_new3 (w : World) (o o2 o3 : Obj) (t : TypeId) (v : Value) : Boxed ((((w.alloc o).alloc o2).alloc o3).alloc (.cells #[v] t)) (w.heap.size + 1 + 1 + 1) t v := by
  have h := Boxed.new (((w.alloc o).alloc o2).alloc o3) t v
  rwa [World.size_alloc, World.size_alloc, World.size_alloc] at h
theorem box_new4 (w : World) (o o2 o3 o4 : Obj) (t : TypeId) (v : Value) : Boxed (((((w.alloc o).alloc o2).alloc o3).alloc o4).alloc (.cells #[v] t)) (w.heap.size + 1 + 1 + 1 + 1) t v := by
  have h := Boxed.new ((((w.alloc o).alloc o2).alloc o3).alloc o4) t v
  rwa [World.size_alloc, World.size_alloc, World.size_alloc, World.size_alloc] at h
theorem box_new5 (w : World) (o o2 o3 o4 o5 : Obj) (t : TypeId) (v : Value) : Boxed ((((((w.alloc o).alloc o2).alloc o3).alloc o4).alloc o5).alloc (.cells #[v] t)) (w.heap.size + 1 + 1 + 1 + 1 + 1) t v := by
  have h := Boxed.new (((((w.alloc o).alloc o2).alloc o3).alloc o4).alloc o5) t v
  rwa [World.size_alloc, World.size_alloc, World.size_alloc, World.size_alloc, World.size_alloc] at h

/-- Between two rounds of scan.Run: the row of what is taken, its end, the three arguments in their boxes. -/
structure RunSt (w : World) (S d : Nat) (first most : Int) (ys : List It) (W : World) : Prop where
  row : ∃ av cap, Boxed W (w.heap.size + 1 + 1 + 1) 28 (.slice av ys.length cap) ∧ W.ownsRow w.heap.size 55 5 (.slice av ys.length cap) ys.length (ys.flatMap It.cells)
  stop : Boxed W (w.heap.size + 1 + 1 + 1 + 1) 3 (.int .i64 (endG d (ys.map It.q) : Int))
  at' : Boxed W w.heap.size 3 (.int .i64 (d : Int))
  fst : Boxed W (w.heap.size + 1) 3 (.int .i64 first)
  most : Boxed W (w.heap.size + 1 + 1) 3 (.int .i64 most)
  below : Below w.heap.size w W
  size : S ≤ W.heap.size
theorem RunSt.own {w : World} {S d D : Nat} {first most : Int} (hD : w.heap.size + 5 ≤ D) : OwnFrom D (RunSt w S d first most) := by
  rintro ys A B row ⟨⟨av, cap, h1, h2⟩, h3, h4, h5, h6, h7, h8⟩ hg hr
  have ne : ∀ b, b < D → some b ≠ row := fun b hb e => by have := (hr b e.symm).1; omega
  refine ⟨⟨av, cap, h1.kept hg (ne _ (by omega)), own_on h2 fun g cs _ _ hc => ?_⟩, h3.kept hg (ne _ (by omega)), h4.kept hg (ne _ (by omega)), h5.kept hg (ne _ (by omega)), h6.kept hg (ne _ (by omega)), h7.grown hg h7.size fun k e => ?_, Nat.le_trans h8 hg.size⟩
  · refine (hg.block g (lt_of_block hc) fun e => ?_).trans hc
    obtain ⟨_, o, ho, hoc⟩ := hr g e.symm
    rw [hc] at ho; cases ho; cases hoc
  · have := (hr k e).1; omega
/-- All of them were taken. -/
def Goods (first most : Int) (qs : List Pc) : Prop := ∀ j q, qs[j]? = some q → fits first most (0 + j) q
theorem Goods.snoc {first most : Int} {qs : List Pc} {q : Pc} (h : Goods first most qs) (hq : fits first most qs.length q) : Goods first most (qs ++ [q]) := fun j x hx => by
  by_cases hj : j < qs.length
  · rw [List.getElem?_append_left hj] at hx; exact h j x hx
  · rw [List.getElem?_append_right (by omega)] at hx
    have : j - qs.length = 0 := by
      by_cases e : j - qs.length = 0
      · exact e
      · rw [List.getElem?_eq_none (by simp; omega)] at hx; cases hx
    rw [this] at hx
    simp at hx
    subst hx
    rw [show 0 + j = qs.length by omega]
    exact hq
def IRun (w : World) (S d : Nat) (first most : Int) (pre : List It) (W : World) : Prop := RunSt w S d first most (pre.map (It.move d)) W ∧ Goods first most (pre.map It.q) ∧ (pre.length : Int) < most
def XRun (w : World) (S d : Nat) (first most : Int) (c : Code) (pre : List It) (W : World) : Prop := c = .exit 0 ∧ ∃ k, RunSt w S d first most ((pre.take k).map (It.move d)) W ∧ ∀ r, runG first most d 0 (pre.map It.q ++ r) = ((pre.take k).map (It.move d)).map It.q

theorem take_all (pre : List It) (x : It) : (pre ++ [x]).take pre.length = pre := by simp
theorem run_left {first most : Int} {d : Nat} {pre : List It} {x : It} (hgd : Goods first most (pre.map It.q)) (h : ¬ fits first most pre.length x.q) :
    ∀ r, runG first most d 0 ((pre ++ [x]).map It.q ++ r) = (((pre ++ [x]).take pre.length).map (It.move d)).map It.q := fun r => by
  rw [take_all, List.map_append, List.append_assoc, runG_good _ _ _ hgd, List.map_singleton, List.singleton_append, List.length_map, Nat.zero_add, runG_stop h, List.append_nil, List.map_map, List.map_map]
  rfl
theorem run_full {first most : Int} {d : Nat} {pre : List It} (hgd : Goods first most (pre.map It.q)) (hm : (pre.length : Int) = most) :
    ∀ r, runG first most d 0 (pre.map It.q ++ r) = ((pre.take pre.length).map (It.move d)).map It.q := fun r => by
  rw [runG_good _ _ _ hgd, List.length_map, Nat.zero_add, runG_full (by omega), List.append_nil, List.map_map, List.take_length, List.map_map]
  rfl
theorem bodies_move {lo d k : Nat} {pre : List It} {W : World} (h : Bodies lo pre W) : Bodies lo ((pre.take k).map (It.move d)) W := fun y hy => by
  obtain ⟨x, hx, rfl⟩ := List.mem_map.1 hy
  exact h x (List.mem_of_mem_take hx)

theorem ar_add {d p P : Nat} (h : p + d = P) (hP : P ≤ 1099511627776) : wrap64 ((d : Int) + (p : Int)) = (P : Int) := by unfold wrap64; omega
theorem ar_add2 {P s b : Nat} (hP : P ≤ 1099511627776) (h : s = 20 + b) (hb : b ≤ 16384) : wrap64 ((P : Int) + (20 + (b : Int))) = (P : Int) + (s : Int) := by unfold wrap64; omega
theorem ar_by {n d p k : Nat} (h : p ≤ n - d ∧ 20 * k ≤ p) (hn : n ≤ 1099511627776) : (k + 1) * 56 ≤ 140737488355328 := by omega
theorem ar_le {n d p P : Nat} (h : p + d = P) (hp : p < n - d) (hd : d ≤ n) (hn : n ≤ 1099511627776) : P ≤ 1099511627776 := by omega

theorem take_all1 (pre : List It) (x : It) : (pre ++ [x]).take (pre.length + 1) = pre ++ [x] := List.take_of_length_le (by simp)
theorem goods1 {first most : Int} {pre : List It} {x : It} (h : Goods first most (pre.map It.q ++ [x.q])) : Goods first most ((pre ++ [x]).map It.q) := by
  rwa [List.map_append, List.map_singleton]
theorem run_full1 {first most : Int} {d : Nat} {pre : List It} {x : It} (hgd : Goods first most (pre.map It.q ++ [x.q])) (hm : (pre.length : Int) + 1 = most) :
    ∀ r, runG first most d 0 ((pre ++ [x]).map It.q ++ r) = (((pre ++ [x]).take (pre.length + 1)).map (It.move d)).map It.q := by
  have h := run_full (d := d) (goods1 hgd) (by rw [List.length_append, List.length_singleton]; omega)
  rwa [List.length_append, List.length_singleton] at h
theorem lt1 {first most : Int} {pre : List It} {x : It} (hf : fits first most pre.length x.q) (h : decide ((pre.length : Int) + 1 = most) = false) : ((pre ++ [x]).length : Int) < most := by
  have h1 := hf.1
  have h2 := of_decide_eq_false h
  rw [List.length_append, List.length_singleton]
  omega
theorem runF_done {l : List UInt8} {d p e : Nat} {first most : Int} {xs : List It} (hd : d ≤ l.length) (hc : Chain (l.drop d) (xs.map It.q) p) (he : EndsAt (l.drop d) p e) (hg : Goods first most (xs.map It.q)) :
    runF l (d : Int) first most = ((xs.map (It.move d)).map It.q, endG d ((xs.map (It.move d)).map It.q)) := by
  have h : runG first most d 0 (scanF (l.drop d)).1 = (xs.map (It.move d)).map It.q := by
    have := runG_good (d := d) (xs.map It.q) [] 0 hg
    rw [List.append_nil, runG_nil, List.append_nil] at this
    rw [scan_is hc he, this, List.map_map, List.map_map]
    rfl
  unfold runF
  rw [if_neg (by omega), Int.toNat_natCast, h]
theorem runF_stop {l : List UInt8} {d p k : Nat} {first most : Int} {pre : List It} (hd : d ≤ l.length) (hc : Chain (l.drop d) (pre.map It.q) p) (hr : ∀ r, runG first most d 0 (pre.map It.q ++ r) = ((pre.take k).map (It.move d)).map It.q) :
    runF l (d : Int) first most = (((pre.take k).map (It.move d)).map It.q, endG d (((pre.take k).map (It.move d)).map It.q)) := by
  obtain ⟨r, hs⟩ := hc.pre
  have h : runG first most d 0 (scanF (l.drop d)).1 = ((pre.take k).map (It.move d)).map It.q := by rw [← hs]; exact hr r
  unfold runF
  rw [if_neg (by omega), Int.toNat_natCast, h]
theorem runF_none {l : List UInt8} {d : Nat} {first most : Int} (hd : d ≤ l.length) (hm : most ≤ 0) : runF l (d : Int) first most = ([], d) := by
  unfold runF
  rw [if_neg (by omega), Int.toNat_natCast, runG_full (by omega)]
  rfl
theorem cells_move {L : List UInt8} {x : It} (h : Pc.ok L x.q) {d P : Nat} (hP : x.q.at' + d = P) : It.cells (x.move d) = [.int .i64 (P : Int), .int .i64 (20 + (x.q.f.body.length : Int)), .int .i64 (x.q.f.kind : Int), .int .i64 (x.q.f.seq : Int), .slice x.a x.q.f.body.length x.c] := by
  subst hP
  unfold It.cells It.move Pc.move
  rw [h.size]
  simp
/-- A round that has taken its frame. -/
theorem run_step {w W wb w4 : World} {S d B P cap c4 : Nat} {first most : Int} {pre : List It} {x : It} {L : List UInt8} {av a4 : Option Addr} {u : Value}
    (hst : RunSt w S d first most (pre.map (It.move d)) W) (hok : Pc.ok L x.q) (hP : x.q.at' + d = P) (hbb : Below W.heap.size W wb)
    (hr : wb.ownsRow w.heap.size 55 5 (.slice av pre.length cap) pre.length ((pre.map (It.move d)).flatMap It.cells)) (hg : wb.grownBy w4 (Value.slice av pre.length cap).ownBlock)
    (k1 : Boxed w4 (w.heap.size + 1 + 1 + 1) 28 (.slice av pre.length cap)) (k2 : Boxed (w4.setCell ⟨w.heap.size + 1 + 1 + 1, 0, none⟩ (.slice a4 (pre.length + 1) c4)) (w.heap.size + 1 + 1 + 1) 28 (.slice a4 (pre.length + 1) c4))
    (k3 : Boxed (w4.setCell ⟨w.heap.size + 1 + 1 + 1, 0, none⟩ (.slice a4 (pre.length + 1) c4)) (w.heap.size + 1 + 1 + 1 + 1) 3 u)
    (k5 : (w4.setCell ⟨w.heap.size + 1 + 1 + 1, 0, none⟩ (.slice a4 (pre.length + 1) c4)).ownsRow w.heap.size 55 5 (.slice a4 (pre.length + 1) c4) (pre.length + 1) ((pre.map (It.move d)).flatMap It.cells ++ [.int .i64 (P : Int), .int .i64 (20 + (x.q.f.body.length : Int)), .int .i64 (x.q.f.kind : Int), .int .i64 (x.q.f.seq : Int), .slice x.a x.q.f.body.length x.c])) :
    KeepsFrom B W ((w4.setCell ⟨w.heap.size + 1 + 1 + 1, 0, none⟩ (.slice a4 (pre.length + 1) c4)).setCell ⟨w.heap.size + 1 + 1 + 1 + 1, 0, none⟩ (.int .i64 ((P : Int) + (x.q.size : Int)))) ∧
    KeepB w.heap.size W ((w4.setCell ⟨w.heap.size + 1 + 1 + 1, 0, none⟩ (.slice a4 (pre.length + 1) c4)).setCell ⟨w.heap.size + 1 + 1 + 1 + 1, 0, none⟩ (.int .i64 ((P : Int) + (x.q.size : Int)))) ∧
    RunSt w S d first most ((pre ++ [x]).map (It.move d)) ((w4.setCell ⟨w.heap.size + 1 + 1 + 1, 0, none⟩ (.slice a4 (pre.length + 1) c4)).setCell ⟨w.heap.size + 1 + 1 + 1 + 1, 0, none⟩ (.int .i64 ((P : Int) + (x.q.size : Int)))) := by
  obtain ⟨-, hg1, hat, hfst, hmost, hb, hsE⟩ := hst
  obtain ⟨q1, q2⟩ := app_keeps (B := B) (u' := .int .i64 ((P : Int) + (x.q.size : Int))) hbb hb.size hr hg k1 k3 (by omega) (by omega)
  have gs0 := grownBy_setCell' w4 (w.heap.size + 1 + 1 + 1) (.slice a4 (pre.length + 1) c4)
  have gs := grownBy_setCell' (w4.setCell ⟨w.heap.size + 1 + 1 + 1, 0, none⟩ (.slice a4 (pre.length + 1) c4)) (w.heap.size + 1 + 1 + 1 + 1) (.int .i64 ((P : Int) + (x.q.size : Int)))
  have keep : ∀ {Bk : Nat} {t : TypeId} {v : Value}, Boxed W Bk t v → (t == 55) = false → Bk < w.heap.size + 1 + 1 + 1 → Boxed ((w4.setCell ⟨w.heap.size + 1 + 1 + 1, 0, none⟩ (.slice a4 (pre.length + 1) c4)).setCell ⟨w.heap.size + 1 + 1 + 1 + 1, 0, none⟩ (.int .i64 ((P : Int) + (x.q.size : Int)))) Bk t v := by
    intro Bk t v h ht hlt
    have h3 := h.kept (grown_of_below hbb) (by simp)
    exact ((h3.kept hg (h3.not_row (by intro e; subst e; simp at ht) hr)).kept gs0 (fun e => by have := Option.some.inj e; omega)).kept gs (fun e => by have := Option.some.inj e; omega)
  refine ⟨q1, q2, ⟨a4, c4, ?_, ?_⟩, ?_, keep hat rfl (by omega), keep hfst rfl (by omega), keep hmost rfl (by omega), hb.trans q2.below, Nat.le_trans hsE q2.below.size⟩
  · rw [List.length_map, List.length_append, List.length_singleton]
    exact k2.kept gs (fun e => by have := Option.some.inj e; omega)
  · rw [List.length_map, List.length_append, List.length_singleton, List.map_append, List.flatMap_append, List.map_singleton, List.flatMap_singleton, cells_move hok hP]
    exact own_on k5 fun g cs _ _ hc => (gs.block _ (lt_of_block hc) (fun e => by
      obtain rfl : g = w.heap.size + 1 + 1 + 1 + 1 := by simpa using e
      rw [show (w4.setCell _ _).heap[w.heap.size + 1 + 1 + 1 + 1]? = _ from k3] at hc
      simp at hc)).trans hc
  · have e : ((endG d (((pre ++ [x]).map (It.move d)).map It.q) : Nat) : Int) = (P : Int) + (x.q.size : Int) := by
      rw [List.map_append, List.map_append, List.map_singleton, List.map_singleton, endG_snoc]
      unfold It.move Pc.move
      simp only
      omega
    rw [e]
    exact k3.set _
end Go.Proofs.YtffhejaeliphcaaDoor
