/-
  The walk of ScanEach. Conditions: the first argument reads as bytes, within the statement's own bound; the program's table of nibbles holds what its text lays.
-/
import Derived.Test.YtkaaabnahpmobaaDoorPhead
import Derived.Test.YtkaaabnahpmobaaDoorPrall
import Derived.Test.YtkaaabnahpmobaaDoorPrunst
import Derived.Test.YtkaaabnahpmobaaDoorStillIn
namespace Go.Proofs.YtkaaabnahpmobaaDoor
open Go.RowKit Go.Shelf
set_option linter.unusedVariables false
attribute [local go_sem] Oper.semAt_some

/-- Between two rounds of a walk over the iterator: what was there lies as it lay, the count of rounds lies in its variable. -/
structure EachSt (w5 : World) (k : Nat) (W : World) : Prop where
  below : Below w5.heap.size w5 W
  cnt : Boxed W w5.heap.size 3 (.int .i64 (k : Int))
  size : w5.heap.size + 1 ≤ W.heap.size
theorem EachSt.own {w5 : World} {k D : Nat} (hD : w5.heap.size + 1 ≤ D) {A B : World} {row : Option Nat} (h : EachSt w5 k A) (hg : A.grownBy B row) (hr : ∀ r, row = some r → D ≤ r) : EachSt w5 k B :=
  ⟨h.below.grown hg h.below.size fun j e => by have := hr j e; omega, h.cnt.kept hg fun e => by have := hr _ e.symm; omega, Nat.le_trans h.size hg.size⟩
theorem EachSt.zero {w5 W : World} {k : Nat} (h : EachSt w5 k W) : EachSt w5 0 (W.setCell ⟨w5.heap.size, 0, none⟩ (.int .i64 0)) :=
  ⟨h.below.trans ((Below.refl w5.heap.size W).grown (grownBy_setCell' W w5.heap.size _) h.below.size fun j e => by cases e; exact Nat.le_refl _), h.cnt.set _, by rw [World.size_setCell]; exact h.size⟩
/-- A round that counts itself. -/
theorem EachSt.round {w5 W wb : World} {k B : Nat} (h : EachSt w5 k W) (hb : Below W.heap.size W wb) :
    Boxed wb w5.heap.size 3 (.int .i64 (k : Int)) ∧ KeepsFrom B W (wb.setCell ⟨w5.heap.size, 0, none⟩ (.int .i64 ((k : Int) + 1))) ∧ KeepB w5.heap.size W (wb.setCell ⟨w5.heap.size, 0, none⟩ (.int .i64 ((k : Int) + 1))) ∧ EachSt w5 (k + 1) (wb.setCell ⟨w5.heap.size, 0, none⟩ (.int .i64 ((k : Int) + 1))) := by
  have h1 := h.cnt.kept (grown_of_below hb) (by simp)
  have hk : KeepB w5.heap.size W (wb.setCell ⟨w5.heap.size, 0, none⟩ (.int .i64 ((k : Int) + 1))) :=
    (KeepB.calls hb h.below.size).trans (KeepB.of (grownBy_setCell' wb w5.heap.size _) (Nat.le_trans h.below.size hb.size) fun j e => by
      cases e
      refine ⟨Nat.le_refl _, fun o ho => ?_⟩
      rw [show wb.heap[w5.heap.size]? = _ from h1] at ho; cases ho; rfl)
  refine ⟨h1, (KeepsFrom.of_grownBy (B := B) (grown_of_below hb) (fun j e => by cases e)).trans ((KeepsOthers.setCell _ _ _).from B), hk, ⟨h.below.trans hk.below, h1.set _, Nat.le_trans h.size hk.below.size⟩⟩
theorem results_bool {fn : Func} {p : Tmp} (h : fn.results = #[.cell p 4]) (tmps : Array Value) (w : World) (g : Nat) (b : Bool) (hp : tmps.getD p undef = .pointer (some ⟨g, 0, none⟩)) (hc : w.cell? ⟨g, 0, none⟩ = some (.bool b)) :
    (results fn tmps).run Tryd.prog w = .ok (.bool b) w := by
  simp only [results, h]
  simp only [Array.getD_eq_getD_getElem?] at hp
  simp [hp, asAddr, loadVar, isAgg, run_load, run_underlying Tryd.underlying4, go_sem, hc]
theorem each_end {w W : World} (hb : Below w.heap.size w W) (hl : w.heap.size + 1 < W.heap.size) (D2 D : Nat) (h2 : w.heap.size ≤ D2) (h1 : w.heap.size ≤ D) :
    Below w.heap.size w (((W.setCell ⟨w.heap.size + 1, 0, none⟩ (.bool true)).putObj D2 (.deferred none)).putObj D (.deferred none)) := by
  have b1 := hb.grown (grownBy_setCell' W (w.heap.size + 1) (.bool true)) hb.size (fun k e => by cases e; exact Nat.le_succ _)
  have b2 := b1.grown (grownBy_putObj' (W.setCell ⟨w.heap.size + 1, 0, none⟩ (.bool true)) D2 (.deferred none)) b1.size (fun k e => by cases e; exact h2)
  exact b2.grown (grownBy_putObj' _ D (.deferred none)) b2.size (fun k e => by cases e; exact h1)
theorem each_at {l : List UInt8} {pre : List It} {x : It} {zs : List It} (hz : zs.map It.q = (scanF l).1) (hc : Chain l (pre.map It.q) x.q.at') (hp : x.q.at' < l.length) (hd : decF (l.drop x.q.at') = (x.q.f, x.q.size, 0)) :
    ∃ z, zs[pre.length]? = some z ∧ z.q = x.q := by
  have h := (chain_map hc hp hd).pre
  rw [← hz] at h
  obtain ⟨t, ht⟩ := h
  have h1 : (zs.map It.q)[pre.length]? = some x.q := by
    rw [← ht, List.map_append, List.append_assoc, List.getElem?_append_right (by simp), List.length_map, Nat.sub_self]
    rfl
  rw [List.getElem?_map, Option.map_eq_some_iff] at h1
  exact h1
theorem each_le {l : List UInt8} {pre : List It} {zs : List It} {p : Nat} (hz : zs.map It.q = (scanF l).1) (hc : Chain l (pre.map It.q) p) : pre.length ≤ zs.length := by
  have h := hc.pre.length_le
  rw [← hz, List.length_map, List.length_map] at h
  exact h
theorem each_all {l : List UInt8} {xs : List It} {zs : List It} {p e : Nat} (hz : zs.map It.q = (scanF l).1) (hc : Chain l (xs.map It.q) p) (he : EndsAt l p e) : xs.length = zs.length := by
  have h := congrArg List.length hz
  rw [scan_is hc he, List.length_map, List.length_map] at h
  exact h.symm

set_option maxRecDepth 100000 in
set_option maxHeartbeats 4000000 in
theorem each_walk (a : Option Addr) (n c : Nat) (l : List UInt8) (stop : Int) (w : World) (r : RowAt w a n c 1 (l.map B)) (hs : n ≤ 1048576) (s0 : -9223372036854775808 ≤ stop) (s1 : stop ≤ 9223372036854775807) (ht : Tab w) :
    Calls Tryd.prog 4 #[.slice a n c, .int .i64 stop] w fun e w' => e = .returned (.bool true) ∧ Below w.heap.size w w' := by
  have hml : l.length = n := by simpa using r.len
  have HL := Lib.hid hml
  have hn40 : n ≤ 1099511627776 := Nat.le_trans hs (by decide)
  clear hml
  refine (callsIn_wide (n := 3)).1 ?_
  refine callsIn_of_wp_marks Tryd.func4 rfl trivial ?_ rfl
  simp only [Tryd.ntmps4, List.size_toArray, List.length_cons, List.length_nil, Nat.reduceAdd, Nat.reduceSub, Array.replicate_succ, Array.replicate_zero, List.push_toArray, List.append_toArray, List.nil_append, List.cons_append]
  have h13 : 1 ≤ 3 := by omega
  have hnil : ∀ (wx : World) (p : Nat), (binOp .eql 39 (.func (.func 25) #[] #[.pointer (some ⟨p, 0, none⟩)]) .nilFunc).run Tryd.prog wx = .ok (.bool false) wx := fun wx p => by kernel_rfl
  have hbS := below_made w (.cells #[.int .i64 stop] 3)
  have hbR := below_made (w.alloc (.cells #[.int .i64 stop] 3)) (.cells #[.bool false] 4)
  have hb0 := below_next hbS hbR
  have xS := (Boxed.new w 3 (.int .i64 stop)).alloc (.cells #[.bool false] 4)
  have xR := box_new1 w (.cells #[.int .i64 stop] 3) 4 (.bool false)
  have rr := r.below hb0
  have tt := ht.below hb0
  gi_wp2_with (first
    | (refine ⟨trivial, ?_⟩; gi_at_call 9; refine (callsIn_wide.2 (phead_any _ tt)).mono ?_; rintro e w1 ⟨rfl, hb1⟩; have r1 := rr.below hb1; have t1 := tt.below hb1; have c1 := below_next hb0 hb1; have y1 := xS.kept (grown_of_below hb1) (by simp); have z1 := xR.kept (grown_of_below hb1) (by simp))
    | (refine ⟨trivial, ?_⟩; gi_at_call 11; refine (callsIn_wide.2 (rall_any _ _ _ l _ hn40 r1)).mono ?_; rintro e w2 ⟨zs, az, cz, hzq, rfl, hpz, hb2⟩; have hm3 := below_made w2 (.cells #[.slice az zs.length cz] 25); have hb3 := below_next hb2 hm3; have r3 := r1.below hb3; have t3 := t1.below hb3; have c3 := below_next c1 hb3; have y3 := y1.kept (grown_of_below hb3) (by simp); have z3 := z1.kept (grown_of_below hb3) (by simp); have p3 := ((hpz.rd rfl).below hm3); have v3 := Boxed.new w2 25 (.slice az zs.length cz))
    | (refine ⟨trivial, ?_⟩; gi_at_call 10; refine (callsIn_wide.2 (copy_any _ _ _ l _ (by omega) r3)).mono ?_; rintro e w4 ⟨a4, c4, rfl, ho4, hb4⟩; rw [HL.out] at ho4 ⊢; have t4 := t3.below hb4; have x4 := below_next c3 hb4; have y4 := y3.kept (grown_of_below hb4) (by simp); have z4 := z3.kept (grown_of_below hb4) (by simp); have p4 := p3.below hb4; have v4 := v3.kept (grown_of_below hb4) (by simp); have r4 := own_rowAt ho4)
    | (refine ⟨trivial, ?_⟩; gi_at_call 15; refine (callsIn_wide.2 (seach_any _ _ _ _)).mono ?_; rintro e w' ⟨rfl, rfl⟩; have hm5 := below_made w4 (.cells #[.slice a4 n c4] 22)))
  have hbm := below_made w4 (.cells #[.slice a4 n c4] 22)
  have hnew := World.alloc_heap_new w4 (.cells #[.slice a4 n c4] 22)
  have hs5 : (w4.alloc (.cells #[.slice a4 n c4] 22)).heap.size = w4.heap.size + 1 := by simp
  have r5 := r4.below hbm
  have t5 := t4.below hbm
  have x5 := below_next x4 hbm
  have y5 := y4.kept (grown_of_below hbm) (by simp)
  have z5 := z4.kept (grown_of_below hbm) (by simp)
  have v5 := v4.kept (grown_of_below hbm) (by simp)
  have p5 := p4.below hbm
  have hl0 : w2.heap.size < w4.heap.size := v4.lt
  have hl1 : w.heap.size + 1 < w4.heap.size := z4.lt
  obtain ⟨w5, hw5⟩ : ∃ w5, w4.alloc (.cells #[.slice a4 n c4] 22) = w5 := ⟨_, rfl⟩
  rw [hw5] at hnew hs5 r5 t5 x5 y5 z5 v5 p5 ⊢
  obtain ⟨b2, hb2'⟩ : ∃ b2, w2.heap.size = b2 := ⟨_, rfl⟩
  obtain ⟨b4, hb4'⟩ : ∃ b4, w4.heap.size = b4 := ⟨_, rfl⟩
  obtain ⟨nz, hnz⟩ : ∃ nz, zs.length = nz := ⟨_, rfl⟩
  rw [hb2'] at v5 hl0 ⊢
  rw [hb4'] at hnew hs5 hl0 hl1 ⊢
  rw [hnz] at v5 p5 ⊢
  rw [← hs5]
  have HZQ := Lib.hid hzq
  have HNZ := Lib.hid hnz
  clear hbS hbR hb0 xS xR rr tt hb1 r1 t1 c1 y1 z1 hpz hb2 hm3 hb3 r3 t3 c3 y3 z3 p3 v3 ho4 hb4 t4 x4 y4 z4 p4 v4 r4 hm5 hbm hw5 hzq hnz hb2' hb4'
  have hz0 : ∀ W, Below w5.heap.size w5 W → Boxed W w.heap.size 3 (.int .i64 stop) ∧ Boxed W (w.heap.size + 1) 4 (.bool false) ∧ Boxed W b2 25 (.slice az nz cz) ∧ PlsRd az nz cz zs W := fun W h =>
    ⟨y5.kept (grown_of_below h) (by simp), z5.kept (grown_of_below h) (by simp), v5.kept (grown_of_below h) (by simp), p5.below h⟩
  have HOLD := Lib.hid hz0
  have hbE := below_made w5 (.cells #[.int .i64 0] 3)
  have st0 : EachSt w5 0 (w5.alloc (.cells #[.int .i64 0] 3)) := ⟨hbE, Boxed.new w5 _ _, by simp⟩
  have hxE := below_blk2 hbE hnew
  obtain ⟨wE, hwE⟩ : ∃ wE, w5.alloc (.cells #[.int .i64 0] 3) = wE := ⟨_, rfl⟩
  have hsE : wE.heap.size = w5.heap.size + 1 := by rw [← hwE]; simp
  rw [hwE] at hbE st0 hxE ⊢
  have HSE := Lib.hid hsE
  have HS5 := Lib.hid hs5
  clear hwE hz0 hs5 hsE
  refine rangeBy rfl h13 (gf := 25) (lb := #[.pointer (some ⟨b4, 0, none⟩)]) rfl trivial (enters_of Tryd.func25 (by kernel_rfl) rfl)
    (each_goes w5 wE hbE b4 a4 n c4 l r5 t5 hxE 2 (by omega)) (Below.refl _ _) (fun _ => rfl) (fun h k => KeepB.trans h k) (keepB_put (by have := HSE.out; omega)) wayE_sees wayE_ends wayE_left
    (fun pre W => EachSt w5 pre.length W ∧ ∀ j : Nat, 1 ≤ j → j ≤ pre.length → (j : Int) ≠ stop)
    (fun cc pre W => cc = .exit 0 ∧ EachSt w5 pre.length W ∧ (pre.length : Int) = stop ∧ 1 ≤ pre.length)
    ?own ?ownx ?start
    (fun x a' W => ∃ Bx, wE.heap.size ≤ Bx ∧ W.heap[Bx]? = some (.cells #[.int .i64 (x.q.f.kind : Int), .int .i64 (x.q.f.seq : Int), .slice x.a x.q.f.body.length x.c] 34 (0, 0)) ∧
      a' = { tmps := #[.slice a n c, .int .i64 stop, undef, .pointer (some ⟨w.heap.size, 0, none⟩), .pointer (some ⟨w.heap.size + 1, 0, none⟩), .pointer (some ⟨b2, 0, none⟩), .int .i64 ((scanF l).2.1 : Int), .int .i64 ((scanF l).2.2 : Int), .func (.func 25) #[] #[.pointer (some ⟨b4, 0, none⟩)], .pointer (some ⟨w5.heap.size, 0, none⟩), .int .i64 (x.q.at' : Int), .pointer (some ⟨Bx, 0, none⟩), undef, undef, .bool true, .bool false, .tuple #[.slice az nz cz, .int .i64 ((scanF l).2.1 : Int), .int .i64 ((scanF l).2.2 : Int)], .slice a n c, .tuple #[.slice az nz cz, .int .i64 ((scanF l).2.1 : Int), .int .i64 ((scanF l).2.2 : Int)], .slice az nz cz, .int .i64 ((scanF l).2.1 : Int), .int .i64 ((scanF l).2.2 : Int), .slice a n c, .slice a4 n c4, .func (.func 25) #[] #[.pointer (some ⟨b4, 0, none⟩)], .func (.func 25) #[] #[.pointer (some ⟨b4, 0, none⟩)], .bool false, .func (.func 25) #[] #[.pointer (some ⟨b4, 0, none⟩)], .int .i64 (x.q.at' : Int), x.fr, undef, undef, undef, undef, undef, undef, undef, undef, undef, undef, undef, undef, undef, undef, undef, undef, undef, undef, undef, undef, undef, undef, undef, undef, undef, undef, undef, undef, undef, undef, undef, undef, undef, undef, undef, undef, undef, undef, undef, undef, undef, undef, undef, undef, undef, undef, undef, undef, undef, undef, undef, undef, undef, undef, undef, undef, undef, undef, undef, undef, undef, undef, undef], defers := [] })
    ?ax ?assign ?body ?done ?stop
  case own =>
    rintro pre A Bw row ⟨h1, h2⟩ hg hr
    exact ⟨h1.own (D := wE.heap.size) (by have := HSE.out; omega) hg fun r e => (hr r e).1, h2⟩
  case ownx =>
    rintro cc pre A Bw row ⟨h0, h1, h2⟩ hg hr
    exact ⟨h0, h1.own (D := wE.heap.size) (by have := HSE.out; omega) hg fun r e => (hr r e).1, h2⟩
  case start => exact ⟨st0, fun j h1 h2 => by simp at h2; omega⟩
  case ax =>
    rintro x a1 s A Bw row ⟨Bx, hBx, hfx, rfl⟩ hg hr
    refine ⟨Bx, hBx, (hg.block _ (lt_of_block hfx) fun e => ?_).trans hfx, rfl⟩
    obtain ⟨_, o, ho, hoc⟩ := hr Bx e.symm
    rw [hfx] at ho; cases ho; cases hoc
  case assign =>
    intro lp pre x W K hi hs hK
    dsimp only [wayE, It.fr]
    gi_wp2
    have hm := below_made W (.cells #[.int .i64 (x.q.f.kind : Int), .int .i64 (x.q.f.seq : Int), .slice x.a x.q.f.body.length x.c] 34)
    have hkb := KeepB.calls hm hi.1.below.size
    exact hK _ _ ((KeepsOthers.alloc _ _).from _) hkb ⟨hi.1.own (D := wE.heap.size) (by have := HSE.out; omega) (grown_of_below hm) (fun r e => by cases e), hi.2⟩ ⟨hs.1, hs.2.1, hs.2.2.1, hs.2.2.2.keep hkb⟩ ⟨W.heap.size, by have := hi.1.size; have := HSE.out; omega, World.alloc_heap_new _ _, rfl⟩
  case body =>
    rintro lp pre x a0 W hl ⟨hst, hns⟩ ⟨hc2, hpl, hdec, hbod⟩ ⟨Bx, hBx, hfx, rfl⟩
    obtain ⟨z, hz, hzx⟩ := each_at HZQ.out hc2 hpl hdec
    obtain ⟨o0, o1, o2, o3⟩ := HOLD.out W hst.below
    have hkl : pre.length < nz := by rw [← HNZ.out]; exact (List.getElem?_eq_some_iff.1 hz).1
    obtain ⟨bb, off, z', rfl, hz', p0, p1, p2, p3, p4, pz⟩ := o3.at pre.length hkl
    obtain rfl : z = z' := Option.some.inj (hz.symm.trans hz')
    rw [hzx] at p0 p1 p2 p3 p4 pz
    have px := own_rowAt (hbod x (by simp))
    have c0 : W.cell? ⟨Bx, 0, none⟩ = some (.int .i64 (x.q.f.kind : Int)) := cell_blk hfx rfl
    have c1 : W.cell? ⟨Bx, 1, none⟩ = some (.int .i64 (x.q.f.seq : Int)) := cell_blk hfx rfl
    have c2 : W.cell? ⟨Bx, 2, none⟩ = some (.slice x.a x.q.f.body.length x.c) := cell_blk hfx rfl
    have cn := hst.cnt.cell
    have fn := hst.cnt.frozen
    have cz' := o2.cell
    have cs := o0.cell
    have hf := fun wx rx ry => fsame_any (x.q.f.kind : Int) (x.q.f.seq : Int) x.a x.q.f.body.length x.c x.q.f.body (x.q.f.kind : Int) (x.q.f.seq : Int) z.a x.q.f.body.length z.c x.q.f.body wx rx ry
    rw [frEq_refl] at hf
    have HF := Lib.hid hf
    dsimp only [It.fr]
    have e1 : decide ((nz : Int) ≤ (pre.length : Int)) = false := decide_eq_false (by omega)
    have e2 : ((x.q.at' : Int) != (x.q.at' : Int)) = false := by simp
    have hm1 := o3.1.2.1
    have hm2 := o3.1.2.2.1
    unfold maxLen at hm2
    have HST := Lib.hid hst
    have HNS := Lib.hid hns
    have HC2 := Lib.hid (And.intro hc2 (And.intro hpl (And.intro hdec hbod)))
    clear hf hc2 hpl hdec hbod hz hz' hzx o0 o1 o2 o3 hst hns
    gi_wp2
    refine wpIn_region_still_tail 20 (by kernel_rfl) (by kernel_rfl) ?_
    simp only [List.take_succ_cons, List.take_zero, List.drop_succ_cons, List.drop_zero]
    repeat still_step
    try refine wpStill_nil ?_
    change wpListIn _ _ _ _ _ _ _ W.drew
    have px' := rowAt_drew px
    have pz' := rowAt_drew pz
    obtain ⟨bq, hbq⟩ : ∃ bq, decide ((pre.length : Int) + 1 = stop) = bq := ⟨_, rfl⟩
    have e3 : (((pre.length : Int) + 1) == stop) = bq := by rw [← hbq]; rfl
    have HBQ := Lib.hid hbq
    clear px pz c0 c1 c2 cn fn cz' cs p0 p1 p2 p3 p4 hbq
    cases bq with
    | true =>
      gi_wp2_with (first
        | (refine ⟨trivial, ?_⟩; gi_at_call 16; refine (CallsIn.inRound lp (callsIn_wide.2 (HF.out _ (by exact px') (by exact pz')))).mono ?_; rintro e w6 ⟨rfl, hb6⟩; have hb6' := below_undrew hb6; obtain ⟨k1, k2, k3, k4⟩ := HST.out.round (B := wE.heap.size) hb6'; have cn6 := k1.cell; have fn6 := k1.frozen; have cn7 : _ = some (Value.int .i64 ((pre.length : Int) + 1)) := k4.cnt.cell; have cs7 := (HOLD.out _ k4.below).1.cell))
      exact ⟨k2, k3, rfl, by rw [List.length_append, List.length_singleton]; exact k4, by rw [List.length_append, List.length_singleton]; have := of_decide_eq_true HBQ.out; omega, by rw [List.length_append, List.length_singleton]; omega⟩
    | false =>
      gi_wp2_with (first
        | (refine ⟨trivial, ?_⟩; gi_at_call 16; refine (CallsIn.inRound lp (callsIn_wide.2 (HF.out _ (by exact px') (by exact pz')))).mono ?_; rintro e w6 ⟨rfl, hb6⟩; have hb6' := below_undrew hb6; obtain ⟨k1, k2, k3, k4⟩ := HST.out.round (B := wE.heap.size) hb6'; have cn6 := k1.cell; have fn6 := k1.frozen; have cn7 : _ = some (Value.int .i64 ((pre.length : Int) + 1)) := k4.cnt.cell; have cs7 := (HOLD.out _ k4.below).1.cell))
      refine ⟨k2, k3, by rw [List.length_append, List.length_singleton]; exact k4, fun j h1 h2 => ?_⟩
      rw [List.length_append, List.length_singleton] at h2
      by_cases hj : j ≤ pre.length
      · exact HNS.out j h1 hj
      · have := of_decide_eq_false HBQ.out
        omega
  case done =>
    rintro D xs W hD ⟨⟨p', e, hch, hend⟩, hbod⟩ ⟨hst, hns⟩ hK
    have hk : xs.length = nz := (each_all HZQ.out hch hend).trans HNZ.out
    rw [hk] at hst hns
    obtain ⟨o0, o1, o2, o3⟩ := HOLD.out W hst.below
    have cn := hst.cnt.cell
    have fn := hst.cnt.frozen
    have cz' := o2.cell
    have cs := o0.cell
    have e4 : ((nz : Int) != (nz : Int)) = false := by simp
    have hzz := hst.zero
    have HK := Lib.hid hK
    have HH := Lib.hid hzz
    have HD := Lib.hid hD
    by_cases h0 : 0 < stop
    · have h9 : ¬ stop < (nz : Int) := fun h => hns stop.toNat (by omega) (by omega) (by omega)
      clear hns hK hzz hD hch hend hbod o0 o1 o2 o3 hst hk
      gi_wp2
      obtain ⟨W1, hW1⟩ : ∃ W1, W.setCell ⟨w5.heap.size, 0, none⟩ (.int .i64 0) = W1 := ⟨_, rfl⟩
      have hst1 := HH.out
      have hK1 := HK.out
      have hK2 : W1.heap[D]? = some (.deferred (some [])) := by
        rw [← hW1, heap_setCell_other _ _ _ _ (by have := HD.out; have := HSE.out; show D ≠ w5.heap.size; omega)]
        exact hK1
      rw [hW1] at hst1 ⊢
      have hx1 : W1.heap[b4]? = some (.cells #[.slice a4 n c4] 22 (0, 0)) := (hst1.below.block b4 (lt_of_block hnew)).trans hnew
      clear hW1 hK1 HH HK cn fn cz' cs
      have hDl : D < W1.heap.size := lt_of_block hK2
      have hs1 := hst1.size
      refine rangeBy rfl h13 (gf := 25) (lb := #[.pointer (some ⟨b4, 0, none⟩)]) rfl trivial (enters_of Tryd.func25 (by kernel_rfl) rfl)
        (each_goes w5 W1 hst1.below b4 a4 n c4 l r5 t5 hx1 2 (by omega)) (Below.refl _ _) (fun _ => rfl) (fun h k => KeepB.trans h k) (keepB_put (by omega)) wayE_sees wayE_ends wayE_left
        (fun pre W => EachSt w5 pre.length W ∧ W.heap[D]? = some (.deferred (some [])))
        (fun _ _ _ => False)
        ?own (fun _ _ _ _ _ h _ _ => h) ?start
        (fun x a' W => ∃ u12 u58 u59 u60 u61 u62 u63 u64 u65 u66 u67 u68 u69 u70, a' = { tmps := #[.slice a n c, .int .i64 stop, undef, .pointer (some ⟨w.heap.size, 0, none⟩), .pointer (some ⟨w.heap.size + 1, 0, none⟩), .pointer (some ⟨b2, 0, none⟩), .int .i64 ((scanF l).2.1 : Int), .int .i64 ((scanF l).2.2 : Int), .func (.func 25) #[] #[.pointer (some ⟨b4, 0, none⟩)], .pointer (some ⟨w5.heap.size, 0, none⟩), undef, undef, u12, .int .i64 (x.q.at' : Int), .bool true, .bool false, .tuple #[.slice az nz cz, .int .i64 ((scanF l).2.1 : Int), .int .i64 ((scanF l).2.2 : Int)], .slice a n c, .tuple #[.slice az nz cz, .int .i64 ((scanF l).2.1 : Int), .int .i64 ((scanF l).2.2 : Int)], .slice az nz cz, .int .i64 ((scanF l).2.1 : Int), .int .i64 ((scanF l).2.2 : Int), .slice a n c, .slice a4 n c4, .func (.func 25) #[] #[.pointer (some ⟨b4, 0, none⟩)], .func (.func 25) #[] #[.pointer (some ⟨b4, 0, none⟩)], .bool false, .func (.func 25) #[] #[.pointer (some ⟨b4, 0, none⟩)], undef, undef, undef, undef, undef, undef, undef, undef, undef, undef, undef, undef, undef, undef, undef, undef, undef, undef, undef, undef, undef, undef, undef, undef, undef, undef, undef, undef, undef, undef, u58, u59, u60, u61, u62, u63, u64, u65, u66, u67, u68, u69, u70, .func (.func 25) #[] #[.pointer (some ⟨b4, 0, none⟩)], .int .i64 (x.q.at' : Int), x.fr, undef, undef, undef, undef, undef, undef, undef, undef, undef, undef, undef, undef, undef, undef, undef, undef, undef, undef, undef], defers := [] })
        ?ax ?assign ?body ?done (fun _ _ _ _ _ _ h _ => h.elim)
      case own =>
        rintro pre A Bw row ⟨h1, h2⟩ hg hr
        refine ⟨h1.own (D := W1.heap.size) (by omega) hg fun r e => (hr r e).1, (hg.block _ (lt_of_block h2) fun e => ?_).trans h2⟩
        have := (hr D e.symm).1
        omega
      case start => exact ⟨hst1, hK2⟩
      case ax =>
        rintro x a1 s A Bw row h hg hr
        exact h
      case assign =>
        intro lp pre x W K hi hs hK
        dsimp only [wayE, It.fr]
        gi_wp2
        exact hK _ _ (KeepsFrom.refl _ _) (KeepB.refl _ _) hi hs ⟨_, _, _, _, _, _, _, _, _, _, _, _, _, _, rfl⟩
      case body =>
        rintro lp pre x a0 W hl ⟨hst, hKD⟩ ⟨hc2, hpl, hdec, hbod⟩ ⟨u12, u58, u59, u60, u61, u62, u63, u64, u65, u66, u67, u68, u69, u70, rfl⟩
        obtain ⟨z, hz, hzx⟩ := each_at HZQ.out hc2 hpl hdec
        obtain ⟨o0, o1, o2, o3⟩ := HOLD.out W hst.below
        have hkl : pre.length < nz := by rw [← HNZ.out]; exact (List.getElem?_eq_some_iff.1 hz).1
        obtain ⟨bb, off, z', rfl, hz', p0, p1, p2, p3, p4, pz⟩ := o3.at pre.length hkl
        obtain rfl : z = z' := Option.some.inj (hz.symm.trans hz')
        rw [hzx] at p0
        have cn := hst.cnt.cell
        have fn := hst.cnt.frozen
        have cz' := o2.cell
        have e1 : decide ((nz : Int) ≤ (pre.length : Int)) = false := decide_eq_false (by omega)
        have e2 : ((x.q.at' : Int) != (x.q.at' : Int)) = false := by simp
        have hm1 := o3.1.2.1
        have hm2 := o3.1.2.2.1
        unfold maxLen at hm2
        have HST := Lib.hid hst
        have HKD := Lib.hid hKD
        clear hc2 hpl hdec hbod hz hz' hzx o0 o1 o2 o3 hst hKD p1 p2 p3 p4 pz
        dsimp only [It.fr]
        gi_wp2
        obtain ⟨k1, k2, k3, k4⟩ := HST.out.round (B := W1.heap.size) (Below.refl W.heap.size W)
        refine ⟨k2, k3, by rw [List.length_append, List.length_singleton]; exact k4, ?_⟩
        have hne : D ≠ w5.heap.size := by have := HD.out; have := HSE.out; omega
        exact (heap_setCell_other _ _ _ _ hne).trans HKD.out
      case done =>
        rintro D2 xs W hD2 ⟨⟨p', e, hch, hend⟩, hbod⟩ ⟨hst, hKD⟩ hK
        have hk : xs.length = nz := (each_all HZQ.out hch hend).trans HNZ.out
        rw [hk] at hst
        obtain ⟨o0, o1, o2, o3⟩ := HOLD.out W hst.below
        have cn := hst.cnt.cell
        have cz' := o2.cell
        have cr := o1.cell
        have fr := o1.frozen
        have e4 : ((nz : Int) == (nz : Int)) = true := by simp
        clear hch hend hbod o0 o2 o3 hk
        gi_wp2
        have b1 : Below w.heap.size w W := x5.trans (hst.below.mono x5.size)
        have f1 := HD.out
        have f2 := HSE.out
        have f3 := HS5.out
        have ne2 : D2 ≠ w.heap.size + 1 := by omega
        have ne1 : D ≠ w.heap.size + 1 := by omega
        have d2 : (W.setCell ⟨w.heap.size + 1, 0, none⟩ (.bool true)).heap[D2]? = some (.deferred (some [])) := (heap_setCell_other _ _ _ _ ne2).trans hK
        have d1 : ((W.setCell ⟨w.heap.size + 1, 0, none⟩ (.bool true)).putObj D2 (.deferred none)).heap[D]? = some (.deferred (some [])) := (World.putObj_heap_other (by omega)).trans ((heap_setCell_other _ _ _ _ ne1).trans hKD)
        have q1 := ((o1.set (.bool true)).kept (grownBy_putObj' _ D2 (.deferred none)) (by simp; omega)).kept (grownBy_putObj' _ D (.deferred none)) (by simp; omega)
        have b9 := each_end b1 (by have := o1.lt; omega) D2 D (by omega) (by omega)
        refine ⟨by simp, .inl ⟨_, _, rfl, run_takeDeferred d2, ?_⟩⟩
        refine ⟨by simp, .inl ⟨_, _, rfl, run_takeDeferred d1, ?_⟩⟩
        exact ⟨_, results_bool rfl _ _ _ true rfl q1.cell, rfl, b9⟩
    · clear hns hK hzz hD hch hend hbod o0 o1 o2 o3 hst hk
      gi_wp2
      obtain ⟨W1, hW1⟩ : ∃ W1, W.setCell ⟨w5.heap.size, 0, none⟩ (.int .i64 0) = W1 := ⟨_, rfl⟩
      have hst1 := HH.out
      have hK1 := HK.out
      have hK2 : W1.heap[D]? = some (.deferred (some [])) := by
        rw [← hW1, heap_setCell_other _ _ _ _ (by have := HD.out; have := HSE.out; show D ≠ w5.heap.size; omega)]
        exact hK1
      rw [hW1] at hst1 ⊢
      have hx1 : W1.heap[b4]? = some (.cells #[.slice a4 n c4] 22 (0, 0)) := (hst1.below.block b4 (lt_of_block hnew)).trans hnew
      clear hW1 hK1 HH HK cn fn cz' cs
      have hDl : D < W1.heap.size := lt_of_block hK2
      have hs1 := hst1.size
      refine rangeBy rfl h13 (gf := 25) (lb := #[.pointer (some ⟨b4, 0, none⟩)]) rfl trivial (enters_of Tryd.func25 (by kernel_rfl) rfl)
        (each_goes w5 W1 hst1.below b4 a4 n c4 l r5 t5 hx1 2 (by omega)) (Below.refl _ _) (fun _ => rfl) (fun h k => KeepB.trans h k) (keepB_put (by omega)) wayE_sees wayE_ends wayE_left
        (fun pre W => EachSt w5 pre.length W ∧ W.heap[D]? = some (.deferred (some [])))
        (fun _ _ _ => False)
        ?own (fun _ _ _ _ _ h _ _ => h) ?start
        (fun x a' W => ∃ u12 u58 u59 u60 u61 u62 u63 u64 u65 u66 u67 u68 u69 u70, a' = { tmps := #[.slice a n c, .int .i64 stop, undef, .pointer (some ⟨w.heap.size, 0, none⟩), .pointer (some ⟨w.heap.size + 1, 0, none⟩), .pointer (some ⟨b2, 0, none⟩), .int .i64 ((scanF l).2.1 : Int), .int .i64 ((scanF l).2.2 : Int), .func (.func 25) #[] #[.pointer (some ⟨b4, 0, none⟩)], .pointer (some ⟨w5.heap.size, 0, none⟩), undef, undef, u12, .int .i64 (x.q.at' : Int), .bool true, .bool false, .tuple #[.slice az nz cz, .int .i64 ((scanF l).2.1 : Int), .int .i64 ((scanF l).2.2 : Int)], .slice a n c, .tuple #[.slice az nz cz, .int .i64 ((scanF l).2.1 : Int), .int .i64 ((scanF l).2.2 : Int)], .slice az nz cz, .int .i64 ((scanF l).2.1 : Int), .int .i64 ((scanF l).2.2 : Int), .slice a n c, .slice a4 n c4, .func (.func 25) #[] #[.pointer (some ⟨b4, 0, none⟩)], .func (.func 25) #[] #[.pointer (some ⟨b4, 0, none⟩)], .bool false, .func (.func 25) #[] #[.pointer (some ⟨b4, 0, none⟩)], undef, undef, undef, undef, undef, undef, undef, undef, undef, undef, undef, undef, undef, undef, undef, undef, undef, undef, undef, undef, undef, undef, undef, undef, undef, undef, undef, undef, undef, undef, u58, u59, u60, u61, u62, u63, u64, u65, u66, u67, u68, u69, u70, .func (.func 25) #[] #[.pointer (some ⟨b4, 0, none⟩)], .int .i64 (x.q.at' : Int), x.fr, undef, undef, undef, undef, undef, undef, undef, undef, undef, undef, undef, undef, undef, undef, undef, undef, undef, undef, undef], defers := [] })
        ?ax ?assign ?body ?done (fun _ _ _ _ _ _ h _ => h.elim)
      case own =>
        rintro pre A Bw row ⟨h1, h2⟩ hg hr
        refine ⟨h1.own (D := W1.heap.size) (by omega) hg fun r e => (hr r e).1, (hg.block _ (lt_of_block h2) fun e => ?_).trans h2⟩
        have := (hr D e.symm).1
        omega
      case start => exact ⟨hst1, hK2⟩
      case ax =>
        rintro x a1 s A Bw row h hg hr
        exact h
      case assign =>
        intro lp pre x W K hi hs hK
        dsimp only [wayE, It.fr]
        gi_wp2
        exact hK _ _ (KeepsFrom.refl _ _) (KeepB.refl _ _) hi hs ⟨_, _, _, _, _, _, _, _, _, _, _, _, _, _, rfl⟩
      case body =>
        rintro lp pre x a0 W hl ⟨hst, hKD⟩ ⟨hc2, hpl, hdec, hbod⟩ ⟨u12, u58, u59, u60, u61, u62, u63, u64, u65, u66, u67, u68, u69, u70, rfl⟩
        obtain ⟨z, hz, hzx⟩ := each_at HZQ.out hc2 hpl hdec
        obtain ⟨o0, o1, o2, o3⟩ := HOLD.out W hst.below
        have hkl : pre.length < nz := by rw [← HNZ.out]; exact (List.getElem?_eq_some_iff.1 hz).1
        obtain ⟨bb, off, z', rfl, hz', p0, p1, p2, p3, p4, pz⟩ := o3.at pre.length hkl
        obtain rfl : z = z' := Option.some.inj (hz.symm.trans hz')
        rw [hzx] at p0
        have cn := hst.cnt.cell
        have fn := hst.cnt.frozen
        have cz' := o2.cell
        have e1 : decide ((nz : Int) ≤ (pre.length : Int)) = false := decide_eq_false (by omega)
        have e2 : ((x.q.at' : Int) != (x.q.at' : Int)) = false := by simp
        have hm1 := o3.1.2.1
        have hm2 := o3.1.2.2.1
        unfold maxLen at hm2
        have HST := Lib.hid hst
        have HKD := Lib.hid hKD
        clear hc2 hpl hdec hbod hz hz' hzx o0 o1 o2 o3 hst hKD p1 p2 p3 p4 pz
        dsimp only [It.fr]
        gi_wp2
        obtain ⟨k1, k2, k3, k4⟩ := HST.out.round (B := W1.heap.size) (Below.refl W.heap.size W)
        refine ⟨k2, k3, by rw [List.length_append, List.length_singleton]; exact k4, ?_⟩
        have hne : D ≠ w5.heap.size := by have := HD.out; have := HSE.out; omega
        exact (heap_setCell_other _ _ _ _ hne).trans HKD.out
      case done =>
        rintro D2 xs W hD2 ⟨⟨p', e, hch, hend⟩, hbod⟩ ⟨hst, hKD⟩ hK
        have hk : xs.length = nz := (each_all HZQ.out hch hend).trans HNZ.out
        rw [hk] at hst
        obtain ⟨o0, o1, o2, o3⟩ := HOLD.out W hst.below
        have cn := hst.cnt.cell
        have cz' := o2.cell
        have cr := o1.cell
        have fr := o1.frozen
        have e4 : ((nz : Int) == (nz : Int)) = true := by simp
        clear hch hend hbod o0 o2 o3 hk
        gi_wp2
        have b1 : Below w.heap.size w W := x5.trans (hst.below.mono x5.size)
        have f1 := HD.out
        have f2 := HSE.out
        have f3 := HS5.out
        have ne2 : D2 ≠ w.heap.size + 1 := by omega
        have ne1 : D ≠ w.heap.size + 1 := by omega
        have d2 : (W.setCell ⟨w.heap.size + 1, 0, none⟩ (.bool true)).heap[D2]? = some (.deferred (some [])) := (heap_setCell_other _ _ _ _ ne2).trans hK
        have d1 : ((W.setCell ⟨w.heap.size + 1, 0, none⟩ (.bool true)).putObj D2 (.deferred none)).heap[D]? = some (.deferred (some [])) := (World.putObj_heap_other (by omega)).trans ((heap_setCell_other _ _ _ _ ne1).trans hKD)
        have q1 := ((o1.set (.bool true)).kept (grownBy_putObj' _ D2 (.deferred none)) (by simp; omega)).kept (grownBy_putObj' _ D (.deferred none)) (by simp; omega)
        have b9 := each_end b1 (by have := o1.lt; omega) D2 D (by omega) (by omega)
        refine ⟨by simp, .inl ⟨_, _, rfl, run_takeDeferred d2, ?_⟩⟩
        refine ⟨by simp, .inl ⟨_, _, rfl, run_takeDeferred d1, ?_⟩⟩
        exact ⟨_, results_bool rfl _ _ _ true rfl q1.cell, rfl, b9⟩
  case stop =>
    rintro D cc pre W hD ⟨⟨p', hch⟩, hbod⟩ ⟨rfl, hst, hks, hk1⟩ hK
    have hk : pre.length ≤ nz := by rw [← HNZ.out]; exact each_le HZQ.out hch
    obtain ⟨o0, o1, o2, o3⟩ := HOLD.out W hst.below
    obtain ⟨k, hkk⟩ : ∃ k, pre.length = k := ⟨_, rfl⟩
    rw [hkk] at hst hk1 hk hks
    have cn := hst.cnt.cell
    have fn := hst.cnt.frozen
    have cz' := o2.cell
    have cs := o0.cell
    have hzz := hst.zero
    have HK := Lib.hid hK
    have HH := Lib.hid hzz
    have HD := Lib.hid hD
    have hk0 : (0 : Int) < stop := by omega
    by_cases h0 : k < nz
    · have h9 : stop < (nz : Int) := by omega
      have e4 : ((k : Int) != stop) = false := by rw [bne_eq_false_iff_eq]; exact hks
      clear hK hzz hD hch hbod o0 o1 o2 o3 hst hk hkk hks
      gi_wp2
      obtain ⟨W1, hW1⟩ : ∃ W1, W.setCell ⟨w5.heap.size, 0, none⟩ (.int .i64 0) = W1 := ⟨_, rfl⟩
      have hst1 := HH.out
      have hK1 := HK.out
      have hK2 : W1.heap[D]? = some (.deferred (some [])) := by
        rw [← hW1, heap_setCell_other _ _ _ _ (by have := HD.out; have := HSE.out; show D ≠ w5.heap.size; omega)]
        exact hK1
      rw [hW1] at hst1 ⊢
      have hx1 : W1.heap[b4]? = some (.cells #[.slice a4 n c4] 22 (0, 0)) := (hst1.below.block b4 (lt_of_block hnew)).trans hnew
      clear hW1 hK1 HH HK cn fn cz' cs
      have hDl : D < W1.heap.size := lt_of_block hK2
      have hs1 := hst1.size
      refine rangeBy rfl h13 (gf := 25) (lb := #[.pointer (some ⟨b4, 0, none⟩)]) rfl trivial (enters_of Tryd.func25 (by kernel_rfl) rfl)
        (each_goes w5 W1 hst1.below b4 a4 n c4 l r5 t5 hx1 2 (by omega)) (Below.refl _ _) (fun _ => rfl) (fun h k => KeepB.trans h k) (keepB_put (by omega)) wayE_sees wayE_ends wayE_left
        (fun pre W => EachSt w5 pre.length W ∧ W.heap[D]? = some (.deferred (some [])))
        (fun _ _ _ => False)
        ?own (fun _ _ _ _ _ h _ _ => h) ?start
        (fun x a' W => ∃ u12 u58 u59 u60 u61 u62 u63 u64 u65 u66 u67 u68 u69 u70, a' = { tmps := #[.slice a n c, .int .i64 stop, undef, .pointer (some ⟨w.heap.size, 0, none⟩), .pointer (some ⟨w.heap.size + 1, 0, none⟩), .pointer (some ⟨b2, 0, none⟩), .int .i64 ((scanF l).2.1 : Int), .int .i64 ((scanF l).2.2 : Int), .func (.func 25) #[] #[.pointer (some ⟨b4, 0, none⟩)], .pointer (some ⟨w5.heap.size, 0, none⟩), undef, undef, u12, .int .i64 (x.q.at' : Int), .bool true, .bool false, .tuple #[.slice az nz cz, .int .i64 ((scanF l).2.1 : Int), .int .i64 ((scanF l).2.2 : Int)], .slice a n c, .tuple #[.slice az nz cz, .int .i64 ((scanF l).2.1 : Int), .int .i64 ((scanF l).2.2 : Int)], .slice az nz cz, .int .i64 ((scanF l).2.1 : Int), .int .i64 ((scanF l).2.2 : Int), .slice a n c, .slice a4 n c4, .func (.func 25) #[] #[.pointer (some ⟨b4, 0, none⟩)], .func (.func 25) #[] #[.pointer (some ⟨b4, 0, none⟩)], .bool false, .func (.func 25) #[] #[.pointer (some ⟨b4, 0, none⟩)], undef, undef, undef, undef, undef, undef, undef, undef, undef, undef, undef, undef, undef, undef, undef, undef, undef, undef, undef, undef, undef, undef, undef, undef, undef, undef, undef, undef, undef, undef, u58, u59, u60, u61, u62, u63, u64, u65, u66, u67, u68, u69, u70, .func (.func 25) #[] #[.pointer (some ⟨b4, 0, none⟩)], .int .i64 (x.q.at' : Int), x.fr, undef, undef, undef, undef, undef, undef, undef, undef, undef, undef, undef, undef, undef, undef, undef, undef, undef, undef, undef], defers := [] })
        ?ax ?assign ?body ?done (fun _ _ _ _ _ _ h _ => h.elim)
      case own =>
        rintro pre A Bw row ⟨h1, h2⟩ hg hr
        refine ⟨h1.own (D := W1.heap.size) (by omega) hg fun r e => (hr r e).1, (hg.block _ (lt_of_block h2) fun e => ?_).trans h2⟩
        have := (hr D e.symm).1
        omega
      case start => exact ⟨hst1, hK2⟩
      case ax =>
        rintro x a1 s A Bw row h hg hr
        exact h
      case assign =>
        intro lp pre x W K hi hs hK
        dsimp only [wayE, It.fr]
        gi_wp2
        exact hK _ _ (KeepsFrom.refl _ _) (KeepB.refl _ _) hi hs ⟨_, _, _, _, _, _, _, _, _, _, _, _, _, _, rfl⟩
      case body =>
        rintro lp pre x a0 W hl ⟨hst, hKD⟩ ⟨hc2, hpl, hdec, hbod⟩ ⟨u12, u58, u59, u60, u61, u62, u63, u64, u65, u66, u67, u68, u69, u70, rfl⟩
        obtain ⟨z, hz, hzx⟩ := each_at HZQ.out hc2 hpl hdec
        obtain ⟨o0, o1, o2, o3⟩ := HOLD.out W hst.below
        have hkl : pre.length < nz := by rw [← HNZ.out]; exact (List.getElem?_eq_some_iff.1 hz).1
        obtain ⟨bb, off, z', rfl, hz', p0, p1, p2, p3, p4, pz⟩ := o3.at pre.length hkl
        obtain rfl : z = z' := Option.some.inj (hz.symm.trans hz')
        rw [hzx] at p0
        have cn := hst.cnt.cell
        have fn := hst.cnt.frozen
        have cz' := o2.cell
        have e1 : decide ((nz : Int) ≤ (pre.length : Int)) = false := decide_eq_false (by omega)
        have e2 : ((x.q.at' : Int) != (x.q.at' : Int)) = false := by simp
        have hm1 := o3.1.2.1
        have hm2 := o3.1.2.2.1
        unfold maxLen at hm2
        have HST := Lib.hid hst
        have HKD := Lib.hid hKD
        clear hc2 hpl hdec hbod hz hz' hzx o0 o1 o2 o3 hst hKD p1 p2 p3 p4 pz
        dsimp only [It.fr]
        gi_wp2
        obtain ⟨k1, k2, k3, k4⟩ := HST.out.round (B := W1.heap.size) (Below.refl W.heap.size W)
        refine ⟨k2, k3, by rw [List.length_append, List.length_singleton]; exact k4, ?_⟩
        have hne : D ≠ w5.heap.size := by have := HD.out; have := HSE.out; omega
        exact (heap_setCell_other _ _ _ _ hne).trans HKD.out
      case done =>
        rintro D2 xs W hD2 ⟨⟨p', e, hch, hend⟩, hbod⟩ ⟨hst, hKD⟩ hK
        have hk : xs.length = nz := (each_all HZQ.out hch hend).trans HNZ.out
        rw [hk] at hst
        obtain ⟨o0, o1, o2, o3⟩ := HOLD.out W hst.below
        have cn := hst.cnt.cell
        have cz' := o2.cell
        have cr := o1.cell
        have fr := o1.frozen
        have e4 : ((nz : Int) == (nz : Int)) = true := by simp
        clear hch hend hbod o0 o2 o3 hk
        gi_wp2
        have b1 : Below w.heap.size w W := x5.trans (hst.below.mono x5.size)
        have f1 := HD.out
        have f2 := HSE.out
        have f3 := HS5.out
        have ne2 : D2 ≠ w.heap.size + 1 := by omega
        have ne1 : D ≠ w.heap.size + 1 := by omega
        have d2 : (W.setCell ⟨w.heap.size + 1, 0, none⟩ (.bool true)).heap[D2]? = some (.deferred (some [])) := (heap_setCell_other _ _ _ _ ne2).trans hK
        have d1 : ((W.setCell ⟨w.heap.size + 1, 0, none⟩ (.bool true)).putObj D2 (.deferred none)).heap[D]? = some (.deferred (some [])) := (World.putObj_heap_other (by omega)).trans ((heap_setCell_other _ _ _ _ ne1).trans hKD)
        have q1 := ((o1.set (.bool true)).kept (grownBy_putObj' _ D2 (.deferred none)) (by simp; omega)).kept (grownBy_putObj' _ D (.deferred none)) (by simp; omega)
        have b9 := each_end b1 (by have := o1.lt; omega) D2 D (by omega) (by omega)
        refine ⟨by simp, .inl ⟨_, _, rfl, run_takeDeferred d2, ?_⟩⟩
        refine ⟨by simp, .inl ⟨_, _, rfl, run_takeDeferred d1, ?_⟩⟩
        exact ⟨_, results_bool rfl _ _ _ true rfl q1.cell, rfl, b9⟩
    · have h9 : ¬ stop < (nz : Int) := by omega
      have e4 : ((k : Int) != (nz : Int)) = false := by rw [bne_eq_false_iff_eq]; omega
      clear hK hzz hD hch hbod o0 o1 o2 o3 hst hk hkk hks
      gi_wp2
      obtain ⟨W1, hW1⟩ : ∃ W1, W.setCell ⟨w5.heap.size, 0, none⟩ (.int .i64 0) = W1 := ⟨_, rfl⟩
      have hst1 := HH.out
      have hK1 := HK.out
      have hK2 : W1.heap[D]? = some (.deferred (some [])) := by
        rw [← hW1, heap_setCell_other _ _ _ _ (by have := HD.out; have := HSE.out; show D ≠ w5.heap.size; omega)]
        exact hK1
      rw [hW1] at hst1 ⊢
      have hx1 : W1.heap[b4]? = some (.cells #[.slice a4 n c4] 22 (0, 0)) := (hst1.below.block b4 (lt_of_block hnew)).trans hnew
      clear hW1 hK1 HH HK cn fn cz' cs
      have hDl : D < W1.heap.size := lt_of_block hK2
      have hs1 := hst1.size
      refine rangeBy rfl h13 (gf := 25) (lb := #[.pointer (some ⟨b4, 0, none⟩)]) rfl trivial (enters_of Tryd.func25 (by kernel_rfl) rfl)
        (each_goes w5 W1 hst1.below b4 a4 n c4 l r5 t5 hx1 2 (by omega)) (Below.refl _ _) (fun _ => rfl) (fun h k => KeepB.trans h k) (keepB_put (by omega)) wayE_sees wayE_ends wayE_left
        (fun pre W => EachSt w5 pre.length W ∧ W.heap[D]? = some (.deferred (some [])))
        (fun _ _ _ => False)
        ?own (fun _ _ _ _ _ h _ _ => h) ?start
        (fun x a' W => ∃ u12 u58 u59 u60 u61 u62 u63 u64 u65 u66 u67 u68 u69 u70, a' = { tmps := #[.slice a n c, .int .i64 stop, undef, .pointer (some ⟨w.heap.size, 0, none⟩), .pointer (some ⟨w.heap.size + 1, 0, none⟩), .pointer (some ⟨b2, 0, none⟩), .int .i64 ((scanF l).2.1 : Int), .int .i64 ((scanF l).2.2 : Int), .func (.func 25) #[] #[.pointer (some ⟨b4, 0, none⟩)], .pointer (some ⟨w5.heap.size, 0, none⟩), undef, undef, u12, .int .i64 (x.q.at' : Int), .bool true, .bool false, .tuple #[.slice az nz cz, .int .i64 ((scanF l).2.1 : Int), .int .i64 ((scanF l).2.2 : Int)], .slice a n c, .tuple #[.slice az nz cz, .int .i64 ((scanF l).2.1 : Int), .int .i64 ((scanF l).2.2 : Int)], .slice az nz cz, .int .i64 ((scanF l).2.1 : Int), .int .i64 ((scanF l).2.2 : Int), .slice a n c, .slice a4 n c4, .func (.func 25) #[] #[.pointer (some ⟨b4, 0, none⟩)], .func (.func 25) #[] #[.pointer (some ⟨b4, 0, none⟩)], .bool false, .func (.func 25) #[] #[.pointer (some ⟨b4, 0, none⟩)], undef, undef, undef, undef, undef, undef, undef, undef, undef, undef, undef, undef, undef, undef, undef, undef, undef, undef, undef, undef, undef, undef, undef, undef, undef, undef, undef, undef, undef, undef, u58, u59, u60, u61, u62, u63, u64, u65, u66, u67, u68, u69, u70, .func (.func 25) #[] #[.pointer (some ⟨b4, 0, none⟩)], .int .i64 (x.q.at' : Int), x.fr, undef, undef, undef, undef, undef, undef, undef, undef, undef, undef, undef, undef, undef, undef, undef, undef, undef, undef, undef], defers := [] })
        ?ax ?assign ?body ?done (fun _ _ _ _ _ _ h _ => h.elim)
      case own =>
        rintro pre A Bw row ⟨h1, h2⟩ hg hr
        refine ⟨h1.own (D := W1.heap.size) (by omega) hg fun r e => (hr r e).1, (hg.block _ (lt_of_block h2) fun e => ?_).trans h2⟩
        have := (hr D e.symm).1
        omega
      case start => exact ⟨hst1, hK2⟩
      case ax =>
        rintro x a1 s A Bw row h hg hr
        exact h
      case assign =>
        intro lp pre x W K hi hs hK
        dsimp only [wayE, It.fr]
        gi_wp2
        exact hK _ _ (KeepsFrom.refl _ _) (KeepB.refl _ _) hi hs ⟨_, _, _, _, _, _, _, _, _, _, _, _, _, _, rfl⟩
      case body =>
        rintro lp pre x a0 W hl ⟨hst, hKD⟩ ⟨hc2, hpl, hdec, hbod⟩ ⟨u12, u58, u59, u60, u61, u62, u63, u64, u65, u66, u67, u68, u69, u70, rfl⟩
        obtain ⟨z, hz, hzx⟩ := each_at HZQ.out hc2 hpl hdec
        obtain ⟨o0, o1, o2, o3⟩ := HOLD.out W hst.below
        have hkl : pre.length < nz := by rw [← HNZ.out]; exact (List.getElem?_eq_some_iff.1 hz).1
        obtain ⟨bb, off, z', rfl, hz', p0, p1, p2, p3, p4, pz⟩ := o3.at pre.length hkl
        obtain rfl : z = z' := Option.some.inj (hz.symm.trans hz')
        rw [hzx] at p0
        have cn := hst.cnt.cell
        have fn := hst.cnt.frozen
        have cz' := o2.cell
        have e1 : decide ((nz : Int) ≤ (pre.length : Int)) = false := decide_eq_false (by omega)
        have e2 : ((x.q.at' : Int) != (x.q.at' : Int)) = false := by simp
        have hm1 := o3.1.2.1
        have hm2 := o3.1.2.2.1
        unfold maxLen at hm2
        have HST := Lib.hid hst
        have HKD := Lib.hid hKD
        clear hc2 hpl hdec hbod hz hz' hzx o0 o1 o2 o3 hst hKD p1 p2 p3 p4 pz
        dsimp only [It.fr]
        gi_wp2
        obtain ⟨k1, k2, k3, k4⟩ := HST.out.round (B := W1.heap.size) (Below.refl W.heap.size W)
        refine ⟨k2, k3, by rw [List.length_append, List.length_singleton]; exact k4, ?_⟩
        have hne : D ≠ w5.heap.size := by have := HD.out; have := HSE.out; omega
        exact (heap_setCell_other _ _ _ _ hne).trans HKD.out
      case done =>
        rintro D2 xs W hD2 ⟨⟨p', e, hch, hend⟩, hbod⟩ ⟨hst, hKD⟩ hK
        have hk : xs.length = nz := (each_all HZQ.out hch hend).trans HNZ.out
        rw [hk] at hst
        obtain ⟨o0, o1, o2, o3⟩ := HOLD.out W hst.below
        have cn := hst.cnt.cell
        have cz' := o2.cell
        have cr := o1.cell
        have fr := o1.frozen
        have e4 : ((nz : Int) == (nz : Int)) = true := by simp
        clear hch hend hbod o0 o2 o3 hk
        gi_wp2
        have b1 : Below w.heap.size w W := x5.trans (hst.below.mono x5.size)
        have f1 := HD.out
        have f2 := HSE.out
        have f3 := HS5.out
        have ne2 : D2 ≠ w.heap.size + 1 := by omega
        have ne1 : D ≠ w.heap.size + 1 := by omega
        have d2 : (W.setCell ⟨w.heap.size + 1, 0, none⟩ (.bool true)).heap[D2]? = some (.deferred (some [])) := (heap_setCell_other _ _ _ _ ne2).trans hK
        have d1 : ((W.setCell ⟨w.heap.size + 1, 0, none⟩ (.bool true)).putObj D2 (.deferred none)).heap[D]? = some (.deferred (some [])) := (World.putObj_heap_other (by omega)).trans ((heap_setCell_other _ _ _ _ ne1).trans hKD)
        have q1 := ((o1.set (.bool true)).kept (grownBy_putObj' _ D2 (.deferred none)) (by simp; omega)).kept (grownBy_putObj' _ D (.deferred none)) (by simp; omega)
        have b9 := each_end b1 (by have := o1.lt; omega) D2 D (by omega) (by omega)
        refine ⟨by simp, .inl ⟨_, _, rfl, run_takeDeferred d2, ?_⟩⟩
        refine ⟨by simp, .inl ⟨_, _, rfl, run_takeDeferred d1, ?_⟩⟩
        exact ⟨_, results_bool rfl _ _ _ true rfl q1.cell, rfl, b9⟩
end Go.Proofs.YtkaaabnahpmobaaDoor
