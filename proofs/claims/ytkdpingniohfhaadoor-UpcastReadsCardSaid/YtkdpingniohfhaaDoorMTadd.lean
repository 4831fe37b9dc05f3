/-
  The walk of the writer's add, printed by genadd.py. Condition: the writer holds right fields.
-/
import Derived.Test.YtkdpingniohfhaaDoorMTs
import Derived.Deep.RegionLaw
namespace Go.Proofs.YtkdpingniohfhaaDoor
open Go.RowKit
set_option linter.unusedVariables false

theorem WrIn.below {w0 w w' : World} {p : Nat} {ds : List FD} {a : Option Addr} {n cap : Nat} {ms : List Fld} (h : WrIn w0 w p ds a n cap ms) (hb : Below w.heap.size w w') : WrIn w0 w' p ds a n cap ms :=
  ⟨below_blk' hb h.blk, own_below h.own hb, h.flds.below hb, fun f hf => (h.tags f hf).below hb, h.base, h.bel.trans (hb.mono h.bel.size)⟩
theorem WrIn.turned {w0 w w' : World} {p : Nat} {ds : List FD} {a : Option Addr} {n cap : Nat} {ms : List Fld} (h : WrIn w0 w p ds a n cap ms) (hg : w.grownBy w' (some p)) (hb : w'.heap[p]? = some (.cells #[.slice a n cap, .int .i64 0] 86 (0, 0))) : WrIn w0 w' p ds a n cap ms := by
  have htp : Tag w p 86 := ⟨_, _, h.blk⟩
  have hr : ∀ k, some p = some k → Tag w k 86 := fun k e => by cases e; exact htp
  exact ⟨hb, h.own.kept hg (.inr fun e => (own_tag h.own e).ne htp (by decide) rfl), h.flds.grown hg (by decide) hr h.tags, fun f hf => (h.tags f hf).grown hg (by decide) hr, h.base, h.bel.grown hg h.bel.size (fun k e => by cases e; exact h.base)⟩

set_option maxRecDepth 20000 in
set_option maxRecDepth 20000 in
set_option maxHeartbeats 3200000 in
theorem add_zero (w0 w : World) (p : Nat) (ds : List FD) (h : WrAt w0 w p ds) (f : Fld) (d : FD) (hf : FldIs w f d) (hfl : fault d (tagAt ds ds.length) = 22) :
    Calls Tryd.prog 82 #[.pointer (some ⟨p, 0, none⟩), .agg #[.int .i64 f.tag, .bool f.text, .int .u64 f.num, .slice f.ba f.bn f.bc]] w fun x w' => x = .returned (.pointer (some ⟨p, 0, none⟩)) ∧ WrAt w0 w' p ds ∧ WKeep p w w' := by
  obtain ⟨a, n, cap, ms, hW⟩ := h
  obtain ⟨hml, hdl⟩ := hW.len
  have hcap := own_rowAt hW.own
  have hmx := hcap.2.2.1
  have hmc := hcap.2.1
  unfold maxLen at hmx
  have hch := fun wx => tchk_any f (tagAt ds ds.length) wx
  rw [fault_mem hf, hfl] at hch
  unfold Fld.val at hch
  have HC := Lib.hid hch
  clear hch
  have hbm := below_made w (.cells #[.int .i64 f.tag, .bool f.text, .int .u64 f.num, .slice f.ba f.bn f.bc] 81)
  have hX := heap_alloc_new w (.cells #[.int .i64 f.tag, .bool f.text, .int .u64 f.num, .slice f.ba f.bn f.bc] 81)
  have hblk1 := below_blk' hbm hW.blk
  have c0 := cell_two0 hblk1
  have c1 := cell_two1 hblk1
  have hlast : (0 < n → ∃ b off g, a = some ⟨b, off, none⟩ ∧ (w.alloc (.cells #[.int .i64 f.tag, .bool f.text, .int .u64 f.num, .slice f.ba f.bn f.bc] 81)).cell? ⟨b, off + (n - 1) * 4, none⟩ = some (.int .i64 (tagAt ds ds.length : Int))) := fun hn => by
    obtain ⟨b, off, g, ha, hg, g0, -, -, -⟩ := fld_at (own_rowAt (own_below hW.own hbm)) (n - 1) (by omega)
    obtain ⟨dd, hd, hi⟩ := hW.flds.get hg
    refine ⟨b, off, g, ha, ?_⟩
    rw [g0, hi.tag, hdl]
    have : tagAt ds n = dd.tag := by have := tagAt_succ hd; rwa [show n - 1 + 1 = n by omega] at this
    rw [this]
  have hzero : n = 0 → (tagAt ds ds.length : Int) = 0 := fun hn => by rw [hdl, hn]; rfl
  generalize (tagAt ds ds.length : Int) = T at HC hlast hzero
  have hW1 : WrIn w0 (w.alloc (.cells #[.int .i64 f.tag, .bool f.text, .int .u64 f.num, .slice f.ba f.bn f.bc] 81)) p ds a n cap ms := ⟨hblk1, own_below hW.own hbm, hW.flds.below hbm, fun g hg => (hW.tags g hg).below hbm, hW.base, hW.bel.trans (hbm.mono hW.bel.size)⟩
  have hk1 : WKeep p w (w.alloc (.cells #[.int .i64 f.tag, .bool f.text, .int .u64 f.num, .slice f.ba f.bn f.bc] 81)) := WKeep.below hbm
  by_cases hn : n = 0
  · have hz := hzero hn
    subst hz
    subst hn
    clear hlast hzero
    go_enter Tryd.func82, Tryd.ntmps82
    go_wp2_with fail
    (with_reducible refine (HC.out _).mono ?_)
    rintro x w2 ⟨rfl, hb2⟩
    have hW2 := hW1.below hb2
    have hk2 := hk1.trans (WKeep.below hb2)
    have hX2 := below_blk' hb2 hX
    clear hW1 hk1 hX hbm hblk1 c0 c1 hb2
    have q1 := cell_two1 hW2.blk
    have f1 := free_two1 hW2.blk
    have blk3 := two_set1 (u := .int .i64 22) hW2.blk
    have q2 := cell_two1 blk3
    have f2 := free_two1 blk3
    have blk4 := two_set1 (u := .int .i64 0) blk3
    have hW4 := hW2.turned (grownBy_trans (grown_set _ _ _ _) (grown_set _ _ _ _)) blk4
    go_wp2_with fail
    go_ret
    exact ⟨rfl, ⟨_, _, _, _, hW4⟩, (hk2.trans WKeep.set).trans WKeep.set⟩
  · obtain ⟨b, off, g, rfl, hlc⟩ := hlast (by omega)
    have hn1 : 0 < (n : Int) := by omega
    have hw : wrap64 ((n : Int) - 1) = ((n - 1 : Nat) : Int) := by unfold wrap64; omega
    have hi0 : (0 : Int) ≤ ((n - 1 : Nat) : Int) := by omega
    have hi1 : ((n - 1 : Nat) : Int) < (n : Int) := by omega
    clear hzero
    go_enter Tryd.func82, Tryd.ntmps82
    go_wp2_with fail
    (with_reducible refine (HC.out _).mono ?_)
    rintro x w2 ⟨rfl, hb2⟩
    have hW2 := hW1.below hb2
    have hk2 := hk1.trans (WKeep.below hb2)
    have hX2 := below_blk' hb2 hX
    clear hW1 hk1 hX hbm hblk1 c0 c1 hb2
    have q1 := cell_two1 hW2.blk
    have f1 := free_two1 hW2.blk
    have blk3 := two_set1 (u := .int .i64 22) hW2.blk
    have q2 := cell_two1 blk3
    have f2 := free_two1 blk3
    have blk4 := two_set1 (u := .int .i64 0) blk3
    have hW4 := hW2.turned (grownBy_trans (grown_set _ _ _ _) (grown_set _ _ _ _)) blk4
    go_wp2_with fail
    go_ret
    exact ⟨rfl, ⟨_, _, _, _, hW4⟩, (hk2.trans WKeep.set).trans WKeep.set⟩

theorem slF : SlTy Tryd.prog 76 81 4 48 (.agg #[.int .i64 0, .bool false, .int .u64 0, .slice none 0 0]) := slTy_mk Tryd.underlying76 (by kernel_rfl) rfl (by decide) (by decide)
theorem step_fld {ops : Array Oper} {o : Oper} {a : Act} {K : Act → World → Prop} {Q : Exit → Act → World → Prop} {E : Prop} {w0 wx : World} (hgd : o.guard = none) (s x : Operand) (ho : o.op = .call { callee := .builtin .append, args := #[s, x], argTypes := #[76, 76] })
    {av sa : Option Addr} {n cap sc : Nat} {ms : List Fld} {f : Fld} (hs : a.eval s = .slice av n cap) (hown : wx.ownsRow w0.heap.size 81 4 (.slice av n cap) n (ms.flatMap Fld.cells)) (hx : a.eval x = .slice sa 1 sc) (hsrc : RowAt wx sa 1 sc 4 f.cells) (hn : n ≤ 1000) (hbase : w0.heap.size ≤ wx.heap.size)
    (h : ∀ a' cap' w', w'.ownsRow w0.heap.size 81 4 (.slice a' (n + 1) cap') (n + 1) ((ms ++ [f]).flatMap Fld.cells) → wx.grownBy w' (Value.slice av n cap).ownBlock → K (a.put o.dst (.slice a' (n + 1) cap')) w') :
    if Region.wanted o (yielded ops a.tmps) = true then Oper.wp Tryd.prog o a wx K Q else E := by
  have hw : Region.wanted o (yielded ops a.tmps) = true := by simp [Region.wanted, hgd]
  rw [if_pos hw]
  obtain ⟨a', cap', w', hr, h2, h3, _⟩ := run_app (P := Tryd.prog) (w := wx) (t := 76) (ty := o.type) slF hown hsrc (by simp [Fld.cells, Value.oneCell']) (by omega) hbase
  unfold Oper.wp execOp
  simp only [ho, resolve, invoke, builtin, Sem.run_bind, Sem.run_pure, Result.andThen_ok, List.map_toArray, List.map_cons, List.map_nil, hs, hx, hr]
  exact h _ _ _ (by rw [List.flatMap_append]; simpa using h2) h3
theorem FldIs.keep {p : Nat} {w w' : World} {f : Fld} {d : FD} (h : FldIs w f d) (hb : BytesTag w f) (hk : WKeep p w w') (hp : Tag w p 86) : FldIs w' f d ∧ BytesTag w' f := by
  have key : ∀ b o, f.ba = some ⟨b, o, none⟩ → ∃ cs fr, w.heap[b]? = some (.cells cs 5 fr) ∧ w'.heap[b]? = some (.cells cs 5 fr) := fun b o e => by
    obtain ⟨cs, fr, hx⟩ := hb b o e
    exact ⟨cs, fr, hx, hk.keep b cs _ fr hx (by decide) ((hb b o e).ne hp (by decide))⟩
  exact ⟨⟨h.tag, h.text, h.num, h.row.same fun b o e _ => by obtain ⟨cs, fr, h1, h2⟩ := key b o e; rw [h1, h2]⟩, fun b o e => by obtain ⟨cs, fr, _, h2⟩ := key b o e; exact ⟨cs, fr, h2⟩⟩
theorem wr_done {w0 w w3 wa w' : World} {p : Nat} {ds : List FD} {a g' : Option Addr} {n cap cap' : Nat} {ms : List Fld} {f : Fld} {d : FD} (h3 : WrIn w0 w3 p ds a n cap ms) (hk : WKeep p w w3) (hbw : Below w3.heap.size w3 wa) (hg : wa.grownBy w' (Value.slice a n cap).ownBlock)
    (hr : w'.heap[p]? = some (.cells #[.slice a n cap, .int .i64 0] 86 (0, 0)) ∧ FldsAre w' ms ds ∧ (∀ f ∈ ms, BytesTag w' f) ∧ WKeep p w3 w') (ho : w'.ownsRow w0.heap.size 81 4 (.slice g' (n + 1) cap') (n + 1) ((ms ++ [f]).flatMap Fld.cells)) (hf : FldIs w f d) (hb : BytesTag w f) (htp : Tag w p 86) :
    WrAt w0 (w'.setCell ⟨p, 0, none⟩ (.slice g' (n + 1) cap')) p (ds ++ [d]) ∧ WKeep p w (w'.setCell ⟨p, 0, none⟩ (.slice g' (n + 1) cap')) := by
  obtain ⟨hp, hfl, htg, hk'⟩ := hr
  obtain ⟨hf', hb'⟩ := hf.keep hb (hk.trans hk') htp
  have hB : Below w0.heap.size w0 w' := (h3.bel.trans (hbw.mono h3.bel.size)).grown hg (Nat.le_trans h3.bel.size hbw.size) (fun k e => (h3.own.lt k e.symm.symm).1)
  have htp' : Tag w' p 86 := ⟨_, _, hp⟩
  have hs := grown_set w' p 0 (.slice g' (n + 1) cap')
  have hrr : ∀ k, some p = some k → Tag w' k 86 := fun k e => by cases e; exact htp'
  refine ⟨⟨g', n + 1, cap', ms ++ [f], two_set0 hp, ho.kept hs (.inr fun e => (own_tag ho e).ne htp' (by decide) rfl), (FldsAre.snoc hf' hfl).grown hs (by decide) hrr ?_, ?_, h3.base, hB.setCell (p := ⟨p, 0, none⟩) h3.base _⟩, (hk.trans hk').trans WKeep.set⟩
  · intro g hg2
    rcases List.mem_append.1 hg2 with h | h
    · exact htg g h
    · simp at h; subst h; exact hb'
  · intro g hg2
    rcases List.mem_append.1 hg2 with h | h
    · exact (htg g h).grown hs (by decide) hrr
    · simp at h; subst h; exact hb'.grown hs (by decide) hrr
theorem row_tag {w0 w3 : World} {p : Nat} {ds : List FD} {a : Option Addr} {n cap : Nat} {ms : List Fld} (h : WrIn w0 w3 p ds a n cap ms) (wa : World) {w' : World} (hg : wa.grownBy w' (Value.slice a n cap).ownBlock) (hb : Below w3.heap.size w3 wa) :
    w'.heap[p]? = some (.cells #[.slice a n cap, .int .i64 0] 86 (0, 0)) ∧ FldsAre w' ms ds ∧ (∀ f ∈ ms, BytesTag w' f) ∧ WKeep p w3 w' := by
  have hp := below_blk' hb h.blk
  have hr : ∀ k, (Value.slice a n cap).ownBlock = some k → Tag wa k 81 := fun k e => (own_tag h.own e).below hb
  have htp : Tag wa p 86 := ⟨_, _, hp⟩
  refine ⟨(hg.block p (lt_of_block hp) (fun e => (hr p e.symm).ne htp (by decide) rfl)).trans hp, (h.flds.below hb).grown hg (by decide) hr (fun f hf => (h.tags f hf).below hb), fun f hf => ((h.tags f hf).below hb).grown hg (by decide) hr, ?_⟩
  exact ⟨Nat.le_trans hb.size hg.size, fun b cs t fr hx ht _ => by
    have hx' := below_blk' hb hx
    exact (hg.block b (lt_of_block hx') (fun e => (hr b e.symm).ne ⟨cs, fr, hx'⟩ (fun e2 => ht e2.symm) rfl)).trans hx'⟩


set_option maxRecDepth 20000 in
set_option maxRecDepth 20000 in
set_option maxHeartbeats 3200000 in
theorem add_some (w0 w : World) (p : Nat) (ds : List FD) (h : WrAt w0 w p ds) (f : Fld) (d : FD) (hf : FldIs w f d) (hft : BytesTag w f) (hfl : fault d (tagAt ds ds.length) = 0) (hlen : ds.length ≤ 1000) :
    Calls Tryd.prog 82 #[.pointer (some ⟨p, 0, none⟩), .agg #[.int .i64 f.tag, .bool f.text, .int .u64 f.num, .slice f.ba f.bn f.bc]] w fun x w' => x = .returned (.pointer (some ⟨p, 0, none⟩)) ∧ WrAt w0 w' p (ds ++ [d]) ∧ WKeep p w w' := by
  obtain ⟨a, n, cap, ms, hW⟩ := h
  obtain ⟨hml, hdl⟩ := hW.len
  have hcap := own_rowAt hW.own
  have hmx := hcap.2.2.1
  have hmc := hcap.2.1
  unfold maxLen at hmx
  have hch := fun wx => tchk_any f (tagAt ds ds.length) wx
  rw [fault_mem hf, hfl] at hch
  unfold Fld.val at hch
  have HC := Lib.hid hch
  clear hch
  have hbm := below_made w (.cells #[.int .i64 f.tag, .bool f.text, .int .u64 f.num, .slice f.ba f.bn f.bc] 81)
  have hX := heap_alloc_new w (.cells #[.int .i64 f.tag, .bool f.text, .int .u64 f.num, .slice f.ba f.bn f.bc] 81)
  have hblk1 := below_blk' hbm hW.blk
  have c0 := cell_two0 hblk1
  have c1 := cell_two1 hblk1
  have hlast : (0 < n → ∃ b off g, a = some ⟨b, off, none⟩ ∧ (w.alloc (.cells #[.int .i64 f.tag, .bool f.text, .int .u64 f.num, .slice f.ba f.bn f.bc] 81)).cell? ⟨b, off + (n - 1) * 4, none⟩ = some (.int .i64 (tagAt ds ds.length : Int))) := fun hn => by
    obtain ⟨b, off, g, ha, hg, g0, -, -, -⟩ := fld_at (own_rowAt (own_below hW.own hbm)) (n - 1) (by omega)
    obtain ⟨dd, hd, hi⟩ := hW.flds.get hg
    refine ⟨b, off, g, ha, ?_⟩
    rw [g0, hi.tag, hdl]
    have : tagAt ds n = dd.tag := by have := tagAt_succ hd; rwa [show n - 1 + 1 = n by omega] at this
    rw [this]
  have hzero : n = 0 → (tagAt ds ds.length : Int) = 0 := fun hn => by rw [hdl, hn]; rfl
  generalize (tagAt ds ds.length : Int) = T at HC hlast hzero
  have hW1 : WrIn w0 (w.alloc (.cells #[.int .i64 f.tag, .bool f.text, .int .u64 f.num, .slice f.ba f.bn f.bc] 81)) p ds a n cap ms := ⟨hblk1, own_below hW.own hbm, hW.flds.below hbm, fun g hg => (hW.tags g hg).below hbm, hW.base, hW.bel.trans (hbm.mono hW.bel.size)⟩
  have hk1 : WKeep p w (w.alloc (.cells #[.int .i64 f.tag, .bool f.text, .int .u64 f.num, .slice f.ba f.bn f.bc] 81)) := WKeep.below hbm
  have HN3 := Lib.hid (show n ≤ 1000 by omega)
  have hpx : w.heap.size ≠ p := fun e => by have := lt_of_block hW.blk; omega
  by_cases hn : n = 0
  · have hz := hzero hn
    subst hz
    subst hn
    clear hlast hzero
    go_enter Tryd.func82, Tryd.ntmps82
    go_wp2_with fail
    (with_reducible refine (HC.out _).mono ?_)
    rintro x w2 ⟨rfl, hb2⟩
    have hW2 := hW1.below hb2
    have hk2 := hk1.trans (WKeep.below hb2)
    have hX2 := below_blk' hb2 hX
    clear hW1 hk1 hX hbm hblk1 c0 c1 hb2
    have q1 := cell_two1 hW2.blk
    have f1 := free_two1 hW2.blk
    have blk3 := two_set1 (u := .int .i64 0) hW2.blk
    have hW3 := hW2.turned (grown_set _ _ _ _) blk3
    have hk3 : WKeep p w (w2.setCell ⟨p, 1, none⟩ (.int .i64 0)) := hk2.trans WKeep.set
    have hX3 := (Below.heap_setCell w2 ⟨p, 1, none⟩ (.int .i64 0) w.heap.size (fun e => hpx e)).trans hX2
    have q2 := cell_two1 blk3
    have q0 := cell_two0 blk3
    have f2 := free_two1 blk3
    have e0 := cell_blk (j := 0) (v := .int .i64 f.tag) hX3 rfl
    have e1 := cell_blk (j := 1) (v := .bool f.text) hX3 rfl
    have e2 := cell_blk (j := 2) (v := .int .u64 f.num) hX3 rfl
    have e3 := cell_blk (j := 3) (v := .slice f.ba f.bn f.bc) hX3 rfl
    go_wp2_with fail
    obtain ⟨w3, hw3⟩ : ∃ w3, w2.setCell ⟨p, 1, none⟩ (.int .i64 0) = w3 := ⟨_, rfl⟩
    rw [hw3] at blk3 hW3 hk3 hX3 q2 q0 f2 e0 e1 e2 e3 ⊢
    clear hw3 hW2 hk2 hX2 q1 f1
    have hlt3 : w.heap.size < w3.heap.size := lt_of_block hX3
    have hs3 : w0.heap.size ≤ (w3.alloc (.cells #[.int .i64 f.tag, .bool f.text, .int .u64 f.num, .slice f.ba f.bn f.bc] 81)).drew.heap.size := by show w0.heap.size ≤ (w3.alloc _).heap.size; have := hW3.bel.size; simp; omega
    have HS3 := Lib.hid hs3
    have hbw : Below w3.heap.size w3 (w3.alloc (.cells #[.int .i64 f.tag, .bool f.text, .int .u64 f.num, .slice f.ba f.bn f.bc] 81)).drew := (below_made w3 _).trans ((Still.one _ 1).below _)
    have HBW := Lib.hid hbw
    clear hbw
    have qa0 : (w3.alloc (.cells #[.int .i64 f.tag, .bool f.text, .int .u64 f.num, .slice f.ba f.bn f.bc] 81)).cell? ⟨p, 0, none⟩ = some (.slice (a) (0) cap) := cell_two0 (below_blk' (below_made _ _) blk3)
    have HO3 := Lib.hid ((hW3.own.alloc (.cells #[.int .i64 f.tag, .bool f.text, .int .u64 f.num, .slice f.ba f.bn f.bc] 81)).drew)
    have hsrc3 : RowAt (w3.alloc (.cells #[.int .i64 f.tag, .bool f.text, .int .u64 f.num, .slice f.ba f.bn f.bc] 81)).drew (some ⟨w3.heap.size, 0, none⟩) 1 1 4 f.cells := rowAt_drew (rowAt_lit w3 f.cells 1 4 81 rfl (by decide))
    have HR3 := Lib.hid hsrc3
    go_region_law (refine step_fld (w0 := w0) (f := f) (ms := ms) (sa := some ⟨w3.heap.size, 0, none⟩) (sc := 1) (av := a) (n := 0) (cap := cap) rfl _ _ rfl rfl HO3.out rfl HR3.out HN3.out HS3.out ?_; intro g' cap' w' ho' hg'; have hrow' := row_tag hW3 (w3.alloc (.cells #[.int .i64 f.tag, .bool f.text, .int .u64 f.num, .slice f.ba f.bn f.bc] 81)).drew hg' HBW.out; have hblk' := hrow'.1; have p0' := cell_two0 hblk'; have r0' := free_two0 hblk')
    all_goals
      go_wp2_with fail
      go_ret
      obtain ⟨r1, r2⟩ := wr_done hW3 hk3 HBW.out hg' hrow' ho' hf hft ⟨_, _, hW.blk⟩
      exact ⟨rfl, r1, r2⟩
  · obtain ⟨b, off, g, rfl, hlc⟩ := hlast (by omega)
    have hn1 : 0 < (n : Int) := by omega
    have hw : wrap64 ((n : Int) - 1) = ((n - 1 : Nat) : Int) := by unfold wrap64; omega
    have hi0 : (0 : Int) ≤ ((n - 1 : Nat) : Int) := by omega
    have hi1 : ((n - 1 : Nat) : Int) < (n : Int) := by omega
    clear hzero
    go_enter Tryd.func82, Tryd.ntmps82
    go_wp2_with fail
    (with_reducible refine (HC.out _).mono ?_)
    rintro x w2 ⟨rfl, hb2⟩
    have hW2 := hW1.below hb2
    have hk2 := hk1.trans (WKeep.below hb2)
    have hX2 := below_blk' hb2 hX
    clear hW1 hk1 hX hbm hblk1 c0 c1 hb2
    have q1 := cell_two1 hW2.blk
    have f1 := free_two1 hW2.blk
    have blk3 := two_set1 (u := .int .i64 0) hW2.blk
    have hW3 := hW2.turned (grown_set _ _ _ _) blk3
    have hk3 : WKeep p w (w2.setCell ⟨p, 1, none⟩ (.int .i64 0)) := hk2.trans WKeep.set
    have hX3 := (Below.heap_setCell w2 ⟨p, 1, none⟩ (.int .i64 0) w.heap.size (fun e => hpx e)).trans hX2
    have q2 := cell_two1 blk3
    have q0 := cell_two0 blk3
    have f2 := free_two1 blk3
    have e0 := cell_blk (j := 0) (v := .int .i64 f.tag) hX3 rfl
    have e1 := cell_blk (j := 1) (v := .bool f.text) hX3 rfl
    have e2 := cell_blk (j := 2) (v := .int .u64 f.num) hX3 rfl
    have e3 := cell_blk (j := 3) (v := .slice f.ba f.bn f.bc) hX3 rfl
    go_wp2_with fail
    obtain ⟨w3, hw3⟩ : ∃ w3, w2.setCell ⟨p, 1, none⟩ (.int .i64 0) = w3 := ⟨_, rfl⟩
    rw [hw3] at blk3 hW3 hk3 hX3 q2 q0 f2 e0 e1 e2 e3 ⊢
    clear hw3 hW2 hk2 hX2 q1 f1
    have hlt3 : w.heap.size < w3.heap.size := lt_of_block hX3
    have hs3 : w0.heap.size ≤ (w3.alloc (.cells #[.int .i64 f.tag, .bool f.text, .int .u64 f.num, .slice f.ba f.bn f.bc] 81)).drew.heap.size := by show w0.heap.size ≤ (w3.alloc _).heap.size; have := hW3.bel.size; simp; omega
    have HS3 := Lib.hid hs3
    have hbw : Below w3.heap.size w3 (w3.alloc (.cells #[.int .i64 f.tag, .bool f.text, .int .u64 f.num, .slice f.ba f.bn f.bc] 81)).drew := (below_made w3 _).trans ((Still.one _ 1).below _)
    have HBW := Lib.hid hbw
    clear hbw
    have qa0 : (w3.alloc (.cells #[.int .i64 f.tag, .bool f.text, .int .u64 f.num, .slice f.ba f.bn f.bc] 81)).cell? ⟨p, 0, none⟩ = some (.slice (some ⟨b, off, none⟩) (n) cap) := cell_two0 (below_blk' (below_made _ _) blk3)
    have HO3 := Lib.hid ((hW3.own.alloc (.cells #[.int .i64 f.tag, .bool f.text, .int .u64 f.num, .slice f.ba f.bn f.bc] 81)).drew)
    have hsrc3 : RowAt (w3.alloc (.cells #[.int .i64 f.tag, .bool f.text, .int .u64 f.num, .slice f.ba f.bn f.bc] 81)).drew (some ⟨w3.heap.size, 0, none⟩) 1 1 4 f.cells := rowAt_drew (rowAt_lit w3 f.cells 1 4 81 rfl (by decide))
    have HR3 := Lib.hid hsrc3
    go_region_law (refine step_fld (w0 := w0) (f := f) (ms := ms) (sa := some ⟨w3.heap.size, 0, none⟩) (sc := 1) (av := some ⟨b, off, none⟩) (n := n) (cap := cap) rfl _ _ rfl rfl HO3.out rfl HR3.out HN3.out HS3.out ?_; intro g' cap' w' ho' hg'; have hrow' := row_tag hW3 (w3.alloc (.cells #[.int .i64 f.tag, .bool f.text, .int .u64 f.num, .slice f.ba f.bn f.bc] 81)).drew hg' HBW.out; have hblk' := hrow'.1; have p0' := cell_two0 hblk'; have r0' := free_two0 hblk')
    all_goals
      go_wp2_with fail
      go_ret
      obtain ⟨r1, r2⟩ := wr_done hW3 hk3 HBW.out hg' hrow' ho' hf hft ⟨_, _, hW.blk⟩
      exact ⟨rfl, r1, r2⟩
end Go.Proofs.YtkdpingniohfhaaDoor
