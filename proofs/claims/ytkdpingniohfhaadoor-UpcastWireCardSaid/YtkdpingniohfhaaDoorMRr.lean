/-
  A reader's map of fields as data: what a look-up finds, what stays. No condition.
  The walk of the reader's take. Condition: the reader stands in memory.
  What is read is right: rising tags, bounds. No condition.
  The walks of the reader's Num, Int, Text and Err. Condition: the reader stands in memory.
  The walk of NewReader. Condition: the argument reads as bytes.
  Reading an event out of a record's fields: as data. No condition.
  The steps of schema.Decode: a number or a text taken while the results' block and the event's block stay. Condition: the reader stands in memory.
-/
import Derived.Test.YtkdpingniohfhaaDoorMTd
import Derived.Maps.OwnSet
import Derived.Test.YtkdpingniohfhaaDoorMVzig
import Derived.RegionTactic
import Derived.BigRegion
import Derived.Test.YtkdpingniohfhaaDoorMBase
import Derived.Laws.IdiomStrings
import Derived.Test.YtkdpingniohfhaaDoorMUchk
import Derived.WalkSpells
import Derived.WalkLawsBesides
namespace Go.Proofs.YtkdpingniohfhaaDoor
open Go.RowKit
open Go.Maps (Keyed)
set_option linter.unusedVariables false

/-- An element is held as it is. -/
def heldE (v : Value) : Option (DataW Value × List MemPlace) := some (.held v, [])
theorem mapLaw : Keyed Tryd.prog 3 := Maps.int_keyed Tryd.underlying3
def kl (t : Nat) : Lit := .int .i64 (t : Int)
theorem kl_wf {t : Nat} (h : t < 4611686018427387904) : (Lit.int .i64 (t : Int)).wf = true := by
  simp [Lit.wf, IntKind.min, IntKind.max, IntKind.signed, IntKind.bits]; omega
theorem keyK {t : Nat} (h : t < 4611686018427387904) : keyOf Tryd.prog 3 (.int .i64 (t : Int)) = some (kl t) := Maps.keyOf_int_mk Tryd.underlying3 (kl_wf h)
theorem kl_key (t : Nat) : WideAt.IsKeyLit (kl t) := trivial
theorem kl_ne {t s : Nat} (h : t ≠ s) : kl t ≠ kl s := fun e => h (by unfold kl at e; simp at e; omega)
theorem zeroF (w : World) : (zeroValue 81).run Tryd.prog w = .ok (.agg Fld.zero.row) w := by kernel_rfl

/-- Which fields are left, tag by tag. -/
def hasT (ds : List FD) (t : Nat) : Bool := ds.any (fun d => d.tag == t)
def strike (ds : List FD) (t : Nat) : List FD := ds.filter (fun d => d.tag != t)
def Rise (ds : List FD) : Prop := ds.Pairwise (fun x y => x.tag < y.tag)
theorem Rise.strike {ds : List FD} (h : Rise ds) (t : Nat) : Rise (strike ds t) := h.filter _
theorem hasT_strike (ds : List FD) (t s : Nat) : hasT (strike ds t) s = (hasT ds s && (s != t)) := by
  unfold hasT strike
  rw [List.any_filter, Bool.eq_iff_iff]
  simp only [List.any_eq_true, Bool.and_eq_true, bne_iff_ne, ne_eq, beq_iff_eq]
  constructor
  · rintro ⟨d, h1, h2, h3⟩; exact ⟨⟨d, h1, h3⟩, fun e => h2 (h3.trans e)⟩
  · rintro ⟨⟨d, h1, h2⟩, h3⟩; exact ⟨d, h1, fun e => h3 (h2.symm.trans e), h2⟩
theorem strike_none {ds : List FD} {t : Nat} (h : hasT ds t = false) : strike ds t = ds := by
  unfold strike
  refine List.filter_eq_self.2 fun d hd => ?_
  have := (List.any_eq_false.1 h) d hd
  simpa using this
theorem strike_len {ds : List FD} (hr : Rise ds) (t : Nat) : (strike ds t).length + (if hasT ds t then 1 else 0) = ds.length := by
  induction ds with
  | nil => rfl
  | cons d ds ih =>
    have h1 := List.pairwise_cons.1 hr
    by_cases hd : d.tag = t
    · have hn : hasT ds t = false := by
        rw [Bool.eq_false_iff]
        intro he
        obtain ⟨x, hx, hxt⟩ := List.any_eq_true.1 he
        have := h1.1 x hx
        simp at hxt
        omega
      have e1 : strike (d :: ds) t = strike ds t := by unfold strike; simp [hd]
      have e2 : hasT (d :: ds) t = true := by unfold hasT; simp [hd]
      rw [e1, e2, strike_none hn]; simp
    · have e1 : strike (d :: ds) t = d :: strike ds t := by unfold strike; simp [hd]
      have e2 : hasT (d :: ds) t = hasT ds t := by unfold hasT; simp [hd]
      have := ih h1.2
      rw [e1, e2]; simp only [List.length_cons]; omega

/-- The map in block b holds these fields. -/
structure RdMap (w : World) (b n : Nat) (D : DataW Value) (ds : List FD) : Prop where
  own : w.ownsMap Tryd.prog 3 heldE b n D
  has : ∀ t : Nat, Maps.has D (kl t) = hasT ds t
  size : Maps.size D = ds.length
  at' : ∀ d ∈ ds, ∃ f : Fld, (∀ z, D.atKey (kl d.tag) z = .held (.agg f.row)) ∧ FldIs w f d ∧ BytesTag w f
theorem RdMap.isMap {w : World} {b n : Nat} {D : DataW Value} {ds : List FD} (h : RdMap w b n D ds) : ∃ es c, w.heap[b]? = some (.map es c) := by
  obtain ⟨es, c, hb, _⟩ := h.own; exact ⟨es, c, hb⟩
theorem RdMap.grown {w w' : World} {b n : Nat} {D : DataW Value} {ds : List FD} {row : Option Nat} (h : RdMap w b n D ds) (hg : w.grownBy w' row) {t : TypeId} (ht : t ≠ 5) (hr : ∀ k, row = some k → Tag w k t) : RdMap w' b n D ds :=
  ⟨h.own.kept hg (fun e => by
      obtain ⟨es, c, hb⟩ := h.isMap
      obtain ⟨cs, fr, hk⟩ := hr b e.symm
      rw [hb] at hk; cases hk), h.has, h.size, fun d hd => by
    obtain ⟨f, h1, h2, h3⟩ := h.at' d hd
    exact ⟨f, h1, h2.grown h3 hg ht hr, h3.grown hg ht hr⟩⟩
theorem RdMap.below {w w' : World} {b n : Nat} {D : DataW Value} {ds : List FD} (h : RdMap w b n D ds) (hb : Below w.heap.size w w') : RdMap w' b n D ds :=
  h.grown (row := none) (grown_below hb) (t := 0) (by decide) (fun k e => by cases e)
/-- A field's bytes lie elsewhere than a map. -/
theorem fld_turn {w w' : World} {f : Fld} {d : FD} {b : Nat} (h : FldIs w f d) (hb : BytesTag w f) (hm : ∃ es c, w.heap[b]? = some (.map es c)) (hg : w.grownBy w' (some b)) : FldIs w' f d ∧ BytesTag w' f := by
  have hne : ∀ b' o, f.ba = some ⟨b', o, none⟩ → some b' ≠ some b := fun b' o e e2 => by
    cases e2
    obtain ⟨es, c, hk⟩ := hm
    obtain ⟨cs, fr, hk2⟩ := hb _ o e
    rw [hk] at hk2; cases hk2
  exact ⟨⟨h.tag, h.text, h.num, h.row.grown hg hne⟩, fun b' o e => (hb b' o e).grown hg (hne b' o e).symm⟩
/-- What is found. -/
theorem RdMap.look {w : World} {b n : Nat} {D : DataW Value} {ds : List FD} (h : RdMap w b n D ds) (t : Nat) (ht : t < 4611686018427387904) :
    match ds.find? (fun d => d.tag == t) with
    | none => (Instr.lookup 101 (.map (some b)) (.int .i64 (t : Int)) true).run Tryd.prog w = .ok (.tuple #[.agg Fld.zero.row, .bool false]) w
    | some d => ∃ f : Fld, (Instr.lookup 101 (.map (some b)) (.int .i64 (t : Int)) true).run Tryd.prog w = .ok (.tuple #[.agg f.row, .bool true]) w ∧ FldIs w f d ∧ BytesTag w f := by
  obtain ⟨v, ps, hrun, hv⟩ := h.own.look_ok mapLaw Tryd.underlying101 (zeroF w) (zd := .held (.agg Fld.zero.row)) (zp := []) rfl (keyK ht)
  rw [h.has] at hrun
  unfold heldE at hv
  simp only [Option.some.injEq, Prod.mk.injEq] at hv
  cases hf : ds.find? (fun d => d.tag == t) with
  | none =>
    have hn : hasT ds t = false := by
      unfold hasT; rw [List.any_eq_false]; intro d hd; have := List.find?_eq_none.1 hf d hd; simpa using this
    have h0 := Maps.atKey_of_not_has (D := D) (k := kl t) (by rw [h.has, hn]) (.held (.agg Fld.zero.row))
    rw [h0] at hv
    obtain ⟨hv, _⟩ := hv
    cases hv
    rw [hn] at hrun
    exact hrun
  | some d =>
    have hd := List.mem_of_find?_eq_some hf
    have hdt : d.tag = t := by have := List.find?_some hf; simpa using this
    obtain ⟨f, h1, h2, h3⟩ := h.at' d hd
    rw [hdt] at h1
    rw [h1] at hv
    obtain ⟨hv, _⟩ := hv
    cases hv
    have hn : hasT ds t = true := by unfold hasT; rw [List.any_eq_true]; exact ⟨d, hd, by simp [hdt]⟩
    rw [hn] at hrun
    exact ⟨f, hrun, h2, h3⟩
/-- Behind a delete. -/
theorem RdMap.del {w w' : World} {b n : Nat} {D : DataW Value} {ds : List FD} (h : RdMap w b n D ds) (hr : Rise ds) (t : Nat) (ho : w'.ownsMap Tryd.prog 3 heldE b n (D.del (kl t))) (hg : w.grownBy w' (some b)) : RdMap w' b n (D.del (kl t)) (strike ds t) where
  own := ho
  has := fun s => by
    rw [hasT_strike]
    by_cases hs : s = t
    · subst hs; rw [Maps.has_del_same]; simp
    · rw [Maps.has_del_other (kl_ne hs), h.has]; simp [hs]
  size := by
    have h1 := Maps.size_del (D := D) (k := kl t) (h.own.tidy mapLaw)
    have h2 := strike_len hr t
    rw [h.has] at h1
    have h3 := h.size
    omega
  at' := fun d hd => by
    have hd' := List.mem_filter.1 hd
    obtain ⟨f, h1, h2, h3⟩ := h.at' d hd'.1
    have hne : d.tag ≠ t := by simpa using hd'.2
    have hh := fld_turn h2 h3 h.isMap hg
    exact ⟨f, fun z => by rw [Maps.atKey_del_other (kl_ne hne)]; exact h1 z, hh.1, hh.2⟩
/-- Behind a store at a tag that is not there. -/
theorem RdMap.put {w w' : World} {b n : Nat} {D : DataW Value} {ds : List FD} (h : RdMap w b n D ds) {f : Fld} {d : FD} (hn : hasT ds d.tag = false) (ho : w'.ownsMap Tryd.prog 3 heldE b (n + 1) (D.put (kl d.tag) (.held (.agg f.row)))) (hg : w.grownBy w' (some b)) (hf : FldIs w f d) (hb : BytesTag w f) : RdMap w' b (n + 1) (D.put (kl d.tag) (.held (.agg f.row))) (ds ++ [d]) where
  own := ho
  has := fun s => by
    have e : hasT (ds ++ [d]) s = (hasT ds s || (d.tag == s)) := by unfold hasT; simp
    rw [e]
    by_cases hs : s = d.tag
    · subst hs; rw [Maps.has_put_same (h.own.isMap) (kl_key _)]; simp
    · rw [Maps.has_put_other (kl_ne hs), h.has]
      have : (d.tag == s) = false := by rw [beq_eq_false_iff_ne]; exact fun e => hs e.symm
      rw [this]; simp
  size := by
    rw [Maps.size_put (h.own.tidy mapLaw), h.has, hn, h.size]; simp
  at' := fun d2 hd => by
    rcases List.mem_append.1 hd with h4 | h4
    · obtain ⟨f2, h1, h2, h3⟩ := h.at' d2 h4
      have hne : d2.tag ≠ d.tag := fun e => by
        have := (List.any_eq_false.1 hn) d2 h4
        simp [e] at this
      have hh := fld_turn h2 h3 h.isMap hg
      exact ⟨f2, fun z => by rw [Maps.atKey_put_other (kl_ne hne)]; exact h1 z, hh.1, hh.2⟩
    · simp at h4
      subst h4
      have hh := fld_turn hf hb h.isMap hg
      exact ⟨f, fun z => Maps.atKey_put_same h.own.isMap (kl_key _) _ _, hh.1, hh.2⟩
end Go.Proofs.YtkdpingniohfhaaDoor

namespace Go.Proofs.YtkdpingniohfhaaDoor
open Go.RowKit
open Go.Maps (Keyed)
set_option linter.unusedVariables false

/-- The reader stands in block p, its map in block b. -/
structure RdIn (w0 w : World) (p b n : Nat) (D : DataW Value) (ds : List FD) (bad : Nat) : Prop where
  blk : w.heap[p]? = some (.cells #[.map (some b), .int .i64 (bad : Int)] 103 (0, 0))
  map : RdMap w b n D ds
  bp : w0.heap.size ≤ p
  bb : w0.heap.size ≤ b
  bel : Below w0.heap.size w0 w
def RdAt (w0 w : World) (p : Nat) (ds : List FD) (bad : Nat) : Prop := ∃ b n D, RdIn w0 w p b n D ds bad
theorem RdIn.grown {w0 w w' : World} {p b n : Nat} {D : DataW Value} {ds : List FD} {bad : Nat} {row : Option Nat} (h : RdIn w0 w p b n D ds bad) (hg : w.grownBy w' row) {t : TypeId} (ht : t ≠ 5) (ht2 : t ≠ 103) (hr : ∀ k, row = some k → Tag w k t) (hlo : ∀ k, row = some k → w0.heap.size ≤ k) : RdIn w0 w' p b n D ds bad :=
  ⟨(hg.block p (lt_of_block h.blk) (fun e => (hr p e.symm).ne ⟨_, _, h.blk⟩ ht2 rfl)).trans h.blk, h.map.grown hg ht hr, h.bp, h.bb, h.bel.grown hg h.bel.size hlo⟩
theorem RdIn.below {w0 w w' : World} {p b n : Nat} {D : DataW Value} {ds : List FD} {bad : Nat} (h : RdIn w0 w p b n D ds bad) (hb : Below w.heap.size w w') : RdIn w0 w' p b n D ds bad :=
  h.grown (row := none) (grown_below hb) (t := 0) (by decide) (by decide) (fun k e => by cases e) (fun k e => by cases e)
theorem RdAt.below {w0 w w' : World} {p : Nat} {ds : List FD} {bad : Nat} (h : RdAt w0 w p ds bad) (hb : Below w.heap.size w w') : RdAt w0 w' p ds bad := by
  obtain ⟨b, n, D, h⟩ := h; exact ⟨b, n, D, h.below hb⟩
/-- What a reader's call leaves as it was: blocks of cells of other kinds. -/
structure RKeep (w w' : World) : Prop where
  size : w.heap.size ≤ w'.heap.size
  keep : ∀ (b : Nat) (cs : Array Value) (t : TypeId) (fr : Nat × Nat), w.heap[b]? = some (.cells cs t fr) → t ≠ 103 → w'.heap[b]? = some (.cells cs t fr)
theorem RKeep.trans {a b c : World} (h : RKeep a b) (k : RKeep b c) : RKeep a c := ⟨Nat.le_trans h.size k.size, fun x cs t fr hx ht => k.keep x cs t fr (h.keep x cs t fr hx ht) ht⟩
theorem RKeep.below {w w' : World} (h : Below w.heap.size w w') : RKeep w w' := ⟨h.size, fun b cs t fr hb _ => below_blk' h hb⟩
theorem RKeep.set {w : World} {p o : Nat} {v : Value} (h : Tag w p 103) : RKeep w (w.setCell ⟨p, o, none⟩ v) :=
  ⟨(grown_set w p o v).size, fun b cs t fr hb ht => ((grown_set w p o v).block b (lt_of_block hb) (fun e => by cases e; exact h.ne ⟨_, _, hb⟩ (fun e => ht e.symm) rfl)).trans hb⟩
theorem RKeep.turn {w w' : World} {b : Nat} (hm : ∃ es c, w.heap[b]? = some (.map es c)) (hg : w.grownBy w' (some b)) : RKeep w w' :=
  ⟨hg.size, fun k cs t fr hb ht => (hg.block k (lt_of_block hb) (fun e => by cases e; obtain ⟨_, _, h⟩ := hm; rw [hb] at h; cases h)).trans hb⟩
theorem RKeep.row {w w' : World} {g : Nat} {cs : Array Value} (h : RKeep w w') (hg : w.heap.size ≤ g) : RKeep w (w'.setRow g cs) :=
  ⟨by have := h.size; simpa using this, fun b cs' t fr hb ht => (setRow_other _ g b cs (by have := lt_of_block hb; omega)).trans (h.keep b cs' t fr hb ht)⟩
theorem RdIn.del {w0 w w' : World} {p b n : Nat} {D : DataW Value} {ds : List FD} {bad : Nat} (h : RdIn w0 w p b n D ds bad) (hr : Rise ds) (t : Nat) (ho : w'.ownsMap Tryd.prog 3 heldE b n (D.del (kl t))) (hg : w.grownBy w' (some b)) : RdIn w0 w' p b n (D.del (kl t)) (strike ds t) bad :=
  ⟨(hg.block p (lt_of_block h.blk) (fun e => by cases e; obtain ⟨_, _, hm⟩ := h.map.isMap; rw [h.blk] at hm; cases hm)).trans h.blk, h.map.del hr t ho hg, h.bp, h.bb, h.bel.grown hg h.bel.size (fun k e => by cases e; exact h.bb)⟩
/-- A fault laid into the reader. -/
theorem RdIn.fault {w0 w : World} {p b n : Nat} {D : DataW Value} {ds : List FD} {bad : Nat} (h : RdIn w0 w p b n D ds bad) (x : Nat) : RdIn w0 (w.setCell ⟨p, 1, none⟩ (.int .i64 (x : Int))) p b n D ds x :=
  ⟨two_set1 h.blk, h.map.grown (grown_set w p 1 _) (t := 103) (by decide) (fun k e => by cases e; exact ⟨_, _, h.blk⟩), h.bp, h.bb, h.bel.grown (grown_set w p 1 _) h.bel.size (fun k e => by cases e; exact h.bp)⟩

/-- What take takes: the field, what is left, the fault. -/
def takeF (ds : List FD) (bad : Nat) (tag : Nat) (text : Bool) : FD × List FD × Nat :=
  match ds.find? (fun d => d.tag == tag) with
  | none => (default, ds, bad)
  | some d => if d.text = text then (d, strike ds tag, bad) else (default, strike ds tag, 33)
def TakeQ (w0 : World) (p : Nat) (y : FD × List FD × Nat) (w : World) (x : Ending) (w' : World) : Prop :=
  ∃ f : Fld, x = .returned (.agg f.row) ∧ FldIs w' f y.1 ∧ BytesTag w' f ∧ RdAt w0 w' p y.2.1 y.2.2 ∧ RKeep w w'

set_option maxHeartbeats 1600000 in
theorem take_any (w0 w : World) (p : Nat) (ds : List FD) (bad : Nat) (h : RdAt w0 w p ds bad) (hs : Rise ds) (tag : Nat) (text : Bool) (ht : tag < 1000) :
    Calls Tryd.prog 47 #[.pointer (some ⟨p, 0, none⟩), .int .i64 (tag : Int), .bool text] w (TakeQ w0 p (takeF ds bad tag text) w) := by
  obtain ⟨b, n, D, h⟩ := h
  have hbm := below_made w (.cells Fld.zero.row 81)
  have hR := heap_alloc_new w (.cells Fld.zero.row 81)
  have hi := h.below hbm
  have HW := Lib.hid (⟨_, rfl⟩ : ∃ wm, w.alloc (.cells Fld.zero.row 81) = wm)
  go_enter Tryd.func47, Tryd.ntmps47
  go_upto_region 1 with (fail)
  rw [show (#[.int .i64 0, .bool false, .int .u64 0, .slice none 0 0] : Array Value) = Fld.zero.row from rfl]
  obtain ⟨wm, hwm⟩ := HW.out
  rw [hwm] at hbm hR hi ⊢
  clear hwm HW
  have k0 : wm.cell? ⟨p, 0, none⟩ = some (.map (some b)) := cell_blk hi.blk rfl
  have k1 : wm.cell? ⟨p, 1, none⟩ = some (.int .i64 (bad : Int)) := cell_blk hi.blk rfl
  have kf : wm.frozen? ⟨p, 1, none⟩ = false := free_blk hi.blk
  have hpl := lt_of_block h.blk
  have hlk := hi.map.look tag (by omega)
  cases hf : ds.find? (fun d => d.tag == tag) with
  | none =>
    rw [hf] at hlk
    simp only at hlk
    have HQ : Hid (takeF ds bad tag text = (default, ds, bad)) := Lib.hid (by unfold takeF; rw [hf])
    clear hf
    unfold Fld.zero Fld.row at hlk
    have hbf := below_made wm (.cells Fld.zero.row 81)
    have hF := heap_alloc_new wm (.cells Fld.zero.row 81)
    have hR2 := below_blk' hbf hR
    have hi2 := hi.below hbf
    have hB := below_next hbm hbf
    have HW := Lib.hid (⟨_, rfl⟩ : ∃ wf, wm.alloc (.cells Fld.zero.row 81) = wf)
    have hbw := h.bel.size
    clear hbf hR hi hbm h
    go_upto_region 4 with (fail)
    rw [show (#[.int .i64 0, .bool false, .int .u64 0, .slice none 0 0] : Array Value) = Fld.zero.row from rfl]
    obtain ⟨wf, hwf⟩ := HW.out
    rw [hwf] at hF hR2 hi2 hB ⊢
    clear hwf HW hlk k0 k1 kf
    go_wp2_with (first
      | (with_reducible refine wpList_load_row rfl 81 (.tmp 7) rfl wm.heap.size rfl _ Fld.zero.row (0, 0) _ hF Tryd.underlying81 rfl (by with_unfolding_all exact info_fld) ?_)
      | (with_reducible refine wpList_store_row rfl 81 (.tmp 6) (.tmp 23) rfl w.heap.size Fld.zero.row rfl rfl _ _ hR2 (by with_unfolding_all exact info_fld) (by with_unfolding_all exact rfl) (by with_unfolding_all exact rfl) ?_))
    refine bodyPost_ret (v := .agg Fld.zero.row) (ret_fld1 rfl rfl (setRow_heap _ w.heap.size _ Fld.zero.row _ _ hR2) rfl) rfl ?_
    rw [HQ.out]
    exact ⟨Fld.zero, rfl, (zero_is _).1, (zero_is _).2, ⟨b, n, D, hi2.grown (grown_row _ w.heap.size _) (t := 81) (by decide) (by decide) (fun k e => by cases e; exact ⟨_, _, hR2⟩) (fun k e => by cases e; exact hbw)⟩, RKeep.below (below_row hB (Nat.le_refl _) _)⟩
  | some d =>
    rw [hf] at hlk
    simp only at hlk
    obtain ⟨f, hlk, hfl, hbt⟩ := hlk
    have HL := Lib.hid hlk
    unfold Fld.row at hlk
    have hbf := below_made wm (.cells f.row 81)
    have hF := heap_alloc_new wm (.cells f.row 81)
    have hR2 := below_blk' hbf hR
    have hi2 := hi.below hbf
    have hfl2 := hfl.below hbf
    have hbt2 := hbt.below hbf
    have hB := below_next hbm hbf
    have HW := Lib.hid (⟨_, rfl⟩ : ∃ wf, wm.alloc (.cells f.row 81) = wf)
    have hbw := h.bel.size
    have htd : f.text = d.text := hfl.text
    have hlr := lt_of_block hR
    have HT := Lib.hid htd
    clear hbf hR hi hbm h hfl hbt htd
    have HF := Lib.hid hf
    clear hf
    go_upto_region 4 with (fail)
    rw [show (#[.int .i64 f.tag, .bool f.text, .int .u64 f.num, .slice f.ba f.bn f.bc] : Array Value) = f.row from rfl]
    obtain ⟨wf, hwf⟩ := HW.out
    rw [hwf] at hF hR2 hi2 hB hfl2 hbt2 ⊢
    clear hwf HW hlk k0 k1 kf
    have hmB := hi2.map.isMap
    have hP := hi2.blk
    have k0 : wf.cell? ⟨p, 0, none⟩ = some (.map (some b)) := cell_blk hP rfl
    have hne1 : w.heap.size ≠ p := by omega
    have hown := hi2.map.own
    by_cases hx : d.text = text
    · have HQ : Hid (takeF ds bad tag text = (d, strike ds tag, bad)) := Lib.hid (by unfold takeF; rw [HF.out]; simp only [hx, if_true])
      have htx : (!f.text == text) = false := by rw [HT.out, hx]; simp
      have htx2 : (f.text == text) = true := by rw [HT.out, hx]; simp
      clear hx
      go_upto_region 7 with (at_delete; refine wpList_delete_own _ rfl _ _ 101 3 rfl 81 mapLaw Tryd.underlying101 heldE b n D rfl hown _ (kl tag) rfl (keyK (by omega)) ?_; intro w2 hown2 hturn2; have hg2 := hturn2.grown; have hF2 := (hg2.block wm.heap.size (lt_of_block hF) (fun e => by cases e; obtain ⟨_, _, hm⟩ := hmB; rw [hF] at hm; cases hm)).trans hF; have hR3 := (hg2.block w.heap.size (lt_of_block hR2) (fun e => by cases e; obtain ⟨_, _, hm⟩ := hmB; rw [hR2] at hm; cases hm)).trans hR2; have k1 : w2.cell? ⟨wm.heap.size, 1, none⟩ = some (.bool f.text) := cell_blk hF2 rfl)
      simp only [Act.put]
      go_wp2_with (first
        | (with_reducible refine wpList_load_row rfl 81 (.tmp 7) rfl wm.heap.size rfl _ f.row (0, 0) _ hF2 Tryd.underlying81 rfl (by with_unfolding_all exact info_fld) ?_)
        | (with_reducible refine wpList_store_row rfl 81 (.tmp 6) (.tmp 37) rfl w.heap.size f.row rfl rfl _ _ hR3 (by with_unfolding_all exact info_fld) (by with_unfolding_all exact rfl) (by with_unfolding_all exact rfl) ?_))
      refine bodyPost_ret (v := .agg f.row) (ret_fld1 rfl rfl (setRow_heap _ w.heap.size _ f.row _ _ hR3) rfl) rfl ?_
      rw [HQ.out]
      have hh := fld_turn hfl2 hbt2 hmB hg2
      have hr : ∀ j, some w.heap.size = some j → Tag w2 j 81 := fun j e => by cases e; exact ⟨_, _, hR3⟩
      exact ⟨f, rfl, hh.1.grown hh.2 (grown_row _ w.heap.size _) (t := 81) (by decide) hr, hh.2.grown (grown_row _ w.heap.size _) (t := 81) (by decide) hr, ⟨b, n, _, (hi2.del hs tag hown2 hg2).grown (grown_row _ w.heap.size _) (t := 81) (by decide) (by decide) hr (fun k e => by cases e; exact hbw)⟩, ((RKeep.below hB).trans (RKeep.turn hmB hg2)).row (Nat.le_refl _)⟩
    · have HQ : Hid (takeF ds bad tag text = (default, strike ds tag, 33)) := Lib.hid (by unfold takeF; rw [HF.out]; simp only [hx, if_false])
      have htx : (!f.text == text) = true := by rw [HT.out]; simpa using hx
      have htx2 : (f.text == text) = false := by rw [HT.out]; simpa using hx
      clear hx
      go_upto_region 7 with (at_delete; refine wpList_delete_own _ rfl _ _ 101 3 rfl 81 mapLaw Tryd.underlying101 heldE b n D rfl hown _ (kl tag) rfl (keyK (by omega)) ?_; intro w2 hown2 hturn2; have hg2 := hturn2.grown; have hF2 := (hg2.block wm.heap.size (lt_of_block hF) (fun e => by cases e; obtain ⟨_, _, hm⟩ := hmB; rw [hF] at hm; cases hm)).trans hF; have hR3 := (hg2.block w.heap.size (lt_of_block hR2) (fun e => by cases e; obtain ⟨_, _, hm⟩ := hmB; rw [hR2] at hm; cases hm)).trans hR2; have k1 : w2.cell? ⟨wm.heap.size, 1, none⟩ = some (.bool f.text) := cell_blk hF2 rfl)
      simp only [Act.put]
      have hi3 := hi2.del hs tag hown2 hg2
      have k2 : w2.cell? ⟨p, 1, none⟩ = some (.int .i64 (bad : Int)) := cell_blk hi3.blk rfl
      have f2 : w2.frozen? ⟨p, 1, none⟩ = false := free_blk hi3.blk
      have hi4 := hi3.fault 33
      have hR4 := (Below.heap_setCell w2 ⟨p, 1, none⟩ (.int .i64 33) w.heap.size (by show w.heap.size ≠ p; exact hne1)).trans hR3
      have hK := ((RKeep.below hB).trans (RKeep.turn hmB hg2)).trans (RKeep.set (o := 1) (v := .int .i64 33) ⟨_, _, hi3.blk⟩)
      clear hi3 hR3 hi2 hfl2 hbt2 hB hF hF2 hR2
      go_wp2_with (first
        | (with_reducible refine wpList_store_row rfl 81 (.tmp 6) (.tmp 36) rfl w.heap.size Fld.zero.row rfl rfl _ _ hR4 (by with_unfolding_all exact info_fld) (by with_unfolding_all exact rfl) (by with_unfolding_all exact rfl) ?_))
      refine bodyPost_ret (v := .agg Fld.zero.row) (ret_fld1 rfl rfl (setRow_heap _ w.heap.size _ Fld.zero.row _ _ hR4) rfl) rfl ?_
      rw [HQ.out]
      exact ⟨Fld.zero, rfl, (zero_is _).1, (zero_is _).2, ⟨b, n, _, hi4.grown (grown_row _ w.heap.size _) (t := 81) (by decide) (by decide) (fun k e => by cases e; exact ⟨_, _, hR4⟩) (fun k e => by cases e; exact hbw)⟩, hK.row (Nat.le_refl _)⟩
end Go.Proofs.YtkdpingniohfhaaDoor

namespace Go.Proofs.YtkdpingniohfhaaDoor
open Go.RowKit
set_option linter.unusedVariables false

/-- A field that was read. -/
def RightF (d : FD) : Prop := 1 ≤ d.tag ∧ d.tag ≤ 31 ∧ d.num < 18446744073709551616 ∧ d.bytes.length ≤ 200 ∧ (d.text = true → 0 < d.bytes.length ∧ d.num = 0) ∧ (d.text = false → d.bytes = [] ∧ 0 < d.num)
theorem nextF_right {l : List UInt8} {last n : Nat} {d : FD} (h : nextF l last = (d, n, 0)) : RightF d := by
  obtain ⟨x1, hx1⟩ : ∃ x, dec l = x := ⟨_, rfl⟩
  obtain ⟨k, p, er⟩ := x1
  obtain ⟨x2, hx2⟩ : ∃ x, dec (l.drop p) = x := ⟨_, rfl⟩
  obtain ⟨u, m, er2⟩ := x2
  have d1 := dec_bd l
  have d2 := dec_bd (l.drop p)
  rw [hx1] at d1
  rw [hx2] at d2
  simp only [List.length_drop] at d1 d2
  rw [nextF_of hx1 hx2] at h
  split at h
  · simp only [Prod.mk.injEq] at h; omega
  split at h
  · simp only [Prod.mk.injEq] at h; omega
  split at h
  · simp only [Prod.mk.injEq] at h; omega
  split at h
  · simp only [Prod.mk.injEq] at h; omega
  split at h
  · simp only [Prod.mk.injEq] at h; omega
  split at h
  · simp only [Prod.mk.injEq] at h
    obtain ⟨rfl, rfl, _⟩ := h
    exact ⟨by show 1 ≤ k / 2; omega, by show k / 2 ≤ 31; omega, d2.1, by simp, (by intro e; cases e), fun _ => ⟨rfl, by show 0 < u; omega⟩⟩
  split at h
  · simp only [Prod.mk.injEq] at h; omega
  split at h
  · simp only [Prod.mk.injEq] at h; omega
  · simp only [Prod.mk.injEq] at h
    obtain ⟨rfl, rfl, _⟩ := h
    have hl : ((l.drop (p + m)).take u).length = u := by rw [List.length_take, List.length_drop]; omega
    exact ⟨by show 1 ≤ k / 2; omega, by show k / 2 ≤ 31; omega, by show 0 < 18446744073709551616; omega, by show ((l.drop (p + m)).take u).length ≤ 200; omega, fun _ => ⟨by show 0 < ((l.drop (p + m)).take u).length; omega, rfl⟩, (by intro e; cases e)⟩

structure GoodF (ds : List FD) : Prop where
  rise : Rise ds
  right : ∀ d ∈ ds, RightF d
theorem GoodF.nil : GoodF [] := ⟨List.Pairwise.nil, fun d h => by cases h⟩
theorem GoodF.snoc {ds : List FD} {d : FD} {last : Nat} (h : GoodF ds) (hl : ∀ x ∈ ds, x.tag ≤ last) (hd : RightF d) (ht : last < d.tag) : GoodF (ds ++ [d]) :=
  ⟨List.pairwise_append.2 ⟨h.rise, List.pairwise_singleton _ _, fun x hx y hy => by simp at hy; subst hy; have := hl x hx; omega⟩, fun x hx => by
    rcases List.mem_append.1 hx with h1 | h1
    · exact h.right x h1
    · simp at h1; subst h1; exact hd⟩
theorem GoodF.strike {ds : List FD} (h : GoodF ds) (t : Nat) : GoodF (strike ds t) := ⟨h.rise.strike t, fun d hd => h.right d (List.mem_filter.1 hd).1⟩
theorem readF_right (l : List UInt8) : ∀ (k p last : Nat) (acc : List FD), GoodF acc → (∀ x ∈ acc, x.tag ≤ last) → GoodF (readF l k p last acc).1
  | 0, p, last, acc, h, hl => h
  | k + 1, p, last, acc, h, hl => by
    unfold readF
    split
    · exact h
    split
    · exact GoodF.nil
    · rename_i he
      obtain ⟨y, hy⟩ : ∃ y, nextF (l.drop p) last = y := ⟨_, rfl⟩
      obtain ⟨d, n, e⟩ := y
      rw [hy] at he ⊢
      simp only at he ⊢
      have he0 : e = 0 := by simpa using he
      subst he0
      have hg := (nextF_good hy).2 rfl
      have hd := nextF_right hy
      exact readF_right l k _ _ _ (h.snoc hl hd hg.2.2.1) (fun x hx => by
        rcases List.mem_append.1 hx with h1 | h1
        · have := hl x h1; omega
        · simp at h1; subst h1; exact Nat.le_refl _)
theorem decodeF_right (l : List UInt8) : GoodF (decodeF l).1 := by
  unfold decodeF
  split
  · exact GoodF.nil
  · exact readF_right l _ _ _ _ GoodF.nil (fun x h => by cases h)
theorem takeF_good {ds : List FD} {bad tag : Nat} {text : Bool} (h : GoodF ds) : GoodF (takeF ds bad tag text).2.1 ∧ (takeF ds bad tag text).1.num < 18446744073709551616 ∧ (takeF ds bad tag text).1.bytes.length ≤ 200 := by
  unfold takeF
  cases hf : ds.find? (fun d => d.tag == tag) with
  | none => exact ⟨h, by show 0 < 18446744073709551616; omega, by show 0 ≤ 200; omega⟩
  | some d =>
    have hd := h.right d (List.mem_of_find?_eq_some hf)
    simp only
    split
    · exact ⟨h.strike tag, hd.2.2.1, hd.2.2.2.1⟩
    · exact ⟨h.strike tag, by show 0 < 18446744073709551616; omega, by show 0 ≤ 200; omega⟩
end Go.Proofs.YtkdpingniohfhaaDoor

namespace Go.Proofs.YtkdpingniohfhaaDoor
open Go.RowKit
set_option linter.unusedVariables false

theorem fieldN (f : Fld) (w : World) : (Instr.field 81 (.agg f.row) 2).run Tryd.prog w = .ok (.int .u64 f.num) w := by kernel_rfl
theorem fieldB (f : Fld) (w : World) : (Instr.field 81 (.agg f.row) 3).run Tryd.prog w = .ok (.slice f.ba f.bn f.bc) w := by kernel_rfl
/-- A number's taking. -/
def NumQ (w0 : World) (p : Nat) (v : Value) (y : FD × List FD × Nat) (w : World) (x : Ending) (w' : World) : Prop :=
  x = .returned v ∧ RdAt w0 w' p y.2.1 y.2.2 ∧ RKeep w w'
theorem rdnum_any (w0 w : World) (p : Nat) (ds : List FD) (bad : Nat) (h : RdAt w0 w p ds bad) (hs : Rise ds) (tag : Nat) (ht : tag < 1000) :
    Calls Tryd.prog 35 #[.pointer (some ⟨p, 0, none⟩), .int .i64 (tag : Int)] w (NumQ w0 p (.int .u64 ((takeF ds bad tag false).1.num : Int)) (takeF ds bad tag false) w) := by
  obtain ⟨y, hy⟩ : ∃ y, takeF ds bad tag false = y := ⟨_, rfl⟩
  have HT := take_any w0 w p ds bad h hs tag false ht
  rw [hy] at HT ⊢
  have HT := Lib.hid HT
  clear h hs hy
  have hfn := fieldN
  go_enter Tryd.func35, Tryd.ntmps35
  go_wp2_with ((with_reducible refine HT.out.mono ?_); rintro x w2 ⟨f, rfl, hf, hb, hr, hk⟩; have HN := Lib.hid hf.num)
  go_ret
  exact ⟨ret_int HN.out, hr, hk⟩
theorem rdint_any (w0 w : World) (p : Nat) (ds : List FD) (bad : Nat) (h : RdAt w0 w p ds bad) (hs : Rise ds) (tag : Nat) (ht : tag < 1000) (hn : (takeF ds bad tag false).1.num < 18446744073709551616) :
    Calls Tryd.prog 36 #[.pointer (some ⟨p, 0, none⟩), .int .i64 (tag : Int)] w (NumQ w0 p (.int .i64 (zagN ((takeF ds bad tag false).1.num : Int))) (takeF ds bad tag false) w) := by
  obtain ⟨y, hy⟩ : ∃ y, takeF ds bad tag false = y := ⟨_, rfl⟩
  have HT := rdnum_any w0 w p ds bad h hs tag ht
  rw [hy] at HT hn ⊢
  have HT := Lib.hid HT
  clear h hs hy
  obtain ⟨d, ds', bad'⟩ := y
  obtain ⟨u, hu⟩ : ∃ u : Int, (d.num : Int) = u := ⟨_, rfl⟩
  have h0 : 0 ≤ u := by omega
  have h1 : u < 18446744073709551616 := by simp only at hn; omega
  simp only at HT ⊢
  rw [hu] at HT ⊢
  clear hu hn
  go_enter Tryd.func36, Tryd.ntmps36
  go_wp2_with (first
    | ((with_reducible refine HT.out.mono ?_); rintro x w2 ⟨rfl, hr, hk⟩)
    | ((with_reducible refine (zag_any u _ h0 h1).mono ?_); rintro x w3 ⟨rfl, rfl⟩))
  go_ret
  exact ⟨rfl, hr, hk⟩
/-- A text's taking. -/
def TextQ (w0 : World) (p : Nat) (y : FD × List FD × Nat) (w : World) (x : Ending) (w' : World) : Prop :=
  ∃ f : Fld, x = .returned (.slice f.ba f.bn f.bc) ∧ RowAt w' f.ba f.bn f.bc 1 (y.1.bytes.map B) ∧ RdAt w0 w' p y.2.1 y.2.2 ∧ RKeep w w'
theorem rdtext_any (w0 w : World) (p : Nat) (ds : List FD) (bad : Nat) (h : RdAt w0 w p ds bad) (hs : Rise ds) (tag : Nat) (ht : tag < 1000) :
    Calls Tryd.prog 37 #[.pointer (some ⟨p, 0, none⟩), .int .i64 (tag : Int)] w (TextQ w0 p (takeF ds bad tag true) w) := by
  obtain ⟨y, hy⟩ : ∃ y, takeF ds bad tag true = y := ⟨_, rfl⟩
  have HT := take_any w0 w p ds bad h hs tag true ht
  rw [hy] at HT ⊢
  have HT := Lib.hid HT
  clear h hs hy
  have hfb := fieldB
  go_enter Tryd.func37, Tryd.ntmps37
  go_wp2_with ((with_reducible refine HT.out.mono ?_); rintro x w2 ⟨f, rfl, hf, hb, hr, hk⟩; have HR := Lib.hid hf.row)
  go_ret
  exact ⟨f, rfl, HR.out, hr, hk⟩
/-- What is wrong in the end. -/
def errF (ds : List FD) (bad : Nat) : Nat := if bad ≠ 0 then bad else if 0 < ds.length then 20 else 0
theorem rderr_any (w0 w : World) (p : Nat) (ds : List FD) (bad : Nat) (h : RdAt w0 w p ds bad) :
    Calls Tryd.prog 38 #[.pointer (some ⟨p, 0, none⟩)] w fun x w' => x = .returned (.int .i64 (errF ds bad : Int)) ∧ w = w' := by
  obtain ⟨b, n, D, h⟩ := h
  have k0 : w.cell? ⟨p, 0, none⟩ = some (.map (some b)) := cell_blk h.blk rfl
  have k1 : w.cell? ⟨p, 1, none⟩ = some (.int .i64 (bad : Int)) := cell_blk h.blk rfl
  have hown := h.map.own
  have hsz := h.map.size
  have HS := Lib.hid hsz
  clear hsz
  by_cases hb : bad = 0
  · subst hb
    by_cases hl : 0 < ds.length
    · have HQ : Hid (errF ds 0 = 20) := Lib.hid (by unfold errF; rw [if_neg (by simp), if_pos hl])
      have hg : 0 < Maps.size D := by rw [HS.out]; exact hl
      go_enter Tryd.func38, Tryd.ntmps38
      go_wp2_with (at_len; refine wpList_len_own _ rfl _ 101 rfl 3 81 Tryd.underlying101 _ b n D rfl hown ?_)
      go_ret
      rw [HQ.out]
      exact ⟨rfl, rfl⟩
    · have HQ : Hid (errF ds 0 = 0) := Lib.hid (by unfold errF; rw [if_neg (by simp), if_neg hl])
      have hg : ¬ 0 < Maps.size D := by rw [HS.out]; exact hl
      go_enter Tryd.func38, Tryd.ntmps38
      go_wp2_with (at_len; refine wpList_len_own _ rfl _ 101 rfl 3 81 Tryd.underlying101 _ b n D rfl hown ?_)
      go_ret
      rw [HQ.out]
      exact ⟨rfl, rfl⟩
  · have hb2 : ((bad : Int) != 0) = true := by rw [bne_iff_ne]; omega
    have HQ : Hid (errF ds bad = bad) := Lib.hid (by unfold errF; rw [if_pos hb])
    clear hb
    go_enter Tryd.func38, Tryd.ntmps38
    go_wp2_with fail
    go_ret
    rw [HQ.out]
    exact ⟨rfl, rfl⟩
end Go.Proofs.YtkdpingniohfhaaDoor

namespace Go.Proofs.YtkdpingniohfhaaDoor
open Go.RowKit
set_option linter.unusedVariables false

theorem FsIn.turn {w0 w w' : World} {ds : List FD} {a : Option Addr} {n cap b : Nat} {ms : List Fld} (h : FsIn w0 w ds a n cap ms) (hm : ∃ es c, w.heap[b]? = some (.map es c)) (hg : w.grownBy w' (some b)) (hb : w0.heap.size ≤ b) : FsIn w0 w' ds a n cap ms := by
  refine ⟨h.own.kept hg (by
      cases ho : (Value.slice a n cap).ownBlock with
      | none => exact .inl rfl
      | some k =>
        refine .inr fun e => ?_
        cases e
        obtain ⟨cs, fr, hk⟩ := own_tag h.own ho
        obtain ⟨es, c, hm⟩ := hm
        rw [hm] at hk; cases hk), ?_, ?_, h.bel.grown hg h.bel.size (fun k e => by cases e; exact hb)⟩
  · have key : ∀ (fs : List Fld) (es : List FD), FldsAre w fs es → (∀ f ∈ fs, BytesTag w f) → FldsAre w' fs es := by
      intro fs
      induction fs with
      | nil => intro es h1 _; cases es with
        | nil => trivial
        | cons _ _ => exact h1.elim
      | cons f fs ih => intro es h1 h2; cases es with
        | nil => exact h1.elim
        | cons e es => exact ⟨(fld_turn h1.1 (h2 f (by simp)) hm hg).1, ih es h1.2 (fun g hg => h2 g (by simp [hg]))⟩
    exact key ms ds h.flds h.tags
  · intro f hf
    have hb := h.tags f hf
    exact fun b' o e => (hb b' o e).grown hg (fun e2 => by
      obtain ⟨cs, fr, hk⟩ := hb b' o e
      cases e2
      obtain ⟨es, c, hm⟩ := hm
      rw [hm] at hk; cases hk)
theorem RdIn.put {w0 w w' : World} {p b n : Nat} {D : DataW Value} {ds : List FD} {bad : Nat} (h : RdIn w0 w p b n D ds bad) {f : Fld} {d : FD} (hn : hasT ds d.tag = false) (ho : w'.ownsMap Tryd.prog 3 heldE b (n + 1) (D.put (kl d.tag) (.held (.agg f.row)))) (hg : w.grownBy w' (some b)) (hf : FldIs w f d) (hb : BytesTag w f) : RdIn w0 w' p b (n + 1) (D.put (kl d.tag) (.held (.agg f.row))) (ds ++ [d]) bad :=
  ⟨(hg.block p (lt_of_block h.blk) (fun e => by cases e; obtain ⟨_, _, hm⟩ := h.map.isMap; rw [h.blk] at hm; cases hm)).trans h.blk, h.map.put hn ho hg hf hb, h.bp, h.bb, h.bel.grown hg h.bel.size (fun k e => by cases e; exact h.bb)⟩
theorem rise_new {ds : List FD} (h : Rise ds) {j : Nat} {d : FD} (hd : ds[j]? = some d) : hasT (ds.take j) d.tag = false := by
  unfold hasT
  rw [List.any_eq_false]
  intro x hx
  have hj : j < ds.length := by
    rcases Nat.lt_or_ge j ds.length with h | h
    · exact h
    · rw [List.getElem?_eq_none h] at hd; cases hd
  have e1 : ds = ds.take j ++ d :: ds.drop (j + 1) := by
    have := List.take_append_drop j ds
    rw [List.drop_eq_getElem_cons hj] at this
    rw [List.getElem?_eq_getElem hj] at hd
    cases hd
    exact this.symm
  rw [e1] at h
  have := (List.pairwise_append.1 h).2.2 x hx d (by simp)
  simp; omega
theorem rise_len : ∀ (ds : List FD) (k : Nat), Rise ds → (∀ d ∈ ds, k < d.tag ∧ d.tag ≤ 31) → ds.length + k ≤ 31 ∨ ds = []
  | [], k, _, _ => .inr rfl
  | d :: ds, k, hr, h => by
    have h1 := List.pairwise_cons.1 hr
    have h2 := h d (by simp)
    left
    rcases rise_len ds d.tag h1.2 (fun x hx => ⟨h1.1 x hx, (h x (by simp [hx])).2⟩) with h3 | rfl
    · simp only [List.length_cons]; omega
    · simp; omega
theorem GoodF.len {ds : List FD} (h : GoodF ds) : ds.length ≤ 31 := by
  rcases rise_len ds 0 h.rise (fun d hd => ⟨by have := (h.right d hd).1; omega, (h.right d hd).2.1⟩) with h1 | rfl
  · omega
  · simp
/-- What NewReader gives. -/
def NewQ (y : List FD × Nat × Nat) (w : World) (x : Ending) (w' : World) : Prop :=
  if y.2.2 = 0 then ∃ p, x = .returned (.tuple #[.pointer (some ⟨p, 0, none⟩), .int .i64 0]) ∧ RdAt w w' p y.1 0
  else x = .returned (.tuple #[.pointer none, .int .i64 (y.2.2 : Int)]) ∧ Below w.heap.size w w'

set_option maxHeartbeats 3200000 in
theorem newrd_any (a1 : Option Addr) (n1 c1 : Nat) (l : List UInt8) (w : World) (r1 : RowAt w a1 n1 c1 1 (l.map B)) :
    Calls Tryd.prog 34 #[.slice a1 n1 c1] w (NewQ (decodeF l) w) := by
  have hD := tdec_any a1 n1 c1 l w r1
  have hG := decodeF_right l
  have hL := hG.len
  obtain ⟨y, hy⟩ : ∃ y, decodeF l = y := ⟨_, rfl⟩
  rw [hy] at hD hG hL ⊢
  obtain ⟨ds, pl, e⟩ := y
  have HD := Lib.hid hD
  clear hD hy r1
  have hmm := @run_makeMap Tryd.prog
  simp only at hL hG
  by_cases he : e = 0
  · subst he
    unfold NewQ
    simp only [if_true]
    go_enter Tryd.func34, Tryd.ntmps34
    go_wp2_with ((with_reducible refine HD.out.mono ?_); rintro x w2 ⟨a, n, c, ms, rfl, hF⟩)
    have hb1 := below_made w2 (.map #[] 0)
    have hb2 := below_made (w2.alloc (.map #[] 0)) (.cells #[.map (some w2.heap.size), .int .i64 0] 103)
    have hsz : (w2.alloc (.map #[] 0)).heap.size = w2.heap.size + 1 := by simp
    have hblk := heap_alloc_new (w2.alloc (.map #[] 0)) (.cells #[.map (some w2.heap.size), .int .i64 0] 103)
    rw [hsz] at hblk
    have hF2 := (hF.below hb1).below hb2
    have hown := ((World.ownsMap_made w2 Tryd.prog 3 heldE).alloc (.cells #[.map (some w2.heap.size), .int .i64 0] 103))
    have hi : RdIn w _ (w2.heap.size + 1) w2.heap.size 0 (.map []) [] 0 := ⟨hblk, ⟨hown, fun t => rfl, rfl, fun d hd => by cases hd⟩, by have := hF.bel.size; omega, hF.bel.size, hF2.bel⟩
    have hlen := hF.len
    have hn31 : n ≤ 31 := by omega
    have HLEN := Lib.hid hlen
    obtain ⟨wm, hwm⟩ : ∃ wm, (w2.alloc (.map #[] 0)).alloc (.cells #[.map (some w2.heap.size), .int .i64 0] 103) = wm := ⟨_, rfl⟩
    rw [hwm] at hF2 hi ⊢
    obtain ⟨b, hbq⟩ : ∃ b, w2.heap.size = b := ⟨_, rfl⟩
    rw [hbq] at hi ⊢
    clear hb1 hb2 hsz hblk hown hwm hbq hlen hF
    go_loopw [24] (fun iv wr => ∃ (j : Nat) (D : DataW Value), iv = .int .i64 (j : Int) ∧ j ≤ n ∧ RdIn w wr (b + 1) b j D (ds.take j) 0 ∧ FsIn w wr ds a n c ms) (fun iv _ => n - (intOf iv).toNat)
    case atStart => exact ⟨0, _, rfl, Nat.zero_le _, hi, hF2⟩
    case round =>
      clear hi hF2
      obtain ⟨j, D, rfl, hj, hi, hF⟩ := hrel
      by_cases hlt : j < n
      · obtain ⟨b', off, f, rfl, hfj, g0, g1, g2, g3⟩ := fld_at (own_rowAt hF.own) j hlt
        obtain ⟨d, hd, hfd⟩ := hF.flds.get hfj
        have hft := hF.tags f (List.mem_of_getElem? hfj)
        have hnew := rise_new hG.rise hd
        have hdr := hG.right d (List.mem_of_getElem? hd)
        have htk : ds.take (j + 1) = ds.take j ++ [d] := by rw [List.take_add_one, hd]; rfl
        have hkey : keyOf Tryd.prog 3 (.int .i64 f.tag) = some (kl d.tag) := by rw [hfd.tag]; exact keyK (by have := hdr.2.1; omega)
        have HKEY := Lib.hid hkey
        have HTK := Lib.hid htk
        have HD' := Lib.hid hd
        have hbm := below_made wr (.cells #[.int .i64 f.tag, .bool f.text, .int .u64 f.num, .slice f.ba f.bn f.bc] 81)
        have hX := heap_alloc_new wr (.cells #[.int .i64 f.tag, .bool f.text, .int .u64 f.num, .slice f.ba f.bn f.bc] 81)
        have hi1 := hi.below hbm
        have hF1 := hF.below hbm
        have hfd1 := hfd.below hbm
        have hft1 := hft.below hbm
        have HW := Lib.hid (⟨_, rfl⟩ : ∃ wf, wr.alloc (.cells #[.int .i64 f.tag, .bool f.text, .int .u64 f.num, .slice f.ba f.bn f.bc] 81) = wf)
        clear hfj hd htk hkey hi hF hfd hft hbm
        go_upto_region 8 with (fail)
        obtain ⟨wf, hwf⟩ := HW.out
        rw [hwf] at hX hi1 hF1 hfd1 hft1 ⊢
        clear hwf HW g0 g1 g2 g3
        have c0 : wf.cell? ⟨wr.heap.size, 0, none⟩ = some (.int .i64 f.tag) := cell_blk hX rfl
        have c1' : wf.cell? ⟨wr.heap.size, 1, none⟩ = some (.bool f.text) := cell_blk hX rfl
        have c2 : wf.cell? ⟨wr.heap.size, 2, none⟩ = some (.int .u64 f.num) := cell_blk hX rfl
        have c3 : wf.cell? ⟨wr.heap.size, 3, none⟩ = some (.slice f.ba f.bn f.bc) := cell_blk hX rfl
        have k0 : wf.cell? ⟨b + 1, 0, none⟩ = some (.map (some b)) := cell_blk hi1.blk rfl
        obtain ⟨w5, hrun, hown5, hg5⟩ := (hi1.map.own.drew).update mapLaw Tryd.underlying101 (by unfold maxLen; omega) HKEY.out (val := .agg #[.int .i64 f.tag, .bool f.text, .int .u64 f.num, .slice f.ba f.bn f.bc]) (d := .held (.agg #[.int .i64 f.tag, .bool f.text, .int .u64 f.num, .slice f.ba f.bn f.bc])) (ps := []) rfl
        go_region
        have hg6 : wf.grownBy w5 (some b) := ⟨hg5.os, hg5.tape, hg5.output, hg5.size, hg5.block⟩
        have hi5 := hi1.put (f := f) hnew hown5 hg6 hfd1 hft1
        have hF5 := hF1.turn hi1.map.isMap hg6 hi1.bb
        rw [← HTK.out] at hi5
        clear hown5 hg5 hg6 hi1 hF1 hfd1 hft1 hrun c0 c1' c2 c3 k0 hX
        go_wp2_with fail
        go_roundw
        case rel => exact ⟨j + 1, _, by go_num, by omega, hi5, hF5⟩
        case measure => simp [intOf]; omega
      · obtain rfl : j = n := by omega
        have hall : ds.take j = ds := List.take_of_length_le (by have := HLEN.out; omega)
        rw [hall] at hi
        go_wp2_with fail
        refine bodyPost_ret (results_tmp2 rfl _ _ _) rfl ?_
        exact ⟨b + 1, rfl, ⟨b, j, D, hi⟩⟩
  · have he' : ((e : Int) != 0) = true := by rw [bne_iff_ne]; omega
    unfold NewQ
    simp only [he, if_false]
    clear he
    go_enter Tryd.func34, Tryd.ntmps34
    go_wp2_with ((with_reducible refine HD.out.mono ?_); rintro x w2 ⟨a, n, c, ms, rfl, hF⟩)
    refine bodyPost_ret (results_tmp2 rfl _ _ _) rfl ?_
    exact ⟨rfl, hF.bel⟩
end Go.Proofs.YtkdpingniohfhaaDoor

namespace Go.Proofs.YtkdpingniohfhaaDoor
open Go.RowKit
set_option linter.unusedVariables false

/-- What stands at a tag, if it is of that form. -/
def look (ds : List FD) (t : Nat) (x : Bool) : FD := match ds.find? (fun d => d.tag == t) with | some d => if d.text = x then d else default | none => default
/-- Which tags were asked for, and how. -/
def inT (tx : List (Nat × Bool)) (t : Nat) : Bool := tx.any (fun q => q.1 == t)
def left (ds : List FD) (tx : List (Nat × Bool)) : List FD := ds.filter (fun d => !inT tx d.tag)
def misT (ds : List FD) (tx : List (Nat × Bool)) : Bool := ds.any (fun d => tx.any (fun q => q.1 == d.tag && q.2 != d.text))
def badT (ds : List FD) (tx : List (Nat × Bool)) : Nat := if misT ds tx then 33 else 0
theorem left_nil (ds : List FD) : left ds [] = ds := by unfold left inT; simp
theorem badT_nil (ds : List FD) : badT ds [] = 0 := by unfold badT misT; simp
theorem find_left {ds : List FD} {tx : List (Nat × Bool)} {t : Nat} (h : inT tx t = false) : (left ds tx).find? (fun d => d.tag == t) = ds.find? (fun d => d.tag == t) := by
  unfold left
  exact Maps.find_filter_keep (fun d hd => by
    have : d.tag = t := by simpa using hd
    rw [this, h]; rfl) ds
theorem left_cons (ds : List FD) (tx : List (Nat × Bool)) (t : Nat) (x : Bool) : left ds ((t, x) :: tx) = strike (left ds tx) t := by
  unfold left strike inT
  rw [List.filter_filter]
  congr 1
  funext d
  simp only [List.any_cons, Bool.not_or]
  have : (d.tag != t) = !(t == d.tag) := by
    show (!(d.tag == t)) = !(t == d.tag)
    rw [BEq.comm]
  rw [this]
theorem mis_cons (ds : List FD) (tx : List (Nat × Bool)) (t : Nat) (x : Bool) : misT ds ((t, x) :: tx) = (ds.any (fun d => t == d.tag && x != d.text) || misT ds tx) := by
  unfold misT
  induction ds with
  | nil => rfl
  | cons d ds ih =>
    simp only [List.any_cons] at ih ⊢
    rw [ih]
    cases (t == d.tag && x != d.text) <;> cases (tx.any fun q => q.1 == d.tag && q.2 != d.text) <;> cases (ds.any fun d => t == d.tag && x != d.text) <;> simp
theorem any_one {ds : List FD} (hr : Rise ds) {t : Nat} {x : Bool} {d : FD} (hf : ds.find? (fun d => d.tag == t) = some d) : ds.any (fun d => t == d.tag && x != d.text) = (x != d.text) := by
  induction ds with
  | nil => cases hf
  | cons c ds ih =>
    have h1 := List.pairwise_cons.1 hr
    by_cases hc : c.tag = t
    · have e1 : (c.tag == t) = true := by simp [hc]
      rw [List.find?_cons, e1] at hf
      cases hf
      have e2 : ds.any (fun d => t == d.tag && x != d.text) = false := by
        rw [List.any_eq_false]
        intro y hy
        have h2 := h1.1 y hy
        have h3 : ¬ (t = y.tag) := by omega
        simp [h3]
      rw [List.any_cons, e2]
      simp [hc]
    · have e1 : (c.tag == t) = false := by simp [hc]
      rw [List.find?_cons, e1] at hf
      rw [List.any_cons, ih h1.2 hf]
      have h3 : ¬ (t = c.tag) := fun e => hc e.symm
      simp [h3]
theorem take_law {ds : List FD} (hr : Rise ds) (tx : List (Nat × Bool)) (t : Nat) (x : Bool) (h : inT tx t = false) : takeF (left ds tx) (badT ds tx) t x = (look ds t x, left ds ((t, x) :: tx), badT ds ((t, x) :: tx)) := by
  unfold takeF look
  rw [find_left h, left_cons]
  cases hf : ds.find? (fun d => d.tag == t) with
  | none =>
    have hn : hasT (left ds tx) t = false := by
      unfold hasT
      rw [List.any_eq_false]
      intro d hd
      have := List.find?_eq_none.1 hf d (List.mem_filter.1 hd).1
      simpa using this
    have hm : ds.any (fun d => t == d.tag && x != d.text) = false := by
      rw [List.any_eq_false]
      intro d hd
      have := List.find?_eq_none.1 hf d hd
      have h2 : ¬ (t = d.tag) := fun e => this (by simp [e])
      simp [h2]
    simp only
    rw [strike_none hn]
    unfold badT
    rw [mis_cons, hm]
    simp
  | some d =>
    simp only
    unfold badT
    rw [mis_cons, any_one hr hf]
    by_cases hx : d.text = x
    · rw [if_pos hx, if_pos hx]
      have : (x != d.text) = false := by simp [hx]
      rw [this]; simp
    · rw [if_neg hx, if_neg hx]
      have : (x != d.text) = true := by simp; exact fun e => hx e.symm
      rw [this]; simp
theorem look_num {ds : List FD} (h : GoodF ds) (t : Nat) (x : Bool) : (look ds t x).num < 18446744073709551616 ∧ (look ds t x).bytes.length ≤ 200 := by
  unfold look
  cases hf : ds.find? (fun d => d.tag == t) with
  | none => exact ⟨by show 0 < 18446744073709551616; omega, by show 0 ≤ 200; omega⟩
  | some d =>
    have hd := h.right d (List.mem_of_find?_eq_some hf)
    simp only
    split
    · exact ⟨hd.2.2.1, hd.2.2.2.1⟩
    · exact ⟨by show 0 < 18446744073709551616; omega, by show 0 ≤ 200; omega⟩

/-- A number of a record as an int. -/
def clampI (u : Nat) : Int := if u < 4611686018427387904 then (u : Int) else 4611686018427387904
def strD (l : List UInt8) : ByteArray := ⟨l.toArray⟩
def kinds1 : List (Nat × Bool) := [(5, false), (4, false), (3, false), (2, false), (1, false)]
/-- The tags that a version asks for. -/
def seqV (v : Int) : List (Nat × Bool) :=
  if v = 1 then kinds1 else if v = 2 then (6, false) :: kinds1 else if v = 3 then (6, false) :: (7, false) :: kinds1
  else if v = 4 then (6, false) :: (7, false) :: (8, true) :: kinds1 else (6, false) :: (7, false) :: (8, true) :: (9, false) :: (10, true) :: kinds1
/-- The event of the fields. -/
def evOf (v : Int) (ds : List FD) : Ev where
  kind := clampI (look ds 1 false).num
  order := clampI (look ds 2 false).num
  item := clampI (look ds 3 false).num
  qty := if v < 3 then zagN ((look ds 4 false).num : Int) else clampI (look ds 4 false).num
  price := clampI (look ds 5 false).num
  cur := if v < 2 then 0 else clampI (look ds 6 false).num
  tax := if v < 3 then 0 else clampI (look ds 7 false).num
  who := if v < 4 then ByteArray.empty else strD (look ds 8 true).bytes
  stamp := if v < 5 then 0 else clampI (look ds 9 false).num
  note := if v < 5 then ByteArray.empty else strD (look ds 10 true).bytes
/-- The event of a record, or what is wrong. -/
def sdecF (v : Int) (l : List UInt8) : Ev × Int :=
  if v < 1 ∨ 5 < v then (default, 30)
  else if (decodeF l).2.2 ≠ 0 then (default, ((decodeF l).2.2 : Int))
  else if errF (left (decodeF l).1 (seqV v)) (badT (decodeF l).1 (seqV v)) ≠ 0 then (default, (errF (left (decodeF l).1 (seqV v)) (badT (decodeF l).1 (seqV v)) : Int))
  else if chk v (evOf v (decodeF l).1) ≠ 0 then (default, chk v (evOf v (decodeF l).1))
  else (evOf v (decodeF l).1, 0)
/-- string(b). -/
theorem str_of {w : World} {a : Option Addr} {n c : Nat} {l : List UInt8} (h : RowAt w a n c 1 (l.map B)) : (convert 22 9 (.slice a n c)).run Tryd.prog w = .ok (.string (strD l)) w := by
  have hl : l.length = n := by simpa using h.len
  subst hl
  rcases h.2.2.2 with h0 | ⟨b, o, rfl, hc⟩
  · obtain rfl : l = [] := List.eq_nil_of_length_eq_zero h0
    rw [run_convert_bytes_string w _ _ _ _ _ c Tryd.underlying22 Tryd.underlying5 Tryd.underlying9]
    cases a <;> simp [Conv.bytesToString, loadCells, strD]
    all_goals rfl
  · exact run_convert_bytes_back w _ _ _ ⟨b, o, none⟩ c l Tryd.underlying22 Tryd.underlying5 Tryd.underlying9 (fun j hj => by
      rw [addr_add]
      exact hc j _ (by simp [List.getElem?_eq_getElem hj, B]))
end Go.Proofs.YtkdpingniohfhaaDoor

namespace Go.Proofs.YtkdpingniohfhaaDoor
open Go.RowKit
set_option linter.unusedVariables false

theorem ret_evN {fn : Func} {p u : Tmp} {cs : Array Value} {tmps : Array Value} {w : World} {g : Nat} {e : TypeId} (h : fn.results = #[.cell p 25, .tmp u]) (hp : tmps.getD p undef = .pointer (some ⟨g, 0, none⟩)) (hg : w.heap[g]? = some (.cells cs e (0, 0))) (hs : cs.size = 10) {v : Value} (hv : tmps.getD u undef = v) :
    (results fn tmps).run Tryd.prog w = .ok (.tuple #[.agg cs, v]) w := by
  subst hv
  rw [results_cell_tmp h, hp]
  have hl := run_loadVar_row (P := Tryd.prog) w g e 25 cs (0, 0) _ hg Tryd.underlying25 rfl (by rw [hs]; exact info_ev)
  simp [asAddr, hl]
theorem snum_any (n : Nat) (h : n < 18446744073709551616) (w : World) : Calls Tryd.prog 20 #[.int .u64 (n : Int)] w fun x w' => x = .returned (.int .i64 (clampI n)) ∧ w = w' := by
  obtain ⟨u, hu⟩ : ∃ u : Int, (n : Int) = u := ⟨_, rfl⟩
  have h0 : 0 ≤ u := by omega
  have h1 : u < 18446744073709551616 := by omega
  by_cases hn : n < 4611686018427387904
  · have HQ : Hid (clampI n = u) := Lib.hid (by unfold clampI; rw [if_pos hn, hu])
    have h2 : u < 4611686018427387904 := by omega
    rw [hu]
    clear hu h hn h1
    go_enter Tryd.func20, Tryd.ntmps20
    go_wp2
    go_ret
    rw [HQ.out]
    exact ⟨rfl, rfl⟩
  · have HQ : Hid (clampI n = 4611686018427387904) := Lib.hid (by unfold clampI; rw [if_neg hn])
    have h2 : ¬ u < 4611686018427387904 := by omega
    rw [hu]
    clear hu h hn
    go_enter Tryd.func20, Tryd.ntmps20
    go_wp2
    all_goals
      go_ret
      rw [HQ.out]
      exact ⟨ret_int (by omega), rfl⟩

/-- The reader in memory, and the block of the results. -/
structure DecR (w0 wk : World) (p R : Nat) (ds : List FD) (tx : List (Nat × Bool)) : Prop where
  rd : RdAt w0 wk p (left ds tx) (badT ds tx)
  ret : wk.heap[R]? = some (.cells (default : Ev).cells 25 (0, 0))
theorem DecR.step {w0 wk w' : World} {p R : Nat} {ds : List FD} {tx : List (Nat × Bool)} (h : DecR w0 wk p R ds tx) {t : Nat} {x : Bool} (hr : RdAt w0 w' p (left ds ((t, x) :: tx)) (badT ds ((t, x) :: tx))) (hk : RKeep wk w') : DecR w0 w' p R ds ((t, x) :: tx) :=
  ⟨hr, hk.keep _ _ _ _ h.ret (by decide)⟩
theorem DecR.below {w0 wk w' : World} {p R : Nat} {ds : List FD} {tx : List (Nat × Bool)} (h : DecR w0 wk p R ds tx) (hb : Below wk.heap.size wk w') : DecR w0 w' p R ds tx := ⟨h.rd.below hb, below_blk' hb h.ret⟩
/-- .. and the event's block. -/
structure DecIn (w0 wk : World) (p R E : Nat) (ds : List FD) (tx : List (Nat × Bool)) (cs : Array Value) : Prop where
  r : DecR w0 wk p R ds tx
  ev : wk.heap[E]? = some (.cells cs 25 (0, 0))
  re : R ≠ E
  be : w0.heap.size ≤ E
theorem DecIn.step {w0 wk w' : World} {p R E : Nat} {ds : List FD} {tx : List (Nat × Bool)} {cs : Array Value} (h : DecIn w0 wk p R E ds tx cs) {t : Nat} {x : Bool} (hr : DecR w0 w' p R ds ((t, x) :: tx)) (hk : RKeep wk w') : DecIn w0 w' p R E ds ((t, x) :: tx) cs :=
  ⟨hr, hk.keep _ _ _ _ h.ev (by decide), h.re, h.be⟩
theorem DecIn.set {w0 wk : World} {p R E : Nat} {ds : List FD} {tx : List (Nat × Bool)} {cs : Array Value} (h : DecIn w0 wk p R E ds tx cs) (j : Nat) (v : Value) : DecIn w0 (wk.setCell ⟨E, j, none⟩ v) p R E ds tx (cs.setIfInBounds j v) := by
  obtain ⟨⟨⟨b, n, D, hr⟩, hret⟩, hev, hre, hbe⟩ := h
  exact ⟨⟨⟨b, n, D, hr.grown (grown_set wk E j v) (t := 25) (by decide) (by decide) (fun k e => by cases e; exact ⟨_, _, hev⟩) (fun k e => by cases e; exact hbe)⟩, (Below.heap_setCell wk ⟨E, j, none⟩ v R hre).trans hret⟩, blk_set hev, hre, hbe⟩
/-- A number's taking, a text's. -/
theorem dnumR {w0 wk : World} {p R : Nat} {ds : List FD} {tx : List (Nat × Bool)} (h : DecR w0 wk p R ds tx) (hg : GoodF ds) (t : Int) (tag : Nat) (e : t = (tag : Int)) (ht : tag < 1000) (hn : inT tx tag = false) :
    Calls Tryd.prog 35 #[.pointer (some ⟨p, 0, none⟩), .int .i64 t] wk fun x w' => x = .returned (.int .u64 ((look ds tag false).num : Int)) ∧ DecR w0 w' p R ds ((tag, false) :: tx) ∧ RKeep wk w' := by
  subst e
  have h1 := rdnum_any w0 wk p _ _ h.rd (hg.rise.filter _) tag ht
  rw [take_law hg.rise tx tag false hn] at h1
  exact h1.mono fun x w' hx => by
    obtain ⟨rfl, hr, hk⟩ := hx
    exact ⟨rfl, h.step hr hk, hk⟩
theorem dnum {w0 wk : World} {p R E : Nat} {ds : List FD} {tx : List (Nat × Bool)} {cs : Array Value} (h : DecIn w0 wk p R E ds tx cs) (hg : GoodF ds) (t : Int) (tag : Nat) (e : t = (tag : Int)) (ht : tag < 1000) (hn : inT tx tag = false) :
    Calls Tryd.prog 35 #[.pointer (some ⟨p, 0, none⟩), .int .i64 t] wk fun x w' => x = .returned (.int .u64 ((look ds tag false).num : Int)) ∧ DecIn w0 w' p R E ds ((tag, false) :: tx) cs :=
  (dnumR h.r hg t tag e ht hn).mono fun x w' hx => ⟨hx.1, h.step hx.2.1 hx.2.2⟩
theorem dint {w0 wk : World} {p R E : Nat} {ds : List FD} {tx : List (Nat × Bool)} {cs : Array Value} (h : DecIn w0 wk p R E ds tx cs) (hg : GoodF ds) (t : Int) (tag : Nat) (e : t = (tag : Int)) (ht : tag < 1000) (hn : inT tx tag = false) :
    Calls Tryd.prog 36 #[.pointer (some ⟨p, 0, none⟩), .int .i64 t] wk fun x w' => x = .returned (.int .i64 (zagN ((look ds tag false).num : Int))) ∧ DecIn w0 w' p R E ds ((tag, false) :: tx) cs := by
  subst e
  have h2 := look_num hg tag false
  have h1 := rdint_any w0 wk p _ _ h.r.rd (hg.rise.filter _) tag ht (by rw [take_law hg.rise tx tag false hn]; exact h2.1)
  rw [take_law hg.rise tx tag false hn] at h1
  exact h1.mono fun x w' hx => by
    obtain ⟨rfl, hr, hk⟩ := hx
    exact ⟨rfl, h.step (h.r.step hr hk) hk⟩
theorem dtext {w0 wk : World} {p R E : Nat} {ds : List FD} {tx : List (Nat × Bool)} {cs : Array Value} (h : DecIn w0 wk p R E ds tx cs) (hg : GoodF ds) (t : Int) (tag : Nat) (e : t = (tag : Int)) (ht : tag < 1000) (hn : inT tx tag = false) :
    Calls Tryd.prog 37 #[.pointer (some ⟨p, 0, none⟩), .int .i64 t] wk fun x w' => ∃ a n c, x = .returned (.slice a n c) ∧ RowAt w' a n c 1 ((look ds tag true).bytes.map B) ∧ DecIn w0 w' p R E ds ((tag, true) :: tx) cs := by
  subst e
  have h1 := rdtext_any w0 wk p _ _ h.r.rd (hg.rise.filter _) tag ht
  rw [take_law hg.rise tx tag true hn] at h1
  exact h1.mono fun x w' hx => by
    obtain ⟨f, rfl, hrow, hr, hk⟩ := hx
    exact ⟨_, _, _, rfl, hrow, h.step (h.r.step hr hk) hk⟩
theorem derr {w0 wk : World} {p R E : Nat} {ds : List FD} {tx : List (Nat × Bool)} {cs : Array Value} (h : DecIn w0 wk p R E ds tx cs) :
    Calls Tryd.prog 38 #[.pointer (some ⟨p, 0, none⟩)] wk fun x w' => x = .returned (.int .i64 (errF (left ds tx) (badT ds tx) : Int)) ∧ wk = w' :=
  rderr_any w0 wk p _ _ h.r.rd
theorem errF_perm (ds : List FD) (tx ty : List (Nat × Bool)) (h : tx = ty) : errF (left ds tx) (badT ds tx) = errF (left ds ty) (badT ds ty) := by rw [h]
/-- What Decode gives. -/
def GivesDE (w : World) (y : Ev × Int) (x : Ending) (w' : World) : Prop := x = .returned (.tuple #[y.1.val, .int .i64 y.2]) ∧ Below w.heap.size w w'
theorem RdAt.bel {w0 w : World} {p : Nat} {ds : List FD} {bad : Nat} (h : RdAt w0 w p ds bad) : Below w0.heap.size w0 w := by obtain ⟨b, n, D, h⟩ := h; exact h.bel
end Go.Proofs.YtkdpingniohfhaaDoor
