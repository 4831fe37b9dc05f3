/-
  The walk of the closure that tlv.Decode defers: it takes a panic with an Errno, and lays the results. Condition: the two results' cells.
  The walk of tlv.Decode: the fields of a record, or what is wrong. Condition: the argument reads as bytes.
-/
import Derived.Test.YtkdpingniohfhaaDoorMTcfld
import Derived.Defers
import Derived.Recover
import Derived.Laws.Pointers
import Derived.Test.YtkdpingniohfhaaDoorMRn
namespace Go.Proofs.YtkdpingniohfhaaDoor
open Go.RowKit
set_option linter.unusedVariables false

theorem assert_errno (e : Int) (w : World) : (Instr.typeAssert (.iface 26 (.int .i64 e)) 20 26 true).run Tryd.prog w = .ok (.tuple #[.int .i64 e, .bool true]) w := by kernel_rfl
theorem catch_panic (pf pe : Nat) (v1 v2 : Value) (e : Int) (older : List PanicEntry) (w : World) (c1 : w.cell? ⟨pf, 0, none⟩ = some v1) (c2 : w.cell? ⟨pe, 0, none⟩ = some v2) (f1 : w.frozen? ⟨pf, 0, none⟩ = false) (f2 : w.frozen? ⟨pe, 0, none⟩ = false) (hne : pf ≠ pe) :
    CallsD Tryd.prog 52 #[.pointer (some ⟨pf, 0, none⟩), .pointer (some ⟨pe, 0, none⟩)] (.panicking ({ v := .iface 26 (.int .i64 e), recovered := false } :: older)) w fun x u' w' =>
      x = .returned (.tuple #[]) ∧ u' = .panicking ({ v := .iface 26 (.int .i64 e), recovered := true } :: older) ∧ w' = (w.setCell ⟨pf, 0, none⟩ (.slice none 0 0)).setCell ⟨pe, 0, none⟩ (.int .i64 e) := by
  refine callsD_of_wpS Tryd.func52 rfl fun c₀ cs hu => ?_
  apply wpS_seq
  apply wpS_region
  simp [wpOpsS, go_sem, recoverD, hu, Tryd.ntmps52, Exit.thenS]
  rw [show (#[Value.pointer (some { block := pf, off := 0 }), Value.pointer (some { block := pe, off := 0 })] ++ ((Array.replicate 15 undef).setIfInBounds 3 (Value.iface 26 (Value.int IntKind.i64 e))).setIfInBounds 0 (Value.iface 26 (Value.int IntKind.i64 e))) = #[.pointer (some ⟨pf, 0, none⟩), .pointer (some ⟨pe, 0, none⟩), .iface 26 (.int .i64 e), undef, undef, .iface 26 (.int .i64 e), undef, undef, undef, undef, undef, undef, undef, undef, undef, undef, undef] from rfl]
  apply wpS_seq
  apply wpS_region
  simp [wpOpsS, go_sem, recoverD, Exit.thenS, List.range, List.range.loop]
  refine wpS_cond (t := true) (by simp [Act.eval]) ?_
  simp only [if_true]
  apply wpS_seq
  apply wpS_region
  simp [wpOpsS, go_sem, recoverD, Exit.thenS, List.range, List.range.loop, assert_errno e w]
  apply wpS_seq
  apply wpS_seq
  apply wpS_region
  simp [wpOpsS, go_sem, recoverD, Exit.thenS, List.range, List.range.loop]
  refine wpS_cond (t := false) (by simp [Act.eval]) ?_
  simp only [Bool.false_eq_true, if_false]
  refine wpS_of_wp (wp_skip ?_)
  apply wpS_region
  simp [wpOpsS, go_sem, recoverD, List.range, List.range.loop, c1, c2, f1, f2, bodyPostS, results, Tryd.results52]
theorem catch_idle (pf pe : Nat) (w : World) :
    CallsD Tryd.prog 52 #[.pointer (some ⟨pf, 0, none⟩), .pointer (some ⟨pe, 0, none⟩)] .returning w fun x u' w' => x = .returned (.tuple #[]) ∧ u' = .returning ∧ w' = w := by
  refine callsD_of_wpS Tryd.func52 rfl fun c₀ cs hu => ?_
  apply wpS_seq
  apply wpS_region
  simp [wpOpsS, go_sem, recoverD, hu, Tryd.ntmps52, Exit.thenS]
  apply wpS_seq
  apply wpS_region
  rw [show (#[Value.pointer (some { block := pf, off := 0 }), Value.pointer (some { block := pe, off := 0 })] ++ ((Array.replicate 15 undef).setIfInBounds 3 Value.nilIface).setIfInBounds 0 Value.nilIface) = #[.pointer (some ⟨pf, 0, none⟩), .pointer (some ⟨pe, 0, none⟩), .nilIface, undef, undef, .nilIface, undef, undef, undef, undef, undef, undef, undef, undef, undef, undef, undef] from rfl]
  simp [wpOpsS, go_sem, recoverD, Exit.thenS, List.range, List.range.loop]
  refine wpS_cond (t := false) (by simp [Act.eval]) ?_
  simp only [Bool.false_eq_true, if_false]
  refine wpS_of_wp (wp_skip ?_)
  cases c₀
  simp_all [bodyPostS, results, Tryd.results52]
end Go.Proofs.YtkdpingniohfhaaDoor

namespace Go.Proofs.YtkdpingniohfhaaDoor
open Go.RowKit
set_option linter.unusedVariables false

theorem FsIn.grown {w0 w w' : World} {ds : List FD} {a : Option Addr} {n cap : Nat} {ms : List Fld} {row : Option Nat} (h : FsIn w0 w ds a n cap ms) (hg : w.grownBy w' row) {t : TypeId} (ht : t ≠ 5) (ht2 : t ≠ 81) (hr : ∀ k, row = some k → Tag w k t) (hlo : ∀ k, row = some k → w0.heap.size ≤ k) : FsIn w0 w' ds a n cap ms :=
  ⟨h.own.kept hg (by
      cases hb : (Value.slice a n cap).ownBlock with
      | none => exact .inl rfl
      | some k => exact .inr fun e => (own_tag h.own hb).ne (hr k e.symm) (fun e => ht2 e.symm) rfl), h.flds.grown hg ht hr h.tags, fun f hf => (h.tags f hf).grown hg ht hr, h.bel.grown hg h.bel.size hlo⟩
/-- Where the cursor stands. -/
def curM (w : World) (C : Nat) : Nat := match w.cell? ⟨C, 1, none⟩ with | some v => (intOf v).toNat | none => 0
theorem curM_at {w : World} {p : Nat} {a : Option Addr} {n c at' : Nat} (h : CurAt w p a n c at') : curM w p = at' := by
  unfold curM; rw [cell_blk h rfl]; simp [intOf]
theorem res_dec {tmps : Array Value} {w : World} {F E : Nat} {a : Option Addr} {n c : Nat} {p e : Int} (h2 : tmps[2]?.getD undef = .pointer (some ⟨F, 0, none⟩)) (h3 : tmps[3]?.getD undef = .int .i64 p) (h4 : tmps[4]?.getD undef = .pointer (some ⟨E, 0, none⟩))
    (c2 : w.cell? ⟨F, 0, none⟩ = some (.slice a n c)) (c4 : w.cell? ⟨E, 0, none⟩ = some (.int .i64 e)) :
    (results Tryd.f46 tmps).run Tryd.prog w = .ok (.tuple #[.slice a n c, .int .i64 p, .int .i64 e]) w := by
  simp [results, Tryd.results46, go_sem, h2, h3, h4, c2, c4]

set_option maxHeartbeats 3200000 in
theorem tdec_any (a1 : Option Addr) (n1 c1 : Nat) (l : List UInt8) (w : World) (r1 : RowAt w a1 n1 c1 1 (l.map B)) :
    Calls Tryd.prog 46 #[.slice a1 n1 c1] w (GivesD w (decodeF l)) := by
  have e1 : l.length = n1 := by simpa using r1.len
  have m1 := r1.2.2.1
  have m2 := r1.2.1
  unfold maxLen at m1
  have hmf : ∀ (fn : Fn) (first cap : Array Value) (w : World), (Instr.makeFunc fn first cap).run Tryd.prog w = .ok (.func fn first cap) w := fun _ _ _ _ => rfl
  by_cases hbig : 1024 < n1
  · have HQ : Hid (decodeF l = ([], 0, 24)) := Lib.hid (by unfold decodeF; rw [if_pos (by omega)])
    clear e1
    go_enter_defers Tryd.func46, Tryd.ntmps46
    go_wp2_with fail
    have hbm := below_next (below_made w (.cells #[.slice none 0 0] 76)) (below_made (w.alloc (.cells #[.slice none 0 0] 76)) (.cells #[.int .i64 24] 26))
    refine ⟨_, res_dec (F := w.heap.size) (E := w.heap.size + 1) (a := none) (n := 0) (c := 0) (p := 0) (e := 24) rfl rfl rfl (by simp [go_sem]) (by simp [go_sem]), ?_⟩
    rw [HQ.out]
    exact ⟨none, 0, 0, [], rfl, fsIn_nil hbm⟩
  · have HQ : Hid (decodeF l = readF l (n1 + 1) 0 0 []) := Lib.hid (by unfold decodeF; rw [if_neg (by omega), e1])
    have H1 := Lib.hid e1
    clear e1
    have hb1 := below_made w (.cells #[.slice none 0 0] 76)
    have hb2 := below_made (w.alloc (.cells #[.slice none 0 0] 76)) (.cells #[.int .i64 0] 26)
    have hb3 := below_made ((w.alloc (.cells #[.slice none 0 0] 76)).alloc (.cells #[.int .i64 0] 26)) (.cells #[.slice a1 n1 c1, .int .i64 0] 111)
    have hF := below_blk' hb3 (below_blk' hb2 (heap_alloc_new w (.cells #[.slice none 0 0] 76)))
    have hE := below_blk' hb3 (heap_alloc_new (w.alloc (.cells #[.slice none 0 0] 76)) (.cells #[.int .i64 0] 26))
    have hC := heap_alloc_new ((w.alloc (.cells #[.slice none 0 0] 76)).alloc (.cells #[.int .i64 0] 26)) (.cells #[.slice a1 n1 c1, .int .i64 0] 111)
    have hB := below_next (below_next hb1 hb2) hb3
    have hs1 : (w.alloc (.cells #[.slice none 0 0] 76)).heap.size = w.heap.size + 1 := by simp
    have hs2 : ((w.alloc (.cells #[.slice none 0 0] 76)).alloc (.cells #[.int .i64 0] 26)).heap.size = w.heap.size + 1 + 1 := by simp
    rw [hs1] at hE
    rw [hs2] at hC
    clear hb1 hb2 hb3 hs1 hs2
    have HW := Lib.hid (⟨_, rfl⟩ : ∃ wm, ((w.alloc (.cells #[.slice none 0 0] 76)).alloc (.cells #[.int .i64 0] 26)).alloc (.cells #[.slice a1 n1 c1, .int .i64 0] 111) = wm)
    go_enter_defers Tryd.func46, Tryd.ntmps46
    go_wp2_with fail
    obtain ⟨wm, hwm⟩ := HW.out
    rw [hwm] at hF hE hC hB ⊢
    clear hwm HW
    have hF0 : FsIn w wm [] none 0 0 [] := fsIn_nil hB
    go_loopw [3, 6] (fun av lv wr => ∃ (q : Int) (p last : Nat) (ds : List FD) (a : Option Addr) (n c : Nat) (ms : List Fld), av = .int .i64 q ∧ p ≤ n1 ∧ lv = .int .i64 (last : Int) ∧ last ≤ 31 ∧ ds.length ≤ p ∧
      wr.heap[w.heap.size]? = some (.cells #[.slice a n c] 76 (0, 0)) ∧ wr.heap[w.heap.size + 1]? = some (.cells #[.int .i64 0] 26 (0, 0)) ∧ CurAt wr (w.heap.size + 1 + 1) a1 n1 c1 p ∧ FsIn w wr ds a n c ms ∧
      (∃ k, n1 - p < k ∧ Hid (decodeF l = readF l k p last ds))) (fun _ _ wr => n1 - curM wr (w.heap.size + 1 + 1))
    case atStart => exact ⟨0, 0, 0, [], none, 0, 0, [], rfl, Nat.zero_le _, rfl, by decide, Nat.le_refl _, hF, hE, hC, hF0, n1 + 1, by omega, HQ⟩
    case round =>
      clear hF0 HQ hF hE hC hB
      obtain ⟨q, p, last, ds, a, n, c, ms, rfl, hp, rfl, hl31, hdl, hF, hE, hC, hFs, fu, hfu, HT⟩ := hrel
      have HCM := Lib.hid (curM_at hC)
      have hC' : wr.heap[w.heap.size + 1 + 1]? = _ := hC
      have c0 : wr.cell? ⟨w.heap.size + 1 + 1, 1, none⟩ = some (.int .i64 (p : Int)) := cell_blk hC' rfl
      have cf : wr.cell? ⟨w.heap.size, 0, none⟩ = some (.slice a n c) := cell_blk hF rfl
      have ce : wr.cell? ⟨w.heap.size + 1, 0, none⟩ = some (.int .i64 0) := cell_blk hE rfl
      have ff : wr.frozen? ⟨w.heap.size, 0, none⟩ = false := free_blk hF
      have fe : wr.frozen? ⟨w.heap.size + 1, 0, none⟩ = false := free_blk hE
      clear hC'
      by_cases hlt : p < n1
      · obtain ⟨y, hy⟩ : ∃ y, nextF (l.drop p) last = y := ⟨_, rfl⟩
        obtain ⟨d, m, e⟩ := y
        have hg := nextF_good hy
        have hll : p < l.length := by have := H1.out; omega
        have hap : ∀ b o, a1 = some ⟨b, o, none⟩ → b ≠ w.heap.size + 1 + 1 := fun b o e => by
          obtain ⟨b', o', _, h1, _, h2⟩ := r1.byte p hlt
          rw [e] at h1
          cases h1
          have := World.block_lt_of_cell? _ _ h2
          show b ≠ _
          have h3 : b < w.heap.size := this
          omega
        have hfield := cfield_any (w.heap.size + 1 + 1) a1 n1 c1 p l last wr hC (r1.below hFs.bel) hap hp hl31 (by omega)
        rw [hy] at hfield
        have HF := Lib.hid hfield
        have HY := Lib.hid hy
        clear hy hfield hap
        obtain ⟨j, rfl⟩ : ∃ j, fu = j + 1 := ⟨fu - 1, by omega⟩
        by_cases he : e = 0
        · subst he
          obtain ⟨g1, g2, g3, g4⟩ := hg.2 rfl
          have g2' : p + m ≤ n1 := by rw [List.length_drop] at g2; have := H1.out; omega
          have HS : Hid (decodeF l = readF l j (p + m) d.tag (ds ++ [d])) := Lib.hid (by rw [HT.out]; exact readF_on hll HY.out)
          clear hg g2 hll
          go_wp2_with fail
          (with_reducible refine HF.out.mono ?_)
          rintro x w2 hx
          unfold CurField at hx
          obtain ⟨hg2, hx⟩ := hx
          rw [if_pos rfl] at hx
          obtain ⟨f, rfl, hfl, hbt, hC2⟩ := hx
          have hF2 := (hg2.block w.heap.size (lt_of_block hF) (fun e => by have := Option.some.inj e; omega)).trans hF
          have hE2 := (hg2.block (w.heap.size + 1) (lt_of_block hE) (fun e => by have := Option.some.inj e; omega)).trans hE
          have hFs2 := hFs.grown hg2 (t := 111) (by decide) (by decide) (fun k e => by cases e; exact ⟨_, _, hC⟩) (fun k e => by cases e; omega)
          have HTAG := Lib.hid hfl.tag
          have hX := heap_alloc_new w2 (.cells #[.int .i64 f.tag, .bool f.text, .int .u64 f.num, .slice f.ba f.bn f.bc] 81)
          have hbm := below_made w2 (.cells #[.int .i64 f.tag, .bool f.text, .int .u64 f.num, .slice f.ba f.bn f.bc] 81)
          have hF3 := below_blk' hbm hF2
          have hE3 := below_blk' hbm hE2
          have hC3 : CurAt _ (w.heap.size + 1 + 1) a1 n1 c1 (p + m) := below_blk' hbm hC2
          have hFs3 := hFs2.below hbm
          have ho3 := hFs3.own
          have hfl3 := hfl.below hbm
          have hbt3 := hbt.below hbm
          have hlen := hFs3.len
          have hn : n ≤ 1024 := by omega
          have hs2 := hFs3.bel.size
          have hlt2 := lt_of_block hF2
          have hxn := fun k e => (hFs2.own.lt k e).2
          clear hF hE hC hF2 hE2 hC2 hFs hFs2 hg2 cf ce ff fe c0
          unfold Fld.row
          obtain ⟨wm, hwm⟩ : ∃ wm, w2.alloc (.cells #[.int .i64 f.tag, .bool f.text, .int .u64 f.num, .slice f.ba f.bn f.bc] 81) = wm := ⟨_, rfl⟩
          have HWM := Lib.hid hwm
          rw [hwm] at hX hbm hF3 hE3 hC3 hFs3 ho3 hfl3 hbt3 hs2
          clear hwm
          have c0 : wm.cell? ⟨w2.heap.size, 0, none⟩ = some (.int .i64 f.tag) := cell_blk hX rfl
          have c1' : wm.cell? ⟨w2.heap.size, 1, none⟩ = some (.bool f.text) := cell_blk hX rfl
          have c2 : wm.cell? ⟨w2.heap.size, 2, none⟩ = some (.int .u64 f.num) := cell_blk hX rfl
          have c3 : wm.cell? ⟨w2.heap.size, 3, none⟩ = some (.slice f.ba f.bn f.bc) := cell_blk hX rfl
          have cf : wm.cell? ⟨w.heap.size, 0, none⟩ = some (.slice a n c) := cell_blk hF3 rfl
          go_upto_region 9 with (fail)
          rw [HWM.out]
          go_wp2_with (at_builtin; refine wpList_app1 rfl _ _ 76 rfl slF rfl ho3 rfl rfl (F_one1 f) (by omega) (by omega) fun a3 cap3 w3 ho hg => ?_; have hF4 := (hg.block w.heap.size (lt_of_block hF3) (fun e => (own_tag ho3 e.symm).ne ⟨_, _, hF3⟩ (by decide) rfl)).trans hF3; have c5 : w3.cell? ⟨w.heap.size, 0, none⟩ = some (.slice a n c) := cell_blk hF4 rfl; have f5 : w3.frozen? ⟨w.heap.size, 0, none⟩ = false := free_blk hF4)
          go_roundw
          case rel =>
            obtain ⟨hA, hK⟩ := hFs3.app hfl3 hbt3 ho hg
            have hE4 := hK.keep _ _ _ _ hE3 (by decide)
            have hC4 := hK.keep _ _ _ _ hC3 (by decide)
            exact ⟨p, p + m, d.tag, ds ++ [d], a3, n + 1, cap3, _, rfl, g2', by rw [HTAG.out], g4, by rw [List.length_append]; simp; omega, blk_set hF4, (Below.heap_setCell w3 ⟨w.heap.size, 0, none⟩ _ (w.heap.size + 1) (by show w.heap.size + 1 ≠ w.heap.size; omega)).trans hE4,
              (Below.heap_setCell w3 ⟨w.heap.size, 0, none⟩ _ (w.heap.size + 1 + 1) (by show w.heap.size + 1 + 1 ≠ w.heap.size; omega)).trans hC4, hA.grown (grown_set _ _ 0 _) (t := 76) (by decide) (by decide) (fun k e => by cases e; exact ⟨_, _, hF4⟩) (fun k e => by cases e; exact Nat.le_refl _), j, by omega, HS⟩
          case measure =>
            obtain ⟨hA, hK⟩ := hFs3.app hfl3 hbt3 ho hg
            have hC4 : CurAt _ (w.heap.size + 1 + 1) a1 n1 c1 (p + m) := (Below.heap_setCell w3 ⟨w.heap.size, 0, none⟩ (.slice a3 (n + 1) cap3) (w.heap.size + 1 + 1) (by show w.heap.size + 1 + 1 ≠ w.heap.size; omega)).trans (hK.keep _ _ _ _ hC3 (by decide))
            rw [curM_at hC4, HCM.out]
            omega
        · have HE : Hid (decodeF l = ([], p, e)) := Lib.hid (by rw [HT.out]; exact readF_bad hll HY.out he)
          go_wp2_with fail
          (with_reducible refine HF.out.mono ?_)
          rintro x w2 hx
          unfold CurField at hx
          obtain ⟨hg2, hx⟩ := hx
          rw [if_neg he] at hx
          subst hx
          have hF2 := (hg2.block w.heap.size (lt_of_block hF) (fun e => by have := Option.some.inj e; omega)).trans hF
          have hE2 := (hg2.block (w.heap.size + 1) (lt_of_block hE) (fun e => by have := Option.some.inj e; omega)).trans hE
          go_wp2_with fail
          have hB2 := hFs.bel.grown hg2 hFs.bel.size (fun k e => by cases e; omega)
          refine leaves_cons (f := 52) (args := #[.pointer (some ⟨w.heap.size, 0, none⟩), .pointer (some ⟨w.heap.size + 1, 0, none⟩)]) (by simp) (by simp [go_sem]) ?_
          refine (catch_panic w.heap.size (w.heap.size + 1) _ _ (e : Int) [] w2 (cell_blk hF2 rfl) (cell_blk hE2 rfl) (free_blk hF2) (free_blk hE2) (by omega)).mono ?_
          rintro x u' w'' ⟨rfl, rfl, rfl⟩
          refine ⟨_, res_dec (F := w.heap.size) (E := w.heap.size + 1) (a := none) (n := 0) (c := 0) (p := (p : Int)) (e := (e : Int)) rfl rfl rfl (cell_blk ((Below.heap_setCell _ ⟨w.heap.size + 1, 0, none⟩ _ w.heap.size (by show w.heap.size ≠ w.heap.size + 1; omega)).trans (blk_set hF2)) rfl) (cell_blk (blk_set ((Below.heap_setCell w2 ⟨w.heap.size, 0, none⟩ _ (w.heap.size + 1) (by show w.heap.size + 1 ≠ w.heap.size; omega)).trans hE2)) rfl), ?_⟩
          rw [HE.out]
          exact ⟨none, 0, 0, [], rfl, fsIn_nil ((hB2.setCell (p := ⟨w.heap.size, 0, none⟩) (Nat.le_refl _) _).setCell (p := ⟨w.heap.size + 1, 0, none⟩) (Nat.le_succ _) _)⟩
      · have HE : Hid (decodeF l = (ds, 0, 0)) := Lib.hid (by rw [HT.out]; exact readF_end (by have := H1.out; omega))
        clear HT
        go_wp2_with fail
        have hF5 := (Below.heap_setCell (wr.setCell ⟨w.heap.size, 0, none⟩ (.slice a n c)) ⟨w.heap.size + 1, 0, none⟩ (.int .i64 0) w.heap.size (by show w.heap.size ≠ w.heap.size + 1; omega)).trans (blk_set (u := .slice a n c) (j := 0) hF)
        have hE5 := blk_set (u := .int .i64 0) (j := 0) ((Below.heap_setCell wr ⟨w.heap.size, 0, none⟩ (.slice a n c) (w.heap.size + 1) (by show w.heap.size + 1 ≠ w.heap.size; omega)).trans hE)
        have hFs5 := hFs.grown (grown_set _ _ 0 (.slice a n c)) (t := 76) (by decide) (by decide) (fun k e => by cases e; exact ⟨_, _, hF⟩) (fun k e => by cases e; exact Nat.le_refl _)
        have hFs6 := hFs5.grown (grown_set _ (w.heap.size + 1) 0 (.int .i64 0)) (t := 26) (by decide) (by decide) (fun k e => by cases e; exact ⟨_, _, (Below.heap_setCell wr ⟨w.heap.size, 0, none⟩ (.slice a n c) (w.heap.size + 1) (by show w.heap.size + 1 ≠ w.heap.size; omega)).trans hE⟩) (fun k e => by cases e; exact Nat.le_succ _)
        refine leaves_cons (f := 52) (args := #[.pointer (some ⟨w.heap.size, 0, none⟩), .pointer (some ⟨w.heap.size + 1, 0, none⟩)]) (by simp) (by simp [go_sem]) ?_
        refine (catch_idle w.heap.size (w.heap.size + 1) _).mono ?_
        rintro x u' w'' ⟨rfl, rfl, rfl⟩
        refine ⟨_, res_dec (F := w.heap.size) (E := w.heap.size + 1) (a := a) (n := n) (c := c) (p := 0) (e := 0) rfl rfl rfl (cell_blk hF5 rfl) (cell_blk hE5 rfl), ?_⟩
        rw [HE.out]
        exact ⟨a, n, c, ms, rfl, hFs6⟩
end Go.Proofs.YtkdpingniohfhaaDoor
