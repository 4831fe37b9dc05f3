/-
  The walks of both Encode of an index. Condition: the slice reads as a list of marks.
-/
import Derived.Test.YtffhejaeliphcaaDoorMIk
import Derived.Test.YtffhejaeliphcaaDoorMVlists
import Derived.Test.YtffhejaeliphcaaDoorMGvE
namespace Go.Proofs.YtffhejaeliphcaaDoor
open Go.RowKit
set_option linter.unusedVariables false

/-- Each mark by what it is above the one ahead. -/
def diffs : Mk → List Mk → List UInt64
  | _, [] => []
  | p, m :: r => UInt64.ofNat (m.s - p.s).toNat :: UInt64.ofNat (m.a - p.a).toNat :: diffs m r

theorem diffs_len : ∀ (l : List Mk) (p : Mk), (diffs p l).length = 2 * l.length
  | [], _ => rfl
  | m :: r, p => by simp only [diffs, List.length_cons, diffs_len r m]; omega

/-- What is written for marks, and the error. -/
def encIx (ms : List Mk) : List UInt8 × Nat := if okN ms then (encAll (diffs ⟨0, 0⟩ ms), 0) else ([], 70)

/-- Marks that may stand behind a last one. -/
def Gd (p : Mk) (l : List Mk) : Prop := 0 ≤ p.s ∧ 0 ≤ p.a ∧ (∀ x ∈ l, p.s ≤ x.s ∧ p.a ≤ x.a ∧ x.s ≤ 1099511627776 ∧ x.a ≤ 1099511627776) ∧ l.Pairwise (fun x y => x.s < y.s ∧ x.a < y.a)

theorem Gd.start {ms : List Mk} (h : okN ms = true) : Gd ⟨0, 0⟩ ms := by
  obtain ⟨_, h2, h3⟩ := (okN_iff ms).1 h
  refine ⟨Int.le_refl _, Int.le_refl _, fun x hx => ?_, h3⟩
  have := h2 x hx
  show (0 : Int) ≤ x.s ∧ (0 : Int) ≤ x.a ∧ _ ∧ _
  omega

theorem Gd.head {p m : Mk} {r : List Mk} (h : Gd p (m :: r)) : p.s ≤ m.s ∧ p.a ≤ m.a ∧ m.s ≤ 1099511627776 ∧ m.a ≤ 1099511627776 := h.2.2.1 m List.mem_cons_self
theorem Gd.tail {p m : Mk} {r : List Mk} (h : Gd p (m :: r)) : Gd m r := by
  have hh := h.head
  obtain ⟨h1, h2, h3, h4⟩ := h
  rw [List.pairwise_cons] at h4
  exact ⟨by omega, by omega, fun x hx => by have := h3 x (List.mem_cons_of_mem _ hx); have := h4.1 x hx; omega, h4.2⟩

theorem mdrop {ms : List Mk} {k : Nat} {m : Mk} (h : ms[k]? = some m) : ms.drop k = m :: ms.drop (k + 1) := by
  obtain ⟨hk, hm⟩ := List.getElem?_eq_some_iff.1 h
  rw [List.drop_eq_getElem_cons hk, hm]

theorem U_of {x : Int} (h0 : 0 ≤ x) (h1 : x ≤ 1099511627776) : U (UInt64.ofNat x.toNat) = .int .u64 x := by
  simp only [U, UInt64.toNat_ofNat']
  exact vint (by omega)


theorem two1 (k : IntKind) (x y : Int) : ∀ u ∈ [Value.int k x, .int k y], u.oneCell' = true := by intro u hu; simp at hu; rcases hu with rfl | rfl <;> rfl

/-- append of a literal of m elements that was just laid. -/
theorem wpList_appL {P : Program} {w : World} {ops : Array Oper} {rest : List Oper} {o : Oper} {act : Act} {Q : Exit → Act → World → Prop} (m : Nat) (hgd : o.guard = none) (s x : Operand) (t : TypeId)
    (ho : o.op = .call { callee := .builtin .append, args := #[s, x], argTypes := #[t, t] }) {e : TypeId} {size bytes : Nat} {z : Value} (hT : SlTy P t e size bytes z)
    {base : Nat} {a : Option Addr} {n cap : Nat} {xs : List Value} (hs : act.eval s = .slice a n cap) (hown : w.ownsRow base e size (.slice a n cap) n xs)
    {vs : List Value} {b : Nat} (hx : act.eval x = .slice (some ⟨b, 0, none⟩) m m) (hbs : b = w.heap.size) (hvs : vs.length = m * size) (hm : m ≤ maxLen) (h1 : ∀ u ∈ vs, u.oneCell' = true)
    (hbytes : (n + m) * bytes ≤ 140737488355328) (hbase : base ≤ w.heap.size)
    (h : ∀ a' cap' w', w'.ownsRow base e size (.slice a' (n + m) cap') (n + m) (xs ++ vs) → w.grownBy w' (Value.slice a n cap).ownBlock →
      wpList P ops Q rest (act.put o.dst (.slice a' (n + m) cap')) w') : wpList P ops Q (o :: rest) act (w.alloc (.cells vs.toArray e)) := by
  subst hbs
  refine wpList_app hgd s x t ho hT hs (hown.alloc _) hx (rowAt_lit w vs m size e hvs hm) h1 hbytes (by simp; omega) fun a' cap' w' h2 h3 => h a' cap' w' h2 ?_
  exact ⟨h3.os, h3.tape, h3.output, by have := h3.size; simp at this; omega, fun k hk hne => by rw [h3.block k (by simp; omega) hne]; exact Below.heap_alloc w _ k hk⟩

theorem diffs_step {p m : Mk} {ms : List Mk} {k : Nat} {us : List UInt64} {D : List UInt64} (hm : ms[k]? = some m) (h : us ++ diffs p (ms.drop k) = D) :
    (us ++ [UInt64.ofNat (m.s - p.s).toNat, UInt64.ofNat (m.a - p.a).toNat]) ++ diffs m (ms.drop (k + 1)) = D := by
  rw [mdrop hm] at h
  rw [← h]; simp [diffs]

set_option maxHeartbeats 800000 in
theorem ienc_any (a : Option Addr) (n c : Nat) (ms : List Mk) (w : World) (r : RowAt w a n c 2 (ms.flatMap Mk.cells)) :
    Calls Tryd.prog 69 #[.slice a n c] w (GivesE 5 w (encIx ms)) := by
  have hml : ms.length = n := by have := r.1; rw [M_len] at this; omega
  by_cases hok : okN ms = true
  · have hall := Gd.start hok
    have HR : Hid (encIx ms = (encAll (diffs ⟨0, 0⟩ ms), 0)) := Lib.hid (by unfold encIx; rw [if_pos hok])
    have hn : n ≤ 512 := by rw [← hml]; exact ((okN_iff ms).1 hok).1
    have HG := Lib.hid hall
    have HD := Lib.hid (diffs_len ms ⟨0, 0⟩)
    have H1 := Lib.hid hml
    have HO := Lib.hid hok
    clear hall hml hok
    go_enter Tryd.func69, Tryd.ntmps69
    go_wp2_with fail
    (with_reducible refine (valid_any _ _ _ ms _ r).mono ?_)
    rintro e w1 ⟨rfl, hb1⟩
    rw [HO.out]
    have h0 := heap_alloc_new w1 (.cells #[.int .i64 0, .int .i64 0] 67)
    have hb2 := below_next hb1 (below_made w1 (.cells #[.int .i64 0, .int .i64 0] 67))
    have hs1 := hb1.size
    have ho0 : (w1.alloc (.cells #[.int .i64 0, .int .i64 0] 67)).ownsRow (w1.heap.size + 1) 99 1 (.slice none 0 0) 0 [] := World.ownsRow_nil _ _ _ _
    go_wp2_with fail
    go_loopw [4, 13] (fun uv iv wr => ∃ (k : Nat) (p : Mk) (us : List UInt64) (a : Option Addr) (cap : Nat), uv = .slice a (2 * k) cap ∧ iv = .int .i64 (k : Int) ∧ k ≤ n ∧ wr.heap[w1.heap.size]? = some (.cells #[.int .i64 p.s, .int .i64 p.a] 67) ∧
      wr.ownsRow (w1.heap.size + 1) 99 1 (.slice a (2 * k) cap) (2 * k) (us.map U) ∧ Hid (us ++ diffs p (ms.drop k) = diffs ⟨0, 0⟩ ms) ∧ Hid (Gd p (ms.drop k)) ∧ w1.heap.size < wr.heap.size ∧ Below w.heap.size w wr) (fun _ iv _ => n - (intOf iv).toNat)
    case atStart => exact ⟨0, ⟨0, 0⟩, [], none, 0, rfl, rfl, Nat.zero_le _, h0, ho0, Lib.hid rfl, HG, by simp, hb2⟩
    case round =>
      clear h0 ho0 hb2
      obtain ⟨k, p, us, a2, cap, rfl, rfl, hk, h0, ho, HS, HP, hws, hb⟩ := hrel
      by_cases hlt : k < n
      · obtain ⟨b, off, m, rfl, hm, x0, x1⟩ := mk_at (r.below hb) k hlt
        have hg := HP.out
        rw [mdrop hm] at hg
        obtain ⟨q1, q2, q3, q4⟩ := hg.head
        have q5 := hg.1
        have q6 := hg.2.1
        have HT := Lib.hid hg.tail
        have HS2 := Lib.hid (diffs_step hm HS.out)
        have d1 : 0 ≤ m.s - p.s := by omega
        have d2 : 0 ≤ m.a - p.a := by omega
        clear hm hg
        have hga : (wr.alloc (.cells #[.int .i64 m.s, .int .i64 m.a] 67)).heap[w1.heap.size]? = some (.cells #[.int .i64 p.s, .int .i64 p.a] 67) := by
          rw [Below.heap_alloc _ _ _ hws]; exact h0
        have g0 := cell_two0 hga
        have g1 := cell_two1 hga
        have hoa := ho.alloc (.cells #[.int .i64 m.s, .int .i64 m.a] 67)
        have hbn := below_next hb (below_made wr (.cells #[.int .i64 m.s, .int .i64 m.a] 67))
        have hsz := hbn.size
        have hsa : w1.heap.size + 1 ≤ (wr.alloc (.cells #[.int .i64 m.s, .int .i64 m.a] 67)).heap.size := by simp; omega
        go_wp2_with (at_builtin; refine wpList_appL 2 rfl _ _ 98 rfl slU rfl hoa rfl (by simp) rfl (by decide) (two1 _ _ _) (by omega) hsa fun a3 cap3 w3 hown3 hg3 => ?_; have hm4 := (hg3.block wr.heap.size (by simp) (fun e => by have := (ho.lt _ e.symm).2; omega)).trans (heap_alloc_new wr _); have hl3 := (hg3.block w1.heap.size (by simp; omega) (fun e => by have := (ho.lt _ e.symm).1; omega)).trans hga; have y0 := cell_two0 hm4; have y1 := cell_two1 hm4; have z0 := cell_two0 hl3; have z1 := cell_two1 hl3; have f0 := free_two0 hl3; have hs0 := two_set0 (u := .int .i64 m.s) hl3; have f1 := free_two1 hs0; have hs5 := two_set1 (u := .int .i64 m.a) hs0; clear hs0 hm4 hl3)
        have ho3 : w3.ownsRow (w1.heap.size + 1) 99 1 (.slice a3 (2 * (k + 1)) cap3) (2 * (k + 1)) ((us ++ [UInt64.ofNat (m.s - p.s).toNat, UInt64.ofNat (m.a - p.a).toNat]).map U) := by
          rw [List.map_append, List.map_cons, List.map_cons, List.map_nil, U_of d1 (by omega), U_of d2 (by omega)]
          exact hown3
        have hbs := ((hbn.grown hg3 hsz (fun k hk => by have := own_block ho k hk; omega)).setCell (p := ⟨w1.heap.size, 0, none⟩) hs1 (.int .i64 m.s)).setCell (p := ⟨w1.heap.size, 1, none⟩) hs1 (.int .i64 m.a)
        have ho4 := (ho3.kept (grown_set w3 w1.heap.size 0 (.int .i64 m.s)) (.inr fun e => by have := (ho3.lt _ e).1; omega)).kept (grown_set _ w1.heap.size 1 (.int .i64 m.a)) (.inr fun e => by have := (ho3.lt _ e).1; omega)
        go_roundw
        case rel => exact ⟨k + 1, m, _, a3, cap3, rfl, by go_num, by omega, hs5, ho4, HS2, HT, by have := hg3.size; simp at this ⊢; omega, hbs⟩
        case measure => simp [intOf]; omega
      · obtain rfl : k = n := by omega
        have hlk : ¬ (k : Int) < (k : Int) := by omega
        have hus : us = diffs ⟨0, 0⟩ ms := by
          have := HS.out
          rw [List.drop_eq_nil_of_le (by have := H1.out; omega)] at this
          simpa [diffs] using this
        have hdl := HD.out
        have hlen := encAll_len (diffs ⟨0, 0⟩ ms) (by rw [hdl]; have := H1.out; omega)
        rw [hdl, H1.out] at hlen
        rw [hus] at ho
        have hsz := hb.size
        clear hus hdl HS HP h0
        go_wp2_with fail
        (with_reducible refine (encAll_any _ _ _ (diffs ⟨0, 0⟩ ms) _ (by omega) (own_rowAt ho)).mono ?_)
        rintro e w4 ⟨a4, c4, rfl, ho4, hb4⟩
        go_wp2_with fail
        go_ret2
        rw [HR.out]
        exact ⟨a4, c4, rfl, own_mono ho4 hsz, below_next hb hb4⟩
  · have HR : Hid (encIx ms = ([], 70)) := Lib.hid (by unfold encIx; rw [if_neg hok])
    have hno : okN ms = false := by simpa using hok
    have HO := Lib.hid hno
    clear hno hok hml
    go_enter Tryd.func69, Tryd.ntmps69
    go_wp2_with fail
    (with_reducible refine (valid_any _ _ _ ms _ r).mono ?_)
    rintro e w1 ⟨rfl, hb1⟩
    rw [HO.out]
    go_wp2_with fail
    go_ret2
    rw [HR.out]
    exact ⟨none, 0, rfl, World.ownsRow_nil _ _ _ _, hb1⟩
end Go.Proofs.YtffhejaeliphcaaDoor
