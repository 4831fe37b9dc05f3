/-
  The walks of V1's head and of the five write, printed by genwrite.py. Condition: the numbers are not below 0; the writer is empty.
-/
import Derived.Test.YtkdpingniohfhaaDoorMTnum
import Derived.Test.YtkdpingniohfhaaDoorMTs
import Derived.Deep.RegionHeld3
import Derived.Deep.RegionWith
import Derived.Laws.Rows
namespace Go.Proofs.YtkdpingniohfhaaDoor
open Go.RowKit
set_option linter.unusedVariables false

def hdF (k o i : Int) : List FD := (numF 1 k.toNat ++ numF 2 o.toNat) ++ numF 3 i.toNat
def f1F (k o i q pr : Int) : List FD := (hdF k o i ++ numF 4 (zigN q).toNat) ++ numF 5 pr.toNat
def f2F (k o i q pr c : Int) : List FD := f1F k o i q pr ++ numF 6 c.toNat
def f3F (k o i q pr c t : Int) : List FD := (((hdF k o i ++ numF 4 q.toNat) ++ numF 5 pr.toNat) ++ numF 6 c.toNat) ++ numF 7 t.toNat
def f4F (k o i q pr c t : Int) (u : ByteArray) : List FD := f3F k o i q pr c t ++ txtF 8 u.data.toList
def f5F (k o i q pr c t : Int) (u : ByteArray) (s : Int) (n : ByteArray) : List FD := (f4F k o i q pr c t u ++ numF 9 s.toNat) ++ txtF 10 n.data.toList

theorem WKeep.blk {p b : Nat} {w w' : World} {cs : Array Value} {t : TypeId} {fr : Nat × Nat} (h : WKeep p w w') (hb : w.heap[b]? = some (.cells cs t fr)) (ht : t ≠ 81) (hp : b ≠ p) : w'.heap[b]? = some (.cells cs t fr) := h.keep b cs t fr hb ht hp
theorem gw {w0 w w' : World} {p : Nat} {ds : List FD} {t : Nat} {x : Ending} (h : GivesW w0 w p ds t x w') : x = .returned (.pointer (some ⟨p, 0, none⟩)) ∧ WrOk w0 w' p ds t ∧ WKeep p w w' := h
theorem num_i (T : Int) (w0 w : World) (p : Nat) (ds : List FD) (s : Nat) (t : Nat) (v : Int) (h : WrOk w0 w p ds s) (hst : s < t) (ht : t ≤ 31) (v0 : 0 ≤ v) (v1 : v < 18446744073709551616) (hT : T = (t : Int)) :
    Calls Tryd.prog 79 #[.pointer (some ⟨p, 0, none⟩), .int .i64 T, .int .u64 v] w (GivesW w0 w p (ds ++ numF t v.toNat) t) := by subst hT; exact num_any w0 w p ds s t v h hst ht v0 v1
theorem int_i (T : Int) (w0 w : World) (p : Nat) (ds : List FD) (s : Nat) (t : Nat) (v : Int) (h : WrOk w0 w p ds s) (hst : s < t) (ht : t ≤ 31) (v0 : -9223372036854775808 ≤ v) (v1 : v ≤ 9223372036854775807) (hT : T = (t : Int)) :
    Calls Tryd.prog 71 #[.pointer (some ⟨p, 0, none⟩), .int .i64 T, .int .i64 v] w (GivesW w0 w p (ds ++ numF t (zigN v).toNat) t) := by subst hT; exact int_any w0 w p ds s t v h hst ht v0 v1
theorem text_i (T : Int) (w0 w : World) (p : Nat) (ds : List FD) (s : Nat) (t : Nat) (a : Option Addr) (n c : Nat) (l : List UInt8) (h : WrOk w0 w p ds s) (hst : s < t) (ht : t ≤ 31) (hr : RowAt w a n c 1 (l.map B)) (hn : n ≤ 200) (h0 : a = none → n = 0) (hT : T = (t : Int)) :
    Calls Tryd.prog 95 #[.pointer (some ⟨p, 0, none⟩), .int .i64 T, .slice a n c] w (GivesW w0 w p (ds ++ txtF t l) t) := by subst hT; exact text_any w0 w p ds s t a n c l h hst ht hr hn h0
theorem rowAt_keep {p b n c : Nat} {w w' : World} {l : List UInt8} (h : RowAt w (some ⟨b, 0, none⟩) n c 1 (l.map B)) (ht : ∃ cs fr, w.heap[b]? = some (.cells cs 5 fr)) (hk : WKeep p w w') (hp : b ≠ p) : RowAt w' (some ⟨b, 0, none⟩) n c 1 (l.map B) := by
  obtain ⟨cs, fr, hx⟩ := ht
  exact h.same fun b' o e _ => by cases e; rw [hk.keep b cs _ fr hx (by decide) hp, hx]
/-- What a write gives. -/
def GivesV (w0 w : World) (p : Nat) (ds : List FD) (t : Nat) (x : Ending) (w' : World) : Prop := (∃ v, x = .returned v) ∧ WrOk w0 w' p ds t ∧ WKeep p w w'

set_option maxHeartbeats 3200000 in
theorem head_any (k o i q pr : Int) (w0 w : World) (p : Nat) (h : WrOk w0 w p [] 0) (k0 : 0 ≤ k) (k1 : k < 9223372036854775808) (o0 : 0 ≤ o) (o1 : o < 9223372036854775808) (i0 : 0 ≤ i) (i1 : i < 9223372036854775808) :
    Calls Tryd.prog 78 #[.agg #[.int .i64 k, .int .i64 o, .int .i64 i, .int .i64 q, .int .i64 pr], .pointer (some ⟨p, 0, none⟩)] w (GivesV w0 w p (hdF k o i) 3) := by
  unfold GivesV
  have hbm := below_made w (.cells #[.int .i64 k, .int .i64 o, .int .i64 i, .int .i64 q, .int .i64 pr] 88)
  have hE := heap_alloc_new w (.cells #[.int .i64 k, .int .i64 o, .int .i64 i, .int .i64 q, .int .i64 pr] 88)
  have hok := h.below hbm
  have hk : WKeep p w (w.alloc (.cells #[.int .i64 k, .int .i64 o, .int .i64 i, .int .i64 q, .int .i64 pr] 88)) := WKeep.below hbm
  have hp : w.heap.size ≠ p := fun e => by obtain ⟨_, _, _, _, hx⟩ := h.at'; have := lt_of_block hx.blk; omega
  clear h hbm
  have w_k : IntKind.u64.wrap k = k := by rw [wrap_u64]; omega
  have w_o : IntKind.u64.wrap o = o := by rw [wrap_u64]; omega
  have w_i : IntKind.u64.wrap i = i := by rw [wrap_u64]; omega
  go_enter Tryd.func78, Tryd.ntmps78
  go_wp2_with fail
  obtain ⟨wa, hwa⟩ : ∃ wa, w.alloc (.cells #[.int .i64 k, .int .i64 o, .int .i64 i, .int .i64 q, .int .i64 pr] 88) = wa := ⟨_, rfl⟩
  rw [hwa] at hE hok hk ⊢
  clear hwa
  have g0 : wa.cell? ⟨w.heap.size, 0, none⟩ = some (.int .i64 k) := cell_blk hE rfl
  have g1 : wa.cell? ⟨w.heap.size, 1, none⟩ = some (.int .i64 o) := cell_blk hE rfl
  have g2 : wa.cell? ⟨w.heap.size, 2, none⟩ = some (.int .i64 i) := cell_blk hE rfl
  have g3 : wa.cell? ⟨w.heap.size, 3, none⟩ = some (.int .i64 q) := cell_blk hE rfl
  have g4 : wa.cell? ⟨w.heap.size, 4, none⟩ = some (.int .i64 pr) := cell_blk hE rfl
  have hok : WrOk w0 wa.drew p [] 0 := hok.below ((Still.one wa 1).below _)
  have hk : WKeep p w wa.drew := hk.trans (WKeep.below ((Still.one wa 1).below _))
  have hE : wa.drew.heap[w.heap.size]? = some (.cells #[.int .i64 k, .int .i64 o, .int .i64 i, .int .i64 q, .int .i64 pr] 88) := hE
  go_region_held3 (fun w' => w'.cell? ⟨w.heap.size, 0, none⟩ = some (.int .i64 k) ∧ w'.cell? ⟨w.heap.size, 1, none⟩ = some (.int .i64 o) ∧ w'.cell? ⟨w.heap.size, 2, none⟩ = some (.int .i64 i) ∧ w'.cell? ⟨w.heap.size, 3, none⟩ = some (.int .i64 q) ∧ w'.cell? ⟨w.heap.size, 4, none⟩ = some (.int .i64 pr))
    (first
      | go_keep
      | (go_split_ands
         exact ⟨cell_blk hE rfl, cell_blk hE rfl, cell_blk hE rfl, cell_blk hE rfl, cell_blk hE rfl⟩))
    (first
      | (go_at_call 79; with_reducible refine (num_i 1 w0 _ p _ 0 1 k hok (by decide) (by decide) (by omega) (by omega) rfl).mono ?_; rintro x wc hgw; obtain ⟨rfl, hok', hk'⟩ := gw hgw; have hE := hk'.blk hE (by decide) hp; have hk := hk.trans hk'; have hok := hok')
      | (go_at_call 79; with_reducible refine (num_i 2 w0 _ p _ 1 2 o hok (by decide) (by decide) (by omega) (by omega) rfl).mono ?_; rintro x wc hgw; obtain ⟨rfl, hok', hk'⟩ := gw hgw; have hE := hk'.blk hE (by decide) hp; have hk := hk.trans hk'; have hok := hok')
      | (go_at_call 79; with_reducible refine (num_i 3 w0 _ p _ 2 3 i hok (by decide) (by decide) (by omega) (by omega) rfl).mono ?_; rintro x wc hgw; obtain ⟨rfl, hok', hk'⟩ := gw hgw; have hE := hk'.blk hE (by decide) hp; have hk := hk.trans hk'; have hok := hok'))
  go_wp2_with fail
  first
    | refine bodyPost_end (results_none rfl _ _ _) rfl ?_
    | refine bodyPost_ret (results_none rfl _ _ _) rfl ?_
  exact ⟨⟨_, rfl⟩, hok, hk⟩

theorem gv {w0 w w' : World} {p : Nat} {ds : List FD} {t : Nat} {x : Ending} (h : GivesV w0 w p ds t x w') : (∃ v, x = .returned v) ∧ WrOk w0 w' p ds t ∧ WKeep p w w' := h

set_option maxRecDepth 20000 in
set_option maxHeartbeats 3200000 in
theorem write1 (k o i q pr : Int) (w0 w : World) (p : Nat) (h : WrOk w0 w p [] 0) (k0 : 0 ≤ k) (k1 : k < 9223372036854775808) (o0 : 0 ≤ o) (o1 : o < 9223372036854775808) (i0 : 0 ≤ i) (i1 : i < 9223372036854775808) (q0 : -9223372036854775808 ≤ q) (q1 : q ≤ 9223372036854775807) (p0 : 0 ≤ pr) (p1 : pr < 9223372036854775808) :
    Calls Tryd.prog 76 #[.agg #[.int .i64 k, .int .i64 o, .int .i64 i, .int .i64 q, .int .i64 pr], .pointer (some ⟨p, 0, none⟩)] w (GivesV w0 w p (f1F k o i q pr) 5) := by
  unfold GivesV
  have hbm := below_made w (.cells #[.int .i64 k, .int .i64 o, .int .i64 i, .int .i64 q, .int .i64 pr] 88)
  have hE := heap_alloc_new w (.cells #[.int .i64 k, .int .i64 o, .int .i64 i, .int .i64 q, .int .i64 pr] 88)
  have hok := h.below hbm
  have hk : WKeep p w (w.alloc (.cells #[.int .i64 k, .int .i64 o, .int .i64 i, .int .i64 q, .int .i64 pr] 88)) := WKeep.below hbm
  have hp : w.heap.size ≠ p := fun e => by obtain ⟨_, _, _, _, hx⟩ := h.at'; have := lt_of_block hx.blk; omega
  clear h hbm
  have w_p : IntKind.u64.wrap pr = pr := by rw [wrap_u64]; omega
  go_enter Tryd.func76, Tryd.ntmps76
  go_wp2_with fail
  obtain ⟨wa, hwa⟩ : ∃ wa, w.alloc (.cells #[.int .i64 k, .int .i64 o, .int .i64 i, .int .i64 q, .int .i64 pr] 88) = wa := ⟨_, rfl⟩
  rw [hwa] at hE hok hk ⊢
  clear hwa
  (with_reducible refine (head_any k o i q pr w0 _ p hok k0 k1 o0 o1 i0 i1).mono ?_)
  rintro x w1 hgv
  obtain ⟨⟨vv, rfl⟩, hok1, hk1⟩ := gv hgv
  have hE := hk1.blk hE (by decide) hp
  have hk := hk.trans hk1
  clear hok hgv
  go_wp2_with fail
  have g0 : w1.cell? ⟨w.heap.size, 0, none⟩ = some (.int .i64 k) := cell_blk hE rfl
  have g1 : w1.cell? ⟨w.heap.size, 1, none⟩ = some (.int .i64 o) := cell_blk hE rfl
  have g2 : w1.cell? ⟨w.heap.size, 2, none⟩ = some (.int .i64 i) := cell_blk hE rfl
  have g3 : w1.cell? ⟨w.heap.size, 3, none⟩ = some (.int .i64 q) := cell_blk hE rfl
  have g4 : w1.cell? ⟨w.heap.size, 4, none⟩ = some (.int .i64 pr) := cell_blk hE rfl
  have hok : WrOk w0 w1.drew p _ _ := hok1.below ((Still.one w1 1).below _)
  have hk : WKeep p w w1.drew := hk.trans (WKeep.below ((Still.one w1 1).below _))
  have hE : w1.drew.heap[w.heap.size]? = some (.cells #[.int .i64 k, .int .i64 o, .int .i64 i, .int .i64 q, .int .i64 pr] 88) := hE
  go_region_held3 (fun w' => w'.cell? ⟨w.heap.size, 0, none⟩ = some (.int .i64 k) ∧ w'.cell? ⟨w.heap.size, 1, none⟩ = some (.int .i64 o) ∧ w'.cell? ⟨w.heap.size, 2, none⟩ = some (.int .i64 i) ∧ w'.cell? ⟨w.heap.size, 3, none⟩ = some (.int .i64 q) ∧ w'.cell? ⟨w.heap.size, 4, none⟩ = some (.int .i64 pr))
    (first
      | go_keep
      | (go_split_ands
         exact ⟨cell_blk hE rfl, cell_blk hE rfl, cell_blk hE rfl, cell_blk hE rfl, cell_blk hE rfl⟩))
    (first
      | (go_at_call 71; with_reducible refine (int_i 4 w0 _ p _ 3 4 q hok (by decide) (by decide) (by omega) (by omega) rfl).mono ?_; rintro x wc hgw; obtain ⟨rfl, hok', hk'⟩ := gw hgw; have hE := hk'.blk hE (by decide) hp; have hk := hk.trans hk'; have hok := hok')
      | (go_at_call 79; with_reducible refine (num_i 5 w0 _ p _ 4 5 pr hok (by decide) (by decide) (by omega) (by omega) rfl).mono ?_; rintro x wc hgw; obtain ⟨rfl, hok', hk'⟩ := gw hgw; have hE := hk'.blk hE (by decide) hp; have hk := hk.trans hk'; have hok := hok'))
  go_wp2_with fail
  first
    | refine bodyPost_end (results_none rfl _ _ _) rfl ?_
    | refine bodyPost_ret (results_none rfl _ _ _) rfl ?_
  exact ⟨⟨_, rfl⟩, hok, hk⟩

set_option maxRecDepth 20000 in
set_option maxHeartbeats 3200000 in
theorem write2 (k o i q pr c : Int) (w0 w : World) (p : Nat) (h : WrOk w0 w p [] 0) (k0 : 0 ≤ k) (k1 : k < 9223372036854775808) (o0 : 0 ≤ o) (o1 : o < 9223372036854775808) (i0 : 0 ≤ i) (i1 : i < 9223372036854775808) (q0 : -9223372036854775808 ≤ q) (q1 : q ≤ 9223372036854775807) (p0 : 0 ≤ pr) (p1 : pr < 9223372036854775808) (c0 : 0 ≤ c) (c1 : c < 9223372036854775808) :
    Calls Tryd.prog 85 #[.agg #[.int .i64 k, .int .i64 o, .int .i64 i, .int .i64 q, .int .i64 pr, .int .i64 c], .pointer (some ⟨p, 0, none⟩)] w (GivesV w0 w p (f2F k o i q pr c) 6) := by
  unfold GivesV
  have hbm := below_made w (.cells #[.int .i64 k, .int .i64 o, .int .i64 i, .int .i64 q, .int .i64 pr, .int .i64 c] 90)
  have hE := heap_alloc_new w (.cells #[.int .i64 k, .int .i64 o, .int .i64 i, .int .i64 q, .int .i64 pr, .int .i64 c] 90)
  have hok := h.below hbm
  have hk : WKeep p w (w.alloc (.cells #[.int .i64 k, .int .i64 o, .int .i64 i, .int .i64 q, .int .i64 pr, .int .i64 c] 90)) := WKeep.below hbm
  have hp : w.heap.size ≠ p := fun e => by obtain ⟨_, _, _, _, hx⟩ := h.at'; have := lt_of_block hx.blk; omega
  clear h hbm
  have w_c : IntKind.u64.wrap c = c := by rw [wrap_u64]; omega
  go_enter Tryd.func85, Tryd.ntmps85
  go_wp2_with fail
  obtain ⟨wa, hwa⟩ : ∃ wa, w.alloc (.cells #[.int .i64 k, .int .i64 o, .int .i64 i, .int .i64 q, .int .i64 pr, .int .i64 c] 90) = wa := ⟨_, rfl⟩
  rw [hwa] at hE hok hk ⊢
  clear hwa
  (with_reducible refine (write1 k o i q pr w0 _ p hok k0 k1 o0 o1 i0 i1 q0 q1 p0 p1).mono ?_)
  rintro x w1 hgv
  obtain ⟨⟨vv, rfl⟩, hok1, hk1⟩ := gv hgv
  have hE := hk1.blk hE (by decide) hp
  have hk := hk.trans hk1
  clear hok hgv
  have g5 : w1.cell? ⟨w.heap.size, 5, none⟩ = some (.int .i64 c) := cell_blk hE rfl
  go_wp2_with fail
  (with_reducible refine (num_i 6 w0 _ p _ 5 6 c hok1 (by decide) (by decide) (by omega) (by omega) rfl).mono ?_)
  rintro x w2 hgw
  obtain ⟨rfl, hok, hk'⟩ := gw hgw
  have hk := hk.trans hk'
  clear hgw
  go_wp2_with fail
  first
    | refine bodyPost_end (results_none rfl _ _ _) rfl ?_
    | refine bodyPost_ret (results_none rfl _ _ _) rfl ?_
  exact ⟨⟨_, rfl⟩, hok, hk⟩

set_option maxRecDepth 20000 in
set_option maxHeartbeats 3200000 in
theorem write3 (k o i q pr c t : Int) (w0 w : World) (p : Nat) (h : WrOk w0 w p [] 0) (k0 : 0 ≤ k) (k1 : k < 9223372036854775808) (o0 : 0 ≤ o) (o1 : o < 9223372036854775808) (i0 : 0 ≤ i) (i1 : i < 9223372036854775808) (q0 : 0 ≤ q) (q1 : q < 9223372036854775808) (p0 : 0 ≤ pr) (p1 : pr < 9223372036854775808) (c0 : 0 ≤ c) (c1 : c < 9223372036854775808) (t0 : 0 ≤ t) (t1 : t < 9223372036854775808) :
    Calls Tryd.prog 89 #[.agg #[.int .i64 k, .int .i64 o, .int .i64 i, .int .i64 q, .int .i64 pr, .int .i64 c, .int .i64 t], .pointer (some ⟨p, 0, none⟩)] w (GivesV w0 w p (f3F k o i q pr c t) 7) := by
  unfold GivesV
  have hbm := below_made w (.cells #[.int .i64 k, .int .i64 o, .int .i64 i, .int .i64 q, .int .i64 pr, .int .i64 c, .int .i64 t] 92)
  have hE := heap_alloc_new w (.cells #[.int .i64 k, .int .i64 o, .int .i64 i, .int .i64 q, .int .i64 pr, .int .i64 c, .int .i64 t] 92)
  have hok := h.below hbm
  have hk : WKeep p w (w.alloc (.cells #[.int .i64 k, .int .i64 o, .int .i64 i, .int .i64 q, .int .i64 pr, .int .i64 c, .int .i64 t] 92)) := WKeep.below hbm
  have hp : w.heap.size ≠ p := fun e => by obtain ⟨_, _, _, _, hx⟩ := h.at'; have := lt_of_block hx.blk; omega
  clear h hbm
  have w_q : IntKind.u64.wrap q = q := by rw [wrap_u64]; omega
  have w_p : IntKind.u64.wrap pr = pr := by rw [wrap_u64]; omega
  have w_c : IntKind.u64.wrap c = c := by rw [wrap_u64]; omega
  have w_t : IntKind.u64.wrap t = t := by rw [wrap_u64]; omega
  go_enter Tryd.func89, Tryd.ntmps89
  go_wp2_with fail
  obtain ⟨wa, hwa⟩ : ∃ wa, w.alloc (.cells #[.int .i64 k, .int .i64 o, .int .i64 i, .int .i64 q, .int .i64 pr, .int .i64 c, .int .i64 t] 92) = wa := ⟨_, rfl⟩
  rw [hwa] at hE hok hk ⊢
  clear hwa
  (with_reducible refine (head_any k o i q pr w0 _ p hok k0 k1 o0 o1 i0 i1).mono ?_)
  rintro x w1 hgv
  obtain ⟨⟨vv, rfl⟩, hok1, hk1⟩ := gv hgv
  have hE := hk1.blk hE (by decide) hp
  have hk := hk.trans hk1
  clear hok hgv
  go_wp2_with fail
  have g0 : w1.cell? ⟨w.heap.size, 0, none⟩ = some (.int .i64 k) := cell_blk hE rfl
  have g1 : w1.cell? ⟨w.heap.size, 1, none⟩ = some (.int .i64 o) := cell_blk hE rfl
  have g2 : w1.cell? ⟨w.heap.size, 2, none⟩ = some (.int .i64 i) := cell_blk hE rfl
  have g3 : w1.cell? ⟨w.heap.size, 3, none⟩ = some (.int .i64 q) := cell_blk hE rfl
  have g4 : w1.cell? ⟨w.heap.size, 4, none⟩ = some (.int .i64 pr) := cell_blk hE rfl
  have g5 : w1.cell? ⟨w.heap.size, 5, none⟩ = some (.int .i64 c) := cell_blk hE rfl
  have g6 : w1.cell? ⟨w.heap.size, 6, none⟩ = some (.int .i64 t) := cell_blk hE rfl
  have hok : WrOk w0 w1.drew p _ _ := hok1.below ((Still.one w1 1).below _)
  have hk : WKeep p w w1.drew := hk.trans (WKeep.below ((Still.one w1 1).below _))
  have hE : w1.drew.heap[w.heap.size]? = some (.cells #[.int .i64 k, .int .i64 o, .int .i64 i, .int .i64 q, .int .i64 pr, .int .i64 c, .int .i64 t] 92) := hE
  go_region_held3 (fun w' => w'.cell? ⟨w.heap.size, 0, none⟩ = some (.int .i64 k) ∧ w'.cell? ⟨w.heap.size, 1, none⟩ = some (.int .i64 o) ∧ w'.cell? ⟨w.heap.size, 2, none⟩ = some (.int .i64 i) ∧ w'.cell? ⟨w.heap.size, 3, none⟩ = some (.int .i64 q) ∧ w'.cell? ⟨w.heap.size, 4, none⟩ = some (.int .i64 pr) ∧ w'.cell? ⟨w.heap.size, 5, none⟩ = some (.int .i64 c) ∧ w'.cell? ⟨w.heap.size, 6, none⟩ = some (.int .i64 t))
    (first
      | go_keep
      | (go_split_ands
         exact ⟨cell_blk hE rfl, cell_blk hE rfl, cell_blk hE rfl, cell_blk hE rfl, cell_blk hE rfl, cell_blk hE rfl, cell_blk hE rfl⟩))
    (first
      | (go_at_call 79; with_reducible refine (num_i 4 w0 _ p _ 3 4 q hok (by decide) (by decide) (by omega) (by omega) rfl).mono ?_; rintro x wc hgw; obtain ⟨rfl, hok', hk'⟩ := gw hgw; have hE := hk'.blk hE (by decide) hp; have hk := hk.trans hk'; have hok := hok')
      | (go_at_call 79; with_reducible refine (num_i 5 w0 _ p _ 4 5 pr hok (by decide) (by decide) (by omega) (by omega) rfl).mono ?_; rintro x wc hgw; obtain ⟨rfl, hok', hk'⟩ := gw hgw; have hE := hk'.blk hE (by decide) hp; have hk := hk.trans hk'; have hok := hok')
      | (go_at_call 79; with_reducible refine (num_i 6 w0 _ p _ 5 6 c hok (by decide) (by decide) (by omega) (by omega) rfl).mono ?_; rintro x wc hgw; obtain ⟨rfl, hok', hk'⟩ := gw hgw; have hE := hk'.blk hE (by decide) hp; have hk := hk.trans hk'; have hok := hok')
      | (go_at_call 79; with_reducible refine (num_i 7 w0 _ p _ 6 7 t hok (by decide) (by decide) (by omega) (by omega) rfl).mono ?_; rintro x wc hgw; obtain ⟨rfl, hok', hk'⟩ := gw hgw; have hE := hk'.blk hE (by decide) hp; have hk := hk.trans hk'; have hok := hok'))
  go_wp2_with fail
  first
    | refine bodyPost_end (results_none rfl _ _ _) rfl ?_
    | refine bodyPost_ret (results_none rfl _ _ _) rfl ?_
  exact ⟨⟨_, rfl⟩, hok, hk⟩

set_option maxRecDepth 20000 in
set_option maxHeartbeats 3200000 in
theorem write4 (k o i q pr c t : Int) (u : ByteArray) (w0 w : World) (p : Nat) (h : WrOk w0 w p [] 0) (k0 : 0 ≤ k) (k1 : k < 9223372036854775808) (o0 : 0 ≤ o) (o1 : o < 9223372036854775808) (i0 : 0 ≤ i) (i1 : i < 9223372036854775808) (q0 : 0 ≤ q) (q1 : q < 9223372036854775808) (p0 : 0 ≤ pr) (p1 : pr < 9223372036854775808) (c0 : 0 ≤ c) (c1 : c < 9223372036854775808) (t0 : 0 ≤ t) (t1 : t < 9223372036854775808) (us : u.size ≤ 200) :
    Calls Tryd.prog 93 #[.agg #[.int .i64 k, .int .i64 o, .int .i64 i, .int .i64 q, .int .i64 pr, .int .i64 c, .int .i64 t, .string u], .pointer (some ⟨p, 0, none⟩)] w (GivesV w0 w p (f4F k o i q pr c t u) 8) := by
  unfold GivesV
  have hbm := below_made w (.cells #[.int .i64 k, .int .i64 o, .int .i64 i, .int .i64 q, .int .i64 pr, .int .i64 c, .int .i64 t, .string u] 94)
  have hE := heap_alloc_new w (.cells #[.int .i64 k, .int .i64 o, .int .i64 i, .int .i64 q, .int .i64 pr, .int .i64 c, .int .i64 t, .string u] 94)
  have hok := h.below hbm
  have hk : WKeep p w (w.alloc (.cells #[.int .i64 k, .int .i64 o, .int .i64 i, .int .i64 q, .int .i64 pr, .int .i64 c, .int .i64 t, .string u] 94)) := WKeep.below hbm
  have hp : w.heap.size ≠ p := fun e => by obtain ⟨_, _, _, _, hx⟩ := h.at'; have := lt_of_block hx.blk; omega
  clear h hbm
  go_enter Tryd.func93, Tryd.ntmps93
  go_wp2_with fail
  obtain ⟨wa, hwa⟩ : ∃ wa, w.alloc (.cells #[.int .i64 k, .int .i64 o, .int .i64 i, .int .i64 q, .int .i64 pr, .int .i64 c, .int .i64 t, .string u] 94) = wa := ⟨_, rfl⟩
  rw [hwa] at hE hok hk ⊢
  clear hwa
  (with_reducible refine (write3 k o i q pr c t w0 _ p hok k0 k1 o0 o1 i0 i1 q0 q1 p0 p1 c0 c1 t0 t1).mono ?_)
  rintro x w1 hgv
  obtain ⟨⟨vv, rfl⟩, hok1, hk1⟩ := gv hgv
  have hE := hk1.blk hE (by decide) hp
  have hk := hk.trans hk1
  clear hok hgv
  have g7 : w1.cell? ⟨w.heap.size, 7, none⟩ = some (.string u) := cell_blk hE rfl
  have hcv := str_conv u
  go_wp2_with fail
  (with_reducible refine (text_i 8 w0 _ p _ 7 8 _ _ _ u.data.toList (hok1.below (str_below w1 u)) (by decide) (by decide) (str_row w1 u (by unfold maxLen; omega)) us (fun e => by cases e) rfl).mono ?_)
  rintro x w2 hgw
  obtain ⟨rfl, hok, hk'⟩ := gw hgw
  have hk := (hk.trans (WKeep.below (str_below w1 u))).trans hk'
  clear hgw
  go_wp2_with fail
  first
    | refine bodyPost_end (results_none rfl _ _ _) rfl ?_
    | refine bodyPost_ret (results_none rfl _ _ _) rfl ?_
  exact ⟨⟨_, rfl⟩, hok, hk⟩

set_option maxRecDepth 20000 in
set_option maxHeartbeats 3200000 in
theorem write5 (k o i q pr c t : Int) (u : ByteArray) (s : Int) (n : ByteArray) (w0 w : World) (p : Nat) (h : WrOk w0 w p [] 0) (k0 : 0 ≤ k) (k1 : k < 9223372036854775808) (o0 : 0 ≤ o) (o1 : o < 9223372036854775808) (i0 : 0 ≤ i) (i1 : i < 9223372036854775808) (q0 : 0 ≤ q) (q1 : q < 9223372036854775808) (p0 : 0 ≤ pr) (p1 : pr < 9223372036854775808) (c0 : 0 ≤ c) (c1 : c < 9223372036854775808) (t0 : 0 ≤ t) (t1 : t < 9223372036854775808) (us : u.size ≤ 200) (s0 : 0 ≤ s) (s1 : s < 9223372036854775808) (ns : n.size ≤ 200) :
    Calls Tryd.prog 99 #[.agg #[.int .i64 k, .int .i64 o, .int .i64 i, .int .i64 q, .int .i64 pr, .int .i64 c, .int .i64 t, .string u, .int .i64 s, .string n], .pointer (some ⟨p, 0, none⟩)] w (GivesV w0 w p (f5F k o i q pr c t u s n) 10) := by
  unfold GivesV
  have hbm := below_made w (.cells #[.int .i64 k, .int .i64 o, .int .i64 i, .int .i64 q, .int .i64 pr, .int .i64 c, .int .i64 t, .string u, .int .i64 s, .string n] 96)
  have hE := heap_alloc_new w (.cells #[.int .i64 k, .int .i64 o, .int .i64 i, .int .i64 q, .int .i64 pr, .int .i64 c, .int .i64 t, .string u, .int .i64 s, .string n] 96)
  have hok := h.below hbm
  have hk : WKeep p w (w.alloc (.cells #[.int .i64 k, .int .i64 o, .int .i64 i, .int .i64 q, .int .i64 pr, .int .i64 c, .int .i64 t, .string u, .int .i64 s, .string n] 96)) := WKeep.below hbm
  have hp : w.heap.size ≠ p := fun e => by obtain ⟨_, _, _, _, hx⟩ := h.at'; have := lt_of_block hx.blk; omega
  clear h hbm
  have w_s : IntKind.u64.wrap s = s := by rw [wrap_u64]; omega
  go_enter Tryd.func99, Tryd.ntmps99
  go_wp2_with fail
  obtain ⟨wa, hwa⟩ : ∃ wa, w.alloc (.cells #[.int .i64 k, .int .i64 o, .int .i64 i, .int .i64 q, .int .i64 pr, .int .i64 c, .int .i64 t, .string u, .int .i64 s, .string n] 96) = wa := ⟨_, rfl⟩
  rw [hwa] at hE hok hk ⊢
  clear hwa
  (with_reducible refine (write4 k o i q pr c t u w0 _ p hok k0 k1 o0 o1 i0 i1 q0 q1 p0 p1 c0 c1 t0 t1 us).mono ?_)
  rintro x w1 hgv
  obtain ⟨⟨vv, rfl⟩, hok1, hk1⟩ := gv hgv
  have hE := hk1.blk hE (by decide) hp
  have hk := hk.trans hk1
  clear hok hgv
  have hcv := str_conv n
  go_wp2_with fail
  have g0 : w1.cell? ⟨w.heap.size, 0, none⟩ = some (.int .i64 k) := cell_blk hE rfl
  have g1 : w1.cell? ⟨w.heap.size, 1, none⟩ = some (.int .i64 o) := cell_blk hE rfl
  have g2 : w1.cell? ⟨w.heap.size, 2, none⟩ = some (.int .i64 i) := cell_blk hE rfl
  have g3 : w1.cell? ⟨w.heap.size, 3, none⟩ = some (.int .i64 q) := cell_blk hE rfl
  have g4 : w1.cell? ⟨w.heap.size, 4, none⟩ = some (.int .i64 pr) := cell_blk hE rfl
  have g5 : w1.cell? ⟨w.heap.size, 5, none⟩ = some (.int .i64 c) := cell_blk hE rfl
  have g6 : w1.cell? ⟨w.heap.size, 6, none⟩ = some (.int .i64 t) := cell_blk hE rfl
  have g7 : w1.cell? ⟨w.heap.size, 7, none⟩ = some (.string u) := cell_blk hE rfl
  have g8 : w1.cell? ⟨w.heap.size, 8, none⟩ = some (.int .i64 s) := cell_blk hE rfl
  have g9 : w1.cell? ⟨w.heap.size, 9, none⟩ = some (.string n) := cell_blk hE rfl
  have hok : WrOk w0 w1.drew p _ _ := hok1.below ((Still.one w1 1).below _)
  have hk : WKeep p w w1.drew := hk.trans (WKeep.below ((Still.one w1 1).below _))
  have hE : w1.drew.heap[w.heap.size]? = some (.cells #[.int .i64 k, .int .i64 o, .int .i64 i, .int .i64 q, .int .i64 pr, .int .i64 c, .int .i64 t, .string u, .int .i64 s, .string n] 96) := hE
  have hsz := lt_of_block hE
  have hpl : p < w1.heap.size := by obtain ⟨_, _, _, _, hx⟩ := hok1.at'; exact lt_of_block hx.blk
  have hnp : w1.heap.size ≠ p := by omega
  have hnm : n.size ≤ maxLen := by unfold maxLen; omega
  have hEb := below_blk' (str_below w1.drew n) hE
  have gb8 : (Lib.bytesWorld w1.drew 5 n).cell? ⟨w.heap.size, 8, none⟩ = some (.int .i64 s) := cell_blk hEb rfl
  have gb9 : (Lib.bytesWorld w1.drew 5 n).cell? ⟨w.heap.size, 9, none⟩ = some (.string n) := cell_blk hEb rfl
  clear hEb
  go_region_with (first
      | (go_at_call 79; with_reducible refine (num_i 9 w0 _ p _ 8 9 s hok (by decide) (by decide) (by omega) (by omega) rfl).mono ?_; rintro x wc hgw; obtain ⟨rfl, hok', hk'⟩ := gw hgw; have hE := hk'.blk hE (by decide) hp; have hk := hk.trans hk'; have hok := hok'; have gc9 : wc.cell? ⟨w.heap.size, 9, none⟩ = some (.string n) := cell_blk hE rfl)
      | (go_at_call 79; with_reducible refine (num_i 9 w0 _ p _ 8 9 s (hok.below (str_below _ n)) (by decide) (by decide) (by omega) (by omega) rfl).mono ?_; rintro x wc hgw; obtain ⟨rfl, hok', hk'⟩ := gw hgw; have hrow : RowAt wc (some ⟨w1.heap.size, 0, none⟩) n.size (grownCap w1.drew n.size 0 5) 1 (n.data.toList.map B) := rowAt_keep (str_row w1.drew n hnm) (str_tag w1.drew n) hk' hnp; have hE := hk'.blk (below_blk' (str_below _ n) hE) (by decide) hp; have hk := (hk.trans (WKeep.below (str_below _ n))).trans hk'; have hok := hok')
      | (go_at_call 95; with_reducible refine (text_i 10 w0 _ p _ 9 10 _ _ _ n.data.toList (hok.below (str_below _ n)) (by decide) (by decide) (str_row _ n hnm) ns (fun e => by cases e) rfl).mono ?_; rintro x wd hgw; obtain ⟨rfl, hok', hk'⟩ := gw hgw; have hE := hk'.blk (below_blk' (str_below _ n) hE) (by decide) hp; have hk := (hk.trans (WKeep.below (str_below _ n))).trans hk'; have hok := hok')
      | (go_at_call 95; with_reducible refine (text_i 10 w0 _ p _ 9 10 _ _ _ n.data.toList hok (by decide) (by decide) hrow ns (fun e => by cases e) rfl).mono ?_; rintro x wd hgw; obtain ⟨rfl, hok', hk'⟩ := gw hgw; have hE := hk'.blk hE (by decide) hp; have hk := hk.trans hk'; have hok := hok'))
  all_goals
    go_wp2_with fail
    first
      | refine bodyPost_end (results_none rfl _ _ _) rfl ?_
      | refine bodyPost_ret (results_none rfl _ _ _) rfl ?_
    exact ⟨⟨_, rfl⟩, hok, hk⟩

end Go.Proofs.YtkdpingniohfhaaDoor
