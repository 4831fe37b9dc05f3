/-
  The table by which the reference looks at an event, and that it says what chk says. No condition.
  The walks of the reference's Has, Last, Nums at any event. No condition.
  The walks of the reference's Check at any event, printed by genrchk.py. No condition.
  What a right event of a version is. No condition.
-/
import Derived.Test.YtkdpingniohfhaaDoorMBase
import Derived.Test.YtkdpingniohfhaaDoorMSty
import Derived.Deep.RegionHeld3
import Derived.Deep.QuietTactic
import Derived.BigQuiet
namespace Go.Proofs.YtkdpingniohfhaaDoor
open Go.RowKit
set_option linter.unusedVariables false

def hasV (v : Int) : Int := if v = 1 then 5 else if v = 2 then 6 else if v = 3 then 7 else if v = 4 then 8 else 10
def numAt (e : Ev) : Nat → Int
  | 1 => e.kind | 2 => e.order | 3 => e.item | 4 => e.qty | 5 => e.price | 6 => e.cur | 7 => e.tax | 9 => e.stamp | _ => 0
def lowAt (v : Int) : Nat → Int
  | 1 => 1 | 2 => 1 | 4 => if v < 3 then -10000 else 0 | _ => 0
def highAt (v : Int) : Nat → Int
  | 1 => 10 | 2 => 1099511627776 | 3 => 65535 | 4 => 10000 | 5 => if v = 1 then 1000000 else 100000000 | 6 => 3 | 7 => 5000 | 9 => 1099511627776 | _ => 0
def arr11 (f : Nat → Int) : Array Value := #[.int .i64 (f 0), .int .i64 (f 1), .int .i64 (f 2), .int .i64 (f 3), .int .i64 (f 4), .int .i64 (f 5), .int .i64 (f 6), .int .i64 (f 7), .int .i64 (f 8), .int .i64 (f 9), .int .i64 (f 10)]
theorem arr11_at (f : Nat → Int) : ∀ (j : Nat), j < 11 → (arr11 f)[j]? = some (.int .i64 (f j))
  | 0, _ => rfl | 1, _ => rfl | 2, _ => rfl | 3, _ => rfl | 4, _ => rfl | 5, _ => rfl | 6, _ => rfl | 7, _ => rfl | 8, _ => rfl | 9, _ => rfl | 10, _ => rfl
  | n + 11, h => absurd h (by omega)
/-- A number of an event is as the table says. -/
def okAt (v : Int) (e : Ev) (t : Nat) : Prop := (hasV v < t → numAt e t = 0) ∧ lowAt v t ≤ numAt e t ∧ numAt e t ≤ highAt v t
/-- All of them, and the texts. -/
def allOk (v : Int) (e : Ev) : Prop := (∀ t : Nat, 1 ≤ t → t < 11 → okAt v e t)
theorem allOk_all {v : Int} {e : Ev} : allOk v e ↔ (okAt v e 1 ∧ okAt v e 2 ∧ okAt v e 3 ∧ okAt v e 4 ∧ okAt v e 5 ∧ okAt v e 6 ∧ okAt v e 7 ∧ okAt v e 8 ∧ okAt v e 9 ∧ okAt v e 10) := by
  constructor
  · intro h
    exact ⟨h 1 (by omega) (by omega), h 2 (by omega) (by omega), h 3 (by omega) (by omega), h 4 (by omega) (by omega), h 5 (by omega) (by omega), h 6 (by omega) (by omega), h 7 (by omega) (by omega), h 8 (by omega) (by omega), h 9 (by omega) (by omega), h 10 (by omega) (by omega)⟩
  · rintro ⟨h1, h2, h3, h4, h5, h6, h7, h8, h9, h10⟩ t ht1 ht
    match t, ht1, ht with
    | 1, _, _ => exact h1
    | 2, _, _ => exact h2
    | 3, _, _ => exact h3
    | 4, _, _ => exact h4
    | 5, _, _ => exact h5
    | 6, _, _ => exact h6
    | 7, _, _ => exact h7
    | 8, _, _ => exact h8
    | 9, _, _ => exact h9
    | 10, _, _ => exact h10
    | n + 11, _, h => exact absurd h (by omega)

theorem plainB_nil {u : ByteArray} (h : u.size = 0) : plainB u = true := by rw [bytes_nil h]; rfl

theorem fit_iff (v : Int) (e : Ev) (h1 : 1 ≤ v) (h5 : v ≤ 5) (k1 : ¬ e.kind < 1) (kl : e.kind ≤ lastK v) : ((e.fitB v && e.bareB v) = true) ↔ (allOk v e ∧ (v < 4 → e.who.size = 0) ∧ (v < 5 → e.note.size = 0) ∧ plainB e.who = true) := by
  rw [allOk_all]
  have hc : v = 1 ∨ v = 2 ∨ v = 3 ∨ v = 4 ∨ v = 5 := by omega
  rcases hc with rfl | rfl | rfl | rfl | rfl
  all_goals
    simp [lastK] at kl
    simp [Ev.fitB, Ev.bareB, Ev.fit5, Ev.fit4, Ev.fit3, Ev.fit2, Ev.fit1, coreB, wi, okAt, hasV, lowAt, highAt, numAt]
    constructor
    · intro h
      obtain ⟨h, h'⟩ := h
      first
        | (refine ⟨by omega, ?_⟩; simp_all <;> first | rfl | omega)
        | (refine ⟨by omega, by omega, ?_⟩; simp_all <;> first | rfl | omega)
        | (simp_all <;> first | rfl | omega)
    · intro h
      obtain ⟨h, h'⟩ := h
      simp_all <;> omega

/-- What the reference may say of an event whose kind and texts are in their bounds. -/
structure Says (v : Int) (e : Ev) : Prop where
  good : allOk v e → (v < 4 → e.who.size = 0) → (v < 5 → e.note.size = 0) → plainB e.who = true → chk v e = 0
  badT : ∀ t, 1 ≤ t → t < 11 → ¬ okAt v e t → chk v e = 32
  badU : v < 4 → e.who.size ≠ 0 → chk v e = 32
  badN : v < 5 → e.note.size ≠ 0 → chk v e = 32
  badP : plainB e.who = false → chk v e = 32
theorem says (v : Int) (e : Ev) (h1 : 1 ≤ v) (h5 : v ≤ 5) (k1 : ¬ e.kind < 1) (kl : e.kind ≤ lastK v) (hu : e.who.size ≤ 16) (hn : e.note.size ≤ 120) : Says v e := by
  have hi := fit_iff v e h1 h5 k1 kl
  have hc := chk_in h1 h5 k1 kl hu hn
  have hno : ¬ (allOk v e ∧ (v < 4 → e.who.size = 0) ∧ (v < 5 → e.note.size = 0) ∧ plainB e.who = true) → chk v e = 32 := fun h => by
    rw [hc, if_neg (fun hh => h (hi.mp hh))]
  exact { good := fun a b c d => by rw [hc, if_pos (hi.mpr ⟨a, b, c, d⟩)], badT := fun t a b c => hno (fun h => c (h.1 t a b)), badU := fun a b => hno (fun h => b (h.2.1 a)), badN := fun a b => hno (fun h => b (h.2.2.1 a)), badP := fun a => hno (fun h => by rw [a] at h; exact absurd h.2.2.2 (by decide)) }
end Go.Proofs.YtkdpingniohfhaaDoor

namespace Go.Proofs.YtkdpingniohfhaaDoor
open Go.RowKit
set_option linter.unusedVariables false

theorem rhas_any (v : Int) (w : World) (h1 : 1 ≤ v) (h5 : v ≤ 5) : Calls Tryd.prog 40 #[.int .i64 v] w fun x w' => x = .returned (.int .i64 (hasV v)) ∧ Below w.heap.size w w' := by
  have hc : v = 1 ∨ v = 2 ∨ v = 3 ∨ v = 4 ∨ v = 5 := by omega
  clear h1 h5
  rcases hc with rfl | rfl | rfl | rfl | rfl
  all_goals
    simp only [hasV, if_true, Int.reduceEq, if_false]
    go_enter Tryd.func40, Tryd.ntmps40
    go_wp2_with fail
    go_ret
    exact ⟨rfl, below_made _ _⟩

theorem rlast_any (v : Int) (w : World) (h1 : 1 ≤ v) (h5 : v ≤ 5) : Calls Tryd.prog 42 #[.int .i64 v] w fun x w' => x = .returned (.int .i64 (lastK v)) ∧ Below w.heap.size w w' := by
  have hc : v = 1 ∨ v = 2 ∨ v = 3 ∨ v = 4 ∨ v = 5 := by omega
  clear h1 h5
  rcases hc with rfl | rfl | rfl | rfl | rfl
  all_goals
    simp only [lastK, Int.reduceLT, if_true, Int.reduceEq, if_false]
    go_enter Tryd.func42, Tryd.ntmps42
    go_wp2_with fail
    go_ret
    exact ⟨rfl, below_made _ _⟩

theorem rnums_any (e : Ev) (w : World) : Calls Tryd.prog 43 #[e.val] w fun x w' => ∃ b, x = .returned (.slice (some ⟨b, 0, none⟩) 11 11) ∧ w.heap.size ≤ b ∧ w'.heap[b]? = some (.cells (arr11 (numAt e)) 3 (0, 0)) ∧ Below w.heap.size w w' := by
  unfold Ev.val Ev.cells
  go_enter Tryd.func43, Tryd.ntmps43
  go_wp2_with fail
  go_ret
  refine ⟨w.heap.size + 1, rfl, by omega, ?_, below_next (below_made _ _) (below_made _ _)⟩
  have hs : (w.alloc (.cells e.cells 25)).heap.size = w.heap.size + 1 := by simp
  have h := heap_alloc_new (w.alloc (.cells e.cells 25)) (.cells (arr11 (numAt e)) 3)
  rw [hs] at h
  exact h
end Go.Proofs.YtkdpingniohfhaaDoor

namespace Go.Proofs.YtkdpingniohfhaaDoor
open Go.RowKit
set_option linter.unusedVariables false

theorem rchk_none (v : Int) (k o i q p c t : Int) (u : ByteArray) (s : Int) (n : ByteArray) (w : World) (h : v < 1 ∨ 5 < v) : Calls Tryd.prog 29 #[.int .i64 v, .agg #[.int .i64 k, .int .i64 o, .int .i64 i, .int .i64 q, .int .i64 p, .int .i64 c, .int .i64 t, .string u, .int .i64 s, .string n]] w fun x w' => x = .returned (.int .i64 30) ∧ Below w.heap.size w w' := by
  have h' : v < 1 ∨ (¬ v < 1 ∧ 5 < v) := by omega
  clear h
  rcases h' with h | ⟨h, h2⟩
  all_goals
    go_enter Tryd.func29, Tryd.ntmps29
    go_wp2_with fail
    go_ret
    exact ⟨rfl, below_made _ _⟩

theorem rchk_low (v : Int) (k o i q p c t : Int) (u : ByteArray) (s : Int) (n : ByteArray) (w : World) (hv1 : 1 ≤ v) (hv5 : v ≤ 5) (hk : k < 1) : Calls Tryd.prog 29 #[.int .i64 v, .agg #[.int .i64 k, .int .i64 o, .int .i64 i, .int .i64 q, .int .i64 p, .int .i64 c, .int .i64 t, .string u, .int .i64 s, .string n]] w fun x w' => x = .returned (.int .i64 31) ∧ Below w.heap.size w w' := by
  have hd : decide (k < 1) = true := by simpa using hk
  have hb0 := below_made w (.cells #[.int .i64 k, .int .i64 o, .int .i64 i, .int .i64 q, .int .i64 p, .int .i64 c, .int .i64 t, .string u, .int .i64 s, .string n] 25)
  have h0 := heap_alloc_new w (.cells #[.int .i64 k, .int .i64 o, .int .i64 i, .int .i64 q, .int .i64 p, .int .i64 c, .int .i64 t, .string u, .int .i64 s, .string n] 25)
  have g0 : (w.alloc (.cells #[.int .i64 k, .int .i64 o, .int .i64 i, .int .i64 q, .int .i64 p, .int .i64 c, .int .i64 t, .string u, .int .i64 s, .string n] 25)).cell? ⟨w.heap.size, 0, none⟩ = some (.int .i64 k) := cell_blk h0 rfl
  have HLA := Lib.hid (fun wx => rlast_any v wx hv1 hv5)
  have hv1' : ¬ v < 1 := by omega
  have hv5' : ¬ 5 < v := by omega
  clear hv1 hv5
  go_enter Tryd.func29, Tryd.ntmps29
  go_wp2_with fail
  go_quiet (fail)
  go_wp2_with fail
  go_ret
  exact ⟨rfl, hb0.trans ((Still.one _ _).below _)⟩

theorem rchk_high (v : Int) (k o i q p c t : Int) (u : ByteArray) (s : Int) (n : ByteArray) (w : World) (hv1 : 1 ≤ v) (hv5 : v ≤ 5) (hk : lastK v < k) (hk1 : 1 ≤ k) : Calls Tryd.prog 29 #[.int .i64 v, .agg #[.int .i64 k, .int .i64 o, .int .i64 i, .int .i64 q, .int .i64 p, .int .i64 c, .int .i64 t, .string u, .int .i64 s, .string n]] w fun x w' => x = .returned (.int .i64 31) ∧ Below w.heap.size w w' := by
  have hd : decide (k < 1) = false := by simp; omega
  have hd2 : decide (lastK v < k) = true := by simpa using hk
  have hb0 := below_made w (.cells #[.int .i64 k, .int .i64 o, .int .i64 i, .int .i64 q, .int .i64 p, .int .i64 c, .int .i64 t, .string u, .int .i64 s, .string n] 25)
  have h0 := heap_alloc_new w (.cells #[.int .i64 k, .int .i64 o, .int .i64 i, .int .i64 q, .int .i64 p, .int .i64 c, .int .i64 t, .string u, .int .i64 s, .string n] 25)
  have g0 : (w.alloc (.cells #[.int .i64 k, .int .i64 o, .int .i64 i, .int .i64 q, .int .i64 p, .int .i64 c, .int .i64 t, .string u, .int .i64 s, .string n] 25)).cell? ⟨w.heap.size, 0, none⟩ = some (.int .i64 k) := cell_blk h0 rfl
  have HLA := Lib.hid (fun wx => rlast_any v wx hv1 hv5)
  have hv1' : ¬ v < 1 := by omega
  have hv5' : ¬ 5 < v := by omega
  clear hv1 hv5
  go_enter Tryd.func29, Tryd.ntmps29
  go_wp2_with fail
  have hac : Below w.heap.size w (w.alloc (.cells #[.int .i64 k, .int .i64 o, .int .i64 i, .int .i64 q, .int .i64 p, .int .i64 c, .int .i64 t, .string u, .int .i64 s, .string n] 25)).drew := hb0.trans ((Still.one _ 1).below _)
  have hEc : (w.alloc (.cells #[.int .i64 k, .int .i64 o, .int .i64 i, .int .i64 q, .int .i64 p, .int .i64 c, .int .i64 t, .string u, .int .i64 s, .string n] 25)).drew.heap[w.heap.size]? = some (.cells #[.int .i64 k, .int .i64 o, .int .i64 i, .int .i64 q, .int .i64 p, .int .i64 c, .int .i64 t, .string u, .int .i64 s, .string n] 25) := h0
  obtain ⟨wa, hwa⟩ : ∃ wa, w.alloc (.cells #[.int .i64 k, .int .i64 o, .int .i64 i, .int .i64 q, .int .i64 p, .int .i64 c, .int .i64 t, .string u, .int .i64 s, .string n] 25) = wa := ⟨_, rfl⟩
  rw [hwa] at g0 hac hEc ⊢
  clear hwa h0 hb0
  go_region_held3 (fun w' => w'.cell? ⟨w.heap.size, 0, none⟩ = some (.int .i64 k))
    (first
      | go_keep
      | exact below_cell hbc (by assumption))
    (first
      | (go_at_call 42; refine (HLA.out _).mono ?_; rintro e wc ⟨rfl, hbc⟩; have hac := below_next hac hbc; have hEc := below_blk hbc hEc))
  go_wp2_with fail
  go_ret
  exact ⟨rfl, hac⟩

theorem rchk_big (v : Int) (k o i q p c t : Int) (u : ByteArray) (s : Int) (n : ByteArray) (w : World) (hv1 : 1 ≤ v) (hv5 : v ≤ 5) (hk : k ≤ lastK v) (hk1 : 1 ≤ k) (hs : 16 < u.size ∨ 120 < n.size) : Calls Tryd.prog 29 #[.int .i64 v, .agg #[.int .i64 k, .int .i64 o, .int .i64 i, .int .i64 q, .int .i64 p, .int .i64 c, .int .i64 t, .string u, .int .i64 s, .string n]] w fun x w' => x = .returned (.int .i64 24) ∧ Below w.heap.size w w' := by
  have hd : decide (k < 1) = false := by simp; omega
  have hd2 : decide (lastK v < k) = false := by simp; omega
  have hs2 : 16 < (u.size : Int) ∨ (¬ 16 < (u.size : Int) ∧ 120 < (n.size : Int)) := by omega
  clear hs
  rcases hs2 with hu | ⟨hu, hn⟩
  all_goals
    have hb0 := below_made w (.cells #[.int .i64 k, .int .i64 o, .int .i64 i, .int .i64 q, .int .i64 p, .int .i64 c, .int .i64 t, .string u, .int .i64 s, .string n] 25)
    have h0 := heap_alloc_new w (.cells #[.int .i64 k, .int .i64 o, .int .i64 i, .int .i64 q, .int .i64 p, .int .i64 c, .int .i64 t, .string u, .int .i64 s, .string n] 25)
    have g0 : (w.alloc (.cells #[.int .i64 k, .int .i64 o, .int .i64 i, .int .i64 q, .int .i64 p, .int .i64 c, .int .i64 t, .string u, .int .i64 s, .string n] 25)).cell? ⟨w.heap.size, 0, none⟩ = some (.int .i64 k) := cell_blk h0 rfl
    have HLA := Lib.hid (fun wx => rlast_any v wx hv1 hv5)
    have hv1' : ¬ v < 1 := by omega
    have hv5' : ¬ 5 < v := by omega
    clear hv1 hv5
    go_enter Tryd.func29, Tryd.ntmps29
    go_wp2_with fail
    have hac : Below w.heap.size w (w.alloc (.cells #[.int .i64 k, .int .i64 o, .int .i64 i, .int .i64 q, .int .i64 p, .int .i64 c, .int .i64 t, .string u, .int .i64 s, .string n] 25)).drew := hb0.trans ((Still.one _ 1).below _)
    have hEc : (w.alloc (.cells #[.int .i64 k, .int .i64 o, .int .i64 i, .int .i64 q, .int .i64 p, .int .i64 c, .int .i64 t, .string u, .int .i64 s, .string n] 25)).drew.heap[w.heap.size]? = some (.cells #[.int .i64 k, .int .i64 o, .int .i64 i, .int .i64 q, .int .i64 p, .int .i64 c, .int .i64 t, .string u, .int .i64 s, .string n] 25) := h0
    obtain ⟨wa, hwa⟩ : ∃ wa, w.alloc (.cells #[.int .i64 k, .int .i64 o, .int .i64 i, .int .i64 q, .int .i64 p, .int .i64 c, .int .i64 t, .string u, .int .i64 s, .string n] 25) = wa := ⟨_, rfl⟩
    rw [hwa] at g0 hac hEc ⊢
    clear hwa h0 hb0
    go_region_held3 (fun w' => w'.cell? ⟨w.heap.size, 0, none⟩ = some (.int .i64 k))
      (first
        | go_keep
        | exact below_cell hbc (by assumption))
      (first
        | (go_at_call 42; refine (HLA.out _).mono ?_; rintro e wc ⟨rfl, hbc⟩; have hac := below_next hac hbc; have hEc := below_blk hbc hEc))
    clear g0
    obtain ⟨g0, g1, g2, g3, g4, g5, g6, g7, g8, g9⟩ := evAt hEc
    go_wp2_with fail
    go_ret
    exact ⟨rfl, hac⟩

end Go.Proofs.YtkdpingniohfhaaDoor

namespace Go.Proofs.YtkdpingniohfhaaDoor
open Go.RowKit
set_option linter.unusedVariables false

/-- A right event of a version. -/
structure Right (v : Int) (e : Ev) : Prop where
  v1 : 1 ≤ v
  v5 : v ≤ 5
  k1 : 1 ≤ e.kind
  kl : e.kind ≤ lastK v
  us : e.who.size ≤ 16
  ns : e.note.size ≤ 120
  o : 1 ≤ e.order ∧ e.order ≤ 1099511627776
  i : 0 ≤ e.item ∧ e.item ≤ 65535
  q : -10000 ≤ e.qty ∧ e.qty ≤ 10000
  q3 : 3 ≤ v → 0 ≤ e.qty
  p : 0 ≤ e.price ∧ e.price ≤ 100000000
  p1 : v = 1 → e.price ≤ 1000000
  c : 0 ≤ e.cur ∧ e.cur ≤ 3
  c1 : v = 1 → e.cur = 0
  t : 0 ≤ e.tax ∧ e.tax ≤ 5000
  t2 : v ≤ 2 → e.tax = 0
  u : plainB e.who = true
  u3 : v ≤ 3 → e.who.size = 0
  s : 0 ≤ e.stamp ∧ e.stamp ≤ 1099511627776
  s4 : v ≤ 4 → e.stamp = 0
  n4 : v ≤ 4 → e.note.size = 0

theorem right_of {v : Int} {e : Ev} (h : chk v e = 0) : Right v e := by
  have hv : ¬ (v < 1 ∨ 5 < v) := fun hn => by rw [chk_none hn] at h; exact absurd h (by decide)
  have h1 : 1 ≤ v := by omega
  have h5 : v ≤ 5 := by omega
  have hk : ¬ e.kind < 1 := fun hn => by rw [chk_low h1 h5 hn] at h; exact absurd h (by decide)
  have hl : ¬ lastK v < e.kind := fun hn => by rw [chk_high h1 h5 hn] at h; exact absurd h (by decide)
  have hs : ¬ (16 < e.who.size ∨ 120 < e.note.size) := fun hn => by rw [chk_who h1 h5 hk (by omega) hn] at h; exact absurd h (by decide)
  rw [chk_in h1 h5 hk (by omega) (by omega) (by omega)] at h
  have hb : (e.fitB v && e.bareB v) = true := by
    by_cases hh : (e.fitB v && e.bareB v) = true
    · exact hh
    · rw [if_neg hh] at h; exact absurd h (by decide)
  rw [fit_iff v e h1 h5 hk (by omega), allOk_all] at hb
  obtain ⟨⟨a1, a2, a3, a4, a5, a6, a7, a8, a9, a10⟩, hw, hn, hp⟩ := hb
  clear h hv
  have hc : v = 1 ∨ v = 2 ∨ v = 3 ∨ v = 4 ∨ v = 5 := by omega
  rcases hc with rfl | rfl | rfl | rfl | rfl
  all_goals
    simp [okAt, hasV, lowAt, highAt, numAt] at a1 a2 a3 a4 a5 a6 a7 a8 a9 a10
    exact { v1 := h1, v5 := h5, k1 := by omega, kl := by omega, us := by omega, ns := by omega, o := by omega, i := by omega, q := by omega, q3 := by omega, p := by omega, p1 := by omega, c := by omega, c1 := by omega, t := by omega, t2 := by omega, u := hp, u3 := fun _ => hw (by omega), s := by omega, s4 := by omega, n4 := fun _ => hn (by omega) }

theorem right_to {v : Int} {e : Ev} (h : Right v e) : chk v e = 0 := by
  obtain ⟨h1, h5, k1, kl, us, ns, o, i, q, q3, p, p1, c, c1, t, t2, u, u3, s, s4, n4⟩ := h
  have hk : ¬ e.kind < 1 := by omega
  rw [chk_in h1 h5 hk kl us ns]
  refine if_pos ?_
  rw [fit_iff v e h1 h5 hk kl, allOk_all]
  refine ⟨?_, fun h => u3 (by omega), fun h => n4 (by omega), u⟩
  clear u u3 n4
  have hc : v = 1 ∨ v = 2 ∨ v = 3 ∨ v = 4 ∨ v = 5 := by omega
  rcases hc with rfl | rfl | rfl | rfl | rfl
  all_goals
    simp [lastK] at kl
    simp [okAt, hasV, lowAt, highAt, numAt]
    omega

end Go.Proofs.YtkdpingniohfhaaDoor
