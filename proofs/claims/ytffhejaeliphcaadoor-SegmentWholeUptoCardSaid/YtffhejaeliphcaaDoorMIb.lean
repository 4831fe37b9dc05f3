/-
  The walks of both Build over placed frames. Condition: the slice reads as a list of placed frames.
  Plain facts on the marks of frames of rising numbers. No condition.
-/
import Derived.Test.YtffhejaeliphcaaDoorMIi
import Derived.Deep.RegionHeld3
namespace Go.Proofs.YtffhejaeliphcaaDoor
open Go.RowKit
set_option linter.unusedVariables false

/-- A placed frame: its cells alone. -/
structure Pl where
  at' : Int
  size : Int
  kind : Int
  seq : Int
  ba : Option Addr
  bn : Nat
  bc : Nat
deriving Inhabited
def Pl.cells (p : Pl) : List Value := [.int .i64 p.at', .int .i64 p.size, .int .i64 p.kind, .int .i64 p.seq, .slice p.ba p.bn p.bc]
theorem P_len (ps : List Pl) : (ps.flatMap Pl.cells).length = ps.length * 5 := flat_length Pl.cells (fun _ => rfl) ps
theorem P_one (ps : List Pl) : ∀ u ∈ ps.flatMap Pl.cells, u.oneCell' = true := by
  intro u hu
  obtain ⟨m, _, hm⟩ := List.mem_flatMap.1 hu
  simp [Pl.cells] at hm
  rcases hm with rfl | rfl | rfl | rfl | rfl <;> rfl

theorem pl_at {w : World} {a : Option Addr} {n c : Nat} {ps : List Pl} (h : RowAt w a n c 5 (ps.flatMap Pl.cells)) (j : Nat) (hj : j < n) :
    ∃ b off p, a = some ⟨b, off, none⟩ ∧ ps[j]? = some p ∧ w.cell? ⟨b, off + j * 5, none⟩ = some (.int .i64 p.at') ∧ w.cell? ⟨b, off + j * 5 + 1, none⟩ = some (.int .i64 p.size) ∧
      w.cell? ⟨b, off + j * 5 + 2, none⟩ = some (.int .i64 p.kind) ∧ w.cell? ⟨b, off + j * 5 + 3, none⟩ = some (.int .i64 p.seq) ∧ w.cell? ⟨b, off + j * 5 + 4, none⟩ = some (.slice p.ba p.bn p.bc) := by
  have key : ∀ r, r < 5 → ∃ b off p, a = some ⟨b, off, none⟩ ∧ ps[j]? = some p ∧ ∃ u, p.cells[r]? = some u ∧ w.cell? ⟨b, off + j * 5 + r, none⟩ = some u := by
    intro r hr
    obtain ⟨b, off, u, ha, hu, hc⟩ := h.at (j * 5 + r) (by omega)
    obtain ⟨i, r', x, h1, h2, h3, h4⟩ := flat_get (k := 5) Pl.cells (fun _ => rfl) ps _ u hu
    obtain rfl : i = j := by omega
    obtain rfl : r' = r := by omega
    exact ⟨b, off, x, ha, h1, u, h4, by rw [Nat.add_assoc]; exact hc⟩
  obtain ⟨b, off, p, ha, hp, u0, k0, c0⟩ := key 0 (by decide)
  obtain ⟨b1, o1, p1, ha1, hp1, u1, k1, c1⟩ := key 1 (by decide)
  obtain ⟨b2, o2, p2, ha2, hp2, u2, k2, c2⟩ := key 2 (by decide)
  obtain ⟨b3, o3, p3, ha3, hp3, u3, k3, c3⟩ := key 3 (by decide)
  obtain ⟨b4, o4, p4, ha4, hp4, u4, k4, c4⟩ := key 4 (by decide)
  rw [ha] at ha1 ha2 ha3 ha4
  cases ha1; cases ha2; cases ha3; cases ha4
  rw [hp] at hp1 hp2 hp3 hp4
  cases hp1; cases hp2; cases hp3; cases hp4
  simp [Pl.cells] at k0 k1 k2 k3 k4
  subst k0 k1 k2 k3 k4
  exact ⟨b, off, p, ha, hp, c0, c1, c2, c3, c4⟩

/-- The marks of the first and every s-th behind it; i frames stand ahead. -/
def every (s : Nat) : Nat → List Pl → List Mk
  | _, [] => []
  | i, p :: r => if i % s = 0 then ⟨p.seq, p.at'⟩ :: every s (i + 1) r else every s (i + 1) r
def buildN (ps : List Pl) (stride : Int) : List Mk := if stride < 1 then [] else every stride.toNat 0 ps

theorem every_len (s : Nat) : ∀ (ps : List Pl) (i : Nat), (every s i ps).length ≤ ps.length
  | [], _ => by simp [every]
  | p :: r, i => by
    have := every_len s r (i + 1)
    rw [every]; split <;> simp <;> omega

theorem pdrop {ps : List Pl} {k : Nat} {m : Pl} (h : ps[k]? = some m) : ps.drop k = m :: ps.drop (k + 1) := by
  obtain ⟨hk, hm⟩ := List.getElem?_eq_some_iff.1 h
  rw [List.drop_eq_getElem_cons hk, hm]

theorem every_step {s k : Nat} {ps : List Pl} {p : Pl} {L D : List Mk} (hp : ps[k]? = some p) (h : L ++ every s k (ps.drop k) = D) :
    (if k % s = 0 then L ++ [⟨p.seq, p.at'⟩] else L) ++ every s (k + 1) (ps.drop (k + 1)) = D := by
  rw [pdrop hp, every] at h
  split
  · rename_i hk; rw [if_pos hk] at h; rw [← h]; simp
  · rename_i hk; rw [if_neg hk] at h; exact h

set_option maxHeartbeats 1000000 in
theorem build_any (a : Option Addr) (n c : Nat) (ps : List Pl) (stride : Int) (w : World) (hn : n * 16 ≤ 140737488355328) (r : RowAt w a n c 5 (ps.flatMap Pl.cells)) (h2 : stride ≤ 9223372036854775807) :
    Calls Tryd.prog 37 #[.slice a n c, .int .i64 stride] w (GivesM 67 w (buildN ps stride)) := by
  have hpl : ps.length = n := by have := r.1; rw [P_len] at this; omega
  have m1 := r.2.2.1
  have m2 := r.2.1
  unfold maxLen at m1
  by_cases hs : stride < 1
  · have HE : Hid (buildN ps stride = []) := Lib.hid (by unfold buildN; rw [if_pos hs])
    clear hpl
    go_enter Tryd.func37, Tryd.ntmps37
    go_wp2_with fail
    go_ret
    rw [HE.out]
    exact ⟨none, 0, rfl, World.ownsRow_nil _ _ _ _, Below.refl _ _⟩
  · obtain ⟨s, hs'⟩ : ∃ s : Nat, (s : Int) = stride := ⟨stride.toNat, by omega⟩
    subst hs'
    have HE : Hid (buildN ps (s : Int) = every s 0 ps) := Lib.hid (by unfold buildN; rw [if_neg hs, Int.toNat_natCast])
    have hs0 : 0 < s := by omega
    have HL := Lib.hid hpl
    have hel := every_len s ps 0
    rw [hpl] at hel
    clear hpl
    go_enter Tryd.func37, Tryd.ntmps37
    go_wp2_with fail
    go_loopw [5, 12] (fun mv iv wr => ∃ (k : Nat) (L : List Mk) (a : Option Addr) (cap : Nat), mv = .slice a L.length cap ∧ iv = .int .i64 (k : Int) ∧ k ≤ n ∧
      wr.ownsRow w.heap.size 67 2 (.slice a L.length cap) L.length (L.flatMap Mk.cells) ∧ Hid (L ++ every s k (ps.drop k) = every s 0 ps) ∧ Below w.heap.size w wr) (fun _ iv _ => n - (intOf iv).toNat)
    case atStart => exact ⟨0, [], none, 0, rfl, rfl, Nat.zero_le _, World.ownsRow_nil _ _ _ _, Lib.hid (by simp), Below.refl _ _⟩
    case round =>
      obtain ⟨k, L, a2, cap, rfl, rfl, hk, ho, HS, hb⟩ := hrel
      by_cases hlt : k < n
      · obtain ⟨b, off, p, rfl, hp, c0, c1, c2, c3, c4⟩ := pl_at (r.below hb) k hlt
        have HS2 := Lib.hid (every_step hp HS.out)
        have hLl : L.length ≤ n := by have := HS.out; rw [← this, List.length_append] at hel; omega
        clear hp
        have hsz := hb.size
        by_cases hz : k % s = 0
        · have hz' : (k : Int) % (s : Int) = 0 := by omega
          rw [if_pos hz] at HS2
          have hLl2 : L.length + 1 ≤ n := by have := HS2.out; rw [← this, List.length_append, List.length_append] at hel; simp only [List.length_cons, List.length_nil] at hel; omega
          have hoa := ho.alloc (.cells p.cells.toArray 55)
          have hba := below_next hb (below_made wr (.cells p.cells.toArray 55))
          have hsa := hba.size
          unfold Pl.cells at hoa hba hsa
          go_wp2_with (at_builtin; refine wpList_appL 1 rfl _ _ 25 rfl slM rfl hoa rfl (by simp) rfl (by decide) (two1 _ _ _) (by omega) hsa fun a3 c3 w3 hown3 hg3 => ?_)
          go_roundw
          case rel => exact ⟨k + 1, L ++ [⟨p.seq, p.at'⟩], a3, c3, by simp, by go_num, by omega, by rw [List.flatMap_append, List.length_append]; exact hown3, HS2, hba.grown hg3 hsa (own_block ho)⟩
          case measure => simp [intOf]; omega
        · have hz' : ((k : Int) % (s : Int) == 0) = false := by rw [beq_eq_false_iff_ne]; omega
          rw [if_neg hz] at HS2
          have hoa := ho.alloc (.cells p.cells.toArray 55)
          have hba := below_next hb (below_made wr (.cells p.cells.toArray 55))
          unfold Pl.cells at hoa hba
          go_wp2_with fail
          go_roundw
          case rel => exact ⟨k + 1, L, a2, cap, rfl, by go_num, by omega, hoa, HS2, hba⟩
          case measure => simp [intOf]; omega
      · obtain rfl : k = n := by omega
        have hlk : ¬ (k : Int) < (k : Int) := by omega
        have hD : L = every s 0 ps := by
          have := HS.out
          rw [List.drop_eq_nil_of_le (by have := HL.out; omega)] at this
          simpa [every] using this
        have HD := Lib.hid hD
        clear hD
        go_wp2_with fail
        go_ret
        rw [HE.out, ← HD.out]
        exact ⟨a2, cap, rfl, ho, hb⟩

/-- append as one step of a region that draws its order. -/
theorem step_app {P : Program} {ops : Array Oper} {o : Oper} {act : Act} {w : World} {K : Act → World → Prop} {Q : Exit → Act → World → Prop} {E : Prop} (hgd : o.guard = none) (s x : Operand) (t : TypeId)
    (ho : o.op = .call { callee := .builtin .append, args := #[s, x], argTypes := #[t, t] }) {e : TypeId} {size bytes : Nat} {z : Value} (hT : SlTy P t e size bytes z)
    {base : Nat} {a : Option Addr} {n cap : Nat} {xs : List Value} (hs : act.eval s = .slice a n cap) (hown : w.ownsRow base e size (.slice a n cap) n xs)
    {sa : Option Addr} {m sc : Nat} {news : List Value} (hx : act.eval x = .slice sa m sc) (hsrc : RowAt w sa m sc size news) (h1 : ∀ u ∈ news, u.oneCell' = true)
    (hbytes : (n + m) * bytes ≤ 140737488355328) (hbase : base ≤ w.heap.size)
    (h : ∀ a' cap' w', w'.ownsRow base e size (.slice a' (n + m) cap') (n + m) (xs ++ news) → w.grownBy w' (Value.slice a n cap).ownBlock → K (act.put o.dst (.slice a' (n + m) cap')) w') :
    if Region.wanted o (yielded ops act.tmps) = true then Oper.wp P o act w K Q else E := by
  have hw : Region.wanted o (yielded ops act.tmps) = true := by simp [Region.wanted, hgd]
  rw [if_pos hw]
  obtain ⟨a', cap', w', hr, h2, h3, _⟩ := run_app (P := P) (w := w) (t := t) (ty := o.type) hT hown hsrc h1 hbytes hbase
  unfold Oper.wp
  simp only [execOp, ho, resolve, invoke, builtin, Sem.run_bind, Sem.run_pure, Result.andThen_ok, List.map_toArray, List.map_cons, List.map_nil, hs, hx, hr]
  exact h a' cap' w' h2 h3

theorem far_cell {w w' : World} {v : Value} {b o : Nat} {x : Value} (hg : w.grownBy w' v.ownBlock) (hc : w.cell? ⟨b, o, none⟩ = some x) (hne : ∀ k, v.ownBlock = some k → b < k) : w'.cell? ⟨b, o, none⟩ = some x := by
  have hlt := World.block_lt_of_cell? w _ hc
  rw [World.cell?_of_block (hg.block b hlt fun e => Nat.lt_irrefl _ (hne b e.symm))]
  exact hc

theorem wait_zero {s k : Nat} (hs : 0 < s) (h : k % s = 0) : ((s - (k + 1) % s) % s : Nat) + 1 = s := by
  by_cases h1 : s = 1
  · subst h1; simp [Nat.mod_one]
  · have : (k + 1) % s = 1 := by rw [Nat.add_mod, h, Nat.zero_add, Nat.mod_mod, Nat.mod_eq_of_lt (by omega)]
    rw [this, Nat.mod_eq_of_lt (by omega)]; omega
theorem wait_next {s k : Nat} (hs : 0 < s) (h : k % s ≠ 0) : ((s - (k + 1) % s) % s : Nat) + 1 = (s - k % s) % s ∧ 0 < (s - k % s) % s := by
  have hlt := Nat.mod_lt k hs
  have e : (s - k % s) % s = s - k % s := Nat.mod_eq_of_lt (by omega)
  rw [e]
  by_cases h1 : k % s + 1 = s
  · have : (k + 1) % s = 0 := by rw [← Nat.mod_add_mod, h1, Nat.mod_self]
    rw [this, Nat.sub_zero, Nat.mod_self]; omega
  · have : (k + 1) % s = k % s + 1 := by rw [← Nat.mod_add_mod, Nat.mod_eq_of_lt (by omega)]
    rw [this, Nat.mod_eq_of_lt (by omega)]; omega

set_option maxHeartbeats 1000000 in
theorem rbuild_any (a : Option Addr) (n c : Nat) (ps : List Pl) (stride : Int) (w : World) (hn : n * 16 ≤ 140737488355328) (r : RowAt w a n c 5 (ps.flatMap Pl.cells)) (h2 : stride ≤ 9223372036854775807) :
    Calls Tryd.prog 31 #[.slice a n c, .int .i64 stride] w (GivesM 67 w (buildN ps stride)) := by
  have hpl : ps.length = n := by have := r.1; rw [P_len] at this; omega
  have m1 := r.2.2.1
  have m2 := r.2.1
  unfold maxLen at m1
  have ho0 := own_lit w [] 0 2 67 rfl (by decide)
  have hb0 := below_made w (.cells [].toArray 67)
  by_cases hs : stride < 1
  · have HE : Hid (buildN ps stride = []) := Lib.hid (by unfold buildN; rw [if_pos hs])
    clear hpl
    go_enter Tryd.func31, Tryd.ntmps31
    go_wp2_with fail
    go_loopw [5, 6, 11] (fun mv wv iv wr => ∃ (k : Nat) (x : Int), mv = .slice (some ⟨w.heap.size, 0, none⟩) 0 0 ∧ wv = .int .i64 x ∧ iv = .int .i64 (k : Int) ∧ k ≤ n ∧ -(k : Int) ≤ x ∧ x ≤ 0 ∧ wr = w.alloc (.cells #[] 67)) (fun _ _ iv _ => n - (intOf iv).toNat)
    case atStart => exact ⟨0, 0, rfl, rfl, rfl, Nat.zero_le _, by omega, by omega, rfl⟩
    case round =>
      obtain ⟨k, x, rfl, rfl, rfl, hk, hx0, hx1, rfl⟩ := hrel
      have hge : decide (1 ≤ stride) = false := by simp; omega
      by_cases hlt : k < n
      · go_wp2_with fail
        go_roundw
        case rel => exact ⟨k + 1, x - 1, rfl, rfl, by go_num, by omega, by omega, by omega, trivial⟩
        case measure => simp [intOf]; omega
      · obtain rfl : k = n := by omega
        have hlk : ¬ (k : Int) < (k : Int) := by omega
        go_wp2_with fail
        go_ret
        rw [HE.out]
        exact ⟨_, 0, rfl, ho0, hb0⟩
  · obtain ⟨s, hs'⟩ : ∃ s : Nat, (s : Int) = stride := ⟨stride.toNat, by omega⟩
    subst hs'
    have HE : Hid (buildN ps (s : Int) = every s 0 ps) := Lib.hid (by unfold buildN; rw [if_neg hs, Int.toNat_natCast])
    have hs0 : 0 < s := by omega
    have HL := Lib.hid hpl
    have hel := every_len s ps 0
    rw [hpl] at hel
    clear hpl
    go_enter Tryd.func31, Tryd.ntmps31
    go_wp2_with fail
    go_loopw [5, 6, 11] (fun mv wv iv wr => ∃ (k x : Nat) (L : List Mk) (a : Option Addr) (cap : Nat), mv = .slice a L.length cap ∧ wv = .int .i64 (x : Int) ∧ iv = .int .i64 (k : Int) ∧ k ≤ n ∧ Hid (x = (s - k % s) % s) ∧
      wr.ownsRow w.heap.size 67 2 (.slice a L.length cap) L.length (L.flatMap Mk.cells) ∧ Hid (L ++ every s k (ps.drop k) = every s 0 ps) ∧ Below w.heap.size w wr) (fun _ _ iv _ => n - (intOf iv).toNat)
    case atStart => exact ⟨0, 0, [], _, 0, rfl, rfl, rfl, Nat.zero_le _, Lib.hid (by simp), ho0, Lib.hid (by simp), hb0⟩
    case round =>
      clear ho0 hb0
      obtain ⟨k, x, L, a2, cap, rfl, rfl, rfl, hk, HX, ho, HS, hb⟩ := hrel
      have hge : decide (1 ≤ (s : Int)) = true := by simp; omega
      have hge2 : (1 : Int) ≤ (s : Int) := by omega
      have hxs : x < s := by rw [HX.out]; exact Nat.mod_lt _ hs0
      by_cases hlt : k < n
      · obtain ⟨b, off, p, rfl, hp, c0, c1, c2, c3, c4⟩ := pl_at (r.below hb) k hlt
        have HS2 := Lib.hid (every_step hp HS.out)
        have hLl : L.length ≤ n := by have := HS.out; rw [← this, List.length_append] at hel; omega
        clear hp
        have hsz := hb.size
        have hlt' : (k : Int) < (n : Int) := by omega
        by_cases hz : k % s = 0
        · have hx : x = 0 := by rw [HX.out, hz, Nat.sub_zero, Nat.mod_self]
          have hw := wait_zero hs0 hz
          rw [if_pos hz] at HS2
          have hLl2 : L.length + 1 ≤ n := by have := HS2.out; rw [← this, List.length_append, List.length_append] at hel; simp only [List.length_cons, List.length_nil] at hel; omega
          obtain ⟨y, hy⟩ : ∃ y, (s - (k + 1) % s) % s = y := ⟨_, rfl⟩
          rw [hy] at hw
          have HY := Lib.hid hy
          have HW := Lib.hid hw
          subst hx
          clear hy hw hz
          go_wp2_with fail
          have hbl : b < w.heap.size := by
            obtain ⟨b', off', p', hba', _, z0, _⟩ := pl_at r k hlt
            cases hba'
            exact World.block_lt_of_cell? w _ z0
          have hfar : ∀ j, (Value.slice a2 L.length cap).ownBlock = some j → b < j := fun j hj => Nat.lt_of_lt_of_le hbl (ho.lt j hj).1
          have hod := own_still (ho.alloc (.cells #[.int .i64 p.seq, .int .i64 p.at'] 67)) (Still.one _ 1)
          have hsrc := (rowAt_lit wr [.int .i64 p.seq, .int .i64 p.at'] 1 2 67 rfl (by decide)).still (Still.one _ 1)
          have hsd : w.heap.size ≤ ((wr.alloc (.cells #[.int .i64 p.seq, .int .i64 p.at'] 67)).drewN 1).heap.size := by show _ ≤ (wr.alloc _).heap.size; simp; omega
          have i0 : (0 : Int) ≤ (k : Int) := by omega
          go_region_held3 (fun w' => w'.cell? ⟨b, off + k * 5, none⟩ = some (.int .i64 p.at') ∧ w'.cell? ⟨b, off + k * 5 + 3, none⟩ = some (.int .i64 p.seq))
            (first
              | go_keep
              | (go_split_ands
                 exact ⟨far_cell hg3 (by assumption) hfar, far_cell hg3 (by assumption) hfar⟩))
            ((refine step_app rfl _ _ 25 (by rfl) slM (by rfl) hod (by rfl) hsrc (two1 _ _ _) (by omega) hsd ?_; intro a3 c3 w3 hown3 hg3))
          have hb3 := ((below_next hb (below_made wr (.cells #[.int .i64 p.seq, .int .i64 p.at'] 67))).trans ((Still.one _ 1).below _)).grown hg3 hsd (own_block ho)
          go_wp2_with fail
          go_roundw
          case rel => exact ⟨k + 1, y, L ++ [⟨p.seq, p.at'⟩], a3, c3, by simp, vint (by have := HW.out; omega), by go_num, by omega, Lib.hid HY.out.symm, by rw [List.flatMap_append, List.length_append]; exact hown3, HS2, hb3⟩
          case measure => simp [intOf]; omega
        · obtain ⟨hw, hw2⟩ := wait_next hs0 hz
          rw [if_neg hz] at HS2
          obtain ⟨y, hy⟩ : ∃ y, (s - (k + 1) % s) % s = y := ⟨_, rfl⟩
          have hxx := HX.out
          rw [hy, ← hxx] at hw
          rw [← hxx] at hw2
          have HY := Lib.hid hy
          have HW := Lib.hid hw
          have hx0 : ((x : Int) == 0) = false := by rw [beq_eq_false_iff_ne]; omega
          clear hy hw hz hxx
          go_wp2_with fail
          go_roundw
          case rel => exact ⟨k + 1, y, L, a2, cap, rfl, vint (by have := HW.out; omega), by go_num, by omega, Lib.hid HY.out.symm, ho, HS2, hb⟩
          case measure => simp [intOf]; omega
      · obtain rfl : k = n := by omega
        have hlk : ¬ (k : Int) < (k : Int) := by omega
        have hD : L = every s 0 ps := by
          have := HS.out
          rw [List.drop_eq_nil_of_le (by have := HL.out; omega)] at this
          simpa [every] using this
        have HD := Lib.hid hD
        clear hD
        go_wp2_with fail
        go_ret
        rw [HE.out, ← HD.out]
        exact ⟨a2, cap, rfl, ho, hb⟩
end Go.Proofs.YtffhejaeliphcaaDoor

namespace Go.Proofs.YtffhejaeliphcaaDoor
open Go.RowKit
set_option linter.unusedVariables false

/-- Frames of rising numbers from 'first' on, laid behind one another up to T. -/
structure Run (L : List Pl) (first T : Int) : Prop where
  num : ∀ (i : Nat) p, L[i]? = some p → p.seq = first + (i : Int) ∧ 0 ≤ p.at' ∧ p.at' < T
  up : L.Pairwise (fun p q => p.seq < q.seq ∧ p.at' < q.at')

theorem Run.nil (first : Int) : Run [] first 0 := ⟨fun i p h => by simp at h, List.Pairwise.nil⟩

theorem Run.snoc {L : List Pl} {first T : Int} (R : Run L first T) (p : Pl) (hs : p.seq = first + (L.length : Int)) (ha : p.at' = T) (hT : 0 ≤ T) {T' : Int} (hT' : T < T') : Run (L ++ [p]) first T' := by
  refine ⟨fun i q h => ?_, ?_⟩
  · by_cases hi : i < L.length
    · rw [List.getElem?_append_left hi] at h
      have := R.num i q h; omega
    · rw [List.getElem?_append_right (by omega)] at h
      have h0 : i - L.length = 0 := by
        by_cases h0 : i - L.length = 0
        · exact h0
        · rw [List.getElem?_eq_none (by simp; omega)] at h; cases h
      rw [h0] at h
      simp at h
      subst h
      have : i = L.length := by
        have := hi; omega
      subst this
      exact ⟨hs, by omega, by omega⟩
  · rw [List.pairwise_append]
    refine ⟨R.up, by simp, fun x hx y hy => ?_⟩
    simp at hy
    subst hy
    obtain ⟨i, hi, rfl⟩ := List.getElem_of_mem hx
    have := R.num i _ (List.getElem?_eq_getElem hi)
    omega

theorem every_mem {s : Nat} : ∀ (ps : List Pl) (i : Nat) (m : Mk), m ∈ every s i ps → ∃ (j : Nat) (p : Pl), ps[j]? = some p ∧ (i + j) % s = 0 ∧ m = ⟨p.seq, p.at'⟩
  | [], i, m, h => by simp [every] at h
  | p :: r, i, m, h => by
    rw [every] at h
    have step : m ∈ every s (i + 1) r → ∃ (j : Nat) (q : Pl), (p :: r)[j]? = some q ∧ (i + j) % s = 0 ∧ m = ⟨q.seq, q.at'⟩ := fun h => by
      obtain ⟨j, q, h1, h2, h3⟩ := every_mem r (i + 1) m h
      exact ⟨j + 1, q, by simpa using h1, by rw [← h2]; congr 1; omega, h3⟩
    split at h
    · rename_i hz
      rcases List.mem_cons.1 h with rfl | h
      · exact ⟨0, p, rfl, by simpa using hz, rfl⟩
      · exact step h
    · exact step h

theorem every_at {s : Nat} : ∀ (ps : List Pl) (i j : Nat) (p : Pl), ps[j]? = some p → (i + j) % s = 0 → (⟨p.seq, p.at'⟩ : Mk) ∈ every s i ps
  | [], i, j, p, h, _ => by simp at h
  | q :: r, i, 0, p, h, hz => by
    simp at h
    subst h
    rw [every, if_pos (by simpa using hz)]
    exact List.mem_cons_self
  | q :: r, i, j + 1, p, h, hz => by
    have := every_at r (i + 1) j p (by simpa using h) (by rw [← hz]; congr 1; omega)
    rw [every]
    split
    · exact List.mem_cons_of_mem _ this
    · exact this

theorem every_up {s : Nat} : ∀ (ps : List Pl) (i : Nat), ps.Pairwise (fun p q => p.seq < q.seq ∧ p.at' < q.at') → (every s i ps).Pairwise (fun x y => x.s < y.s ∧ x.a < y.a)
  | [], i, _ => by simp [every]
  | p :: r, i, h => by
    rw [List.pairwise_cons] at h
    have ih := every_up (s := s) r (i + 1) h.2
    rw [every]
    split
    · rw [List.pairwise_cons]
      refine ⟨fun m hm => ?_, ih⟩
      obtain ⟨j, q, h1, _, rfl⟩ := every_mem r (i + 1) m hm
      exact h.1 q (List.mem_of_getElem? h1)
    · exact ih

theorem near_ok {L : List Pl} {first T : Int} {s : Nat} (R : Run L first T) (hf : 1 ≤ first) (hf2 : first ≤ 549755813888) (hn : L.length ≤ 512) (hT : T ≤ 1000000) : okN (every s 0 L) = true := by
  rw [okN_iff]
  have hl := every_len s L 0
  refine ⟨by omega, fun m hm => ?_, every_up L 0 R.up⟩
  obtain ⟨j, p, h1, _, rfl⟩ := every_mem L 0 m hm
  have h2 := R.num j p h1
  have hj := (List.getElem?_eq_some_iff.1 h1).1
  show 0 < p.seq ∧ -1 < p.at' ∧ p.seq ≤ 1099511627776 ∧ p.at' ≤ 1099511627776
  omega

theorem near_early {L : List Pl} {first T : Int} {s n l : Nat} (R : Run L first T) (h : LastIs (every s 0 L) (first - 1) n l) (hn : (every s 0 L).length = n) : l = 0 := by
  obtain ⟨h1, h2, h3⟩ := h
  by_cases hl : l = 0
  · exact hl
  · have e1 : (every s 0 L)[l - 1]? = some ((every s 0 L)[l - 1]'(by omega)) := List.getElem?_eq_getElem (by omega)
    have := h3 _ (by omega) e1
    obtain ⟨j, p, h4, _, h5⟩ := every_mem L 0 _ (List.mem_of_getElem? e1)
    have h6 := (R.num j p h4).1
    rw [h5] at this
    simp only at this
    omega

theorem near_found {L : List Pl} {first T : Int} {s n l which : Nat} (R : Run L first T) (hs : 0 < s) (hw : which < L.length) (h : LastIs (every s 0 L) (first + (which : Int)) n l) (hn : (every s 0 L).length = n) :
    ∃ (k : Nat) (p : Pl), 0 < l ∧ (every s 0 L)[l - 1]? = some ⟨first + (k : Int), p.at'⟩ ∧ L[k]? = some p ∧ k ≤ which ∧ which - k < s := by
  obtain ⟨h1, h2, h3⟩ := h
  have hup := every_up (s := s) L 0 R.up
  have hz : (0 + (which - which % s)) % s = 0 := by
    rw [Nat.zero_add]
    have := Nat.div_add_mod which s
    rw [show which - which % s = s * (which / s) by omega]
    exact Nat.mul_mod_right _ _
  have hlt := Nat.mod_lt which hs
  have hle := Nat.mod_le which s
  have ep : L[which - which % s]? = some (L[which - which % s]'(by omega)) := List.getElem?_eq_getElem (by omega)
  have hm := every_at L 0 _ _ ep hz
  obtain ⟨i, hi, hi2⟩ := List.getElem_of_mem hm
  have ei : (every s 0 L)[i]? = some (every s 0 L)[i] := List.getElem?_eq_getElem hi
  rw [hi2] at ei
  have hq := (R.num _ _ ep).1
  have hil : i < l := by
    by_cases hil : i < l
    · exact hil
    · exfalso
      have el : (every s 0 L)[l]? = some ((every s 0 L)[l]'(by omega)) := List.getElem?_eq_getElem (by omega)
      have hx := h2 _ el
      by_cases he : l = i
      · subst he
        rw [el] at ei
        injection ei with ei
        rw [ei] at hx
        simp only at hx
        omega
      · have := (pair_at hup (by omega) el ei).1
        simp only at this
        omega
  have e1 : (every s 0 L)[l - 1]? = some ((every s 0 L)[l - 1]'(by omega)) := List.getElem?_eq_getElem (by omega)
  have hx := h3 _ (by omega) e1
  obtain ⟨k, p, h4, _, h5⟩ := every_mem L 0 _ (List.mem_of_getElem? e1)
  have hk := (R.num k p h4).1
  rw [h5] at hx e1
  simp only at hx
  rw [hk] at e1
  have hge : which - which % s ≤ k := by
    by_cases he : i = l - 1
    · subst he
      rw [e1] at ei
      injection ei with ei
      have := congrArg Mk.s ei
      simp only at this
      omega
    · have := (pair_at hup (by omega) ei e1).1
      simp only at this
      omega
  exact ⟨k, p, by omega, e1, h4, by omega, by omega⟩
end Go.Proofs.YtffhejaeliphcaaDoor
