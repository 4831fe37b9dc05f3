/-
  The walk of the reference's Same of two frames. No condition.
  The walk of the reference's Same of two rows of frames with their places. Condition: both read as such rows, each body as bytes.
-/
import Derived.Test.YtffhejaeliphcaaDoorMFd
import Derived.Test.YtffhejaeliphcaaDoorMPapp
import Derived.Test.YtffhejaeliphcaaDoorMLl
import Derived.Deep.RegionWith
import Derived.Deep.RegionHeld3
namespace Go.Proofs.YtffhejaeliphcaaDoor
open Go.RowKit
set_option linter.unusedVariables false

/-- Whether two frames are alike. -/
def frEq (k1 s1 : Int) (l1 : List UInt8) (k2 s2 : Int) (l2 : List UInt8) : Bool := decide (k1 = k2) && decide (s1 = s2) && (l1 == l2)
theorem frEq_refl (k s : Int) (l : List UInt8) : frEq k s l k s l = true := by simp [frEq]

set_option maxHeartbeats 800000 in
theorem fsame_any (k1 s1 : Int) (a1 : Option Addr) (n1 c1 : Nat) (l1 : List UInt8) (k2 s2 : Int) (a2 : Option Addr) (n2 c2 : Nat) (l2 : List UInt8) (w : World) (r1 : RowAt w a1 n1 c1 1 (l1.map B)) (r2 : RowAt w a2 n2 c2 1 (l2.map B)) :
    Calls Tryd.prog 38 #[.agg #[.int .i64 k1, .int .i64 s1, .slice a1 n1 c1], .agg #[.int .i64 k2, .int .i64 s2, .slice a2 n2 c2]] w fun e w' => e = .returned (.bool (frEq k1 s1 l1 k2 s2 l2)) ∧ Below w.heap.size w w' := by
  have hb := below_next (below_made w (.cells #[.int .i64 k1, .int .i64 s1, .slice a1 n1 c1] 53)) (below_made _ (.cells #[.int .i64 k2, .int .i64 s2, .slice a2 n2 c2] 53))
  have q1 := r1.below hb
  have q2 := r2.below hb
  by_cases hk : k1 = k2
  · by_cases hs : s1 = s2
    · have HR : Hid (frEq k1 s1 l1 k2 s2 l2 = (l1 == l2)) := Lib.hid (by unfold frEq; rw [decide_eq_true hk, decide_eq_true hs]; rfl)
      subst hk hs
      go_enter Tryd.func38, Tryd.ntmps38
      go_wp2_with fail
      (with_reducible refine (same_any _ _ _ l1 _ _ _ l2 _ q1 q2).mono ?_)
      rintro e w3 ⟨rfl, hst⟩
      go_wp2_with fail
      go_ret
      rw [HR.out]
      exact ⟨rfl, below_still hb hst⟩
    · have hb2 : (s1 == s2) = false := by simpa using hs
      have HR : Hid (frEq k1 s1 l1 k2 s2 l2 = false) := Lib.hid (by unfold frEq; rw [decide_eq_false hs]; simp)
      subst hk
      clear hs
      go_enter Tryd.func38, Tryd.ntmps38
      go_wp2_with fail
      go_ret
      rw [HR.out]
      exact ⟨rfl, hb⟩
  · have hb2 : (k1 == k2) = false := by simpa using hk
    have HR : Hid (frEq k1 s1 l1 k2 s2 l2 = false) := Lib.hid (by unfold frEq; rw [decide_eq_false hk]; simp)
    clear hk
    go_enter Tryd.func38, Tryd.ntmps38
    go_wp2_with fail
    go_ret
    rw [HR.out]
    exact ⟨rfl, hb⟩
end Go.Proofs.YtffhejaeliphcaaDoor

namespace Go.Proofs.YtffhejaeliphcaaDoor
open Go.RowKit
set_option linter.unusedVariables false

/-- These frames read from a slice. -/
def PlsRd (a : Option Addr) (n c : Nat) (xs : List It) (W : World) : Prop := RowAt W a n c 5 (xs.flatMap It.cells) ∧ ∀ x ∈ xs, RowAt W x.a x.q.f.body.length x.c 1 (x.q.f.body.map B)
theorem PlsAt.rd {lo : Nat} {a : Option Addr} {n c : Nat} {xs : List It} {W : World} (h : PlsAt lo (.slice a n c) xs W) (hn : xs.length = n) : PlsRd a n c xs W := by
  subst hn
  exact ⟨own_rowAt h.1, fun x hx => own_rowAt (h.2 x hx)⟩
theorem PlsRd.below {a : Option Addr} {n c : Nat} {xs : List It} {W W' : World} (h : PlsRd a n c xs W) (hb : Below W.heap.size W W') : PlsRd a n c xs W' := ⟨h.1.below hb, fun x hx => (h.2 x hx).below hb⟩
theorem PlsRd.len {a : Option Addr} {n c : Nat} {xs : List It} {W : World} (h : PlsRd a n c xs W) : xs.length = n := by
  have e := h.1.1
  rw [flat_length It.cells (k := 5) (fun _ => rfl) xs] at e
  omega
theorem PlsRd.at {a : Option Addr} {n c : Nat} {xs : List It} {W : World} (h : PlsRd a n c xs W) (j : Nat) (hj : j < n) :
    ∃ b off x, a = some ⟨b, off, none⟩ ∧ xs[j]? = some x ∧ W.cell? ⟨b, off + j * 5, none⟩ = some (.int .i64 (x.q.at' : Int)) ∧ W.cell? ⟨b, off + j * 5 + 1, none⟩ = some (.int .i64 (x.q.size : Int)) ∧
      W.cell? ⟨b, off + j * 5 + 2, none⟩ = some (.int .i64 (x.q.f.kind : Int)) ∧ W.cell? ⟨b, off + j * 5 + 3, none⟩ = some (.int .i64 (x.q.f.seq : Int)) ∧ W.cell? ⟨b, off + j * 5 + 4, none⟩ = some (.slice x.a x.q.f.body.length x.c) ∧
      RowAt W x.a x.q.f.body.length x.c 1 (x.q.f.body.map B) := by
  have key : ∀ r, r < 5 → ∃ b off x, a = some ⟨b, off, none⟩ ∧ xs[j]? = some x ∧ ∃ u, x.cells[r]? = some u ∧ W.cell? ⟨b, off + j * 5 + r, none⟩ = some u := by
    intro r hr
    obtain ⟨b, off, u, ha, hu, hc⟩ := h.1.at (j * 5 + r) (by omega)
    obtain ⟨i, r', x, h1, h2, h3, h4⟩ := flat_get (k := 5) It.cells (fun _ => rfl) xs _ u hu
    obtain rfl : i = j := by omega
    obtain rfl : r' = r := by omega
    exact ⟨b, off, x, ha, h1, u, h4, by rw [Nat.add_assoc]; exact hc⟩
  obtain ⟨b, off, x, ha, hx, u0, e0, d0⟩ := key 0 (by decide)
  have get : ∀ r, r < 5 → ∃ u, x.cells[r]? = some u ∧ W.cell? ⟨b, off + j * 5 + r, none⟩ = some u := by
    intro r hr
    obtain ⟨b', off', x', ha', hx', u, e, d⟩ := key r hr
    rw [ha] at ha'; cases ha'
    rw [hx] at hx'; cases hx'
    exact ⟨u, e, d⟩
  obtain ⟨u1, e1, d1⟩ := get 1 (by decide)
  obtain ⟨u2, e2, d2⟩ := get 2 (by decide)
  obtain ⟨u3, e3, d3⟩ := get 3 (by decide)
  obtain ⟨u4, e4, d4⟩ := get 4 (by decide)
  simp [It.cells] at e0 e1 e2 e3 e4
  subst e0 e1 e2 e3 e4
  exact ⟨b, off, x, ha, hx, d0, d1, d2, d3, d4, h.2 x (List.mem_of_getElem? hx)⟩

theorem map_step {xs ys : List It} {k : Nat} {x y : It} (hx : xs[k]? = some x) (hy : ys[k]? = some y) (h : (xs.take k).map It.q = (ys.take k).map It.q) (hq : x.q = y.q) : (xs.take (k + 1)).map It.q = (ys.take (k + 1)).map It.q := by
  rw [List.take_add_one, List.take_add_one, hx, hy, List.map_append, List.map_append, h]
  simp [hq]
theorem map_ne {xs ys : List It} {k : Nat} {x y : It} (hx : xs[k]? = some x) (hy : ys[k]? = some y) (hq : x.q ≠ y.q) : (xs.map It.q == ys.map It.q) = false := by
  rw [beq_eq_false_iff_ne]
  intro h
  have h1 : (xs.map It.q)[k]? = (ys.map It.q)[k]? := by rw [h]
  rw [List.getElem?_map, List.getElem?_map, hx, hy] at h1
  exact hq (Option.some.inj h1)

theorem below_drewN {B q : Nat} {w w' : World} (hb : Below B w w') : Below B w (w'.drewN q) := hb.trans ⟨rfl, rfl, rfl, Nat.le_refl _, fun _ _ => rfl⟩
theorem pc_ext {x y : Pc} (h0 : x.at' = y.at') (h1 : x.size = y.size) (h : frEq (x.f.kind : Int) (x.f.seq : Int) x.f.body (y.f.kind : Int) (y.f.seq : Int) y.f.body = true) : x = y := by
  obtain ⟨a, b, ⟨c, d, e⟩⟩ := x
  obtain ⟨a', b', ⟨c', d', e'⟩⟩ := y
  simp [frEq] at h h0 h1
  obtain ⟨⟨h2, h3⟩, h4⟩ := h
  obtain rfl : c = c' := by omega
  obtain rfl : d = d' := by omega
  subst h0 h1 h4
  rfl

theorem below_cell {w w' : World} {b o : Nat} {x : Value} (hg : Below w.heap.size w w') (hc : w.cell? ⟨b, o, none⟩ = some x) : w'.cell? ⟨b, o, none⟩ = some x := (World.cell?_of_block (hg.block _ (World.block_lt_of_cell? w _ hc))).trans hc

set_option maxRecDepth 8000 in
set_option maxHeartbeats 6400000 in
theorem psame_any (a1 : Option Addr) (n1 c1 : Nat) (xs : List It) (a2 : Option Addr) (n2 c2 : Nat) (ys : List It) (w : World) (r1 : PlsRd a1 n1 c1 xs w) (r2 : PlsRd a2 n2 c2 ys w) :
    Calls Tryd.prog 14 #[.slice a1 n1 c1, .slice a2 n2 c2] w fun e w' => e = .returned (.bool (xs.map It.q == ys.map It.q)) ∧ Below w.heap.size w w' := by
  have hl1 := r1.len
  have hl2 := r2.len
  have m1 := r1.1.2.2.1
  have m2 := r1.1.2.1
  unfold maxLen at m1
  by_cases hn : n1 = n2
  · subst hn
    have HL1 := Lib.hid hl1
    have HL2 := Lib.hid hl2
    clear hl1 hl2
    go_enter Tryd.func14, Tryd.ntmps14
    go_wp2_with fail
    go_loopw [13] (fun iv wr => ∃ k : Nat, iv = .int .i64 (k : Int) ∧ k ≤ n1 ∧ Hid ((xs.take k).map It.q = (ys.take k).map It.q) ∧ Below w.heap.size w wr) (fun iv _ => n1 - (intOf iv).toNat)
    case atStart => exact ⟨0, rfl, Nat.zero_le _, Lib.hid rfl, Below.refl _ _⟩
    case round =>
      obtain ⟨k, rfl, hk, HK, hb⟩ := hrel
      by_cases hlt : k < n1
      · obtain ⟨b, off, x, rfl, hx, p0, p1, p2, p3, p4, px⟩ := (r1.below hb).at k hlt
        obtain ⟨b', off', y, rfl, hy, q0, q1, q2, q3, q4, qy⟩ := (r2.below hb).at k hlt
        have HX := Lib.hid hx
        have HY := Lib.hid hy
        clear hx hy
        by_cases h0 : x.q.at' = y.q.at'
        · by_cases h1 : x.q.size = y.q.size
          · have e0 : ((x.q.at' : Int) != (y.q.at' : Int)) = false := by rw [bne_eq_false_iff_eq]; omega
            have e1 : ((x.q.size : Int) != (y.q.size : Int)) = false := by rw [bne_eq_false_iff_eq]; omega
            obtain ⟨bb, hbb⟩ : ∃ bb, frEq (x.q.f.kind : Int) (x.q.f.seq : Int) x.q.f.body (y.q.f.kind : Int) (y.q.f.seq : Int) y.q.f.body = bb := ⟨_, rfl⟩
            have hf := fun wx rx ry => fsame_any (x.q.f.kind : Int) (x.q.f.seq : Int) x.a x.q.f.body.length x.c x.q.f.body (y.q.f.kind : Int) (y.q.f.seq : Int) y.a y.q.f.body.length y.c y.q.f.body wx rx ry
            rw [hbb] at hf
            have HF := Lib.hid hf
            cases bb with
            | true =>
              have HN := Lib.hid (map_step HX.out HY.out HK.out (pc_ext h0 h1 hbb))
              clear h0 h1 hbb hf
              go_wp2_with fail
              go_region_held3 (fun w' => w'.cell? ⟨b, off + k * 5, none⟩ = some (.int .i64 (x.q.at' : Int)) ∧ w'.cell? ⟨b, off + k * 5 + 1, none⟩ = some (.int .i64 (x.q.size : Int)) ∧ w'.cell? ⟨b, off + k * 5 + 2, none⟩ = some (.int .i64 (x.q.f.kind : Int)) ∧ w'.cell? ⟨b, off + k * 5 + 3, none⟩ = some (.int .i64 (x.q.f.seq : Int)) ∧ w'.cell? ⟨b, off + k * 5 + 4, none⟩ = some (.slice x.a x.q.f.body.length x.c) ∧ w'.cell? ⟨b', off' + k * 5, none⟩ = some (.int .i64 (y.q.at' : Int)) ∧ w'.cell? ⟨b', off' + k * 5 + 1, none⟩ = some (.int .i64 (y.q.size : Int)) ∧ w'.cell? ⟨b', off' + k * 5 + 2, none⟩ = some (.int .i64 (y.q.f.kind : Int)) ∧ w'.cell? ⟨b', off' + k * 5 + 3, none⟩ = some (.int .i64 (y.q.f.seq : Int)) ∧ w'.cell? ⟨b', off' + k * 5 + 4, none⟩ = some (.slice y.a y.q.f.body.length y.c))
                (first
                  | go_keep
                  | (go_split_ands
                     exact ⟨below_cell hb5 (by assumption), below_cell hb5 (by assumption), below_cell hb5 (by assumption), below_cell hb5 (by assumption), below_cell hb5 (by assumption), below_cell hb5 (by assumption), below_cell hb5 (by assumption), below_cell hb5 (by assumption), below_cell hb5 (by assumption), below_cell hb5 (by assumption)⟩))
                (first | (go_at_call 38; refine (HF.out _ (by exact px) (by exact qy)).mono ?_; rintro e w5 ⟨rfl, hb5⟩))
              go_wp2_with fail
              go_roundw
              case rel => exact ⟨k + 1, by go_num, by omega, HN, by first | exact below_next hb.drew hb5 | exact (hb.drew).trans (hb5.mono hb.size)⟩
              case measure => simp [intOf]; omega
            | false =>
              have HN := Lib.hid (map_ne HX.out HY.out (fun e => by rw [e, frEq_refl] at hbb; cases hbb))
              clear h0 h1 hbb hf
              go_wp2_with fail
              go_region_held3 (fun w' => w'.cell? ⟨b, off + k * 5, none⟩ = some (.int .i64 (x.q.at' : Int)) ∧ w'.cell? ⟨b, off + k * 5 + 1, none⟩ = some (.int .i64 (x.q.size : Int)) ∧ w'.cell? ⟨b, off + k * 5 + 2, none⟩ = some (.int .i64 (x.q.f.kind : Int)) ∧ w'.cell? ⟨b, off + k * 5 + 3, none⟩ = some (.int .i64 (x.q.f.seq : Int)) ∧ w'.cell? ⟨b, off + k * 5 + 4, none⟩ = some (.slice x.a x.q.f.body.length x.c) ∧ w'.cell? ⟨b', off' + k * 5, none⟩ = some (.int .i64 (y.q.at' : Int)) ∧ w'.cell? ⟨b', off' + k * 5 + 1, none⟩ = some (.int .i64 (y.q.size : Int)) ∧ w'.cell? ⟨b', off' + k * 5 + 2, none⟩ = some (.int .i64 (y.q.f.kind : Int)) ∧ w'.cell? ⟨b', off' + k * 5 + 3, none⟩ = some (.int .i64 (y.q.f.seq : Int)) ∧ w'.cell? ⟨b', off' + k * 5 + 4, none⟩ = some (.slice y.a y.q.f.body.length y.c))
                (first
                  | go_keep
                  | (go_split_ands
                     exact ⟨below_cell hb5 (by assumption), below_cell hb5 (by assumption), below_cell hb5 (by assumption), below_cell hb5 (by assumption), below_cell hb5 (by assumption), below_cell hb5 (by assumption), below_cell hb5 (by assumption), below_cell hb5 (by assumption), below_cell hb5 (by assumption), below_cell hb5 (by assumption)⟩))
                (first | (go_at_call 38; refine (HF.out _ (by exact px) (by exact qy)).mono ?_; rintro e w5 ⟨rfl, hb5⟩))
              go_wp2_with fail
              go_ret
              rw [HN.out]
              exact ⟨rfl, by first | exact below_next hb.drew hb5 | exact (hb.drew).trans (hb5.mono hb.size)⟩
          · have e0 : ((x.q.at' : Int) != (y.q.at' : Int)) = false := by rw [bne_eq_false_iff_eq]; omega
            have e1 : ((x.q.size : Int) != (y.q.size : Int)) = true := by rw [bne_iff_ne]; omega
            have HN := Lib.hid (map_ne HX.out HY.out (fun e => h1 (by rw [e])))
            clear h0 h1
            go_wp2_with fail
            go_quiet (fail)
            go_wp2_with fail
            go_ret
            rw [HN.out]
            exact ⟨rfl, below_drewN hb⟩
        · have e0 : ((x.q.at' : Int) != (y.q.at' : Int)) = true := by rw [bne_iff_ne]; omega
          have HN := Lib.hid (map_ne HX.out HY.out (fun e => h0 (by rw [e])))
          clear h0
          go_wp2_with fail
          go_quiet (fail)
          go_wp2_with fail
          go_ret
          rw [HN.out]
          exact ⟨rfl, below_drewN hb⟩
      · obtain rfl : k = n1 := by omega
        have h := HK.out
        rw [List.take_of_length_le (by rw [HL1.out]; exact Nat.le_refl _), List.take_of_length_le (by rw [HL2.out]; exact Nat.le_refl _)] at h
        have HE := Lib.hid h
        clear h
        go_wp2_with fail
        go_ret
        rw [HE.out]
        exact ⟨by simp, hb⟩
  · have hne : (xs.map It.q == ys.map It.q) = false := by
      rw [beq_eq_false_iff_ne]
      intro h
      have := congrArg List.length h
      rw [List.length_map, List.length_map] at this
      omega
    have HN := Lib.hid hne
    have e0 : ((n1 : Int) != (n2 : Int)) = true := by rw [bne_iff_ne]; omega
    clear hne hl1 hl2
    go_enter Tryd.func14, Tryd.ntmps14
    go_wp2_with fail
    go_ret
    rw [HN.out]
    exact ⟨rfl, Below.refl _ _⟩
end Go.Proofs.YtffhejaeliphcaaDoor
