/-
  What is read of a footer alone, as data. No condition.
  The walk of segment's Closing. Conditions: the argument reads as bytes; the table of nibbles holds what the text lays.
-/
import Derived.Test.YtffhejaeliphcaaDoorMGs
import Derived.Test.YtffhejaeliphcaaDoorMFwh
import Derived.Test.YtffhejaeliphcaaDoorMGsc
import Derived.BigQuiet
import Derived.Deep.QuietTactic
namespace Go.Proofs.YtffhejaeliphcaaDoor
open Go.RowKit
set_option linter.unusedVariables false

/-- Marks that lie a stride apart, below a footer's place. -/
def fitM (y s : Nat) (ft : Int) : Nat → List Mk → Bool
  | _, [] => true
  | i, m :: r => decide (m.s = ((y + i * s : Nat) : Int)) && decide (m.a < ft) && fitM y s ft (i + 1) r
theorem fitM_iff {y s : Nat} {ft : Int} : ∀ {ms : List Mk} {i : Nat}, fitM y s ft i ms = true ↔ ∀ j m, ms[j]? = some m → m.s = ((y + (i + j) * s : Nat) : Int) ∧ m.a < ft
  | [], i => by simp [fitM]
  | x :: r, i => by
    rw [fitM, Bool.and_eq_true, Bool.and_eq_true, fitM_iff, decide_eq_true_iff, decide_eq_true_iff]
    constructor
    · rintro ⟨⟨h1, h2⟩, h3⟩ j m hm
      cases j with
      | zero =>
        simp at hm
        subst hm
        exact ⟨by rw [Nat.add_zero]; exact h1, h2⟩
      | succ j =>
        have := h3 j m (by simpa using hm)
        rwa [show i + (j + 1) = i + 1 + j by omega]
    · intro h
      refine ⟨⟨by have := (h 0 x rfl).1; rwa [Nat.add_zero] at this, (h 0 x rfl).2⟩, fun j m hm => ?_⟩
      have := h (j + 1) m (by simpa using hm)
      rwa [show i + (j + 1) = i + 1 + j by omega] at this
theorem fitM_no {y s : Nat} {ft : Int} {ms : List Mk} {j : Nat} {m : Mk} (hm : ms[j]? = some m) (h : ¬ (m.s = ((y + j * s : Nat) : Int) ∧ m.a < ft)) : fitM y s ft 0 ms = false := by
  cases hf : fitM y s ft 0 ms with
  | false => rfl
  | true => exact absurd (by have := fitM_iff.1 hf j m hm; rwa [Nat.zero_add] at this) h
theorem fitM_yes {y s : Nat} {ft : Int} {ms : List Mk} (h : ∀ j m, j < ms.length → ms[j]? = some m → m.s = ((y + j * s : Nat) : Int) ∧ m.a < ft) : fitM y s ft 0 ms = true :=
  fitM_iff.2 fun j m hm => by rw [Nat.zero_add]; exact h j m (List.getElem?_eq_some_iff.1 hm).1 hm
/-- What is read of a footer's body for a segment. -/
def closB (x : Option Cl) (first count ft : Int) : Option (List Mk × Nat) :=
  match x with
  | some c => if (c.first : Int) ≠ first ∨ (c.count : Int) ≠ count ∨ c.marks.length ≠ (c.count + c.stride - 1) / c.stride then none
    else if fitM c.first c.stride ft 0 c.marks = true then some (c.marks, c.stride) else none
  | none => none
/-- What is read of a footer for a segment. -/
def closF (l : List UInt8) (num first count ft : Int) : Option (List Mk × Nat) :=
  if (wholeF l 3).2 ≠ 0 ∨ ((wholeF l 3).1.seq : Int) ≠ num then none else closB (unclF (wholeF l 3).1.body) first count ft
theorem closF_err {l : List UInt8} {num first count ft : Int} {f : Fr} {e : Nat} (h : wholeF l 3 = (f, e)) (he : e ≠ 0 ∨ (f.seq : Int) ≠ num) : closF l num first count ft = none := by
  unfold closF; rw [h, if_pos he]
theorem closF_ok {l : List UInt8} {num first count ft : Int} {f : Fr} (h : wholeF l 3 = (f, 0)) (he : (f.seq : Int) = num) : closF l num first count ft = closB (unclF f.body) first count ft := by
  unfold closF; rw [h, if_neg (by simp [he])]
theorem closB_no {c : Cl} {first count ft : Int} (h : (c.first : Int) ≠ first ∨ (c.count : Int) ≠ count ∨ c.marks.length ≠ (c.count + c.stride - 1) / c.stride) : closB (some c) first count ft = none := by
  unfold closB; simp only; rw [if_pos h]
theorem closB_unfit {c : Cl} {first count ft : Int} (h : fitM c.first c.stride ft 0 c.marks = false) : closB (some c) first count ft = none := by
  unfold closB; simp only
  by_cases h1 : (c.first : Int) ≠ first ∨ (c.count : Int) ≠ count ∨ c.marks.length ≠ (c.count + c.stride - 1) / c.stride
  · rw [if_pos h1]
  · rw [if_neg h1, h, if_neg (by simp)]
theorem closB_yes {c : Cl} {first count ft : Int} (h1 : (c.first : Int) = first) (h2 : (c.count : Int) = count) (h3 : c.marks.length = (c.count + c.stride - 1) / c.stride) (h : fitM c.first c.stride ft 0 c.marks = true) : closB (some c) first count ft = some (c.marks, c.stride) := by
  unfold closB; simp only
  rw [if_neg (fun hh => hh.elim (fun q => q h1) (fun q => q.elim (fun q => q h2) (fun q => q h3))), if_pos h]
/-- What a reading of a footer gives. -/
def GivesCs (w : World) (x : Option (List Mk × Nat)) (e : Ending) (w' : World) : Prop :=
  match x with
  | none => e = .returned (.tuple #[.slice none 0 0, .int .i64 0, .int .i64 70]) ∧ Below w.heap.size w w'
  | some (ms, s) => ∃ a k, e = .returned (.tuple #[.slice a ms.length k, .int .i64 (s : Int), .int .i64 0]) ∧ w'.ownsRow w.heap.size 67 2 (.slice a ms.length k) ms.length (ms.flatMap Mk.cells) ∧ Below w.heap.size w w'
end Go.Proofs.YtffhejaeliphcaaDoor

namespace Go.Proofs.YtffhejaeliphcaaDoor
open Go.RowKit
set_option linter.unusedVariables false

theorem below_dn {B q : Nat} {w w' : World} (hb : Below B w w') : Below B w (w'.drewN q) := hb.trans ⟨rfl, rfl, rfl, Nat.le_refl _, fun _ _ => rfl⟩
theorem cls_at {w : World} {b : Nat} {cs : Array Value} {t : TypeId} (h : w.heap[b]? = some (.cells cs t (0, 0))) (j : Nat) (v : Value) (hv : cs[j]? = some v) : w.cell? ⟨b, j, none⟩ = some v := cell_blk h hv

set_option maxRecDepth 8000 in
set_option maxHeartbeats 3200000 in
theorem closing_any (a : Option Addr) (n c : Nat) (l : List UInt8) (num first count ft : Int) (w : World) (r : RowAt w a n c 1 (l.map B)) (ht : Tab w) :
    Calls Tryd.prog 23 #[.slice a n c, .agg #[.int .i64 num, .int .i64 first, .int .i64 count, .int .i64 ft]] w (GivesCs w (closF l num first count ft)) := by
  have hb0 := below_made w (.cells #[.int .i64 num, .int .i64 first, .int .i64 count, .int .i64 ft] 58)
  have hg0 := World.alloc_heap_new w (.cells #[.int .i64 num, .int .i64 first, .int .i64 count, .int .i64 ft] 58)
  have r0 := r.below hb0
  have t0 := ht.below hb0
  obtain ⟨x, hx⟩ : ∃ x, wholeF l 3 = x := ⟨_, rfl⟩
  obtain ⟨f, er⟩ := x
  have HW := fun wx rx tx => whole_any a n c l 3 wx rx tx
  rw [hx] at HW
  have HWH := Lib.hid HW
  have HX := Lib.hid hx
  clear HW hx
  go_enter Tryd.func23, Tryd.ntmps23
  go_wp2_with fail
  (with_reducible refine (HWH.out _ r0 t0).mono ?_)
  rintro e w1 ⟨a1, c1, rfl, ho1, hb1⟩
  simp only at ho1 ⊢
  have hm2 := below_made w1 (.cells #[.int .i64 (f.kind : Int), .int .i64 (f.seq : Int), .slice a1 f.body.length c1] 53)
  have hg2 := World.alloc_heap_new w1 (.cells #[.int .i64 (f.kind : Int), .int .i64 (f.seq : Int), .slice a1 f.body.length c1] 53)
  have hs2 := below_blk2 (hb1.trans (hm2.mono hb1.size)) hg0
  have hc2 := below_next (below_next hb0 hb1) hm2
  have q2 := (own_rowAt ho1).below hm2
  obtain ⟨w2, hw2⟩ : ∃ w2, w1.alloc (.cells #[.int .i64 (f.kind : Int), .int .i64 (f.seq : Int), .slice a1 f.body.length c1] 53) = w2 := ⟨_, rfl⟩
  rw [hw2] at hg2 hs2 hc2 q2
  have y1 := cls_at hg2 1 (.int .i64 (f.seq : Int)) rfl
  have y2 := cls_at hg2 2 (.slice a1 f.body.length c1) rfl
  have z0 := cls_at hs2 0 (.int .i64 num) rfl
  clear hb0 hg0 r0 t0 HWH ho1 hb1 hm2 hg2
  go_upto_region 2 with fail
  clear hw2
  by_cases he : er = 0
  rotate_left
  · have HR := Lib.hid (closF_err (first := first) (count := count) (ft := ft) (num := num) HX.out (.inl he))
    have heb : ((er : Int) != 0) = true := by rw [bne_iff_ne]; omega
    clear he
    go_wp2_with fail
    go_ret3
    rw [HR.out]
    exact ⟨rfl, hc2⟩
  subst he
  by_cases hq : (f.seq : Int) = num
  rotate_left
  · have HR := Lib.hid (closF_err (first := first) (count := count) (ft := ft) HX.out (.inr hq))
    have hqb : ((f.seq : Int) != num) = true := by rw [bne_iff_ne]; exact hq
    clear hq
    go_wp2_with fail
    go_ret3
    rw [HR.out]
    exact ⟨rfl, hc2⟩
  have hqb : ((f.seq : Int) != num) = false := by simp [hq]
  have HR := Lib.hid (closF_ok (first := first) (count := count) (ft := ft) HX.out hq)
  obtain ⟨u, hu⟩ : ∃ u, unclF f.body = u := ⟨_, rfl⟩
  have HU := fun wx rx => uncl_any a1 f.body.length c1 f.body wx rx
  rw [hu] at HU
  rw [hu] at HR
  have HUN := Lib.hid HU
  have hbd := fun y (h : u = some y) => unclF_bd (l := f.body) (hu.trans h)
  clear HU hu hq
  go_wp2_with fail
  (with_reducible refine (HUN.out _ q2).mono ?_)
  cases u with
  | none =>
    rintro e w3 ⟨f', c', s', am, nm, km, rfl, hb3⟩
    unfold clRow
    have hc3 := below_next hc2 hb3
    have hm4 := below_made w3 (.cells #[.int .i64 f', .int .i64 c', .int .i64 s', .slice am nm km] 84)
    have hc4 := below_next hc3 hm4
    clear HUN hb3 hm4 hbd y1 y2 z0 hqb q2 hs2 hc2 hc3
    go_upto_region 5 with fail
    go_quiet (fail)
    go_wp2_with fail
    go_ret3
    rw [HR.out]
    exact ⟨rfl, below_dn hc4⟩
  | some y =>
    rintro e w3 ⟨am, cm, rfl, hom, hb3⟩
    obtain ⟨k1, k2, k3, k4, k5, k6⟩ := hbd y rfl
    obtain ⟨yf, yc, ys, ms⟩ := y
    simp only at hom k1 k2 k3 k4 k5 k6 ⊢
    unfold clRow
    have k7 := ((okN_iff ms).1 k6).1
    have k8 := ((okN_iff ms).1 k6).2.1
    obtain ⟨nm, hnm⟩ : ∃ nm, ms.length = nm := ⟨_, rfl⟩
    rw [hnm] at hom k7 ⊢
    have HNM := Lib.hid hnm
    have HK8 := Lib.hid k8
    have hs3 := below_blk2 hb3 hs2
    have hc3 := below_next hc2 hb3
    have hm4 := below_made w3 (.cells #[.int .i64 (yf : Int), .int .i64 (yc : Int), .int .i64 (ys : Int), .slice am nm cm] 84)
    have hg4 := World.alloc_heap_new w3 (.cells #[.int .i64 (yf : Int), .int .i64 (yc : Int), .int .i64 (ys : Int), .slice am nm cm] 84)
    have hs4 := below_blk2 hm4 hs3
    have hc4 := below_next hc3 hm4
    have ho4 := own_mono (own_below hom hm4) hc2.size
    obtain ⟨w4, hw4⟩ : ∃ w4, w3.alloc (.cells #[.int .i64 (yf : Int), .int .i64 (yc : Int), .int .i64 (ys : Int), .slice am nm cm] 84) = w4 := ⟨_, rfl⟩
    rw [hw4] at hg4 hs4 hc4 ho4
    have c0 := cls_at hg4 0 (.int .i64 (yf : Int)) rfl
    have c1' := cls_at hg4 1 (.int .i64 (yc : Int)) rfl
    have c2 := cls_at hg4 2 (.int .i64 (ys : Int)) rfl
    have c3 := cls_at hg4 3 (.slice am nm cm) rfl
    have z1 := cls_at hs4 1 (.int .i64 first) rfl
    have z2 := cls_at hs4 2 (.int .i64 count) rfl
    have z3 := cls_at hs4 3 (.int .i64 ft) rfl
    clear HUN hb3 hm4 hbd y1 y2 z0 hqb q2 hs2 hc2 hc3 hg4 hs4 hs3 hom k6 k8 hnm
    go_upto_region 5 with fail
    clear hw4
    by_cases d1 : (yf : Int) = first
    rotate_left
    · have HN := Lib.hid (HR.out.trans (closB_no (.inl d1)))
      have e1 : ((yf : Int) != first) = true := by rw [bne_iff_ne]; exact d1
      clear d1
      go_quiet (fail)
      go_wp2_with fail
      go_ret3
      rw [HN.out]
      exact ⟨rfl, below_dn hc4⟩
    have e1 : ((yf : Int) != first) = false := by simp [d1]
    by_cases d2 : (yc : Int) = count
    rotate_left
    · have HN := Lib.hid (HR.out.trans (closB_no (.inr (.inl d2))))
      have e2 : ((yc : Int) != count) = true := by rw [bne_iff_ne]; exact d2
      clear d2 d1
      go_quiet (fail)
      go_wp2_with fail
      go_ret3
      rw [HN.out]
      exact ⟨rfl, below_dn hc4⟩
    have e2 : ((yc : Int) != count) = false := by simp [d2]
    have HD1 := Lib.hid d1
    have HD2 := Lib.hid d2
    clear d1 d2
    by_cases d3 : nm = (yc + ys - 1) / ys
    rotate_left
    · have HN := Lib.hid (HR.out.trans (closB_no (.inr (.inr (by simp only; rw [HNM.out]; exact d3)))))
      have e3 : ((nm : Int) != ((yc : Int) + (ys : Int) - 1) / (ys : Int)) = true := by
        rw [bne_iff_ne, show ((yc : Int) + (ys : Int) - 1) = ((yc + ys - 1 : Nat) : Int) by omega, ← Int.natCast_ediv]
        omega
      clear d3
      go_quiet (fail)
      go_wp2_with fail
      go_ret3
      rw [HN.out]
      exact ⟨rfl, below_dn hc4⟩
    have e3 : ((nm : Int) != ((yc : Int) + (ys : Int) - 1) / (ys : Int)) = false := by
      rw [show ((yc : Int) + (ys : Int) - 1) = ((yc + ys - 1 : Nat) : Int) by omega, ← Int.natCast_ediv, ← d3]
      simp
    have HD3 := Lib.hid d3
    clear d3
    go_quiet (fail)
    obtain ⟨w5, hw5⟩ : ∃ w5, w4.drewN nq = w5 := ⟨_, rfl⟩
    have hb5 : Below w4.heap.size w4 w5 := by rw [← hw5]; exact below_dn (Below.refl _ _)
    have hc5 := hc4.trans (hb5.mono hc4.size)
    have ho5 := own_below ho4 hb5
    have g0 : w5.cell? ⟨w3.heap.size, 0, none⟩ = some (.int .i64 (yf : Int)) := by rw [← hw5]; exact c0
    have g2 : w5.cell? ⟨w3.heap.size, 2, none⟩ = some (.int .i64 (ys : Int)) := by rw [← hw5]; exact c2
    have g3 : w5.cell? ⟨w3.heap.size, 3, none⟩ = some (.slice am nm cm) := by rw [← hw5]; exact c3
    have g4 : w5.cell? ⟨w.heap.size, 3, none⟩ = some (.int .i64 ft) := by rw [← hw5]; exact z3
    rw [hw5]
    have r5 := own_rowAt ho5
    clear hw5 c0 c1' c2 c3 z1 z2 z3 hc4 ho4 e1 e2 e3 hb5
    go_wp2_with fail
    go_loopw [67] (fun iv wr => ∃ j : Nat, iv = .int .i64 (j : Int) ∧ j ≤ nm ∧ Hid (∀ i m, i < j → ms[i]? = some m → m.s = ((yf + i * ys : Nat) : Int) ∧ m.a < ft) ∧ Below w5.heap.size w5 wr) (fun iv _ => nm - (intOf iv).toNat)
    case atStart => exact ⟨0, rfl, Nat.zero_le _, Lib.hid (fun i m h => absurd h (Nat.not_lt_zero _)), Below.refl _ _⟩
    case round =>
      obtain ⟨j, rfl, hj, HJ, hb⟩ := hrel
      have f0 := (World.cell?_of_block (hb.block _ (World.block_lt_of_cell? w5 _ g0))).trans g0
      have f2 := (World.cell?_of_block (hb.block _ (World.block_lt_of_cell? w5 _ g2))).trans g2
      have f3 := (World.cell?_of_block (hb.block _ (World.block_lt_of_cell? w5 _ g3))).trans g3
      have f4 := (World.cell?_of_block (hb.block _ (World.block_lt_of_cell? w5 _ g4))).trans g4
      by_cases hjn : j < nm
      · obtain ⟨b, off, m, rfl, hm, x0, x1⟩ := mk_at (r5.below hb) j hjn
        have hmm := HK8.out m (List.mem_of_getElem? hm)
        obtain ⟨q0, q1, q2, q3⟩ := hmm
        have HM := Lib.hid hm
        have me1 := r5.2.1
        have me2 := r5.2.2.1
        unfold maxLen at me2
        have hmul : j * ys ≤ 512 * 64 := Nat.mul_le_mul (by omega) k2
        have hjy : (j : Int) * (ys : Int) = ((j * ys : Nat) : Int) := by simp
        have hjw : IntKind.i64.wrap ((j : Int) * (ys : Int)) = ((j * ys : Nat) : Int) := by rw [hjy]; exact IntWalk.i64_in _ (by omega)
        obtain ⟨P, hP⟩ : ∃ P, j * ys = P := ⟨_, rfl⟩
        rw [hP] at hmul hjw
        have HP := Lib.hid hP
        have hm6 := below_made wr (.cells #[.int .i64 m.s, .int .i64 m.a] 67)
        have hg6 := World.alloc_heap_new wr (.cells #[.int .i64 m.s, .int .i64 m.a] 67)
        have hb6 := below_next hb hm6
        have y0 := cls_at hg6 0 (.int .i64 m.s) rfl
        have y1 := cls_at hg6 1 (.int .i64 m.a) rfl
        have v0 := (World.cell?_of_block (hm6.block _ (World.block_lt_of_cell? wr _ f0))).trans f0
        have v2 := (World.cell?_of_block (hm6.block _ (World.block_lt_of_cell? wr _ f2))).trans f2
        have v4 := (World.cell?_of_block (hm6.block _ (World.block_lt_of_cell? wr _ f4))).trans f4
        clear hjy hP hm hm6 hg6 f3 f0 f2 f4
        have hno : ¬ (m.s = ((yf + P : Nat) : Int) ∧ m.a < ft) → Hid (closF l num first count ft = none) := fun h =>
          Lib.hid (HR.out.trans (closB_unfit (fitM_no HM.out (by rw [HP.out]; exact h))))
        by_cases d1 : m.s = ((yf : Int) + (P : Int))
        · have e1 : (m.s != ((yf : Int) + (P : Int))) = false := by simp [d1]
          by_cases d2 : m.a < ft
          · have HS : Hid (∀ i m', i < j + 1 → ms[i]? = some m' → m'.s = ((yf + i * ys : Nat) : Int) ∧ m'.a < ft) := Lib.hid fun i m' hi hm' => by
              by_cases hij : i < j
              · exact HJ.out i m' hij hm'
              · obtain rfl : i = j := by omega
                rw [HM.out] at hm'
                obtain rfl := Option.some.inj hm'
                rw [HP.out]
                exact ⟨by rw [d1]; simp, d2⟩
            clear hno d1
            go_wp2_with fail
            go_roundw
            case rel => exact ⟨j + 1, by go_num, by omega, HS, hb6⟩
            case measure => simp [intOf]; omega
          · have HN := hno (fun h => d2 h.2)
            clear hno d1
            go_wp2_with fail
            go_ret3
            rw [HN.out]
            exact ⟨rfl, hc5.trans (hb6.mono hc5.size)⟩
        · have e1 : (m.s != ((yf : Int) + (P : Int))) = true := by rw [bne_iff_ne]; exact d1
          have HN := hno (fun h => d1 (by rw [h.1]; simp))
          clear hno d1
          go_wp2_with fail
          go_ret3
          rw [HN.out]
          exact ⟨rfl, hc5.trans (hb6.mono hc5.size)⟩
      · have HF : Hid (fitM yf ys ft 0 ms = true) := Lib.hid (fitM_yes fun i m hi hm => HJ.out i m (by rw [HNM.out] at hi; omega) hm)
        have HY := Lib.hid (HR.out.trans (closB_yes HD1.out HD2.out (by simp only; rw [HNM.out]; exact HD3.out) HF.out))
        go_wp2_with fail
        go_quiet (fail)
        go_wp2_with fail
        go_ret3
        rw [HY.out]
        exact ⟨am, cm, by simp [HNM.out], by rw [HNM.out]; exact own_below ho5 (below_dn hb), hc5.trans (below_dn (hb.mono hc5.size))⟩
end Go.Proofs.YtffhejaeliphcaaDoor
