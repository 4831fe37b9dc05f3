/-
  The walks of both Decode of an index. Condition: the slice reads as bytes.
  Plain facts on written indices: there and back, and one form alone. No condition.
-/
import Derived.Test.YtffhejaeliphcaaDoorMIi
import Derived.StillTailTactics
namespace Go.Proofs.YtffhejaeliphcaaDoor
open Go.RowKit
set_option linter.unusedVariables false

/-- Marks from numbers, each above the last; none, where one is too large. -/
def marksOf : Mk → List UInt64 → Option (List Mk)
  | p, u :: v :: r => if 1099511627776 < u.toNat ∨ 1099511627776 < v.toNat then none else (marksOf ⟨p.s + (u.toNat : Int), p.a + (v.toNat : Int)⟩ r).map (fun ms => ⟨p.s + (u.toNat : Int), p.a + (v.toNat : Int)⟩ :: ms)
  | _, _ => some []

/-- What is read, and the error. -/
def decIx (l : List UInt8) : List Mk × Nat :=
  if (decAll l 1024).2.2 ≠ 0 then ([], (decAll l 1024).2.2)
  else if (decAll l 1024).2.1 ≠ l.length ∨ (decAll l 1024).1.length % 2 ≠ 0 then ([], 70)
  else match marksOf ⟨0, 0⟩ (decAll l 1024).1 with
    | none => ([], 70)
    | some ms => if okN ms then (ms, 0) else ([], 70)

theorem decAllGo_bd (l : List UInt8) : ∀ (k p : Nat) (us : List UInt64), (decAllGo l k p us).1.length ≤ us.length + k ∧ (decAllGo l k p us).2.1 ≤ p + 10 * k ∧ (decAllGo l k p us).2.2 ≤ 12
  | 0, p, us => by simp [decAllGo]
  | k + 1, p, us => by
    have hb := dec_bd (l.drop p)
    rw [decAllGo]
    split
    · exact ⟨by simp, by simp, hb.2.2.2⟩
    · have := decAllGo_bd l k (p + (dec (l.drop p)).2.1) (us ++ [UInt64.ofNat (dec (l.drop p)).1])
      simp only [List.length_append, List.length_cons, List.length_nil] at this
      omega

theorem decAll_bd (l : List UInt8) : (decAll l 1024).1.length ≤ 1024 ∧ (decAll l 1024).2.1 ≤ 10250 ∧ (decAll l 1024).2.2 ≤ 24 := by
  have hb := dec_bd l
  unfold decAll
  split
  · exact ⟨by simp, by simp, by show (dec l).2.2 ≤ 24; omega⟩
  · split
    · simp
    · have := decAllGo_bd l (dec l).1 (dec l).2.1 []
      simp only [List.length_nil] at this
      omega

/-- The word of a contract that gives marks in new memory and an error's number. -/
def GivesME (eM : TypeId) (w : World) (x : List Mk × Nat) (e : Ending) (w' : World) : Prop :=
  ∃ a cap, e = .returned (.tuple #[.slice a x.1.length cap, .int .i64 (x.2 : Int)]) ∧ w'.ownsRow w.heap.size eM 2 (.slice a x.1.length cap) x.1.length (x.1.flatMap Mk.cells) ∧ Below w.heap.size w w'

theorem marks_step {us : List UInt64} {j : Nat} {u v : UInt64} {p : Mk} (hu : us[j]? = some u) (hv : us[j + 1]? = some v) :
    marksOf p (us.drop j) = if 1099511627776 < u.toNat ∨ 1099511627776 < v.toNat then none else (marksOf ⟨p.s + (u.toNat : Int), p.a + (v.toNat : Int)⟩ (us.drop (j + 2))).map (fun ms => ⟨p.s + (u.toNat : Int), p.a + (v.toNat : Int)⟩ :: ms) := by
  obtain ⟨h1, rfl⟩ := List.getElem?_eq_some_iff.1 hu
  obtain ⟨h2, rfl⟩ := List.getElem?_eq_some_iff.1 hv
  rw [List.drop_eq_getElem_cons h1, List.drop_eq_getElem_cons h2, marksOf]

set_option maxRecDepth 100000 in
set_option maxHeartbeats 2000000 in
theorem idec_any (a : Option Addr) (n c : Nat) (l : List UInt8) (w : World) (r : RowAt w a n c 1 (l.map B)) :
    Calls Tryd.prog 64 #[.slice a n c] w (GivesME 67 w (decIx l)) := by
  have hl : l.length = n := by simpa using r.len
  have m1 := r.2.2.1
  have m2 := r.2.1
  unfold maxLen at m1
  obtain ⟨b1, b2, b3⟩ := decAll_bd l
  obtain ⟨x, hx⟩ : ∃ x, decAll l 1024 = x := ⟨_, rfl⟩
  obtain ⟨us, q, f⟩ := x
  rw [hx] at b1 b2 b3
  simp only at b1 b2 b3
  have HX := Lib.hid hx
  have HL := Lib.hid hl
  have HR : Hid (decIx l = if f ≠ 0 then ([], f) else if q ≠ n ∨ us.length % 2 ≠ 0 then ([], 70) else match marksOf ⟨0, 0⟩ us with | none => ([], 70) | some ms => if okN ms then (ms, 0) else ([], 70)) := Lib.hid (by unfold decIx; rw [hx, hl])
  clear hx hl
  by_cases hf : f = 0
  · by_cases hq : q = n
    · by_cases hev : us.length % 2 = 0
      · obtain ⟨n2, hn2⟩ : ∃ n2, us.length = 2 * n2 := ⟨us.length / 2, by omega⟩
        have HN := Lib.hid hn2
        have hb2 : n2 ≤ 512 := by omega
        subst hf hq
        clear hev hn2
        go_enter Tryd.func64, Tryd.ntmps64
        go_wp2_with fail
        (with_reducible refine (decAll_any _ _ _ l _ _ (.inr (by decide)) r (by decide) (by decide)).mono ?_)
        rintro e w1 ⟨a1, c1, rfl, ho1, hb1⟩
        rw [HX.out] at ho1 ⊢
        simp only at ho1
        rw [HN.out] at ho1 ⊢
        have rU := own_rowAt ho1
        have hmo : ((2 * n2 : Nat) : Int) % 2 = 0 := by omega
        go_wp2_with fail
        have h0 := heap_alloc_new w1 (.cells #[.int .i64 0, .int .i64 0] 67)
        have hbx := below_made w1 (.cells #[.int .i64 0, .int .i64 0] 67)
        have hs1 := hb1.size
        have hom : (w1.alloc (.cells #[.int .i64 0, .int .i64 0] 67)).ownsRow (w1.heap.size + 1) 67 2 (.slice none 0 0) 0 [] := World.ownsRow_nil _ _ _ _
        clear ho1
        go_loopw [7, 9] (fun mv iv wr => ∃ (k : Nat) (p : Mk) (L : List Mk) (a : Option Addr) (cap : Nat), mv = .slice a k cap ∧ iv = .int .i64 (2 * (k : Int)) ∧ k ≤ n2 ∧ wr.heap[w1.heap.size]? = some (.cells #[.int .i64 p.s, .int .i64 p.a] 67) ∧
          wr.ownsRow (w1.heap.size + 1) 67 2 (.slice a k cap) k (L.flatMap Mk.cells) ∧ Hid (L.length = k) ∧ Hid (marksOf ⟨0, 0⟩ us = (marksOf p (us.drop (2 * k))).map (L ++ ·)) ∧ Hid (0 ≤ p.s ∧ p.s ≤ 1099511627776 * (k : Int) ∧ 0 ≤ p.a ∧ p.a ≤ 1099511627776 * (k : Int)) ∧ w1.heap.size < wr.heap.size ∧ Below w1.heap.size w1 wr) (fun _ iv _ => 2 * n2 - (intOf iv).toNat)
        case atStart => exact ⟨0, ⟨0, 0⟩, [], none, 0, rfl, rfl, Nat.zero_le _, h0, hom, Lib.hid rfl, Lib.hid (by simp), Lib.hid ⟨Int.le_refl _, by simp, Int.le_refl _, by simp⟩, by simp, hbx⟩
        case round =>
          clear h0 hom hbx
          obtain ⟨k, p, L, a2, cap, rfl, rfl, hk, h0, ho, HLk, HS, HP, hws, hb⟩ := hrel
          by_cases hlt : k < n2
          · have rr := rU.below hb
            obtain ⟨bu, ou, u, rfl, hu, cu⟩ := rr.elem (2 * k) (by omega)
            obtain ⟨bu', ou', v, hbu, hv, cv⟩ := rr.elem (2 * k + 1) (by omega)
            cases hbu
            have HM := Lib.hid (marks_step (p := p) hu hv)
            obtain ⟨p1, p2, p3, p4⟩ := HP.out
            have p5 : p.s ≤ 562949953421312 := by omega
            have p6 : p.a ≤ 562949953421312 := by omega
            clear p2 p4 hu hv
            unfold U at cu cv
            have hu0 : 0 ≤ (u.toNat : Int) := by omega
            have hv0 : 0 ≤ (v.toNat : Int) := by omega
            have hui : ¬ 1099511627776 < (u.toNat : Int) ↔ ¬ 1099511627776 < u.toNat := by omega
            have hvi : ¬ 1099511627776 < (v.toNat : Int) ↔ ¬ 1099511627776 < v.toNat := by omega
            obtain ⟨x, hx⟩ : ∃ x, (u.toNat : Int) = x := ⟨_, rfl⟩
            obtain ⟨y, hy⟩ : ∃ y, (v.toNat : Int) = y := ⟨_, rfl⟩
            rw [hx, hy] at HM
            rw [hx] at cu hu0 hui
            rw [hy] at cv hv0 hvi
            have HUV := Lib.hid (And.intro hui hvi)
            clear hui hvi hx hy
            have g0 := cell_two0 h0
            have g1 := cell_two1 h0
            have f0 := free_two0 h0
            have kk : (2 * (k : Int)).toNat = 2 * k := by omega
            have kk1 : (2 * (k : Int) + 1).toNat = 2 * k + 1 := by omega
            by_cases hxb : 1099511627776 < x
            · have HE : Hid (decIx l = ([], 70)) := Lib.hid (by
                have h1 := HS.out
                rw [HM.out, if_pos (by have := HUV.out; omega)] at h1
                rw [HR.out, if_neg (by omega), if_neg (by have := HN.out; omega), h1]; rfl)
              go_wp2_with fail
              go_ret2
              rw [HE.out]
              exact ⟨none, 0, rfl, World.ownsRow_nil _ _ _ _, below_next hb1 hb⟩
            · by_cases hyb : 1099511627776 < y
              · have HE : Hid (decIx l = ([], 70)) := Lib.hid (by
                  have h1 := HS.out
                  rw [HM.out, if_pos (by have := HUV.out; omega)] at h1
                  rw [HR.out, if_neg (by omega), if_neg (by have := HN.out; omega), h1]; rfl)
                go_wp2_with fail
                go_ret2
                rw [HE.out]
                exact ⟨none, 0, rfl, World.ownsRow_nil _ _ _ _, below_next hb1 hb⟩
              · have w1a : IntKind.i64.wrap x = x := IntWalk.i64_in _ (by omega)
                have w1b : IntKind.i64.wrap y = y := IntWalk.i64_in _ (by omega)
                have w1c : IntKind.i64.wrap (p.s + x) = p.s + x := IntWalk.i64_in _ (by omega)
                have w1d : IntKind.i64.wrap (p.a + y) = p.a + y := IntWalk.i64_in _ (by omega)
                have w1e : IntKind.i64.wrap (2 * (k : Int) + 1) = 2 * (k : Int) + 1 := IntWalk.i64_in _ (by omega)
                have i0 : 0 ≤ 2 * (k : Int) := by omega
                have i1 : 2 * (k : Int) < 2 * (n2 : Int) := by omega
                have i2 : 0 ≤ 2 * (k : Int) + 1 := by omega
                have i3 : 2 * (k : Int) + 1 < 2 * (n2 : Int) := by omega
                go_wp2_with fail
                go_still_tail 18, (by kernel_rfl)
                obtain ⟨wd, hwd⟩ : ∃ wd, wr.drew = wd := ⟨_, rfl⟩
                change wpList _ _ _ _ _ wr.drew
                have hst : Still wr wd := ⟨1, hwd.symm⟩
                rw [hwd]
                have hbd := below_still hb hst
                have hod := own_still ho hst
                have h0d : wd.heap[w1.heap.size]? = some (.cells #[.int .i64 p.s, .int .i64 p.a] 67) := by rw [hst.heap]; exact h0
                have hwd' : w1.heap.size < wd.heap.size := by rw [hst.heap]; exact hws
                clear hwd hst ho h0 g0 g1 f0 w1a w1b w1c w1d w1e cu cv rr
                have g0 := cell_two0 h0d
                have g1 := cell_two1 h0d
                have f0 := free_two0 h0d
                have hs0 := two_set0 (u := .int .i64 (p.s + x)) h0d
                have f1 := free_two1 hs0
                have hs5 := two_set1 (u := .int .i64 (p.a + y)) hs0
                have e0 := cell_two0 hs5
                have e1 := cell_two1 hs5
                have hos := (hod.kept (grown_set wd w1.heap.size 0 (.int .i64 (p.s + x))) (.inr fun e => by have := (hod.lt _ e).1; omega)).kept (grown_set _ w1.heap.size 1 (.int .i64 (p.a + y))) (.inr fun e => by have := (hod.lt _ e).1; omega)
                have hbs := (hbd.setCell (p := ⟨w1.heap.size, 0, none⟩) (Nat.le_refl _) (.int .i64 (p.s + x))).setCell (p := ⟨w1.heap.size, 1, none⟩) (Nat.le_refl _) (.int .i64 (p.a + y))
                have hsz : w1.heap.size + 1 ≤ ((wd.setCell ⟨w1.heap.size, 0, none⟩ (.int .i64 (p.s + x))).setCell ⟨w1.heap.size, 1, none⟩ (.int .i64 (p.a + y))).heap.size := by simp; omega
                clear hs0 h0d hod hbd
                go_wp2_with (at_builtin; refine wpList_appL 1 rfl _ _ 25 rfl slM rfl hos rfl (by simp) rfl (by decide) (two1 _ _ _) (by omega) hsz fun a3 c3 w3 hown3 hg3 => ?_)
                go_roundw
                case rel =>
                  refine ⟨k + 1, ⟨p.s + x, p.a + y⟩, L ++ [⟨p.s + x, p.a + y⟩], a3, c3, rfl, by go_num, by omega, (hg3.block w1.heap.size (by omega) (fun e => by have := (hos.lt _ e.symm).1; omega)).trans hs5, ?_, Lib.hid (by rw [List.length_append, HLk.out]; rfl), Lib.hid ?_, Lib.hid ?_, by have := hg3.size; omega, hbs.grown hg3 (by omega) (fun k hk => by have := (hos.lt _ hk).1; omega)⟩
                  · rw [List.flatMap_append]; exact hown3
                  · have h1 := HS.out
                    rw [HM.out, if_neg (by have := HUV.out; omega)] at h1
                    rw [h1, Option.map_map]
                    congr 1
                    funext z
                    simp
                  · have := HP.out
                    show 0 ≤ p.s + x ∧ p.s + x ≤ 1099511627776 * ((k + 1 : Nat) : Int) ∧ 0 ≤ p.a + y ∧ p.a + y ≤ 1099511627776 * ((k + 1 : Nat) : Int)
                    omega
                case measure => simp [intOf]; omega
          · obtain rfl : k = n2 := by omega
            have hlk : ¬ 2 * (k : Int) < 2 * (k : Int) := by omega
            have hkk : ¬ 2 * k < 2 * k := by omega
            go_wp2_with fail
            (with_reducible refine (valid_any _ _ _ L _ (own_rowAt ho)).mono ?_)
            rintro e w4 ⟨rfl, hb4⟩
            have ho4 := own_below ho hb4
            have hLl := HLk.out
            have hu0 : marksOf p (us.drop (2 * k)) = some [] := by rw [List.drop_eq_nil_of_le (by have := HN.out; omega)]; rfl
            have HE : Hid (decIx l = if okN L then (L, 0) else ([], 70)) := Lib.hid (by
              have h1 := HS.out
              rw [hu0, Option.map_some, List.append_nil] at h1
              rw [HR.out, if_neg (by omega), if_neg (by have := HN.out; omega), h1])
            clear hu0
            by_cases hok : okN L = true
            · have HO := Lib.hid hok
              clear hok
              rw [HO.out]
              go_wp2_with fail
              go_ret2
              rw [HE.out, HO.out]
              exact ⟨a2, cap, by rw [if_pos rfl]; show Ending.returned (.tuple #[.slice a2 k cap, _]) = .returned (.tuple #[.slice a2 L.length cap, _]); rw [hLl]; rfl, by rw [if_pos rfl]; show World.ownsRow _ _ _ _ (.slice a2 L.length cap) L.length _; rw [hLl]; exact own_mono ho4 (by omega), below_next hb1 (below_next hb hb4)⟩
            · have hno : okN L = false := by simpa using hok
              have HO := Lib.hid hno
              clear hno hok
              rw [HO.out]
              go_wp2_with fail
              go_ret2
              rw [HE.out, HO.out]
              exact ⟨none, 0, rfl, World.ownsRow_nil _ _ _ _, below_next hb1 (below_next hb hb4)⟩
      · have HE : Hid (decIx l = ([], 70)) := Lib.hid (by rw [HR.out, if_neg (by omega), if_pos (by omega)])
        have hmo : ((us.length : Nat) : Int) % 2 = 1 := by omega
        subst hf hq
        go_enter Tryd.func64, Tryd.ntmps64
        go_wp2_with fail
        (with_reducible refine (decAll_any _ _ _ l _ _ (.inr (by decide)) r (by decide) (by decide)).mono ?_)
        rintro e w1 ⟨a1, c1, rfl, ho1, hb1⟩
        rw [HX.out] at ho1 ⊢
        go_wp2_with fail
        go_ret2
        rw [HE.out]
        exact ⟨none, 0, rfl, World.ownsRow_nil _ _ _ _, hb1⟩
    · have HE : Hid (decIx l = ([], 70)) := Lib.hid (by rw [HR.out, if_neg (by omega), if_pos (by omega)])
      have hqb : ((q : Int) != (n : Int)) = true := by rw [bne_iff_ne]; omega
      subst hf
      go_enter Tryd.func64, Tryd.ntmps64
      go_wp2_with fail
      (with_reducible refine (decAll_any _ _ _ l _ _ (.inr (by decide)) r (by decide) (by decide)).mono ?_)
      rintro e w1 ⟨a1, c1, rfl, ho1, hb1⟩
      rw [HX.out] at ho1 ⊢
      go_wp2_with fail
      go_ret2
      rw [HE.out]
      exact ⟨none, 0, rfl, World.ownsRow_nil _ _ _ _, hb1⟩
  · have HE : Hid (decIx l = ([], f)) := Lib.hid (by rw [HR.out, if_pos (by omega)])
    have hqb : ((f : Int) != 0) = true := by rw [bne_iff_ne]; omega
    go_enter Tryd.func64, Tryd.ntmps64
    go_wp2_with fail
    (with_reducible refine (decAll_any _ _ _ l _ _ (.inr (by decide)) r (by decide) (by decide)).mono ?_)
    rintro e w1 ⟨a1, c1, rfl, ho1, hb1⟩
    rw [HX.out] at ho1 ⊢
    go_wp2_with fail
    go_ret2
    rw [HE.out]
    exact ⟨none, 0, rfl, World.ownsRow_nil _ _ _ _, hb1⟩
end Go.Proofs.YtffhejaeliphcaaDoor

namespace Go.Proofs.YtffhejaeliphcaaDoor
open Go.RowKit
set_option linter.unusedVariables false

theorem decAll_back (us : List UInt64) (h : us.length ≤ 1024) : decAll (encAll us) 1024 = (us, (encAll us).length, 0) := by
  have hd : dec (encAll us) = (us.length, (enc us.length).length, 0) := dec_of_enc _ _ (by omega)
  rw [decAll, hd]
  have : ¬ (1024 : Int).toNat < us.length := by omega
  simp only [ne_eq, not_true, if_false, this]
  rw [decAllGo_encs (encAll us) [] us _ _ (by rw [encAll, List.drop_left]; simp) (by simp [encAll])]
  simp [encAll]

theorem marks_diffs : ∀ (l : List Mk) (p : Mk), Gd p l → marksOf p (diffs p l) = some l
  | [], p, _ => by simp [diffs, marksOf]
  | m :: r, p, h => by
    obtain ⟨q1, q2, q3, q4⟩ := h.head
    have q5 := h.1
    have q6 := h.2.1
    have e1 : (UInt64.ofNat (m.s - p.s).toNat).toNat = (m.s - p.s).toNat := by rw [UInt64.toNat_ofNat']; omega
    have e2 : (UInt64.ofNat (m.a - p.a).toNat).toNat = (m.a - p.a).toNat := by rw [UInt64.toNat_ofNat']; omega
    have em : (⟨p.s + ((m.s - p.s).toNat : Int), p.a + ((m.a - p.a).toNat : Int)⟩ : Mk) = m := by
      cases m; simp only [Mk.mk.injEq]; simp only at q1 q2; omega
    rw [diffs, marksOf, e1, e2, if_neg (by omega), em, marks_diffs r m h.tail]
    rfl

theorem ix_back {ms : List Mk} (h : okN ms = true) : decIx (encAll (diffs ⟨0, 0⟩ ms)) = (ms, 0) := by
  have hl := diffs_len ms ⟨0, 0⟩
  have h5 := ((okN_iff ms).1 h).1
  unfold decIx
  rw [decAll_back _ (by omega)]
  simp only [ne_eq, not_true, false_or, if_false]
  rw [if_neg (by omega), marks_diffs ms _ (Gd.start h)]
  simp [h]

theorem decAllGo_enc (l : List UInt8) : ∀ (n p : Nat) (acc us : List UInt64) (q : Nat), decAllGo l n p acc = (us, q, 0) → p ≤ l.length →
    ∃ ts, us = acc ++ ts ∧ ts.length = n ∧ q ≤ l.length ∧ l.drop p = encs ts ++ l.drop q
  | 0, p, acc, us, q, h, hp => by
    simp [decAllGo] at h
    obtain ⟨rfl, rfl⟩ := h
    exact ⟨[], by simp, rfl, hp, by simp [encs]⟩
  | n + 1, p, acc, us, q, h, hp => by
    obtain ⟨y, hy⟩ : ∃ y, dec (l.drop p) = y := ⟨_, rfl⟩
    obtain ⟨u, k, e⟩ := y
    rw [decAllGo, hy] at h
    by_cases he : e = 0
    · subst he
      simp only [ne_eq, not_true, if_false] at h
      obtain ⟨h1, h2, h3⟩ := dec_enc hy
      have hu := (dec_bd (l.drop p)).1
      rw [hy] at hu
      simp only at hu
      rw [List.length_drop] at h3
      obtain ⟨ts, i1, i2, i3, i4⟩ := decAllGo_enc l n (p + k) _ us q h (by omega)
      refine ⟨UInt64.ofNat u :: ts, by rw [i1]; simp, by simp [i2], i3, ?_⟩
      have e1 : (UInt64.ofNat u).toNat = u := by rw [UInt64.toNat_ofNat']; omega
      simp only [encs, List.flatMap_cons, e1]
      rw [List.append_assoc]
      have : (l.drop p).take k ++ (l.drop p).drop k = l.drop p := List.take_append_drop _ _
      rw [← this, ← h1, List.drop_drop, i4]
      rfl
    · rw [if_pos he] at h
      injection h with _ h
      injection h with _ h
      exact absurd h he

theorem decAll_enc {l : List UInt8} {most : Int} {us : List UInt64} {q : Nat} (h : decAll l most = (us, q, 0)) : l = encAll us ++ l.drop q ∧ q ≤ l.length := by
  obtain ⟨y, hy⟩ : ∃ y, dec l = y := ⟨_, rfl⟩
  obtain ⟨u, k, e⟩ := y
  rw [decAll, hy] at h
  by_cases he : e = 0
  · subst he
    simp only [ne_eq, not_true, if_false] at h
    by_cases hm : most.toNat < u
    · rw [if_pos hm] at h; simp at h
    · rw [if_neg hm] at h
      obtain ⟨h1, h2, h3⟩ := dec_enc hy
      obtain ⟨ts, i1, i2, i3, i4⟩ := decAllGo_enc l u k [] us q h h3
      rw [List.nil_append] at i1
      subst i1
      refine ⟨?_, i3⟩
      rw [encAll, i2, h1, List.append_assoc, ← i4, List.take_append_drop]
  · rw [if_pos he] at h
    injection h with _ h
    injection h with _ h
    exact absurd h he

theorem diffs_marks : ∀ (n : Nat) (us : List UInt64) (p : Mk) (ms : List Mk), us.length = 2 * n → marksOf p us = some ms → diffs p ms = us
  | 0, us, p, ms, hn, h => by
    obtain rfl : us = [] := List.eq_nil_of_length_eq_zero (by omega)
    simp [marksOf] at h
    subst h; rfl
  | n + 1, us, p, ms, hn, h => by
    match us, hn with
    | u :: v :: r, hn =>
      simp only [List.length_cons] at hn
      rw [marksOf] at h
      split at h
      · cases h
      · rename_i hb
        obtain ⟨ms', h1, h2⟩ := Option.map_eq_some_iff.1 h
        subst h2
        have ih := diffs_marks n r _ ms' (by omega) h1
        rw [diffs, ih]
        simp only
        rw [show (p.s + (u.toNat : Int) - p.s).toNat = u.toNat by omega, show (p.a + (v.toNat : Int) - p.a).toNat = v.toNat by omega]
        simp

theorem ix_err {l : List UInt8} (h : (decIx l).2 ≠ 0) : (decIx l).1 = [] := by
  unfold decIx at h ⊢
  split
  · rfl
  · rw [if_neg (by assumption)] at h
    split
    · rfl
    · rw [if_neg (by assumption)] at h
      split
      · rfl
      · rename_i hms
        simp only [hms] at h
        split
        · rename_i hok; rw [if_pos hok] at h; exact absurd rfl h
        · rfl

theorem ix_one {l : List UInt8} (h : (decIx l).2 = 0) : okN (decIx l).1 = true ∧ encIx (decIx l).1 = (l, 0) := by
  obtain ⟨y, hy⟩ : ∃ y, decAll l 1024 = y := ⟨_, rfl⟩
  obtain ⟨us, q, e⟩ := y
  unfold decIx at h ⊢
  rw [hy] at h ⊢
  simp only at h ⊢
  by_cases he : e = 0
  · subst he
    simp only [ne_eq, not_true, if_false] at h ⊢
    by_cases hq : ¬ q = l.length ∨ ¬ us.length % 2 = 0
    · rw [if_pos hq] at h; simp at h
    · rw [if_neg hq] at h ⊢
      cases hm : marksOf ⟨0, 0⟩ us with
      | none => rw [hm] at h; simp at h
      | some ms =>
        rw [hm] at h
        simp only at h ⊢
        by_cases hok : okN ms = true
        · rw [if_pos hok]
          refine ⟨hok, ?_⟩
          unfold encIx
          rw [if_pos hok, diffs_marks (us.length / 2) us _ ms (by omega) hm]
          obtain ⟨h1, h2⟩ := decAll_enc hy
          rw [List.drop_eq_nil_of_le (by omega), List.append_nil] at h1
          rw [← h1]
        · rw [if_neg hok] at h; simp at h
  · rw [if_pos he] at h; exact absurd h he
end Go.Proofs.YtffhejaeliphcaaDoor
