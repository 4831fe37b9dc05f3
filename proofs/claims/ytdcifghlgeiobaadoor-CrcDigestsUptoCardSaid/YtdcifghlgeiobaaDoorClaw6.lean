/-
  The walk of CrcDigests. Conditions: what is read is of bulk at most 1048576; the table of nibbles holds what the text lays.
-/
import Derived.Test.YtdcifghlgeiobaaDoorCdst
import Derived.Test.YtdcifghlgeiobaaDoorLawDeep
namespace Go.Proofs.YtdcifghlgeiobaaDoor
open Go.RowKit Go.ChangeShapes Go.WideShapes
set_option linter.unusedVariables false

theorem bs_at {W : World} {a : Option Addr} {n c : Nat} {xs : List Bs} (h : RowAt W a n c 1 (xs.flatMap Bs.cells)) (j : Nat) (hj : j < n) :
    ∃ b off x, a = some ⟨b, off, none⟩ ∧ xs[j]? = some x ∧ W.cell? ⟨b, off + j, none⟩ = some (.slice x.a x.n x.c) := by
  obtain ⟨b, off, u, ha, hu, hc⟩ := h.at j (by omega)
  obtain ⟨i, r, x, h1, h2, h3, h4⟩ := flat_get (k := 1) Bs.cells (fun _ => rfl) xs j u hu
  obtain rfl : r = 0 := by omega
  obtain rfl : j = i := by omega
  simp [Bs.cells] at h4
  exact ⟨b, off, x, ha, h1, by rw [hc, ← h4]⟩

theorem sum_at (xs : List Bs) (k : Nat) (x : Bs) (h : xs[k]? = some x) : ((xs.drop k).map fun x => x.l.length).sum = x.l.length + ((xs.drop (k + 1)).map fun x => x.l.length).sum := by
  obtain ⟨hk, hx⟩ := List.getElem?_eq_some_iff.1 h
  rw [List.drop_eq_getElem_cons hk, hx, List.map_cons, List.sum_cons]

set_option maxRecDepth 8000 in
set_option maxHeartbeats 1600000 in
theorem digests_walk (v : Value) (xs : List Bs) (w : World) (hv : ∃ a n c, v = .slice a n c ∧ xs.length = n ∧ n ≤ 1048576 ∧ RowAt w a n c 1 (xs.flatMap Bs.cells) ∧ (∀ x ∈ xs, x.good w) ∧ (xs.map fun x => x.l.length).sum ≤ 1048576) (ht : Tab w) :
    Calls Tryd.prog 8 #[v] w fun e w' => e = .returned (.bool true) ∧ Below w.heap.size w w' := by
  obtain ⟨a, n, c, rfl, hxn, hnn, hr, hgood, hsum⟩ := hv
  go_enter Tryd.func8, Tryd.ntmps8
  go_wp2_with fail
  (with_reducible refine (head_any _ ht).mono ?_)
  rintro e w1 ⟨rfl, hb1⟩
  go_wp2_with fail
  (with_reducible refine (new_any _).mono ?_)
  rintro e w2 ⟨rfl, hD, hb2, hl2⟩
  go_wp2_with fail
  (with_reducible refine (new_any _).mono ?_)
  rintro e w3 ⟨rfl, hF, hb3, hl3⟩
  have S0 : St w w3 w1.heap.size w2.heap.size (.slice none 0 0) (.slice none 0 0) [] [] := by
    have hs0 : sumN 0 ([] : List UInt8) = 0 := by decide
    refine ⟨⟨rfl, .inl ⟨rfl, rfl⟩⟩, ⟨rfl, .inl ⟨rfl, rfl⟩⟩, (fun k h => by cases h), ?_, ?_, (fun h => by cases h), (fun h => by cases h), (fun h => by cases h), (fun h => by cases h), by omega, hb1.size, Nat.le_trans hb1.size hb2.size, below_next (below_next hb1 hb2) hb3⟩
    · exact (hD.kept (below_grown hb3) (by simp)).same hs0.symm rfl
    · exact hF.same hs0.symm rfl
  obtain ⟨D, hDD⟩ : ∃ D, w1.heap.size = D := ⟨_, rfl⟩
  obtain ⟨F, hFF⟩ : ∃ F, w2.heap.size = F := ⟨_, rfl⟩
  rw [hDD, hFF] at S0 ⊢
  clear hD hF hb1 hb2 hb3 hl2 hl3 hDD hFF
  go_wp2_with fail
  go_loopw [5, 6, 24] (fun xv yv iv wr => ∃ (k : Nat) (ax ay : Option Addr) (cx cy : Nat) (X Y : List UInt8), xv = .slice ax X.length cx ∧ yv = .slice ay Y.length cy ∧ iv = .int .i64 (k : Int) ∧ k ≤ n ∧ St w wr D F xv yv X Y ∧ X.length + Y.length + ((xs.drop k).map fun x => x.l.length).sum ≤ 1048576) (fun _ _ iv _ => n - (intOf iv).toNat)
  case atStart => exact ⟨0, none, none, 0, 0, [], [], rfl, rfl, rfl, Nat.zero_le _, S0, by simpa using hsum⟩
  case round =>
    clear S0 hsum
    obtain ⟨k, ax, ay, cx, cy, X, Y, rfl, rfl, rfl, hk, S, hT⟩ := hrel
    by_cases hlt : k < n
    · obtain ⟨b, off, x, rfl, hx1, hcell⟩ := bs_at (hr.below S.bl) k hlt
      have rg : RowAt w x.a x.n x.c 1 (x.l.map B) := hgood x (List.mem_of_getElem? hx1)
      have rx := rg.below S.bl
      rw [sum_at xs k x hx1] at hT
      have ht1 := ht.below S.bl
      clear hx1
      obtain ⟨T, hTT⟩ : ∃ T, ((xs.drop (k + 1)).map fun x => x.l.length).sum = T := ⟨_, rfl⟩
      rw [hTT] at hT
      replace hTT := Lib.hid hTT
      obtain ⟨xa, xn, xc, xl⟩ := x
      simp only at rx rg hT hcell
      have hlx : xl.length = xn := by simpa using rx.len
      go_wp2_with fail
      (with_reducible refine (copy_any _ _ _ xl _ (by omega) rx).mono ?_)
      rintro e w4 ⟨ca, cc, rfl, oc, hb4⟩
      have S4 := S.next hb4
      have A4 := S.apart oc (Nat.le_refl _)
      have rx4 := rx.below hb4
      have ht4 := ht1.below (hb4.mono (Nat.le_refl _))
      have H1 := Lib.hid hlx
      rw [hlx] at oc A4 hT ⊢
      have hwr0 := S.bl.size
      clear S hb4 rx hcell ht1 hlx
      have hwr : w.heap.size ≤ wr.heap.size := hwr0
      by_cases h1 : xn = 1
      · subst h1
        have hq1 : ((1 : Int) == 1) = true := rfl
        obtain ⟨b', off', z, rfl, hz, hcz⟩ := rx4.byte 0 (by decide)
        rw [Nat.add_zero] at hcz
        by_cases h7 : z.toNat = 7
        · have hq7 : ((z.toNat : Int) == 7) = true := by rw [h7]; rfl
          go_wp2_with fail
          (with_reducible refine (reset_any D _ _ _ S4.dD).mono ?_)
          rintro e w6 ⟨⟨v5, rfl⟩, hd5, hg5⟩
          have S6 := S4.reset hd5 hg5
          obtain ⟨oc6, A6⟩ := A4.reset oc hg5
          clear S4 A4 oc hd5 hg5
          go_wp2_with fail
          (with_reducible refine (same_any _ _ _ xl _ _ _ xl _ (rg.below S6.bl) (own_rowAt oc6)).mono ?_)
          rintro e w7 ⟨rfl, hst⟩
          have hq9 : (xl == xl) = true := by simp
          rw [hq9]
          have S7 := S6.next (hst.below _)
          have oc7 := own_still oc6 hst
          clear S6 oc6 hst hq9
          have hmx : Hid ((([] : List UInt8)).length = 0) := Lib.hid (rfl)
          obtain ⟨XX, hXX⟩ : ∃ XX, ([] : List UInt8) = XX := ⟨_, rfl⟩
          rw [hXX] at S7 hmx
          go_wp2_with fail
          go_loopw [65] (fun iv wi => ∃ (j : Nat) (vs : List Value), iv = .int .i64 (j : Int) ∧ j ≤ 1 ∧ wi.ownsRow wr.heap.size 5 1 (.slice ca 1 cc) 1 vs ∧ St w wi D F (.slice none 0 0) (.slice ay Y.length cy) XX Y) (fun iv _ => 1 - (intOf iv).toNat)
          case atStart => exact ⟨0, _, rfl, Nat.zero_le _, oc7, S7⟩
          case round =>
            clear S7 oc7
            obtain ⟨j, vs, rfl, hj, oc8, S8⟩ := hrel
            by_cases hlj : j < 1
            · obtain ⟨g, rfl⟩ := own_some oc8 (by omega)
              obtain ⟨⟨v0, _, hc0⟩, hf0, hst⟩ := own_cell oc8 j hlj
              obtain ⟨oc9, hg9⟩ := hst (.int .u8 90)
              have hbg := (oc8.lt g rfl).1
              have S9 := S8.other hg9 (fun k hk e => A6.cx g rfl (by rw [hk, e])) (fun k hk e => A6.cy g rfl (by rw [hk, e])) (fun e => A6.cD e) (fun e => A6.cF e) (fun k hk => by cases hk; exact Nat.le_trans hwr hbg)
              clear hst oc8 S8 hg9
              go_wp2_with fail
              go_roundw
              case rel => exact ⟨j + 1, _, by go_num, by omega, oc9, S9⟩
              case measure => simp [intOf]; omega
            · have hlj' : ¬ (j : Int) < ((1 : Nat) : Int) := by omega
              have d1 : DigAt _ D (sumN 0 XX) (0) := S8.dD.same rfl hmx.out
              have d2 : DigAt _ F (sumN 0 Y) (Y.length) := S8.dF.same rfl rfl
              have r1 : RowAt _ none 0 0 1 (XX.map B) := own_rowAt (by have := S8.ox; first | exact this | (rw [hmx.out] at this; exact this))
              have r2 : RowAt _ ay Y.length cy 1 (Y.map B) := own_rowAt (by have := S8.oy; first | exact this | (rw [rfl] at this; exact this))
              clear oc8
              go_wp2_with fail
              (with_reducible refine (len_dig _ _ _ _ d1).mono ?_)
              rintro e w9 ⟨rfl, rfl⟩
              go_wp2_with fail
              (with_reducible refine (len_dig _ _ _ _ d2).mono ?_)
              rintro e w9 ⟨rfl, rfl⟩
              go_wp2_with fail
              (with_reducible refine (sum_dig _ _ _ _ d1).mono ?_)
              rintro e w9 ⟨rfl, rfl⟩
              go_wp2_with fail
              (with_reducible refine (rsum_any _ _ _ _ _ r1).mono ?_)
              rintro e w9 ⟨rfl, rfl⟩
              go_wp2_with fail
              (with_reducible refine (sum_dig _ _ _ _ d2).mono ?_)
              rintro e w9 ⟨rfl, rfl⟩
              go_wp2_with fail
              (with_reducible refine (rsum_any _ _ _ _ _ r2).mono ?_)
              rintro e w9 ⟨rfl, rfl⟩
              obtain ⟨s1, hs1⟩ : ∃ s1, sumN 0 XX = s1 := ⟨_, rfl⟩
              obtain ⟨s2, hs2⟩ : ∃ s2, sumN 0 Y = s2 := ⟨_, rfl⟩
              rw [hs1, hs2]
              clear d1 d2 hs1 hs2 r1 r2
              replace hT := Lib.hid hT
              clear h7 hq7 hcz hz hlj hlj' hj hxn hk
              have hk1 : k < 2 ^ 62 := by omega
              replace hlt := Lib.hid hlt
              replace hnn := Lib.hid hnn
              go_wp2_with fail
              go_roundw
              case rel => exact ⟨k + 1, none, ay, 0, cy, XX, Y, (by first | rfl | rw [hmx.out]), (by first | rfl | rw [rfl]), by go_num, by have := hlt.out; omega, S8, by rw [hTT.out]; have hT := hT.out; have q1 : (XX).length = 0 := hmx.out; have q2 : (Y).length = Y.length := rfl; omega⟩
              case measure => have := hlt.out; simp [intOf]; omega
        · have hq7 : ((z.toNat : Int) == 7) = false := by rw [beq_eq_false_iff_ne]; omega
          by_cases h3 : k % 3 = 2
          · have hq3 : ((k : Int) % 3 == 2) = true := by rw [beq_iff_eq]; omega
            go_wp2_with fail
            (with_reducible refine (write_any F _ _ _ _ _ xl _ (sumN_lt 0 _) S4.swap.dD (by omega) (own_rowAt oc) ht4).mono ?_)
            rintro e w5 ⟨⟨v5, rfl⟩, hd5, hg5⟩
            have ox5 := kept_ne S4.swap.ox hg5 (fun k hk e => S4.swap.xD (by rw [hk, e]))
            have bl5 : Below w.heap.size w w5 := S4.swap.bl.grown hg5 S4.swap.bl.size (fun k hk => by cases hk; exact S4.swap.D0)
            have hbs5 := bl5.size
            have rx5 := rg.below bl5
            go_wp2_with (at_builtin; refine wpList_appN rfl _ _ 22 rfl slB rfl ox5 rfl rx5 (B_one _) (by omega) (by omega) fun a6 c6 w6 ho6 hg6 hn6 => ?_)
            have S6 := (S4.swap.add hd5 hg5 H1.out ho6 hg6 hn6).swap
            obtain ⟨oc6, A6'⟩ := A4.swap.add oc hg5 hg6 hn6
            have A6 := A6'.swap
            obtain ⟨m, hm⟩ : ∃ m, Y.length + 1 = m := ⟨_, rfl⟩
            rw [hm] at S6 A6 ⊢
            clear S4 A4 oc hd5 hg5 ox5 bl5 rx5 ho6 hg6 hn6 A6'
            go_wp2_with fail
            (with_reducible refine (same_any _ _ _ xl _ _ _ xl _ (rg.below S6.bl) (own_rowAt oc6)).mono ?_)
            rintro e w7 ⟨rfl, hst⟩
            have hq9 : (xl == xl) = true := by simp
            rw [hq9]
            have S7 := S6.next (hst.below _)
            have oc7 := own_still oc6 hst
            clear S6 oc6 hst hq9
            have hmy : Hid ((Y ++ xl).length = m) := Lib.hid (by rw [List.length_append, H1.out, hm])
            obtain ⟨YY, hYY⟩ : ∃ YY, Y ++ xl = YY := ⟨_, rfl⟩
            rw [hYY] at S7 hmy
            go_wp2_with fail
            go_loopw [65] (fun iv wi => ∃ (j : Nat) (vs : List Value), iv = .int .i64 (j : Int) ∧ j ≤ 1 ∧ wi.ownsRow wr.heap.size 5 1 (.slice ca 1 cc) 1 vs ∧ St w wi D F (.slice ax X.length cx) (.slice a6 m c6) X YY) (fun iv _ => 1 - (intOf iv).toNat)
            case atStart => exact ⟨0, _, rfl, Nat.zero_le _, oc7, S7⟩
            case round =>
              clear S7 oc7
              obtain ⟨j, vs, rfl, hj, oc8, S8⟩ := hrel
              by_cases hlj : j < 1
              · obtain ⟨g, rfl⟩ := own_some oc8 (by omega)
                obtain ⟨⟨v0, _, hc0⟩, hf0, hst⟩ := own_cell oc8 j hlj
                obtain ⟨oc9, hg9⟩ := hst (.int .u8 90)
                have hbg := (oc8.lt g rfl).1
                have S9 := S8.other hg9 (fun k hk e => A6.cx g rfl (by rw [hk, e])) (fun k hk e => A6.cy g rfl (by rw [hk, e])) (fun e => A6.cD e) (fun e => A6.cF e) (fun k hk => by cases hk; exact Nat.le_trans hwr hbg)
                clear hst oc8 S8 hg9
                go_wp2_with fail
                go_roundw
                case rel => exact ⟨j + 1, _, by go_num, by omega, oc9, S9⟩
                case measure => simp [intOf]; omega
              · have hlj' : ¬ (j : Int) < ((1 : Nat) : Int) := by omega
                have d1 : DigAt _ D (sumN 0 X) (X.length) := S8.dD.same rfl rfl
                have d2 : DigAt _ F (sumN 0 YY) (m) := S8.dF.same rfl hmy.out
                have r1 : RowAt _ ax X.length cx 1 (X.map B) := own_rowAt (by have := S8.ox; first | exact this | (rw [rfl] at this; exact this))
                have r2 : RowAt _ a6 m c6 1 (YY.map B) := own_rowAt (by have := S8.oy; first | exact this | (rw [hmy.out] at this; exact this))
                clear oc8
                go_wp2_with fail
                (with_reducible refine (len_dig _ _ _ _ d1).mono ?_)
                rintro e w9 ⟨rfl, rfl⟩
                go_wp2_with fail
                (with_reducible refine (len_dig _ _ _ _ d2).mono ?_)
                rintro e w9 ⟨rfl, rfl⟩
                go_wp2_with fail
                (with_reducible refine (sum_dig _ _ _ _ d1).mono ?_)
                rintro e w9 ⟨rfl, rfl⟩
                go_wp2_with fail
                (with_reducible refine (rsum_any _ _ _ _ _ r1).mono ?_)
                rintro e w9 ⟨rfl, rfl⟩
                go_wp2_with fail
                (with_reducible refine (sum_dig _ _ _ _ d2).mono ?_)
                rintro e w9 ⟨rfl, rfl⟩
                go_wp2_with fail
                (with_reducible refine (rsum_any _ _ _ _ _ r2).mono ?_)
                rintro e w9 ⟨rfl, rfl⟩
                obtain ⟨s1, hs1⟩ : ∃ s1, sumN 0 X = s1 := ⟨_, rfl⟩
                obtain ⟨s2, hs2⟩ : ∃ s2, sumN 0 YY = s2 := ⟨_, rfl⟩
                rw [hs1, hs2]
                clear d1 d2 hs1 hs2 r1 r2
                replace hT := Lib.hid hT
                clear h7 hq7 hcz hz h3 hq3 hlj hlj' hj hxn hk
                have hk1 : k < 2 ^ 62 := by omega
                replace hlt := Lib.hid hlt
                replace hnn := Lib.hid hnn
                go_wp2_with fail
                go_roundw
                case rel => exact ⟨k + 1, ax, a6, cx, c6, X, YY, (by first | rfl | rw [rfl]), (by first | rfl | rw [hmy.out]), by go_num, by have := hlt.out; omega, S8, by rw [hTT.out]; have hT := hT.out; have q1 : (X).length = X.length := rfl; have q2 : (YY).length = m := hmy.out; omega⟩
                case measure => have := hlt.out; simp [intOf]; omega
          · have hq3 : ((k : Int) % 3 == 2) = false := by rw [beq_eq_false_iff_ne]; omega
            go_wp2_with fail
            (with_reducible refine (write_any D _ _ _ _ _ xl _ (sumN_lt 0 _) S4.dD (by omega) (own_rowAt oc) ht4).mono ?_)
            rintro e w5 ⟨⟨v5, rfl⟩, hd5, hg5⟩
            have ox5 := kept_ne S4.ox hg5 (fun k hk e => S4.xD (by rw [hk, e]))
            have bl5 : Below w.heap.size w w5 := S4.bl.grown hg5 S4.bl.size (fun k hk => by cases hk; exact S4.D0)
            have hbs5 := bl5.size
            have rx5 := rg.below bl5
            go_wp2_with (at_builtin; refine wpList_appN rfl _ _ 22 rfl slB rfl ox5 rfl rx5 (B_one _) (by omega) (by omega) fun a6 c6 w6 ho6 hg6 hn6 => ?_)
            have S6 := (S4.add hd5 hg5 H1.out ho6 hg6 hn6)
            obtain ⟨oc6, A6'⟩ := A4.add oc hg5 hg6 hn6
            have A6 := A6'
            obtain ⟨m, hm⟩ : ∃ m, X.length + 1 = m := ⟨_, rfl⟩
            rw [hm] at S6 A6 ⊢
            clear S4 A4 oc hd5 hg5 ox5 bl5 rx5 ho6 hg6 hn6 A6'
            go_wp2_with fail
            (with_reducible refine (same_any _ _ _ xl _ _ _ xl _ (rg.below S6.bl) (own_rowAt oc6)).mono ?_)
            rintro e w7 ⟨rfl, hst⟩
            have hq9 : (xl == xl) = true := by simp
            rw [hq9]
            have S7 := S6.next (hst.below _)
            have oc7 := own_still oc6 hst
            clear S6 oc6 hst hq9
            have hmx : Hid ((X ++ xl).length = m) := Lib.hid (by rw [List.length_append, H1.out, hm])
            obtain ⟨XX, hXX⟩ : ∃ XX, X ++ xl = XX := ⟨_, rfl⟩
            rw [hXX] at S7 hmx
            go_wp2_with fail
            go_loopw [65] (fun iv wi => ∃ (j : Nat) (vs : List Value), iv = .int .i64 (j : Int) ∧ j ≤ 1 ∧ wi.ownsRow wr.heap.size 5 1 (.slice ca 1 cc) 1 vs ∧ St w wi D F (.slice a6 m c6) (.slice ay Y.length cy) XX Y) (fun iv _ => 1 - (intOf iv).toNat)
            case atStart => exact ⟨0, _, rfl, Nat.zero_le _, oc7, S7⟩
            case round =>
              clear S7 oc7
              obtain ⟨j, vs, rfl, hj, oc8, S8⟩ := hrel
              by_cases hlj : j < 1
              · obtain ⟨g, rfl⟩ := own_some oc8 (by omega)
                obtain ⟨⟨v0, _, hc0⟩, hf0, hst⟩ := own_cell oc8 j hlj
                obtain ⟨oc9, hg9⟩ := hst (.int .u8 90)
                have hbg := (oc8.lt g rfl).1
                have S9 := S8.other hg9 (fun k hk e => A6.cx g rfl (by rw [hk, e])) (fun k hk e => A6.cy g rfl (by rw [hk, e])) (fun e => A6.cD e) (fun e => A6.cF e) (fun k hk => by cases hk; exact Nat.le_trans hwr hbg)
                clear hst oc8 S8 hg9
                go_wp2_with fail
                go_roundw
                case rel => exact ⟨j + 1, _, by go_num, by omega, oc9, S9⟩
                case measure => simp [intOf]; omega
              · have hlj' : ¬ (j : Int) < ((1 : Nat) : Int) := by omega
                have d1 : DigAt _ D (sumN 0 XX) (m) := S8.dD.same rfl hmx.out
                have d2 : DigAt _ F (sumN 0 Y) (Y.length) := S8.dF.same rfl rfl
                have r1 : RowAt _ a6 m c6 1 (XX.map B) := own_rowAt (by have := S8.ox; first | exact this | (rw [hmx.out] at this; exact this))
                have r2 : RowAt _ ay Y.length cy 1 (Y.map B) := own_rowAt (by have := S8.oy; first | exact this | (rw [rfl] at this; exact this))
                clear oc8
                go_wp2_with fail
                (with_reducible refine (len_dig _ _ _ _ d1).mono ?_)
                rintro e w9 ⟨rfl, rfl⟩
                go_wp2_with fail
                (with_reducible refine (len_dig _ _ _ _ d2).mono ?_)
                rintro e w9 ⟨rfl, rfl⟩
                go_wp2_with fail
                (with_reducible refine (sum_dig _ _ _ _ d1).mono ?_)
                rintro e w9 ⟨rfl, rfl⟩
                go_wp2_with fail
                (with_reducible refine (rsum_any _ _ _ _ _ r1).mono ?_)
                rintro e w9 ⟨rfl, rfl⟩
                go_wp2_with fail
                (with_reducible refine (sum_dig _ _ _ _ d2).mono ?_)
                rintro e w9 ⟨rfl, rfl⟩
                go_wp2_with fail
                (with_reducible refine (rsum_any _ _ _ _ _ r2).mono ?_)
                rintro e w9 ⟨rfl, rfl⟩
                obtain ⟨s1, hs1⟩ : ∃ s1, sumN 0 XX = s1 := ⟨_, rfl⟩
                obtain ⟨s2, hs2⟩ : ∃ s2, sumN 0 Y = s2 := ⟨_, rfl⟩
                rw [hs1, hs2]
                clear d1 d2 hs1 hs2 r1 r2
                replace hT := Lib.hid hT
                clear h7 hq7 hcz hz h3 hq3 hlj hlj' hj hxn hk
                have hk1 : k < 2 ^ 62 := by omega
                replace hlt := Lib.hid hlt
                replace hnn := Lib.hid hnn
                go_wp2_with fail
                go_roundw
                case rel => exact ⟨k + 1, a6, ay, c6, cy, XX, Y, (by first | rfl | rw [hmx.out]), (by first | rfl | rw [rfl]), by go_num, by have := hlt.out; omega, S8, by rw [hTT.out]; have hT := hT.out; have q1 : (XX).length = m := hmx.out; have q2 : (Y).length = Y.length := rfl; omega⟩
                case measure => have := hlt.out; simp [intOf]; omega
      · have hq1 : ((xn : Int) == 1) = false := by rw [beq_eq_false_iff_ne]; omega
        by_cases h3 : k % 3 = 2
        · have hq3 : ((k : Int) % 3 == 2) = true := by rw [beq_iff_eq]; omega
          go_wp2_with fail
          (with_reducible refine (write_any F _ _ _ _ _ xl _ (sumN_lt 0 _) S4.swap.dD (by omega) (own_rowAt oc) ht4).mono ?_)
          rintro e w5 ⟨⟨v5, rfl⟩, hd5, hg5⟩
          have ox5 := kept_ne S4.swap.ox hg5 (fun k hk e => S4.swap.xD (by rw [hk, e]))
          have bl5 : Below w.heap.size w w5 := S4.swap.bl.grown hg5 S4.swap.bl.size (fun k hk => by cases hk; exact S4.swap.D0)
          have hbs5 := bl5.size
          have rx5 := rg.below bl5
          go_wp2_with (at_builtin; refine wpList_appN rfl _ _ 22 rfl slB rfl ox5 rfl rx5 (B_one _) (by omega) (by omega) fun a6 c6 w6 ho6 hg6 hn6 => ?_)
          have S6 := (S4.swap.add hd5 hg5 H1.out ho6 hg6 hn6).swap
          obtain ⟨oc6, A6'⟩ := A4.swap.add oc hg5 hg6 hn6
          have A6 := A6'.swap
          obtain ⟨m, hm⟩ : ∃ m, Y.length + xn = m := ⟨_, rfl⟩
          rw [hm] at S6 A6 ⊢
          clear S4 A4 oc hd5 hg5 ox5 bl5 rx5 ho6 hg6 hn6 A6'
          go_wp2_with fail
          (with_reducible refine (same_any _ _ _ xl _ _ _ xl _ (rg.below S6.bl) (own_rowAt oc6)).mono ?_)
          rintro e w7 ⟨rfl, hst⟩
          have hq9 : (xl == xl) = true := by simp
          rw [hq9]
          have S7 := S6.next (hst.below _)
          have oc7 := own_still oc6 hst
          clear S6 oc6 hst hq9
          have hmy : Hid ((Y ++ xl).length = m) := Lib.hid (by rw [List.length_append, H1.out, hm])
          obtain ⟨YY, hYY⟩ : ∃ YY, Y ++ xl = YY := ⟨_, rfl⟩
          rw [hYY] at S7 hmy
          go_wp2_with fail
          go_loopw [65] (fun iv wi => ∃ (j : Nat) (vs : List Value), iv = .int .i64 (j : Int) ∧ j ≤ xn ∧ wi.ownsRow wr.heap.size 5 1 (.slice ca xn cc) xn vs ∧ St w wi D F (.slice ax X.length cx) (.slice a6 m c6) X YY) (fun iv _ => xn - (intOf iv).toNat)
          case atStart => exact ⟨0, _, rfl, Nat.zero_le _, oc7, S7⟩
          case round =>
            clear S7 oc7
            obtain ⟨j, vs, rfl, hj, oc8, S8⟩ := hrel
            by_cases hlj : j < xn
            · obtain ⟨g, rfl⟩ := own_some oc8 (by omega)
              obtain ⟨⟨v0, _, hc0⟩, hf0, hst⟩ := own_cell oc8 j hlj
              obtain ⟨oc9, hg9⟩ := hst (.int .u8 90)
              have hbg := (oc8.lt g rfl).1
              have S9 := S8.other hg9 (fun k hk e => A6.cx g rfl (by rw [hk, e])) (fun k hk e => A6.cy g rfl (by rw [hk, e])) (fun e => A6.cD e) (fun e => A6.cF e) (fun k hk => by cases hk; exact Nat.le_trans hwr hbg)
              clear hst oc8 S8 hg9
              go_wp2_with fail
              go_roundw
              case rel => exact ⟨j + 1, _, by go_num, by omega, oc9, S9⟩
              case measure => simp [intOf]; omega
            · have hlj' : ¬ (j : Int) < ((xn : Nat) : Int) := by omega
              have d1 : DigAt _ D (sumN 0 X) (X.length) := S8.dD.same rfl rfl
              have d2 : DigAt _ F (sumN 0 YY) (m) := S8.dF.same rfl hmy.out
              have r1 : RowAt _ ax X.length cx 1 (X.map B) := own_rowAt (by have := S8.ox; first | exact this | (rw [rfl] at this; exact this))
              have r2 : RowAt _ a6 m c6 1 (YY.map B) := own_rowAt (by have := S8.oy; first | exact this | (rw [hmy.out] at this; exact this))
              clear oc8
              go_wp2_with fail
              (with_reducible refine (len_dig _ _ _ _ d1).mono ?_)
              rintro e w9 ⟨rfl, rfl⟩
              go_wp2_with fail
              (with_reducible refine (len_dig _ _ _ _ d2).mono ?_)
              rintro e w9 ⟨rfl, rfl⟩
              go_wp2_with fail
              (with_reducible refine (sum_dig _ _ _ _ d1).mono ?_)
              rintro e w9 ⟨rfl, rfl⟩
              go_wp2_with fail
              (with_reducible refine (rsum_any _ _ _ _ _ r1).mono ?_)
              rintro e w9 ⟨rfl, rfl⟩
              go_wp2_with fail
              (with_reducible refine (sum_dig _ _ _ _ d2).mono ?_)
              rintro e w9 ⟨rfl, rfl⟩
              go_wp2_with fail
              (with_reducible refine (rsum_any _ _ _ _ _ r2).mono ?_)
              rintro e w9 ⟨rfl, rfl⟩
              obtain ⟨s1, hs1⟩ : ∃ s1, sumN 0 X = s1 := ⟨_, rfl⟩
              obtain ⟨s2, hs2⟩ : ∃ s2, sumN 0 YY = s2 := ⟨_, rfl⟩
              rw [hs1, hs2]
              clear d1 d2 hs1 hs2 r1 r2
              replace hT := Lib.hid hT
              clear h1 hq1 h3 hq3 hlj hlj' hj hxn hk
              have hk1 : k < 2 ^ 62 := by omega
              replace hlt := Lib.hid hlt
              replace hnn := Lib.hid hnn
              go_wp2_with fail
              go_roundw
              case rel => exact ⟨k + 1, ax, a6, cx, c6, X, YY, (by first | rfl | rw [rfl]), (by first | rfl | rw [hmy.out]), by go_num, by have := hlt.out; omega, S8, by rw [hTT.out]; have hT := hT.out; have q1 : (X).length = X.length := rfl; have q2 : (YY).length = m := hmy.out; omega⟩
              case measure => have := hlt.out; simp [intOf]; omega
        · have hq3 : ((k : Int) % 3 == 2) = false := by rw [beq_eq_false_iff_ne]; omega
          go_wp2_with fail
          (with_reducible refine (write_any D _ _ _ _ _ xl _ (sumN_lt 0 _) S4.dD (by omega) (own_rowAt oc) ht4).mono ?_)
          rintro e w5 ⟨⟨v5, rfl⟩, hd5, hg5⟩
          have ox5 := kept_ne S4.ox hg5 (fun k hk e => S4.xD (by rw [hk, e]))
          have bl5 : Below w.heap.size w w5 := S4.bl.grown hg5 S4.bl.size (fun k hk => by cases hk; exact S4.D0)
          have hbs5 := bl5.size
          have rx5 := rg.below bl5
          go_wp2_with (at_builtin; refine wpList_appN rfl _ _ 22 rfl slB rfl ox5 rfl rx5 (B_one _) (by omega) (by omega) fun a6 c6 w6 ho6 hg6 hn6 => ?_)
          have S6 := (S4.add hd5 hg5 H1.out ho6 hg6 hn6)
          obtain ⟨oc6, A6'⟩ := A4.add oc hg5 hg6 hn6
          have A6 := A6'
          obtain ⟨m, hm⟩ : ∃ m, X.length + xn = m := ⟨_, rfl⟩
          rw [hm] at S6 A6 ⊢
          clear S4 A4 oc hd5 hg5 ox5 bl5 rx5 ho6 hg6 hn6 A6'
          go_wp2_with fail
          (with_reducible refine (same_any _ _ _ xl _ _ _ xl _ (rg.below S6.bl) (own_rowAt oc6)).mono ?_)
          rintro e w7 ⟨rfl, hst⟩
          have hq9 : (xl == xl) = true := by simp
          rw [hq9]
          have S7 := S6.next (hst.below _)
          have oc7 := own_still oc6 hst
          clear S6 oc6 hst hq9
          have hmx : Hid ((X ++ xl).length = m) := Lib.hid (by rw [List.length_append, H1.out, hm])
          obtain ⟨XX, hXX⟩ : ∃ XX, X ++ xl = XX := ⟨_, rfl⟩
          rw [hXX] at S7 hmx
          go_wp2_with fail
          go_loopw [65] (fun iv wi => ∃ (j : Nat) (vs : List Value), iv = .int .i64 (j : Int) ∧ j ≤ xn ∧ wi.ownsRow wr.heap.size 5 1 (.slice ca xn cc) xn vs ∧ St w wi D F (.slice a6 m c6) (.slice ay Y.length cy) XX Y) (fun iv _ => xn - (intOf iv).toNat)
          case atStart => exact ⟨0, _, rfl, Nat.zero_le _, oc7, S7⟩
          case round =>
            clear S7 oc7
            obtain ⟨j, vs, rfl, hj, oc8, S8⟩ := hrel
            by_cases hlj : j < xn
            · obtain ⟨g, rfl⟩ := own_some oc8 (by omega)
              obtain ⟨⟨v0, _, hc0⟩, hf0, hst⟩ := own_cell oc8 j hlj
              obtain ⟨oc9, hg9⟩ := hst (.int .u8 90)
              have hbg := (oc8.lt g rfl).1
              have S9 := S8.other hg9 (fun k hk e => A6.cx g rfl (by rw [hk, e])) (fun k hk e => A6.cy g rfl (by rw [hk, e])) (fun e => A6.cD e) (fun e => A6.cF e) (fun k hk => by cases hk; exact Nat.le_trans hwr hbg)
              clear hst oc8 S8 hg9
              go_wp2_with fail
              go_roundw
              case rel => exact ⟨j + 1, _, by go_num, by omega, oc9, S9⟩
              case measure => simp [intOf]; omega
            · have hlj' : ¬ (j : Int) < ((xn : Nat) : Int) := by omega
              have d1 : DigAt _ D (sumN 0 XX) (m) := S8.dD.same rfl hmx.out
              have d2 : DigAt _ F (sumN 0 Y) (Y.length) := S8.dF.same rfl rfl
              have r1 : RowAt _ a6 m c6 1 (XX.map B) := own_rowAt (by have := S8.ox; first | exact this | (rw [hmx.out] at this; exact this))
              have r2 : RowAt _ ay Y.length cy 1 (Y.map B) := own_rowAt (by have := S8.oy; first | exact this | (rw [rfl] at this; exact this))
              clear oc8
              go_wp2_with fail
              (with_reducible refine (len_dig _ _ _ _ d1).mono ?_)
              rintro e w9 ⟨rfl, rfl⟩
              go_wp2_with fail
              (with_reducible refine (len_dig _ _ _ _ d2).mono ?_)
              rintro e w9 ⟨rfl, rfl⟩
              go_wp2_with fail
              (with_reducible refine (sum_dig _ _ _ _ d1).mono ?_)
              rintro e w9 ⟨rfl, rfl⟩
              go_wp2_with fail
              (with_reducible refine (rsum_any _ _ _ _ _ r1).mono ?_)
              rintro e w9 ⟨rfl, rfl⟩
              go_wp2_with fail
              (with_reducible refine (sum_dig _ _ _ _ d2).mono ?_)
              rintro e w9 ⟨rfl, rfl⟩
              go_wp2_with fail
              (with_reducible refine (rsum_any _ _ _ _ _ r2).mono ?_)
              rintro e w9 ⟨rfl, rfl⟩
              obtain ⟨s1, hs1⟩ : ∃ s1, sumN 0 XX = s1 := ⟨_, rfl⟩
              obtain ⟨s2, hs2⟩ : ∃ s2, sumN 0 Y = s2 := ⟨_, rfl⟩
              rw [hs1, hs2]
              clear d1 d2 hs1 hs2 r1 r2
              replace hT := Lib.hid hT
              clear h1 hq1 h3 hq3 hlj hlj' hj hxn hk
              have hk1 : k < 2 ^ 62 := by omega
              replace hlt := Lib.hid hlt
              replace hnn := Lib.hid hnn
              go_wp2_with fail
              go_roundw
              case rel => exact ⟨k + 1, a6, ay, c6, cy, XX, Y, (by first | rfl | rw [hmx.out]), (by first | rfl | rw [rfl]), by go_num, by have := hlt.out; omega, S8, by rw [hTT.out]; have hT := hT.out; have q1 : (XX).length = m := hmx.out; have q2 : (Y).length = Y.length := rfl; omega⟩
              case measure => have := hlt.out; simp [intOf]; omega
    · obtain rfl : k = n := by omega
      have hlk : ¬ (k : Int) < (k : Int) := by omega
      go_wp2_with fail
      (with_reducible refine (write_nil _ _ _ _).mono ?_)
      rintro e w9 ⟨⟨v9, rfl⟩, rfl⟩
      go_wp2_with fail
      (with_reducible refine (reset_nil _).mono ?_)
      rintro e w9 ⟨⟨v9, rfl⟩, rfl⟩
      go_wp2_with fail
      (with_reducible refine (len_nil _).mono ?_)
      rintro e w9 ⟨rfl, rfl⟩
      go_wp2_with fail
      (with_reducible refine (sum_nil _).mono ?_)
      rintro e w9 ⟨rfl, rfl⟩
      go_wp2_with fail
      go_ret
      exact ⟨ret_bool rfl, below_next S.bl (below_made _ _)⟩
theorem digs_open {H : Type} {enc : TypeId × Value → H} {W : World} {b : Nat} {v : Value} {d : DataW H} {ps : List MemPlace} (hok : Value.okWide Tryd.prog W .any b 37 v)
    (h : DataW.Trod enc Tryd.prog W 0 (fun _ => true) true 37 v d ps) (hb : Rows.uptoBulk d ≤ 1048576) :
    ∃ xs : List Bs, ∃ a n c, v = .slice a n c ∧ xs.length = n ∧ n ≤ 1048576 ∧ RowAt W a n c 1 (xs.flatMap Bs.cells) ∧ (∀ x ∈ xs, x.good W) ∧ (xs.map fun x => x.l.length).sum ≤ 1048576 := by
  obtain ⟨a, n, c, rfl⟩ := okWide_slice Tryd.underlying37 hok
  obtain ⟨xs, h1, h2, h3, h4, h5⟩ := open_bss Tryd.underlying37 Tryd.underlying22 Tryd.underlying5 (by kernel_rfl) (by kernel_rfl) h
  refine ⟨xs, a, n, c, rfl, h1, ?_, h2, h3, Nat.le_trans h5 hb⟩
  rcases h4 with h4 | ⟨el, sp, rfl, hn⟩
  · omega
  · have := bulk_len el
    have := bulk_len sp
    simp only [Rows.uptoBulk] at hb
    omega
end Go.Proofs.YtdcifghlgeiobaaDoor
