/-
  The walks of Header, of both sides. Conditions: the arguments fit their kinds; the table of nibbles holds what the text lays.
  The walks of HeaderOf, of both sides. Conditions: the argument reads as bytes; the table of nibbles holds what the text lays.
-/
import Derived.Test.YtffhejaeliphcaaDoorMHnums
import Derived.Test.YtffhejaeliphcaaDoorMFenc
import Derived.Test.YtffhejaeliphcaaDoorMFrenc
import Derived.Test.YtffhejaeliphcaaDoorMWf
namespace Go.Proofs.YtffhejaeliphcaaDoor
open Go.RowKit
set_option linter.unusedVariables false

theorem right_any (num first : Int) (w : World) : Calls Tryd.prog 40 #[.int .i64 num, .int .i64 first] w fun e w' => e = .returned (.bool (rightB num first)) ∧ w = w' := by
  by_cases h1 : 1 ≤ num
  all_goals by_cases h2 : num ≤ 999999
  all_goals by_cases h3 : 1 ≤ first
  all_goals by_cases h4 : first ≤ 1099511627777
  all_goals
    have HR : Hid (rightB num first = (decide (1 ≤ num) && decide (num ≤ 999999) && decide (1 ≤ first) && decide (first ≤ 1099511627777))) := Lib.hid rfl
    go_enter Tryd.func40, Tryd.ntmps40
    go_wp2_with fail
    go_ret
    exact ⟨ret_bool (by rw [HR.out]; simp [h1, h2, h3, h4]), rfl⟩

/-- The word of Header's contract: bytes in new memory, an error's number. -/
theorem hdrP_yes {num first : Int} (h : rightB num first = true) : hdrP num first = (frameF 2 num.toNat (twoN num.toNat first.toNat), 0) := by unfold hdrP; rw [if_pos h]
theorem hdrP_no {num first : Int} (h : ¬ rightB num first = true) : hdrP num first = ([], 1) := by unfold hdrP; rw [if_neg h]
theorem encF_hdr {num first : Int} (h : rightB num first = true) : encF 2 num (twoN num.toNat first.toNat) = (frameF 2 num.toNat (twoN num.toNat first.toNat), 0) := by
  have := (rightB_iff _ _).1 h
  have hl := twoN_len num.toNat first.toNat (by omega) (by omega)
  unfold encF; rw [if_neg (by omega), if_neg (by omega)]; rfl
theorem nums_two (a b : Nat) : numsN [a, b] = twoN a b := by simp [numsN, twoN]

set_option maxHeartbeats 800000 in
theorem header_any (num first : Int) (w : World) (ht : Tab w) :
    Calls Tryd.prog 18 #[.int .i64 num, .int .i64 first] w (GivesE 5 w (hdrP num first)) := by
  by_cases hr : rightB num first = true
  · have HP := Lib.hid (hdrP_yes hr)
    have HE := Lib.hid (encF_hdr hr)
    have HR := Lib.hid hr
    obtain ⟨a1, a2, a3, a4⟩ := (rightB_iff _ _).1 hr
    have HT : Hid ((twoN num.toNat first.toNat).length ≤ 20) := Lib.hid (twoN_len num.toNat first.toNat (by omega) (by omega)).1
    clear hr
    have r0 : RowAt (w.alloc (.cells #[.int .i64 num, .int .i64 first] 3)) (some ⟨w.heap.size, 0, none⟩) 2 2 1 ([num.toNat, first.toNat].map I) := by
      have := rowAt_lit w [.int .i64 num, .int .i64 first] 2 1 3 rfl (by decide)
      have e : ([num.toNat, first.toNat].map I) = [.int .i64 num, .int .i64 first] := by simp [I]; omega
      rw [e]; exact this
    have hb0 := below_made w (.cells #[.int .i64 num, .int .i64 first] 3)
    have t0 := ht.below hb0
    have hu : ∀ u ∈ [num.toNat, first.toNat], u < 9223372036854775808 := by
      intro u hu; simp at hu; omega
    have HU := Lib.hid hu
    clear hu
    go_enter Tryd.func18, Tryd.ntmps18
    go_wp2_with fail
    (with_reducible refine (right_any _ _ _).mono ?_)
    rintro e w1 ⟨rfl, rfl⟩
    rw [HR.out]
    go_wp2_with fail
    (with_reducible refine (nums_any _ _ _ [num.toNat, first.toNat] _ HU.out (by decide) r0).mono ?_)
    rintro e w2 ⟨a, c, rfl, ho, hb⟩
    rw [nums_two] at ho ⊢
    have q2 := own_rowAt ho
    have t2 := t0.below hb
    have hb2 := below_next hb0 hb
    clear ho hb hb0 t0 r0
    go_wp2_with fail
    (with_reducible refine (fenc_any 2 num _ _ _ (twoN num.toNat first.toNat) _ q2 t2).mono ?_)
    rintro e w3 ⟨a5, c5, rfl, ho5, hb5⟩
    rw [HE.out] at ho5 ⊢
    go_wp2_with fail
    go_ret2
    rw [HP.out]
    exact ⟨a5, c5, rfl, own_mono ho5 hb2.size, below_next hb2 hb5⟩
  · have HP := Lib.hid (hdrP_no hr)
    have hr' : rightB num first = false := by simpa using hr
    have HR := Lib.hid hr'
    clear hr hr'
    go_enter Tryd.func18, Tryd.ntmps18
    go_wp2_with fail
    (with_reducible refine (right_any _ _ _).mono ?_)
    rintro e w1 ⟨rfl, rfl⟩
    rw [HR.out]
    go_wp2_with fail
    go_ret2
    rw [HP.out]
    exact ⟨none, 0, rfl, World.ownsRow_nil _ _ _ _, Below.refl _ _⟩

theorem two_any (a b : Int) (w : World) (ha : 0 ≤ a) (ha2 : a < 9223372036854775808) (hb : 0 ≤ b) (hb2 : b < 9223372036854775808) :
    Calls Tryd.prog 57 #[.int .i64 a, .int .i64 b] w (GivesB 5 w (twoN a.toNat b.toNat)) := by
  have hl1 := enc_len10 a.toNat (by omega)
  have hl2 := enc_len10 b.toNat (by omega)
  go_enter Tryd.func57, Tryd.ntmps57
  go_wp2_with fail
  (with_reducible refine (renc_n a.toNat a _ (Nat.le_refl _) (by omega) (by omega)).mono ?_)
  rintro e w1 ⟨a1, c1, rfl, ho1, hb1⟩
  go_wp2_with fail
  (with_reducible refine (renc_n b.toNat b _ (Nat.le_refl _) (by omega) (by omega)).mono ?_)
  rintro e w2 ⟨a2, c2, rfl, ho2, hb2⟩
  have q1 := own_below ho1 hb2
  have hs1 := hb1.size
  have hs2 := hb2.size
  go_wp2_with (at_builtin; refine wpList_app rfl _ _ 22 rfl slB rfl q1 rfl (own_rowAt ho2) (B_one _) (by omega) (by omega) fun a3 cap3 w3 hown3 hg3 => ?_)
  go_ret
  exact ⟨a3, cap3, by unfold twoN; rw [List.length_append]; rfl, by unfold twoN; rw [List.length_append, List.map_append]; exact hown3, (below_next hb1 hb2).grown hg3 (by omega) (own_block q1)⟩

set_option maxHeartbeats 800000 in
theorem rheader_any (num first : Int) (w : World) :
    Calls Tryd.prog 44 #[.int .i64 num, .int .i64 first] w (GivesE 5 w (hdrP num first)) := by
  by_cases hr : rightB num first = true
  · have HP := Lib.hid (hdrP_yes hr)
    have HE := Lib.hid (encF_hdr hr)
    obtain ⟨a1, a2, a3, a4⟩ := (rightB_iff _ _).1 hr
    clear hr
    go_enter Tryd.func44, Tryd.ntmps44
    go_wp2_with fail
    (with_reducible refine (two_any num first _ (by omega) (by omega) (by omega) (by omega)).mono ?_)
    rintro e w2 ⟨a, c, rfl, ho, hb⟩
    have q2 := own_rowAt ho
    clear ho
    go_wp2_with fail
    (with_reducible refine (frenc_any 2 num _ _ _ (twoN num.toNat first.toNat) _ q2).mono ?_)
    rintro e w3 ⟨a5, c5, rfl, ho5, hb5⟩
    rw [HE.out] at ho5 ⊢
    go_wp2_with fail
    go_ret2
    rw [HP.out]
    exact ⟨a5, c5, rfl, own_mono ho5 hb.size, below_next hb hb5⟩
  · have HP := Lib.hid (hdrP_no hr)
    have hr' : ¬ (1 ≤ num ∧ num ≤ 999999 ∧ 1 ≤ first ∧ first ≤ 1099511627777) := fun h => hr ((rightB_iff _ _).2 h)
    clear hr
    by_cases h1 : num < 1
    all_goals by_cases h2 : 999999 < num
    all_goals by_cases h3 : first < 1
    all_goals by_cases h4 : 1099511627777 < first
    all_goals first | (exfalso; omega) | skip
    all_goals
      clear hr'
      go_enter Tryd.func44, Tryd.ntmps44
      go_wp2_with fail
      go_ret2
      rw [HP.out]
      exact ⟨none, 0, rfl, World.ownsRow_nil _ _ _ _, Below.refl _ _⟩
end Go.Proofs.YtffhejaeliphcaaDoor

namespace Go.Proofs.YtffhejaeliphcaaDoor
open Go.RowKit
set_option linter.unusedVariables false

/-- What HeaderOf gives. -/
def hdV (h : Hd) : Value := .tuple #[.int .i64 (h.1 : Int), .int .i64 (h.2.1 : Int), .int .i64 (h.2.2.1 : Int), .int .i64 (h.2.2.2 : Int)]

theorem unN2_some {l : List UInt8} {vs : List Nat} {r : List UInt8} (h : unN l 2 = some (vs, r)) : ∃ x y, vs = [x, y] ∧ x ≤ 2199023255552 ∧ y ≤ 2199023255552 := by
  rw [unN_two] at h
  split at h
  · simp at h
  · split at h
    · simp at h
    · simp only [Option.some.injEq, Prod.mk.injEq] at h
      exact ⟨_, _, h.1.symm, by omega, by omega⟩

theorem unnums2 (a1 : Option Addr) (n1 c1 : Nat) (l : List UInt8) (w : World) (r1 : RowAt w a1 n1 c1 1 (l.map B)) :
    Calls Tryd.prog 51 #[.slice a1 n1 c1, .int .i64 2] w (GivesU w (unN l 2)) := unnums_any a1 n1 c1 l 2 w (by decide) r1

set_option maxHeartbeats 3200000 in
theorem hof_any (a : Option Addr) (n c : Nat) (l : List UInt8) (w : World) (r : RowAt w a n c 1 (l.map B)) (ht : Tab w) :
    Calls Tryd.prog 27 #[.slice a n c] w fun e w' => e = .returned (hdV (hofG l)) ∧ Below w.heap.size w w' := by
  obtain ⟨y, hy⟩ : ∃ y, decF l = y := ⟨_, rfl⟩
  obtain ⟨f, q, er⟩ := y
  have HD := Lib.hid hy
  have HG : Hid (hofG l = if er ≠ 0 ∨ f.kind ≠ 2 then hdBad else match unN f.body 2 with
    | some ([x, y], r) => if r ≠ [] ∨ x ≠ f.seq ∨ rightB x y = false then hdBad else (x, y, q, 0)
    | _ => hdBad) := Lib.hid (by unfold hofG; rw [HD.out]; rfl)
  clear hy
  go_enter Tryd.func27, Tryd.ntmps27
  go_wp2_with fail
  (with_reducible refine (fdec_any _ _ _ l _ r ht).mono ?_)
  rintro e w1 ⟨a1, c1, rfl, ho1, hb1⟩
  rw [HD.out] at ho1 ⊢
  simp only at ho1 ⊢
  have hbm := below_made w1 (.cells #[.int .i64 (f.kind : Int), .int .i64 (f.seq : Int), .slice a1 f.body.length c1] 53)
  have hm := heap_alloc_new w1 (.cells #[.int .i64 (f.kind : Int), .int .i64 (f.seq : Int), .slice a1 f.body.length c1] 53)
  have hz : w1.heap.size < (w1.alloc (.cells #[.int .i64 (f.kind : Int), .int .i64 (f.seq : Int), .slice a1 f.body.length c1] 53)).heap.size := by simp
  have q1 := (own_rowAt ho1).below hbm
  have hb2 := below_next hb1 hbm
  clear hb1 ho1
  obtain ⟨bl, hbl'⟩ : ∃ bl, f.body.length = bl := ⟨_, rfl⟩
  have HBL := Lib.hid hbl'
  rw [hbl'] at hm hbm hz q1 hb2 ⊢
  clear hbl'
  obtain ⟨kind, seq, body⟩ := f
  simp only at hm hbm hz q1 hb2 HG HBL ⊢
  obtain ⟨c0, c1', c2, _, _, _⟩ := laid3 hm
  by_cases he : er = 0
  · subst he
    by_cases hk : kind = 2
    · have hk' : ((kind : Int) != 2) = false := by rw [hk]; rfl
      have HK := Lib.hid hk
      clear hk
      go_wp2_with fail
      (with_reducible refine (unnums2 _ _ _ body _ q1).mono ?_)
      rintro e w3 hu
      cases hun : unN body 2 with
      | none =>
        rw [hun] at hu
        obtain ⟨rfl, hb3⟩ := hu
        have HR : Hid (hofG l = hdBad) := Lib.hid (by rw [HG.out, if_neg (by simp [HK.out]), hun])
        clear hun
        have hm3 := (hb3.block _ hz).trans hm
        obtain ⟨d0, d1, d2, _, _, _⟩ := laid3 hm3
        go_wp2_with fail
        go_quiet (fail)
        all_goals
          go_wp2_with fail
          exact bodyPost_ret (v := hdV (hofG l)) (by rw [HR.out]; simp [hdV, hdBad, results, Tryd.results27, go_sem]) rfl ⟨rfl, below_still (below_next hb2 hb3) ⟨_, rfl⟩⟩
      | some p =>
        obtain ⟨vs, rest⟩ := p
        obtain ⟨x, y, rfl, hx, hy⟩ := unN2_some hun
        rw [hun] at hu
        obtain ⟨av, cv, ar, cr, rfl, rv, rr, hb3⟩ := hu
        have HR : Hid (hofG l = if rest ≠ [] ∨ x ≠ seq ∨ rightB x y = false then hdBad else (x, y, q, 0)) := Lib.hid (by rw [HG.out, if_neg (by simp [HK.out]), hun])
        clear hun
        have hm3 := (hb3.block _ hz).trans hm
        obtain ⟨d0, d1, d2, _, _, _⟩ := laid3 hm3
        obtain ⟨b, o, x', rfl, hx', k0⟩ := rv.elem 0 (by simp)
        obtain rfl : x = x' := by simpa using hx'
        obtain ⟨b', o', y', hbo, hy', k1⟩ := rv.elem 1 (by simp)
        cases hbo
        obtain rfl : y = y' := by simpa using hy'
        simp only [Nat.add_zero] at k0
        unfold I at k0 k1
        have hb4 := below_next hb2 hb3
        have e01 : (0 : Int) < 2 := by decide
        have e12 : (1 : Int) < 2 := by decide
        clear hx' hy' hb2 hb3 hm hm3 hz c0 c1' c2 rv rr hbm q1
        by_cases hrest : rest = []
        · subst hrest
          by_cases hxs : x = seq
          · have hxs' : ((x : Int) != (seq : Int)) = false := by rw [hxs]; simp
            have HX := Lib.hid hxs
            clear hxs
            cases hrt : rightB (x : Int) (y : Int) with
            | true =>
              have HQ : Hid (hofG l = (x, y, q, 0)) := Lib.hid (by rw [HR.out, if_neg (by simp [HX.out]; rw [← HX.out]; exact hrt)])
              have HRT := Lib.hid hrt
              clear hrt HR
              go_wp2_with fail
              go_region_held3 (fun w' => w'.cell? ⟨w1.heap.size, 1, none⟩ = some (.int .i64 (seq : Int)) ∧ w'.cell? ⟨b, o, none⟩ = some (.int .i64 (x : Int)) ∧ w'.cell? ⟨b, o + 1, none⟩ = some (.int .i64 (y : Int)))
                (go_keep)
                (first | (go_at_call 40; refine (right_any _ _ _).mono ?_; rintro e w5 ⟨rfl, rfl⟩; rw [HRT.out]))
              all_goals
                go_wp2_with fail
                go_quiet (fail)
              all_goals
                go_wp2_with fail
                exact bodyPost_ret (v := hdV (hofG l)) (by rw [HQ.out]; simp [hdV, results, Tryd.results27, go_sem]) rfl ⟨rfl, below_still hb4 (by first | exact ⟨_, rfl⟩ | exact Still.two _ _ _ | exact Still.three _ _ _ _)⟩
            | false =>
              have HQ : Hid (hofG l = hdBad) := Lib.hid (by rw [HR.out, if_pos (.inr (.inr hrt))])
              have HRT := Lib.hid hrt
              clear hrt HR
              go_wp2_with fail
              go_region_held3 (fun w' => w'.cell? ⟨w1.heap.size, 1, none⟩ = some (.int .i64 (seq : Int)) ∧ w'.cell? ⟨b, o, none⟩ = some (.int .i64 (x : Int)) ∧ w'.cell? ⟨b, o + 1, none⟩ = some (.int .i64 (y : Int)))
                (go_keep)
                (first | (go_at_call 40; refine (right_any _ _ _).mono ?_; rintro e w5 ⟨rfl, rfl⟩; rw [HRT.out]))
              all_goals
                go_wp2_with fail
                exact bodyPost_ret (v := hdV (hofG l)) (by rw [HQ.out]; simp [hdV, hdBad, results, Tryd.results27, go_sem]) rfl ⟨rfl, below_still hb4 (by first | exact ⟨_, rfl⟩ | exact Still.two _ _ _ | exact Still.three _ _ _ _)⟩
          · have hxs' : ((x : Int) != (seq : Int)) = true := by rw [bne_iff_ne]; omega
            have HQ : Hid (hofG l = hdBad) := Lib.hid (by rw [HR.out, if_pos (.inr (.inl hxs))])
            clear hxs HR
            go_wp2_with fail
            go_quiet (fail)
            all_goals
              go_wp2_with fail
              exact bodyPost_ret (v := hdV (hofG l)) (by rw [HQ.out]; simp [hdV, hdBad, results, Tryd.results27, go_sem]) rfl ⟨rfl, below_still hb4 ⟨_, rfl⟩⟩
        · have hp : 0 < rest.length := by
            cases rest with
            | nil => exact absurd rfl hrest
            | cons _ _ => simp
          have HQ : Hid (hofG l = hdBad) := Lib.hid (by rw [HR.out, if_pos (.inl hrest)])
          clear hrest HR
          go_wp2_with fail
          go_quiet (fail)
          all_goals
            go_wp2_with fail
            exact bodyPost_ret (v := hdV (hofG l)) (by rw [HQ.out]; simp [hdV, hdBad, results, Tryd.results27, go_sem]) rfl ⟨rfl, below_still hb4 ⟨_, rfl⟩⟩
    · have hk' : ((kind : Int) != 2) = true := by rw [bne_iff_ne]; omega
      have HQ : Hid (hofG l = hdBad) := Lib.hid (by rw [HG.out, if_pos (.inr hk)])
      clear hk HG
      go_wp2_with fail
      exact bodyPost_ret (v := hdV (hofG l)) (by rw [HQ.out]; simp [hdV, hdBad, results, Tryd.results27, go_sem]) rfl ⟨rfl, hb2⟩
  · have he' : ((er : Int) != 0) = true := by rw [bne_iff_ne]; omega
    have HQ : Hid (hofG l = hdBad) := Lib.hid (by rw [HG.out, if_pos (.inl he)])
    clear he HG
    go_wp2_with fail
    exact bodyPost_ret (v := hdV (hofG l)) (by rw [HQ.out]; simp [hdV, hdBad, results, Tryd.results27, go_sem]) rfl ⟨rfl, hb2⟩
end Go.Proofs.YtffhejaeliphcaaDoor
