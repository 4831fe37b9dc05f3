/-
  The walks of HeaderOf, of both sides. Conditions: the argument reads as bytes; the table of nibbles holds what the text lays.
-/
import Derived.Test.YtffhejaeliphcaaDoorMHwalk
namespace Go.Proofs.YtffhejaeliphcaaDoor
open Go.RowKit
set_option linter.unusedVariables false

/-- What HeaderOf gives. -/
def hdV (h : Hd) : Value := .tuple #[.int .i64 (h.1 : Int), .int .i64 (h.2.1 : Int), .int .i64 (h.2.2.1 : Int), .int .i64 (h.2.2.2 : Int)]

theorem unN2_some {l : List UInt8} {vs : List Nat} {r : List UInt8} (h : unN l 2 = some (vs, r)) : ∃ x y, vs = [x, y] ∧ x ≤ 2199023255552 ∧ y ≤ 2199023255552 := by
  rw [unN_two] at h
  split at h
  · simp at h
  · split at h
    · simp at h
    · simp only [Option.some.injEq, Prod.mk.injEq] at h
      exact ⟨_, _, h.1.symm, by omega, by omega⟩

theorem unnums2 (a1 : Option Addr) (n1 c1 : Nat) (l : List UInt8) (w : World) (r1 : RowAt w a1 n1 c1 1 (l.map B)) :
    Calls Tryd.prog 51 #[.slice a1 n1 c1, .int .i64 2] w (GivesU w (unN l 2)) := unnums_any a1 n1 c1 l 2 w (by decide) r1

set_option maxHeartbeats 3200000 in
theorem hof_any (a : Option Addr) (n c : Nat) (l : List UInt8) (w : World) (r : RowAt w a n c 1 (l.map B)) (ht : Tab w) :
    Calls Tryd.prog 27 #[.slice a n c] w fun e w' => e = .returned (hdV (hofG l)) ∧ Below w.heap.size w w' := by
  obtain ⟨y, hy⟩ : ∃ y, decF l = y := ⟨_, rfl⟩
  obtain ⟨f, q, er⟩ := y
  have HD := Lib.hid hy
  have HG : Hid (hofG l = if er ≠ 0 ∨ f.kind ≠ 2 then hdBad else match unN f.body 2 with
    | some ([x, y], r) => if r ≠ [] ∨ x ≠ f.seq ∨ rightB x y = false then hdBad else (x, y, q, 0)
    | _ => hdBad) := Lib.hid (by unfold hofG; rw [HD.out]; rfl)
  clear hy
  go_enter Tryd.func27, Tryd.ntmps27
  go_wp2_with fail
  (with_reducible refine (fdec_any _ _ _ l _ r ht).mono ?_)
  rintro e w1 ⟨a1, c1, rfl, ho1, hb1⟩
  rw [HD.out] at ho1 ⊢
  simp only at ho1 ⊢
  have hbm := below_made w1 (.cells #[.int .i64 (f.kind : Int), .int .i64 (f.seq : Int), .slice a1 f.body.length c1] 53)
  have hm := heap_alloc_new w1 (.cells #[.int .i64 (f.kind : Int), .int .i64 (f.seq : Int), .slice a1 f.body.length c1] 53)
  have hz : w1.heap.size < (w1.alloc (.cells #[.int .i64 (f.kind : Int), .int .i64 (f.seq : Int), .slice a1 f.body.length c1] 53)).heap.size := by simp
  have q1 := (own_rowAt ho1).below hbm
  have hb2 := below_next hb1 hbm
  clear hb1 ho1
  obtain ⟨bl, hbl'⟩ : ∃ bl, f.body.length = bl := ⟨_, rfl⟩
  have HBL := Lib.hid hbl'
  rw [hbl'] at hm hbm hz q1 hb2 ⊢
  clear hbl'
  obtain ⟨kind, seq, body⟩ := f
  simp only at hm hbm hz q1 hb2 HG HBL ⊢
  obtain ⟨c0, c1', c2, _, _, _⟩ := laid3 hm
  by_cases he : er = 0
  · subst he
    by_cases hk : kind = 2
    · have hk' : ((kind : Int) != 2) = false := by rw [hk]; rfl
      have HK := Lib.hid hk
      clear hk
      go_wp2_with fail
      (with_reducible refine (unnums2 _ _ _ body _ q1).mono ?_)
      rintro e w3 hu
      cases hun : unN body 2 with
      | none =>
        rw [hun] at hu
        obtain ⟨rfl, hb3⟩ := hu
        have HR : Hid (hofG l = hdBad) := Lib.hid (by rw [HG.out, if_neg (by simp [HK.out]), hun])
        clear hun
        have hm3 := (hb3.block _ hz).trans hm
        obtain ⟨d0, d1, d2, _, _, _⟩ := laid3 hm3
        go_wp2_with fail
        go_quiet (fail)
        all_goals
          go_wp2_with fail
          exact bodyPost_ret (v := hdV (hofG l)) (by rw [HR.out]; simp [hdV, hdBad, results, Tryd.results27, go_sem]) rfl ⟨rfl, below_still (below_next hb2 hb3) ⟨_, rfl⟩⟩
      | some p =>
        obtain ⟨vs, rest⟩ := p
        obtain ⟨x, y, rfl, hx, hy⟩ := unN2_some hun
        rw [hun] at hu
        obtain ⟨av, cv, ar, cr, rfl, rv, rr, hb3⟩ := hu
        have HR : Hid (hofG l = if rest ≠ [] ∨ x ≠ seq ∨ rightB x y = false then hdBad else (x, y, q, 0)) := Lib.hid (by rw [HG.out, if_neg (by simp [HK.out]), hun])
        clear hun
        have hm3 := (hb3.block _ hz).trans hm
        obtain ⟨d0, d1, d2, _, _, _⟩ := laid3 hm3
        obtain ⟨b, o, x', rfl, hx', k0⟩ := rv.elem 0 (by simp)
        obtain rfl : x = x' := by simpa using hx'
        obtain ⟨b', o', y', hbo, hy', k1⟩ := rv.elem 1 (by simp)
        cases hbo
        obtain rfl : y = y' := by simpa using hy'
        simp only [Nat.add_zero] at k0
        unfold I at k0 k1
        have hb4 := below_next hb2 hb3
        have e01 : (0 : Int) < 2 := by decide
        have e12 : (1 : Int) < 2 := by decide
        clear hx' hy' hb2 hb3 hm hm3 hz c0 c1' c2 rv rr hbm q1
        by_cases hrest : rest = []
        · subst hrest
          by_cases hxs : x = seq
          · have hxs' : ((x : Int) != (seq : Int)) = false := by rw [hxs]; simp
            have HX := Lib.hid hxs
            clear hxs
            cases hrt : rightB (x : Int) (y : Int) with
            | true =>
              have HQ : Hid (hofG l = (x, y, q, 0)) := Lib.hid (by rw [HR.out, if_neg (by simp [HX.out]; rw [← HX.out]; exact hrt)])
              have HRT := Lib.hid hrt
              clear hrt HR
              go_wp2_with fail
              go_region_held3 (fun w' => w'.cell? ⟨w1.heap.size, 1, none⟩ = some (.int .i64 (seq : Int)) ∧ w'.cell? ⟨b, o, none⟩ = some (.int .i64 (x : Int)) ∧ w'.cell? ⟨b, o + 1, none⟩ = some (.int .i64 (y : Int)))
                (go_keep)
                (first | (go_at_call 40; refine (right_any _ _ _).mono ?_; rintro e w5 ⟨rfl, rfl⟩; rw [HRT.out]))
              all_goals
                go_wp2_with fail
                go_quiet (fail)
              all_goals
                go_wp2_with fail
                exact bodyPost_ret (v := hdV (hofG l)) (by rw [HQ.out]; simp [hdV, results, Tryd.results27, go_sem]) rfl ⟨rfl, below_still hb4 (by first | exact ⟨_, rfl⟩ | exact Still.two _ _ _ | exact Still.three _ _ _ _)⟩
            | false =>
              have HQ : Hid (hofG l = hdBad) := Lib.hid (by rw [HR.out, if_pos (.inr (.inr hrt))])
              have HRT := Lib.hid hrt
              clear hrt HR
              go_wp2_with fail
              go_region_held3 (fun w' => w'.cell? ⟨w1.heap.size, 1, none⟩ = some (.int .i64 (seq : Int)) ∧ w'.cell? ⟨b, o, none⟩ = some (.int .i64 (x : Int)) ∧ w'.cell? ⟨b, o + 1, none⟩ = some (.int .i64 (y : Int)))
                (go_keep)
                (first | (go_at_call 40; refine (right_any _ _ _).mono ?_; rintro e w5 ⟨rfl, rfl⟩; rw [HRT.out]))
              all_goals
                go_wp2_with fail
                exact bodyPost_ret (v := hdV (hofG l)) (by rw [HQ.out]; simp [hdV, hdBad, results, Tryd.results27, go_sem]) rfl ⟨rfl, below_still hb4 (by first | exact ⟨_, rfl⟩ | exact Still.two _ _ _ | exact Still.three _ _ _ _)⟩
          · have hxs' : ((x : Int) != (seq : Int)) = true := by rw [bne_iff_ne]; omega
            have HQ : Hid (hofG l = hdBad) := Lib.hid (by rw [HR.out, if_pos (.inr (.inl hxs))])
            clear hxs HR
            go_wp2_with fail
            go_quiet (fail)
            all_goals
              go_wp2_with fail
              exact bodyPost_ret (v := hdV (hofG l)) (by rw [HQ.out]; simp [hdV, hdBad, results, Tryd.results27, go_sem]) rfl ⟨rfl, below_still hb4 ⟨_, rfl⟩⟩
        · have hp : 0 < rest.length := by
            cases rest with
            | nil => exact absurd rfl hrest
            | cons _ _ => simp
          have HQ : Hid (hofG l = hdBad) := Lib.hid (by rw [HR.out, if_pos (.inl hrest)])
          clear hrest HR
          go_wp2_with fail
          go_quiet (fail)
          all_goals
            go_wp2_with fail
            exact bodyPost_ret (v := hdV (hofG l)) (by rw [HQ.out]; simp [hdV, hdBad, results, Tryd.results27, go_sem]) rfl ⟨rfl, below_still hb4 ⟨_, rfl⟩⟩
    · have hk' : ((kind : Int) != 2) = true := by rw [bne_iff_ne]; omega
      have HQ : Hid (hofG l = hdBad) := Lib.hid (by rw [HG.out, if_pos (.inr hk)])
      clear hk HG
      go_wp2_with fail
      exact bodyPost_ret (v := hdV (hofG l)) (by rw [HQ.out]; simp [hdV, hdBad, results, Tryd.results27, go_sem]) rfl ⟨rfl, hb2⟩
  · have he' : ((er : Int) != 0) = true := by rw [bne_iff_ne]; omega
    have HQ : Hid (hofG l = hdBad) := Lib.hid (by rw [HG.out, if_pos (.inl he)])
    clear he HG
    go_wp2_with fail
    exact bodyPost_ret (v := hdV (hofG l)) (by rw [HQ.out]; simp [hdV, hdBad, results, Tryd.results27, go_sem]) rfl ⟨rfl, hb2⟩
end Go.Proofs.YtffhejaeliphcaaDoor
