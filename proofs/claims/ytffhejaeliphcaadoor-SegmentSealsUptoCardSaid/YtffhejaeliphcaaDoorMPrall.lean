/-
  The walk of the reference's All. Condition: the argument reads as bytes, no longer than 2^40.
-/
import Derived.Test.YtffhejaeliphcaaDoorMPapp
import Derived.Test.YtffhejaeliphcaaDoorMFrdec
namespace Go.Proofs.YtffhejaeliphcaaDoor
open Go.RowKit
set_option linter.unusedVariables false

/-- An append to a row of one's own keeps bytes. -/
theorem row_keeps {wb w4 : World} {n0 : Nat} {v : Value} {k : Nat} {xs : List Value} (hn : n0 ≤ wb.heap.size) (hr : wb.ownsRow n0 55 5 v k xs) (hg : wb.grownBy w4 v.ownBlock) : KeepB n0 wb w4 :=
  KeepB.of hg hn fun j e => by
    rcases hr.2 with ⟨rfl, _⟩ | ⟨g, cap, cur, rfl, hb, hgb, _⟩
    · simp [Value.ownBlock] at e
    · obtain rfl : g = j := by simpa [Value.ownBlock] using e
      refine ⟨hb, fun o hj => ?_⟩
      rw [hgb] at hj; cases hj; rfl

set_option maxRecDepth 8000 in
set_option maxHeartbeats 4000000 in
theorem rall_any (a : Option Addr) (n c : Nat) (l : List UInt8) (w : World) (hn : n ≤ 1099511627776) (r : RowAt w a n c 1 (l.map B)) :
    Calls Tryd.prog 52 #[.slice a n c] w (GivesPs w (scanF l)) := by
  have hln : l.length = n := by simpa using r.len
  have m1 := r.2.2.1
  have m2 := r.2.1
  unfold maxLen at m1
  have HL := Lib.hid hln
  have hb0 := below_made w (.cells #[] 55)
  have ho0 := World.alloc_heap_new w (.cells #[] 55)
  clear hln
  go_enter Tryd.func52, Tryd.ntmps52
  go_wp2_with fail
  go_loopw [5, 6] (fun mv iv wr => ∃ (xs : List It) (p : Nat) (av : Option Addr) (cap : Nat), mv = .slice av xs.length cap ∧ iv = .int .i64 (p : Int) ∧ Chain l (xs.map It.q) p ∧ wr.ownsRow w.heap.size 55 5 (.slice av xs.length cap) xs.length (xs.flatMap It.cells) ∧ Bodies w.heap.size xs wr ∧ Below w.heap.size w wr) (fun _ iv _ => n - (intOf iv).toNat)
  case atStart => exact ⟨[], 0, _, _, rfl, rfl, .nil, ⟨rfl, .inr ⟨w.heap.size, 0, #[], rfl, Nat.le_refl _, ho0, Nat.le_refl _, by decide, rfl, rfl⟩⟩, Bodies.nil _ _, hb0⟩
  case round =>
    obtain ⟨xs, p, av, cap, rfl, rfl, hch, hrow, hbo, hb⟩ := hrel
    clear hb0 ho0
    have hpn : p ≤ n := by rw [← HL.out]; exact hch.le.1
    by_cases hlt : p < n
    · obtain ⟨a', hcut, r1⟩ := cut_from slB (r.below hb) p hpn
      rw [Nat.mul_one, ← List.map_drop] at r1
      have hd := frdec_any a' (n - p) (c - p) (l.drop p) wr r1
      obtain ⟨y, hy⟩ : ∃ y, decF (l.drop p) = y := ⟨_, rfl⟩
      rw [hy] at hd
      obtain ⟨f, k, e⟩ := y
      unfold GivesF at hd
      simp only at hd
      by_cases he : e = 0
      · subst he
        rw [show (((0 : Nat) : Int)) = 0 from rfl] at hd
        have HD := Lib.hid hd
        have hpl : p < l.length := by rw [HL.out]; exact hlt
        have ho := pc_ok (Nat.le_of_lt hpl) hy
        have HO := Lib.hid ho
        have hk20 := ho.size
        have hfit := ho.fits
        simp only at hk20 hfit
        rw [HL.out] at hfit
        have hle := hch.le
        rw [List.length_map] at hle
        have hby : (xs.length + 1) * 56 ≤ 140737488355328 := by omega
        have HC := Lib.hid (chain_map (x := ⟨⟨p, k, f⟩, none, 0⟩) hch hpl hy)
        have hk1 : 1 ≤ k := by omega
        clear hd hy hpl ho hle hch r1 hk20
        go_wp2_with fail
        (with_reducible refine (HD.out).mono ?_)
        rintro e w1 ⟨ab, cb, rfl, hob, hb1⟩
        have hm2 := below_made w1 (.cells #[.int .i64 (f.kind : Int), .int .i64 (f.seq : Int), .slice ab f.body.length cb] 53)
        have hba := below_next hb1 hm2
        have hm3 := below_made (w1.alloc (.cells #[.int .i64 (f.kind : Int), .int .i64 (f.seq : Int), .slice ab f.body.length cb] 53)) (.cells #[.int .i64 (p : Int), .int .i64 (k : Int), .int .i64 (f.kind : Int), .int .i64 (f.seq : Int), .slice ab f.body.length cb] 55)
        have hbb := below_next hba hm3
        have hrow3 := own_below hrow hbb
        have hsrc3 := rowAt_lit (w1.alloc (.cells #[.int .i64 (f.kind : Int), .int .i64 (f.seq : Int), .slice ab f.body.length cb] 53)) [.int .i64 (p : Int), .int .i64 (k : Int), .int .i64 (f.kind : Int), .int .i64 (f.seq : Int), .slice ab f.body.length cb] 1 5 55 rfl (by decide)
        rw [World.size_alloc] at hsrc3
        have hsz := hb.size
        have hbo3 : Bodies w.heap.size (xs ++ [⟨⟨p, k, f⟩, ab, cb⟩]) _ := (hbo.keep (KeepB.calls hbb hsz)).snoc (own_mono (own_below (own_below hob hm2) hm3) hsz)
        have hb3 := hb.trans (hbb.mono hsz)
        clear hm2 hba hm3 hbb hrow hob hb1 hbo hb HD
        go_wp2_with (at_builtin; refine wpList_app rfl _ _ 28 rfl slPl rfl hrow3 rfl hsrc3 (by simp [Value.oneCell']) hby hb3.size fun a4 c4 w4 hown4 hgr4 => ?_)
        have hk4 := row_keeps hb3.size hrow3 hgr4
        go_roundw
        case rel => exact ⟨xs ++ [⟨⟨p, k, f⟩, ab, cb⟩], p + k, a4, c4, by simp, by go_num, by have h := HC.out; rw [List.map_append, List.map_singleton] at h ⊢; exact h, by rw [List.length_append, List.length_singleton, List.flatMap_append, List.flatMap_singleton]; exact hown4, hbo3.keep hk4, hb3.trans hk4.below⟩
        case measure => simp [intOf]; omega
      · have hne : ((e : Int) != 0) = true := by rw [bne_iff_ne]; omega
        have hsc := scan_is hch (.inr ⟨by rw [HL.out]; exact hlt, by rw [hy], he⟩)
        have HSC := Lib.hid hsc
        have HD := Lib.hid hd
        clear hd hy he hch r1 hsc
        go_wp2_with fail
        (with_reducible refine (HD.out).mono ?_)
        rintro x w1 ⟨ab, cb, rfl, hob, hb1⟩
        have hba := below_next hb1 (below_made w1 (.cells #[.int .i64 (f.kind : Int), .int .i64 (f.seq : Int), .slice ab f.body.length cb] 53))
        have hrow3 := own_below hrow hba
        have hbo3 := hbo.keep (KeepB.calls (n₀ := w.heap.size) hba hb.size)
        have hb3 := hb.trans (hba.mono hb.size)
        clear hob hb1 hba hrow hbo hb HD
        go_wp2_with fail
        refine bodyPost_ret (results_tmp3 rfl _ _ _) rfl ?_
        rw [HSC.out]
        exact ⟨xs, av, cap, rfl, rfl, ⟨hrow3, hbo3⟩, hb3⟩
    · obtain rfl : p = n := by omega
      have hsc := scan_is hch (.inl ⟨HL.out.symm, rfl⟩)
      have HSC := Lib.hid hsc
      clear hsc hch
      go_wp2_with fail
      refine bodyPost_ret (results_tmp3 rfl _ _ _) rfl ?_
      rw [HSC.out]
      exact ⟨xs, av, cap, rfl, rfl, ⟨hrow, hbo⟩, hb⟩
end Go.Proofs.YtffhejaeliphcaaDoor
