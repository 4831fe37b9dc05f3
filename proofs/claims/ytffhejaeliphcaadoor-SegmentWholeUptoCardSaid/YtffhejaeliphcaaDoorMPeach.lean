/-
  The closure of scan.Each: it goes by the scan's way. Conditions: the captured slice reads as bytes; the program's table of nibbles holds what its text lays.
-/
import Derived.Test.YtffhejaeliphcaaDoorMProw
import Derived.Shelf.Abstract
import Derived.Shelf.RegionOpen
import Derived.WalkKit
import Derived.OwnWalkIn
import Derived.TacticsInMore
import Derived.LoopNIn
import Derived.LoopIn
namespace Go.Proofs.YtffhejaeliphcaaDoor
open Go.RowKit Go.Shelf
set_option linter.unusedVariables false
attribute [local go_sem] Oper.semAt_some

theorem below_blk2 {w w' : World} {b : Nat} {x : Obj} (hb : Below w.heap.size w w') (h : w.heap[b]? = some x) : w'.heap[b]? = some x := (hb.block _ (lt_of_block h)).trans h

set_option maxRecDepth 100000 in
set_option maxHeartbeats 2000000 in
theorem each_goes (w00 w : World) (h00 : Below w00.heap.size w00 w) (bx : Nat) (a : Option Addr) (n c : Nat) (l : List UInt8) (r : RowAt w00 a n c 1 (l.map B)) (ht : Tab w00)
    (hbx : w.heap[bx]? = some (.cells #[.slice a n c] 22 (0, 0))) (m : Nat) (hm : 1 ≤ m) :
    GoesBy Fence.wide m Tryd.prog 74 #[.pointer (some ⟨bx, 0, none⟩)] (wayE l w00.heap.size w.heap.size) w := by
  intro lp J Jx W hW aJ aJx hY hJ0
  have hln : l.length = n := by simpa using r.len
  have m1 := r.2.2.1
  have m2 := r.2.1
  unfold maxLen at m1
  have hbW : Below w00.heap.size w00 W := h00.trans (hW.mono h00.size)
  have hbxW : W.heap[bx]? = some (.cells #[.slice a n c] 22 (0, 0)) := (hW.block _ (lt_of_block hbx)).trans hbx
  have hszW := hW.size
  have h00s := h00.size
  obtain ⟨lo, hlo⟩ : ∃ lo, w.heap.size = lo := ⟨_, rfl⟩
  rw [hlo] at hY hszW h00s ⊢
  have HL := Lib.hid hln
  have HY := Lib.hid hY
  clear hW hbx hlo h00 hln hY
  refine callsIn_of_wp Tryd.func74 rfl trivial ?_ rfl
  simp only [Tryd.ntmps74, List.size_toArray, List.length_cons, List.length_nil, Nat.reduceAdd, Nat.reduceSub, Array.replicate_succ, Array.replicate_zero, List.push_toArray, List.append_toArray, List.nil_append, List.cons_append]
  gi_wp2
  gi_loopw [3] (fun iv wr => ∃ (pre : List It) (p : Nat), iv = .int .i64 (p : Int) ∧ Chain l (pre.map It.q) p ∧ Bodies lo pre wr ∧ J pre wr ∧ Below w00.heap.size w00 wr ∧ wr.heap[bx]? = some (.cells #[.slice a n c] 22 (0, 0)) ∧ lo ≤ wr.heap.size) (fun iv _ => n - (intOf iv).toNat)
  case atStart => exact ⟨[], 0, rfl, .nil, Bodies.nil _ _, hJ0, hbW, hbxW, hszW⟩
  case round =>
    clear hJ0 hbW hbxW hszW
    obtain ⟨pre, p, rfl, hch, hbo, hJ, hb, hbx, hsz⟩ := hrel
    have cbx : wr.cell? ⟨bx, 0, none⟩ = some (.slice a n c) := cell_blk hbx rfl
    have hpn : p ≤ n := by rw [← HL.out]; exact hch.le.1
    by_cases hlt : p < n
    · obtain ⟨a', hcut, r1⟩ := cut_from slB (r.below hb) p hpn
      rw [Nat.mul_one, ← List.map_drop] at r1
      have t1 := ht.below hb
      have hd := fdec_any a' (n - p) (c - p) (l.drop p) wr r1 t1
      obtain ⟨y, hy⟩ : ∃ y, decF (l.drop p) = y := ⟨_, rfl⟩
      rw [hy] at hd
      obtain ⟨f, k, e⟩ := y
      have HCH := Lib.hid hch
      by_cases he : e = 0
      · subst he
        have hpl : p < l.length := by rw [HL.out]; exact hlt
        have ho := pc_ok (Nat.le_of_lt hpl) hy
        have hk20 := ho.size
        have hfit := ho.fits
        simp only at hk20 hfit
        rw [HL.out] at hfit
        have HDY := Lib.hid hy
        have HPL := Lib.hid hpl
        clear hy hpl ho hch r1
        unfold GivesF at hd
        simp only at hd
        rw [show (((0 : Nat) : Int)) = 0 from rfl] at hd
        have HD := Lib.hid hd
        clear hd
        have HK20 := Lib.hid hk20
        have hk1 : 1 ≤ k := by omega
        clear hk20
        gi_wp2_with (refine ⟨trivial, ?_⟩; gi_at_call 34; refine (callsIn_wide.2 HD.out).mono ?_; rintro e w1 ⟨ab, cb, rfl, hob, hb1⟩; have hbm := below_made w1 (.cells #[.int .i64 (f.kind : Int), .int .i64 (f.seq : Int), .slice ab f.body.length cb] 53); have hba := below_next hb1 hbm; have hY2 := HY.out pre ⟨⟨p, k, f⟩, ab, cb⟩ _ (aJ _ _ _ hJ (grown_of_below hba)) ⟨HCH.out, HPL.out, HDY.out, (hbo.keep (KeepB.calls hba (Nat.le_trans h00s hsz))).snoc (own_mono (own_below hob hbm) hsz)⟩; obtain ⟨fn, tmps, assign, body, hy, hR⟩ := hY2; dsimp only [wayE, It.fr] at hy)
        refine hR.mono ?_
        have hba' := below_next hb hba
        have hbx2 := below_blk2 hba hbx
        have hs2 := hba.size
        have hbo2 : Bodies lo (pre ++ [⟨⟨p, k, f⟩, ab, cb⟩]) _ := (hbo.keep (KeepB.calls hba (Nat.le_trans h00s hsz))).snoc (own_mono (own_below hob hbm) hsz)
        clear hR hy hbo hJ hob hb1 hbm hba hb hbx
        rintro e W3 (⟨rfl, hJ3, hk3⟩ | ⟨rfl, hJx3, hk3⟩)
        · gi_wp2
          go_roundw
          case rel => exact ⟨pre ++ [⟨⟨p, k, f⟩, ab, cb⟩], p + k, by go_num, chain_map HCH.out HPL.out HDY.out, hbo2.keep hk3, hJ3, hba'.trans hk3.below, hk3.same _ _ hbx2 (by simp [byteish]), Nat.le_trans (Nat.le_trans hsz hs2) hk3.below.size⟩
          case measure => simp [intOf]; omega
        · gi_wp2
          refine bodyPost_ret (results_none rfl _ _ _) rfl ?_
          exact ⟨⟨_, rfl⟩, .inr ⟨_, ⟨⟨_, chain_map HCH.out HPL.out HDY.out⟩, hbo2.keep hk3⟩, hJx3⟩⟩
      · have hne : ((e : Int) != 0) = true := by rw [bne_iff_ne]; omega
        have hend : EndsAt l p e := .inr ⟨by rw [HL.out]; exact hlt, by rw [hy], he⟩
        have HE := Lib.hid hend
        clear hy hend he hch r1
        unfold GivesF at hd
        simp only at hd
        have HD := Lib.hid hd
        clear hd
        gi_wp2_with (refine ⟨trivial, ?_⟩; gi_at_call 34; refine (callsIn_wide.2 HD.out).mono ?_; rintro e w1 ⟨ab, cb, rfl, hob, hb1⟩; have hbm := below_made w1 (.cells #[.int .i64 (f.kind : Int), .int .i64 (f.seq : Int), .slice ab f.body.length cb] 53); have hba := below_next hb1 hbm)
        all_goals refine ⟨fun _ h => (by cases h), ?_⟩
        all_goals gi_wp2
        all_goals refine bodyPost_ret (results_none rfl _ _ _) rfl ?_
        all_goals exact ⟨⟨_, rfl⟩, .inl ⟨pre, ⟨⟨_, _, HCH.out, HE.out⟩, hbo.keep (KeepB.calls hba (Nat.le_trans h00s hsz))⟩, aJ _ _ _ hJ (grown_of_below hba)⟩⟩
    · obtain rfl : p = n := by omega
      gi_wp2
      go_end0
      exact ⟨⟨_, rfl⟩, .inl ⟨pre, ⟨⟨_, _, hch, .inl ⟨HL.out.symm, rfl⟩⟩, hbo⟩, hJ⟩⟩
end Go.Proofs.YtffhejaeliphcaaDoor
