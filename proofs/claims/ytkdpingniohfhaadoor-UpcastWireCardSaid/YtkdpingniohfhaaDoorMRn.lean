/-
  The walk of the reference's Next. Condition: the argument reads as bytes.
  The walk of the reference's Decode of a record. Condition: the argument reads as bytes.
-/
import Derived.Test.YtkdpingniohfhaaDoorMDn
import Derived.Deep.Cut
import Derived.Test.YtkdpingniohfhaaDoorMRfp
namespace Go.Proofs.YtkdpingniohfhaaDoor
open Go.RowKit
set_option linter.unusedVariables false

theorem two_fld (w : World) : ((w.alloc (.cells Fld.zero.row 81)).alloc (.cells Fld.zero.row 81)).heap[w.heap.size]? = some (.cells Fld.zero.row 81 (0, 0)) ∧ ((w.alloc (.cells Fld.zero.row 81)).alloc (.cells Fld.zero.row 81)).heap[w.heap.size + 1]? = some (.cells Fld.zero.row 81 (0, 0)) ∧
    Below w.heap.size w ((w.alloc (.cells Fld.zero.row 81)).alloc (.cells Fld.zero.row 81)) := by
  have h1 := below_made w (.cells Fld.zero.row 81)
  have h2 := below_made (w.alloc (.cells Fld.zero.row 81)) (.cells Fld.zero.row 81)
  have e : (w.alloc (.cells Fld.zero.row 81)).heap.size = w.heap.size + 1 := by simp
  refine ⟨below_blk' h2 (heap_alloc_new w _), ?_, below_next h1 h2⟩
  have := heap_alloc_new (w.alloc (.cells Fld.zero.row 81)) (.cells Fld.zero.row 81)
  rwa [e] at this

set_option maxHeartbeats 3200000 in
theorem rnext_any (a : Option Addr) (n c : Nat) (l : List UInt8) (last : Nat) (w : World) (hl : last ≤ 31) (r : RowAt w a n c 1 (l.map B)) :
    Calls Tryd.prog 49 #[.slice a n c, .int .i64 (last : Int)] w (GivesN w (nextF l last)) := by
  have e1 : l.length = n := by simpa using r.len
  have m1 := r.2.2.1
  have m2 := r.2.1
  unfold maxLen at m1
  obtain ⟨x1, hx1⟩ : ∃ x, dec l = x := ⟨_, rfl⟩
  obtain ⟨k, p, er⟩ := x1
  obtain ⟨x2, hx2⟩ : ∃ x, dec (l.drop p) = x := ⟨_, rfl⟩
  obtain ⟨u, m, er2⟩ := x2
  have d1 := dec_bd l
  have d2 := dec_bd (l.drop p)
  rw [hx1] at d1
  rw [hx2] at d2
  simp only [List.length_drop] at d1 d2
  obtain ⟨d11, d12, d13, d14⟩ := d1
  obtain ⟨d21, d22, d23, d24⟩ := d2
  have d11' : k < 2 ^ 64 := by omega
  have d21' : u < 2 ^ 64 := by omega
  have HN := Lib.hid (nextF_of (last := last) hx1 hx2)
  have HV1 : Hid (decV l = .tuple #[.int .u64 (k : Int), .int .i64 (p : Int), .int .i64 (er : Int)]) := Lib.hid (by unfold decV; rw [hx1])
  have HV2 : Hid (decV (l.drop p) = .tuple #[.int .u64 (u : Int), .int .i64 (m : Int), .int .i64 (er2 : Int)]) := Lib.hid (by unfold decV; rw [hx2])
  have H1 := Lib.hid e1
  clear hx1 hx2 d11 d21
  obtain ⟨hR, hZ, hab⟩ := two_fld w
  have HW := Lib.hid (⟨_, rfl⟩ : ∃ wm, (w.alloc (.cells Fld.zero.row 81)).alloc (.cells Fld.zero.row 81) = wm)
  have rm := r.below hab
  have hsz := hab.size
  go_enter Tryd.func49, Tryd.ntmps49
  go_upto_region 2 with (fail)
  rw [show (#[.int .i64 0, .bool false, .int .u64 0, .slice none 0 0] : Array Value) = Fld.zero.row from rfl]
  obtain ⟨wm, hwm⟩ := HW.out
  rw [hwm] at hR hZ hab hsz rm ⊢
  clear hwm HW
  go_wp2_with fail
  (with_reducible refine (rdec_any _ _ _ l _ rm).mono ?_)
  rintro x w1 ⟨rfl, rfl⟩
  rw [HV1.out]
  by_cases he : er ≠ 0
  · have he' : ((er : Int) != 0) = true := by rw [bne_iff_ne]; omega
    have HQ : Hid (nextF l last = (default, 0, er)) := Lib.hid (by rw [HN.out, if_pos he])
    clear he HN
    go_wp2_with (first
      | (with_reducible refine wpList_load_row rfl 81 (.tmp 7) rfl (w.heap.size + 1) rfl _ Fld.zero.row (0, 0) _ hZ Tryd.underlying81 rfl (by with_unfolding_all exact info_fld) ?_)
      | (with_reducible refine wpList_store_row rfl 81 (.tmp 4) (.tmp 22) rfl w.heap.size Fld.zero.row rfl rfl _ _ hR (by with_unfolding_all exact info_fld) (by with_unfolding_all exact rfl) (by with_unfolding_all exact rfl) ?_))
    refine bodyPost_ret (v := .tuple #[.agg Fld.zero.row, .int .i64 0, .int .i64 (er : Int)]) (ret_fld3 rfl rfl (setRow_heap _ w.heap.size _ Fld.zero.row _ _ hR) rfl rfl) rfl ?_
    rw [HQ.out]
    exact ⟨Fld.zero, rfl, (zero_is _).1, (zero_is _).2, below_row hab (Nat.le_refl _) _⟩
  · have he0 : er = 0 := by omega
    subst he0
    have HN2 := Lib.hid HN.out
    rw [if_neg he] at HN2
    clear he HN
    by_cases hk2 : k < 2
    · have HQ : Hid (nextF l last = (default, 0, 20)) := Lib.hid (by rw [HN2.out, if_pos (.inl hk2)])
      clear HN2
      go_wp2_with (first
        | (with_reducible refine wpList_load_row rfl 81 (.tmp 7) rfl (w.heap.size + 1) rfl _ Fld.zero.row (0, 0) _ hZ Tryd.underlying81 rfl (by with_unfolding_all exact info_fld) ?_)
        | (with_reducible refine wpList_store_row rfl 81 (.tmp 4) (.tmp 30) rfl w.heap.size Fld.zero.row rfl rfl _ _ hR (by with_unfolding_all exact info_fld) (by with_unfolding_all exact rfl) (by with_unfolding_all exact rfl) ?_))
      refine bodyPost_ret (v := .tuple #[.agg Fld.zero.row, .int .i64 0, .int .i64 20]) (ret_fld3 rfl rfl (setRow_heap _ w.heap.size _ Fld.zero.row _ _ hR) rfl rfl) rfl ?_
      rw [HQ.out]
      exact ⟨Fld.zero, rfl, (zero_is _).1, (zero_is _).2, below_row hab (Nat.le_refl _) _⟩
    by_cases hk63 : 63 < k
    · have HQ : Hid (nextF l last = (default, 0, 20)) := Lib.hid (by rw [HN2.out, if_pos (.inr hk63)])
      clear HN2
      go_wp2_with (first
        | (with_reducible refine wpList_load_row rfl 81 (.tmp 7) rfl (w.heap.size + 1) rfl _ Fld.zero.row (0, 0) _ hZ Tryd.underlying81 rfl (by with_unfolding_all exact info_fld) ?_)
        | (with_reducible refine wpList_store_row rfl 81 (.tmp 4) (.tmp 30) rfl w.heap.size Fld.zero.row rfl rfl _ _ hR (by with_unfolding_all exact info_fld) (by with_unfolding_all exact rfl) (by with_unfolding_all exact rfl) ?_))
      refine bodyPost_ret (v := .tuple #[.agg Fld.zero.row, .int .i64 0, .int .i64 20]) (ret_fld3 rfl rfl (setRow_heap _ w.heap.size _ Fld.zero.row _ _ hR) rfl rfl) rfl ?_
      rw [HQ.out]
      exact ⟨Fld.zero, rfl, (zero_is _).1, (zero_is _).2, below_row hab (Nat.le_refl _) _⟩
    rw [if_neg (by omega)] at HN2
    by_cases hkl : k / 2 ≤ last
    · have HQ : Hid (nextF l last = (default, 0, 21)) := Lib.hid (by rw [HN2.out, if_pos hkl])
      have hkl' : ((k / 2 : Nat) : Int) ≤ (last : Int) := by omega
      clear HN2
      go_wp2_with (first
        | (with_reducible refine wpList_load_row rfl 81 (.tmp 7) rfl (w.heap.size + 1) rfl _ Fld.zero.row (0, 0) _ hZ Tryd.underlying81 rfl (by with_unfolding_all exact info_fld) ?_)
        | (with_reducible refine wpList_store_row rfl 81 (.tmp 4) (.tmp 36) rfl w.heap.size Fld.zero.row rfl rfl _ _ hR (by with_unfolding_all exact info_fld) (by with_unfolding_all exact rfl) (by with_unfolding_all exact rfl) ?_))
      refine bodyPost_ret (v := .tuple #[.agg Fld.zero.row, .int .i64 0, .int .i64 21]) (ret_fld3 rfl rfl (setRow_heap _ w.heap.size _ Fld.zero.row _ _ hR) rfl rfl) rfl ?_
      rw [HQ.out]
      exact ⟨Fld.zero, rfl, (zero_is _).1, (zero_is _).2, below_row hab (Nat.le_refl _) _⟩
    rw [if_neg hkl] at HN2
    have hkl' : ¬ ((k / 2 : Nat) : Int) ≤ (last : Int) := by omega
    obtain ⟨a', hcut, r3⟩ := cut_from slB rm p (by omega)
    rw [Nat.mul_one, ← List.map_drop] at r3
    go_wp2_with fail
    (with_reducible refine (rdec_any _ _ _ (l.drop p) _ r3).mono ?_)
    rintro x w1 ⟨rfl, rfl⟩
    rw [HV2.out]
    by_cases he2 : er2 ≠ 0
    · have he' : ((er2 : Int) != 0) = true := by rw [bne_iff_ne]; omega
      have HQ : Hid (nextF l last = (default, 0, er2)) := Lib.hid (by rw [HN2.out, if_pos he2])
      clear he2 HN2
      go_wp2_with (first
        | (with_reducible refine wpList_load_row rfl 81 (.tmp 7) rfl (w.heap.size + 1) rfl _ Fld.zero.row (0, 0) _ hZ Tryd.underlying81 rfl (by with_unfolding_all exact info_fld) ?_)
        | (with_reducible refine wpList_store_row rfl 81 (.tmp 4) (.tmp 47) rfl w.heap.size Fld.zero.row rfl rfl _ _ hR (by with_unfolding_all exact info_fld) (by with_unfolding_all exact rfl) (by with_unfolding_all exact rfl) ?_))
      refine bodyPost_ret (v := .tuple #[.agg Fld.zero.row, .int .i64 0, .int .i64 (er2 : Int)]) (ret_fld3 rfl rfl (setRow_heap _ w.heap.size _ Fld.zero.row _ _ hR) rfl rfl) rfl ?_
      rw [HQ.out]
      exact ⟨Fld.zero, rfl, (zero_is _).1, (zero_is _).2, below_row hab (Nat.le_refl _) _⟩
    have he0 : er2 = 0 := by omega
    subst he0
    rw [if_neg he2] at HN2
    clear he2
    by_cases hu0 : u = 0
    · subst hu0
      have HQ : Hid (nextF l last = (default, 0, 22)) := Lib.hid (by rw [HN2.out, if_pos rfl])
      clear HN2
      go_wp2_with (first
        | (with_reducible refine wpList_load_row rfl 81 (.tmp 7) rfl (w.heap.size + 1) rfl _ Fld.zero.row (0, 0) _ hZ Tryd.underlying81 rfl (by with_unfolding_all exact info_fld) ?_)
        | (with_reducible refine wpList_store_row rfl 81 (.tmp 4) (.tmp 51) rfl w.heap.size Fld.zero.row rfl rfl _ _ hR (by with_unfolding_all exact info_fld) (by with_unfolding_all exact rfl) (by with_unfolding_all exact rfl) ?_))
      refine bodyPost_ret (v := .tuple #[.agg Fld.zero.row, .int .i64 0, .int .i64 22]) (ret_fld3 rfl rfl (setRow_heap _ w.heap.size _ Fld.zero.row _ _ hR) rfl rfl) rfl ?_
      rw [HQ.out]
      exact ⟨Fld.zero, rfl, (zero_is _).1, (zero_is _).2, below_row hab (Nat.le_refl _) _⟩
    rw [if_neg hu0] at HN2
    have hu1 : ((u : Int) == 0) = false := by rw [beq_eq_false_iff_ne]; omega
    by_cases hk0 : k % 2 = 0
    · have HQ : Hid (nextF l last = (⟨k / 2, false, u, []⟩, p + m, 0)) := Lib.hid (by rw [HN2.out, if_pos hk0])
      have hk1 : ((k : Int) % 2 == 0) = true := by rw [beq_iff_eq]; omega
      have htag : (k : Int) / 2 = ((k / 2 : Nat) : Int) := by omega
      have HT := Lib.hid htag
      clear HN2 htag hk0
      go_wp2_with (first
        | (with_reducible refine wpList_store_row rfl 81 (.tmp 4) (.tmp 59) rfl w.heap.size (Fld.row ⟨(k : Int) / 2, false, (u : Int), none, 0, 0⟩) rfl rfl _ _ hR (by with_unfolding_all exact info_fld) (by with_unfolding_all exact rfl) (by with_unfolding_all exact rfl) ?_))
      refine bodyPost_ret (v := .tuple #[.agg (Fld.row ⟨(k : Int) / 2, false, (u : Int), none, 0, 0⟩), .int .i64 ((p : Int) + (m : Int)), .int .i64 0]) (ret_fld3 rfl rfl (setRow_heap _ w.heap.size _ (Fld.row ⟨(k : Int) / 2, false, (u : Int), none, 0, 0⟩) _ _ hR) rfl rfl) rfl ?_
      rw [HQ.out]
      exact ⟨⟨(k : Int) / 2, false, (u : Int), none, 0, 0⟩, rfl, ⟨HT.out, rfl, rfl, RowAt.nil _ 1⟩, (fun b o h => by cases h), below_row hab (Nat.le_refl _) _⟩
    rw [if_neg hk0] at HN2
    have hk1 : ((k : Int) % 2 == 0) = false := by rw [beq_eq_false_iff_ne]; omega
    clear hk0
    by_cases hu2 : 200 < u
    · have HQ : Hid (nextF l last = (default, 0, 23)) := Lib.hid (by rw [HN2.out, if_pos hu2])
      clear HN2
      go_wp2_with (first
        | (with_reducible refine wpList_load_row rfl 81 (.tmp 7) rfl (w.heap.size + 1) rfl _ Fld.zero.row (0, 0) _ hZ Tryd.underlying81 rfl (by with_unfolding_all exact info_fld) ?_)
        | (with_reducible refine wpList_store_row rfl 81 (.tmp 4) (.tmp 65) rfl w.heap.size Fld.zero.row rfl rfl _ _ hR (by with_unfolding_all exact info_fld) (by with_unfolding_all exact rfl) (by with_unfolding_all exact rfl) ?_))
      refine bodyPost_ret (v := .tuple #[.agg Fld.zero.row, .int .i64 0, .int .i64 23]) (ret_fld3 rfl rfl (setRow_heap _ w.heap.size _ Fld.zero.row _ _ hR) rfl rfl) rfl ?_
      rw [HQ.out]
      exact ⟨Fld.zero, rfl, (zero_is _).1, (zero_is _).2, below_row hab (Nat.le_refl _) _⟩
    rw [if_neg hu2] at HN2
    by_cases hln : l.length < p + m + u
    · have HQ : Hid (nextF l last = (default, 0, 10)) := Lib.hid (by rw [HN2.out, if_pos hln])
      have hln' : (n : Int) - (p : Int) - (m : Int) < (u : Int) := by omega
      clear HN2
      go_wp2_with (first
        | (with_reducible refine wpList_load_row rfl 81 (.tmp 7) rfl (w.heap.size + 1) rfl _ Fld.zero.row (0, 0) _ hZ Tryd.underlying81 rfl (by with_unfolding_all exact info_fld) ?_)
        | (with_reducible refine wpList_store_row rfl 81 (.tmp 4) (.tmp 75) rfl w.heap.size Fld.zero.row rfl rfl _ _ hR (by with_unfolding_all exact info_fld) (by with_unfolding_all exact rfl) (by with_unfolding_all exact rfl) ?_))
      refine bodyPost_ret (v := .tuple #[.agg Fld.zero.row, .int .i64 0, .int .i64 10]) (ret_fld3 rfl rfl (setRow_heap _ w.heap.size _ Fld.zero.row _ _ hR) rfl rfl) rfl ?_
      rw [HQ.out]
      exact ⟨Fld.zero, rfl, (zero_is _).1, (zero_is _).2, below_row hab (Nat.le_refl _) _⟩
    rw [if_neg hln] at HN2
    have hln' : ¬ (n : Int) - (p : Int) - (m : Int) < (u : Int) := by omega
    obtain ⟨a5, hcut5, r5⟩ := cut_mid slB rm (p + m) (p + m + u) (by omega) (by omega)
    rw [show p + m + u - (p + m) = u by omega] at hcut5 r5
    rw [Nat.mul_one, Nat.mul_one, ← List.map_take, ← List.map_drop, List.drop_take, show p + m + u - (p + m) = u by omega] at r5
    simp only [Int.natCast_add] at hcut5
    have hlen : ((l.drop (p + m)).take u).length = u := by rw [List.length_take, List.length_drop]; omega
    have htag : (k : Int) / 2 = ((k / 2 : Nat) : Int) := by omega
    have HT := Lib.hid htag
    clear htag
    obtain ⟨D, hD⟩ : ∃ D, (l.drop (p + m)).take u = D := ⟨_, rfl⟩
    rw [hD] at HN2 r5 hlen
    have HLN := Lib.hid hlen
    clear hD hlen
    go_wp2_with fail
    (with_reducible refine (copy_any _ _ _ D _ (by omega) r5).mono ?_)
    rintro x w3 ⟨a6, c6, rfl, ho6, hb6⟩
    rw [HLN.out] at ho6 ⊢
    have hR3 := below_blk' hb6 hR
    have hab3 := below_next hab hb6
    have hgs := lt_of_block hR
    have hfl : FldIs w3 ⟨(k : Int) / 2, true, 0, a6, u, c6⟩ ⟨k / 2, true, 0, D⟩ := ⟨HT.out, rfl, rfl, own_rowAt ho6⟩
    have hbt : BytesTag w3 ⟨(k : Int) / 2, true, 0, a6, u, c6⟩ := fun b o e => by
      have e' : a6 = some ⟨b, o, none⟩ := e
      subst e'
      exact own_tag ho6 rfl
    have hg6 := fun cs => grown_row w3 w.heap.size cs
    have htg : Tag w3 w.heap.size 81 := ⟨_, _, hR3⟩
    clear ho6 hb6 hab hR hZ
    go_wp2_with (first
      | (with_reducible refine wpList_store_row rfl 81 (.tmp 4) (.tmp 91) rfl w.heap.size (Fld.row ⟨(k : Int) / 2, true, 0, a6, u, c6⟩) rfl rfl _ _ hR3 (by with_unfolding_all exact info_fld) (by with_unfolding_all exact rfl) (by with_unfolding_all exact rfl) ?_))
    refine bodyPost_ret (v := .tuple #[.agg (Fld.row ⟨(k : Int) / 2, true, 0, a6, u, c6⟩), .int .i64 ((p : Int) + (m : Int) + (u : Int)), .int .i64 0]) (ret_fld3 rfl rfl (setRow_heap _ w.heap.size _ (Fld.row ⟨(k : Int) / 2, true, 0, a6, u, c6⟩) _ _ hR3) rfl rfl) rfl ?_
    rw [HN2.out]
    have hr : ∀ j, some w.heap.size = some j → Tag w3 j 81 := fun j e => by cases e; exact htg
    exact ⟨_, rfl, hfl.grown hbt (hg6 _) (by decide) hr, hbt.grown (hg6 _) (by decide) hr, below_row hab3 (Nat.le_refl _) _⟩
end Go.Proofs.YtkdpingniohfhaaDoor

namespace Go.Proofs.YtkdpingniohfhaaDoor
open Go.RowKit
set_option linter.unusedVariables false

/-- What Decode gives: fields in new memory, a place, what is wrong. -/
def GivesD (w : World) (y : List FD × Nat × Nat) (x : Ending) (w' : World) : Prop := ∃ a n c ms, x = .returned (.tuple #[.slice a n c, .int .i64 (y.2.1 : Int), .int .i64 (y.2.2 : Int)]) ∧ FsIn w w' y.1 a n c ms
theorem fsIn_nil {w w' : World} (h : Below w.heap.size w w') : FsIn w w' [] none 0 0 [] := ⟨World.ownsRow_nil _ _ _ _, trivial, fun f hf => absurd hf (by simp), h⟩

set_option maxHeartbeats 3200000 in
theorem rdec5_any (a1 : Option Addr) (n1 c1 : Nat) (l : List UInt8) (w : World) (r1 : RowAt w a1 n1 c1 1 (l.map B)) :
    Calls Tryd.prog 39 #[.slice a1 n1 c1] w (GivesD w (decodeF l)) := by
  have e1 : l.length = n1 := by simpa using r1.len
  have m1 := r1.2.2.1
  have m2 := r1.2.1
  unfold maxLen at m1
  by_cases hbig : 1024 < n1
  · have HQ : Hid (decodeF l = ([], 0, 24)) := Lib.hid (by unfold decodeF; rw [if_pos (by omega)])
    clear e1
    go_enter Tryd.func39, Tryd.ntmps39
    go_wp2_with fail
    go_ret3
    rw [HQ.out]
    exact ⟨none, 0, 0, [], rfl, fsIn_nil (Below.refl _ _)⟩
  · have HQ : Hid (decodeF l = readF l (n1 + 1) 0 0 []) := Lib.hid (by unfold decodeF; rw [if_neg (by omega), e1])
    have H1 := Lib.hid e1
    clear e1
    have ho1 := own_lit w [] 0 4 81 rfl (by decide)
    have hbm := below_made w (.cells #[] 81)
    have hF0 : FsIn w (w.alloc (.cells #[] 81)) [] (some ⟨w.heap.size, 0, none⟩) 0 0 [] := ⟨ho1, trivial, fun f hf => absurd hf (by simp), hbm⟩
    clear ho1 hbm
    go_enter Tryd.func39, Tryd.ntmps39
    go_wp2_with fail
    go_loopw [5, 6, 7] (fun fv lv pv wr => ∃ (p last : Nat) (ds : List FD) (a : Option Addr) (n c : Nat) (ms : List Fld), pv = .int .i64 (p : Int) ∧ p ≤ n1 ∧ lv = .int .i64 (last : Int) ∧ last ≤ 31 ∧ ds.length ≤ p ∧ fv = .slice a n c ∧ FsIn w wr ds a n c ms ∧
      (∃ k, n1 - p < k ∧ Hid (decodeF l = readF l k p last ds))) (fun _ _ pv _ => n1 - (intOf pv).toNat)
    case atStart => exact ⟨0, 0, [], _, 0, 0, [], rfl, Nat.zero_le _, rfl, by decide, Nat.le_refl _, rfl, hF0, n1 + 1, by omega, HQ⟩
    case round =>
      clear hF0 HQ
      obtain ⟨p, last, ds, a, n, c, ms, rfl, hp, rfl, hl31, hdl, rfl, hF, fu, hfu, HT⟩ := hrel
      by_cases hlt : p < n1
      · obtain ⟨y, hy⟩ : ∃ y, nextF (l.drop p) last = y := ⟨_, rfl⟩
        obtain ⟨d, q, e⟩ := y
        have hg := nextF_good hy
        have HY := Lib.hid hy
        have hll : p < l.length := by have := H1.out; omega
        have hlen := hF.len
        have hn : n ≤ 1024 := by omega
        have r2 := r1.below hF.bel
        obtain ⟨a', hcut, r3⟩ := cut_from slB r2 p hp
        rw [Nat.mul_one, ← List.map_drop] at r3
        obtain ⟨j, rfl⟩ : ∃ j, fu = j + 1 := ⟨fu - 1, by omega⟩
        clear hy
        by_cases he : e = 0
        · subst he
          obtain ⟨g1, g2, g3, g4⟩ := hg.2 rfl
          have g2' : p + q ≤ n1 := by rw [List.length_drop] at g2; have := H1.out; omega
          have HS : Hid (decodeF l = readF l j (p + q) d.tag (ds ++ [d])) := Lib.hid (by rw [HT.out]; exact readF_on hll HY.out)
          clear hg g2 hll
          go_wp2_with fail
          (with_reducible refine (rnext_any _ _ _ (l.drop p) last _ hl31 r3).mono ?_)
          rintro x w2 ⟨f, rfl, hfl, hbt, hb2⟩
          rw [HY.out] at hfl ⊢
          simp only at hfl ⊢
          have hF2 := hF.below hb2
          have HTAG := Lib.hid hfl.tag
          have hX := heap_alloc_new w2 (.cells #[.int .i64 f.tag, .bool f.text, .int .u64 f.num, .slice f.ba f.bn f.bc] 81)
          have hbm := below_made w2 (.cells #[.int .i64 f.tag, .bool f.text, .int .u64 f.num, .slice f.ba f.bn f.bc] 81)
          have hF3 := hF2.below hbm
          have ho3 := hF3.own
          have hfl3 := hfl.below hbm
          have hbt3 := hbt.below hbm
          have hlt2 := fun k e => (hF2.own.lt k e).2
          have hs2 := hF3.bel.size
          have hz2 := lt_of_block hX
          unfold Fld.row
          obtain ⟨wm, hwm⟩ : ∃ wm, w2.alloc (.cells #[.int .i64 f.tag, .bool f.text, .int .u64 f.num, .slice f.ba f.bn f.bc] 81) = wm := ⟨_, rfl⟩
          have HWM := Lib.hid hwm
          rw [hwm] at hX hbm hF3 ho3 hfl3 hbt3 hs2 hz2
          clear hwm
          have c0 : wm.cell? ⟨w2.heap.size, 0, none⟩ = some (.int .i64 f.tag) := cell_blk hX rfl
          have c1' : wm.cell? ⟨w2.heap.size, 1, none⟩ = some (.bool f.text) := cell_blk hX rfl
          have c2 : wm.cell? ⟨w2.heap.size, 2, none⟩ = some (.int .u64 f.num) := cell_blk hX rfl
          have c3 : wm.cell? ⟨w2.heap.size, 3, none⟩ = some (.slice f.ba f.bn f.bc) := cell_blk hX rfl
          go_upto_region 8 with (fail)
          rw [HWM.out]
          go_wp2_with (at_builtin; refine wpList_app1 rfl _ _ 76 rfl slF rfl ho3 rfl rfl (F_one1 f) (by omega) (by omega) fun a3 cap3 w3 ho hg => ?_; have hX5 := (hg.block w2.heap.size (by omega) (fun e => by have := hlt2 _ e.symm; omega)).trans hX; have c5 : w3.cell? ⟨w2.heap.size, 0, none⟩ = some (.int .i64 f.tag) := cell_blk hX5 rfl)
          go_roundw
          case rel =>
            obtain ⟨hA, hB⟩ := hF3.app hfl3 hbt3 ho hg
            exact ⟨p + q, d.tag, ds ++ [d], a3, n + 1, cap3, _, by go_num, g2', by rw [HTAG.out], g4, by rw [List.length_append]; simp; omega, rfl, hA, j, by omega, HS⟩
          case measure => first | (simp [intOf]; omega) | simp [intOf]
        · have he' : ((e : Int) != 0) = true := by rw [bne_iff_ne]; omega
          have HE : Hid (decodeF l = ([], p, e)) := Lib.hid (by rw [HT.out]; exact readF_bad hll HY.out he)
          clear hg he hll
          go_wp2_with fail
          (with_reducible refine (rnext_any _ _ _ (l.drop p) last _ hl31 r3).mono ?_)
          rintro x w2 ⟨f, rfl, hfl, hbt, hb2⟩
          rw [HY.out] at hfl ⊢
          simp only at hfl ⊢
          have hF2 := hF.below hb2
          have hbm := below_made w2 (.cells #[.int .i64 f.tag, .bool f.text, .int .u64 f.num, .slice f.ba f.bn f.bc] 81)
          unfold Fld.row
          go_wp2_with fail
          go_ret3
          rw [HE.out]
          exact ⟨none, 0, 0, [], rfl, fsIn_nil (below_next hF2.bel hbm)⟩
      · have HE : Hid (decodeF l = (ds, 0, 0)) := Lib.hid (by rw [HT.out]; exact readF_end (by have := H1.out; omega))
        clear HT
        go_wp2_with fail
        go_ret3
        rw [HE.out]
        exact ⟨a, n, c, ms, rfl, hF⟩
end Go.Proofs.YtkdpingniohfhaaDoor
