/-
  The walk of the reference's tlv Encode, for right fields whose record is short. Condition: the slice reads as a list of fields.
  The walks of the reference's Encode and of both Packs, for every event. No condition.
-/
import Derived.Test.YtfiplongnnkhmaaMRone
import Derived.Test.YtfiplongnnkhmaaMRfields
import Derived.Test.YtfiplongnnkhmaaMSenc
import Derived.Test.YtfiplongnnkhmaaMVrenc
namespace Go.Proofs.Ytfiplongnnkhmaa
open Go.RowKit
set_option linter.unusedVariables false

set_option maxHeartbeats 3200000 in
theorem renc5_any (a : Option Addr) (n cap : Nat) (fs : List Fld) (ds : List FD) (w : World) (hr : RowAt w a n cap 4 (fs.flatMap Fld.cells)) (hf : FldsAre w fs ds) (hok : okF 0 ds) (hlen : (recF ds).length ≤ 1024) :
    Calls Try.prog 28 #[.slice a n cap] w fun x w' => ∃ a' c' l, x = .returned (.tuple #[.slice a' l c', .int .i64 0]) ∧ l = (recF ds).length ∧ w'.ownsRow w.heap.size 5 1 (.slice a' l c') l ((recF ds).map B) ∧ Below w.heap.size w w' := by
  have hn : fs.length = n := by have := hr.1; rw [F_len] at this; omega
  have hnd : ds.length = n := by rw [← hf.len]; exact hn
  have hm := hr.2.2.1
  unfold maxLen at hm
  have hm2 := hr.2.1
  have HF := Lib.hid hf
  have HOK := Lib.hid hok
  have HL := Lib.hid hlen
  have HND := Lib.hid hnd
  have ho0 := own_lit w [] 0 1 5 rfl (by decide)
  have hb0 := below_made w (.cells [].toArray 5)
  clear hf hok hlen hn hnd
  go_enter Try.func28, Try.ntmps28
  go_wp2_with fail
  go_loopw [4, 5, 11] (fun lv bv iv wr => ∃ (j : Nat) (a' : Option Addr) (c' k : Nat), iv = .int .i64 (j : Int) ∧ j ≤ n ∧ lv = .int .i64 (tagAt ds j : Int) ∧ bv = .slice a' k c' ∧ k = (recF (ds.take j)).length ∧ wr.ownsRow w.heap.size 5 1 (.slice a' k c') k ((recF (ds.take j)).map B) ∧ Below w.heap.size w wr) (fun _ _ iv _ => n - (intOf iv).toNat)
  case atStart => exact ⟨0, _, 0, 0, rfl, Nat.zero_le _, rfl, rfl, rfl, ho0, hb0⟩
  case round =>
    clear ho0 hb0
    obtain ⟨j, a', c', k, rfl, hj, rfl, rfl, hk, ho, hb⟩ := hrel
    have hkl : k ≤ 1024 := by have h1 := recF_take_le ds j; have h2 := HL.out; omega
    have HK := Lib.hid hk
    clear hk
    by_cases hlt : j < n
    · obtain ⟨b, off, f, rfl, hfj, g0, g1, g2, g3⟩ := fld_at (hr.below hb) j hlt
      obtain ⟨d, hd, hfd⟩ := HF.out.get hfj
      obtain ⟨q1, q2, q3, q4⟩ := okF_at HOK.out hd
      have hfm := fault_mem hfd (tagAt ds j)
      rw [fault_ok q1 q2 q3 q4] at hfm
      have HFD := Lib.hid (hfd.below hb)
      have HD := Lib.hid hd
      have htag : f.tag = (tagAt ds (j + 1) : Int) := by rw [tagAt_succ hd]; exact hfd.tag
      have HT := Lib.hid htag
      have hch := fun wx => rfault_any f (tagAt ds j) wx
      rw [hfm] at hch
      unfold Fld.val at hch
      have HC := Lib.hid hch
      have hle : (oneF d).length ≤ 1024 := by
        have h1 := recF_take_le ds (j + 1)
        rw [recF_take hd, List.length_append] at h1
        have h2 := HL.out
        omega
      have hfj2 := hfj
      clear hch hfm hfd hd htag
      go_wp2_with fail
      (with_reducible refine (HC.out _).mono ?_)
      rintro x w2 ⟨rfl, hb2⟩
      have ho2 := own_below ho hb2
      have hB2 := below_next hb hb2
      have HF2 := Lib.hid (HFD.out.below hb2)
      obtain ⟨b', off', f', hba, hf', e0, e1, e2, e3⟩ := fld_at (hr.below hB2) j hlt
      cases hba
      obtain rfl : f' = f := Option.some.inj (hf'.symm.trans hfj2)
      clear ho hb hb2 g0 g1 g2 g3 hf' hfj2 hfj HFD
      go_wp2_with fail
      (with_reducible refine (rone_any _ d _ HF2.out q2 q3 q4).mono ?_)
      rintro x w3 ⟨a3, c3, l3, rfl, rfl, ho3, hb3⟩
      have hoB := own_below ho2 hb3
      have hB3 := below_next hB2 hb3
      have hs2 := hB2.size
      have hs3 := hb3.size
      clear ho2 hB2 hb3 e0 e1 e2 e3
      go_wp2_with (at_builtin; refine wpList_app rfl _ _ 30 rfl slB rfl hoB rfl (own_rowAt ho3) (B_one _) (by omega) (by omega) fun a4 c4 w4 ho4 hg4 => ?_; have hB4 := hB3.grown hg4 (by omega) (fun j hj => (hoB.lt j hj.symm.symm).1))
      go_roundw
      case rel => exact ⟨j + 1, a4, c4, _, by go_num, by omega, by rw [HT.out], rfl, by rw [recF_take HD.out, List.length_append, HK.out], by rw [recF_take HD.out]; simpa using ho4, hB4⟩
      case measure => simp [intOf]; omega
    · obtain rfl : j = n := by omega
      have hall : ds.take j = ds := List.take_of_length_le (by have := HND.out; omega)
      have HA := Lib.hid hall
      have hk2 : ¬ 1024 < (k : Int) := by omega
      clear hall
      go_wp2_with fail
      refine bodyPost_ret (results_tmp2 rfl _ _ _) rfl ?_
      rw [HA.out] at ho
      exact ⟨a', c', k, rfl, by rw [HK.out, HA.out], ho, hb⟩
end Go.Proofs.Ytfiplongnnkhmaa

namespace Go.Proofs.Ytfiplongnnkhmaa
open Go.RowKit
set_option linter.unusedVariables false

/-- A field that an event has is a right one. -/
theorem fieldAt_ok (v : Int) (e : Ev) (h : Bd e) (hq : 3 ≤ v → 0 ≤ e.qty) (t : Nat) : fieldAt v e t = [] ∨ ∃ d, fieldAt v e t = [d] ∧ d.tag = t ∧ (d.text = true → 0 < d.bytes.length ∧ d.bytes.length ≤ 200) ∧ (d.text = false → 0 < d.num ∧ d.num < 18446744073709551616) := by
  have num : ∀ x : Int, 0 ≤ x → x < 18446744073709551616 → numF t x.toNat = [] ∨ ∃ d, numF t x.toNat = [d] ∧ d.tag = t ∧ (d.text = true → 0 < d.bytes.length ∧ d.bytes.length ≤ 200) ∧ (d.text = false → 0 < d.num ∧ d.num < 18446744073709551616) := by
    intro x h0 h1
    unfold numF
    split
    · exact .inl rfl
    · exact .inr ⟨_, rfl, rfl, fun h => (by cases h), fun _ => ⟨by show 0 < x.toNat; omega, by show x.toNat < _; omega⟩⟩
  have txt : ∀ u : ByteArray, u.size ≤ 200 → txtF t u.data.toList = [] ∨ ∃ d, txtF t u.data.toList = [d] ∧ d.tag = t ∧ (d.text = true → 0 < d.bytes.length ∧ d.bytes.length ≤ 200) ∧ (d.text = false → 0 < d.num ∧ d.num < 18446744073709551616) := by
    intro u hu
    unfold txtF
    split
    · exact .inl rfl
    · rename_i hne
      refine .inr ⟨_, rfl, rfl, fun _ => ⟨Nat.pos_of_ne_zero (fun h => hne (List.eq_nil_of_length_eq_zero h)), ?_⟩, fun h => (by cases h)⟩
      show u.data.toList.length ≤ 200
      rw [Array.length_toList]; exact hu
  unfold fieldAt
  split
  · next e8 => subst e8; exact txt _ h.u
  split
  · next e10 => subst e10; exact txt _ h.n
  split
  · next e4 =>
    obtain ⟨e4, _⟩ := e4
    subst e4
    obtain ⟨z0, z1⟩ := zig_bd e.qty h.q0 (by have := h.q1; omega)
    exact num _ (by omega) (by omega)
  · next e4 =>
    obtain ⟨n0, n1⟩ := num_in h hq t e4
    exact num _ n0 (by omega)
theorem upto_ok (v : Int) (e : Ev) (h : Bd e) (hq : 3 ≤ v → 0 ≤ e.qty) : ∀ k, k ≤ 31 → okF 0 (fieldsUpto v e k) ∧ tagAt (fieldsUpto v e k) (fieldsUpto v e k).length ≤ k
  | 0, _ => ⟨trivial, Nat.le_refl _⟩
  | k + 1, hk => by
    obtain ⟨h1, h2⟩ := upto_ok v e h hq k (by omega)
    show okF 0 (fieldsUpto v e k ++ fieldAt v e (k + 1)) ∧ tagAt (fieldsUpto v e k ++ fieldAt v e (k + 1)) (fieldsUpto v e k ++ fieldAt v e (k + 1)).length ≤ k + 1
    rcases fieldAt_ok v e h hq (k + 1) with h3 | ⟨d, h3, h4, h5, h6⟩
    · rw [h3, List.append_nil]; exact ⟨h1, by omega⟩
    · rw [h3]
      refine ⟨okF_snoc _ 0 d h1 ?_ (by omega) h5 h6, by rw [tagAt_snoc]; omega⟩
      split <;> omega
theorem fields_ok {v : Int} {e : Ev} (h : Right v e) : okF 0 (fieldsE v e) := by
  have hl : (hasV v).toNat ≤ 31 := by unfold hasV; split <;> (try split) <;> (try split) <;> (try split) <;> decide
  have := (upto_ok v e (bd_of h) h.q3 (hasV v).toNat hl).1
  rwa [fields_upto v e h.v1 h.v5] at this

set_option maxHeartbeats 1600000 in
theorem renc6_any (v : Int) (e : Ev) (w : World) : Calls Try.prog 14 #[.int .i64 v, e.val] w (GivesE v e w) := by
  have hk := fun wx => rchk_any v e wx
  unfold GivesC at hk
  by_cases h : chk v e = 0
  · have hR := right_of h
    have HL : Hid ((recF (fieldsE v e)).length ≤ 1024) := Lib.hid (rec_short v e (bd_of hR))
    have HO := Lib.hid (fields_ok hR)
    have hf := fun wx => rfields_any v e wx hR
    have HG : Hid (encL v e = recF (fieldsE v e) ∧ chk v e = 0) := Lib.hid ⟨by unfold encL; rw [if_pos h], h⟩
    rw [h] at hk
    unfold Ev.val Ev.cells at hk hf ⊢
    have HK := Lib.hid hk
    have HF := Lib.hid hf
    clear hk hf hR h
    unfold GivesE
    rw [HG.out.1, HG.out.2]
    have hbe := below_made w (.cells #[.int .i64 e.kind, .int .i64 e.order, .int .i64 e.item, .int .i64 e.qty, .int .i64 e.price, .int .i64 e.cur, .int .i64 e.tax, .string e.who, .int .i64 e.stamp, .string e.note] 24)
    have hEe := heap_alloc_new w (.cells #[.int .i64 e.kind, .int .i64 e.order, .int .i64 e.item, .int .i64 e.qty, .int .i64 e.price, .int .i64 e.cur, .int .i64 e.tax, .string e.who, .int .i64 e.stamp, .string e.note] 24)
    go_enter Try.func14, Try.ntmps14
    go_wp2_with fail
    (with_reducible refine (HK.out _).mono ?_)
    rintro x w1 ⟨rfl, hb1⟩
    obtain ⟨g0, g1, g2, g3, g4, g5, g6, g7, g8, g9⟩ := evAt (below_blk' hb1 hEe)
    have hb2 := below_next hbe hb1
    clear hb1 hbe hEe
    go_wp2_with fail
    (with_reducible refine (HF.out _).mono ?_)
    rintro x w2 ⟨a, n, c, ms, rfl, hF⟩
    have hb3 := below_next hb2 hF.bel
    go_wp2_with fail
    (with_reducible refine (renc5_any _ _ _ ms (fieldsE v e) _ (own_rowAt hF.own) hF.flds HO.out HL.out).mono ?_)
    rintro x w3 ⟨a3, c3, l3, rfl, rfl, ho3, hb4⟩
    have hs3 := hb3.size
    go_wp2_with fail
    refine bodyPost_ret (results_tmp2 rfl _ _ _) rfl ?_
    exact ⟨a3, c3, _, rfl, rfl, own_mono ho3 hs3, below_next hb3 hb4⟩
  · have hL : encL v e = [] := by unfold encL; rw [if_neg h]
    generalize hr : chk v e = r at hk h
    have HG : Hid (encL v e = [] ∧ chk v e = r) := Lib.hid ⟨hL, hr⟩
    have hrb : (r != 0) = true := by simpa using h
    unfold Ev.val Ev.cells at hk ⊢
    have HK := Lib.hid hk
    clear hk hL hr h
    unfold GivesE
    rw [HG.out.1, HG.out.2]
    go_enter Try.func14, Try.ntmps14
    go_wp2_with fail
    (with_reducible refine (HK.out _).mono ?_)
    rintro x w1 ⟨rfl, hb1⟩
    go_wp2_with fail
    refine bodyPost_ret (results_tmp2 rfl _ _ _) rfl ?_
    exact ⟨none, 0, 0, rfl, rfl, World.ownsRow_nil _ _ _ _, below_next (below_made _ _) hb1⟩

/-- A pack: the version, the record; nothing where the event is wrong. -/
def packL (v : Int) (e : Ev) : List UInt8 := if chk v e = 0 then enc v.toNat ++ recF (fieldsE v e) else []
def GivesP (v : Int) (e : Ev) (w : World) (x : Ending) (w' : World) : Prop := ∃ a c l, x = .returned (.tuple #[.slice a l c, .int .i64 (chk v e)]) ∧ l = (packL v e).length ∧ w'.ownsRow w.heap.size 5 1 (.slice a l c) l ((packL v e).map B) ∧ Below w.heap.size w w'

set_option maxHeartbeats 1600000 in
theorem pack_any (v : Int) (e : Ev) (w : World) : Calls Try.prog 21 #[.int .i64 v, e.val] w (GivesP v e w) := by
  have hk := fun wx => senc_any v e wx
  unfold GivesE at hk
  by_cases h : chk v e = 0
  · have hR := right_of h
    have HL : Hid ((recF (fieldsE v e)).length ≤ 1024) := Lib.hid (rec_short v e (bd_of hR))
    have HG : Hid (packL v e = enc v.toNat ++ recF (fieldsE v e) ∧ chk v e = 0) := Lib.hid ⟨by unfold packL; rw [if_pos h], h⟩
    have he : encL v e = recF (fieldsE v e) := by unfold encL; rw [if_pos h]
    have hv1 := hR.v1
    have hv5 := hR.v5
    have hel := enc_len10 v.toNat (by omega)
    rw [h, he] at hk
    unfold Ev.val Ev.cells at hk ⊢
    have HK := Lib.hid hk
    clear hk hR h he
    unfold GivesP
    rw [HG.out.1, HG.out.2]
    go_enter Try.func21, Try.ntmps21
    go_wp2_with fail
    (with_reducible refine (HK.out _).mono ?_)
    rintro x w1 ⟨a, c, l, rfl, hl, ho, hb1⟩
    have hb2 := below_next (below_made _ _) hb1
    have hll : l ≤ 1024 := by rw [hl]; exact HL.out
    have HLL := Lib.hid hl
    clear hb1 hl
    go_wp2_with fail
    (with_reducible refine (enc_any v _ (by omega) (by omega)).mono ?_)
    rintro x w2 ⟨a2, c2, rfl, ho2, hb3⟩
    have ho1 := own_rowAt (own_below ho hb3)
    have hb4 := below_next hb2 hb3
    have hs2 := hb2.size
    have hs3 := hb3.size
    clear ho
    go_wp2_with (at_builtin; refine wpList_app rfl _ _ 30 rfl slB rfl ho2 rfl ho1 (B_one _) (by omega) (by omega) fun a3 cap3 w3 hown3 hg3 => ?_)
    refine bodyPost_ret (results_tmp2 rfl _ _ _) rfl ?_
    exact ⟨a3, cap3, _, rfl, by rw [List.length_append, HLL.out], own_mono (by rw [List.map_append]; exact hown3) hs2, hb4.grown hg3 hb4.size (fun j hj => by have := own_block ho2 j hj; omega)⟩
  · have hL : packL v e = [] := by unfold packL; rw [if_neg h]
    have hL2 : encL v e = [] := by unfold encL; rw [if_neg h]
    generalize hr : chk v e = r at hk h
    have HG : Hid (packL v e = [] ∧ chk v e = r) := Lib.hid ⟨hL, hr⟩
    have hrb : (r != 0) = true := by simpa using h
    rw [hL2] at hk
    unfold Ev.val Ev.cells at hk ⊢
    have HK := Lib.hid hk
    clear hk hL hL2 hr h
    unfold GivesP
    rw [HG.out.1, HG.out.2]
    go_enter Try.func21, Try.ntmps21
    go_wp2_with fail
    (with_reducible refine (HK.out _).mono ?_)
    rintro x w1 ⟨a, c, l, rfl, hl, ho, hb1⟩
    go_wp2_with fail
    refine bodyPost_ret (results_tmp2 rfl _ _ _) rfl ?_
    exact ⟨none, 0, 0, rfl, rfl, World.ownsRow_nil _ _ _ _, below_next (below_made _ _) hb1⟩

set_option maxHeartbeats 1600000 in
theorem rpack_any (v : Int) (e : Ev) (w : World) : Calls Try.prog 20 #[.int .i64 v, e.val] w (GivesP v e w) := by
  have hk := fun wx => renc6_any v e wx
  unfold GivesE at hk
  by_cases h : chk v e = 0
  · have hR := right_of h
    have HL : Hid ((recF (fieldsE v e)).length ≤ 1024) := Lib.hid (rec_short v e (bd_of hR))
    have HG : Hid (packL v e = enc v.toNat ++ recF (fieldsE v e) ∧ chk v e = 0) := Lib.hid ⟨by unfold packL; rw [if_pos h], h⟩
    have he : encL v e = recF (fieldsE v e) := by unfold encL; rw [if_pos h]
    have hv1 := hR.v1
    have hv5 := hR.v5
    have hel := enc_len10 v.toNat (by omega)
    rw [h, he] at hk
    unfold Ev.val Ev.cells at hk ⊢
    have HK := Lib.hid hk
    clear hk hR h he
    unfold GivesP
    rw [HG.out.1, HG.out.2]
    go_enter Try.func20, Try.ntmps20
    go_wp2_with fail
    (with_reducible refine (HK.out _).mono ?_)
    rintro x w1 ⟨a, c, l, rfl, hl, ho, hb1⟩
    have hb2 := below_next (below_made _ _) hb1
    have hll : l ≤ 1024 := by rw [hl]; exact HL.out
    have HLL := Lib.hid hl
    clear hb1 hl
    go_wp2_with fail
    (with_reducible refine (renc_n v.toNat v _ (Nat.le_refl _) (by omega) (by omega)).mono ?_)
    rintro x w2 ⟨a2, c2, rfl, ho2, hb3⟩
    have ho1 := own_rowAt (own_below ho hb3)
    have hb4 := below_next hb2 hb3
    have hs2 := hb2.size
    have hs3 := hb3.size
    clear ho
    go_wp2_with (at_builtin; refine wpList_app rfl _ _ 30 rfl slB rfl ho2 rfl ho1 (B_one _) (by omega) (by omega) fun a3 cap3 w3 hown3 hg3 => ?_)
    refine bodyPost_ret (results_tmp2 rfl _ _ _) rfl ?_
    exact ⟨a3, cap3, _, rfl, by rw [List.length_append, HLL.out], own_mono (by rw [List.map_append]; exact hown3) hs2, hb4.grown hg3 hb4.size (fun j hj => by have := own_block ho2 j hj; omega)⟩
  · have hL : packL v e = [] := by unfold packL; rw [if_neg h]
    have hL2 : encL v e = [] := by unfold encL; rw [if_neg h]
    generalize hr : chk v e = r at hk h
    have HG : Hid (packL v e = [] ∧ chk v e = r) := Lib.hid ⟨hL, hr⟩
    have hrb : (r != 0) = true := by simpa using h
    rw [hL2] at hk
    unfold Ev.val Ev.cells at hk ⊢
    have HK := Lib.hid hk
    clear hk hL hL2 hr h
    unfold GivesP
    rw [HG.out.1, HG.out.2]
    go_enter Try.func20, Try.ntmps20
    go_wp2_with fail
    (with_reducible refine (HK.out _).mono ?_)
    rintro x w1 ⟨a, c, l, rfl, hl, ho, hb1⟩
    go_wp2_with fail
    refine bodyPost_ret (results_tmp2 rfl _ _ _) rfl ?_
    exact ⟨none, 0, 0, rfl, rfl, World.ownsRow_nil _ _ _ _, below_next (below_made _ _) hb1⟩
end Go.Proofs.Ytfiplongnnkhmaa
