/-
  A sealed segment and its footer alone, as data: it is found sealed, and its footer gives its marks. No condition.
-/
import Derived.Test.YtffhejaeliphcaaDoorMGt
import Derived.Test.YtffhejaeliphcaaDoorMGq
namespace Go.Proofs.YtffhejaeliphcaaDoor
open Go.RowKit
set_option linter.unusedVariables false

theorem ceil_next {s i : Nat} (hs : 1 ≤ s) : (i + s) / s = (i + s - 1) / s + (if i % s = 0 then 1 else 0) := by
  have hm := Nat.mod_add_div i s
  obtain ⟨q, hq⟩ : ∃ q, i / s = q := ⟨_, rfl⟩
  obtain ⟨r, hr⟩ : ∃ r, i % s = r := ⟨_, rfl⟩
  have hlt : r < s := by rw [← hr]; exact Nat.mod_lt _ hs
  rw [hq, hr] at hm
  rw [Nat.add_div_right _ (by omega), hq, hr]
  by_cases h0 : r = 0
  · rw [if_pos h0]
    have : (i + s - 1) / s = q := by
      refine Nat.div_eq_of_lt_le (by rw [Nat.mul_comm]; omega) ?_
      rw [Nat.succ_mul, Nat.mul_comm q]; omega
    omega
  · rw [if_neg h0]
    have : (i + s - 1) / s = q + 1 := by
      refine Nat.div_eq_of_lt_le (by rw [Nat.succ_mul, Nat.mul_comm q]; omega) ?_
      rw [Nat.succ_mul, Nat.succ_mul, Nat.mul_comm q]; omega
    omega
theorem every_len' {s : Nat} (hs : 1 ≤ s) : ∀ (ps : List Pl) (i : Nat), (every s i ps).length + (i + s - 1) / s = (i + ps.length + s - 1) / s
  | [], i => by simp [every]
  | p :: r, i => by
    have ih := every_len' hs r (i + 1)
    have hn := ceil_next (i := i) hs
    rw [show i + 1 + s - 1 = i + s by omega, show i + 1 + r.length + s - 1 = i + (p :: r).length + s - 1 by rw [List.length_cons]; omega] at ih
    rw [every]
    split
    · rename_i h
      rw [if_pos h] at hn
      rw [List.length_cons]
      omega
    · rename_i h
      rw [if_neg h] at hn
      omega
theorem every_get {s : Nat} (hs : 1 ≤ s) : ∀ (ps : List Pl) (i j : Nat) (m : Mk), (every s i ps)[j]? = some m → ∃ k p, ps[k]? = some p ∧ i + k = ((i + s - 1) / s + j) * s ∧ m = ⟨p.seq, p.at'⟩
  | [], i, j, m, h => by simp [every] at h
  | p :: r, i, j, m, h => by
    have hn := ceil_next (i := i) hs
    rw [every] at h
    by_cases h0 : i % s = 0
    · rw [if_pos h0] at h hn
      cases j with
      | zero =>
        simp at h
        subst h
        refine ⟨0, p, rfl, ?_, rfl⟩
        have h1 : (i + s) / s = i / s + 1 := Nat.add_div_right _ (by omega)
        have h2 : (i + s - 1) / s = i / s := by omega
        rw [h2, Nat.add_zero, Nat.add_zero, Nat.div_mul_cancel (Nat.dvd_of_mod_eq_zero h0)]
      | succ j =>
        obtain ⟨k, q, g1, g2, g3⟩ := every_get hs r (i + 1) j m (by simpa using h)
        rw [show i + 1 + s - 1 = i + s by omega, hn] at g2
        exact ⟨k + 1, q, by simpa using g1, by rw [show (i + s - 1) / s + (j + 1) = (i + s - 1) / s + 1 + j by omega, ← g2]; omega, g3⟩
    · rw [if_neg h0] at h hn
      rw [Nat.add_zero] at hn
      obtain ⟨k, q, g1, g2, g3⟩ := every_get hs r (i + 1) j m h
      rw [show i + 1 + s - 1 = i + s by omega, hn] at g2
      exact ⟨k + 1, q, by simpa using g1, by omega, g3⟩
/-- The frames of a whole segment that is not sealed, in their places. -/
def segPs (num first : Nat) (ls : List (List UInt8)) : List Pc := (pcsN 0 (evsN first ls)).map (Pc.move (hdrFr num first).bytes.length)
theorem segPs_len (num first : Nat) (ls : List (List UInt8)) : (segPs num first ls).length = ls.length := by unfold segPs; rw [List.length_map, pcsN_len, evsN_len]
theorem seg_run {num first : Nat} {ls : List (List UInt8)} (h1 : 1 ≤ num) (h2 : num ≤ 999999) (h3 : 1 ≤ first) (h4 : first ≤ 549755813888) (hl : ls.length ≤ 512) (hb : ∀ l ∈ ls, l.length ≤ 16384) :
    ∃ d e, RunIs (segL num first ls) d (first : Int) (segPs num first ls) e ∧ d ≤ 16404 := by
  have h := scanS_facts (seg_whole h1 h2 h3 h4 hl hb)
  exact h.2.2.2.2.2.2
theorem seg_marks {num first t foot : Nat} {ls : List (List UInt8)} (h1 : 1 ≤ num) (h2 : num ≤ 999999) (h3 : 1 ≤ first) (h4 : first ≤ 549755813888) (hl : ls.length ≤ 512) (hb : ∀ l ∈ ls, l.length ≤ 16384) (ht1 : 1 ≤ t) (hf : (segL num first ls).length ≤ foot) :
    okN (marksQ (segPs num first ls) t) = true ∧ (marksQ (segPs num first ls) t).length = (ls.length + t - 1) / t ∧ fitM first t (foot : Int) 0 (marksQ (segPs num first ls) t) = true := by
  obtain ⟨d, e, hr, hd⟩ := seg_run h1 h2 h3 h4 hl hb
  have hf5 := hr.facts
  have R := run_pls hr
  refine ⟨marks_ok hr (by omega) hd t, ?_, ?_⟩
  · have := every_len' ht1 ((segPs num first ls).map Pc.pl) 0
    rw [List.length_map, segPs_len, Nat.div_eq_of_lt (show 0 + t - 1 < t by omega), Nat.zero_add] at this
    exact this
  · refine fitM_yes fun j m hj hm => ?_
    obtain ⟨k, p, g1, g2, rfl⟩ := every_get ht1 _ 0 j m hm
    rw [Nat.div_eq_of_lt (show 0 + t - 1 < t by omega), Nat.zero_add, Nat.zero_add] at g2
    subst g2
    obtain ⟨g3, g4, g5⟩ := R.num _ p g1
    refine ⟨by show p.seq = _; rw [g3]; simp, ?_⟩
    show p.at' < (foot : Int)
    have := hf5.2.2.1
    omega
/-- What its footer alone gives. -/
theorem clos_foot {num first t foot : Nat} {ls : List (List UInt8)} (h1 : 1 ≤ num) (h2 : num ≤ 999999) (h3 : 1 ≤ first) (h4 : first ≤ 549755813888) (hn : 1 ≤ ls.length) (hl : ls.length ≤ 512) (hb : ∀ l ∈ ls, l.length ≤ 16384) (ht1 : 1 ≤ t) (ht : t ≤ 64) (hf : (segL num first ls).length ≤ foot) :
    closF (footFr num first ls t).bytes (num : Int) (first : Int) (ls.length : Int) (foot : Int) = some (marksQ (segPs num first ls) t, t) := by
  obtain ⟨g1, g2, g3, g4⟩ := foot_right (t := t) (ls := ls) h2 h4 hl ht
  have hd := decF_laid g1 g2 g3 g4 []
  rw [List.append_nil] at hd
  have hbl := (footFr num first ls t).bytes_len
  have hw : wholeF (footFr num first ls t).bytes 3 = (footFr num first ls t, 0) := by
    unfold wholeF
    rw [hbl]
    unfold Fr.bytes
    rw [hd]
    simp only
    rw [if_neg (by simp), if_neg (by simp [footFr])]
  obtain ⟨m1, m2, m3⟩ := seg_marks (t := t) (foot := foot) h1 h2 h3 h4 hl hb ht1 hf
  have he : encIx (marksQ (segPs num first ls) t) = (encAll (diffs ⟨0, 0⟩ (marksQ (segPs num first ls) t)), 0) := by unfold encIx; rw [if_pos m1]
  have hu := unN_foot (first := first) (count := ls.length) (s := t) (r := (encIx (marksQ (segPs num first ls) t)).1) (by omega) (by omega) (by omega)
  have hi := ix_back m1
  have hun : unclF (footFr num first ls t).body = some ⟨first, ls.length, t, marksQ (segPs num first ls) t⟩ := by
    have hu' : unN (footFr num first ls t).body 3 = some ([first, ls.length, t], (encIx (marksQ (segPs num first ls) t)).1) := hu
    rw [unclF_ok hu' (by omega) (by rw [he]; simp only; rw [hi]), he]
    simp only
    rw [hi]
  rw [closF_ok (num := (num : Int)) hw rfl, hun]
  exact closB_yes rfl rfl m2 m3
/-- Sealed, it is found sealed. -/
theorem seal_scan {num first t : Nat} {ls : List (List UInt8)} (h1 : 1 ≤ num) (h2 : num ≤ 999999) (h3 : 1 ≤ first) (h4 : first ≤ 549755813888) (hn : 1 ≤ ls.length) (hl : ls.length ≤ 512) (hb : ∀ l ∈ ls, l.length ≤ 16384) (ht1 : 1 ≤ t) (ht : t ≤ 64) :
    scanS (segL num first ls ++ (footFr num first ls t).bytes) = (⟨num, first, ls.length, true, t, marksQ (segPs num first ls) t, (segL num first ls).length + (footFr num first ls t).bytes.length⟩, segPs num first ls, 0) := by
  have hr := evs_right (first := first) h4 ls 0 (by omega) hb
  rw [Nat.add_zero] at hr
  have hfr := foot_right (t := t) (ls := ls) h2 h4 hl ht
  obtain ⟨g1, g2, g3, g4⟩ := hfr
  have hd := decF_laid g1 g2 g3 g4 []
  rw [List.append_nil] at hd
  have hbl := (footFr num first ls t).bytes_len
  have hall : ∀ g ∈ evsN first ls ++ [footFr num first ls t], g.right := by
    intro g hg
    rcases List.mem_append.1 hg with hg | hg
    · exact hr g hg
    · rw [List.mem_singleton] at hg; subst hg; exact ⟨g1, g2, g3, g4⟩
  have hlay := layN_snoc (evsN first ls) (footFr num first ls t)
  have hsc := scan_laid hall
  rw [hlay, pcsN_snoc] at hsc
  have hsr := seg_read h1 h2 h3 h4 hl hb (chain_lay hr (footFr num first ls t).bytes) hsc (.inr ⟨_, [], rfl, by show (3 : Nat) ≠ 1; decide⟩)
  rw [segL_cons, List.append_assoc, hsr]
  obtain ⟨d, e, hri, hd16⟩ := seg_run h1 h2 h3 h4 hl hb
  have hsl := sealG_of_foot hri (by omega) (by omega) hd16 ht1 ht (fun h => by have := segPs_len num first ls; rw [h] at this; simp at this; omega)
  rw [segPs_len] at hsl
  have hdrop : ((hdrFr num first).bytes ++ (layN (evsN first ls) ++ (footFr num first ls t).bytes)).drop ((hdrFr num first).bytes.length + (layN (evsN first ls)).length) = (footFr num first ls t).bytes := by
    rw [List.drop_length_add_append, List.drop_left]
  unfold segOf
  simp only
  rw [hdrop]
  have hdf : decF (footFr num first ls t).bytes = (footFr num first ls t, 20 + (footFr num first ls t).body.length, 0) := by unfold Fr.bytes; exact hd
  rw [hdf]
  simp only
  rw [if_neg (by simp [footFr])]
  have hsl2 : sealG (footFr num first ls t).body first (segPs num first ls) = some t := hsl
  show (match sealG (footFr num first ls t).body first (segPs num first ls) with | some s => _ | none => _, _, _) = _
  rw [hsl2]
  simp only
  rw [show ((pcsN 0 (evsN first ls)).map (Pc.move (hdrFr num first).bytes.length)) = segPs num first ls from rfl, segPs_len, List.length_append, hbl]
end Go.Proofs.YtffhejaeliphcaaDoor
