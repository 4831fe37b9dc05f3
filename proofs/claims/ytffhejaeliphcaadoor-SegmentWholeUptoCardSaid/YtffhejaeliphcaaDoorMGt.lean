/-
  What seals a segment, as data. No condition.
  Laid frames that are cut, as data. No condition.
  A laid segment and what a scan reads in it, as data: whole, cut, with a frame turned, sealed. No condition.
  A sealed segment one frame of which has turned bits, as data. No condition.
-/
import Derived.Test.YtffhejaeliphcaaDoorMGs
import Derived.Test.YtffhejaeliphcaaDoorMPjoin
import Derived.Test.YtffhejaeliphcaaDoorMGlaid
import Derived.Test.YtffhejaeliphcaaDoorMGscan
namespace Go.Proofs.YtffhejaeliphcaaDoor
open Go.RowKit
set_option linter.unusedVariables false

/-- The frame that seals, or the error. -/
def footF (l : List UInt8) (t : Int) : List UInt8 × Nat :=
  if t < 1 ∨ 64 < t then ([], 1)
  else if (scanS l).2.2 ≠ 0 then ([], (scanS l).2.2)
  else if (scanS l).1.sealed = true then ([], 72)
  else if (scanS l).1.good ≠ l.length then ([], 60)
  else if (scanS l).1.count = 0 then ([], 93)
  else encF 3 ((scanS l).1.num : Int) (footB (scanS l).1.first (scanS l).1.count t.toNat (marksQ (scanS l).2.1 t.toNat))
theorem footF_arg {l : List UInt8} {t : Int} (h : t < 1 ∨ 64 < t) : footF l t = ([], 1) := by unfold footF; rw [if_pos h]
theorem footF_err {l : List UInt8} {t : Int} {s : Sg} {P : List Pc} {e : Nat} (hs : scanS l = (s, P, e)) (h : ¬ (t < 1 ∨ 64 < t)) (h1 : e ≠ 0) : footF l t = ([], e) := by unfold footF; rw [if_neg h, hs]; simp only; rw [if_pos h1]
theorem footF_sealed {l : List UInt8} {t : Int} {s : Sg} {P : List Pc} (hs : scanS l = (s, P, 0)) (h : ¬ (t < 1 ∨ 64 < t)) (h1 : s.sealed = true) : footF l t = ([], 72) := by unfold footF; rw [if_neg h, hs]; simp only; rw [if_neg (by simp), if_pos h1]
theorem footF_torn {l : List UInt8} {t : Int} {s : Sg} {P : List Pc} (hs : scanS l = (s, P, 0)) (h : ¬ (t < 1 ∨ 64 < t)) (h1 : s.sealed = false) (h2 : s.good ≠ l.length) : footF l t = ([], 60) := by unfold footF; rw [if_neg h, hs]; simp only; rw [if_neg (by simp), if_neg (by rw [h1]; simp), if_pos h2]
theorem footF_empty {l : List UInt8} {t : Int} {s : Sg} {P : List Pc} (hs : scanS l = (s, P, 0)) (h : ¬ (t < 1 ∨ 64 < t)) (h1 : s.sealed = false) (h2 : s.good = l.length) (h3 : s.count = 0) : footF l t = ([], 93) := by unfold footF; rw [if_neg h, hs]; simp only; rw [if_neg (by simp), if_neg (by rw [h1]; simp), if_neg (by rw [h2]; simp), if_pos h3]
theorem footF_ok {l : List UInt8} {t : Int} {s : Sg} {P : List Pc} (hs : scanS l = (s, P, 0)) (h : ¬ (t < 1 ∨ 64 < t)) (h1 : s.sealed = false) (h2 : s.good = l.length) (h3 : s.count ≠ 0) :
    footF l t = encF 3 (s.num : Int) (footB s.first s.count t.toNat (marksQ P t.toNat)) := by unfold footF; rw [if_neg h, hs]; simp only; rw [if_neg (by simp), if_neg (by rw [h1]; simp), if_neg (by rw [h2]; simp), if_neg h3]
theorem footB_len (y cnt t : Nat) (ms : List Mk) (h1 : y ≤ 2199023255552) (h2 : cnt ≤ 2199023255552) (h3 : t ≤ 2199023255552) : (footB y cnt t ms).length ≤ 10280 := by
  unfold footB
  have := twoN_len y cnt (by omega) (by omega)
  have := enc_len10 t (by omega)
  have := encIx_bd ms
  rw [List.length_append, List.length_append]
  omega
/-- What is so of every segment that is read. -/
theorem scanS_facts {l : List UInt8} {s : Sg} {P : List Pc} (h : scanS l = (s, P, 0)) : 1 ≤ s.num ∧ s.num ≤ 999999 ∧ 1 ≤ s.first ∧ s.first ≤ 1099511627777 ∧ s.count = P.length ∧ P.length ≤ 512 ∧
    ∃ d e, RunIs l d s.first P e ∧ d ≤ 16404 := by
  unfold scanS scanWith at h
  by_cases he : (hofG l).2.2.2 ≠ 0
  · rw [if_pos he] at h
    injection h with _ h
    injection h with _ h
    exact absurd h he
  · rw [if_neg he] at h
    obtain ⟨g1, g2, g3⟩ := hofG_ok (l := l) (by omega)
    have g4 := hofG_bd l
    injection h with h1 h
    injection h with h2 _
    have hr := runF_is (l := l) (d := (hofG l).2.2.1) (first := ((hofG l).2.1 : Int)) g4.2.2.1
    obtain ⟨R, hR⟩ : ∃ R, runF l (hofG l).2.2.1 (hofG l).2.1 512 = R := ⟨_, rfl⟩
    rw [hR] at hr h1 h2
    obtain ⟨R1, R2⟩ := R
    simp only at hr h2
    subst h2
    have hf := hr.facts
    have hs : s.num = (hofG l).1 ∧ s.first = (hofG l).2.1 ∧ s.count = R1.length := by
      rw [← h1]
      unfold segOf
      split
      · exact ⟨rfl, rfl, rfl⟩
      · split <;> exact ⟨rfl, rfl, rfl⟩
    obtain ⟨q1, q2, q3⟩ := hs
    rw [q1, q2, q3]
    exact ⟨g1, g4.1, g2, g4.2.1, rfl, hf.1, _, _, hr, g3⟩
end Go.Proofs.YtffhejaeliphcaaDoor

namespace Go.Proofs.YtffhejaeliphcaaDoor
open Go.RowKit
set_option linter.unusedVariables false

theorem lay_at {gs : List Fr} {k : Nat} (h : k < gs.length) : layN gs = layN (gs.take k) ++ (gs[k].bytes ++ layN (gs.drop (k + 1))) := by
  have e : gs = gs.take k ++ (gs[k] :: gs.drop (k + 1)) := by rw [← List.drop_eq_getElem_cons h, List.take_append_drop]
  have h2 : layN gs = layN (gs.take k ++ (gs[k] :: gs.drop (k + 1))) := congrArg layN e
  rw [h2, layN_app]
  congr 1
theorem lay_take {gs : List Fr} {k : Nat} (h : k < gs.length) : layN (gs.take (k + 1)) = layN (gs.take k) ++ gs[k].bytes := by
  rw [List.take_add_one, List.getElem?_eq_getElem h]
  exact layN_snoc _ _
theorem torn_scan {gs : List Fr} (h : ∀ g ∈ gs, g.right) {k C : Nat} (hk : k ≤ gs.length) (h1 : (layN (gs.take k)).length ≤ C) (hC : C ≤ (layN gs).length) (h2 : k < gs.length → C < (layN (gs.take (k + 1))).length) :
    scanF ((layN gs).take C) = (pcsN 0 (gs.take k), (layN (gs.take k)).length, if C = (layN (gs.take k)).length then 0 else 60) := by
  have ht : ∀ g ∈ gs.take k, g.right := fun g hg => h g (List.mem_of_mem_take hg)
  by_cases hkl : k < gs.length
  · have h3 := h2 hkl
    rw [lay_take hkl, List.length_append, Fr.bytes_len] at h3
    rw [lay_at hkl]
    by_cases he : C = (layN (gs.take k)).length
    · rw [if_pos he, he]
      exact scanF_whole ht _
    · rw [if_neg he]
      have := scanF_torn (j := C - (layN (gs.take k)).length) ht (h gs[k] (List.getElem_mem _)) (by omega) (by omega) (layN (gs.drop (k + 1)))
      rwa [show (layN (gs.take k)).length + (C - (layN (gs.take k)).length) = C by omega] at this
  · have e : gs.take k = gs := List.take_of_length_le (by omega)
    rw [e] at h1 ⊢
    obtain rfl : C = (layN gs).length := by omega
    rw [if_pos rfl]
    have := scanF_whole h []
    rwa [List.append_nil] at this
theorem scan_laid {gs : List Fr} (h : ∀ g ∈ gs, g.right) : scanF (layN gs) = (pcsN 0 gs, (layN gs).length, 0) := by
  have := scanF_lay h []
  rw [List.append_nil, scanF_nil] at this
  rw [this]; simp
theorem layN_take_le (gs : List Fr) (k : Nat) : (layN (gs.take k)).length ≤ (layN gs).length := by
  have h : layN gs = layN (gs.take k) ++ layN (gs.drop k) := by rw [← layN_app, List.take_append_drop]
  rw [h, List.length_append]; omega
theorem layN_len_le {gs : List Fr} (h : ∀ g ∈ gs, g.right) : (layN gs).length ≤ gs.length * 16404 := by
  induction gs with
  | nil => simp [layN]
  | cons g r ih =>
    have h1 := ih (fun x hx => h x (List.mem_cons_of_mem _ hx))
    have h2 := (h g (List.mem_cons_self ..)).2.2.1
    unfold layN at h1 ⊢
    rw [List.flatMap_cons, List.length_append, g.bytes_len, List.length_cons]
    omega
end Go.Proofs.YtffhejaeliphcaaDoor

namespace Go.Proofs.YtffhejaeliphcaaDoor
open Go.RowKit
set_option linter.unusedVariables false

theorem unN_both {a b : Nat} {r : List UInt8} (ha : a ≤ 2199023255552) (hb : b ≤ 2199023255552) : unN (twoN a b ++ r) 2 = some ([a, b], r) := by
  have e : twoN a b ++ r = enc a ++ (enc b ++ r) := by unfold twoN; simp
  have d1 := dec_of_enc a (enc b ++ r) (by omega)
  have d2 := dec_of_enc b r (by omega)
  rw [e]
  have h0 : unN (enc a ++ (enc b ++ r)) 0 = some ([], enc a ++ (enc b ++ r)) := rfl
  have h1 := unN_step h0
  rw [d1] at h1
  simp only at h1
  rw [if_neg (by omega), List.drop_left] at h1
  have h2 := unN_step h1
  rw [d2] at h2
  simp only at h2
  rw [if_neg (by omega), List.drop_left] at h2
  exact h2
theorem hdr_right {num first : Nat} (h1 : 1 ≤ num) (h2 : num ≤ 999999) (h4 : first ≤ 1099511627777) : (hdrFr num first).right := by
  have := twoN_len num first (by omega) (by omega)
  exact ⟨by show 1 ≤ 2; omega, by show 2 ≤ 7; omega, by show (twoN num first).length ≤ 16384; omega, by show num ≤ 1099511627776; omega⟩
theorem hof_seg {num first : Nat} (h1 : 1 ≤ num) (h2 : num ≤ 999999) (h3 : 1 ≤ first) (h4 : first ≤ 1099511627777) (r : List UInt8) : hofG ((hdrFr num first).bytes ++ r) = (num, first, (hdrFr num first).bytes.length, 0) := by
  obtain ⟨g1, g2, g3, g4⟩ := hdr_right h1 h2 h4
  have hd := decF_laid g1 g2 g3 g4 r
  have hu := unN_both (a := num) (b := first) (r := []) (by omega) (by omega)
  rw [List.append_nil] at hu
  have hr : rightB (num : Int) (first : Int) = true := (rightB_iff _ _).2 ⟨by omega, by omega, by omega, by omega⟩
  have hb := (hdrFr num first).bytes_len
  unfold hofG
  show (if (decF (frameF (hdrFr num first).kind (hdrFr num first).seq (hdrFr num first).body ++ r)).2.2 ≠ 0 ∨ _ then hdBad else _) = _
  unfold Fr.bytes at hb ⊢
  rw [hd]
  simp only
  rw [if_neg (by simp [hdrFr])]
  show (match unN (twoN num first) 2 with | some ([x, y], r) => _ | _ => hdBad) = _
  rw [hu]
  simp only
  rw [if_neg (by rw [hr]; simp [hdrFr]), hb]
theorem evs_right {first : Nat} (hf : first ≤ 549755813888) : ∀ (ls : List (List UInt8)) (i : Nat), i + ls.length ≤ 512 → (∀ l ∈ ls, l.length ≤ 16384) → ∀ g ∈ evsN (first + i) ls, g.right
  | [], i, _, _, g, hg => by cases hg
  | b :: r, i, hl, hb, g, hg => by
    rw [evsN] at hg
    rw [List.length_cons] at hl
    rcases List.mem_cons.1 hg with rfl | hg
    · exact ⟨by show 1 ≤ 1; omega, by show 1 ≤ 7; omega, hb b (by simp), by show first + i ≤ 1099511627776; omega⟩
    · exact evs_right hf r (i + 1) (by omega) (fun l h => hb l (List.mem_cons_of_mem _ h)) g (by rwa [Nat.add_assoc] at hg)
theorem evs_get {first : Nat} : ∀ (ls : List (List UInt8)) (i j : Nat) (g : Fr), (evsN (first + i) ls)[j]? = some g → g.kind = 1 ∧ g.seq = first + (i + j)
  | [], i, j, g, h => by simp [evsN] at h
  | b :: r, i, 0, g, h => by
    rw [evsN] at h
    simp at h
    subst h
    exact ⟨rfl, rfl⟩
  | b :: r, i, j + 1, g, h => by
    rw [evsN, List.getElem?_cons_succ, Nat.add_assoc] at h
    have := evs_get r (i + 1) j g h
    exact ⟨this.1, by rw [this.2]; omega⟩
/-- What a scan makes of a header, whole events and what stands behind them. -/
theorem seg_read {num first : Nat} {ls : List (List UInt8)} {rest : List UInt8} {P' : List Pc} {p' e' : Nat} (h1 : 1 ≤ num) (h2 : num ≤ 999999) (h3 : 1 ≤ first) (h4 : first ≤ 549755813888) (hl : ls.length ≤ 512) (hb : ∀ l ∈ ls, l.length ≤ 16384)
    (hch : Chain rest (pcsN 0 (evsN first ls)) (layN (evsN first ls)).length) (hs : scanF rest = (pcsN 0 (evsN first ls) ++ P', p', e')) (hP : P' = [] ∨ ∃ q t, P' = q :: t ∧ q.f.kind ≠ 1) :
    scanS ((hdrFr num first).bytes ++ rest) = (segOf ((hdrFr num first).bytes ++ rest) num first ((pcsN 0 (evsN first ls)).map (Pc.move (hdrFr num first).bytes.length), (hdrFr num first).bytes.length + (layN (evsN first ls)).length) sealG, (pcsN 0 (evsN first ls)).map (Pc.move (hdrFr num first).bytes.length), 0) := by
  obtain ⟨H, hH⟩ : ∃ H, (hdrFr num first).bytes = H := ⟨_, rfl⟩
  have hh := hof_seg h1 h2 h3 (by omega) rest
  rw [hH] at hh ⊢
  have hlen : (pcsN 0 (evsN first ls)).length = ls.length := by rw [pcsN_len, evsN_len]
  have hgood : ∀ j q, (pcsN 0 (evsN first ls))[j]? = some q → fits (first : Int) 512 (0 + j) q := by
    intro j q hq
    have hj := (List.getElem?_eq_some_iff.1 hq).1
    have hf : ((pcsN 0 (evsN first ls)).map Pc.f)[j]? = some q.f := by rw [List.getElem?_map, hq]; rfl
    rw [pcsN_f] at hf
    obtain ⟨g1, g2⟩ := evs_get (first := first) ls 0 j q.f hf
    exact ⟨by omega, g1, by rw [g2]; omega⟩
  have hrun : runF (H ++ rest) (H.length : Int) (first : Int) 512 = ((pcsN 0 (evsN first ls)).map (Pc.move H.length), H.length + (layN (evsN first ls)).length) := by
    have hg : runG (first : Int) 512 H.length 0 (scanF rest).1 = (pcsN 0 (evsN first ls)).map (Pc.move H.length) := by
      rw [hs]
      simp only
      rw [runG_good _ _ _ hgood]
      rcases hP with rfl | ⟨q, t, rfl, hk⟩
      · rw [runG_nil, List.append_nil]
      · rw [runG_stop (fun h => hk h.2.1), List.append_nil]
    unfold runF
    rw [if_neg (by rw [List.length_append]; omega), Int.toNat_natCast, List.drop_left, hg, endG_chain hch]
  unfold scanS scanWith
  rw [hh]
  simp only
  rw [if_neg (by simp), hrun]
/-- Where what stands behind is no good frame, it is open there. -/
theorem seg_ends {num first : Nat} {ls : List (List UInt8)} {rest : List UInt8} {p' e' : Nat} (h1 : 1 ≤ num) (h2 : num ≤ 999999) (h3 : 1 ≤ first) (h4 : first ≤ 549755813888) (hl : ls.length ≤ 512) (hb : ∀ l ∈ ls, l.length ≤ 16384)
    (hch : Chain rest (pcsN 0 (evsN first ls)) (layN (evsN first ls)).length) (hs : scanF rest = (pcsN 0 (evsN first ls), p', e')) (hd : (decF (rest.drop (layN (evsN first ls)).length)).2.2 ≠ 0) :
    scanS ((hdrFr num first).bytes ++ rest) = (⟨num, first, ls.length, false, 0, [], (segL num first ls).length⟩, (pcsN 0 (evsN first ls)).map (Pc.move (hdrFr num first).bytes.length), 0) := by
  rw [seg_read h1 h2 h3 h4 hl hb hch (P' := []) (by rw [List.append_nil]; exact hs) (.inl rfl)]
  have hlen : (pcsN 0 (evsN first ls)).length = ls.length := by rw [pcsN_len, evsN_len]
  have hdrop : ((hdrFr num first).bytes ++ rest).drop ((hdrFr num first).bytes.length + (layN (evsN first ls)).length) = rest.drop (layN (evsN first ls)).length := List.drop_length_add_append ..
  obtain ⟨z, hz⟩ : ∃ z, decF (rest.drop (layN (evsN first ls)).length) = z := ⟨_, rfl⟩
  obtain ⟨f, k, ef⟩ := z
  rw [hz] at hd
  have := seg_bad (x := num) (y := first) (P := (pcsN 0 (evsN first ls)).map (Pc.move (hdrFr num first).bytes.length)) (sl := sealG) (l := (hdrFr num first).bytes ++ rest) (E := (hdrFr num first).bytes.length + (layN (evsN first ls)).length) (by rw [hdrop]; exact hz) (.inl hd)
  rw [this, List.length_map, hlen]
  unfold segL layN
  rw [List.flatMap_cons, List.length_append]
theorem evs_take {first : Nat} : ∀ (ls : List (List UInt8)) (i k : Nat), (evsN (first + i) ls).take k = evsN (first + i) (ls.take k)
  | [], i, k => by simp [evsN]
  | b :: r, i, 0 => rfl
  | b :: r, i, k + 1 => by
    rw [evsN, List.take_succ_cons, List.take_succ_cons, evsN, Nat.add_assoc, evs_take r (i + 1) k]
theorem segL_cons (num first : Nat) (ls : List (List UInt8)) : segL num first ls = (hdrFr num first).bytes ++ layN (evsN first ls) := by
  unfold segL layN; rw [List.flatMap_cons]
theorem decF_nil : decF [] = (Fr.none, 0, 60) := rfl
/-- Cut behind its header, a segment has just its whole events. -/
theorem seg_torn {num first C k : Nat} {ls : List (List UInt8)} (h1 : 1 ≤ num) (h2 : num ≤ 999999) (h3 : 1 ≤ first) (h4 : first ≤ 549755813888) (hl : ls.length ≤ 512) (hb : ∀ l ∈ ls, l.length ≤ 16384)
    (hk : k ≤ ls.length) (hC1 : (segL num first (ls.take k)).length ≤ C) (hC2 : C ≤ (segL num first ls).length) (hmx : k < ls.length → C < (segL num first (ls.take (k + 1))).length) :
    scanS ((segL num first ls).take C) = (⟨num, first, k, false, 0, [], (segL num first (ls.take k)).length⟩, (pcsN 0 (evsN first (ls.take k))).map (Pc.move (hdrFr num first).bytes.length), 0) := by
  have hr := evs_right (first := first) h4 ls 0 (by omega) hb
  rw [Nat.add_zero] at hr
  have et : ∀ j, (evsN first ls).take j = evsN first (ls.take j) := fun j => evs_take (first := first) ls 0 j
  have el : (evsN first ls).length = ls.length := evsN_len _ _
  rw [segL_cons, List.length_append] at hC1 hC2 hmx
  obtain ⟨C', rfl⟩ : ∃ C', C = (hdrFr num first).bytes.length + C' := ⟨C - (hdrFr num first).bytes.length, by omega⟩
  rw [segL_cons num first ls, List.take_length_add_append]
  have hts := torn_scan (k := k) (C := C') hr (by rw [el]; exact hk) (by rw [et]; omega) (by omega) (fun h => by rw [et]; have := hmx (by rw [← el]; exact h); omega)
  rw [et] at hts
  have hA : layN (evsN first ls) = layN (evsN first (ls.take k)) ++ layN ((evsN first ls).drop k) := by
    rw [← et, ← layN_app, List.take_append_drop]
  obtain ⟨j, hj⟩ : ∃ j, C' = (layN (evsN first (ls.take k))).length + j := ⟨C' - (layN (evsN first (ls.take k))).length, by omega⟩
  have hrest : (layN (evsN first ls)).take C' = layN (evsN first (ls.take k)) ++ (layN ((evsN first ls).drop k)).take j := by
    rw [hA, hj, List.take_length_add_append]
  have hch : Chain ((layN (evsN first ls)).take C') (pcsN 0 (evsN first (ls.take k))) (layN (evsN first (ls.take k))).length := by
    rw [hrest]
    exact chain_lay (fun g hg => hr g (by rw [← et] at hg; exact List.mem_of_mem_take hg)) _
  have hd : (decF (((layN (evsN first ls)).take C').drop (layN (evsN first (ls.take k))).length)).2.2 ≠ 0 := by
    rw [hrest, List.drop_left]
    by_cases hkl : k < ls.length
    · have hkg : k < (evsN first ls).length := by rw [el]; exact hkl
      have hlt := hmx hkl
      rw [← et, lay_take hkg, List.length_append, et] at hlt
      have hbl := ((evsN first ls)[k]).bytes_len
      obtain ⟨q1, q2, q3, q4⟩ := hr _ (List.getElem_mem hkg)
      rw [List.drop_eq_getElem_cons hkg]
      show (decF ((layN ((evsN first ls)[k] :: (evsN first ls).drop (k + 1))).take j)).2.2 ≠ 0
      unfold layN
      rw [List.flatMap_cons, List.take_append_of_le_length (by omega)]
      unfold Fr.bytes
      rw [decF_torn q1 q2 q3 q4 j (by omega)]
      simp
    · rw [List.drop_of_length_le (by rw [el]; omega)]
      simp [layN, decF_nil]
  have := seg_ends (ls := ls.take k) h1 h2 h3 h4 (by rw [List.length_take]; omega) (fun l h => hb l (List.mem_of_mem_take h)) hch hts hd
  rw [this, List.length_take, Nat.min_eq_left hk]
end Go.Proofs.YtffhejaeliphcaaDoor

namespace Go.Proofs.YtffhejaeliphcaaDoor
open Go.RowKit
set_option linter.unusedVariables false

def footFr (num first : Nat) (ls : List (List UInt8)) (t : Nat) : Fr := ⟨3, num, footB first ls.length t (marksQ ((pcsN 0 (evsN first ls)).map (Pc.move (hdrFr num first).bytes.length)) t)⟩
/-- The frames of a sealed segment. -/
def sealFs (num first : Nat) (ls : List (List UInt8)) (t : Nat) : List Fr := hdrFr num first :: (evsN first ls ++ [footFr num first ls t])
theorem sealFs_len (num first : Nat) (ls : List (List UInt8)) (t : Nat) : (sealFs num first ls t).length = ls.length + 2 := by simp [sealFs, evsN_len]
theorem sealFs_lay (num first : Nat) (ls : List (List UInt8)) (t : Nat) : layN (sealFs num first ls t) = segL num first ls ++ (footFr num first ls t).bytes := by
  unfold sealFs segL
  rw [← List.cons_append, layN_snoc]
theorem foot_right {num first t : Nat} {ls : List (List UInt8)} (h2 : num ≤ 999999) (h4 : first ≤ 549755813888) (hl : ls.length ≤ 512) (ht : t ≤ 64) : (footFr num first ls t).right := by
  have := footB_len first ls.length t (marksQ ((pcsN 0 (evsN first ls)).map (Pc.move (hdrFr num first).bytes.length)) t) (by omega) (by omega) (by omega)
  exact ⟨by show 1 ≤ 3; omega, by show 3 ≤ 7; omega, by show (footB _ _ _ _).length ≤ 16384; omega, by show num ≤ 1099511627776; omega⟩
theorem seal_right {num first t : Nat} {ls : List (List UInt8)} (h1 : 1 ≤ num) (h2 : num ≤ 999999) (h4 : first ≤ 549755813888) (hl : ls.length ≤ 512) (hb : ∀ l ∈ ls, l.length ≤ 16384) (ht : t ≤ 64) : ∀ g ∈ sealFs num first ls t, g.right := by
  intro g hg
  have he := evs_right (first := first) h4 ls 0 (by omega) hb
  rw [Nat.add_zero] at he
  unfold sealFs at hg
  rcases List.mem_cons.1 hg with rfl | hg
  · exact hdr_right h1 h2 (by omega)
  · rcases List.mem_append.1 hg with hg | hg
    · exact he g hg
    · rw [List.mem_singleton] at hg; subst hg; exact foot_right h2 h4 hl ht
theorem seg_whole {num first : Nat} {ls : List (List UInt8)} (h1 : 1 ≤ num) (h2 : num ≤ 999999) (h3 : 1 ≤ first) (h4 : first ≤ 549755813888) (hl : ls.length ≤ 512) (hb : ∀ l ∈ ls, l.length ≤ 16384) :
    scanS (segL num first ls) = (⟨num, first, ls.length, false, 0, [], (segL num first ls).length⟩, (pcsN 0 (evsN first ls)).map (Pc.move (hdrFr num first).bytes.length), 0) := by
  have h := seg_torn (k := ls.length) (C := (segL num first ls).length) h1 h2 h3 h4 hl hb (Nat.le_refl _) (by rw [List.take_length]; exact Nat.le_refl _) (Nat.le_refl _) (fun h => absurd h (Nat.lt_irrefl _))
  rw [List.take_length, List.take_length] at h
  exact h
/-- What seals laid bytes. -/
theorem seal_foot {num first t : Nat} {ls : List (List UInt8)} (h1 : 1 ≤ num) (h2 : num ≤ 999999) (h3 : 1 ≤ first) (h4 : first ≤ 549755813888) (hn : 1 ≤ ls.length) (hl : ls.length ≤ 512) (hb : ∀ l ∈ ls, l.length ≤ 16384) (ht1 : 1 ≤ t) (ht : t ≤ 64) :
    footF (segL num first ls) (t : Int) = ((footFr num first ls t).bytes, 0) := by
  have hs := seg_whole h1 h2 h3 h4 hl hb
  rw [footF_ok hs (by omega) rfl rfl (by show ls.length ≠ 0; omega)]
  have hf := foot_right (t := t) (ls := ls) h2 h4 hl ht
  obtain ⟨q1, q2, q3, q4⟩ := hf
  simp only
  unfold encF
  rw [if_neg (by omega), if_neg (by simp only [Int.toNat_natCast]; unfold footFr at q3; exact Nat.not_lt.2 q3)]
  unfold Fr.bytes footFr
  simp only [Int.toNat_natCast]
  rfl
theorem seal_take {num first t : Nat} {ls : List (List UInt8)} {i : Nat} (h : i ≤ ls.length) : (sealFs num first ls t).take (i + 1) = hdrFr num first :: evsN first (ls.take i) := by
  unfold sealFs
  rw [List.take_succ_cons, List.take_append_of_le_length (by rw [evsN_len]; exact h)]
  have := evs_take (first := first) ls 0 i
  rw [Nat.add_zero] at this
  rw [this]
theorem seal_low {num first t : Nat} {ls : List (List UInt8)} {i : Nat} (h : i ≤ ls.length) : layN ((sealFs num first ls t).take (i + 1)) = segL num first (ls.take i) := by
  rw [seal_take h]; rfl
/-- Bits of the header turned: it has none. -/
theorem seal_turned0 {num first : Nat} {T r : List UInt8} {t p : Nat} (h1 : 1 ≤ num) (h2 : num ≤ 999999) (h4 : first ≤ 549755813888) (hp : p < 4294967296) (hl : T.length = (hdrFr num first).bytes.length) (ht : t ≤ 8 * (hdrFr num first).bytes.length)
    (hm : Go.Proofs.YtffhejaeliphcaaDoor.num T = Go.Proofs.YtffhejaeliphcaaDoor.num (hdrFr num first).bytes ^^^ 2 ^ t * p) (hne : T ≠ (hdrFr num first).bytes) : scanS (T ++ r) = (Sg.zero, [], 71) := by
  obtain ⟨g1, g2, g3, g4⟩ := hdr_right (first := first) h1 h2 (by omega)
  have hd := decF_turned g1 g2 g3 g4 T r t p hp hl ht hm hne
  have hh : hofG (T ++ r) = hdBad := by
    unfold hofG
    rcases hd with hd | hd
    · rw [hd, if_pos (.inl (by simp))]
    · rw [hd, if_pos (.inl (by simp))]
  unfold scanS scanWith
  rw [hh, if_pos (by decide)]
  rfl
/-- Bits of another frame turned: the events ahead of it. -/
theorem seal_turned {num first i : Nat} {ls : List (List UInt8)} {g : Fr} {T r : List UInt8} {t p : Nat} (h1 : 1 ≤ num) (h2 : num ≤ 999999) (h3 : 1 ≤ first) (h4 : first ≤ 549755813888) (hln : ls.length ≤ 512) (hb : ∀ l ∈ ls, l.length ≤ 16384) (hi : i ≤ ls.length) (hg : g.right)
    (hp : p < 4294967296) (hl : T.length = g.bytes.length) (ht : t ≤ 8 * g.bytes.length) (hm : Go.Proofs.YtffhejaeliphcaaDoor.num T = Go.Proofs.YtffhejaeliphcaaDoor.num g.bytes ^^^ 2 ^ t * p) (hne : T ≠ g.bytes) :
    scanS (segL num first (ls.take i) ++ (T ++ r)) = (⟨num, first, i, false, 0, [], (segL num first (ls.take i)).length⟩, (pcsN 0 (evsN first (ls.take i))).map (Pc.move (hdrFr num first).bytes.length), 0) := by
  have hb' : ∀ l ∈ ls.take i, l.length ≤ 16384 := fun l h => hb l (List.mem_of_mem_take h)
  have hl' : (ls.take i).length = i := by rw [List.length_take]; omega
  have hr := evs_right (first := first) h4 (ls.take i) 0 (by omega) hb'
  rw [Nat.add_zero] at hr
  obtain ⟨e, he, hsc⟩ := scanF_turned (r := r) hr hg hp hl ht hm hne
  have hd : (decF ((layN (evsN first (ls.take i)) ++ (T ++ r)).drop (layN (evsN first (ls.take i))).length)).2.2 ≠ 0 := by
    rw [List.drop_left]
    rcases decF_turned hg.1 hg.2.1 hg.2.2.1 hg.2.2.2 T r t p hp hl ht hm hne with h | h
    · rw [h]; simp
    · rw [h]; simp
  have := seg_ends (ls := ls.take i) h1 h2 h3 h4 (by omega) hb' (chain_lay hr _) hsc hd
  rw [segL_cons num first (ls.take i), List.append_assoc]
  rw [segL_cons num first (ls.take i)] at this
  rw [this, hl']
/-- Frame i of a sealed segment turned. -/
theorem seal_burst {num first s i : Nat} {ls : List (List UInt8)} {t p : Nat} (h1 : 1 ≤ num) (h2 : num ≤ 999999) (h3 : 1 ≤ first) (h4 : first ≤ 549755813888) (hln : ls.length ≤ 512) (hb : ∀ l ∈ ls, l.length ≤ 16384) (hs : s ≤ 64)
    (hi : i < (sealFs num first ls s).length) (hp : p < 4294967296) (ht : t ≤ 8 * (sealFs num first ls s)[i].bytes.length) (hne : turn (sealFs num first ls s)[i].bytes t p 32 ≠ (sealFs num first ls s)[i].bytes) :
    scanS (layN ((sealFs num first ls s).take i) ++ (turn (sealFs num first ls s)[i].bytes t p 32 ++ layN ((sealFs num first ls s).drop (i + 1)))) =
      match i with
      | 0 => (Sg.zero, [], 71)
      | k + 1 => (⟨num, first, k, false, 0, [], (layN ((sealFs num first ls s).take (k + 1))).length⟩, (pcsN 0 (evsN first (ls.take k))).map (Pc.move (hdrFr num first).bytes.length), 0) := by
  obtain ⟨q, hq, hn⟩ := turn_is (sealFs num first ls s)[i].bytes t p ht hp
  have hr := seal_right (t := s) h1 h2 h4 hln hb hs _ (List.getElem_mem hi)
  have hl := sealFs_len num first ls s
  cases i with
  | zero =>
    have e : (sealFs num first ls s)[0] = hdrFr num first := rfl
    simp only [List.take_zero]
    rw [show layN [] = [] from rfl, List.nil_append]
    exact seal_turned0 h1 h2 h4 hq (turn_length _ _ _ _) ht hn hne
  | succ k =>
    simp only
    rw [seal_low (by omega)]
    exact seal_turned h1 h2 h3 h4 hln hb (by omega) hr hq (turn_length _ _ _ _) ht hn hne
/-- Where its frames begin, and its end. -/
def lowsN (num first : Nat) (ls : List (List UInt8)) (t : Nat) : List Nat := [0, (hdrFr num first).bytes.length] ++ endsS num first ls ++ [(layN (sealFs num first ls t)).length]
theorem lowsN_len (num first : Nat) (ls : List (List UInt8)) (t : Nat) : (lowsN num first ls t).length = ls.length + 3 := by simp [lowsN, endsS_len]
theorem lowsN_at {num first t k : Nat} {ls : List (List UInt8)} (h : k ≤ ls.length + 2) : (lowsN num first ls t)[k]? = some (layN ((sealFs num first ls t).take k)).length := by
  have hl := sealFs_len num first ls t
  match k, h with
  | 0, _ => rfl
  | 1, _ =>
    rw [seal_low (i := 0) (by omega)]
    show some _ = some _
    rw [segL_cons]; simp [evsN, layN]
  | j + 2, h =>
    unfold lowsN
    by_cases hj : j < ls.length
    · rw [List.getElem?_append_left (by simp [endsS_len]; omega), List.getElem?_append_right (by simp)]
      show (endsS num first ls)[j]? = _
      rw [endsS_at hj, seal_low (i := j + 1) (by omega)]
    · rw [List.getElem?_append_right (by simp [endsS_len]; omega)]
      have e : j = ls.length := by omega
      subst e
      simp only [List.length_append, endsS_len, List.length_cons, List.length_nil]
      rw [show ls.length + 2 - (0 + 1 + 1 + ls.length) = 0 by omega, List.take_of_length_le (by rw [hl]; omega)]
      rfl
end Go.Proofs.YtffhejaeliphcaaDoor
