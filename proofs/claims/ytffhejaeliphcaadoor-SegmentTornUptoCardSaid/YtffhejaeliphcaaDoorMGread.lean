/-
  A laid segment and what a scan reads in it, as data: whole, cut, with a frame turned, sealed. No condition.
-/
import Derived.Test.YtffhejaeliphcaaDoorMGfplain
import Derived.Test.YtffhejaeliphcaaDoorMGlaid
import Derived.Test.YtffhejaeliphcaaDoorMGscan
import Derived.Test.YtffhejaeliphcaaDoorMPcut
namespace Go.Proofs.YtffhejaeliphcaaDoor
open Go.RowKit
set_option linter.unusedVariables false

theorem unN_both {a b : Nat} {r : List UInt8} (ha : a ≤ 2199023255552) (hb : b ≤ 2199023255552) : unN (twoN a b ++ r) 2 = some ([a, b], r) := by
  have e : twoN a b ++ r = enc a ++ (enc b ++ r) := by unfold twoN; simp
  have d1 := dec_of_enc a (enc b ++ r) (by omega)
  have d2 := dec_of_enc b r (by omega)
  rw [e]
  have h0 : unN (enc a ++ (enc b ++ r)) 0 = some ([], enc a ++ (enc b ++ r)) := rfl
  have h1 := unN_step h0
  rw [d1] at h1
  simp only at h1
  rw [if_neg (by omega), List.drop_left] at h1
  have h2 := unN_step h1
  rw [d2] at h2
  simp only at h2
  rw [if_neg (by omega), List.drop_left] at h2
  exact h2
theorem hdr_right {num first : Nat} (h1 : 1 ≤ num) (h2 : num ≤ 999999) (h4 : first ≤ 1099511627777) : (hdrFr num first).right := by
  have := twoN_len num first (by omega) (by omega)
  exact ⟨by show 1 ≤ 2; omega, by show 2 ≤ 7; omega, by show (twoN num first).length ≤ 16384; omega, by show num ≤ 1099511627776; omega⟩
theorem hof_seg {num first : Nat} (h1 : 1 ≤ num) (h2 : num ≤ 999999) (h3 : 1 ≤ first) (h4 : first ≤ 1099511627777) (r : List UInt8) : hofG ((hdrFr num first).bytes ++ r) = (num, first, (hdrFr num first).bytes.length, 0) := by
  obtain ⟨g1, g2, g3, g4⟩ := hdr_right h1 h2 h4
  have hd := decF_laid g1 g2 g3 g4 r
  have hu := unN_both (a := num) (b := first) (r := []) (by omega) (by omega)
  rw [List.append_nil] at hu
  have hr : rightB (num : Int) (first : Int) = true := (rightB_iff _ _).2 ⟨by omega, by omega, by omega, by omega⟩
  have hb := (hdrFr num first).bytes_len
  unfold hofG
  show (if (decF (frameF (hdrFr num first).kind (hdrFr num first).seq (hdrFr num first).body ++ r)).2.2 ≠ 0 ∨ _ then hdBad else _) = _
  unfold Fr.bytes at hb ⊢
  rw [hd]
  simp only
  rw [if_neg (by simp [hdrFr])]
  show (match unN (twoN num first) 2 with | some ([x, y], r) => _ | _ => hdBad) = _
  rw [hu]
  simp only
  rw [if_neg (by rw [hr]; simp [hdrFr]), hb]
theorem evs_right {first : Nat} (hf : first ≤ 549755813888) : ∀ (ls : List (List UInt8)) (i : Nat), i + ls.length ≤ 512 → (∀ l ∈ ls, l.length ≤ 16384) → ∀ g ∈ evsN (first + i) ls, g.right
  | [], i, _, _, g, hg => by cases hg
  | b :: r, i, hl, hb, g, hg => by
    rw [evsN] at hg
    rw [List.length_cons] at hl
    rcases List.mem_cons.1 hg with rfl | hg
    · exact ⟨by show 1 ≤ 1; omega, by show 1 ≤ 7; omega, hb b (by simp), by show first + i ≤ 1099511627776; omega⟩
    · exact evs_right hf r (i + 1) (by omega) (fun l h => hb l (List.mem_cons_of_mem _ h)) g (by rwa [Nat.add_assoc] at hg)
theorem evs_get {first : Nat} : ∀ (ls : List (List UInt8)) (i j : Nat) (g : Fr), (evsN (first + i) ls)[j]? = some g → g.kind = 1 ∧ g.seq = first + (i + j)
  | [], i, j, g, h => by simp [evsN] at h
  | b :: r, i, 0, g, h => by
    rw [evsN] at h
    simp at h
    subst h
    exact ⟨rfl, rfl⟩
  | b :: r, i, j + 1, g, h => by
    rw [evsN, List.getElem?_cons_succ, Nat.add_assoc] at h
    have := evs_get r (i + 1) j g h
    exact ⟨this.1, by rw [this.2]; omega⟩
/-- What a scan makes of a header, whole events and what stands behind them. -/
theorem seg_read {num first : Nat} {ls : List (List UInt8)} {rest : List UInt8} {P' : List Pc} {p' e' : Nat} (h1 : 1 ≤ num) (h2 : num ≤ 999999) (h3 : 1 ≤ first) (h4 : first ≤ 549755813888) (hl : ls.length ≤ 512) (hb : ∀ l ∈ ls, l.length ≤ 16384)
    (hch : Chain rest (pcsN 0 (evsN first ls)) (layN (evsN first ls)).length) (hs : scanF rest = (pcsN 0 (evsN first ls) ++ P', p', e')) (hP : P' = [] ∨ ∃ q t, P' = q :: t ∧ q.f.kind ≠ 1) :
    scanS ((hdrFr num first).bytes ++ rest) = (segOf ((hdrFr num first).bytes ++ rest) num first ((pcsN 0 (evsN first ls)).map (Pc.move (hdrFr num first).bytes.length), (hdrFr num first).bytes.length + (layN (evsN first ls)).length) sealG, (pcsN 0 (evsN first ls)).map (Pc.move (hdrFr num first).bytes.length), 0) := by
  obtain ⟨H, hH⟩ : ∃ H, (hdrFr num first).bytes = H := ⟨_, rfl⟩
  have hh := hof_seg h1 h2 h3 (by omega) rest
  rw [hH] at hh ⊢
  have hlen : (pcsN 0 (evsN first ls)).length = ls.length := by rw [pcsN_len, evsN_len]
  have hgood : ∀ j q, (pcsN 0 (evsN first ls))[j]? = some q → fits (first : Int) 512 (0 + j) q := by
    intro j q hq
    have hj := (List.getElem?_eq_some_iff.1 hq).1
    have hf : ((pcsN 0 (evsN first ls)).map Pc.f)[j]? = some q.f := by rw [List.getElem?_map, hq]; rfl
    rw [pcsN_f] at hf
    obtain ⟨g1, g2⟩ := evs_get (first := first) ls 0 j q.f hf
    exact ⟨by omega, g1, by rw [g2]; omega⟩
  have hrun : runF (H ++ rest) (H.length : Int) (first : Int) 512 = ((pcsN 0 (evsN first ls)).map (Pc.move H.length), H.length + (layN (evsN first ls)).length) := by
    have hg : runG (first : Int) 512 H.length 0 (scanF rest).1 = (pcsN 0 (evsN first ls)).map (Pc.move H.length) := by
      rw [hs]
      simp only
      rw [runG_good _ _ _ hgood]
      rcases hP with rfl | ⟨q, t, rfl, hk⟩
      · rw [runG_nil, List.append_nil]
      · rw [runG_stop (fun h => hk h.2.1), List.append_nil]
    unfold runF
    rw [if_neg (by rw [List.length_append]; omega), Int.toNat_natCast, List.drop_left, hg, endG_chain hch]
  unfold scanS scanWith
  rw [hh]
  simp only
  rw [if_neg (by simp), hrun]
/-- Where what stands behind is no good frame, it is open there. -/
theorem seg_ends {num first : Nat} {ls : List (List UInt8)} {rest : List UInt8} {p' e' : Nat} (h1 : 1 ≤ num) (h2 : num ≤ 999999) (h3 : 1 ≤ first) (h4 : first ≤ 549755813888) (hl : ls.length ≤ 512) (hb : ∀ l ∈ ls, l.length ≤ 16384)
    (hch : Chain rest (pcsN 0 (evsN first ls)) (layN (evsN first ls)).length) (hs : scanF rest = (pcsN 0 (evsN first ls), p', e')) (hd : (decF (rest.drop (layN (evsN first ls)).length)).2.2 ≠ 0) :
    scanS ((hdrFr num first).bytes ++ rest) = (⟨num, first, ls.length, false, 0, [], (segL num first ls).length⟩, (pcsN 0 (evsN first ls)).map (Pc.move (hdrFr num first).bytes.length), 0) := by
  rw [seg_read h1 h2 h3 h4 hl hb hch (P' := []) (by rw [List.append_nil]; exact hs) (.inl rfl)]
  have hlen : (pcsN 0 (evsN first ls)).length = ls.length := by rw [pcsN_len, evsN_len]
  have hdrop : ((hdrFr num first).bytes ++ rest).drop ((hdrFr num first).bytes.length + (layN (evsN first ls)).length) = rest.drop (layN (evsN first ls)).length := List.drop_length_add_append ..
  obtain ⟨z, hz⟩ : ∃ z, decF (rest.drop (layN (evsN first ls)).length) = z := ⟨_, rfl⟩
  obtain ⟨f, k, ef⟩ := z
  rw [hz] at hd
  have := seg_bad (x := num) (y := first) (P := (pcsN 0 (evsN first ls)).map (Pc.move (hdrFr num first).bytes.length)) (sl := sealG) (l := (hdrFr num first).bytes ++ rest) (E := (hdrFr num first).bytes.length + (layN (evsN first ls)).length) (by rw [hdrop]; exact hz) (.inl hd)
  rw [this, List.length_map, hlen]
  unfold segL layN
  rw [List.flatMap_cons, List.length_append]
theorem evs_take {first : Nat} : ∀ (ls : List (List UInt8)) (i k : Nat), (evsN (first + i) ls).take k = evsN (first + i) (ls.take k)
  | [], i, k => by simp [evsN]
  | b :: r, i, 0 => rfl
  | b :: r, i, k + 1 => by
    rw [evsN, List.take_succ_cons, List.take_succ_cons, evsN, Nat.add_assoc, evs_take r (i + 1) k]
theorem segL_cons (num first : Nat) (ls : List (List UInt8)) : segL num first ls = (hdrFr num first).bytes ++ layN (evsN first ls) := by
  unfold segL layN; rw [List.flatMap_cons]
theorem decF_nil : decF [] = (Fr.none, 0, 60) := rfl
/-- Cut behind its header, a segment has just its whole events. -/
theorem seg_torn {num first C k : Nat} {ls : List (List UInt8)} (h1 : 1 ≤ num) (h2 : num ≤ 999999) (h3 : 1 ≤ first) (h4 : first ≤ 549755813888) (hl : ls.length ≤ 512) (hb : ∀ l ∈ ls, l.length ≤ 16384)
    (hk : k ≤ ls.length) (hC1 : (segL num first (ls.take k)).length ≤ C) (hC2 : C ≤ (segL num first ls).length) (hmx : k < ls.length → C < (segL num first (ls.take (k + 1))).length) :
    scanS ((segL num first ls).take C) = (⟨num, first, k, false, 0, [], (segL num first (ls.take k)).length⟩, (pcsN 0 (evsN first (ls.take k))).map (Pc.move (hdrFr num first).bytes.length), 0) := by
  have hr := evs_right (first := first) h4 ls 0 (by omega) hb
  rw [Nat.add_zero] at hr
  have et : ∀ j, (evsN first ls).take j = evsN first (ls.take j) := fun j => evs_take (first := first) ls 0 j
  have el : (evsN first ls).length = ls.length := evsN_len _ _
  rw [segL_cons, List.length_append] at hC1 hC2 hmx
  obtain ⟨C', rfl⟩ : ∃ C', C = (hdrFr num first).bytes.length + C' := ⟨C - (hdrFr num first).bytes.length, by omega⟩
  rw [segL_cons num first ls, List.take_length_add_append]
  have hts := torn_scan (k := k) (C := C') hr (by rw [el]; exact hk) (by rw [et]; omega) (by omega) (fun h => by rw [et]; have := hmx (by rw [← el]; exact h); omega)
  rw [et] at hts
  have hA : layN (evsN first ls) = layN (evsN first (ls.take k)) ++ layN ((evsN first ls).drop k) := by
    rw [← et, ← layN_app, List.take_append_drop]
  obtain ⟨j, hj⟩ : ∃ j, C' = (layN (evsN first (ls.take k))).length + j := ⟨C' - (layN (evsN first (ls.take k))).length, by omega⟩
  have hrest : (layN (evsN first ls)).take C' = layN (evsN first (ls.take k)) ++ (layN ((evsN first ls).drop k)).take j := by
    rw [hA, hj, List.take_length_add_append]
  have hch : Chain ((layN (evsN first ls)).take C') (pcsN 0 (evsN first (ls.take k))) (layN (evsN first (ls.take k))).length := by
    rw [hrest]
    exact chain_lay (fun g hg => hr g (by rw [← et] at hg; exact List.mem_of_mem_take hg)) _
  have hd : (decF (((layN (evsN first ls)).take C').drop (layN (evsN first (ls.take k))).length)).2.2 ≠ 0 := by
    rw [hrest, List.drop_left]
    by_cases hkl : k < ls.length
    · have hkg : k < (evsN first ls).length := by rw [el]; exact hkl
      have hlt := hmx hkl
      rw [← et, lay_take hkg, List.length_append, et] at hlt
      have hbl := ((evsN first ls)[k]).bytes_len
      obtain ⟨q1, q2, q3, q4⟩ := hr _ (List.getElem_mem hkg)
      rw [List.drop_eq_getElem_cons hkg]
      show (decF ((layN ((evsN first ls)[k] :: (evsN first ls).drop (k + 1))).take j)).2.2 ≠ 0
      unfold layN
      rw [List.flatMap_cons, List.take_append_of_le_length (by omega)]
      unfold Fr.bytes
      rw [decF_torn q1 q2 q3 q4 j (by omega)]
      simp
    · rw [List.drop_of_length_le (by rw [el]; omega)]
      simp [layN, decF_nil]
  have := seg_ends (ls := ls.take k) h1 h2 h3 h4 (by rw [List.length_take]; omega) (fun l h => hb l (List.mem_of_mem_take h)) hch hts hd
  rw [this, List.length_take, Nat.min_eq_left hk]
end Go.Proofs.YtffhejaeliphcaaDoor
