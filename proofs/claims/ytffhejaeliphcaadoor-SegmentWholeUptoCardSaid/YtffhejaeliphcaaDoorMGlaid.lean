/-
  The walks of the statements' 'few' and 'laid' of a segment. Conditions: the bodies read as slices of bytes; the table of nibbles holds what the text lays.
-/
import Derived.Test.YtffhejaeliphcaaDoorMGsc
import Derived.Test.YtffhejaeliphcaaDoorMHw
import Derived.Test.YtffhejaeliphcaaDoorMPjoin
import Derived.Test.YtffhejaeliphcaaDoorMAppW
namespace Go.Proofs.YtffhejaeliphcaaDoor
open Go.RowKit
set_option linter.unusedVariables false

/-- Bodies in memory. -/
def BssRd (a : Option Addr) (n c : Nat) (bs : List Bs) (W : World) : Prop := RowAt W a n c 1 (bs.flatMap Bs.cells) ∧ ∀ x ∈ bs, RowAt W x.a x.n x.c 1 (x.l.map B)
theorem BssRd.below {a : Option Addr} {n c : Nat} {bs : List Bs} {W W' : World} (h : BssRd a n c bs W) (hb : Below W.heap.size W W') : BssRd a n c bs W' := ⟨h.1.below hb, fun x hx => (h.2 x hx).below hb⟩
theorem BssRd.len {a : Option Addr} {n c : Nat} {bs : List Bs} {W : World} (h : BssRd a n c bs W) : bs.length = n := by
  have e := h.1.1
  rw [flat_length Bs.cells (k := 1) (fun _ => rfl) bs] at e
  omega
theorem BssRd.at {a : Option Addr} {n c : Nat} {bs : List Bs} {W : World} (h : BssRd a n c bs W) (j : Nat) (hj : j < n) :
    ∃ b off x, a = some ⟨b, off, none⟩ ∧ bs[j]? = some x ∧ W.cell? ⟨b, off + j, none⟩ = some (.slice x.a x.n x.c) ∧ RowAt W x.a x.n x.c 1 (x.l.map B) := by
  obtain ⟨b, off, u, ha, hu, hc⟩ := h.1.at j (by omega)
  obtain ⟨i, r', x, h1, h2, h3, h4⟩ := flat_get (k := 1) Bs.cells (fun _ => rfl) bs _ u hu
  obtain rfl : r' = 0 := by omega
  obtain rfl : i = j := by omega
  simp [Bs.cells] at h4
  subst h4
  exact ⟨b, off, x, ha, h1, hc, h.2 x (List.mem_of_getElem? h1)⟩
/-- The events of a segment. -/
def evsN : Nat → List (List UInt8) → List Fr
  | _, [] => []
  | f, b :: r => ⟨1, f, b⟩ :: evsN (f + 1) r
theorem evsN_snoc (b : List UInt8) : ∀ (bs : List (List UInt8)) (f : Nat), evsN f (bs ++ [b]) = evsN f bs ++ [⟨1, f + bs.length, b⟩]
  | [], f => rfl
  | x :: bs, f => by
    rw [List.cons_append, evsN, evsN_snoc b bs (f + 1), evsN, List.cons_append, List.length_cons, Nat.add_assoc, Nat.add_comm 1]
theorem evsN_len : ∀ (bs : List (List UInt8)) (f : Nat), (evsN f bs).length = bs.length
  | [], f => rfl
  | x :: bs, f => by rw [evsN, List.length_cons, List.length_cons, evsN_len]
def hdrFr (num first : Nat) : Fr := ⟨2, num, twoN num first⟩
/-- A number and bodies that a segment may have. -/
def fewB (num first : Int) (bs : List Bs) : Bool := decide (1 ≤ num) && decide (num ≤ 999999) && decide (1 ≤ first) && decide (first ≤ 549755813888) && decide (1 ≤ bs.length) && decide (bs.length ≤ 512) && bs.all fun x => decide (x.n ≤ 16384)
theorem fewB_iff {num first : Int} {bs : List Bs} : fewB num first bs = true ↔ 1 ≤ num ∧ num ≤ 999999 ∧ 1 ≤ first ∧ first ≤ 549755813888 ∧ 1 ≤ bs.length ∧ bs.length ≤ 512 ∧ ∀ x ∈ bs, x.n ≤ 16384 := by
  unfold fewB; simp [and_assoc]
theorem few_no {num first : Int} {bs : List Bs} (h : ¬ (1 ≤ num ∧ num ≤ 999999 ∧ 1 ≤ first ∧ first ≤ 549755813888 ∧ 1 ≤ bs.length ∧ bs.length ≤ 512 ∧ ∀ x ∈ bs, x.n ≤ 16384)) : fewB num first bs = false := by
  cases hb : fewB num first bs with
  | false => rfl
  | true => exact absurd (fewB_iff.1 hb) h

set_option maxHeartbeats 1600000 in
theorem few_any (num first : Int) (a : Option Addr) (n c : Nat) (bs : List Bs) (w : World) (r : BssRd a n c bs w) :
    Calls Tryd.prog 16 #[.int .i64 num, .int .i64 first, .slice a n c] w fun e w' => e = .returned (.bool (fewB num first bs)) ∧ w = w' := by
  have hl := r.len
  have m1 := r.1.2.1
  have m2 := r.1.2.2.1
  unfold maxLen at m2
  by_cases h : 1 ≤ num ∧ num ≤ 999999 ∧ 1 ≤ first ∧ first ≤ 549755813888 ∧ 1 ≤ n ∧ n ≤ 512
  · obtain ⟨h1, h2, h3, h4, h5, h6⟩ := h
    have HL := Lib.hid hl
    clear hl
    go_enter Tryd.func16, Tryd.ntmps16
    go_wp2_with fail
    go_loopw [34] (fun iv wr => ∃ j : Nat, iv = .int .i64 (j : Int) ∧ j ≤ n ∧ Hid (∀ x ∈ bs.take j, x.n ≤ 16384) ∧ w = wr) (fun iv _ => n - (intOf iv).toNat)
    case atStart => exact ⟨0, rfl, Nat.zero_le _, Lib.hid (fun x hx => by simp at hx), rfl⟩
    case round =>
      obtain ⟨j, rfl, hj, HJ, rfl⟩ := hrel
      by_cases hjn : j < n
      · obtain ⟨b, off, x, rfl, hx, hc, rx⟩ := r.at j hjn
        have HX := Lib.hid hx
        have k1 := rx.2.1
        have k2 := rx.2.2.1
        unfold maxLen at k2
        clear hx rx
        by_cases hb : x.n ≤ 16384
        · go_wp2_with fail
          go_roundw
          case rel => exact ⟨j + 1, by go_num, by omega, Lib.hid (fun y hy => by
            rw [List.take_add_one, HX.out] at hy
            rcases List.mem_append.1 hy with hy | hy
            · exact HJ.out y hy
            · simp at hy; rw [hy]; exact hb), by trivial⟩
          case measure => simp [intOf]; omega
        · go_wp2_with fail
          go_ret
          rw [few_no fun hh => hb (hh.2.2.2.2.2.2 x (List.mem_of_getElem? HX.out))]
          exact ⟨rfl, rfl⟩
      · obtain rfl : j = n := by omega
        go_wp2_with fail
        go_ret
        have hall := HJ.out
        rw [List.take_of_length_le (by rw [HL.out]; exact Nat.le_refl _)] at hall
        rw [fewB_iff.2 ⟨h1, h2, h3, h4, by rw [HL.out]; exact h5, by rw [HL.out]; exact h6, hall⟩]
        exact ⟨rfl, rfl⟩
  · have HF : Hid (fewB num first bs = false) := Lib.hid (few_no fun hh => h ⟨hh.1, hh.2.1, hh.2.2.1, hh.2.2.2.1, by rw [← hl]; exact hh.2.2.2.2.1, by rw [← hl]; exact hh.2.2.2.2.2.1⟩)
    have HH := Lib.hid h
    clear h hl
    go_enter Tryd.func16, Tryd.ntmps16
    by_cases h1 : num < 1
    · go_wp2_with fail
      go_ret
      rw [HF.out]; exact ⟨rfl, rfl⟩
    by_cases h2 : 999999 < num
    · go_wp2_with fail
      go_ret
      rw [HF.out]; exact ⟨rfl, rfl⟩
    by_cases h3 : first < 1
    · go_wp2_with fail
      go_ret
      rw [HF.out]; exact ⟨rfl, rfl⟩
    by_cases h4 : 549755813888 < first
    · go_wp2_with fail
      go_ret
      rw [HF.out]; exact ⟨rfl, rfl⟩
    by_cases h5 : (n : Int) < 1
    · go_wp2_with fail
      go_ret
      rw [HF.out]; exact ⟨rfl, rfl⟩
    have h6 : 512 < (n : Int) := by have := HH.out; omega
    go_wp2_with fail
    go_ret
    rw [HF.out]; exact ⟨rfl, rfl⟩

/-! ### laid -/
def segL (num first : Nat) (ls : List (List UInt8)) : List UInt8 := layN (hdrFr num first :: evsN first ls)
def endsS (num first : Nat) (ls : List (List UInt8)) : List Nat := (List.range ls.length).map fun k => (segL num first (ls.take (k + 1))).length
theorem endsS_len (num first : Nat) (ls : List (List UInt8)) : (endsS num first ls).length = ls.length := by simp [endsS]
theorem segL_snoc (num first : Nat) (ls : List (List UInt8)) (b : List UInt8) : segL num first (ls ++ [b]) = segL num first ls ++ (Fr.bytes ⟨1, first + ls.length, b⟩) := by
  unfold segL
  rw [evsN_snoc, ← List.cons_append, layN_snoc]
theorem endsS_snoc (num first : Nat) (ls : List (List UInt8)) (b : List UInt8) : endsS num first (ls ++ [b]) = endsS num first ls ++ [(segL num first (ls ++ [b])).length] := by
  unfold endsS
  rw [List.length_append, List.length_singleton, List.range_succ, List.map_append, List.map_singleton, List.take_of_length_le (l := ls ++ [b]) (by simp)]
  congr 1
  refine List.map_congr_left fun k hk => ?_
  rw [List.take_append_of_le_length (by have := List.mem_range.1 hk; omega)]
theorem endsS_at {num first : Nat} {ls : List (List UInt8)} {k : Nat} (h : k < ls.length) : (endsS num first ls)[k]? = some (segL num first (ls.take (k + 1))).length := by
  unfold endsS
  rw [List.getElem?_map, List.getElem?_range h]
  rfl
theorem own_else {w w' : World} {lo lo2 size size2 n n2 : Nat} {e e2 : TypeId} {v v2 : Value} {xs ys : List Value} (h : w.ownsRow lo e size v n xs) (h2 : w.ownsRow lo2 e2 size2 v2 n2 ys) (hne : (e == e2) = false) (hg : w.grownBy w' v2.ownBlock) : w'.ownsRow lo e size v n xs :=
  own_on h fun g cs _ _ hw => (hg.block g (lt_of_block hw) fun eg => by
    rcases h2.2 with ⟨h', _⟩ | ⟨g', cap', cur, h', _, hg', _⟩
    · rw [h'] at eg; simp [Value.ownBlock] at eg
    · rw [h'] at eg
      simp [Value.ownBlock] at eg
      subst eg
      rw [hw] at hg'
      simp at hg'
      rw [hg'.2] at hne
      simp at hne).trans hw
theorem ls_take {bs : List Bs} {k : Nat} {x : Bs} (h : bs[k]? = some x) : (bs.take (k + 1)).map Bs.l = (bs.take k).map Bs.l ++ [x.l] := by
  rw [List.take_add_one, h]; simp
/-- What the laying gives. -/
def GivesGl (w : World) (num first n : Nat) (ls : List (List UInt8)) (e : Ending) (w' : World) : Prop :=
  ∃ ab cb ae ce, e = .returned (.tuple #[.slice ab (segL num first ls).length cb, .slice ae n ce, .bool true]) ∧
    w'.ownsRow w.heap.size 5 1 (.slice ab (segL num first ls).length cb) (segL num first ls).length ((segL num first ls).map B) ∧
    w'.ownsRow w.heap.size 3 1 (.slice ae n ce) n ((endsS num first ls).map I) ∧ Below w.heap.size w w'
/-- Such numbers and bodies. -/
structure FewP (num first n : Nat) (bs : List Bs) : Prop where
  n1 : 1 ≤ num
  n2 : num ≤ 999999
  f1 : 1 ≤ first
  f2 : first ≤ 549755813888
  c1 : 1 ≤ n
  c2 : n ≤ 512
  bd : ∀ x ∈ bs, x.n ≤ 16384

set_option maxRecDepth 8000 in
set_option maxHeartbeats 3200000 in
theorem glaid_any (num first : Nat) (a : Option Addr) (n c : Nat) (bs : List Bs) (w : World) (hf : FewP num first n bs) (r : BssRd a n c bs w) (ht : Tab w) :
    Calls Tryd.prog 17 #[.int .i64 (num : Int), .int .i64 (first : Int), .slice a n c] w (GivesGl w num first n (bs.map Bs.l)) := by
  obtain ⟨n1, n2, f1, f2, hc1, hc2, hbd⟩ := hf
  have hl := r.len
  have m1 := r.1.2.1
  have m2 := r.1.2.2.1
  unfold maxLen at m2
  have HL := Lib.hid hl
  have hh := header_any (num : Int) (first : Int) w ht
  have hP : hdrP (num : Int) (first : Int) = ((hdrFr num first).bytes, 0) := by
    rw [hdrP_yes ((rightB_iff _ _).2 ⟨by omega, by omega, by omega, by omega⟩)]
    rfl
  have hbl := (hdrFr num first).bytes_len
  have htl := twoN_len num first (by omega) (by omega)
  have hseg0 : segL num first [] = (hdrFr num first).bytes := by unfold segL; simp [evsN, layN]
  obtain ⟨H, hH⟩ : ∃ H, (hdrFr num first).bytes = H := ⟨_, rfl⟩
  rw [hP, hH] at hh
  rw [hH] at hbl hseg0
  have hHl : H.length ≤ 40 := by rw [hbl]; show 20 + (twoN num first).length ≤ 40; omega
  unfold GivesE at hh
  simp only at hh
  have HH := Lib.hid hh
  have HS0 := Lib.hid hseg0
  clear hh hP hbl htl hH hl hseg0
  go_enter Tryd.func17, Tryd.ntmps17
  go_wp2_with fail
  (with_reducible refine (HH.out).mono ?_)
  rintro e w1 ⟨ah, ch, rfl, hoh, hb1⟩
  have hm2 := below_made w1 (.cells #[] 3)
  have ho1 := World.alloc_heap_new w1 (.cells #[] 3)
  have hoh2 := own_below hoh hm2
  have hc2' := below_next hb1 hm2
  have hs1 := hb1.size
  have e0 : (((0 : Nat) : Int) != 0) = false := rfl
  clear hoh hm2 HH
  have hI0 : ∃ (N : Nat) (L : List UInt8) (Es : List Nat) (av ae : Option Addr) (cap ce : Nat), Value.slice ah H.length ch = .slice av N cap ∧ Value.slice (some ⟨w1.heap.size, 0, none⟩) 0 0 = .slice ae 0 ce ∧ N ≤ 40 + 0 * 16404 ∧
      Hid (L.length = N ∧ segL num first ((bs.take 0).map Bs.l) = L ∧ endsS num first ((bs.take 0).map Bs.l) = Es) ∧
      (w1.alloc (.cells #[] 3)).ownsRow w.heap.size 5 1 (.slice av N cap) N (L.map B) ∧ (w1.alloc (.cells #[] 3)).ownsRow w.heap.size 3 1 (.slice ae 0 ce) 0 (Es.map I) ∧ Below w.heap.size w (w1.alloc (.cells #[] 3)) :=
    ⟨H.length, H, [], ah, some ⟨w1.heap.size, 0, none⟩, ch, 0, rfl, rfl, by omega, Lib.hid ⟨rfl, HS0.out, rfl⟩, hoh2, ⟨rfl, .inr ⟨w1.heap.size, 0, #[], rfl, hs1, ho1, Nat.le_refl _, by decide, rfl, rfl⟩⟩, hc2'⟩
  clear hoh2 ho1
  go_wp2_with fail
  go_loopw [9, 11, 26] (fun mv ev iv wr => ∃ (k N : Nat) (L : List UInt8) (Es : List Nat) (av ae : Option Addr) (cap ce : Nat), mv = .slice av N cap ∧ ev = .slice ae k ce ∧ iv = .int .i64 (k : Int) ∧ k ≤ n ∧ N ≤ 40 + k * 16404 ∧
    Hid (L.length = N ∧ segL num first ((bs.take k).map Bs.l) = L ∧ endsS num first ((bs.take k).map Bs.l) = Es) ∧
    wr.ownsRow w.heap.size 5 1 (.slice av N cap) N (L.map B) ∧ wr.ownsRow w.heap.size 3 1 (.slice ae k ce) k (Es.map I) ∧ Below w.heap.size w wr) (fun _ _ iv _ => n - (intOf iv).toNat)
  case atStart =>
    obtain ⟨N, L, Es, av, ae, cap, ce, q1, q2, q3, q4, q5, q6, q7⟩ := hI0
    exact ⟨0, N, L, Es, av, ae, cap, ce, q1, q2, rfl, Nat.zero_le _, q3, q4, q5, q6, q7⟩
  case round =>
    clear hI0 hc2' hb1
    obtain ⟨k, N, L, Es, av, ae, cap, ce, rfl, rfl, rfl, hk, hN, HK, hrow, hends, hb⟩ := hrel
    by_cases hlt : k < n
    · obtain ⟨b, off, x, rfl, hx, c0, rx⟩ := (r.below hb).at k hlt
      have HX := Lib.hid hx
      have hxb := hbd x (List.mem_of_getElem? hx)
      have hxl : x.l.length = x.n := by simpa using rx.len
      have hcp := copy_any x.a x.n x.c x.l wr (by omega) rx
      have htk := ls_take hx
      have hxr : encF 1 ((first : Int) + (k : Int)) x.l = (Fr.bytes ⟨1, first + k, x.l⟩, 0) := by
        unfold encF
        rw [if_neg (by omega), if_neg (by omega)]
        unfold Fr.bytes
        simp only
        rw [show ((1 : Int)).toNat = 1 from rfl, show ((first : Int) + (k : Int)).toNat = first + k by omega]
      have hkl : ((bs.take k).map Bs.l).length = k := by rw [List.length_map, List.length_take, HL.out]; omega
      have HN : Hid (segL num first ((bs.take (k + 1)).map Bs.l) = L ++ Fr.bytes ⟨1, first + k, x.l⟩ ∧ endsS num first ((bs.take (k + 1)).map Bs.l) = Es ++ [N + (Fr.bytes ⟨1, first + k, x.l⟩).length]) := Lib.hid (by
        obtain ⟨g1, g2, g3⟩ := HK.out
        rw [htk]
        refine ⟨by rw [segL_snoc, g2, hkl], by rw [endsS_snoc, g3, segL_snoc, g2, hkl, List.length_append, g1]⟩)
      have hmb := (Fr.mk 1 (first + k) x.l).bytes_len
      have hmb2 : (Fr.bytes ⟨1, first + k, x.l⟩).length ≤ 16404 := by rw [hmb]; show 20 + x.l.length ≤ 16404; omega
      have hen := fun (av : Option Addr) (cv : Nat) wx rx tx => fenc_any 1 ((first : Int) + (k : Int)) av x.l.length cv x.l wx rx tx
      rw [hxr] at hen
      obtain ⟨M, hM⟩ : ∃ M, Fr.bytes ⟨1, first + k, x.l⟩ = M := ⟨_, rfl⟩
      rw [hM] at hen HN hmb2
      obtain ⟨mm, hmm⟩ : ∃ mm, M.length = mm := ⟨_, rfl⟩
      unfold GivesE at hen
      simp only at hen
      rw [hmm] at hen HN hmb2
      have HCP := Lib.hid hcp
      have HEN := Lib.hid hen
      have HLN := HK.out.1
      have hby : (N + mm) * 1 ≤ 140737488355328 := by omega
      have hby2 : (k + 1) * 8 ≤ 140737488355328 := by omega
      have htb := ht.below hb
      clear hcp hen hx rx hxl htk hxr hkl hmb hM hxb hbd
      go_wp2_with fail
      (with_reducible refine (HCP.out).mono ?_)
      rintro e w5 ⟨a5, c5, rfl, ho5, hb5⟩
      have tb5 := htb.below hb5
      have hrow5 := own_below hrow hb5
      have hends5 := own_below hends hb5
      have hc5 := hb.trans (hb5.mono hb.size)
      clear hrow hends htb HCP c0
      go_wp2_with fail
      (with_reducible refine (HEN.out _ _ _ (own_rowAt ho5) tb5).mono ?_)
      rintro e w6 ⟨a6, c6, rfl, ho6, hb6⟩
      have hrow6 := own_below hrow5 hb6
      have hends6 := own_below hends5 hb6
      have hc6 := hc5.trans (hb6.mono hc5.size)
      have hsrc := own_rowAt ho6
      clear hrow5 hends5 ho5 tb5 HEN hb5 hb6 hb
      go_wp2_with (first
        | (at_builtin; refine wpList_app rfl _ _ 22 rfl slB rfl hrow6 rfl hsrc (B_one _) hby hc6.size fun a7 c7 w7 hown7 hg7 => ?_; have hends7 := own_else hends6 hrow6 rfl hg7; have hc7 := hc6.grown hg7 hc6.size (own_block hrow6))
        | (at_builtin; refine wpList_app1 rfl _ _ 40 rfl slI rfl hends7 rfl rfl (one1 _ _) hby2 hc7.size fun a8 c8 w8 hown8 hg8 => ?_))
      go_roundw
      case rel => exact ⟨k + 1, N + mm, L ++ M, Es ++ [N + mm], a7, a8, c7, c8, rfl, rfl, by go_num, by omega, by omega, Lib.hid ⟨by rw [List.length_append, HLN, hmm], HN.out⟩, by rw [List.map_append]; exact own_else hown7 hends7 rfl hg8, by rw [List.map_append]; exact hown8, hc7.grown hg8 hc7.size (own_block hends7)⟩
      case measure => simp [intOf]; omega
    · obtain rfl : k = n := by omega
      have h := HK.out
      rw [List.take_of_length_le (by rw [HL.out]; exact Nat.le_refl _)] at h
      obtain ⟨h1, h2, h3⟩ := h
      go_wp2_with fail
      refine bodyPost_ret (results_tmp3 rfl _ _ _) rfl ?_
      refine ⟨av, cap, ae, ce, ?_, ?_, ?_, hb⟩
      · rw [h2, h1]; rfl
      · rw [h2, h1]; exact hrow
      · rw [h3]; exact hends
end Go.Proofs.YtffhejaeliphcaaDoor
