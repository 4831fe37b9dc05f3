/-
  What is read of a footer's body, as data. No condition.
  A segment as data: what is read of its bytes by either side, and that both read alike. No condition.
-/
import Derived.Test.YtffhejaeliphcaaDoorMHnums
import Derived.Test.YtffhejaeliphcaaDoorMId
import Derived.Test.YtffhejaeliphcaaDoorMHplain
import Derived.Test.YtffhejaeliphcaaDoorMPp
import Derived.Test.YtffhejaeliphcaaDoorMIb
namespace Go.Proofs.YtffhejaeliphcaaDoor
open Go.RowKit
set_option linter.unusedVariables false

/-- What stands in a footer. -/
structure Cl where
  first : Nat
  count : Nat
  stride : Nat
  marks : List Mk
def unclF (l : List UInt8) : Option Cl :=
  match unN l 3 with
  | some ([f, c, s], r) => if s < 1 ∨ 64 < s ∨ c < 1 then none else if (decIx r).2 = 0 then some ⟨f, c, s, (decIx r).1⟩ else none
  | _ => none
theorem unN_len {l : List UInt8} : ∀ (k : Nat) {vs : List Nat} {r : List UInt8}, unN l k = some (vs, r) → vs.length = k ∧ ∀ v ∈ vs, v ≤ 2199023255552
  | 0, vs, r, h => by
    injection h with h
    injection h with h1 h2
    subst h1
    exact ⟨rfl, fun v hv => by cases hv⟩
  | k + 1, vs, r, h => by
    cases hu : unN l k with
    | none => rw [unN, hu] at h; cases h
    | some y =>
      obtain ⟨us, q⟩ := y
      obtain ⟨ih1, ih2⟩ := unN_len k hu
      rw [unN_step hu] at h
      by_cases hc : (dec q).2.2 ≠ 0 ∨ 2199023255552 < (dec q).1
      · rw [if_pos hc] at h; cases h
      · rw [if_neg hc] at h
        injection h with h
        injection h with h1 h2
        subst h1
        refine ⟨by rw [List.length_append, ih1]; rfl, fun v hv => ?_⟩
        rcases List.mem_append.1 hv with hv | hv
        · exact ih2 v hv
        · obtain rfl := List.mem_singleton.1 hv
          omega
theorem unN3_some {l : List UInt8} {vs : List Nat} {r : List UInt8} (h : unN l 3 = some (vs, r)) : ∃ f c s, vs = [f, c, s] ∧ f ≤ 2199023255552 ∧ c ≤ 2199023255552 ∧ s ≤ 2199023255552 := by
  obtain ⟨h1, h2⟩ := unN_len 3 h
  match vs, h1 with
  | [f, c, s], _ => exact ⟨f, c, s, rfl, h2 f (by simp), h2 c (by simp), h2 s (by simp)⟩
theorem unclF_none {l : List UInt8} (h : unN l 3 = none) : unclF l = none := by unfold unclF; rw [h]
theorem unclF_bad {l r : List UInt8} {f c s : Nat} (h : unN l 3 = some ([f, c, s], r)) (hb : s < 1 ∨ 64 < s ∨ c < 1) : unclF l = none := by unfold unclF; rw [h]; simp only; rw [if_pos hb]
theorem unclF_err {l r : List UInt8} {f c s : Nat} (h : unN l 3 = some ([f, c, s], r)) (hb : ¬ (s < 1 ∨ 64 < s ∨ c < 1)) (he : (decIx r).2 ≠ 0) : unclF l = none := by unfold unclF; rw [h]; simp only; rw [if_neg hb, if_neg he]
theorem unclF_ok {l r : List UInt8} {f c s : Nat} (h : unN l 3 = some ([f, c, s], r)) (hb : ¬ (s < 1 ∨ 64 < s ∨ c < 1)) (he : (decIx r).2 = 0) : unclF l = some ⟨f, c, s, (decIx r).1⟩ := by unfold unclF; rw [h]; simp only; rw [if_neg hb, if_pos he]
theorem unclF_bd {l : List UInt8} {c : Cl} (h : unclF l = some c) : 1 ≤ c.stride ∧ c.stride ≤ 64 ∧ 1 ≤ c.count ∧ c.first ≤ 2199023255552 ∧ c.count ≤ 2199023255552 ∧ okN c.marks = true := by
  cases hu : unN l 3 with
  | none => rw [unclF_none hu] at h; cases h
  | some y =>
    obtain ⟨vs, r⟩ := y
    obtain ⟨f, ct, st, rfl, g1, g2, g3⟩ := unN3_some hu
    by_cases hb : st < 1 ∨ 64 < st ∨ ct < 1
    · rw [unclF_bad hu hb] at h; cases h
    by_cases he : (decIx r).2 = 0
    · rw [unclF_ok hu hb he] at h
      injection h with h
      subst h
      exact ⟨by show 1 ≤ st; omega, by show st ≤ 64; omega, by show 1 ≤ ct; omega, g1, g2, (ix_one he).1⟩
    · rw [unclF_err hu hb he] at h; cases h
end Go.Proofs.YtffhejaeliphcaaDoor

namespace Go.Proofs.YtffhejaeliphcaaDoor
open Go.RowKit
set_option linter.unusedVariables false

/-! ### A run of frames, in its chain -/
theorem Chain.take {l : List UInt8} {ps : List Pc} {p : Nat} (h : Chain l ps p) : ∀ k, ∃ q, Chain l (ps.take k) q := by
  induction h with
  | nil => intro k; exact ⟨0, by rw [List.take_nil]; exact .nil⟩
  | snoc hc hp hd ih =>
    rename_i ps p f n
    intro k
    by_cases hk : k ≤ ps.length
    · obtain ⟨q, hq⟩ := ih k
      exact ⟨q, by rw [List.take_append_of_le_length hk]; exact hq⟩
    · exact ⟨p + n, by rw [List.take_of_length_le (by rw [List.length_append, List.length_singleton]; omega)]; exact hc.snoc hp hd⟩
theorem runG_take (first most : Int) (d : Nat) : ∀ (ps : List Pc) (i : Nat), ∃ k, runG first most d i ps = (ps.take k).map (Pc.move d) ∧ ∀ j q, (ps.take k)[j]? = some q → fits first most (i + j) q
  | [], i => ⟨0, rfl, fun j q h => by simp at h⟩
  | q :: r, i => by
    by_cases hc : most ≤ (i : Int) ∨ q.f.kind ≠ 1 ∨ (q.f.seq : Int) ≠ first + (i : Int)
    · exact ⟨0, by rw [runG, if_pos hc]; rfl, fun j x h => by simp at h⟩
    · obtain ⟨k, h1, h2⟩ := runG_take first most d r (i + 1)
      refine ⟨k + 1, by rw [runG, if_neg hc, h1]; rfl, fun j x h => ?_⟩
      rw [List.take_succ_cons] at h
      cases j with
      | zero =>
        simp at h
        subst h
        exact ⟨by omega, by omega, by omega⟩
      | succ j =>
        have := h2 j x (by simpa using h)
        rwa [show i + (j + 1) = i + 1 + j by omega]
/-- What a run is. -/
structure RunIs (l : List UInt8) (d : Nat) (first : Int) (qs : List Pc) (e : Nat) : Prop where
  ex : ∃ pre p, qs = pre.map (Pc.move d) ∧ Chain (l.drop d) pre p ∧ e = d + p ∧ ∀ j q, pre[j]? = some q → fits first 512 (0 + j) q
  le : d ≤ l.length
theorem endG_chain {l : List UInt8} {d p : Nat} {pre : List Pc} (h : Chain l pre p) : endG d (pre.map (Pc.move d)) = d + p := by
  cases h with
  | nil => rfl
  | snoc hc hp hd =>
    rw [List.map_append, List.map_singleton, endG_snoc]
    simp [Pc.move]
    omega
theorem runF_is {l : List UInt8} {d : Nat} {first : Int} (hd : d ≤ l.length) : RunIs l d first (runF l d first 512).1 (runF l d first 512).2 := by
  obtain ⟨k, h1, h2⟩ := runG_take first 512 d (scanF (l.drop d)).1 0
  obtain ⟨p, hp⟩ := (scan_chain (l.drop d)).1.take k
  have e : runF l d first 512 = (((scanF (l.drop d)).1.take k).map (Pc.move d), d + p) := by
    unfold runF
    rw [if_neg (by omega), Int.toNat_natCast, h1, endG_chain hp]
  rw [e]
  exact ⟨⟨_, p, rfl, hp, rfl, h2⟩, hd⟩
theorem RunIs.facts {l : List UInt8} {d e : Nat} {first : Int} {qs : List Pc} (h : RunIs l d first qs e) : qs.length ≤ 512 ∧ d ≤ e ∧ e ≤ l.length ∧ e ≤ d + 16404 * qs.length ∧ (∀ (j : Nat) q, qs[j]? = some q → q.f.kind = 1 ∧ (q.f.seq : Int) = first + (j : Int) ∧ Pc.ok l q) := by
  obtain ⟨⟨pre, p, rfl, hc, rfl, hf⟩, hd⟩ := h
  have hle := hc.le
  rw [List.length_drop] at hle
  have hsz : p ≤ 16404 * pre.length := by
    clear hf hle
    induction hc with
    | nil => simp
    | snoc hc hp hd' ih =>
      have ho := pc_ok (Nat.le_of_lt hp) hd'
      have h1 := ho.size
      have h2 := ho.body
      simp only at h1 h2
      rw [List.length_append, List.length_singleton]
      omega
  rw [List.length_map]
  refine ⟨?_, by omega, by omega, by omega, fun j q hq => ?_⟩
  · cases hl : pre.length with
    | zero => omega
    | succ n =>
      obtain ⟨q, hq⟩ : ∃ q, pre[n]? = some q := ⟨_, List.getElem?_eq_getElem (by omega)⟩
      have := (hf n q hq).1
      omega
  · rw [List.getElem?_map, Option.map_eq_some_iff] at hq
    obtain ⟨x, hx, rfl⟩ := hq
    obtain ⟨g1, g2, g3⟩ := hf j x hx
    have ho := hc.oks x (List.mem_of_getElem? hx)
    refine ⟨g2, by rw [show (x.move d).f = x.f from rfl, g3]; omega, ⟨ho.k1, ho.k7, ho.seq, ho.body, ho.size, ?_⟩⟩
    have := ho.fits
    rw [List.length_drop] at this
    show x.at' + d + x.size ≤ l.length
    omega

/-! ### Its marks -/
def Pc.pl (q : Pc) : Pl := ⟨q.at', q.size, q.f.kind, q.f.seq, none, 0, 0⟩
def marksQ (qs : List Pc) (s : Nat) : List Mk := every s 0 (qs.map Pc.pl)
theorem every_congr {s : Nat} : ∀ (ps qs : List Pl) (i : Nat), ps.map (fun p => (p.seq, p.at')) = qs.map (fun p => (p.seq, p.at')) → every s i ps = every s i qs
  | [], [], i, _ => rfl
  | [], q :: qs, i, h => by simp at h
  | p :: ps, [], i, h => by simp at h
  | p :: ps, q :: qs, i, h => by
    rw [List.map_cons, List.map_cons, List.cons.injEq, Prod.mk.injEq] at h
    rw [every, every, every_congr ps qs (i + 1) h.2, h.1.1, h.1.2]
theorem run_pls {l : List UInt8} {d e : Nat} {first : Int} {qs : List Pc} (h : RunIs l d first qs e) : Run (qs.map Pc.pl) first e := by
  obtain ⟨⟨pre, p, rfl, hc, rfl, hf⟩, hd⟩ := h
  have key : ∀ {pre : List Pc} {p : Nat}, Chain (l.drop d) pre p → (∀ (j : Nat) q, pre[j]? = some q → (q.f.seq : Int) = first + (j : Int)) → Run ((pre.map (Pc.move d)).map Pc.pl) first ((d + p : Nat) : Int) := by
    intro pre p hc
    induction hc with
    | nil => intro _; exact ⟨fun i q h => by simp at h, by simp⟩
    | snoc hc hp hd' ih =>
      rename_i ps p f n
      intro hs
      have ho := pc_ok (Nat.le_of_lt hp) hd'
      have h1 := ho.size
      simp only at h1
      have ih' := ih (fun j q hq => hs j q (by rw [List.getElem?_append_left (List.getElem?_eq_some_iff.1 hq).1]; exact hq))
      rw [List.map_append, List.map_append, List.map_singleton, List.map_singleton]
      refine ih'.snoc _ ?_ ?_ (by omega) (by push_cast; omega)
      · have := hs ps.length ⟨p, n, f⟩ (by simp)
        rw [List.length_map, List.length_map]
        exact this
      · show ((p + d : Nat) : Int) = ((d + p : Nat) : Int)
        omega
  exact key hc (fun j q hq => by have := (hf j q hq).2.2; rwa [Nat.zero_add] at this)
theorem marks_ok {l : List UInt8} {d e : Nat} {first : Int} {qs : List Pc} (h : RunIs l d first qs e) (hf : 1 ≤ first) (hd : d ≤ 16404) (s : Nat) : okN (marksQ qs s) = true := by
  have R := run_pls h
  obtain ⟨h1, h2, h3, h4, h5⟩ := h.facts
  unfold marksQ
  rw [okN_iff]
  have hl := every_len s (qs.map Pc.pl) 0
  rw [List.length_map] at hl
  refine ⟨by omega, fun m hm => ?_, every_up _ 0 R.up⟩
  obtain ⟨j, p, g1, _, rfl⟩ := every_mem _ 0 m hm
  have g2 := R.num j p g1
  rw [List.getElem?_map, Option.map_eq_some_iff] at g1
  obtain ⟨q, hq, rfl⟩ := g1
  have g3 := (h5 j q hq).2.2.seq
  show 0 < (Pc.pl q).seq ∧ -1 < (Pc.pl q).at' ∧ (Pc.pl q).seq ≤ 1099511627776 ∧ (Pc.pl q).at' ≤ 1099511627776
  have g4 : (Pc.pl q).seq = (q.f.seq : Int) := rfl
  omega

/-! ### The footer -/
def footB (first count s : Nat) (ms : List Mk) : List UInt8 := twoN first count ++ enc s ++ (encIx ms).1
theorem unN_foot {first count s : Nat} {r : List UInt8} (hf : first ≤ 2199023255552) (hc : count ≤ 2199023255552) (hs : s ≤ 2199023255552) : unN (twoN first count ++ enc s ++ r) 3 = some ([first, count, s], r) := by
  have e : twoN first count ++ enc s ++ r = enc first ++ (enc count ++ (enc s ++ r)) := by unfold twoN; simp
  have d1 := dec_of_enc first (enc count ++ (enc s ++ r)) (by omega)
  have d2 := dec_of_enc count (enc s ++ r) (by omega)
  have d3 := dec_of_enc s r (by omega)
  rw [e]
  have h0 : unN (enc first ++ (enc count ++ (enc s ++ r))) 0 = some ([], enc first ++ (enc count ++ (enc s ++ r))) := rfl
  have h1 := unN_step h0
  rw [d1] at h1
  simp only at h1
  rw [if_neg (by omega), List.drop_left] at h1
  have h2 := unN_step h1
  rw [d2] at h2
  simp only at h2
  rw [if_neg (by omega), List.drop_left] at h2
  have h3 := unN_step h2
  rw [d3] at h3
  simp only at h3
  rw [if_neg (by omega), List.drop_left] at h3
  exact h3
theorem unN_is {l : List UInt8} : ∀ (k : Nat) {vs : List Nat} {r : List UInt8}, unN l k = some (vs, r) → l = numsN vs ++ r
  | 0, vs, r, h => by
    injection h with h
    injection h with h1 h2
    subst h1 h2
    rfl
  | k + 1, vs, r, h => by
    cases hu : unN l k with
    | none => rw [unN, hu] at h; cases h
    | some y =>
      obtain ⟨us, q⟩ := y
      have ih := unN_is k hu
      rw [unN_step hu] at h
      by_cases hc : (dec q).2.2 ≠ 0 ∨ 2199023255552 < (dec q).1
      · rw [if_pos hc] at h; cases h
      · rw [if_neg hc] at h
        injection h with h
        injection h with h1 h2
        subst h1 h2
        obtain ⟨z, hz⟩ : ∃ z, dec q = z := ⟨_, rfl⟩
        obtain ⟨u, n, e⟩ := z
        rw [hz] at hc ⊢
        simp only at hc ⊢
        have he : e = 0 := by omega
        subst he
        obtain ⟨g1, g2, g3⟩ := dec_enc hz
        rw [ih]
        unfold numsN
        rw [List.flatMap_append, List.append_assoc]
        congr 1
        rw [List.flatMap_singleton, g1, List.take_append_drop]

theorem encIx_bd (ms : List Mk) : (encIx ms).1.length ≤ 10250 := by
  unfold encIx
  split
  · rename_i h
    have h1 := ((okN_iff ms).1 h).1
    have h2 := diffs_len ms ⟨0, 0⟩
    have h3 := encAll_len (diffs ⟨0, 0⟩ ms) (by omega)
    show (encAll (diffs ⟨0, 0⟩ ms)).length ≤ 10250
    omega
  · simp
/-- The stride by which the program finds a segment sealed. -/
def sealG (body : List UInt8) (first : Nat) (qs : List Pc) : Option Nat :=
  match unclF body with
  | some c => if c.first = first ∧ c.count = qs.length ∧ c.marks = marksQ qs c.stride then some c.stride else none
  | none => none
/-- The stride by which the reference does. -/
def sealR (body : List UInt8) (first : Nat) (qs : List Pc) : Option Nat :=
  if qs = [] then none else (List.range' 1 64).find? fun s => body == footB first qs.length s (marksQ qs s)
theorem sealG_of_foot {l : List UInt8} {d e first t : Nat} {qs : List Pc} (h : RunIs l d first qs e) (hf : 1 ≤ first) (hf2 : first ≤ 1099511627777) (hd : d ≤ 16404) (ht1 : 1 ≤ t) (ht2 : t ≤ 64) (hq : qs ≠ []) :
    sealG (footB first qs.length t (marksQ qs t)) first qs = some t := by
  have hn := h.facts.1
  have hk := marks_ok h (by omega) hd t
  have hql : 0 < qs.length := List.length_pos_iff.2 hq
  have he : encIx (marksQ qs t) = (encAll (diffs ⟨0, 0⟩ (marksQ qs t)), 0) := by unfold encIx; rw [if_pos hk]
  have hu := unN_foot (first := first) (count := qs.length) (s := t) (r := (encIx (marksQ qs t)).1) (by omega) (by omega) (by omega)
  have hb := ix_back hk
  have hu' : unN (footB first qs.length t (marksQ qs t)) 3 = some ([first, qs.length, t], (encIx (marksQ qs t)).1) := hu
  unfold sealG
  rw [unclF_ok hu' (by omega) (by rw [he]; simp only; rw [hb])]
  rw [he]
  simp only
  rw [hb]
  simp
theorem foot_of_sealG {body : List UInt8} {first s : Nat} {qs : List Pc} (h : sealG body first qs = some s) : 1 ≤ s ∧ s ≤ 64 ∧ qs ≠ [] ∧ body = footB first qs.length s (marksQ qs s) := by
  unfold sealG at h
  cases hc : unclF body with
  | none => rw [hc] at h; cases h
  | some c =>
    rw [hc] at h
    simp only at h
    by_cases hh : c.first = first ∧ c.count = qs.length ∧ c.marks = marksQ qs c.stride
    · rw [if_pos hh] at h
      injection h with h
      subst h
      obtain ⟨h1, h2, h3⟩ := hh
      cases hu : unN body 3 with
      | none => rw [unclF_none hu] at hc; cases hc
      | some y =>
        obtain ⟨vs, r⟩ := y
        obtain ⟨f, ct, st, rfl, g1, g2, g3⟩ := unN3_some hu
        by_cases hb : st < 1 ∨ 64 < st ∨ ct < 1
        · rw [unclF_bad hu hb] at hc; cases hc
        by_cases he : (decIx r).2 = 0
        · rw [unclF_ok hu hb he] at hc
          injection hc with hc
          subst hc
          simp only at h1 h2 h3
          obtain ⟨k1, k2⟩ := ix_one he
          have hbody := unN_is 3 hu
          refine ⟨by show 1 ≤ st; omega, by show st ≤ 64; omega, by rintro rfl; simp at h2; omega, ?_⟩
          rw [← h3, ← h1, ← h2, hbody]
          unfold footB
          rw [k2]
          simp [numsN, twoN]
        · rw [unclF_err hu hb he] at hc; cases hc
    · rw [if_neg hh] at h; cases h
/-- Both find the same. -/
theorem seal_same {l : List UInt8} {d e first : Nat} {qs : List Pc} (body : List UInt8) (h : RunIs l d first qs e) (hf : 1 ≤ first) (hf2 : first ≤ 1099511627777) (hd : d ≤ 16404) : sealG body first qs = sealR body first qs := by
  cases hr : sealR body first qs with
  | some t =>
    unfold sealR at hr
    by_cases hq : qs = []
    · rw [if_pos hq] at hr; cases hr
    · rw [if_neg hq] at hr
      have h1 := List.find?_some hr
      have h2 := List.mem_of_find?_eq_some hr
      rw [List.mem_range'_1] at h2
      have h3 : body = footB first qs.length t (marksQ qs t) := by simpa using h1
      rw [h3]
      exact sealG_of_foot h hf hf2 hd (by omega) (by omega) hq
  | none =>
    cases hg : sealG body first qs with
    | none => rfl
    | some s =>
      obtain ⟨h1, h2, h3, h4⟩ := foot_of_sealG hg
      unfold sealR at hr
      rw [if_neg h3, List.find?_eq_none] at hr
      have := hr s (by rw [List.mem_range'_1]; omega)
      exact absurd (by simpa using h4) this

/-! ### A segment -/
structure Sg where
  num : Nat
  first : Nat
  count : Nat
  sealed : Bool
  stride : Nat
  marks : List Mk
  good : Nat
def Sg.zero : Sg := ⟨0, 0, 0, false, 0, [], 0⟩
/-- Behind its run. -/
def segOf (l : List UInt8) (num first : Nat) (R : List Pc × Nat) (sl : List UInt8 → Nat → List Pc → Option Nat) : Sg :=
  if (decF (l.drop R.2)).2.2 ≠ 0 ∨ (decF (l.drop R.2)).1.kind ≠ 3 ∨ (decF (l.drop R.2)).1.seq ≠ num then ⟨num, first, R.1.length, false, 0, [], R.2⟩
  else match sl (decF (l.drop R.2)).1.body first R.1 with
    | some s => ⟨num, first, R.1.length, true, s, marksQ R.1 s, R.2 + (decF (l.drop R.2)).2.1⟩
    | none => ⟨num, first, R.1.length, false, 0, [], R.2⟩
def scanWith (l : List UInt8) (h : Hd) (sl : List UInt8 → Nat → List Pc → Option Nat) : Sg × List Pc × Nat :=
  if h.2.2.2 ≠ 0 then (Sg.zero, [], h.2.2.2) else (segOf l h.1 h.2.1 (runF l h.2.2.1 h.2.1 512) sl, (runF l h.2.2.1 h.2.1 512).1, 0)
def scanS (l : List UInt8) : Sg × List Pc × Nat := scanWith l (hofG l) sealG
theorem hofG_ok {l : List UInt8} (h : (hofG l).2.2.2 = 0) : 1 ≤ (hofG l).1 ∧ 1 ≤ (hofG l).2.1 ∧ (hofG l).2.2.1 ≤ 16404 := by
  unfold hofG at h ⊢
  by_cases h1 : (decF l).2.2 ≠ 0 ∨ (decF l).1.kind ≠ 2
  · rw [if_pos h1] at h; simp [hdBad] at h
  · rw [if_neg h1] at h ⊢
    split
    · rename_i x y r hu
      rw [hu] at h
      simp only at h
      by_cases h2 : r ≠ [] ∨ x ≠ (decF l).1.seq ∨ rightB x y = false
      · rw [if_pos h2] at h; simp [hdBad] at h
      · rw [if_neg h2]
        have h4 : rightB x y = true := by
          cases h5 : rightB (x : Int) (y : Int) with
          | true => rfl
          | false => exact absurd (.inr (.inr h5)) h2
        have h6 := (rightB_iff _ _).1 h4
        obtain ⟨z, hz⟩ : ∃ z, decF l = z := ⟨_, rfl⟩
        obtain ⟨f, n, e⟩ := z
        rw [hz] at h1 ⊢
        have he : e = 0 := by simp only at h1; omega
        subst he
        have h7 := decF_one hz
        exact ⟨by show 1 ≤ x; omega, by show 1 ≤ y; omega, by show n ≤ 16404; omega⟩
    · rename_i h2
      exfalso
      revert h
      split
      · rename_i x y r hu
        exact absurd hu (h2 x y r)
      · simp [hdBad]
theorem scan_same (l : List UInt8) : scanWith l (hofR l) sealR = scanS l := by
  unfold scanS scanWith
  rw [← hof_same]
  by_cases h : (hofG l).2.2.2 ≠ 0
  · rw [if_pos h, if_pos h]
  · rw [if_neg h, if_neg h]
    have h0 : (hofG l).2.2.2 = 0 := by omega
    obtain ⟨g1, g2, g3⟩ := hofG_ok h0
    have g4 := hofG_bd l
    have hr := runF_is (first := ((hofG l).2.1 : Int)) g4.2.2.1
    have hs : ∀ body, sealR body (hofG l).2.1 (runF l (hofG l).2.2.1 (hofG l).2.1 512).1 = sealG body (hofG l).2.1 (runF l (hofG l).2.2.1 (hofG l).2.1 512).1 := fun body => (seal_same body hr g2 g4.2.1 g3).symm
    unfold segOf
    rw [hs]
end Go.Proofs.YtffhejaeliphcaaDoor
