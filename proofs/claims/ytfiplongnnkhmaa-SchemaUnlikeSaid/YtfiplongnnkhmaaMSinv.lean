/-
  Writing and reading are inverse, as data: fields and records. No condition.
-/
import Derived.Test.YtfiplongnnkhmaaMSref
import Derived.Test.YtfiplongnnkhmaaMEa
namespace Go.Proofs.Ytfiplongnnkhmaa
open Go.RowKit
set_option linter.unusedVariables false

theorem oneF_pos (d : FD) : 1 ≤ (oneF d).length := by
  unfold oneF
  split
  · have := enc_len_pos (2 * d.tag + 1); simp only [List.length_append]; omega
  · have := enc_len_pos (2 * d.tag); simp only [List.length_append]; omega
/-- A field that was written is read. -/
theorem nextF_one {d : FD} (h : RightF d) (last : Nat) (hl : last < d.tag) (r : List UInt8) : nextF (oneF d ++ r) last = (d, (oneF d).length, 0) := by
  obtain ⟨t, x, u, D⟩ := d
  obtain ⟨h1, h2, h3, h4, h5, h6⟩ := h
  dsimp only at h1 h2 h3 h4 h5 h6 hl
  cases x with
  | false =>
    obtain ⟨h7, h8⟩ := h6 rfl
    subst h7
    rw [oneF_num rfl]
    dsimp only
    have e1 := dec_of_enc (2 * t) (enc u ++ r) (by omega)
    have e2 := dec_of_enc u r h3
    have e3 : dec ((enc (2 * t) ++ (enc u ++ r)).drop (enc (2 * t)).length) = (u, (enc u).length, 0) := by rw [List.drop_left]; exact e2
    rw [List.append_assoc, nextF_of e1 e3, if_neg (by simp), if_neg (by omega), if_neg (by omega), if_neg (by simp), if_neg (by omega), if_pos (by omega), List.length_append, show 2 * t / 2 = t by omega]
  | true =>
    obtain ⟨h7, h8⟩ := h5 rfl
    subst h8
    rw [oneF_text rfl]
    dsimp only
    have e1 := dec_of_enc (2 * t + 1) (enc D.length ++ (D ++ r)) (by omega)
    have e2 := dec_of_enc D.length (D ++ r) (by omega)
    have hd : ((enc (2 * t + 1) ++ (enc D.length ++ (D ++ r))).drop ((enc (2 * t + 1)).length + (enc D.length).length)).take D.length = D := by
      rw [← List.drop_drop, List.drop_left, List.drop_left, List.take_left]
    have e3 : dec ((enc (2 * t + 1) ++ (enc D.length ++ (D ++ r))).drop (enc (2 * t + 1)).length) = (D.length, (enc D.length).length, 0) := by rw [List.drop_left]; exact e2
    rw [List.append_assoc, List.append_assoc, nextF_of e1 e3, if_neg (by simp), if_neg (by omega), if_neg (by omega), if_neg (by simp), if_neg (by omega), if_neg (by omega), if_neg (by omega),
      if_neg (by simp only [List.length_append]; omega), hd, show (2 * t + 1) / 2 = t by omega]
    simp only [List.length_append, Nat.add_assoc]
theorem readF_rec : ∀ (ds : List FD) (l : List UInt8) (k p last : Nat) (acc : List FD), l.drop p = recF ds → p ≤ l.length → Rise ds → (∀ d ∈ ds, RightF d ∧ last < d.tag) → ds.length < k → readF l k p last acc = (acc ++ ds, 0, 0)
  | [], l, k, p, last, acc, h, hp, _, _, _ => by
    have hlen : l.length ≤ p := by
      have := congrArg List.length h
      simp [recF] at this; omega
    rw [readF_end hlen]; simp
  | d :: ds, l, k, p, last, acc, h, hp, hr, hg, hk => by
    obtain ⟨j, rfl⟩ : ∃ j, k = j + 1 := ⟨k - 1, by omega⟩
    have h1 := List.pairwise_cons.1 hr
    have hd := hg d (by simp)
    have e1 : l.drop p = oneF d ++ recF ds := by rw [h]; rfl
    have hn := nextF_one hd.1 last hd.2 (recF ds)
    rw [← e1] at hn
    have hlen := congrArg List.length e1
    rw [List.length_drop, List.length_append] at hlen
    have hpos := oneF_pos d
    rw [readF_on (by omega) hn, readF_rec ds l j (p + (oneF d).length) d.tag (acc ++ [d]) (by rw [← List.drop_drop, e1, List.drop_left]) (by omega) h1.2 (fun x hx => ⟨(hg x (by simp [hx])).1, h1.1 x hx⟩) (by simp at hk; omega)]
    simp
theorem recF_len : ∀ (ds : List FD), ds.length ≤ (recF ds).length
  | [] => Nat.zero_le _
  | d :: ds => by
    have h1 := recF_len ds
    have h2 := oneF_pos d
    show (d :: ds).length ≤ (oneF d ++ recF ds).length
    rw [List.length_append]; simp; omega
theorem decode_rec {ds : List FD} (h : GoodF ds) (hl : (recF ds).length ≤ 1024) : decodeF (recF ds) = (ds, 0, 0) := by
  unfold decodeF
  rw [if_neg (by omega), readF_rec ds (recF ds) _ 0 0 [] rfl (Nat.zero_le _) h.rise (fun d hd => ⟨h.right d hd, (h.right d hd).1⟩) (by have := recF_len ds; omega)]
  rfl
/-- What was read is what would be written. -/
theorem nextF_sound {l : List UInt8} {last n : Nat} {d : FD} (h : nextF l last = (d, n, 0)) : l.take n = oneF d := by
  obtain ⟨x1, hx1⟩ : ∃ x, dec l = x := ⟨_, rfl⟩
  obtain ⟨k, p, er⟩ := x1
  obtain ⟨x2, hx2⟩ : ∃ x, dec (l.drop p) = x := ⟨_, rfl⟩
  obtain ⟨u, m, er2⟩ := x2
  rw [nextF_of hx1 hx2] at h
  split at h
  · simp only [Prod.mk.injEq] at h; omega
  rename_i g1
  split at h
  · simp only [Prod.mk.injEq] at h; omega
  rename_i g2
  split at h
  · simp only [Prod.mk.injEq] at h; omega
  split at h
  · simp only [Prod.mk.injEq] at h; omega
  rename_i g3
  split at h
  · simp only [Prod.mk.injEq] at h; omega
  obtain rfl : er = 0 := by omega
  obtain rfl : er2 = 0 := by omega
  obtain ⟨e1, p1, p2⟩ := dec_enc hx1
  obtain ⟨e2, m1, m2⟩ := dec_enc hx2
  rw [List.length_drop] at m2
  have hpm : l.take (p + m) = enc k ++ enc u := by rw [List.take_add, e1, e2]
  split at h
  · rename_i g4
    simp only [Prod.mk.injEq] at h
    obtain ⟨rfl, rfl, _⟩ := h
    rw [oneF_num rfl, hpm]
    dsimp only
    rw [show 2 * (k / 2) = k by omega]
  split at h
  · simp only [Prod.mk.injEq] at h; omega
  split at h
  · simp only [Prod.mk.injEq] at h; omega
  · rename_i g4 g5 g6
    simp only [Prod.mk.injEq] at h
    obtain ⟨rfl, rfl, _⟩ := h
    have hl : ((l.drop (p + m)).take u).length = u := by rw [List.length_take, List.length_drop]; omega
    rw [oneF_text rfl, List.take_add, hpm]
    dsimp only
    rw [hl, show 2 * (k / 2) + 1 = k by omega]
theorem readF_sound (l : List UInt8) : ∀ (k p last : Nat) (acc ds : List FD) (q : Nat), readF l k p last acc = (ds, q, 0) → l.length < p + k → ∃ tl, ds = acc ++ tl ∧ l.drop p = recF tl
  | 0, p, last, acc, ds, q, h, hk => by
    rw [readF] at h
    simp only [Prod.mk.injEq] at h
    exact ⟨[], by simp [h.1], by rw [List.drop_eq_nil_of_le (by omega)]; rfl⟩
  | k + 1, p, last, acc, ds, q, h, hk => by
    by_cases hp : l.length ≤ p
    · rw [readF_end hp] at h
      simp only [Prod.mk.injEq] at h
      exact ⟨[], by simp [h.1], by rw [List.drop_eq_nil_of_le hp]; rfl⟩
    · obtain ⟨y, hy⟩ : ∃ y, nextF (l.drop p) last = y := ⟨_, rfl⟩
      obtain ⟨d, n, e⟩ := y
      by_cases he : e = 0
      · subst he
        have hg := (nextF_good hy).2 rfl
        rw [readF_on (by omega) hy] at h
        obtain ⟨tl, h1, h2⟩ := readF_sound l k (p + n) d.tag (acc ++ [d]) ds q h (by omega)
        refine ⟨d :: tl, by rw [h1]; simp, ?_⟩
        have h3 := nextF_sound hy
        have h4 := List.take_append_drop n (l.drop p)
        rw [h3, List.drop_drop, h2] at h4
        exact h4.symm
      · rw [readF_bad (by omega) hy he] at h
        simp only [Prod.mk.injEq] at h
        exact absurd h.2.2 he
theorem decode_sound {l : List UInt8} {ds : List FD} {q : Nat} (h : decodeF l = (ds, q, 0)) : l = recF ds := by
  unfold decodeF at h
  split at h
  · simp only [Prod.mk.injEq] at h; omega
  · obtain ⟨tl, h1, h2⟩ := readF_sound l _ 0 0 [] ds q h (by omega)
    rw [List.drop_zero] at h2
    rw [h2, h1]; rfl

/-- Rising lists that hold the same at each tag are one. -/
theorem rise_ext : ∀ (a b : List FD), Rise a → Rise b → (∀ t, a.find? (fun d => d.tag == t) = b.find? (fun d => d.tag == t)) → a = b
  | [], [], _, _, _ => rfl
  | [], y :: b, _, _, h => by have := h y.tag; simp at this
  | x :: a, [], _, _, h => by have := h x.tag; simp at this
  | x :: a, y :: b, ha, hb, h => by
    have h1 := List.pairwise_cons.1 ha
    have h2 := List.pairwise_cons.1 hb
    have hx := h x.tag
    have hy := h y.tag
    rw [List.find?_cons] at hx
    rw [List.find?_cons (a := y)] at hy
    simp only [beq_self_eq_true] at hx hy
    have htag : x.tag = y.tag := by
      rcases Nat.lt_trichotomy x.tag y.tag with hlt | heq | hgt
      · have hm := List.mem_of_find?_eq_some hx.symm
        rcases List.mem_cons.1 hm with h3 | h3
        · rw [h3]
        · have := h2.1 x h3; omega
      · exact heq
      · have hm := List.mem_of_find?_eq_some hy
        rcases List.mem_cons.1 hm with h3 | h3
        · rw [h3]
        · have := h1.1 y h3; omega
    have hxy : x = y := by
      rw [List.find?_cons] at hx
      have : (y.tag == x.tag) = true := by rw [htag]; exact beq_self_eq_true _
      rw [this] at hx
      exact Option.some.inj hx
    subst hxy
    rw [rise_ext a b h1.2 h2.2 (fun t => by
      by_cases ht : x.tag = t
      · have e1 : a.find? (fun d => d.tag == t) = none := by
          rw [List.find?_eq_none]; intro d hd; have := h1.1 d hd; simp; omega
        have e2 : b.find? (fun d => d.tag == t) = none := by
          rw [List.find?_eq_none]; intro d hd; have := h2.1 d hd; simp; omega
        rw [e1, e2]
      · have h3 := h t
        rw [List.find?_cons, List.find?_cons] at h3
        have : (x.tag == t) = false := by rw [beq_eq_false_iff_ne]; exact ht
        rw [this] at h3
        exact h3)]
end Go.Proofs.Ytfiplongnnkhmaa
