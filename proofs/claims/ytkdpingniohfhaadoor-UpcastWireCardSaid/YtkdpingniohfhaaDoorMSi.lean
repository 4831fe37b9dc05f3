/-
  Writing and reading are inverse, as data: fields and records. No condition.
  Writing and reading an event are inverse, as data. No condition.
  What is read is what would be written; unlike events have unlike packs: as data. No condition.
-/
import Derived.Test.YtkdpingniohfhaaDoorMSref
import Derived.Test.YtkdpingniohfhaaDoorMRpk
import Derived.Test.YtkdpingniohfhaaDoorMSunp
namespace Go.Proofs.YtkdpingniohfhaaDoor
open Go.RowKit
set_option linter.unusedVariables false

theorem oneF_pos (d : FD) : 1 ≤ (oneF d).length := by
  unfold oneF
  split
  · have := enc_len_pos (2 * d.tag + 1); simp only [List.length_append]; omega
  · have := enc_len_pos (2 * d.tag); simp only [List.length_append]; omega
/-- A field that was written is read. -/
theorem nextF_one {d : FD} (h : RightF d) (last : Nat) (hl : last < d.tag) (r : List UInt8) : nextF (oneF d ++ r) last = (d, (oneF d).length, 0) := by
  obtain ⟨t, x, u, D⟩ := d
  obtain ⟨h1, h2, h3, h4, h5, h6⟩ := h
  dsimp only at h1 h2 h3 h4 h5 h6 hl
  cases x with
  | false =>
    obtain ⟨h7, h8⟩ := h6 rfl
    subst h7
    rw [oneF_num rfl]
    dsimp only
    have e1 := dec_of_enc (2 * t) (enc u ++ r) (by omega)
    have e2 := dec_of_enc u r h3
    have e3 : dec ((enc (2 * t) ++ (enc u ++ r)).drop (enc (2 * t)).length) = (u, (enc u).length, 0) := by rw [List.drop_left]; exact e2
    rw [List.append_assoc, nextF_of e1 e3, if_neg (by simp), if_neg (by omega), if_neg (by omega), if_neg (by simp), if_neg (by omega), if_pos (by omega), List.length_append, show 2 * t / 2 = t by omega]
  | true =>
    obtain ⟨h7, h8⟩ := h5 rfl
    subst h8
    rw [oneF_text rfl]
    dsimp only
    have e1 := dec_of_enc (2 * t + 1) (enc D.length ++ (D ++ r)) (by omega)
    have e2 := dec_of_enc D.length (D ++ r) (by omega)
    have hd : ((enc (2 * t + 1) ++ (enc D.length ++ (D ++ r))).drop ((enc (2 * t + 1)).length + (enc D.length).length)).take D.length = D := by
      rw [← List.drop_drop, List.drop_left, List.drop_left, List.take_left]
    have e3 : dec ((enc (2 * t + 1) ++ (enc D.length ++ (D ++ r))).drop (enc (2 * t + 1)).length) = (D.length, (enc D.length).length, 0) := by rw [List.drop_left]; exact e2
    rw [List.append_assoc, List.append_assoc, nextF_of e1 e3, if_neg (by simp), if_neg (by omega), if_neg (by omega), if_neg (by simp), if_neg (by omega), if_neg (by omega), if_neg (by omega),
      if_neg (by simp only [List.length_append]; omega), hd, show (2 * t + 1) / 2 = t by omega]
    simp only [List.length_append, Nat.add_assoc]
theorem readF_rec : ∀ (ds : List FD) (l : List UInt8) (k p last : Nat) (acc : List FD), l.drop p = recF ds → p ≤ l.length → Rise ds → (∀ d ∈ ds, RightF d ∧ last < d.tag) → ds.length < k → readF l k p last acc = (acc ++ ds, 0, 0)
  | [], l, k, p, last, acc, h, hp, _, _, _ => by
    have hlen : l.length ≤ p := by
      have := congrArg List.length h
      simp [recF] at this; omega
    rw [readF_end hlen]; simp
  | d :: ds, l, k, p, last, acc, h, hp, hr, hg, hk => by
    obtain ⟨j, rfl⟩ : ∃ j, k = j + 1 := ⟨k - 1, by omega⟩
    have h1 := List.pairwise_cons.1 hr
    have hd := hg d (by simp)
    have e1 : l.drop p = oneF d ++ recF ds := by rw [h]; rfl
    have hn := nextF_one hd.1 last hd.2 (recF ds)
    rw [← e1] at hn
    have hlen := congrArg List.length e1
    rw [List.length_drop, List.length_append] at hlen
    have hpos := oneF_pos d
    rw [readF_on (by omega) hn, readF_rec ds l j (p + (oneF d).length) d.tag (acc ++ [d]) (by rw [← List.drop_drop, e1, List.drop_left]) (by omega) h1.2 (fun x hx => ⟨(hg x (by simp [hx])).1, h1.1 x hx⟩) (by simp at hk; omega)]
    simp
theorem recF_len : ∀ (ds : List FD), ds.length ≤ (recF ds).length
  | [] => Nat.zero_le _
  | d :: ds => by
    have h1 := recF_len ds
    have h2 := oneF_pos d
    show (d :: ds).length ≤ (oneF d ++ recF ds).length
    rw [List.length_append]; simp; omega
theorem decode_rec {ds : List FD} (h : GoodF ds) (hl : (recF ds).length ≤ 1024) : decodeF (recF ds) = (ds, 0, 0) := by
  unfold decodeF
  rw [if_neg (by omega), readF_rec ds (recF ds) _ 0 0 [] rfl (Nat.zero_le _) h.rise (fun d hd => ⟨h.right d hd, (h.right d hd).1⟩) (by have := recF_len ds; omega)]
  rfl
/-- What was read is what would be written. -/
theorem nextF_sound {l : List UInt8} {last n : Nat} {d : FD} (h : nextF l last = (d, n, 0)) : l.take n = oneF d := by
  obtain ⟨x1, hx1⟩ : ∃ x, dec l = x := ⟨_, rfl⟩
  obtain ⟨k, p, er⟩ := x1
  obtain ⟨x2, hx2⟩ : ∃ x, dec (l.drop p) = x := ⟨_, rfl⟩
  obtain ⟨u, m, er2⟩ := x2
  rw [nextF_of hx1 hx2] at h
  split at h
  · simp only [Prod.mk.injEq] at h; omega
  rename_i g1
  split at h
  · simp only [Prod.mk.injEq] at h; omega
  rename_i g2
  split at h
  · simp only [Prod.mk.injEq] at h; omega
  split at h
  · simp only [Prod.mk.injEq] at h; omega
  rename_i g3
  split at h
  · simp only [Prod.mk.injEq] at h; omega
  obtain rfl : er = 0 := by omega
  obtain rfl : er2 = 0 := by omega
  obtain ⟨e1, p1, p2⟩ := dec_enc hx1
  obtain ⟨e2, m1, m2⟩ := dec_enc hx2
  rw [List.length_drop] at m2
  have hpm : l.take (p + m) = enc k ++ enc u := by rw [List.take_add, e1, e2]
  split at h
  · rename_i g4
    simp only [Prod.mk.injEq] at h
    obtain ⟨rfl, rfl, _⟩ := h
    rw [oneF_num rfl, hpm]
    dsimp only
    rw [show 2 * (k / 2) = k by omega]
  split at h
  · simp only [Prod.mk.injEq] at h; omega
  split at h
  · simp only [Prod.mk.injEq] at h; omega
  · rename_i g4 g5 g6
    simp only [Prod.mk.injEq] at h
    obtain ⟨rfl, rfl, _⟩ := h
    have hl : ((l.drop (p + m)).take u).length = u := by rw [List.length_take, List.length_drop]; omega
    rw [oneF_text rfl, List.take_add, hpm]
    dsimp only
    rw [hl, show 2 * (k / 2) + 1 = k by omega]
theorem readF_sound (l : List UInt8) : ∀ (k p last : Nat) (acc ds : List FD) (q : Nat), readF l k p last acc = (ds, q, 0) → l.length < p + k → ∃ tl, ds = acc ++ tl ∧ l.drop p = recF tl
  | 0, p, last, acc, ds, q, h, hk => by
    rw [readF] at h
    simp only [Prod.mk.injEq] at h
    exact ⟨[], by simp [h.1], by rw [List.drop_eq_nil_of_le (by omega)]; rfl⟩
  | k + 1, p, last, acc, ds, q, h, hk => by
    by_cases hp : l.length ≤ p
    · rw [readF_end hp] at h
      simp only [Prod.mk.injEq] at h
      exact ⟨[], by simp [h.1], by rw [List.drop_eq_nil_of_le hp]; rfl⟩
    · obtain ⟨y, hy⟩ : ∃ y, nextF (l.drop p) last = y := ⟨_, rfl⟩
      obtain ⟨d, n, e⟩ := y
      by_cases he : e = 0
      · subst he
        have hg := (nextF_good hy).2 rfl
        rw [readF_on (by omega) hy] at h
        obtain ⟨tl, h1, h2⟩ := readF_sound l k (p + n) d.tag (acc ++ [d]) ds q h (by omega)
        refine ⟨d :: tl, by rw [h1]; simp, ?_⟩
        have h3 := nextF_sound hy
        have h4 := List.take_append_drop n (l.drop p)
        rw [h3, List.drop_drop, h2] at h4
        exact h4.symm
      · rw [readF_bad (by omega) hy he] at h
        simp only [Prod.mk.injEq] at h
        exact absurd h.2.2 he
theorem decode_sound {l : List UInt8} {ds : List FD} {q : Nat} (h : decodeF l = (ds, q, 0)) : l = recF ds := by
  unfold decodeF at h
  split at h
  · simp only [Prod.mk.injEq] at h; omega
  · obtain ⟨tl, h1, h2⟩ := readF_sound l _ 0 0 [] ds q h (by omega)
    rw [List.drop_zero] at h2
    rw [h2, h1]; rfl

/-- Rising lists that hold the same at each tag are one. -/
theorem rise_ext : ∀ (a b : List FD), Rise a → Rise b → (∀ t, a.find? (fun d => d.tag == t) = b.find? (fun d => d.tag == t)) → a = b
  | [], [], _, _, _ => rfl
  | [], y :: b, _, _, h => by have := h y.tag; simp at this
  | x :: a, [], _, _, h => by have := h x.tag; simp at this
  | x :: a, y :: b, ha, hb, h => by
    have h1 := List.pairwise_cons.1 ha
    have h2 := List.pairwise_cons.1 hb
    have hx := h x.tag
    have hy := h y.tag
    rw [List.find?_cons] at hx
    rw [List.find?_cons (a := y)] at hy
    simp only [beq_self_eq_true] at hx hy
    have htag : x.tag = y.tag := by
      rcases Nat.lt_trichotomy x.tag y.tag with hlt | heq | hgt
      · have hm := List.mem_of_find?_eq_some hx.symm
        rcases List.mem_cons.1 hm with h3 | h3
        · rw [h3]
        · have := h2.1 x h3; omega
      · exact heq
      · have hm := List.mem_of_find?_eq_some hy
        rcases List.mem_cons.1 hm with h3 | h3
        · rw [h3]
        · have := h1.1 y h3; omega
    have hxy : x = y := by
      rw [List.find?_cons] at hx
      have : (y.tag == x.tag) = true := by rw [htag]; exact beq_self_eq_true _
      rw [this] at hx
      exact Option.some.inj hx
    subst hxy
    rw [rise_ext a b h1.2 h2.2 (fun t => by
      by_cases ht : x.tag = t
      · have e1 : a.find? (fun d => d.tag == t) = none := by
          rw [List.find?_eq_none]; intro d hd; have := h1.1 d hd; simp; omega
        have e2 : b.find? (fun d => d.tag == t) = none := by
          rw [List.find?_eq_none]; intro d hd; have := h2.1 d hd; simp; omega
        rw [e1, e2]
      · have h3 := h t
        rw [List.find?_cons, List.find?_cons] at h3
        have : (x.tag == t) = false := by rw [beq_eq_false_iff_ne]; exact ht
        rw [this] at h3
        exact h3)]
end Go.Proofs.YtkdpingniohfhaaDoor

namespace Go.Proofs.YtkdpingniohfhaaDoor
open Go.RowKit
set_option linter.unusedVariables false

/-- The fields that an event has. -/
theorem fieldAt_shape (v : Int) (e : Ev) (t : Nat) : fieldAt v e t = [] ∨ ∃ d, fieldAt v e t = [d] ∧ d.tag = t ∧ d.text = (t == 8 || t == 10) := by
  unfold fieldAt
  split
  · rename_i h8; subst h8; unfold txtF; split
    · exact .inl rfl
    · exact .inr ⟨_, rfl, rfl, rfl⟩
  split
  · rename_i h8 h10; subst h10; unfold txtF; split
    · exact .inl rfl
    · exact .inr ⟨_, rfl, rfl, rfl⟩
  rename_i h8 h10
  have hx : false = (t == 8 || t == 10) := by simp [h8, h10]
  split
  · rename_i h4; unfold numF; split
    · exact .inl rfl
    · exact .inr ⟨_, rfl, h4.1.symm, hx⟩
  · unfold numF; split
    · exact .inl rfl
    · exact .inr ⟨_, rfl, rfl, hx⟩
theorem fieldAt_right {v : Int} {e : Ev} (h : Bd e) (hq : 3 ≤ v → 0 ≤ e.qty) {t : Nat} (h1 : 1 ≤ t) (h31 : t ≤ 31) : ∀ d ∈ fieldAt v e t, RightF d := by
  have num : ∀ s : Nat, 1 ≤ s → s ≤ 31 → ∀ x : Int, 0 ≤ x → x < 18446744073709551616 → ∀ d ∈ numF s x.toNat, RightF d := by
    intro s s1 s31 x x0 x1 d hd
    unfold numF at hd
    split at hd
    · cases hd
    · simp at hd
      subst hd
      exact ⟨s1, s31, by show x.toNat < _; omega, by show ([] : List UInt8).length ≤ 200; simp, (by intro q; cases q), fun _ => ⟨rfl, by show 0 < x.toNat; omega⟩⟩
  have txt : ∀ s : Nat, 1 ≤ s → s ≤ 31 → ∀ u : ByteArray, u.size ≤ 200 → ∀ d ∈ txtF s u.data.toList, RightF d := by
    intro s s1 s31 u hu d hd
    unfold txtF at hd
    split at hd
    · cases hd
    · rename_i hne
      simp at hd
      subst hd
      exact ⟨s1, s31, by show 0 < 18446744073709551616; omega, by show u.data.toList.length ≤ 200; rw [Array.length_toList]; exact hu, fun _ => ⟨Nat.pos_of_ne_zero fun q => hne (List.eq_nil_of_length_eq_zero q), rfl⟩, (by intro q; cases q)⟩
  intro d hd
  unfold fieldAt at hd
  split at hd
  · exact txt 8 (by omega) (by omega) _ h.u d hd
  split at hd
  · exact txt 10 (by omega) (by omega) _ h.n d hd
  split at hd
  · obtain ⟨z0, z1⟩ := zig_bd e.qty h.q0 (by have := h.q1; omega)
    exact num 4 (by omega) (by omega) _ z0 z1 d hd
  · rename_i g4
    obtain ⟨n0, n1⟩ := num_in h hq t g4
    exact num t h1 h31 _ n0 (by omega) d hd
theorem fieldAt_find (v : Int) (e : Ev) (s t : Nat) : (fieldAt v e s).find? (fun d => d.tag == t) = if s = t then (fieldAt v e s).head? else none := by
  rcases fieldAt_shape v e s with h | ⟨d, h, h1, _⟩
  · rw [h]; simp
  · rw [h]
    by_cases hs : s = t
    · rw [if_pos hs]; simp [h1, hs]
    · rw [if_neg hs]; simp [h1, hs]
theorem upto_tags (v : Int) (e : Ev) : ∀ T, ∀ d ∈ fieldsUpto v e T, 1 ≤ d.tag ∧ d.tag ≤ T ∧ d.text = (d.tag == 8 || d.tag == 10)
  | 0, d, hd => by cases hd
  | T + 1, d, hd => by
    rcases List.mem_append.1 hd with h | h
    · obtain ⟨a, b, c⟩ := upto_tags v e T d h
      exact ⟨a, by omega, c⟩
    · rcases fieldAt_shape v e (T + 1) with h0 | ⟨x, h0, h1, h2⟩
      · rw [h0] at h; cases h
      · rw [h0] at h; simp at h; subst h
        exact ⟨by omega, by omega, by rw [h1]; exact h2⟩
theorem upto_find (v : Int) (e : Ev) (t : Nat) : ∀ T, (fieldsUpto v e T).find? (fun d => d.tag == t) = if 1 ≤ t ∧ t ≤ T then (fieldAt v e t).head? else none
  | 0 => by rw [if_neg (by omega)]; rfl
  | T + 1 => by
    show (fieldsUpto v e T ++ fieldAt v e (T + 1)).find? _ = _
    rw [List.find?_append, upto_find v e t T, fieldAt_find]
    by_cases h1 : 1 ≤ t ∧ t ≤ T
    · rw [if_pos h1, if_pos (show 1 ≤ t ∧ t ≤ T + 1 by omega), if_neg (show ¬ T + 1 = t by omega)]; simp
    · rw [if_neg h1]
      by_cases h2 : T + 1 = t
      · rw [if_pos h2, if_pos (show 1 ≤ t ∧ t ≤ T + 1 by omega), h2]; simp
      · rw [if_neg h2, if_neg (show ¬ (1 ≤ t ∧ t ≤ T + 1) by omega)]; rfl
theorem upto_good {v : Int} {e : Ev} (h : Bd e) (hq : 3 ≤ v → 0 ≤ e.qty) : ∀ T, T ≤ 31 → GoodF (fieldsUpto v e T)
  | 0, _ => GoodF.nil
  | T + 1, hT => by
    have h1 := upto_good h hq T (by omega)
    show GoodF (fieldsUpto v e T ++ fieldAt v e (T + 1))
    have hr := fieldAt_right h hq (t := T + 1) (by omega) hT
    rcases fieldAt_shape v e (T + 1) with h0 | ⟨x, h0, h2, _⟩
    · rw [h0, List.append_nil]; exact h1
    · rw [h0] at hr ⊢
      exact h1.snoc (last := T) (fun y hy => (upto_tags v e T y hy).2.1) (hr x (by simp)) (by omega)
theorem has_nat {v : Int} (h1 : 1 ≤ v) : ((hasV v).toNat : Int) = hasV v ∧ (hasV v).toNat ≤ 10 := by
  have := hasV_bd h1; omega
theorem fields_good {v : Int} {e : Ev} (h : Right v e) : GoodF (fieldsE v e) := by
  rw [← fields_upto v e h.v1 h.v5]
  exact upto_good (bd_of h) h.q3 _ (by have := (has_nat h.v1).2; omega)
theorem fields_find {v : Int} {e : Ev} (h1 : 1 ≤ v) (h5 : v ≤ 5) (t : Nat) : (fieldsE v e).find? (fun d => d.tag == t) = if 1 ≤ t ∧ (t : Int) ≤ hasV v then (fieldAt v e t).head? else none := by
  rw [← fields_upto v e h1 h5, upto_find]
  have := has_nat h1
  by_cases h : 1 ≤ t ∧ (t : Int) ≤ hasV v
  · rw [if_pos h, if_pos (by omega)]
  · rw [if_neg h, if_neg (by omega)]
theorem fields_clean {v : Int} {e : Ev} (h1 : 1 ≤ v) (h5 : v ≤ 5) : left (fieldsE v e) (seqV v) = [] ∧ misT (fieldsE v e) (seqV v) = false := by
  have ht := upto_tags v e (hasV v).toNat
  rw [fields_upto v e h1 h5] at ht
  have hn := has_nat h1
  constructor
  · unfold left
    rw [List.filter_eq_nil_iff]
    intro d hd
    obtain ⟨a, b, _⟩ := ht d hd
    rw [inT_seq h1 h5 a, decide_eq_true (by omega)]; simp
  · unfold misT
    rw [List.any_eq_false]
    intro d hd
    obtain ⟨a, b, c⟩ := ht d hd
    rw [mis_seq h1 h5 a, c]; simp
/-- What stands at a number's tag, at a text's. -/
theorem look_numF {v : Int} {e : Ev} (h1 : 1 ≤ v) (h5 : v ≤ 5) {t n : Nat} (ht : 1 ≤ t) (hh : (t : Int) ≤ hasV v) (hf : fieldAt v e t = numF t n) : (look (fieldsE v e) t false).num = n := by
  unfold look
  rw [fields_find h1 h5, if_pos ⟨ht, hh⟩, hf]
  by_cases h0 : n = 0
  · subst h0; rfl
  · unfold numF; rw [if_neg h0]; rfl
theorem look_txtF {v : Int} {e : Ev} (h1 : 1 ≤ v) (h5 : v ≤ 5) {t : Nat} {l : List UInt8} (ht : 1 ≤ t) (hh : (t : Int) ≤ hasV v) (hf : fieldAt v e t = txtF t l) : (look (fieldsE v e) t true).bytes = l := by
  unfold look
  rw [fields_find h1 h5, if_pos ⟨ht, hh⟩, hf]
  by_cases h0 : l = []
  · subst h0; rfl
  · unfold txtF; rw [if_neg h0]; rfl
theorem clamp_to {x : Int} (h0 : 0 ≤ x) (h1 : x ≤ 1099511627776) : clampI x.toNat = x := by unfold clampI; rw [if_pos (by omega)]; omega
theorem strD_of (u : ByteArray) : strD u.data.toList = u := by cases u; unfold strD; simp
theorem ev_fields {v : Int} {e : Ev} (h : Right v e) : evOf v (fieldsE v e) = e := by
  have h1 := h.v1
  have h5 := h.v5
  have hb := hasV_bd h1
  have hb2 : (2 ≤ v → 6 ≤ hasV v) ∧ (3 ≤ v → 7 ≤ hasV v) ∧ (4 ≤ v → 8 ≤ hasV v) ∧ (5 ≤ v → 10 ≤ hasV v) := by
    unfold hasV; split <;> (try split) <;> (try split) <;> (try split) <;> omega
  have nf : ∀ t : Nat, 1 ≤ t → t ≠ 8 → t ≠ 10 → ¬ (t = 4 ∧ v < 3) → (t : Int) ≤ hasV v → (look (fieldsE v e) t false).num = (numAt e t).toNat := fun t a b c d f =>
    look_numF h1 h5 a f (by unfold fieldAt; rw [if_neg b, if_neg c, if_neg d])
  have n1 : clampI (look (fieldsE v e) 1 false).num = e.kind := by
    rw [nf 1 (by omega) (by omega) (by omega) (by omega) (by omega)]
    exact clamp_to (by have := h.k1; show 0 ≤ e.kind; omega) (by have := h.kl; show e.kind ≤ _; have h9 : lastK v ≤ 10 := (by unfold lastK; split <;> (try split) <;> (try split) <;> omega); omega)
  have n2 : clampI (look (fieldsE v e) 2 false).num = e.order := by
    rw [nf 2 (by omega) (by omega) (by omega) (by omega) (by omega)]
    exact clamp_to (by have := h.o; show 0 ≤ e.order; omega) h.o.2
  have n3 : clampI (look (fieldsE v e) 3 false).num = e.item := by
    rw [nf 3 (by omega) (by omega) (by omega) (by omega) (by omega)]
    exact clamp_to h.i.1 (by have := h.i; show e.item ≤ _; omega)
  have n5 : clampI (look (fieldsE v e) 5 false).num = e.price := by
    rw [nf 5 (by omega) (by omega) (by omega) (by omega) (by omega)]
    exact clamp_to h.p.1 (by have := h.p; show e.price ≤ _; omega)
  have n4 : (if v < 3 then zagN ((look (fieldsE v e) 4 false).num : Int) else clampI (look (fieldsE v e) 4 false).num) = e.qty := by
    by_cases hv : v < 3
    · rw [if_pos hv, look_numF (n := (zigN e.qty).toNat) h1 h5 (by omega) (by omega) (by unfold fieldAt; rw [if_neg (by omega), if_neg (by omega), if_pos ⟨rfl, hv⟩])]
      have hz := zig_bd e.qty (by have := h.q; omega) (by have := h.q; omega)
      rw [show (((zigN e.qty).toNat : Nat) : Int) = zigN e.qty by omega, zag_zig]
    · rw [if_neg hv, nf 4 (by omega) (by omega) (by omega) (by omega) (by omega)]
      exact clamp_to (h.q3 (by omega)) (by have := h.q; show e.qty ≤ _; omega)
  have n6 : (if v < 2 then 0 else clampI (look (fieldsE v e) 6 false).num) = e.cur := by
    by_cases hv : v < 2
    · rw [if_pos hv, h.c1 (by omega)]
    · rw [if_neg hv, nf 6 (by omega) (by omega) (by omega) (by omega) (by omega)]
      exact clamp_to h.c.1 (by have := h.c; show e.cur ≤ _; omega)
  have n7 : (if v < 3 then 0 else clampI (look (fieldsE v e) 7 false).num) = e.tax := by
    by_cases hv : v < 3
    · rw [if_pos hv, h.t2 (by omega)]
    · rw [if_neg hv, nf 7 (by omega) (by omega) (by omega) (by omega) (by omega)]
      exact clamp_to h.t.1 (by have := h.t; show e.tax ≤ _; omega)
  have n9 : (if v < 5 then 0 else clampI (look (fieldsE v e) 9 false).num) = e.stamp := by
    by_cases hv : v < 5
    · rw [if_pos hv, h.s4 (by omega)]
    · rw [if_neg hv, nf 9 (by omega) (by omega) (by omega) (by omega) (by omega)]
      exact clamp_to h.s.1 h.s.2
  have n8 : (if v < 4 then ByteArray.empty else strD (look (fieldsE v e) 8 true).bytes) = e.who := by
    by_cases hv : v < 4
    · rw [if_pos hv, bytes_nil (h.u3 (by omega))]; rfl
    · rw [if_neg hv, look_txtF (l := e.who.data.toList) h1 h5 (by omega) (by omega) (by unfold fieldAt; rw [if_pos rfl]), strD_of]
  have n10 : (if v < 5 then ByteArray.empty else strD (look (fieldsE v e) 10 true).bytes) = e.note := by
    by_cases hv : v < 5
    · rw [if_pos hv, bytes_nil (h.n4 (by omega))]; rfl
    · rw [if_neg hv, look_txtF (l := e.note.data.toList) h1 h5 (by omega) (by omega) (by unfold fieldAt; rw [if_neg (by omega), if_pos rfl]), strD_of]
  unfold evOf
  rw [n1, n2, n3, n4, n5, n6, n7, n8, n9, n10]
/-- There and back. -/
theorem dec_back {v : Int} {e : Ev} (h : chk v e = 0) : sdecF v (encL v e) = (e, 0) ∧ (encL v e).length ≤ 1024 := by
  have r := right_of h
  have hl := rec_short v e (bd_of r)
  have he : encL v e = recF (fieldsE v e) := by unfold encL; rw [if_pos h]
  rw [he]
  refine ⟨?_, hl⟩
  have hv : ¬ (v < 1 ∨ 5 < v) := by have := r.v1; have := r.v5; omega
  obtain ⟨c1, c2⟩ := fields_clean (e := e) r.v1 r.v5
  have hb : badT (fieldsE v e) (seqV v) = 0 := by unfold badT; rw [c2]; rfl
  unfold sdecF
  rw [if_neg hv, decode_rec (fields_good r) hl]
  simp only
  rw [if_neg (by simp), c1, hb, if_neg (by decide), ev_fields r, h, if_neg (by simp)]
end Go.Proofs.YtkdpingniohfhaaDoor

namespace Go.Proofs.YtkdpingniohfhaaDoor
open Go.RowKit
set_option linter.unusedVariables false

theorem numAt_ev {v : Int} (h1 : 1 ≤ v) (h5 : v ≤ 5) (ds : List FD) {t : Nat} (ht : 1 ≤ t) (hh : (t : Int) ≤ hasV v) (n8 : t ≠ 8) (n10 : t ≠ 10) (n4 : ¬ (t = 4 ∧ v < 3)) : numAt (evOf v ds) t = clampI (look ds t false).num := by
  have hb := hasV_bd h1
  rw [evOf_nAt h1 h5]
  have key : nAt v ds t = clampI (look ds t false).num := by
    unfold nAt; rw [if_neg (by omega), if_neg n4]
  rw [← key]
  have hc : t = 1 ∨ t = 2 ∨ t = 3 ∨ t = 4 ∨ t = 5 ∨ t = 6 ∨ t = 7 ∨ t = 9 := by omega
  rcases hc with rfl | rfl | rfl | rfl | rfl | rfl | rfl | rfl <;> rfl
theorem num_small {v : Int} {e : Ev} (h : Right v e) (t : Nat) : numAt e t ≤ 1099511627776 := by
  have h9 : lastK v ≤ 10 := by unfold lastK; split <;> (try split) <;> (try split) <;> omega
  unfold numAt
  split
  · have := h.kl; omega
  · exact h.o.2
  · have := h.i; omega
  · have := h.q; omega
  · have := h.p; omega
  · have := h.c; omega
  · have := h.t; omega
  · exact h.s.2
  · decide
theorem clamp_of {n : Nat} (h : clampI n ≤ 1099511627776) : clampI n = (n : Int) := by unfold clampI at h ⊢; split at h <;> split <;> omega
theorem fields_back {v : Int} (h1 : 1 ≤ v) (h5 : v ≤ 5) {ds : List FD} (hg : GoodF ds) (hl : left ds (seqV v) = []) (hm : misT ds (seqV v) = false) (hc : chk v (evOf v ds) = 0) : fieldsE v (evOf v ds) = ds := by
  have hr := right_of hc
  have hb := hasV_bd h1
  have htag : ∀ d ∈ ds, (d.tag : Int) ≤ hasV v ∧ d.text = (d.tag == 8 || d.tag == 10) := by
    intro d hd
    have h11 := (hg.right d hd).1
    have a1 : inT (seqV v) d.tag = true := by
      have := List.filter_eq_nil_iff.1 hl d hd
      simpa using this
    rw [inT_seq h1 h5 h11, decide_eq_true_iff] at a1
    have a2 := (List.any_eq_false.1 hm) d hd
    rw [mis_seq h1 h5 h11, decide_eq_true a1] at a2
    refine ⟨a1, ?_⟩
    have a3 : (d.text != (d.tag == 8 || d.tag == 10)) = false := by simpa using a2
    exact bne_eq_false_iff_eq.1 a3
  refine rise_ext _ _ (fields_good hr).rise hg.rise fun t => ?_
  rw [fields_find h1 h5]
  by_cases ht : 1 ≤ t ∧ (t : Int) ≤ hasV v
  · rw [if_pos ht]
    obtain ⟨t1, th⟩ := ht
    cases hf : ds.find? (fun d => d.tag == t) with
    | none =>
      have lk : ∀ x, look ds t x = default := fun x => by unfold look; rw [hf]
      unfold fieldAt
      by_cases e8 : t = 8
      · subst e8
        rw [if_pos rfl]
        have : (evOf v ds).who = strD [] := by show (if v < 4 then _ else _) = _; rw [lk]; split <;> rfl
        rw [this]; rfl
      rw [if_neg e8]
      by_cases e10 : t = 10
      · subst e10
        rw [if_pos rfl]
        have : (evOf v ds).note = strD [] := by show (if v < 5 then _ else _) = _; rw [lk]; split <;> rfl
        rw [this]; rfl
      rw [if_neg e10]
      by_cases e4 : t = 4 ∧ v < 3
      · rw [if_pos e4]
        obtain ⟨e4, hv⟩ := e4
        subst e4
        have : (evOf v ds).qty = 0 := by show (if v < 3 then _ else _) = _; rw [if_pos hv, lk]; rfl
        rw [this]; rfl
      · rw [if_neg e4, numAt_ev h1 h5 ds t1 th e8 e10 e4, lk]; rfl
    | some d =>
      have hd := List.mem_of_find?_eq_some hf
      have hdt : d.tag = t := by have := List.find?_some hf; simpa using this
      obtain ⟨_, hx⟩ := htag d hd
      obtain ⟨r1, r2, r3, r4, r5, r6⟩ := hg.right d hd
      have lk : ∀ x, d.text = x → look ds t x = d := fun x hx => by unfold look; rw [hf]; simp only; rw [if_pos hx]
      obtain ⟨tt, x, u, D⟩ := d
      dsimp only at hdt hx r1 r2 r3 r4 r5 r6 lk
      subst hdt
      have nx : tt ≠ 8 → tt ≠ 10 → x = false := fun a b => by rw [hx]; simp [a, b]
      unfold fieldAt
      by_cases e8 : tt = 8
      · subst e8
        have hxt : x = true := by rw [hx]; rfl
        subst hxt
        obtain ⟨q1, q2⟩ := r5 rfl
        rw [if_pos rfl]
        have : (evOf v ds).who = strD D := by show (if v < 4 then _ else _) = _; rw [if_neg (by omega), lk true rfl]
        rw [this]
        unfold txtF
        rw [if_neg (show (strD D).data.toList ≠ [] from fun q => by have : D = [] := q; rw [this] at q1; simp at q1), q2]
        rfl
      rw [if_neg e8]
      by_cases e10 : tt = 10
      · subst e10
        have hxt : x = true := by rw [hx]; rfl
        subst hxt
        obtain ⟨q1, q2⟩ := r5 rfl
        rw [if_pos rfl]
        have : (evOf v ds).note = strD D := by show (if v < 5 then _ else _) = _; rw [if_neg (by omega), lk true rfl]
        rw [this]
        unfold txtF
        rw [if_neg (show (strD D).data.toList ≠ [] from fun q => by have : D = [] := q; rw [this] at q1; simp at q1), q2]
        rfl
      rw [if_neg e10]
      obtain rfl := nx e8 e10
      obtain ⟨q1, q2⟩ := r6 rfl
      subst q1
      by_cases e4 : tt = 4 ∧ v < 3
      · rw [if_pos e4]
        obtain ⟨e4, hv⟩ := e4
        subst e4
        have : (evOf v ds).qty = zagN (u : Int) := by show (if v < 3 then _ else _) = _; rw [if_pos hv, lk false rfl]
        rw [this, zig_zag _ (Int.natCast_nonneg _), Int.toNat_natCast]
        unfold numF
        rw [if_neg (by omega)]
        rfl
      · rw [if_neg e4]
        have hn := numAt_ev h1 h5 ds t1 th e8 e10 e4
        rw [lk false rfl] at hn
        have hs := num_small hr tt
        rw [hn] at hs
        rw [hn, clamp_of hs, Int.toNat_natCast]
        dsimp only
        unfold numF
        rw [if_neg (show ¬ u = 0 by omega)]
        rfl
  · rw [if_neg ht]
    symm
    rw [List.find?_eq_none]
    intro d hd
    have := htag d hd
    have := (hg.right d hd).1
    simp only [beq_iff_eq]
    omega
theorem errF_zero {ds : List FD} {bad : Nat} (h : errF ds bad = 0) : bad = 0 ∧ ds = [] := by
  unfold errF at h
  split at h
  · omega
  · rename_i hb
    split at h
    · cases h
    · rename_i hl
      exact ⟨by omega, List.eq_nil_of_length_eq_zero (by omega)⟩
/-- One form alone. -/
theorem dec_form {v : Int} {l : List UInt8} (h : (sdecF v l).2 = 0) : 1 ≤ v ∧ v ≤ 5 ∧ chk v (sdecF v l).1 = 0 ∧ encL v (sdecF v l).1 = l := by
  unfold sdecF at h ⊢
  by_cases hv : v < 1 ∨ 5 < v
  · rw [if_pos hv] at h; cases h
  rw [if_neg hv] at h ⊢
  obtain ⟨y, hy⟩ : ∃ y, decodeF l = y := ⟨_, rfl⟩
  obtain ⟨ds, q, e⟩ := y
  have hg := decodeF_right l
  rw [hy] at h hg ⊢
  simp only at h hg ⊢
  by_cases he : e = 0
  · subst he
    rw [if_neg (by simp)] at h ⊢
    have hs := decode_sound hy
    by_cases her : errF (left ds (seqV v)) (badT ds (seqV v)) = 0
    · rw [if_neg (by rw [her]; simp)] at h ⊢
      by_cases hc : chk v (evOf v ds) = 0
      · rw [if_neg (by rw [hc]; simp)]
        obtain ⟨g1, g2⟩ := errF_zero her
        have hm : misT ds (seqV v) = false := by
          unfold badT at g1
          split at g1
          · cases g1
          · rename_i hm; simpa using hm
        have hf := fields_back (by omega) (by omega) hg g2 hm hc
        refine ⟨by omega, by omega, hc, ?_⟩
        unfold encL
        rw [if_pos hc, hf]
        exact hs.symm
      · rw [if_pos hc] at h; exact absurd h hc
    · rw [if_pos her] at h; simp only at h; omega
  · rw [if_pos he] at h; simp only at h; omega
theorem dec_bad {v : Int} {l : List UInt8} (h : (sdecF v l).2 ≠ 0) : (sdecF v l).1 = default := by
  unfold sdecF at h ⊢
  split
  · rfl
  split
  · rfl
  split
  · rfl
  split
  · rfl
  · rename_i h1 h2 h3 h4
    rw [if_neg h1, if_neg h2, if_neg h3, if_neg h4] at h
    exact absurd rfl h
/-- A pack tells its version and its event. -/
theorem unp_pack {v : Int} {e : Ev} (h : chk v e = 0) : unpF (packL v e) = (v, e, 0) := by
  have r := right_of h
  have h1 := r.v1
  have h5 := r.v5
  have he : packL v e = enc v.toNat ++ encL v e := by unfold packL encL; rw [if_pos h, if_pos h]
  have hd := dec_of_enc v.toNat (encL v e) (by omega)
  obtain ⟨hb, _⟩ := dec_back h
  have hc : clampI v.toNat = v := by unfold clampI; rw [if_pos (by omega)]; omega
  unfold unpF
  rw [he, hd]
  simp only
  rw [List.drop_left, hc, hb]
  simp
theorem pack_one {v w : Int} {e f : Ev} (h1 : chk v e = 0) (h2 : chk w f = 0) (h : packL v e = packL w f) : v = w ∧ e = f := by
  have a := unp_pack h1
  rw [h, unp_pack h2] at a
  simp only [Prod.mk.injEq] at a
  exact ⟨a.1.symm, a.2.1.symm⟩
end Go.Proofs.YtkdpingniohfhaaDoor
