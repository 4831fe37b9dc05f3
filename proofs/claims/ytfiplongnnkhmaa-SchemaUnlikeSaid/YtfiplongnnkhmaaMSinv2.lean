/-
  Writing and reading an event are inverse, as data. No condition.
-/
import Derived.Test.YtfiplongnnkhmaaMSinv
namespace Go.Proofs.Ytfiplongnnkhmaa
open Go.RowKit
set_option linter.unusedVariables false

/-- The fields that an event has. -/
theorem fieldAt_shape (v : Int) (e : Ev) (t : Nat) : fieldAt v e t = [] ∨ ∃ d, fieldAt v e t = [d] ∧ d.tag = t ∧ d.text = (t == 8 || t == 10) := by
  unfold fieldAt
  split
  · rename_i h8; subst h8; unfold txtF; split
    · exact .inl rfl
    · exact .inr ⟨_, rfl, rfl, rfl⟩
  split
  · rename_i h8 h10; subst h10; unfold txtF; split
    · exact .inl rfl
    · exact .inr ⟨_, rfl, rfl, rfl⟩
  rename_i h8 h10
  have hx : false = (t == 8 || t == 10) := by simp [h8, h10]
  split
  · rename_i h4; unfold numF; split
    · exact .inl rfl
    · exact .inr ⟨_, rfl, h4.1.symm, hx⟩
  · unfold numF; split
    · exact .inl rfl
    · exact .inr ⟨_, rfl, rfl, hx⟩
theorem fieldAt_right {v : Int} {e : Ev} (h : Bd e) (hq : 3 ≤ v → 0 ≤ e.qty) {t : Nat} (h1 : 1 ≤ t) (h31 : t ≤ 31) : ∀ d ∈ fieldAt v e t, RightF d := by
  have num : ∀ s : Nat, 1 ≤ s → s ≤ 31 → ∀ x : Int, 0 ≤ x → x < 18446744073709551616 → ∀ d ∈ numF s x.toNat, RightF d := by
    intro s s1 s31 x x0 x1 d hd
    unfold numF at hd
    split at hd
    · cases hd
    · simp at hd
      subst hd
      exact ⟨s1, s31, by show x.toNat < _; omega, by show ([] : List UInt8).length ≤ 200; simp, (by intro q; cases q), fun _ => ⟨rfl, by show 0 < x.toNat; omega⟩⟩
  have txt : ∀ s : Nat, 1 ≤ s → s ≤ 31 → ∀ u : ByteArray, u.size ≤ 200 → ∀ d ∈ txtF s u.data.toList, RightF d := by
    intro s s1 s31 u hu d hd
    unfold txtF at hd
    split at hd
    · cases hd
    · rename_i hne
      simp at hd
      subst hd
      exact ⟨s1, s31, by show 0 < 18446744073709551616; omega, by show u.data.toList.length ≤ 200; rw [Array.length_toList]; exact hu, fun _ => ⟨Nat.pos_of_ne_zero fun q => hne (List.eq_nil_of_length_eq_zero q), rfl⟩, (by intro q; cases q)⟩
  intro d hd
  unfold fieldAt at hd
  split at hd
  · exact txt 8 (by omega) (by omega) _ h.u d hd
  split at hd
  · exact txt 10 (by omega) (by omega) _ h.n d hd
  split at hd
  · obtain ⟨z0, z1⟩ := zig_bd e.qty h.q0 (by have := h.q1; omega)
    exact num 4 (by omega) (by omega) _ z0 z1 d hd
  · rename_i g4
    obtain ⟨n0, n1⟩ := num_in h hq t g4
    exact num t h1 h31 _ n0 (by omega) d hd
theorem fieldAt_find (v : Int) (e : Ev) (s t : Nat) : (fieldAt v e s).find? (fun d => d.tag == t) = if s = t then (fieldAt v e s).head? else none := by
  rcases fieldAt_shape v e s with h | ⟨d, h, h1, _⟩
  · rw [h]; simp
  · rw [h]
    by_cases hs : s = t
    · rw [if_pos hs]; simp [h1, hs]
    · rw [if_neg hs]; simp [h1, hs]
theorem upto_tags (v : Int) (e : Ev) : ∀ T, ∀ d ∈ fieldsUpto v e T, 1 ≤ d.tag ∧ d.tag ≤ T ∧ d.text = (d.tag == 8 || d.tag == 10)
  | 0, d, hd => by cases hd
  | T + 1, d, hd => by
    rcases List.mem_append.1 hd with h | h
    · obtain ⟨a, b, c⟩ := upto_tags v e T d h
      exact ⟨a, by omega, c⟩
    · rcases fieldAt_shape v e (T + 1) with h0 | ⟨x, h0, h1, h2⟩
      · rw [h0] at h; cases h
      · rw [h0] at h; simp at h; subst h
        exact ⟨by omega, by omega, by rw [h1]; exact h2⟩
theorem upto_find (v : Int) (e : Ev) (t : Nat) : ∀ T, (fieldsUpto v e T).find? (fun d => d.tag == t) = if 1 ≤ t ∧ t ≤ T then (fieldAt v e t).head? else none
  | 0 => by rw [if_neg (by omega)]; rfl
  | T + 1 => by
    show (fieldsUpto v e T ++ fieldAt v e (T + 1)).find? _ = _
    rw [List.find?_append, upto_find v e t T, fieldAt_find]
    by_cases h1 : 1 ≤ t ∧ t ≤ T
    · rw [if_pos h1, if_pos (show 1 ≤ t ∧ t ≤ T + 1 by omega), if_neg (show ¬ T + 1 = t by omega)]; simp
    · rw [if_neg h1]
      by_cases h2 : T + 1 = t
      · rw [if_pos h2, if_pos (show 1 ≤ t ∧ t ≤ T + 1 by omega), h2]; simp
      · rw [if_neg h2, if_neg (show ¬ (1 ≤ t ∧ t ≤ T + 1) by omega)]; rfl
theorem upto_good {v : Int} {e : Ev} (h : Bd e) (hq : 3 ≤ v → 0 ≤ e.qty) : ∀ T, T ≤ 31 → GoodF (fieldsUpto v e T)
  | 0, _ => GoodF.nil
  | T + 1, hT => by
    have h1 := upto_good h hq T (by omega)
    show GoodF (fieldsUpto v e T ++ fieldAt v e (T + 1))
    have hr := fieldAt_right h hq (t := T + 1) (by omega) hT
    rcases fieldAt_shape v e (T + 1) with h0 | ⟨x, h0, h2, _⟩
    · rw [h0, List.append_nil]; exact h1
    · rw [h0] at hr ⊢
      exact h1.snoc (last := T) (fun y hy => (upto_tags v e T y hy).2.1) (hr x (by simp)) (by omega)
theorem has_nat {v : Int} (h1 : 1 ≤ v) : ((hasV v).toNat : Int) = hasV v ∧ (hasV v).toNat ≤ 10 := by
  have := hasV_bd h1; omega
theorem fields_good {v : Int} {e : Ev} (h : Right v e) : GoodF (fieldsE v e) := by
  rw [← fields_upto v e h.v1 h.v5]
  exact upto_good (bd_of h) h.q3 _ (by have := (has_nat h.v1).2; omega)
theorem fields_find {v : Int} {e : Ev} (h1 : 1 ≤ v) (h5 : v ≤ 5) (t : Nat) : (fieldsE v e).find? (fun d => d.tag == t) = if 1 ≤ t ∧ (t : Int) ≤ hasV v then (fieldAt v e t).head? else none := by
  rw [← fields_upto v e h1 h5, upto_find]
  have := has_nat h1
  by_cases h : 1 ≤ t ∧ (t : Int) ≤ hasV v
  · rw [if_pos h, if_pos (by omega)]
  · rw [if_neg h, if_neg (by omega)]
theorem fields_clean {v : Int} {e : Ev} (h1 : 1 ≤ v) (h5 : v ≤ 5) : left (fieldsE v e) (seqV v) = [] ∧ misT (fieldsE v e) (seqV v) = false := by
  have ht := upto_tags v e (hasV v).toNat
  rw [fields_upto v e h1 h5] at ht
  have hn := has_nat h1
  constructor
  · unfold left
    rw [List.filter_eq_nil_iff]
    intro d hd
    obtain ⟨a, b, _⟩ := ht d hd
    rw [inT_seq h1 h5 a, decide_eq_true (by omega)]; simp
  · unfold misT
    rw [List.any_eq_false]
    intro d hd
    obtain ⟨a, b, c⟩ := ht d hd
    rw [mis_seq h1 h5 a, c]; simp
/-- What stands at a number's tag, at a text's. -/
theorem look_numF {v : Int} {e : Ev} (h1 : 1 ≤ v) (h5 : v ≤ 5) {t n : Nat} (ht : 1 ≤ t) (hh : (t : Int) ≤ hasV v) (hf : fieldAt v e t = numF t n) : (look (fieldsE v e) t false).num = n := by
  unfold look
  rw [fields_find h1 h5, if_pos ⟨ht, hh⟩, hf]
  by_cases h0 : n = 0
  · subst h0; rfl
  · unfold numF; rw [if_neg h0]; rfl
theorem look_txtF {v : Int} {e : Ev} (h1 : 1 ≤ v) (h5 : v ≤ 5) {t : Nat} {l : List UInt8} (ht : 1 ≤ t) (hh : (t : Int) ≤ hasV v) (hf : fieldAt v e t = txtF t l) : (look (fieldsE v e) t true).bytes = l := by
  unfold look
  rw [fields_find h1 h5, if_pos ⟨ht, hh⟩, hf]
  by_cases h0 : l = []
  · subst h0; rfl
  · unfold txtF; rw [if_neg h0]; rfl
theorem clamp_to {x : Int} (h0 : 0 ≤ x) (h1 : x ≤ 1099511627776) : clampI x.toNat = x := by unfold clampI; rw [if_pos (by omega)]; omega
theorem strD_of (u : ByteArray) : strD u.data.toList = u := by cases u; unfold strD; simp
theorem ev_fields {v : Int} {e : Ev} (h : Right v e) : evOf v (fieldsE v e) = e := by
  have h1 := h.v1
  have h5 := h.v5
  have hb := hasV_bd h1
  have hb2 : (2 ≤ v → 6 ≤ hasV v) ∧ (3 ≤ v → 7 ≤ hasV v) ∧ (4 ≤ v → 8 ≤ hasV v) ∧ (5 ≤ v → 10 ≤ hasV v) := by
    unfold hasV; split <;> (try split) <;> (try split) <;> (try split) <;> omega
  have nf : ∀ t : Nat, 1 ≤ t → t ≠ 8 → t ≠ 10 → ¬ (t = 4 ∧ v < 3) → (t : Int) ≤ hasV v → (look (fieldsE v e) t false).num = (numAt e t).toNat := fun t a b c d f =>
    look_numF h1 h5 a f (by unfold fieldAt; rw [if_neg b, if_neg c, if_neg d])
  have n1 : clampI (look (fieldsE v e) 1 false).num = e.kind := by
    rw [nf 1 (by omega) (by omega) (by omega) (by omega) (by omega)]
    exact clamp_to (by have := h.k1; show 0 ≤ e.kind; omega) (by have := h.kl; show e.kind ≤ _; have h9 : lastK v ≤ 10 := (by unfold lastK; split <;> (try split) <;> (try split) <;> omega); omega)
  have n2 : clampI (look (fieldsE v e) 2 false).num = e.order := by
    rw [nf 2 (by omega) (by omega) (by omega) (by omega) (by omega)]
    exact clamp_to (by have := h.o; show 0 ≤ e.order; omega) h.o.2
  have n3 : clampI (look (fieldsE v e) 3 false).num = e.item := by
    rw [nf 3 (by omega) (by omega) (by omega) (by omega) (by omega)]
    exact clamp_to h.i.1 (by have := h.i; show e.item ≤ _; omega)
  have n5 : clampI (look (fieldsE v e) 5 false).num = e.price := by
    rw [nf 5 (by omega) (by omega) (by omega) (by omega) (by omega)]
    exact clamp_to h.p.1 (by have := h.p; show e.price ≤ _; omega)
  have n4 : (if v < 3 then zagN ((look (fieldsE v e) 4 false).num : Int) else clampI (look (fieldsE v e) 4 false).num) = e.qty := by
    by_cases hv : v < 3
    · rw [if_pos hv, look_numF (n := (zigN e.qty).toNat) h1 h5 (by omega) (by omega) (by unfold fieldAt; rw [if_neg (by omega), if_neg (by omega), if_pos ⟨rfl, hv⟩])]
      have hz := zig_bd e.qty (by have := h.q; omega) (by have := h.q; omega)
      rw [show (((zigN e.qty).toNat : Nat) : Int) = zigN e.qty by omega, zag_zig]
    · rw [if_neg hv, nf 4 (by omega) (by omega) (by omega) (by omega) (by omega)]
      exact clamp_to (h.q3 (by omega)) (by have := h.q; show e.qty ≤ _; omega)
  have n6 : (if v < 2 then 0 else clampI (look (fieldsE v e) 6 false).num) = e.cur := by
    by_cases hv : v < 2
    · rw [if_pos hv, h.c1 (by omega)]
    · rw [if_neg hv, nf 6 (by omega) (by omega) (by omega) (by omega) (by omega)]
      exact clamp_to h.c.1 (by have := h.c; show e.cur ≤ _; omega)
  have n7 : (if v < 3 then 0 else clampI (look (fieldsE v e) 7 false).num) = e.tax := by
    by_cases hv : v < 3
    · rw [if_pos hv, h.t2 (by omega)]
    · rw [if_neg hv, nf 7 (by omega) (by omega) (by omega) (by omega) (by omega)]
      exact clamp_to h.t.1 (by have := h.t; show e.tax ≤ _; omega)
  have n9 : (if v < 5 then 0 else clampI (look (fieldsE v e) 9 false).num) = e.stamp := by
    by_cases hv : v < 5
    · rw [if_pos hv, h.s4 (by omega)]
    · rw [if_neg hv, nf 9 (by omega) (by omega) (by omega) (by omega) (by omega)]
      exact clamp_to h.s.1 h.s.2
  have n8 : (if v < 4 then ByteArray.empty else strD (look (fieldsE v e) 8 true).bytes) = e.who := by
    by_cases hv : v < 4
    · rw [if_pos hv, bytes_nil (h.u3 (by omega))]; rfl
    · rw [if_neg hv, look_txtF (l := e.who.data.toList) h1 h5 (by omega) (by omega) (by unfold fieldAt; rw [if_pos rfl]), strD_of]
  have n10 : (if v < 5 then ByteArray.empty else strD (look (fieldsE v e) 10 true).bytes) = e.note := by
    by_cases hv : v < 5
    · rw [if_pos hv, bytes_nil (h.n4 (by omega))]; rfl
    · rw [if_neg hv, look_txtF (l := e.note.data.toList) h1 h5 (by omega) (by omega) (by unfold fieldAt; rw [if_neg (by omega), if_pos rfl]), strD_of]
  unfold evOf
  rw [n1, n2, n3, n4, n5, n6, n7, n8, n9, n10]
/-- There and back. -/
theorem dec_back {v : Int} {e : Ev} (h : chk v e = 0) : sdecF v (encL v e) = (e, 0) ∧ (encL v e).length ≤ 1024 := by
  have r := right_of h
  have hl := rec_short v e (bd_of r)
  have he : encL v e = recF (fieldsE v e) := by unfold encL; rw [if_pos h]
  rw [he]
  refine ⟨?_, hl⟩
  have hv : ¬ (v < 1 ∨ 5 < v) := by have := r.v1; have := r.v5; omega
  obtain ⟨c1, c2⟩ := fields_clean (e := e) r.v1 r.v5
  have hb : badT (fieldsE v e) (seqV v) = 0 := by unfold badT; rw [c2]; rfl
  unfold sdecF
  rw [if_neg hv, decode_rec (fields_good r) hl]
  simp only
  rw [if_neg (by simp), c1, hb, if_neg (by decide), ev_fields r, h, if_neg (by simp)]
end Go.Proofs.Ytfiplongnnkhmaa
