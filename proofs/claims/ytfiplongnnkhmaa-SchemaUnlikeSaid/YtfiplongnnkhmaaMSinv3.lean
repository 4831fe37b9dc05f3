/-
  What is read is what would be written; unlike events have unlike packs: as data. No condition.
-/
import Derived.Test.YtfiplongnnkhmaaMSinv2
import Derived.Test.YtfiplongnnkhmaaMSunp
namespace Go.Proofs.Ytfiplongnnkhmaa
open Go.RowKit
set_option linter.unusedVariables false

theorem numAt_ev {v : Int} (h1 : 1 ≤ v) (h5 : v ≤ 5) (ds : List FD) {t : Nat} (ht : 1 ≤ t) (hh : (t : Int) ≤ hasV v) (n8 : t ≠ 8) (n10 : t ≠ 10) (n4 : ¬ (t = 4 ∧ v < 3)) : numAt (evOf v ds) t = clampI (look ds t false).num := by
  have hb := hasV_bd h1
  rw [evOf_nAt h1 h5]
  have key : nAt v ds t = clampI (look ds t false).num := by
    unfold nAt; rw [if_neg (by omega), if_neg n4]
  rw [← key]
  have hc : t = 1 ∨ t = 2 ∨ t = 3 ∨ t = 4 ∨ t = 5 ∨ t = 6 ∨ t = 7 ∨ t = 9 := by omega
  rcases hc with rfl | rfl | rfl | rfl | rfl | rfl | rfl | rfl <;> rfl
theorem num_small {v : Int} {e : Ev} (h : Right v e) (t : Nat) : numAt e t ≤ 1099511627776 := by
  have h9 : lastK v ≤ 10 := by unfold lastK; split <;> (try split) <;> (try split) <;> omega
  unfold numAt
  split
  · have := h.kl; omega
  · exact h.o.2
  · have := h.i; omega
  · have := h.q; omega
  · have := h.p; omega
  · have := h.c; omega
  · have := h.t; omega
  · exact h.s.2
  · decide
theorem clamp_of {n : Nat} (h : clampI n ≤ 1099511627776) : clampI n = (n : Int) := by unfold clampI at h ⊢; split at h <;> split <;> omega
theorem fields_back {v : Int} (h1 : 1 ≤ v) (h5 : v ≤ 5) {ds : List FD} (hg : GoodF ds) (hl : left ds (seqV v) = []) (hm : misT ds (seqV v) = false) (hc : chk v (evOf v ds) = 0) : fieldsE v (evOf v ds) = ds := by
  have hr := right_of hc
  have hb := hasV_bd h1
  have htag : ∀ d ∈ ds, (d.tag : Int) ≤ hasV v ∧ d.text = (d.tag == 8 || d.tag == 10) := by
    intro d hd
    have h11 := (hg.right d hd).1
    have a1 : inT (seqV v) d.tag = true := by
      have := List.filter_eq_nil_iff.1 hl d hd
      simpa using this
    rw [inT_seq h1 h5 h11, decide_eq_true_iff] at a1
    have a2 := (List.any_eq_false.1 hm) d hd
    rw [mis_seq h1 h5 h11, decide_eq_true a1] at a2
    refine ⟨a1, ?_⟩
    have a3 : (d.text != (d.tag == 8 || d.tag == 10)) = false := by simpa using a2
    exact bne_eq_false_iff_eq.1 a3
  refine rise_ext _ _ (fields_good hr).rise hg.rise fun t => ?_
  rw [fields_find h1 h5]
  by_cases ht : 1 ≤ t ∧ (t : Int) ≤ hasV v
  · rw [if_pos ht]
    obtain ⟨t1, th⟩ := ht
    cases hf : ds.find? (fun d => d.tag == t) with
    | none =>
      have lk : ∀ x, look ds t x = default := fun x => by unfold look; rw [hf]
      unfold fieldAt
      by_cases e8 : t = 8
      · subst e8
        rw [if_pos rfl]
        have : (evOf v ds).who = strD [] := by show (if v < 4 then _ else _) = _; rw [lk]; split <;> rfl
        rw [this]; rfl
      rw [if_neg e8]
      by_cases e10 : t = 10
      · subst e10
        rw [if_pos rfl]
        have : (evOf v ds).note = strD [] := by show (if v < 5 then _ else _) = _; rw [lk]; split <;> rfl
        rw [this]; rfl
      rw [if_neg e10]
      by_cases e4 : t = 4 ∧ v < 3
      · rw [if_pos e4]
        obtain ⟨e4, hv⟩ := e4
        subst e4
        have : (evOf v ds).qty = 0 := by show (if v < 3 then _ else _) = _; rw [if_pos hv, lk]; rfl
        rw [this]; rfl
      · rw [if_neg e4, numAt_ev h1 h5 ds t1 th e8 e10 e4, lk]; rfl
    | some d =>
      have hd := List.mem_of_find?_eq_some hf
      have hdt : d.tag = t := by have := List.find?_some hf; simpa using this
      obtain ⟨_, hx⟩ := htag d hd
      obtain ⟨r1, r2, r3, r4, r5, r6⟩ := hg.right d hd
      have lk : ∀ x, d.text = x → look ds t x = d := fun x hx => by unfold look; rw [hf]; simp only; rw [if_pos hx]
      obtain ⟨tt, x, u, D⟩ := d
      dsimp only at hdt hx r1 r2 r3 r4 r5 r6 lk
      subst hdt
      have nx : tt ≠ 8 → tt ≠ 10 → x = false := fun a b => by rw [hx]; simp [a, b]
      unfold fieldAt
      by_cases e8 : tt = 8
      · subst e8
        have hxt : x = true := by rw [hx]; rfl
        subst hxt
        obtain ⟨q1, q2⟩ := r5 rfl
        rw [if_pos rfl]
        have : (evOf v ds).who = strD D := by show (if v < 4 then _ else _) = _; rw [if_neg (by omega), lk true rfl]
        rw [this]
        unfold txtF
        rw [if_neg (show (strD D).data.toList ≠ [] from fun q => by have : D = [] := q; rw [this] at q1; simp at q1), q2]
        rfl
      rw [if_neg e8]
      by_cases e10 : tt = 10
      · subst e10
        have hxt : x = true := by rw [hx]; rfl
        subst hxt
        obtain ⟨q1, q2⟩ := r5 rfl
        rw [if_pos rfl]
        have : (evOf v ds).note = strD D := by show (if v < 5 then _ else _) = _; rw [if_neg (by omega), lk true rfl]
        rw [this]
        unfold txtF
        rw [if_neg (show (strD D).data.toList ≠ [] from fun q => by have : D = [] := q; rw [this] at q1; simp at q1), q2]
        rfl
      rw [if_neg e10]
      obtain rfl := nx e8 e10
      obtain ⟨q1, q2⟩ := r6 rfl
      subst q1
      by_cases e4 : tt = 4 ∧ v < 3
      · rw [if_pos e4]
        obtain ⟨e4, hv⟩ := e4
        subst e4
        have : (evOf v ds).qty = zagN (u : Int) := by show (if v < 3 then _ else _) = _; rw [if_pos hv, lk false rfl]
        rw [this, zig_zag _ (Int.natCast_nonneg _), Int.toNat_natCast]
        unfold numF
        rw [if_neg (by omega)]
        rfl
      · rw [if_neg e4]
        have hn := numAt_ev h1 h5 ds t1 th e8 e10 e4
        rw [lk false rfl] at hn
        have hs := num_small hr tt
        rw [hn] at hs
        rw [hn, clamp_of hs, Int.toNat_natCast]
        dsimp only
        unfold numF
        rw [if_neg (show ¬ u = 0 by omega)]
        rfl
  · rw [if_neg ht]
    symm
    rw [List.find?_eq_none]
    intro d hd
    have := htag d hd
    have := (hg.right d hd).1
    simp only [beq_iff_eq]
    omega
theorem errF_zero {ds : List FD} {bad : Nat} (h : errF ds bad = 0) : bad = 0 ∧ ds = [] := by
  unfold errF at h
  split at h
  · omega
  · rename_i hb
    split at h
    · cases h
    · rename_i hl
      exact ⟨by omega, List.eq_nil_of_length_eq_zero (by omega)⟩
/-- One form alone. -/
theorem dec_form {v : Int} {l : List UInt8} (h : (sdecF v l).2 = 0) : 1 ≤ v ∧ v ≤ 5 ∧ chk v (sdecF v l).1 = 0 ∧ encL v (sdecF v l).1 = l := by
  unfold sdecF at h ⊢
  by_cases hv : v < 1 ∨ 5 < v
  · rw [if_pos hv] at h; cases h
  rw [if_neg hv] at h ⊢
  obtain ⟨y, hy⟩ : ∃ y, decodeF l = y := ⟨_, rfl⟩
  obtain ⟨ds, q, e⟩ := y
  have hg := decodeF_right l
  rw [hy] at h hg ⊢
  simp only at h hg ⊢
  by_cases he : e = 0
  · subst he
    rw [if_neg (by simp)] at h ⊢
    have hs := decode_sound hy
    by_cases her : errF (left ds (seqV v)) (badT ds (seqV v)) = 0
    · rw [if_neg (by rw [her]; simp)] at h ⊢
      by_cases hc : chk v (evOf v ds) = 0
      · rw [if_neg (by rw [hc]; simp)]
        obtain ⟨g1, g2⟩ := errF_zero her
        have hm : misT ds (seqV v) = false := by
          unfold badT at g1
          split at g1
          · cases g1
          · rename_i hm; simpa using hm
        have hf := fields_back (by omega) (by omega) hg g2 hm hc
        refine ⟨by omega, by omega, hc, ?_⟩
        unfold encL
        rw [if_pos hc, hf]
        exact hs.symm
      · rw [if_pos hc] at h; exact absurd h hc
    · rw [if_pos her] at h; simp only at h; omega
  · rw [if_pos he] at h; simp only at h; omega
theorem dec_bad {v : Int} {l : List UInt8} (h : (sdecF v l).2 ≠ 0) : (sdecF v l).1 = default := by
  unfold sdecF at h ⊢
  split
  · rfl
  split
  · rfl
  split
  · rfl
  split
  · rfl
  · rename_i h1 h2 h3 h4
    rw [if_neg h1, if_neg h2, if_neg h3, if_neg h4] at h
    exact absurd rfl h
/-- A pack tells its version and its event. -/
theorem unp_pack {v : Int} {e : Ev} (h : chk v e = 0) : unpF (packL v e) = (v, e, 0) := by
  have r := right_of h
  have h1 := r.v1
  have h5 := r.v5
  have he : packL v e = enc v.toNat ++ encL v e := by unfold packL encL; rw [if_pos h, if_pos h]
  have hd := dec_of_enc v.toNat (encL v e) (by omega)
  obtain ⟨hb, _⟩ := dec_back h
  have hc : clampI v.toNat = v := by unfold clampI; rw [if_pos (by omega)]; omega
  unfold unpF
  rw [he, hd]
  simp only
  rw [List.drop_left, hc, hb]
  simp
theorem pack_one {v w : Int} {e f : Ev} (h1 : chk v e = 0) (h2 : chk w f = 0) (h : packL v e = packL w f) : v = w ∧ e = f := by
  have a := unp_pack h1
  rw [h, unp_pack h2] at a
  simp only [Prod.mk.injEq] at a
  exact ⟨a.1.symm, a.2.1.symm⟩
end Go.Proofs.Ytfiplongnnkhmaa
