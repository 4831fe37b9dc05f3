/-
  The walks of FrameOneForm, FrameBack and FrameBursts. Conditions: arguments read as their types say, within the form's own reach; the table of nibbles holds what the text lays.
-/
import Derived.Test.YtlhhbackaifohaaDoorFhead
import Derived.Test.YtlhhbackaifohaaDoorFburst
import Derived.Test.YtlhhbackaifohaaDoorCturnw
import Derived.Test.YtlhhbackaifohaaDoorAppW
namespace Go.Proofs.YtlhhbackaifohaaDoor
open Go.RowKit
set_option linter.unusedVariables false

theorem encF_of {k s : Nat} {body : List UInt8} (h1 : 1 ≤ k) (h2 : k ≤ 7) (h3 : s ≤ 1099511627776) (h4 : body.length ≤ 16384) : encF (k : Int) (s : Int) body = (frameF k s body, 0) := by
  unfold encF; rw [if_neg (by omega), if_neg (by omega)]; rfl

set_option maxHeartbeats 1600000 in
theorem foneform_walk (a : Option Addr) (n c : Nat) (l : List UInt8) (w : World) (r : RowAt w a n c 1 (l.map B)) (hs : n * 1 ≤ 140737488351232) (ht : Tab w) :
    Calls Tryd.prog 7 #[.slice a n c] w fun e w' => e = .returned (.bool true) ∧ Below w.heap.size w w' := by
  have hml : l.length = n := by simpa using r.len
  have HL := Lib.hid hml
  clear hml
  go_enter Tryd.func7, Tryd.ntmps7
  go_wp2_with fail
  (with_reducible refine (fhead_any _ ht).mono ?_)
  rintro e w1 ⟨rfl, hb1⟩
  have r1 := r.below hb1
  have t1 := ht.below hb1
  go_wp2_with fail
  (with_reducible refine (copy_any _ _ _ l _ (by omega) r1).mono ?_)
  rintro e w2 ⟨a2, c2, rfl, ho2, hb2⟩
  rw [HL.out] at ho2 ⊢
  have q2 := own_rowAt ho2
  have r2 := r1.below hb2
  have t2 := t1.below hb2
  have hb3 := below_next hb1 hb2
  clear ho2 hb1 hb2 r1 t1
  go_wp2_with fail
  (with_reducible refine (fdec_any _ _ _ l _ q2 t2).mono ?_)
  rintro e w3 ⟨a3, c3, rfl, ho3, hb4⟩
  have r3 := r2.below hb4
  have t3 := t2.below hb4
  have hb5 := below_next hb3 hb4
  clear hb3 hb4 r2 t2 q2
  obtain ⟨x, hx⟩ : ∃ x, decF l = x := ⟨_, rfl⟩
  obtain ⟨f, q, er⟩ := x
  have h1 := decF_err (l := l)
  rw [hx] at h1 ho3
  simp only [hx]
  simp only at h1 ho3 ⊢
  have hbm := below_made w3 (.cells #[.int .i64 (f.kind : Int), .int .i64 (f.seq : Int), .slice a3 f.body.length c3] 29)
  have hm := heap_alloc_new w3 (.cells #[.int .i64 (f.kind : Int), .int .i64 (f.seq : Int), .slice a3 f.body.length c3] 29)
  have hz : w3.heap.size < (w3.alloc (.cells #[.int .i64 (f.kind : Int), .int .i64 (f.seq : Int), .slice a3 f.body.length c3] 29)).heap.size := by simp
  have r4 := r3.below hbm
  have t4 := t3.below hbm
  have q4 := (own_rowAt ho3).below hbm
  have hb6 := below_next hb5 hbm
  clear r3 t3 ho3 hb5
  by_cases he : er = 0
  · subst he
    obtain ⟨k1, k2, k3, k4, k5, k6, k7, k8⟩ := decF_one hx
    have HE := Lib.hid (encF_of k1 k2 k3 k4)
    have HT := Lib.hid k7
    have HP := Lib.hid k8
    have hlf : (frameF f.kind f.seq f.body).length = q := by rw [frameF_len]; omega
    have HF := Lib.hid hlf
    have hbl : f.body.length ≤ 16384 := k4
    have q20 : ¬ (q : Int) < 20 := by omega
    have qn : ¬ (n : Int) < (q : Int) := by have := HL.out; omega
    obtain ⟨bl, hbl'⟩ : ∃ bl, f.body.length = bl := ⟨_, rfl⟩
    have HBL := Lib.hid hbl'
    rw [hbl'] at hm hbm hz q4 r4 t4 hb6 ⊢
    clear hx h1 k5 k7 k8 hlf hbl' hbl k4
    have L := laid3 hm
    obtain ⟨c0, c1, c2, _, _, _⟩ := L
    go_wp2_with fail
    (with_reducible refine (fenc_any _ _ _ _ _ f.body _ q4 t4).mono ?_)
    rintro e w5 ⟨a5, c5, rfl, ho5, hb7⟩
    rw [HE.out] at ho5 ⊢
    simp only at ho5 ⊢
    rw [HF.out] at ho5 ⊢
    have r5 := r4.below hb7
    have t5 := t4.below hb7
    have m5 := (hb7.block _ hz).trans hm
    have q5 := own_rowAt ho5
    have hz5 : w3.heap.size < w5.heap.size := by have := hb7.size; omega
    have hb8 := below_next hb6 hb7
    clear ho5 hb6 hb7 r4 t4 q4 hm c0 c1 c2
    go_wp2_with fail
    (with_reducible refine (peek_any _ _ _ l _ r5 t5).mono ?_)
    rintro e w6 ⟨rfl, hb9⟩
    have hpv : peekV l = .tuple #[.int .i64 (f.kind : Int), .int .i64 (f.seq : Int), .int .i64 (q : Int), .int .i64 0] := by unfold peekV; rw [HP.out]; rfl
    rw [hpv]
    have r6 := r5.below hb9
    have m6 := (hb9.block _ hz5).trans m5
    have q6 := q5.below hb9
    have hb10 := below_next hb8 hb9
    obtain ⟨c0, c1, c2, _, _, _⟩ := laid3 m6
    have rq := rowB_upto r6 (show q ≤ n by have := HL.out; omega)
    have hcut : ∀ wx, (Instr.slice 22 (.slice a n c) none (some (.int .i64 (q : Int))) none).run Tryd.prog wx = .ok (.slice a q c) wx := fun wx => run_cut0 slB wx q (by have := HL.out; have := r.2.1; omega)
    have hz6 : w3.heap.size < w6.heap.size := by have := hb9.size; omega
    clear hpv r5 t5 q5 m5 hb8 hb9
    go_wp2_with fail
    (with_reducible refine (same_any _ _ _ (frameF f.kind f.seq f.body) _ _ _ (l.take q) _ q6 rq).mono ?_)
    rintro e w7 ⟨rfl, hst⟩
    rw [HT.out, beq_self_eq_true]
    have m7 : w7.heap[w3.heap.size]? = some (.cells #[.int .i64 (f.kind : Int), .int .i64 (f.seq : Int), .slice a3 bl c3] 29) := by rw [hst.heap]; exact m6
    obtain ⟨c0, c1, c2, _, _, _⟩ := laid3 m7
    have hb11 := below_still hb10 hst
    clear m6 hb10 hst q6 rq r6
    go_wp2_with fail
    go_ret
    exact ⟨rfl, hb11⟩
  · obtain ⟨rfl, rfl⟩ := h1 he
    have heb : ((er : Int) != 0) = true := by rw [bne_iff_ne]; omega
    go_wp2_with fail
    go_ret
    exact ⟨rfl, hb6⟩

set_option maxRecDepth 20000 in
set_option maxHeartbeats 3200000 in
theorem fbursts_walk (kind seq : Int) (a : Option Addr) (n c : Nat) (l : List UInt8) (t p : Int) (w : World) (k0 : -9223372036854775808 ≤ kind) (k1 : kind ≤ 9223372036854775807) (s0 : -9223372036854775808 ≤ seq) (s1 : seq ≤ 9223372036854775807) (r : RowAt w a n c 1 (l.map B)) (hs : n * 1 ≤ 140737488351232)
    (t0 : -9223372036854775808 ≤ t) (t1 : t ≤ 9223372036854775807) (p0 : 0 ≤ p) (p1 : p < 4294967296) (ht : Tab w) :
    Calls Tryd.prog 6 #[.int .i64 kind, .int .i64 seq, .slice a n c, .int .i64 t, .int .u32 p] w fun e w' => e = .returned (.bool true) ∧ Below w.heap.size w w' := by
  have hml : l.length = n := by simpa using r.len
  have HL := Lib.hid hml
  clear hml
  go_enter Tryd.func6, Tryd.ntmps6
  go_wp2_with fail
  (with_reducible refine (fhead_any _ ht).mono ?_)
  rintro e w1 ⟨rfl, hb1⟩
  have r1 := r.below hb1
  have t1' := ht.below hb1
  go_wp2_with fail
  (with_reducible refine (copy_any _ _ _ l _ (by omega) r1).mono ?_)
  rintro e w2 ⟨a2, c2, rfl, ho2, hb2⟩
  rw [HL.out] at ho2 ⊢
  have q2 := own_rowAt ho2
  have t2 := t1'.below hb2
  have hb3 := below_next hb1 hb2
  clear ho2 hb1 hb2 r1 t1'
  go_wp2_with fail
  (with_reducible refine (fenc_any kind seq _ _ _ l _ q2 t2).mono ?_)
  rintro e w3 ⟨a3, c3, rfl, ho3, hb4⟩
  have t3 := t2.below hb4
  have hb5 := below_next hb3 hb4
  have q3 := own_rowAt ho3
  clear hb3 hb4 t2 q2 ho3
  by_cases hok : (encF kind seq l).2 = 0
  · obtain ⟨kd, sq, rfl, rfl, g1, g2, g3, g4, g5⟩ := encF_ok hok
    have HLN := Lib.hid (frameF_len kd sq l)
    have hN : (frameF kd sq l).length = n + 20 := by rw [HLN.out, HL.out]
    have hn4 : n ≤ 16384 := by have := HL.out; omega
    rw [g5] at q3 ⊢
    simp only at q3 ⊢
    rw [hN] at q3 ⊢
    have HN := Lib.hid hN
    clear hok g5 hN
    by_cases hat : 0 ≤ t ∧ t < 8 * ((n : Int) + 20)
    · obtain ⟨h0, h1⟩ := hat
      obtain ⟨tn, htn⟩ := Int.eq_ofNat_of_zero_le h0
      obtain ⟨pn, hpn⟩ := Int.eq_ofNat_of_zero_le p0
      subst htn hpn
      have hpn : pn < 4294967296 := by omega
      have htn8 : tn ≤ 8 * (frameF kd sq l).length := by rw [HN.out]; omega
      obtain ⟨q, hq1, hq2⟩ := turn_is (frameF kd sq l) tn pn htn8 hpn
      have htl := turn_length (frameF kd sq l) tn pn 32
      have hdec : turn (frameF kd sq l) tn pn 32 ≠ frameF kd sq l → decF (turn (frameF kd sq l) tn pn 32) = (Fr.none, 0, 61) ∨ decF (turn (frameF kd sq l) tn pn 32) = (Fr.none, 0, 62) := fun hne => by
        have := decF_turned g1 g2 g4 g3 (turn (frameF kd sq l) tn pn 32) [] tn q hq1 htl htn8 hq2 hne
        rwa [List.append_nil] at this
      have hsame : decF (frameF kd sq l) = (⟨kd, sq, l⟩, 20 + n, 0) := by
        have := decF_laid g1 g2 g4 g3 []
        rw [List.append_nil, HL.out] at this; exact this
      rw [HN.out] at htl
      have HDEC := Lib.hid hdec
      have HSAME := Lib.hid hsame
      have HTL := Lib.hid htl
      clear hdec hsame htl hq1 hq2 htn8 h0 p0 p1 t0 t1
      obtain ⟨D, hD⟩ : ∃ D, frameF kd sq l = D := ⟨_, rfl⟩
      rw [hD] at q3 HN HDEC HSAME HTL
      clear hD HLN
      have htb : tn ≤ 1152921504606846976 := by omega
      have HTB := Lib.hid htb
      have HPN := Lib.hid hpn
      clear htb hpn
      go_wp2_with fail
      (with_reducible refine (turn_any _ _ _ D tn pn _ (by omega) HTB.out HPN.out q3).mono ?_)
      rintro e w4 ⟨a4, c4, rfl, ho4, hb6⟩
      rw [HTL.out] at ho4 ⊢
      obtain ⟨T, hT⟩ : ∃ T, turn D tn pn 32 = T := ⟨_, rfl⟩
      rw [hT] at ho4 HDEC
      clear hT
      have q4 := own_rowAt ho4
      have d4 := q3.below hb6
      have t4 := t3.below hb6
      have hb7 := below_next hb5 hb6
      clear hb5 hb6 q3 t3 ho4
      go_wp2_with fail
      (with_reducible refine (fdec_any _ _ _ T _ q4 t4).mono ?_)
      rintro e w5 ⟨a5, c5, rfl, ho5, hb8⟩
      have q5 := q4.below hb8
      have d5 := d4.below hb8
      have hb9 := below_next hb7 hb8
      clear hb7 hb8 q4 d4 t4 ho5
      by_cases hTD : T = D
      · subst hTD
        rw [HSAME.out]
        simp only
        have hbm := below_made w5 (.cells #[.int .i64 (kd : Int), .int .i64 (sq : Int), .slice a5 l.length c5] 29)
        have q6 := q5.below hbm
        have d6 := d5.below hbm
        have hb10 := below_next hb9 hbm
        clear hbm q5 d5 hb9
        have e20 : (20 : Int) + (n : Int) = (n : Int) + 20 := by omega
        go_wp2_with fail
        (with_reducible refine (same_any _ _ _ T _ _ _ T _ q6 d6).mono ?_)
        rintro e w7 ⟨rfl, hst⟩
        rw [beq_self_eq_true]
        go_wp2_with fail
        go_ret
        exact ⟨ret_bool (by simp), below_still hb10 hst⟩
      · have HD2 := Lib.hid (HDEC.out hTD)
        have hbe : (T == D) = false := by rw [beq_eq_false_iff_ne]; exact hTD
        have HBE := Lib.hid hbe
        clear hTD hbe
        rcases HD2.out with h61 | h61
        all_goals
          rw [h61]
          simp only [Fr.none, List.length_nil]
          have hbm := below_made w5 (.cells #[.int .i64 0, .int .i64 0, .slice a5 0 c5] 29)
          have q6 := q5.below hbm
          have d6 := d5.below hbm
          have hb10 := below_next hb9 hbm
          clear hbm q5 d5 hb9 h61
          go_wp2_with fail
          (with_reducible refine (same_any _ _ _ T _ _ _ D _ q6 d6).mono ?_)
          rintro e w7 ⟨rfl, hst⟩
          rw [HBE.out]
          go_wp2_with fail
          go_ret
          exact ⟨rfl, below_still hb10 hst⟩
    · by_cases hneg : t < 0
      · clear hat
        go_wp2_with fail
        go_ret
        exact ⟨rfl, hb5⟩
      · have hge : 8 * ((n : Int) + 20) ≤ t := by omega
        clear hat
        go_wp2_with fail
        go_ret
        exact ⟨rfl, hb5⟩
  · have heb : (((encF kind seq l).2 : Int) != 0) = true := by rw [bne_iff_ne]; omega
    obtain ⟨z, hz⟩ : ∃ z, encF kind seq l = z := ⟨_, rfl⟩
    rw [hz] at heb ⊢
    clear hok hz
    go_wp2_with fail
    go_ret
    exact ⟨rfl, hb5⟩

set_option maxRecDepth 20000 in
set_option maxHeartbeats 3200000 in
theorem fback_walk (kind seq : Int) (a : Option Addr) (n c : Nat) (l : List UInt8) (a' : Option Addr) (n' c' : Nat) (m : List UInt8) (t : Int) (w : World) (k0 : -9223372036854775808 ≤ kind) (k1 : kind ≤ 9223372036854775807) (s0 : -9223372036854775808 ≤ seq) (s1 : seq ≤ 9223372036854775807) (r : RowAt w a n c 1 (l.map B)) (hs : n * 1 ≤ 140737488351232)
    (r' : RowAt w a' n' c' 1 (m.map B)) (hs' : n' * 1 ≤ 140737488351232) (t0 : -9223372036854775808 ≤ t) (t1 : t ≤ 9223372036854775807) (ht : Tab w) :
    Calls Tryd.prog 5 #[.int .i64 kind, .int .i64 seq, .slice a n c, .slice a' n' c', .int .i64 t] w fun e w' => e = .returned (.bool true) ∧ Below w.heap.size w w' := by
  have hml : l.length = n := by simpa using r.len
  have HL := Lib.hid hml
  have hml' : m.length = n' := by simpa using r'.len
  have HL' := Lib.hid hml'
  clear hml hml'
  go_enter Tryd.func5, Tryd.ntmps5
  go_wp2_with fail
  (with_reducible refine (fhead_any _ ht).mono ?_)
  rintro e w1 ⟨rfl, hb1⟩
  have r1 := r.below hb1
  have p1 := r'.below hb1
  have t1' := ht.below hb1
  go_wp2_with fail
  (with_reducible refine (copy_any _ _ _ l _ (by omega) r1).mono ?_)
  rintro e w2 ⟨a2, c2, rfl, ho2, hb2⟩
  rw [HL.out] at ho2 ⊢
  have hbm := below_made w2 (.cells #[.int .i64 kind, .int .i64 seq, .slice a2 n c2] 29)
  have hm := heap_alloc_new w2 (.cells #[.int .i64 kind, .int .i64 seq, .slice a2 n c2] 29)
  have hz : w2.heap.size < (w2.alloc (.cells #[.int .i64 kind, .int .i64 seq, .slice a2 n c2] 29)).heap.size := by simp
  have q2 := (own_rowAt ho2).below hbm
  have p2 := (p1.below hb2).below hbm
  have t2 := (t1'.below hb2).below hbm
  have hb3 := below_next (below_next hb1 hb2) hbm
  clear ho2 hb1 hb2 r1 t1' p1 hbm
  go_wp2_with fail
  (with_reducible refine (fenc_any kind seq _ _ _ l _ q2 t2).mono ?_)
  rintro e w3 ⟨a3, c3, rfl, ho3, hb4⟩
  have t3 := t2.below hb4
  have p3 := p2.below hb4
  have l3 := q2.below hb4
  have m3 := (hb4.block _ hz).trans hm
  have hz3 : w2.heap.size < w3.heap.size := by have := hb4.size; omega
  have hb5 := below_next hb3 hb4
  have q3 := own_rowAt ho3
  clear hb3 hb4 t2 q2 ho3 p2 hm
  by_cases hok : (encF kind seq l).2 = 0
  · obtain ⟨kd, sq, rfl, rfl, g1, g2, g3, g4, g5⟩ := encF_ok hok
    have hN : (frameF kd sq l).length = n + 20 := by rw [frameF_len, HL.out]
    have hn4 : n ≤ 16384 := by have := HL.out; omega
    rw [g5] at q3 ⊢
    simp only at q3 ⊢
    rw [hN] at q3 ⊢
    have HN := Lib.hid hN
    have hd1 : decF (frameF kd sq l ++ m) = (⟨kd, sq, l⟩, n + 20, 0) := by
      have := decF_laid g1 g2 g4 g3 m
      rw [HL.out, Nat.add_comm] at this; exact this
    have HD1 := Lib.hid hd1
    have HD2 := Lib.hid (fun (k : Nat) (hk : k < 20 + l.length) => decF_torn g1 g2 g4 g3 k hk)
    obtain ⟨D, hD⟩ : ∃ D, frameF kd sq l = D := ⟨_, rfl⟩
    rw [hD] at q3 HN HD1 HD2
    have b1 : (1 : Int) ≤ (kd : Int) := by omega
    have b2 : (kd : Int) ≤ 7 := by omega
    have b3 : 0 ≤ (sq : Int) := by omega
    have b4 : (sq : Int) ≤ 1099511627776 := by omega
    have b5 : (n : Int) ≤ 16384 := by omega
    clear hok g5 hN hD hd1 g1 g2 g3 g4
    go_wp2_with fail
    (with_reducible refine (copy_any _ _ _ D _ (by omega) q3).mono ?_)
    rintro e w4 ⟨a4, c4, rfl, ho4, hb6⟩
    rw [HN.out] at ho4 ⊢
    have t4 := t3.below hb6
    have p4 := p3.below hb6
    have l4 := l3.below hb6
    have d4 := q3.below hb6
    have m4 := (hb6.block _ hz3).trans m3
    have hz4 : w2.heap.size < w4.heap.size := by have := hb6.size; omega
    have hb7 := below_next hb5 hb6
    have hsz7 := hb7.size
    have hs6 := hb6.size
    have hs5 := hb5.size
    go_wp2_with (at_builtin; refine wpList_appW rfl _ _ 22 rfl slB rfl ho4 rfl p4 (B_one _) (by omega) (by omega) fun a5 c5 w5 ho5 hg5 => ?_; rw [← List.map_append] at ho5; have hb8 : Below w3.heap.size w3 w5 := hb6.grown hg5 hs6 (fun j hj => (ho4.lt j hj).1); have q5 := own_rowAt ho5; have t5 := t3.below hb8)
    have d5 := q3.below hb8
    have l5 := l3.below hb8
    have m5 := (hb8.block _ hz3).trans m3
    have hz5 : w2.heap.size < w5.heap.size := by have := hb8.size; omega
    have hb9 := below_next hb5 hb8
    clear hb5 hb6 hb7 hb8 hg5 ho4 ho5 t3 t4 p3 p4 l3 l4 d4 q3 m3 m4 hz4
    (with_reducible refine (fdec_any _ _ _ (D ++ m) _ q5 t5).mono ?_)
    rintro e w6 ⟨a6, c6, rfl, ho6, hb10⟩
    rw [HD1.out] at ho6 ⊢
    simp only at ho6 ⊢
    rw [HL.out] at ho6 ⊢
    have d6 := d5.below hb10
    have l6 := l5.below hb10
    have t6 := t5.below hb10
    have m6 := (hb10.block _ hz5).trans m5
    have hz6 : w2.heap.size < w6.heap.size := by have := hb10.size; omega
    have hb11 := below_next hb9 hb10
    have hbg := below_made w6 (.cells #[.int .i64 (kd : Int), .int .i64 (sq : Int), .slice a6 n c6] 29)
    have hg := heap_alloc_new w6 (.cells #[.int .i64 (kd : Int), .int .i64 (sq : Int), .slice a6 n c6] 29)
    have hzg : w6.heap.size < (w6.alloc (.cells #[.int .i64 (kd : Int), .int .i64 (sq : Int), .slice a6 n c6] 29)).heap.size := by simp
    have d7 := d6.below hbg
    have l7 := l6.below hbg
    have g7 := (own_rowAt ho6).below hbg
    have t7 := t6.below hbg
    have m7 := (hbg.block _ hz6).trans m6
    have hb12 := below_next hb11 hbg
    obtain ⟨x0, x1, x2, _, _, _⟩ := laid3 m7
    obtain ⟨y0, y1, y2, _, _, _⟩ := laid3 hg
    clear d5 l5 t5 m5 hb9 hb10 d6 l6 t6 m6 hb11 ho6 hbg q5 hz5
    have e20 : (20 : Int) + (n : Int) = (n : Int) + 20 := by omega
    go_wp2_with fail
    (with_reducible refine (fsize_in (n : Int) _ (by omega) (by omega)).mono ?_)
    rintro e w8 ⟨rfl, rfl⟩
    go_wp2_with fail
    (with_reducible refine (fsame_any (kd : Int) (sq : Int) _ _ _ l (kd : Int) (sq : Int) _ _ _ l _ l7 g7).mono ?_)
    rintro e w8 ⟨rfl, hb13⟩
    rw [frEq_refl]
    have d8 := d7.below hb13
    have t8 := t7.below hb13
    have hb14 := below_next hb12 hb13
    clear d7 l7 g7 t7 m7 hg x0 x1 x2 y0 y1 y2 hb12 hb13
    obtain ⟨sh, hsh1, hsh2⟩ : ∃ sh : Nat, sh < n + 20 ∧ ((0 ≤ t ∧ t < (n : Int) + 20) → t = (sh : Int)) ∧ (¬ (0 ≤ t ∧ t < (n : Int) + 20) → (n : Int) + 20 - 1 = (sh : Int)) := by
      by_cases hc : 0 ≤ t ∧ t < (n : Int) + 20
      · exact ⟨t.toNat, by omega, by omega, by omega⟩
      · exact ⟨n + 19, by omega, by omega, by omega⟩
    have HS2 := Lib.hid hsh2
    have hcut : ∀ wx, (Instr.slice 22 (.slice a3 (n + 20) c3) none (some (.int .i64 (sh : Int))) none).run Tryd.prog wx = .ok (.slice a3 sh c3) wx := fun wx => run_cut0 slB wx sh (by have := d8.2.1; omega)
    have dsh := rowB_upto d8 (show sh ≤ n + 20 by omega)
    have hto : decF (D.take sh) = (Fr.none, 0, 60) := HD2.out sh (by have := HL.out; omega)
    have HTO := Lib.hid hto
    clear hto hsh2
    by_cases hc : 0 ≤ t ∧ t < (n : Int) + 20
    · obtain ⟨v1, v2⟩ := hc
      have htt := HS2.out.1 ⟨v1, v2⟩
      subst htt
      go_wp2_with fail
      (with_reducible refine (fdec_any _ _ _ (D.take sh) _ dsh t8).mono ?_)
      rintro e w9 ⟨a9, c9, rfl, ho9, hb15⟩
      rw [HTO.out]
      have hbz := below_made w9 (.cells #[.int .i64 0, .int .i64 0, .slice a9 0 c9] 29)
      simp only [Fr.none, List.length_nil]
      go_wp2_with fail
      go_ret
      exact ⟨rfl, below_next (below_next hb14 hb15) hbz⟩
    · have htt := HS2.out.2 hc
      have hor : t < 0 ∨ ¬ t < 0 ∧ (n : Int) + 20 ≤ t := by omega
      clear hc
      rcases hor with v1 | ⟨v1, v2⟩
      all_goals
        go_wp2_with fail
        (with_reducible refine (fdec_any _ _ _ (D.take sh) _ dsh t8).mono ?_)
        rintro e w9 ⟨a9, c9, rfl, ho9, hb15⟩
        rw [HTO.out]
        have hbz := below_made w9 (.cells #[.int .i64 0, .int .i64 0, .slice a9 0 c9] 29)
        simp only [Fr.none, List.length_nil]
        go_wp2_with fail
        go_ret
        exact ⟨rfl, below_next (below_next hb14 hb15) hbz⟩
  · have hbad : (kind < 1 ∧ encF kind seq l = ([], 63)) ∨ (¬ kind < 1 ∧ 7 < kind ∧ encF kind seq l = ([], 63)) ∨ (¬ kind < 1 ∧ ¬ 7 < kind ∧ seq < 0 ∧ encF kind seq l = ([], 63)) ∨ (¬ kind < 1 ∧ ¬ 7 < kind ∧ ¬ seq < 0 ∧ 1099511627776 < seq ∧ encF kind seq l = ([], 63)) ∨
        (¬ kind < 1 ∧ ¬ 7 < kind ∧ ¬ seq < 0 ∧ ¬ 1099511627776 < seq ∧ (16384 : Int) < (n : Int) ∧ encF kind seq l = ([], 24)) := by
      unfold encF at hok ⊢
      by_cases c0 : kind < 1 ∨ 7 < kind ∨ seq < 0 ∨ 1099511627776 < seq
      · rw [if_pos c0]
        by_cases d1 : kind < 1
        · exact .inl ⟨d1, rfl⟩
        · by_cases d2 : 7 < kind
          · exact .inr (.inl ⟨d1, d2, rfl⟩)
          · by_cases d3 : seq < 0
            · exact .inr (.inr (.inl ⟨d1, d2, d3, rfl⟩))
            · exact .inr (.inr (.inr (.inl ⟨d1, d2, d3, by omega, rfl⟩)))
      · rw [if_neg c0] at hok ⊢
        by_cases c1 : 16384 < l.length
        · rw [if_pos c1]
          have := HL.out
          right; right; right; right
          exact ⟨by omega, by omega, by omega, by omega, by omega, rfl⟩
        · rw [if_neg c1] at hok; exact absurd rfl hok
    clear hok
    rcases hbad with ⟨v1, hE⟩ | ⟨v1, v2, hE⟩ | ⟨v1, v2, v3, hE⟩ | ⟨v1, v2, v3, v4, hE⟩ | ⟨v1, v2, v3, v4, v5, hE⟩
    rotate_left 4
    · have v6 : decide ((n : Int) ≤ 16384) = false := by simpa using v5
      rw [hE]
      simp only [List.length_nil]
      clear hE
      obtain ⟨x0, x1, x2, _, _, _⟩ := laid3 m3
      go_wp2_with fail
      go_ret
      exact ⟨rfl, hb5⟩
    all_goals
      rw [hE]
      simp only [List.length_nil]
      clear hE
      obtain ⟨x0, x1, x2, _, _, _⟩ := laid3 m3
      go_wp2_with fail
      go_ret
      exact ⟨rfl, hb5⟩
end Go.Proofs.YtlhhbackaifohaaDoor
