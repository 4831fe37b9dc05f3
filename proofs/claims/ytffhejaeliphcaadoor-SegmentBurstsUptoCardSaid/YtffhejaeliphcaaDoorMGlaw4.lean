/-
  The walk of SegmentBursts. Conditions: the bodies read as slices of bytes, within the statement's own bound; the program's table of nibbles holds what its text lays.
-/
import Derived.Test.YtffhejaeliphcaaDoorMGt
import Derived.Test.YtffhejaeliphcaaDoorMGb
import Derived.Test.YtffhejaeliphcaaDoorMCturnw
import Derived.Test.YtffhejaeliphcaaDoorMGlaw3
import Derived.Test.YtffhejaeliphcaaDoorMFs
import Derived.BigQuiet
import Derived.Deep.QuietTactic
namespace Go.Proofs.YtffhejaeliphcaaDoor
open Go.RowKit
set_option linter.unusedVariables false

theorem evs_body {first : Nat} : ∀ (ls : List (List UInt8)) (i j : Nat) (g : Fr), (evsN (first + i) ls)[j]? = some g → ls[j]? = some g.body
  | [], i, j, g, h => by simp [evsN] at h
  | b :: r, i, 0, g, h => by
    rw [evsN] at h
    simp at h
    subst h
    rfl
  | b :: r, i, j + 1, g, h => by
    rw [evsN, List.getElem?_cons_succ, Nat.add_assoc] at h
    exact evs_body r (i + 1) j g h
theorem burst_same {first d k : Nat} {bs : List Bs} {xs : List It} (hq : xs.map It.q = (pcsN 0 (evsN first ((bs.map Bs.l).take k))).map (Pc.move d)) {j : Nat} {x : It} {z : Bs} (hj : j < k) (hx : xs[j]? = some x) (hz : bs[j]? = some z) : z.l = x.q.f.body := by
  have h1 : (xs.map It.q)[j]? = some x.q := by rw [List.getElem?_map, hx]; rfl
  rw [hq, List.getElem?_map, Option.map_eq_some_iff] at h1
  obtain ⟨p, hp, hpq⟩ := h1
  have h2 : ((pcsN 0 (evsN first ((bs.map Bs.l).take k))).map Pc.f)[j]? = some p.f := by rw [List.getElem?_map, hp]; rfl
  rw [pcsN_f] at h2
  have h3 := evs_body (first := first) ((bs.map Bs.l).take k) 0 j p.f h2
  rw [List.getElem?_take, if_pos hj, List.getElem?_map, hz] at h3
  rw [← hpq]
  exact Option.some.inj h3

set_option maxRecDepth 8000 in
set_option maxHeartbeats 6400000 in
theorem gbursts_walk (num first : Int) (v : Value) (bs : List Bs) (stride t p : Int) (w : World) (i0 : -9223372036854775808 ≤ num) (i1 : num ≤ 9223372036854775807) (j0 : -9223372036854775808 ≤ first) (j1 : first ≤ 9223372036854775807) (hv : BssArg w v bs)
    (s0 : -9223372036854775808 ≤ stride) (s1 : stride ≤ 9223372036854775807) (t0 : -9223372036854775808 ≤ t) (t1 : t ≤ 9223372036854775807) (p0 : 0 ≤ p) (p1 : p < 4294967296) (ht : Tab w) :
    Calls Tryd.prog 6 #[.int .i64 num, .int .i64 first, v, .int .i64 stride, .int .i64 t, .int .u32 p] w fun e w' => e = .returned (.bool true) ∧ Below w.heap.size w w' := by
  obtain ⟨⟨a, n, c, rfl, hn, r⟩⟩ := hv
  have hl := r.len
  have HL := Lib.hid hl
  clear hl i0 i1 j0 j1
  go_enter Tryd.func6, Tryd.ntmps6
  go_wp2_with fail
  (with_reducible refine (hhead_any _ ht).mono ?_)
  rintro e w1 ⟨rfl, hb1⟩
  have r1 := r.below hb1
  have t1' := ht.below hb1
  go_wp2_with fail
  (with_reducible refine (few_any num first a n c bs _ r1).mono ?_)
  rintro e w2 ⟨rfl, rfl⟩
  cases hfw : fewB num first bs with
  | false =>
    go_wp2_with fail
    go_ret
    exact ⟨rfl, hb1⟩
  | true =>
    obtain ⟨x, y, rfl, rfl, hf⟩ := few_facts hfw HL.out
    have hlb := bss_len r1 hf.bd
    have HF := Lib.hid hf
    obtain ⟨f1, f2, f3, f4, f5, f6, -⟩ := hf
    clear hfw
    by_cases hst1 : stride < 1
    · go_wp2_with fail
      go_ret
      exact ⟨rfl, hb1⟩
    by_cases hst2 : 64 < stride
    · go_wp2_with fail
      go_ret
      exact ⟨rfl, hb1⟩
    obtain ⟨s, rfl⟩ : ∃ s : Nat, stride = (s : Int) := ⟨stride.toNat, by omega⟩
    have hs1 : 1 ≤ s := by omega
    have hs2 : s ≤ 64 := by omega
    clear s0 s1
    go_wp2_with fail
    (with_reducible refine (glaid_any x y a n c bs _ HF.out r1 t1').mono ?_)
    rintro e w3 ⟨ab, cb, ae, ce, rfl, hob, hoe, hb3⟩
    have t3 := t1'.below hb3
    have r3 := r1.below hb3
    have hc3 := below_next hb1 hb3
    have hob := own_mono hob hb1.size
    have hoe := own_mono hoe hb1.size
    clear hb1 hb3 r1 t1'
    obtain ⟨ls, hls⟩ : ∃ ls, bs.map Bs.l = ls := ⟨_, rfl⟩
    rw [hls] at hlb hob hoe ⊢
    have HLS := Lib.hid hls
    have hll : ls.length = n := by rw [← hls, List.length_map, HL.out]
    have hbd := segL_bound (num := x) (first := y) (ls := ls) f2 f4 (by omega) hlb
    have hsf := seal_foot (t := s) f1 f2 f3 f4 (by omega) (by omega) hlb hs1 hs2
    have hla := sealFs_lay x y ls s
    have hlow : ∀ k, k ≤ n + 2 → (lowsN x y ls s)[k]? = some (layN ((sealFs x y ls s).take k)).length := fun k hk => lowsN_at (by omega)
    have hlowl := lowsN_len x y ls s
    rw [hll] at hlowl
    have hfr := foot_right (first := y) (t := s) (ls := ls) f2 f4 (by omega) hs2
    have hfl := (footFr x y ls s).bytes_len
    have hfb : (footFr x y ls s).bytes.length ≤ 16404 := by have := hfr.2.2.1; omega
    have hlw : lowsN x y ls s = [0, (hdrFr x y).bytes.length] ++ endsS x y ls ++ [(layN (sealFs x y ls s)).length] := rfl
    have hP : hdrP (x : Int) (y : Int) = ((hdrFr x y).bytes, 0) := by
      rw [hdrP_yes ((rightB_iff _ _).2 ⟨by omega, by omega, by omega, by omega⟩)]
      rfl
    have hhw := header_any (x : Int) (y : Int) w3 t3
    rw [hP] at hhw
    unfold GivesE at hhw
    simp only at hhw
    have hbu := fun i t p hi hp ht hne => seal_burst (s := s) (i := i) (t := t) (p := p) f1 f2 f3 f4 (by omega) hlb hs2 hi hp ht hne
    obtain ⟨F, hF⟩ : ∃ F, (footFr x y ls s).bytes = F := ⟨_, rfl⟩
    rw [hF] at hsf hla hfl hfb
    obtain ⟨gs, hgs⟩ : ∃ gs, sealFs x y ls s = gs := ⟨_, rfl⟩
    rw [hgs] at hla hlow hlw
    obtain ⟨lw, hlwe⟩ : ∃ lw, lowsN x y ls s = lw := ⟨_, rfl⟩
    rw [hlwe] at hlow hlowl hlw
    obtain ⟨L, hL⟩ : ∃ L, segL x y ls = L := ⟨_, rfl⟩
    obtain ⟨N, hN⟩ : ∃ N, L.length = N := ⟨_, rfl⟩
    obtain ⟨hd, hhd⟩ : ∃ hd, (hdrFr x y).bytes.length = hd := ⟨_, rfl⟩
    obtain ⟨Fl, hFl⟩ : ∃ Fl, F.length = Fl := ⟨_, rfl⟩
    rw [hL] at hob hbd hla hsf ⊢
    rw [hN] at hob hbd ⊢
    rw [hhd] at hbd hhw hlw
    rw [hFl] at hfb
    have hgl : (layN gs).length = N + Fl := by rw [hla, List.length_append, hN, hFl]
    rw [hgl] at hlw
    have hN40 : N ≤ 8398888 := hbd.1
    have HBU := Lib.hid hbu
    have HLW := Lib.hid hlow
    have HLWE := Lib.hid hlw
    have HLA := Lib.hid hla
    have HGS := Lib.hid hgs
    have HLWL := Lib.hid hlowl
    have HGL := Lib.hid hgl
    have HLL := Lib.hid hll
    have HHW := Lib.hid hhw
    have HSF := Lib.hid hsf
    have HFL := Lib.hid hFl
    have HNL := Lib.hid hN
    clear hbu hlow hlw hla hgs hlowl hgl hll hhw hsf hL hN hhd hFl hF hlwe hfl hfr hP hbd hls hlb
    go_wp2_with fail
    (with_reducible refine (HHW.out).mono ?_)
    rintro e w4 ⟨ah, ch, rfl, hoh, hb4⟩
    have t4 := t3.below hb4
    have r4 := r3.below hb4
    have hob4 := own_below hob hb4
    have hoe4 := own_below hoe hb4
    have hc4 := hc3.trans (hb4.mono hc3.size)
    have rb4 := own_rowAt hob4
    clear hc3 t3 hb4 HHW hoh r3 hob hoe
    have hft := fun wx rx tx => gfooter_any ab N cb L (s : Int) wx (by omega) rx (by omega) (by omega) tx
    rw [HSF.out] at hft
    unfold GivesE at hft
    simp only at hft
    have HFT := Lib.hid hft
    clear hft HSF
    go_wp2_with fail
    (with_reducible refine (HFT.out _ rb4 t4).mono ?_)
    rintro e w5 ⟨ac, cc, rfl, hoc, hb5⟩
    rw [HFL.out] at hoc ⊢
    have t5 := t4.below hb5
    have r5 := r4.below hb5
    have hob5 := own_below hob4 hb5
    have hoe5 := own_below hoe4 hb5
    have hc5 := hc4.trans (hb5.mono hc4.size)
    have hsrc := own_rowAt hoc
    have hby : (N + Fl) * 1 ≤ 140737488355328 := by omega
    clear rb4 r4 t4 hob4 hoe4 hc4 hoc hb5 HFT
    have hby2 : (2 + n) * 8 ≤ 140737488355328 := by omega
    have hby3 : (2 + n + 1) * 8 ≤ 140737488355328 := by omega
    go_upto_region 12 with (first
      | (at_builtin; refine wpList_app rfl _ _ 22 rfl slB rfl hob5 rfl hsrc (B_one _) hby hc5.size fun a6 c6 w6 hob6 hg6 => ?_; have hoe6 := own_else hoe5 hob5 rfl hg6; have hc6 := hc5.grown hg6 hc5.size (own_block hob5); have hm7 := below_made w6 (.cells #[.int .i64 ((0 : Nat) : Int), .int .i64 (hd : Int)] 3); have ho7 := World.alloc_heap_new w6 (.cells #[.int .i64 ((0 : Nat) : Int), .int .i64 (hd : Int)] 3); have hob7 := own_below hob6 hm7; have hoe7 := own_rowAt (own_below hoe6 hm7); have hc7 := below_next hc6 hm7; have hl7 : (w6.alloc (.cells #[.int .i64 ((0 : Nat) : Int), .int .i64 (hd : Int)] 3)).ownsRow w6.heap.size 3 1 (.slice (some ⟨w6.heap.size, 0, none⟩) 2 2) 2 ([0, hd].map I) := ⟨rfl, .inr ⟨w6.heap.size, 2, #[.int .i64 ((0 : Nat) : Int), .int .i64 (hd : Int)], rfl, Nat.le_refl _, ho7, Nat.le_refl _, by decide, rfl, rfl⟩⟩)
      | (at_builtin; refine wpList_app rfl _ _ 40 rfl slI rfl hl7 rfl hoe7 (I_one _) hby2 hm7.size fun a8 c8 w8 hol8 hg8 => ?_)
      | (at_builtin; refine wpList_app1 rfl _ _ 40 rfl slI rfl hol8 rfl rfl (one1 _ _) hby3 (Nat.le_trans hm7.size hg8.size) fun a9 c9 w9 hol9 hg9 => ?_))
    have hl7' := own_mono hl7 hc6.size
    have hc8 := hc7.grown hg8 hc7.size (own_block hl7')
    have hc9 := hc8.grown hg9 hc8.size (own_block (own_mono hol8 hc6.size))
    have hob8 := own_else hob7 hl7 rfl hg8
    have rb9 := own_rowAt (own_else hob8 hol8 rfl hg9)
    have rl9 := own_rowAt hol9
    have r9 := r.below hc9
    have t9 := ht.below hc9
    have hm9 : [0, hd].map I ++ (endsS x y ls).map I ++ [.int .i64 ((N : Int) + (Fl : Int))] = lw.map I := by
      rw [HLWE.out, List.map_append, List.map_append]
      rfl
    rw [hm9, show 2 + n + 1 = n + 3 by omega] at rl9
    rw [← List.map_append, ← HLA.out] at rb9
    rw [show 2 + n + 1 = n + 3 by omega]
    obtain ⟨M, hM⟩ : ∃ M, N + Fl = M := ⟨_, rfl⟩
    have HML : Hid ((layN gs).length = M) := Lib.hid (HGL.out.trans hM)
    have hM40 : M ≤ 8415292 := by omega
    rw [hM] at rb9 ⊢
    clear hg9 hg8 hg6 hl7 hl7' hol8 hol9 hob5 hob6 hob7 hob8 hoe5 hoe6 hoe7 hc5 hc6 hc7 hc8 hm7 ho7 hm9 hM hsrc hby hby2 hby3 hfb hN40 HGL HLA HLWE HFL HNL r5 t5 r ht
    by_cases h0 : t < 0
    · go_wp2_with fail
      go_ret
      exact ⟨rfl, hc9⟩
    by_cases h1 : 8 * (M : Int) ≤ t
    · go_wp2_with fail
      go_ret
      exact ⟨rfl, hc9⟩
    obtain ⟨t, rfl⟩ : ∃ t' : Nat, t = (t' : Int) := ⟨t.toNat, by omega⟩
    obtain ⟨p, rfl⟩ : ∃ p' : Nat, p = (p' : Int) := ⟨p.toNat, by omega⟩
    have ht8 : t < 8 * M := by omega
    have hp8 : p < 4294967296 := by omega
    clear p0 p1 t0 t1
    go_upto_block 0 with fail
    go_cut [21] (fun v21 wx => ∃ i G : Nat, v21 = .int .i64 (i : Int) ∧ i ≤ n + 1 ∧ Hid ((layN (gs.take i)).length = G) ∧ G * 8 ≤ t ∧ Hid (t < 8 * (layN (gs.take (i + 1))).length) ∧ wx = w9)
    case first =>
      go_wp2_with fail
      go_loopw [21] (fun iv wr => ∃ i G : Nat, iv = .int .i64 (i : Int) ∧ i ≤ n + 1 ∧ Hid ((layN (gs.take i)).length = G) ∧ G * 8 ≤ t ∧ wr = w9) (fun iv _ => n + 1 - (intOf iv).toNat)
      case atStart => exact ⟨0, 0, rfl, Nat.zero_le _, Lib.hid rfl, by omega, rfl⟩
      case round =>
        obtain ⟨i, G, rfl, hi, HG, hGt, rfl⟩ := hrel
        obtain ⟨b, off, E, rfl, hE, hce⟩ := rl9.elem (i + 1) (by omega)
        have hE2 : E = (layN (gs.take (i + 1))).length := by
          rw [HLW.out (i + 1) (by omega)] at hE
          exact (Option.some.inj hE).symm
        have HE := Lib.hid hE2
        have hEM : Hid (i = n + 1 → E = M) := Lib.hid fun h => by
          rw [hE2, List.take_of_length_le (by rw [← HGS.out, sealFs_len, HLL.out]; omega), HML.out]
        have hcE : wr.cell? ⟨b, off + (i + 1), none⟩ = some (.int .i64 (E : Int)) := hce
        have me1 := rl9.2.1
        have me2 := rl9.2.2.1
        unfold maxLen at me2
        have hE8 : E ≤ M := by
          rw [hE2, ← HML.out]; exact layN_take_le gs (i + 1)
        clear hE hE2 hce
        by_cases hEt : E * 8 ≤ t
        · have e1 : decide ((E : Int) ≤ (t : Int) / 8) = true := decide_eq_true (by omega)
          go_wp2_with fail
          go_roundw
          case rel => exact ⟨i + 1, E, by go_num, (by have := hEM.out; omega), Lib.hid HE.out.symm, hEt, by trivial⟩
          case measure => have := hEM.out; simp [intOf]; omega
        · have e1 : decide ((E : Int) ≤ (t : Int) / 8) = false := decide_eq_false (by omega)
          go_wp2_with fail
          go_meet
          exact ⟨i, G, rfl, hi, HG, hGt, Lib.hid (by rw [← HE.out]; omega), by trivial⟩
    case rest =>
      obtain ⟨i, G, rfl, hi, HG, hGt, HT8, rfl⟩ := hcut
      have hgl : gs.length = n + 2 := by rw [← HGS.out, sealFs_len, HLL.out]
      have hig : i < gs.length := by omega
      have hlt := lay_take hig
      have hla := lay_at hig
      have hbu := HBU.out
      rw [HGS.out] at hbu
      have hbu1 := fun t' ht hne => hbu i t' p hig hp8 ht hne
      obtain ⟨M0, hM0⟩ : ∃ M0, gs[i].bytes = M0 := ⟨_, rfl⟩
      obtain ⟨A, hA⟩ : ∃ A, layN (gs.take i) = A := ⟨_, rfl⟩
      obtain ⟨Z, hZ⟩ : ∃ Z, layN (gs.drop (i + 1)) = Z := ⟨_, rfl⟩
      obtain ⟨m, hmm⟩ : ∃ m, M0.length = m := ⟨_, rfl⟩
      have hG := HG.out
      have hgsM := HML.out
      rw [hM0, hA, hZ] at hbu1 hla
      rw [hA, hM0] at hlt
      rw [hA] at hG
      obtain ⟨E, hE⟩ : ∃ E, G + m = E := ⟨_, rfl⟩
      have hEl : (layN (gs.take (i + 1))).length = E := by rw [hlt, List.length_append, hG, hmm, hE]
      have hEM : E ≤ M := by rw [← hEl, ← hgsM]; exact layN_take_le gs (i + 1)
      have ht8' := HT8.out
      rw [hEl] at ht8'
      have hlG := HLW.out i (by omega)
      have hlE := HLW.out (i + 1) (by omega)
      rw [hA, hG] at hlG
      rw [hEl] at hlE
      obtain ⟨bl, ol, G', rfl, hx1, cG⟩ := rl9.elem i (by omega)
      obtain ⟨bl', ol', E', hq, hx2, cE⟩ := rl9.elem (i + 1) (by omega)
      obtain ⟨rfl, rfl⟩ : bl = bl' ∧ ol = ol' := by simpa using hq
      rw [hlG] at hx1
      rw [hlE] at hx2
      obtain rfl := Option.some.inj hx1
      obtain rfl := Option.some.inj hx2
      have ccG : World.cell? _ ⟨bl, ol + i, none⟩ = some (.int .i64 (G : Int)) := cG
      have ccE : World.cell? _ ⟨bl, ol + (i + 1), none⟩ = some (.int .i64 (E : Int)) := cE
      have hcG := fun wx => run_cut0 (a := a6) (n := M) (cap := c6) slB wx G (by have := rb9.2.1; omega)
      obtain ⟨aM, hcM, rM⟩ := cut_mid slB rb9 G E (by omega) hEM
      obtain ⟨aZ, hcZ, rZ⟩ := cut_from slB rb9 E hEM
      have rA := rowB_upto rb9 (show G ≤ M by omega)
      rw [Nat.mul_one, Nat.mul_one, ← List.map_take, ← List.map_drop, show E - G = m by omega, hla, ← List.append_assoc, List.take_append_of_le_length (by rw [List.length_append]; omega), List.take_of_length_le (by rw [List.length_append]; omega), ← hG, List.drop_left] at rM
      rw [Nat.mul_one, ← List.map_drop, hla, ← List.append_assoc, ← show (A ++ M0).length = E by rw [List.length_append]; omega, List.drop_left, List.length_append, hG, hmm, hE] at rZ
      rw [hla, ← hG, List.take_left, hG] at rA
      rw [hG] at rM
      rw [show E - G = m by omega] at hcM
      have mb1 := rb9.2.2.1
      have mb2 := rb9.2.1
      have me1 := rl9.2.2.1
      have me2 := rl9.2.1
      unfold maxLen at mb1 me1
      obtain ⟨t', hT'⟩ : ∃ t', t - 8 * G = t' := ⟨_, rfl⟩
      have hT2 : (t : Int) - 8 * (G : Int) = (t' : Int) := by omega
      have ht3 : t' ≤ 8 * m := by omega
      have hbu2 := hbu1 t' (by rw [hmm]; exact ht3)
      have htu := fun wx rx => turn_any aM m (c6 - G) M0 t' p wx (by omega) (by omega) hp8 rx
      have HTU := Lib.hid htu
      have HB := Lib.hid hbu2
      have HHE := Lib.hid hE
      have HMM := Lib.hid hmm
      have HGA := Lib.hid hG
      have hm1 : m ≤ M := by omega
      clear hT' hbu hbu1 hbu2 htu hlt hla hM0 hA hZ hmm hG hgsM hE hEl ht8' hlG hlE hx1 hx2 cG cE hq HT8 HBU hig hgl rl9 hGt
      obtain ⟨k1, hk1⟩ : ∃ k1, i + 1 = k1 := ⟨_, rfl⟩
      rw [hk1] at ccE
      have hi0 : (0 : Int) ≤ (i : Int) := by omega
      have hi3 : (i : Int) < (n : Int) + 3 := by omega
      have hk0 : (0 : Int) ≤ (k1 : Int) := by omega
      have hk3 : (k1 : Int) < (n : Int) + 3 := by omega
      have hkw : IntKind.i64.wrap ((i : Int) + 1) = (k1 : Int) := by rw [IntWalk.i64_in _ (by omega)]; omega
      have hgw : IntKind.i64.wrap (8 * (G : Int)) = 8 * (G : Int) := IntWalk.i64_in _ (by omega)
      have htw : IntKind.i64.wrap ((t : Int) - 8 * (G : Int)) = (t' : Int) := by rw [IntWalk.i64_in _ (by omega)]; exact hT2
      have HK1 := Lib.hid hk1
      have HT2 := Lib.hid hT2
      clear hk1 hT2
      go_upto_region 17 with fail
      go_region_held3 (fun w' => w'.cell? ⟨bl, ol + i, none⟩ = some (.int .i64 (G : Int)) ∧ w'.cell? ⟨bl, ol + k1, none⟩ = some (.int .i64 (E : Int)))
        (first
          | with_reducible exact ⟨ccG, ccE⟩
          | with_reducible exact ⟨cell_drew ccG, cell_drew ccE⟩
          | with_reducible exact ⟨below_cell hb10' ccG, below_cell hb10' ccE⟩
          | fail)
        (first | (go_at_call 21; refine (HTU.out _ (by exact rM)).mono ?_; rintro e w10 ⟨a10, c10, rfl, ho10, hb10⟩; have hb10' := below_undrew hb10))
      rename_i hHeld
      obtain ⟨dG, dE⟩ := hHeld
      obtain ⟨T, hT⟩ : ∃ T, turn M0 t' p 32 = T := ⟨_, rfl⟩
      have hTl : T.length = m := by rw [← hT, turn_length, HMM.out]
      rw [hT, hTl] at ho10
      rw [hT, hTl]
      have hb := HB.out
      rw [hT] at hb
      have HBT := Lib.hid hb
      have r10 := r9.below hb10'
      have t10 := t9.below hb10'
      have rM10 := rM.below hb10'
      have rA10 := rA.below hb10'
      have rZ10 := rZ.below hb10'
      have q10 := own_rowAt ho10
      have hc10 := hc9.trans (hb10'.mono hc9.size)
      have HT := Lib.hid hT
      have HTL := Lib.hid hTl
      clear hb hT hTl ho10 hb10 hb10' r9 t9 rM rA rZ rb9 hc9 ccG ccE HTU HB htw hgw
      go_upto_region 18 with fail
      go_region_held3 (fun w' => w'.cell? ⟨bl, ol + i, none⟩ = some (.int .i64 (G : Int)) ∧ w'.cell? ⟨bl, ol + k1, none⟩ = some (.int .i64 (E : Int)))
        (first
          | with_reducible exact ⟨dG, dE⟩
          | with_reducible exact ⟨cell_drew dG, cell_drew dE⟩
          | with_reducible exact ⟨below_cell hb11 dG, below_cell hb11 dE⟩
          | fail)
        (first | (go_at_call 15; refine (same_any a10 m c10 T aM m (c6 - G) M0 _ (by exact q10) (by exact rM10)).mono ?_; rintro e w11 ⟨rfl, hst⟩; have hb11 : Below w10.heap.size w10 w11 := below_undrew (below_still (Below.refl _ w10.drew) hst)))
      rename_i hHeld
      have hc11 := hc10.trans (hb11.mono hc10.size)
      clear hHeld
      by_cases hne : T = M0
      · rw [hne, beq_self_eq_true]
        go_wp2_with fail
        go_ret
        exact ⟨rfl, hc11⟩
      rw [show (T == M0) = false from by rw [beq_eq_false_iff_ne]; exact hne]
      have HSC := Lib.hid (HBT.out hne)
      have eG := below_cell hb11 dG
      have eE := below_cell hb11 dE
      have r11 := r10.below hb11
      have t11 := t10.below hb11
      have rA11 := rA10.below hb11
      have rZ11 := rZ10.below hb11
      have q11 := q10.below hb11
      have hby1 : (G + m) * 1 ≤ 140737488355328 := by have := HHE.out; omega
      have hby2 : (G + m + (M - E)) * 1 ≤ 140737488355328 := by have := HHE.out; omega
      have HCP := Lib.hid fun wx (rx : RowAt wx a6 G c6 1 (A.map B)) => copy_any a6 G c6 A wx (by have := HHE.out; omega) rx
      have hlbl := World.block_lt_of_cell? _ _ eG
      clear hne HBT hst hb11 hc10 r10 t10 rM10 rA10 rZ10 q10 dG dE
      go_upto_region 20 with fail
      go_region_held3 (fun w' => w'.cell? ⟨bl, ol + i, none⟩ = some (.int .i64 (G : Int)) ∧ w'.cell? ⟨bl, ol + k1, none⟩ = some (.int .i64 (E : Int)))
        (first
          | with_reducible exact ⟨eG, eE⟩
          | with_reducible exact ⟨cell_drew eG, cell_drew eE⟩
          | with_reducible exact ⟨cg7, ce7⟩
          | with_reducible exact ⟨cg6, ce6⟩
          | with_reducible exact ⟨cg5, ce5⟩
          | fail)
        (first
          | (go_at_call 10; refine (HCP.out _ (by exact rA11)).mono ?_; rintro e w5 ⟨a5, c5, rfl, ho5, hb5⟩; rw [HGA.out] at ho5 ⊢; have hb5' := below_undrew hb5; have cg5 := below_cell hb5' eG; have ce5 := below_cell hb5' eE; have q5 := q11.below hb5'; have z5 := rZ11.below hb5'; have hz5 := hb5.size; have hfar5 : ∀ j, (Value.slice a5 G c5).ownBlock = some j → bl < j := fun j hj => Nat.lt_of_lt_of_le hlbl (own_block ho5 j hj))
          | (refine step_app rfl _ _ 22 (by rfl) slB (by rfl) ho5 (by rfl) q5 (B_one _) hby1 hz5 ?_; intro a6' c6' w6 ho6 hg6; have cg6 := far_cell hg6 cg5 hfar5; have ce6 := far_cell hg6 ce5 hfar5; have hb6 := hb5.grown hg6 hz5 (own_block ho5); have hb6' := below_undrew hb6; have z6 := rZ11.below hb6'; have hz6 := hb6.size; have hfar6 : ∀ j, (Value.slice a6' (G + m) c6').ownBlock = some j → bl < j := fun j hj => Nat.lt_of_lt_of_le hlbl (own_block ho6 j hj))
          | (refine step_app rfl _ _ 22 (by rfl) slB (by rfl) ho6 (by rfl) z6 (B_one _) hby2 hz6 ?_; intro a7 c7 w7 ho7 hg7; have cg7 := far_cell hg7 cg6 hfar6; have ce7 := far_cell hg7 ce6 hfar6; have hb7 := hb6.grown hg7 hz6 (own_block ho6)))
      have hb7' := below_undrew hb7
      have r12 := r11.below hb7'
      have t12 := t11.below hb7'
      have hc12 := hc11.trans (hb7'.mono hc11.size)
      have e7 : G + m + (M - E) = M := by have := HHE.out; omega
      rw [e7, ← List.map_append, ← List.map_append, List.append_assoc] at ho7
      have q12 := own_rowAt ho7
      rw [e7]
      clear ho7 hg7 ce7 cg6 ce6 cg5 ce5 hg6 ho6 ho5 hb5 hb5' hb6 hb6' hb7 hb7' q5 z5 z6 hfar5 hfar6 hz5 hz6 rA11 rZ11 r11 t11 q11 hc11 HCP e7 hcG hcM hcZ eG eE hlbl hby1 hby2
      by_cases h00 : i = 0
      · have hsc : scanS (A ++ (T ++ Z)) = (Sg.zero, [], 71) := by
          have h := HSC.out
          rw [h00] at h
          exact h
        have e0 : ((i : Int) == 0) = true := by rw [h00]; rfl
        clear HSC cg7 h00
        go_wp2_with fail
        (with_reducible refine (sscan_any _ _ _ _ _ (by omega) q12 t12).mono ?_)
        rintro e w13 ⟨xs, ax, cx, am, cm, hxq, rfl, hps, hom, hb13⟩
        rw [hsc] at hxq hom ⊢
        simp only at hxq hom ⊢
        have hxl : xs.length = 0 := by
          have := congrArg List.length hxq
          rw [List.length_map] at this
          exact this
        rw [hxl]
        have hc13 := below_next hc12 hb13
        unfold sgRow Sg.zero
        simp only [List.length_nil]
        clear hsc hxq hxl hps hom hb13 hc12 q12 t12 r12
        go_wp2_with fail
        go_ret
        exact ⟨by simp, below_next hc13 (below_made _ _)⟩
      · obtain ⟨k, hik⟩ : ∃ k, i = k + 1 := ⟨i - 1, by omega⟩
        have hsc : scanS (A ++ (T ++ Z)) = (⟨x, y, k, false, 0, [], G⟩, (pcsN 0 (evsN y (ls.take k))).map (Pc.move (hdrFr x y).bytes.length), 0) := by
          have h := HSC.out
          have h2 := HG.out
          rw [hik] at h h2
          simp only at h
          rw [h2] at h
          exact h
        have hkn : k ≤ n := by omega
        have hQl : ((pcsN 0 (evsN y (ls.take k))).map (Pc.move (hdrFr x y).bytes.length)).length = k := by
          rw [List.length_map, pcsN_len, evsN_len, List.length_take, HLL.out]; omega
        have e0 : ((i : Int) == 0) = false := by rw [beq_eq_false_iff_ne]; omega
        have hiw : IntKind.i64.wrap ((i : Int) - 1) = (k : Int) := by rw [IntWalk.i64_in _ (by omega)]; omega
        have HIK := Lib.hid hik
        have HQL := Lib.hid hQl
        clear HSC h00 hik hQl
        go_wp2_with fail
        (with_reducible refine (sscan_any _ _ _ _ _ (by omega) q12 t12).mono ?_)
        rintro e w13 ⟨xs, ax, cx, am, cm, hxq, rfl, hps, hom, hb13⟩
        rw [hsc] at hxq hom ⊢
        simp only at hxq hom ⊢
        have hxl : xs.length = k := by
          have := congrArg List.length hxq
          rw [List.length_map, HQL.out] at this
          exact this
        rw [hxl] at hps ⊢
        have hc13 := below_next hc12 hb13
        have r13 := r12.below hb13
        have p13 := hps.rd hxl
        have cg13 := below_cell hb13 cg7
        unfold sgRow
        simp only [List.length_nil]
        have hm14 := below_made w13 (.cells #[.int .i64 (x : Int), .int .i64 (y : Int), .int .i64 (k : Int), .bool false, .int .i64 0, .slice am 0 cm, .int .i64 (G : Int)] 27)
        have hg14 := World.alloc_heap_new w13 (.cells #[.int .i64 (x : Int), .int .i64 (y : Int), .int .i64 (k : Int), .bool false, .int .i64 0, .slice am 0 cm, .int .i64 (G : Int)] 27)
        have hc14 := below_next hc13 hm14
        have r14 := r13.below hm14
        have p14 := p13.below hm14
        have cg14 := below_cell hm14 cg13
        have z2 := cls_blk hg14 2 (.int .i64 (k : Int)) rfl
        have z3 := cls_blk hg14 3 (.bool false) rfl
        have z6 := cls_blk hg14 6 (.int .i64 (G : Int)) rfl
        have HXQ := Lib.hid hxq
        obtain ⟨w14, hw14⟩ : ∃ w14, w13.alloc (.cells #[.int .i64 (x : Int), .int .i64 (y : Int), .int .i64 (k : Int), .bool false, .int .i64 0, .slice am 0 cm, .int .i64 (G : Int)] 27) = w14 := ⟨_, rfl⟩
        rw [hw14] at hc14 r14 p14 cg14 z2 z3 z6
        have q0 : ((k : Int) != (k : Int)) = false := by simp
        have q1 : ((G : Int) != (G : Int)) = false := by simp
        have q2 : ((k : Int) != (i : Int) - 1) = false := by have := HIK.out; rw [show (i : Int) - 1 = (k : Int) by omega]; simp
        clear hps hom hxq hxl hm14 hg14 q12 t12 HQL hsc hb13 hc12 hc13 r12 r13 p13 cg7 cg13
        go_upto_region 24 with fail
        go_cut [192] (fun s wx => s = .bool false ∧ ∃ q, wx = w14.drewN q)
        case first =>
          go_quiet (fail)
          go_wp2_with fail
          go_meet
          exact ⟨by simp, _, rfl⟩
        case rest =>
          obtain ⟨rfl, nq, rfl⟩ := hcut
          have HK := Lib.hid hkn
          have hdn : Below w14.heap.size w14 (w14.drewN nq) := below_drewN (Below.refl _ _)
          have hc14 := hc14.trans (hdn.mono hc14.size)
          have p14 := p14.below hdn
          have r14 := r14.below hdn
          clear hdn
          clear q0 q1 q2 z2 z3 z6 cg14 hiw e0 hi0 hi3 hk0 hk3 hkw mb1 mb2 me1 me2
          go_wp2_with fail
          go_loopw [195] (fun iv wr => ∃ j : Nat, iv = .int .i64 (j : Int) ∧ j ≤ k ∧ Below w.heap.size w wr ∧ PlsRd ax k cx xs wr ∧ BssRd a n c bs wr) (fun iv _ => k - (intOf iv).toNat)
          case atStart => exact ⟨0, rfl, Nat.zero_le _, hc14, p14, r14⟩
          case round =>
            clear hc14 p14 r14
            obtain ⟨j, rfl, hj, hb, hq, hr⟩ := hrel
            by_cases hjk : j < k
            · obtain ⟨b, off, xx, rfl, hx, d0, d1, d2, d3, d4, dx⟩ := hq.at j hjk
              obtain ⟨b', off', z, rfl, hz, f0, fx⟩ := hr.at j (by have := HK.out; omega)
              have hsame : z.l = xx.q.f.body := burst_same (first := y) (d := (hdrFr x y).bytes.length) (bs := bs) (by rw [HLS.out]; exact HXQ.out) hjk hx hz
              have hm := hq.1.2.2.1
              have hm2 := hq.1.2.1
              have hm3 := hr.1.2.2.1
              have hm4 := hr.1.2.1
              unfold maxLen at hm hm3
              rw [hsame] at fx
              have HF := Lib.hid fun wx rx ry => same_any xx.a xx.q.f.body.length xx.c xx.q.f.body z.a z.n z.c xx.q.f.body wx rx ry
              have HQ := Lib.hid hq
              have HRD := Lib.hid hr
              have hjn : j < n := by have := HK.out; omega
              clear hsame hx hz d0 d1 d2 d3 hq hr
              go_wp2_with fail
              go_region_held3 (fun w' => w'.cell? ⟨b, off + j * 5 + 4, none⟩ = some (.slice xx.a xx.q.f.body.length xx.c) ∧ w'.cell? ⟨b', off' + j, none⟩ = some (.slice z.a z.n z.c))
                (first
                  | with_reducible exact ⟨d4, f0⟩
                  | with_reducible exact ⟨cell_drew d4, cell_drew f0⟩
                  | with_reducible exact ⟨below_cell hb15 d4, below_cell hb15 f0⟩
                  | fail)
                (first | (go_at_call 15; refine (HF.out _ (by exact dx) (by exact fx)).mono ?_; rintro e w15 ⟨rfl, hst⟩; have hb15 : Below wr.heap.size wr w15 := below_undrew (below_still (Below.refl _ wr.drew) hst)))
              have hb16 : Below wr.heap.size wr w15 := below_undrew (below_still (Below.refl _ wr.drew) hst)
              go_wp2_with fail
              go_roundw
              case rel => exact ⟨j + 1, by go_num, by omega, hb.trans (hb16.mono hb.size), HQ.out.below hb16, HRD.out.below hb16⟩
              case measure => simp [intOf]; omega
            · go_wp2_with fail
              go_ret
              exact ⟨rfl, hb⟩
end Go.Proofs.YtffhejaeliphcaaDoor
