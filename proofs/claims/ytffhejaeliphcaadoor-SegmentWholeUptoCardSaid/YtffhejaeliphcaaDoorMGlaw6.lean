/-
  The walk of SegmentWhole. Conditions: the bodies read as slices of bytes, within the statement's own bound; the program's table of nibbles holds what its text lays.
-/
import Derived.Test.YtffhejaeliphcaaDoorMGclos
import Derived.Test.YtffhejaeliphcaaDoorMGq
import Derived.Test.YtffhejaeliphcaaDoorMGb
import Derived.Test.YtffhejaeliphcaaDoorMGlaw3
import Derived.Test.YtffhejaeliphcaaDoorMFs
import Derived.Test.YtffhejaeliphcaaDoorMIk
import Derived.BigQuiet
import Derived.Deep.QuietTactic
namespace Go.Proofs.YtffhejaeliphcaaDoor
open Go.RowKit
set_option linter.unusedVariables false

theorem pcs_at : ∀ (gs : List Fr) (p j : Nat) (q : Pc), (pcsN p gs)[j]? = some q → q.at' = p + (layN (gs.take j)).length ∧ q.at' + q.size = p + (layN (gs.take (j + 1))).length
  | [], p, j, q, h => by simp [pcsN] at h
  | g :: r, p, 0, q, h => by
    rw [pcsN] at h
    simp at h
    subst h
    refine ⟨rfl, ?_⟩
    simp [layN, g.bytes_len]
  | g :: r, p, j + 1, q, h => by
    rw [pcsN, List.getElem?_cons_succ] at h
    obtain ⟨h1, h2⟩ := pcs_at r _ j q h
    rw [List.take_succ_cons, List.take_succ_cons]
    unfold layN at h1 h2 ⊢
    rw [List.flatMap_cons, List.flatMap_cons, List.length_append, List.length_append, g.bytes_len]
    omega
theorem evs_body' {first : Nat} : ∀ (ls : List (List UInt8)) (i j : Nat) (g : Fr), (evsN (first + i) ls)[j]? = some g → ls[j]? = some g.body
  | [], i, j, g, h => by simp [evsN] at h
  | b :: r, i, 0, g, h => by
    rw [evsN] at h
    simp at h
    subst h
    rfl
  | b :: r, i, j + 1, g, h => by
    rw [evsN, List.getElem?_cons_succ, Nat.add_assoc] at h
    exact evs_body' r (i + 1) j g h
/-- What stands at a place of a whole segment. -/
theorem segPs_at {num first j : Nat} {ls : List (List UInt8)} {q : Pc} (h : (segPs num first ls)[j]? = some q) :
    q.f.seq = first + j ∧ ls[j]? = some q.f.body ∧ (endsS num first ls)[j]? = some (q.at' + q.size) := by
  have hj : j < ls.length := by have := (List.getElem?_eq_some_iff.1 h).1; rwa [segPs_len] at this
  unfold segPs at h
  rw [List.getElem?_map, Option.map_eq_some_iff] at h
  obtain ⟨p, hp, rfl⟩ := h
  have hf : ((pcsN 0 (evsN first ls)).map Pc.f)[j]? = some p.f := by rw [List.getElem?_map, hp]; rfl
  rw [pcsN_f] at hf
  obtain ⟨g1, g2⟩ := evs_get (first := first) ls 0 j p.f hf
  have g3 := evs_body' (first := first) ls 0 j p.f hf
  obtain ⟨g4, g5⟩ := pcs_at _ _ _ _ hp
  refine ⟨by show p.f.seq = _; rw [g2]; omega, g3, ?_⟩
  rw [endsS_at hj, segL_cons, List.length_append]
  have ht : (evsN first ls).take (j + 1) = evsN first (ls.take (j + 1)) := evs_take (first := first) ls 0 (j + 1)
  rw [← ht]
  show some _ = some (p.at' + (hdrFr num first).bytes.length + p.size)
  congr 1
  omega

set_option maxRecDepth 8000 in
set_option maxHeartbeats 6400000 in
theorem gwhole_walk (num first : Int) (v : Value) (bs : List Bs) (stride t : Int) (w : World) (i0 : -9223372036854775808 ≤ num) (i1 : num ≤ 9223372036854775807) (j0 : -9223372036854775808 ≤ first) (j1 : first ≤ 9223372036854775807) (hv : BssArg w v bs)
    (s0 : -9223372036854775808 ≤ stride) (s1 : stride ≤ 9223372036854775807) (t0 : -9223372036854775808 ≤ t) (t1 : t ≤ 9223372036854775807) (ht : Tab w) :
    Calls Tryd.prog 8 #[.int .i64 num, .int .i64 first, v, .int .i64 stride, .int .i64 t] w fun e w' => e = .returned (.bool true) ∧ Below w.heap.size w w' := by
  obtain ⟨⟨a, n, c, rfl, hn, r⟩⟩ := hv
  have hl := r.len
  have HL := Lib.hid hl
  clear hl i0 i1 j0 j1
  go_enter Tryd.func8, Tryd.ntmps8
  go_wp2_with fail
  (with_reducible refine (hhead_any _ ht).mono ?_)
  rintro e w1 ⟨rfl, hb1⟩
  have r1 := r.below hb1
  have t1' := ht.below hb1
  go_wp2_with fail
  (with_reducible refine (few_any num first a n c bs _ r1).mono ?_)
  rintro e w2 ⟨rfl, rfl⟩
  cases hfw : fewB num first bs with
  | false =>
    go_wp2_with fail
    go_ret
    exact ⟨rfl, hb1⟩
  | true =>
    obtain ⟨x, y, rfl, rfl, hf⟩ := few_facts hfw HL.out
    have hlb := bss_len r1 hf.bd
    have HF := Lib.hid hf
    obtain ⟨f1, f2, f3, f4, f5, f6, -⟩ := hf
    clear hfw
    by_cases hst1 : stride < 1
    · go_wp2_with fail
      go_ret
      exact ⟨rfl, hb1⟩
    by_cases hst2 : 64 < stride
    · go_wp2_with fail
      go_ret
      exact ⟨rfl, hb1⟩
    obtain ⟨s, rfl⟩ : ∃ s : Nat, stride = (s : Int) := ⟨stride.toNat, by omega⟩
    have hs1 : 1 ≤ s := by omega
    have hs2 : s ≤ 64 := by omega
    clear s0 s1
    go_wp2_with fail
    (with_reducible refine (glaid_any x y a n c bs _ HF.out r1 t1').mono ?_)
    rintro e w3 ⟨ab, cb, ae, ce, rfl, hob, hoe, hb3⟩
    have t3 := t1'.below hb3
    have r3 := r1.below hb3
    have hc3 := below_next hb1 hb3
    have hob := own_mono hob hb1.size
    have hoe := own_mono hoe hb1.size
    clear hb1 hb3 r1 t1'
    obtain ⟨ls, hls⟩ : ∃ ls, bs.map Bs.l = ls := ⟨_, rfl⟩
    rw [hls] at hlb hob hoe ⊢
    have HLS := Lib.hid hls
    have hll : ls.length = n := by rw [← hls, List.length_map, HL.out]
    have hbd := segL_bound (num := x) (first := y) (ls := ls) f2 f4 (by omega) hlb
    have hsf := seal_foot (t := s) f1 f2 f3 f4 (by omega) (by omega) hlb hs1 hs2
    have hsc := seal_scan (t := s) f1 f2 f3 f4 (by omega) (by omega) hlb hs1 hs2
    have hcl := clos_foot (t := s) (foot := (segL x y ls).length) f1 f2 f3 f4 (by omega) (by omega) hlb hs1 hs2 (Nat.le_refl _)
    rw [hll] at hsc hcl
    have hfl := (footFr x y ls s).bytes_len
    have hfb : (footFr x y ls s).bytes.length ≤ 16404 := by have := (foot_right (first := y) (t := s) (ls := ls) f2 f4 (by omega) hs2).2.2.1; omega
    obtain ⟨d0, e0, hri, hd16⟩ := seg_run (ls := ls) f1 f2 f3 f4 (by omega) hlb
    have hR := run_pls hri
    have hnear : ∀ (wh l : Nat), wh < n → LastIs (marksQ (segPs x y ls) s) ((y : Int) + (wh : Int)) (marksQ (segPs x y ls) s).length l →
        ∃ (k : Nat) (q : Pc), 0 < l ∧ (marksQ (segPs x y ls) s)[l - 1]? = some ⟨(y : Int) + (k : Int), (q.at' : Int)⟩ ∧ (segPs x y ls)[k]? = some q ∧ k ≤ wh ∧ wh - k < s := by
      intro wh l hw h
      obtain ⟨k, p, g1, g2, g3, g4, g5⟩ := near_found hR (s := s) (n := (marksQ (segPs x y ls) s).length) (l := l) (which := wh) hs1 (by rw [List.length_map, segPs_len, hll]; exact hw) h rfl
      rw [List.getElem?_map, Option.map_eq_some_iff] at g3
      obtain ⟨q, hq, rfl⟩ := g3
      exact ⟨k, q, g1, g2, hq, g4, g5⟩
    have hat := fun j q (h : (segPs x y ls)[j]? = some q) => segPs_at h
    have hrf := hri.facts
    have hml : (marksQ (segPs x y ls) s).length ≤ 512 := by
      have := every_len s ((segPs x y ls).map Pc.pl) 0
      rw [List.length_map] at this
      exact Nat.le_trans this hrf.1
    have hmk : ∀ m ∈ marksQ (segPs x y ls) s, -1 < m.a ∧ m.a ≤ 1099511627776 := fun m hm => by
      have := ((okN_iff _).1 (marks_ok hri (by omega) hd16 s)).2.1 m hm
      exact ⟨this.2.1, this.2.2.2⟩
    have hPl : (segPs x y ls).length = n := by rw [segPs_len, hll]
    have hq0 : ∀ (j : Nat) (q : Pc), (segPs x y ls)[j]? = some q → q.at' ≤ 8398888 ∧ q.size ≤ 16404 := fun j q h => by
      have h1 := (hrf.2.2.2.2 j q h).2.2
      have h2 := h1.fits
      have h3 := h1.size
      have h4 := h1.body
      have h5 := hbd.1
      omega
    obtain ⟨F, hF⟩ : ∃ F, (footFr x y ls s).bytes = F := ⟨_, rfl⟩
    rw [hF] at hsf hsc hcl hfl hfb
    obtain ⟨L, hL⟩ : ∃ L, segL x y ls = L := ⟨_, rfl⟩
    obtain ⟨N, hN⟩ : ∃ N, L.length = N := ⟨_, rfl⟩
    obtain ⟨Fl, hFl⟩ : ∃ Fl, F.length = Fl := ⟨_, rfl⟩
    obtain ⟨Q, hQ⟩ : ∃ Q, segPs x y ls = Q := ⟨_, rfl⟩
    obtain ⟨ms, hms⟩ : ∃ ms, marksQ Q s = ms := ⟨_, rfl⟩
    obtain ⟨nm, hnm⟩ : ∃ nm, ms.length = nm := ⟨_, rfl⟩
    obtain ⟨M, hM⟩ : ∃ M, N + Fl = M := ⟨_, rfl⟩
    rw [hQ] at hsc hcl hnear hat hml hmk hPl hq0
    rw [hms] at hsc hcl hnear hml hmk
    rw [hnm] at hml hnear
    rw [hL] at hob hbd hsf hsc hcl ⊢
    rw [hN] at hob hbd hcl ⊢
    rw [hN, hFl, hM] at hsc
    rw [hFl] at hfb
    have hN40 : N ≤ 8398888 := hbd.1
    have HSF := Lib.hid hsf
    have HSC := Lib.hid hsc
    have HCL := Lib.hid hcl
    have HNEAR := Lib.hid hnear
    have HAT := Lib.hid hat
    have HNM := Lib.hid hnm
    have HM := Lib.hid hM
    have HLL := Lib.hid hll
    have HFL := Lib.hid hFl
    have HNL := Lib.hid hN
    have HMK := Lib.hid hmk
    have HPL := Lib.hid hPl
    have HQ0 := Lib.hid hq0
    have hM40 : M ≤ 8415292 := by omega
    clear hsf hsc hcl hnear hat hmk hPl hq0 hL hN hFl hF hQ hms hnm hM hri hR hrf hd16 hbd hls hlb hfl hll
    have hft := fun wx rx tx => gfooter_any ab N cb L (s : Int) wx (by omega) rx (by omega) (by omega) tx
    rw [HSF.out] at hft
    unfold GivesE at hft
    simp only at hft
    have HFT := Lib.hid hft
    have rb3 := own_rowAt hob
    clear hft HSF
    go_wp2_with fail
    (with_reducible refine (HFT.out _ rb3 t3).mono ?_)
    rintro e w4 ⟨ac, cc, rfl, hoc, hb4⟩
    rw [HFL.out] at hoc ⊢
    rw [show ((0 : Nat) : Int) = 0 from rfl]
    have t4 := t3.below hb4
    have r4 := r3.below hb4
    have rb4 := rb3.below hb4
    have re4 := (own_rowAt hoe).below hb4
    have hc4 := hc3.trans (hb4.mono hc3.size)
    have rc4 := own_rowAt hoc
    have HCP := Lib.hid fun wx (rx : RowAt wx ab N cb 1 (L.map B)) => copy_any ab N cb L wx (by omega) rx
    have hby : (N + Fl) * 1 ≤ 140737488355328 := by have := HM.out; omega
    clear rb3 r3 t3 hob hoe hc3 hoc hb4 HFT
    go_wp2_with fail
    (with_reducible refine (HCP.out _ rb4).mono ?_)
    rintro e w5 ⟨a5, c5, rfl, ho5, hb5⟩
    rw [HNL.out] at ho5 ⊢
    have rc5 := rc4.below hb5
    have hz5 := hb5.size
    clear rb4 HCP
    go_wp2_with (at_builtin; refine wpList_app rfl _ _ 22 rfl slB rfl ho5 rfl rc5 (B_one _) hby hz5 fun a6 c6 w6 ho6 hg6 => ?_)
    have hb6 := hb5.grown hg6 hz5 (own_block ho5)
    have t6 := t4.below hb6
    have r6 := r4.below hb6
    have re6 := re4.below hb6
    have rc6 := rc4.below hb6
    have hc6 := hc4.trans (hb6.mono hc4.size)
    rw [← List.map_append, HM.out] at ho6
    rw [HM.out]
    have q6 := own_rowAt ho6
    clear t4 r4 re4 rc4 hc4 hb5 hb6 rc5 hz5 ho5 ho6 hg6
    (with_reducible refine (sscan_any _ _ _ (L ++ F) _ (by omega) q6 t6).mono ?_)
    rintro e w7 ⟨xs, ax, cx, am, cm, hxq, rfl, hps, hom, hb7⟩
    rw [HSC.out] at hxq hom ⊢
    simp only at hxq hom ⊢
    have hxl : xs.length = n := by
      have := congrArg List.length hxq
      rw [List.length_map, HPL.out] at this
      exact this
    have HXQ := Lib.hid hxq
    rw [hxl] at hps ⊢
    have p7 := hps.rd hxl
    rw [HNM.out] at hom ⊢
    have hc7 := hc6.trans (hb7.mono hc6.size)
    have t7 := t6.below hb7
    have r7 := r6.below hb7
    have re7 := re6.below hb7
    have rc7 := rc6.below hb7
    have m7 := own_rowAt hom
    unfold sgRow
    simp only
    rw [show ((0 : Nat) : Int) = 0 from rfl]
    have hm8 := below_made w7 (.cells #[.int .i64 (x : Int), .int .i64 (y : Int), .int .i64 (n : Int), .bool true, .int .i64 (s : Int), .slice am nm cm, .int .i64 (M : Int)] 27)
    have hg8 := World.alloc_heap_new w7 (.cells #[.int .i64 (x : Int), .int .i64 (y : Int), .int .i64 (n : Int), .bool true, .int .i64 (s : Int), .slice am nm cm, .int .i64 (M : Int)] 27)
    have hc8 := hc7.trans (hm8.mono hc7.size)
    have t8 := t7.below hm8
    have r8 := r7.below hm8
    have re8 := re7.below hm8
    have rc8 := rc7.below hm8
    have m8 := m7.below hm8
    have p8 := p7.below hm8
    obtain ⟨w8, hw8⟩ : ∃ w8, w7.alloc (.cells #[.int .i64 (x : Int), .int .i64 (y : Int), .int .i64 (n : Int), .bool true, .int .i64 (s : Int), .slice am nm cm, .int .i64 (M : Int)] 27) = w8 := ⟨_, rfl⟩
    rw [hw8] at hg8 hc8 t8 r8 re8 rc8 m8 p8
    have z2 := cls_blk hg8 2 (.int .i64 (n : Int)) rfl
    have z3 := cls_blk hg8 3 (.bool true) rfl
    have z4 := cls_blk hg8 4 (.int .i64 (s : Int)) rfl
    have z5 := cls_blk hg8 5 (.slice am nm cm) rfl
    have z6 := cls_blk hg8 6 (.int .i64 (M : Int)) rfl
    have q0 : ((n : Int) != (n : Int)) = false := by simp
    have q1 : ((M : Int) != (N : Int) + (Fl : Int)) = false := by rw [← HM.out]; simp
    have q2 : ((s : Int) != (s : Int)) = false := by simp
    clear hm8 hg8 hxq hxl hps hom hb7 hc6 t6 r6 re6 rc6 q6 hc7 t7 r7 re7 rc7 m7 p7 HSC hby
    go_upto_region 15 with fail
    clear hw8
    have mp1 := p8.1.2.1
    have mp2 := p8.1.2.2.1
    have mr1 := r8.1.2.1
    have mr2 := r8.1.2.2.1
    have me1 := re8.2.1
    have me2 := re8.2.2.1
    unfold maxLen at mp2 mr2 me2
    clear z2 z3 z4 z6 q0 q1 r
    go_wp2_with fail
    go_loopw [107] (fun iv wr => ∃ j : Nat, iv = .int .i64 (j : Int) ∧ j ≤ n ∧ Below w8.heap.size w8 wr) (fun iv _ => n - (intOf iv).toNat)
    case atStart => exact ⟨0, rfl, Nat.zero_le _, Below.refl _ _⟩
    case round =>
      obtain ⟨j, rfl, hj, hb⟩ := hrel
      by_cases hjn : j < n
      · obtain ⟨b, off, xx, rfl, hx, d0, d1, d2, d3, d4, dx⟩ := (p8.below hb).at j hjn
        obtain ⟨b', off', z, rfl, hz, f0, fx⟩ := (r8.below hb).at j hjn
        obtain ⟨be, oe, E, rfl, hE, cE⟩ := (re8.below hb).elem j hjn
        have cE : wr.cell? ⟨be, oe + j, none⟩ = some (.int .i64 (E : Int)) := cE
        have hQ : Q[j]? = some xx.q := by rw [← HXQ.out, List.getElem?_map, hx]; rfl
        obtain ⟨g1, g2, g3⟩ := HAT.out j xx.q hQ
        obtain ⟨g4, g5⟩ := HQ0.out j xx.q hQ
        rw [hE] at g3
        have hEq := Option.some.inj g3
        have hsame : z.l = xx.q.f.body := by
          rw [← HLS.out, List.getElem?_map, hz] at g2
          exact Option.some.inj g2
        rw [hsame] at fx
        have hwy : IntKind.i64.wrap ((y : Int) + (j : Int)) = (xx.q.f.seq : Int) := by rw [IntWalk.i64_in _ (by omega), g1]; simp
        have hws : IntKind.i64.wrap ((xx.q.at' : Int) + (xx.q.size : Int)) = (E : Int) := by rw [IntWalk.i64_in _ (by omega), hEq]; simp
        have e1 : ((xx.q.f.seq : Int) != (xx.q.f.seq : Int)) = false := by simp
        have e2 : ((E : Int) != (E : Int)) = false := by simp
        have hj0 : (0 : Int) ≤ (j : Int) := by omega
        have hj3 : (j : Int) < (n : Int) := by omega
        have HF := Lib.hid fun wx rx ry => same_any xx.a xx.q.f.body.length xx.c xx.q.f.body z.a z.n z.c xx.q.f.body wx rx ry
        clear hsame hx hz hE hQ g1 g2 g3 hEq d2
        go_wp2_with fail
        go_region_held3 (fun w' => w'.cell? ⟨b, off + j * 5, none⟩ = some (.int .i64 (xx.q.at' : Int)) ∧ w'.cell? ⟨b, off + j * 5 + 1, none⟩ = some (.int .i64 (xx.q.size : Int)) ∧ w'.cell? ⟨b, off + j * 5 + 3, none⟩ = some (.int .i64 (xx.q.f.seq : Int)) ∧ w'.cell? ⟨b, off + j * 5 + 4, none⟩ = some (.slice xx.a xx.q.f.body.length xx.c) ∧ w'.cell? ⟨be, oe + j, none⟩ = some (.int .i64 (E : Int)) ∧ w'.cell? ⟨b', off' + j, none⟩ = some (.slice z.a z.n z.c))
          (first
            | with_reducible exact ⟨d0, d1, d3, d4, cE, f0⟩
            | with_reducible exact ⟨cell_drew d0, cell_drew d1, cell_drew d3, cell_drew d4, cell_drew cE, cell_drew f0⟩
            | with_reducible exact ⟨below_cell hb15 d0, below_cell hb15 d1, below_cell hb15 d3, below_cell hb15 d4, below_cell hb15 cE, below_cell hb15 f0⟩
            | fail)
          (first | (go_at_call 15; refine (HF.out _ (by exact dx) (by exact fx)).mono ?_; rintro e w15 ⟨rfl, hst⟩; have hb15 : Below wr.heap.size wr w15 := below_undrew (below_still (Below.refl _ wr.drew) hst)))
        have hb16 : Below wr.heap.size wr w15 := below_undrew (below_still (Below.refl _ wr.drew) hst)
        go_wp2_with fail
        go_roundw
        case rel => exact ⟨j + 1, by go_num, by omega, hb.trans (hb16.mono hb.size)⟩
        case measure => simp [intOf]; omega
      · have rc9 := rc8.below hb
        have t9 := t8.below hb
        have hc9 := hc8.trans (hb.mono hc8.size)
        have m9 := m8.below hb
        have p9 := p8.below hb
        have z5' := below_cell hb z5
        have hcl := closing_any ac Fl cc F (x : Int) (y : Int) (n : Int) (N : Int) wr rc9 t9
        rw [HCL.out] at hcl
        have HCC := Lib.hid hcl
        clear hcl HCL rc8 t8 m8 p8 r8 re8 hc8 z5 rc9 t9 hb
        go_wp2_with fail
        (with_reducible refine (HCC.out).mono ?_)
        rintro e w9 ⟨a9, c9, rfl, ho9, hb9⟩
        rw [HNM.out] at ho9 ⊢
        have hc10 := hc9.trans (hb9.mono hc9.size)
        have m10 := m9.below hb9
        have p10 := p9.below hb9
        have z5 := below_cell hb9 z5'
        have k10 := own_rowAt ho9
        have hsm := rmsame_any a9 nm c9 ms am nm cm ms w9 k10 m10
        rw [decide_eq_true rfl] at hsm
        have HSM := Lib.hid hsm
        clear hsm ho9 hb9 hc9 m9 p9 z5' HCC m10
        go_wp2_with fail
        (with_reducible refine (HSM.out).mono ?_)
        rintro e w10 ⟨rfl, hst⟩
        have hb11 : Below w9.heap.size w9 w10 := below_still (Below.refl _ _) hst
        have hc11 := hc10.trans (hb11.mono hc10.size)
        have p11 := p10.below hb11
        have k11 := k10.below hb11
        clear hst hb11 hc10 p10 k10 z5 HSM
        obtain ⟨bb, hbb⟩ : ∃ bb, decide (t < 0 ∨ (n : Int) ≤ t) = bb := ⟨_, rfl⟩
        go_upto_region 24 with fail
        go_cut [186] (fun s wx => s = .bool bb ∧ wx = w10)
        case first =>
          by_cases h1 : t < 0
          · have hb : bb = true := by rw [← hbb]; exact decide_eq_true (.inl h1)
            subst hb
            go_wp2_with fail
            go_meet
            exact ⟨by simp, by trivial⟩
          · have hb : decide ((n : Int) ≤ t) = bb := by rw [← hbb]; simp [h1]
            subst hb
            go_wp2_with fail
            go_meet
            exact ⟨by simp, by trivial⟩
        case rest =>
          obtain ⟨rfl, rfl⟩ := hcut
          have HBB := Lib.hid hbb
          clear hbb
          go_upto_if 186 with fail
          go_cut [4] (fun s wx => ∃ W : Nat, s = .int .i64 (W : Int) ∧ W < n ∧ wx = wc)
          case first =>
            cases bb with
            | true =>
              go_wp2_with fail
              go_meet
              exact ⟨n - 1, by go_num, by omega, by trivial⟩
            | false =>
              have h := of_decide_eq_false HBB.out
              go_wp2_with fail
              go_meet
              exact ⟨t.toNat, by rw [Int.toNat_of_nonneg (by omega)], by omega, by trivial⟩
          case rest =>
            obtain ⟨W, rfl, hW, rfl⟩ := hcut
            clear HBB
            have hsk := seek_any a9 nm c9 ms ((y : Int) + (W : Int)) wc k11 (by omega)
            have HSK := Lib.hid hsk
            clear hsk k11
            go_wp2_with fail
            (with_reducible refine (HSK.out).mono ?_)
            rintro e w12 ⟨⟨l, rfl, hl⟩, hb12⟩
            obtain ⟨k, q, g1, g2, g3, g4, g5⟩ := HNEAR.out W l hW hl
            have hc12 := hc11.trans (hb12.mono hc11.size)
            have p12 := p11.below hb12
            obtain ⟨b, off, xx, rfl, hx, d0, d1, d2, d3, d4, dx⟩ := p12.at k (by omega)
            have hqx : xx.q = q := by
              have : (xs.map It.q)[k]? = some xx.q := by rw [List.getElem?_map, hx]; rfl
              rw [HXQ.out, g3] at this
              exact (Option.some.inj this).symm
            rw [hqx] at d0
            have hfv : foundV ms l = .tuple #[.agg #[.int .i64 ((y : Int) + (k : Int)), .int .i64 (q.at' : Int)], .bool true] := by
              unfold foundV
              rw [if_neg (by omega), List.getD_eq_getElem?_getD, g2]
              rfl
            rw [hfv]
            obtain ⟨S, hS⟩ : ∃ S, (y : Int) + (k : Int) = S := ⟨_, rfl⟩
            rw [hS]
            obtain ⟨A, hA⟩ : ∃ A, (q.at' : Int) = A := ⟨_, rfl⟩
            rw [hA] at d0 ⊢
            have hm13 := below_made w12 (.cells #[.int .i64 S, .int .i64 A] 67)
            have hg13 := World.alloc_heap_new w12 (.cells #[.int .i64 S, .int .i64 A] 67)
            have hc13 := hc12.trans (hm13.mono hc12.size)
            have d9 := below_cell hm13 d0
            have v0 := cls_blk hg13 0 (.int .i64 S) rfl
            have v1 := cls_blk hg13 1 (.int .i64 A) rfl
            have hw1 : IntKind.i64.wrap (S - (y : Int)) = (k : Int) := by rw [IntWalk.i64_in _ (by omega)]; omega
            have hw2 : IntKind.i64.wrap ((W : Int) - (k : Int)) = (W : Int) - (k : Int) := IntWalk.i64_in _ (by omega)
            have e1 : decide (0 ≤ (k : Int)) = true := decide_eq_true (by omega)
            have e2 : decide ((k : Int) ≤ (W : Int)) = true := decide_eq_true (by omega)
            have e3 : decide ((W : Int) - (k : Int) < (s : Int)) = true := decide_eq_true (by omega)
            have e4 : (A == A) = true := by simp
            have hkn : k < n := by omega
            obtain ⟨w13, hw13⟩ : ∃ w13, w12.alloc (.cells #[.int .i64 S, .int .i64 A] 67) = w13 := ⟨_, rfl⟩
            rw [hw13] at hc13 d9 v0 v1
            clear hm13 hg13 hc12 hfv hqx g1 g2 g3 hx d0 d1 d2 d3 d4 dx hl hb12 p12 p11 hc11 hS hA HSK
            go_upto_region 28 with fail
            go_quiet (fail)
            go_wp2_with fail
            go_ret
            exact ⟨by simp, below_dn hc13⟩
end Go.Proofs.YtffhejaeliphcaaDoor
