/-
  The walk of SegmentTorn. Conditions: the bodies read as slices of bytes, within the statement's own bound; the program's table of nibbles holds what its text lays.
-/
import Derived.Test.YtffhejaeliphcaaDoorMGt
import Derived.Test.YtffhejaeliphcaaDoorMHh
import Derived.Test.YtffhejaeliphcaaDoorMLawBss
import Derived.Deep.DeepCutAuto
import Derived.Deep.CutBlock
namespace Go.Proofs.YtffhejaeliphcaaDoor
open Go.RowKit
set_option linter.unusedVariables false

theorem cls_blk {w : World} {b : Nat} {cs : Array Value} {t : TypeId} (h : w.heap[b]? = some (.cells cs t (0, 0))) (j : Nat) (v : Value) (hv : cs[j]? = some v) : w.cell? ⟨b, j, none⟩ = some v := cell_blk h hv
theorem few_facts {num first : Int} {n : Nat} {bs : List Bs} (h : fewB num first bs = true) (hl : bs.length = n) : ∃ x y : Nat, num = (x : Int) ∧ first = (y : Int) ∧ FewP x y n bs := by
  obtain ⟨h1, h2, h3, h4, h5, h6, h7⟩ := fewB_iff.1 h
  exact ⟨num.toNat, first.toNat, by omega, by omega, ⟨by omega, by omega, by omega, by omega, by omega, by omega, h7⟩⟩
theorem bss_len {a : Option Addr} {n c : Nat} {bs : List Bs} {W : World} (r : BssRd a n c bs W) (h : ∀ x ∈ bs, x.n ≤ 16384) : ∀ l ∈ bs.map Bs.l, l.length ≤ 16384 := by
  intro l hl
  obtain ⟨x, hx, rfl⟩ := List.mem_map.1 hl
  have h1 : x.l.length = x.n := by simpa using (r.2 x hx).len
  have := h x hx
  omega
theorem segL_take_le (num first : Nat) (ls : List (List UInt8)) (k : Nat) : (segL num first (ls.take k)).length ≤ (segL num first ls).length := by
  rw [segL_cons, segL_cons, List.length_append, List.length_append, ← Nat.add_zero first, ← evs_take]
  have := layN_take_le (evsN (first + 0) ls) k
  omega
theorem segL_bound {num first : Nat} {ls : List (List UInt8)} (h1 : num ≤ 999999) (h2 : first ≤ 549755813888) (hl : ls.length ≤ 512) (hb : ∀ l ∈ ls, l.length ≤ 16384) : (segL num first ls).length ≤ 8398888 ∧ (hdrFr num first).bytes.length ≤ 40 := by
  have hr := evs_right (first := first) h2 ls 0 (by omega) hb
  rw [Nat.add_zero] at hr
  have hle := layN_len_le hr
  rw [evsN_len] at hle
  have hbl := (hdrFr num first).bytes_len
  have htl := twoN_len num first (by omega) (by omega)
  have h9 : (hdrFr num first).bytes.length ≤ 40 := by rw [hbl]; show 20 + (twoN num first).length ≤ 40; omega
  rw [segL_cons, List.length_append]
  omega

set_option maxRecDepth 8000 in
set_option maxHeartbeats 3200000 in
theorem gtorn_walk (num first : Int) (v : Value) (bs : List Bs) (cut : Int) (w : World) (i0 : -9223372036854775808 ≤ num) (i1 : num ≤ 9223372036854775807) (j0 : -9223372036854775808 ≤ first) (j1 : first ≤ 9223372036854775807) (hv : BssArg w v bs) (p0 : -9223372036854775808 ≤ cut) (p1 : cut ≤ 9223372036854775807) (ht : Tab w) :
    Calls Tryd.prog 4 #[.int .i64 num, .int .i64 first, v, .int .i64 cut] w fun e w' => e = .returned (.bool true) ∧ Below w.heap.size w w' := by
  obtain ⟨⟨a, n, c, rfl, hn, r⟩⟩ := hv
  have hl := r.len
  have HL := Lib.hid hl
  clear hl p0 p1 i0 i1 j0 j1
  go_enter Tryd.func4, Tryd.ntmps4
  go_wp2_with fail
  (with_reducible refine (hhead_any _ ht).mono ?_)
  rintro e w1 ⟨rfl, hb1⟩
  have r1 := r.below hb1
  have t1 := ht.below hb1
  go_wp2_with fail
  (with_reducible refine (few_any num first a n c bs _ r1).mono ?_)
  rintro e w2 ⟨rfl, rfl⟩
  cases hfw : fewB num first bs with
  | false =>
    go_wp2_with fail
    go_ret
    exact ⟨rfl, hb1⟩
  | true =>
    obtain ⟨x, y, rfl, rfl, hf⟩ := few_facts hfw HL.out
    have hlb := bss_len r1 hf.bd
    have HF := Lib.hid hf
    obtain ⟨f1, f2, f3, f4, f5, f6, -⟩ := hf
    clear hfw
    go_wp2_with fail
    (with_reducible refine (glaid_any x y a n c bs _ HF.out r1 t1).mono ?_)
    rintro e w3 ⟨ab, cb, ae, ce, rfl, hob, hoe, hb3⟩
    have t3 := t1.below hb3
    have hc3 := below_next hb1 hb3
    obtain ⟨ls, hls⟩ : ∃ ls, bs.map Bs.l = ls := ⟨_, rfl⟩
    rw [hls] at hlb hob hoe ⊢
    have hll : ls.length = n := by rw [← hls, List.length_map, HL.out]
    have hbd := segL_bound (num := x) (first := y) (ls := ls) f2 f4 (by omega) hlb
    have hst := fun C k hk h1 h2 h3 => seg_torn (num := x) (first := y) (C := C) (k := k) (ls := ls) f1 f2 f3 f4 (by omega) hlb hk h1 h2 h3
    have hh0 : (segL x y (ls.take 0)).length = (hdrFr x y).bytes.length := by rw [segL_cons]; simp [evsN, layN]
    have h0le := segL_take_le x y ls 0
    rw [hh0] at h0le
    obtain ⟨L, hL⟩ : ∃ L, segL x y ls = L := ⟨_, rfl⟩
    obtain ⟨N, hN⟩ : ∃ N, L.length = N := ⟨_, rfl⟩
    obtain ⟨hd, hhd⟩ : ∃ hd, (hdrFr x y).bytes.length = hd := ⟨_, rfl⟩
    rw [hL, hN] at hob hbd h0le ⊢
    rw [hhd] at hbd h0le hh0
    rw [hL] at hst
    have rb := own_rowAt hob
    have re := own_rowAt hoe
    have mb1 := rb.2.2.1
    have mb2 := rb.2.1
    unfold maxLen at mb1
    have hN40 : N ≤ 1099511627776 := by omega
    have HST := Lib.hid hst
    have HLL := Lib.hid hll
    have HH0 := Lib.hid hh0
    have HN := Lib.hid hN
    have hP : hdrP (x : Int) (y : Int) = ((hdrFr x y).bytes, 0) := by
      rw [hdrP_yes ((rightB_iff _ _).2 ⟨by omega, by omega, by omega, by omega⟩)]
      rfl
    have hhw := header_any (x : Int) (y : Int) w3 t3
    rw [hP] at hhw
    unfold GivesE at hhw
    simp only at hhw
    rw [hhd] at hhw
    have HHW := Lib.hid hhw
    clear hls hll hst hL hN hhd hh0 hlb hb1 hb3 r1 t1 hob hoe hP hhw
    go_wp2_with fail
    (with_reducible refine (HHW.out).mono ?_)
    rintro e w4 ⟨ah, ch, rfl, hoh, hb4⟩
    have t4 := t3.below hb4
    have rb4 := rb.below hb4
    have re4 := re.below hb4
    have hc4 := below_next hc3 hb4
    clear rb re hc3 t3 hb4 HHW hoh
    obtain ⟨bb, hbb⟩ : ∃ bb, decide (cut < (hd : Int) ∨ (N : Int) < cut) = bb := ⟨_, rfl⟩
    go_upto_region 9 with fail
    go_cut [51] (fun s wx => s = .bool bb ∧ wx = w4)
    case first =>
      by_cases h1 : cut < (hd : Int)
      · have hb : bb = true := by rw [← hbb]; exact decide_eq_true (.inl h1)
        subst hb
        go_wp2_with fail
        go_meet
        exact ⟨rfl, by trivial⟩
      · have hb : decide ((N : Int) < cut) = bb := by rw [← hbb]; simp [h1]
        subst hb
        go_wp2_with fail
        go_meet
        exact ⟨by simp, by trivial⟩
    case rest =>
      obtain ⟨rfl, rfl⟩ := hcut
      have HBB := Lib.hid hbb
      clear hbb
      go_upto_if 51 with fail
      go_cut [3] (fun s wx => ∃ C : Nat, s = .int .i64 (C : Int) ∧ hd ≤ C ∧ C ≤ N ∧ wx = wc)
      case first =>
        cases bb with
        | true =>
          go_wp2_with fail
          go_meet
          exact ⟨N, rfl, h0le, Nat.le_refl _, by trivial⟩
        | false =>
          have h := of_decide_eq_false HBB.out
          go_wp2_with fail
          go_meet
          exact ⟨cut.toNat, by rw [Int.toNat_of_nonneg (by omega)], by omega, by omega, by trivial⟩
      case rest =>
        obtain ⟨C, rfl, hC1, hC, rfl⟩ := hcut
        clear HBB
        go_upto_block 0 with fail
        go_cut [14, 15] (fun s14 s15 wx => ∃ k G : Nat, s14 = .int .i64 (k : Int) ∧ s15 = .int .i64 (G : Int) ∧ k ≤ n ∧ Hid ((segL x y (ls.take k)).length = G) ∧ G ≤ C ∧ Hid (k < n → C < (segL x y (ls.take (k + 1))).length) ∧ wx = wc)
        case first =>
          go_wp2_with fail
          go_loopw [14, 15] (fun kv gv wr => ∃ k G : Nat, kv = .int .i64 (k : Int) ∧ gv = .int .i64 (G : Int) ∧ k ≤ n ∧ Hid ((segL x y (ls.take k)).length = G) ∧ G ≤ C ∧ wr = wc) (fun kv _ _ => n - (intOf kv).toNat)
          case atStart => exact ⟨0, hd, rfl, rfl, Nat.zero_le _, HH0, hC1, rfl⟩
          case round =>
            obtain ⟨k, G, rfl, rfl, hk, HGk, hGC, rfl⟩ := hrel
            by_cases hkn : k < n
            · obtain ⟨b, off, E, rfl, hE, hce⟩ := re4.elem k hkn
              have hE2 : E = (segL x y (ls.take (k + 1))).length := by
                rw [endsS_at (by rw [HLL.out]; exact hkn)] at hE
                exact (Option.some.inj hE).symm
              have HE := Lib.hid hE2
              have hcE : wr.cell? ⟨b, off + k, none⟩ = some (.int .i64 (E : Int)) := hce
              have me1 := re4.2.1
              have me2 := re4.2.2.1
              unfold maxLen at me2
              clear hE hE2 hce
              by_cases hEC : E ≤ C
              · have e1 : decide ((E : Int) ≤ (C : Int)) = true := decide_eq_true (by omega)
                go_wp2_with fail
                go_roundw
                case rel => exact ⟨k + 1, E, by go_num, rfl, by omega, Lib.hid HE.out.symm, by omega, by trivial⟩
                case measure => simp [intOf]; omega
              · have e1 : decide ((E : Int) ≤ (C : Int)) = false := decide_eq_false (by omega)
                go_wp2_with fail
                go_meet
                exact ⟨k, G, rfl, rfl, hk, HGk, hGC, Lib.hid fun _ => by rw [← HE.out]; omega, by trivial⟩
            · go_wp2_with fail
              go_meet
              exact ⟨k, G, rfl, rfl, hk, HGk, hGC, Lib.hid fun h => (hkn h).elim, by trivial⟩
        case rest =>
          obtain ⟨k, G, rfl, rfl, hk, HGk, hGC, HMX, rfl⟩ := hcut
          have hsc := HST.out C k (by rw [HLL.out]; exact hk) (by rw [HGk.out]; exact hGC) (by rw [HN.out]; exact hC) (fun h => HMX.out (by rw [← HLL.out]; exact h))
          rw [HGk.out] at hsc
          have hQl : ((pcsN 0 (evsN y (ls.take k))).map (Pc.move (hdrFr x y).bytes.length)).length = k := by
            rw [List.length_map, pcsN_len, evsN_len, List.length_take, HLL.out]; omega
          obtain ⟨Q, hQ⟩ : ∃ Q, (pcsN 0 (evsN y (ls.take k))).map (Pc.move (hdrFr x y).bytes.length) = Q := ⟨_, rfl⟩
          rw [hQ] at hsc hQl
          have HS := Lib.hid hsc
          have HQL := Lib.hid hQl
          have hcut := fun wx => run_cut0 (a := ab) (n := N) (cap := cb) slB wx C (Nat.le_trans hC mb2)
          have rc := rowB_upto rb4 hC
          clear hsc hQl hQ HMX HGk HST rb4
          go_wp2_with fail
          (with_reducible refine (sscan_any _ _ _ _ _ (by omega) rc t4).mono ?_)
          rintro e w5 ⟨xs, ax, cx, am, cm, hxq, rfl, hps, hom, hb5⟩
          rw [HS.out] at hxq hom ⊢
          simp only at hxq hom ⊢
          have hxl : xs.length = k := by
            have := congrArg List.length hxq
            rw [List.length_map, HQL.out] at this
            exact this
          rw [hxl]
          have hc5 := below_next hc4 hb5
          unfold sgRow
          simp only [List.length_nil]
          have hm6 := below_made w5 (.cells #[.int .i64 (x : Int), .int .i64 (y : Int), .int .i64 (k : Int), .bool false, .int .i64 0, .slice am 0 cm, .int .i64 (G : Int)] 27)
          have hg6 := World.alloc_heap_new w5 (.cells #[.int .i64 (x : Int), .int .i64 (y : Int), .int .i64 (k : Int), .bool false, .int .i64 0, .slice am 0 cm, .int .i64 (G : Int)] 27)
          have hc6 := below_next hc5 hm6
          have z0 := cls_blk hg6 0 (.int .i64 (x : Int)) rfl
          have z1 := cls_blk hg6 1 (.int .i64 (y : Int)) rfl
          have z2 := cls_blk hg6 2 (.int .i64 (k : Int)) rfl
          have z3 := cls_blk hg6 3 (.bool false) rfl
          have z6 := cls_blk hg6 6 (.int .i64 (G : Int)) rfl
          have q0 : ((k : Int) == (k : Int)) = true := by simp
          have q1 : ((G : Int) == (G : Int)) = true := by simp
          have q2 : ((x : Int) == (x : Int)) = true := by simp
          have q3 : ((y : Int) == (y : Int)) = true := by simp
          clear hps hom hxq hxl hm6 hg6 hcut rc t4 HQL HS hb5 hc5 hc4
          go_wp2_with fail
          go_ret
          exact ⟨by simp, hc6⟩
end Go.Proofs.YtffhejaeliphcaaDoor
