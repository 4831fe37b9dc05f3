/-
  The walk of the reference's Run. Condition: the first argument reads as bytes, no longer than 2^40.
-/
import Derived.Test.YtffhejaeliphcaaDoorMPrall
import Derived.Test.YtffhejaeliphcaaDoorMPsame
import Derived.Test.YtffhejaeliphcaaDoorMPrunst
namespace Go.Proofs.YtffhejaeliphcaaDoor
open Go.RowKit
set_option linter.unusedVariables false

theorem ar_r1 {a d : Nat} (h1 : a ≤ 1099511627776) (h2 : d ≤ 1099511627776) : wrap64 ((a : Int) + (d : Int)) = (a : Int) + (d : Int) := by unfold wrap64; omega
theorem ar_r2 {a d s : Nat} (h1 : a + s ≤ 1099511627776) (h2 : d ≤ 1099511627776) : wrap64 ((a : Int) + (d : Int) + (s : Int)) = ((a + d + s : Nat) : Int) := by unfold wrap64; omega
theorem ar_r3 {k m : Nat} (h : k < m) (h2 : m * 20 ≤ 1099511627776) : (k + 1) * 56 ≤ 140737488355328 := by omega
theorem ar_r4 {f : Int} {k : Nat} (h1 : ¬ f < 0) (h2 : ¬ 1099511627776 < f) (h3 : k ≤ 1099511627776) : wrap64 (f + (k : Int)) = f + (k : Int) := by unfold wrap64; omega
theorem ar_q {a s d L n : Nat} (hfit : a + s ≤ L - d) (hd : d ≤ L) (hl : L = n) (hn : n ≤ 1099511627776) : a + s ≤ 1099511627776 ∧ d ≤ 1099511627776 ∧ a ≤ 1099511627776 := by omega
theorem ar_k {k m : Nat} (h : k < m) (h2 : m * 20 ≤ 1099511627776) : k ≤ 1099511627776 := by omega
theorem goods_first {first most : Int} {qs : List Pc} {q : Pc} {L : List UInt8} (h : Goods first most qs) (ho : ∀ x ∈ qs, Pc.ok L x) (hq : fits first most qs.length q) (hoq : Pc.ok L q) : 0 ≤ first ∧ first ≤ 1099511627776 := by
  cases qs with
  | nil =>
    have h1 := hq.2.2
    have h2 := hoq.seq
    simp at h1
    omega
  | cons x r =>
    have h1 := (h 0 x rfl).2.2
    have h2 := (ho x (by simp)).seq
    simp at h1
    omega
theorem rrun_left {first most : Int} {d k : Nat} {xs : List It} {x : It} (hx : xs[k]? = some x) (hg : Goods first most ((xs.take k).map It.q)) (h : ¬ fits first most k x.q) : runG first most d 0 (xs.map It.q) = ((xs.take k).map (It.move d)).map It.q := by
  have hk : k < xs.length := (List.getElem?_eq_some_iff.1 hx).1
  have hl : (xs.take k).length = k := by rw [List.length_take]; omega
  have e : xs = (xs.take k ++ [x]) ++ xs.drop (k + 1) := by
    have h1 := List.take_append_drop (k + 1) xs
    rw [List.take_add_one, hx] at h1
    exact h1.symm
  have := run_left (d := d) hg (x := x) (by rw [hl]; exact h) ((xs.drop (k + 1)).map It.q)
  rw [← List.map_append, ← e, List.take_left' rfl] at this
  exact this
theorem rrun_all {first most : Int} {d : Nat} {xs : List It} (hg : Goods first most (xs.map It.q)) : runG first most d 0 (xs.map It.q) = (xs.map (It.move d)).map It.q := by
  have := runG_good (d := d) (xs.map It.q) [] 0 hg
  rw [List.append_nil, runG_nil, List.append_nil] at this
  rw [this, List.map_map, List.map_map]
  rfl
theorem goods_take {first most : Int} {k : Nat} {xs : List It} {x : It} (hx : xs[k]? = some x) (hg : Goods first most ((xs.take k).map It.q)) (h : fits first most k x.q) : Goods first most ((xs.take (k + 1)).map It.q) := by
  have hk : k < xs.length := (List.getElem?_eq_some_iff.1 hx).1
  rw [List.take_add_one, hx, List.map_append]
  exact hg.snoc (by rw [List.length_map, List.length_take, Nat.min_eq_left (Nat.le_of_lt hk)]; exact h)

set_option maxRecDepth 8000 in
set_option maxHeartbeats 4000000 in
theorem rrun_any (a : Option Addr) (n c : Nat) (l : List UInt8) (p first most : Int) (w : World) (hn : n ≤ 1099511627776) (r : RowAt w a n c 1 (l.map B)) :
    Calls Tryd.prog 29 #[.slice a n c, .int .i64 p, .int .i64 first, .int .i64 most] w (GivesRn w (runF l p first most)) := by
  have hln : l.length = n := by simpa using r.len
  have m1 := r.2.2.1
  have m2 := r.2.1
  unfold maxLen at m1
  by_cases hp : p < 0 ∨ (n : Int) < p
  · have hrf : runF l p first most = ([], 0) := by unfold runF; rw [if_pos (by rw [hln]; exact hp)]
    rw [hrf]
    go_enter Tryd.func29, Tryd.ntmps29
    by_cases h0 : p < 0
    · have t1 : decide (p < 0) = true := by simp [h0]
      go_wp2_with fail
      refine bodyPost_ret (results_tmp2 rfl _ _ _) rfl ?_
      exact ⟨[], none, 0, rfl, rfl, ⟨World.ownsRow_nil _ _ _ _, Bodies.nil _ _⟩, Below.refl _ _⟩
    · have t1 : decide (p < 0) = false := by simp; omega
      have t2 : decide ((n : Int) < p) = true := by simp; omega
      go_wp2_with fail
      refine bodyPost_ret (results_tmp2 rfl _ _ _) rfl ?_
      exact ⟨[], none, 0, rfl, rfl, ⟨World.ownsRow_nil _ _ _ _, Bodies.nil _ _⟩, Below.refl _ _⟩
  · obtain ⟨d, rfl⟩ : ∃ d : Nat, p = (d : Int) := ⟨p.toNat, by omega⟩
    have hdn : d ≤ n := by omega
    obtain ⟨a', hcut, r1⟩ := cut_from slB r d hdn
    rw [Nat.mul_one, ← List.map_drop] at r1
    have t1 : decide ((d : Int) < 0) = false := by simp
    have t2 : decide ((n : Int) < (d : Int)) = false := by simp; omega
    have HLD : Hid (d ≤ l.length) := Lib.hid (by omega)
    go_enter Tryd.func29, Tryd.ntmps29
    go_wp2_with fail
    (with_reducible refine (rall_any _ _ _ _ _ (by omega) r1).mono ?_)
    rintro e w1 ⟨xs, a1, c1, hxq, rfl, hps, hb1⟩
    have hprd := hps.rd rfl
    have hsc := scan_chain (l.drop d)
    have hoks := hsc.1.oks
    rw [← hxq] at hoks
    have HOK := Lib.hid hoks
    have hrf : runF l (d : Int) first most = (runG first most d 0 (xs.map It.q), endG d (runG first most d 0 (xs.map It.q))) := by
      unfold runF
      rw [if_neg (by omega), Int.toNat_natCast, hxq]
    have HRF := Lib.hid hrf
    have hle := hsc.1.le
    rw [← hxq, List.length_map, List.length_drop] at hle
    have hm56 : xs.length * 20 ≤ 1099511627776 := by omega
    obtain ⟨m, hm⟩ : ∃ m, xs.length = m := ⟨_, rfl⟩
    rw [hm] at hm56 hps hprd ⊢
    have HM := Lib.hid hm
    have hb0 := below_made w1 (.cells #[] 55)
    have ho0 := World.alloc_heap_new w1 (.cells #[] 55)
    clear hrf hsc hoks hle hxq hm hcut r1 t1 t2 hp hln hdn
    go_wp2_with fail
    go_loopw [13, 14, 37] (fun mv ev iv wr => ∃ (k E : Nat) (av : Option Addr) (cap : Nat), mv = .slice av k cap ∧ ev = .int .i64 (E : Int) ∧ iv = .int .i64 (k : Int) ∧ k ≤ m ∧ Hid (Goods first most ((xs.take k).map It.q)) ∧ Hid (E = endG d (((xs.take k).map (It.move d)).map It.q)) ∧ wr.ownsRow w1.heap.size 55 5 (.slice av k cap) k (((xs.take k).map (It.move d)).flatMap It.cells) ∧ Below w1.heap.size w1 wr) (fun _ _ iv _ => m - (intOf iv).toNat)
    case atStart => exact ⟨0, d, _, _, rfl, rfl, rfl, Nat.zero_le _, Lib.hid (fun j q h => by simp at h), Lib.hid rfl, ⟨rfl, .inr ⟨w1.heap.size, 0, #[], rfl, Nat.le_refl _, ho0, Nat.le_refl _, by decide, rfl, rfl⟩⟩, hb0⟩
    case round =>
      obtain ⟨k, E, av, cap, rfl, rfl, rfl, hk, HG, HE, hrow, hb⟩ := hrel
      clear hb0 ho0
      by_cases hlt : k < m
      · obtain ⟨b, off, x, rfl, hx, p0, p1, p2, p3, p4, px⟩ := (hprd.below hb).at k hlt
        have HX := Lib.hid hx
        have hkx : xs.length = m := HM.out
        have hok := HOK.out x.q (List.mem_map.2 ⟨x, List.mem_of_getElem? hx, rfl⟩)
        have hsq := hok.seq
        have hfit := hok.fits
        rw [List.length_drop] at hfit
        have hln : l.length = n := by simpa using r.len
        have hsz5 := hok.size
        have hq := ar_q hfit HLD.out hln hn
        have HHN := Lib.hid hn
        clear hx hfit hln hn m1
        have leave : ∀ W', Below wr.heap.size wr W' → ¬ fits first most k x.q → GivesRn w (runF l (d : Int) first most) (.returned (.tuple #[.slice av k cap, .int .i64 (E : Int)])) W' := fun W' hW hnf => by
          rw [HRF.out, rrun_left HX.out HG.out hnf, ← HE.out]
          have e : ((xs.take k).map (It.move d)).length = k := by rw [List.length_map, List.length_take, Nat.min_eq_left (by omega)]
          have hrow2 := own_below hrow hW
          have hb2 := hb.trans (hW.mono hb.size)
          refine ⟨(xs.take k).map (It.move d), av, cap, rfl, by rw [e], ⟨by rw [e]; exact own_mono hrow2 hb1.size, ?_⟩, hb1.trans (hb2.mono hb1.size)⟩
          have hbo : Bodies w.heap.size xs W' := fun y hy => own_below (hps.2 y hy) hb2
          exact bodies_move (k := k) hbo
        have HLV := Lib.hid leave
        clear leave hprd
        have HP0 := Lib.hid hps
        clear hps
        by_cases h0 : most ≤ (k : Int)
        · have e0 : decide (most ≤ (k : Int)) = true := decide_eq_true h0
          have HN : Hid (¬ fits first most k x.q) := Lib.hid (fun h => absurd h.1 (Int.not_lt.2 h0))
          clear hsz5 hq hsq h0
          go_wp2_with fail
          refine bodyPost_ret (results_tmp2 rfl _ _ _) rfl ?_; exact HLV.out _ (below_made _ _) HN.out
        · have e0 : decide (most ≤ (k : Int)) = false := decide_eq_false h0
          by_cases h1 : x.q.f.kind = 1
          · have e1 : ((x.q.f.kind : Int) != 1) = false := by rw [bne_eq_false_iff_eq]; omega
            have HK1 := Lib.hid h1
            clear h1
            by_cases h2 : first < 0
            · have e2 : decide (first < 0) = true := decide_eq_true h2
              have HN : Hid (¬ fits first most k x.q) := Lib.hid (fun h => absurd (goods_first HG.out (L := l.drop d) (fun y hy => HOK.out y (by obtain ⟨z, hz, rfl⟩ := List.mem_map.1 hy; exact List.mem_map.2 ⟨z, List.mem_of_mem_take hz, rfl⟩)) (by rw [List.length_map, List.length_take, Nat.min_eq_left (by omega)]; exact h) hok).1 (Int.not_le.2 h2))
              clear hsz5 hq hsq h0 h2
              go_wp2_with fail
              refine bodyPost_ret (results_tmp2 rfl _ _ _) rfl ?_; exact HLV.out _ (below_made _ _) HN.out
            · have e2 : decide (first < 0) = false := decide_eq_false h2
              by_cases h3 : 1099511627776 < first
              · have e3 : decide (1099511627776 < first) = true := decide_eq_true h3
                have HN : Hid (¬ fits first most k x.q) := Lib.hid (fun h => absurd (goods_first HG.out (L := l.drop d) (fun y hy => HOK.out y (by obtain ⟨z, hz, rfl⟩ := List.mem_map.1 hy; exact List.mem_map.2 ⟨z, List.mem_of_mem_take hz, rfl⟩)) (by rw [List.length_map, List.length_take, Nat.min_eq_left (by omega)]; exact h) hok).2 (Int.not_le.2 h3))
                clear hsz5 hq hsq h0 h2 h3
                go_wp2_with fail
                refine bodyPost_ret (results_tmp2 rfl _ _ _) rfl ?_; exact HLV.out _ (below_made _ _) HN.out
              · have e3 : decide (1099511627776 < first) = false := decide_eq_false h3
                by_cases h4 : (x.q.f.seq : Int) = first + (k : Int)
                · have e4 : ((x.q.f.seq : Int) != first + (k : Int)) = false := by rw [bne_eq_false_iff_eq]; omega
                  have HFT : Hid (fits first most k x.q) := Lib.hid ⟨Int.not_le.1 h0, HK1.out, h4⟩
                  have hadd := ar_r1 hq.2.2 hq.2.1
                  have hadd2 := ar_r2 hq.1 hq.2.1
                  have hw4 := ar_r4 h2 h3 (ar_k hlt hm56)
                  have hby := ar_r3 hlt hm56
                  have hlt2 := hrow.lt
                  have hm2 := below_made wr (.cells #[.int .i64 ((x.q.at' : Int) + (d : Int)), .int .i64 (x.q.size : Int), .int .i64 (x.q.f.kind : Int), .int .i64 (x.q.f.seq : Int), .slice x.a x.q.f.body.length x.c] 55)
                  have hm3 := below_made (wr.alloc (.cells #[.int .i64 ((x.q.at' : Int) + (d : Int)), .int .i64 (x.q.size : Int), .int .i64 (x.q.f.kind : Int), .int .i64 (x.q.f.seq : Int), .slice x.a x.q.f.body.length x.c] 55)) (.cells #[.int .i64 ((x.q.at' : Int) + (d : Int)), .int .i64 (x.q.size : Int), .int .i64 (x.q.f.kind : Int), .int .i64 (x.q.f.seq : Int), .slice x.a x.q.f.body.length x.c] 55)
                  have hbb := below_next hm2 hm3
                  have hrow3 := own_below hrow hbb
                  have hsrc3 := rowAt_lit (wr.alloc (.cells #[.int .i64 ((x.q.at' : Int) + (d : Int)), .int .i64 (x.q.size : Int), .int .i64 (x.q.f.kind : Int), .int .i64 (x.q.f.seq : Int), .slice x.a x.q.f.body.length x.c] 55)) [.int .i64 ((x.q.at' : Int) + (d : Int)), .int .i64 (x.q.size : Int), .int .i64 (x.q.f.kind : Int), .int .i64 (x.q.f.seq : Int), .slice x.a x.q.f.body.length x.c] 1 5 55 rfl (by decide)
                  rw [World.size_alloc] at hsrc3
                  have hp3 := below_blk2 hm3 (World.alloc_heap_new wr (.cells #[.int .i64 ((x.q.at' : Int) + (d : Int)), .int .i64 (x.q.size : Int), .int .i64 (x.q.f.kind : Int), .int .i64 (x.q.f.seq : Int), .slice x.a x.q.f.body.length x.c] 55))
                  have hbs := hb.trans (hbb.mono hb.size)
                  have hss : wr.heap.size < (wr.alloc (.cells #[.int .i64 ((x.q.at' : Int) + (d : Int)), .int .i64 (x.q.size : Int), .int .i64 (x.q.f.kind : Int), .int .i64 (x.q.f.seq : Int), .slice x.a x.q.f.body.length x.c] 55)).heap.size := by simp
                  clear hq hsq hsz5 hkx h4 h0 h2 h3 hm2 hbb hrow hb
                  go_wp2_with (at_builtin; refine wpList_app rfl _ _ 28 rfl slPl rfl hrow3 rfl hsrc3 (by simp [Value.oneCell']) hby hbs.size fun a4 c4 w4 hown4 hgr4 => ?_; have hp4 := (hgr4.block _ (lt_of_block hp3) (fun e => by have := (hlt2 _ e.symm).2; omega)).trans hp3; have d0 : _ = some (Value.int .i64 ((x.q.at' : Int) + (d : Int))) := cell_blk (j := 0) hp4 rfl; have d1 : _ = some (Value.int .i64 (x.q.size : Int)) := cell_blk (j := 1) hp4 rfl)
                  go_roundw
                  case rel =>
                    refine ⟨k + 1, x.q.at' + d + x.q.size, a4, c4, rfl, by first | rfl | (rw [hadd2]) | go_num, by go_num, by omega, Lib.hid (goods_take HX.out HG.out HFT.out), Lib.hid ?_, ?_, hbs.grown hgr4 hbs.size (own_block hrow3)⟩
                    · rw [List.take_add_one, HX.out, List.map_append, List.map_append]
                      show _ = endG d (_ ++ [Pc.move d x.q])
                      rw [endG_snoc]
                      rfl
                    · rw [List.take_add_one, HX.out, List.map_append, List.flatMap_append]
                      have e : It.cells (x.move d) = [.int .i64 ((x.q.at' : Int) + (d : Int)), .int .i64 (x.q.size : Int), .int .i64 (x.q.f.kind : Int), .int .i64 (x.q.f.seq : Int), .slice x.a x.q.f.body.length x.c] := by
                        unfold It.cells It.move Pc.move
                        simp
                      rw [← e] at hown4
                      simpa using hown4
                  case measure => simp [intOf]; omega
                · have e4 : ((x.q.f.seq : Int) != first + (k : Int)) = true := by rw [bne_iff_ne]; omega
                  have HN : Hid (¬ fits first most k x.q) := Lib.hid (fun h => h4 h.2.2)
                  have hw4 := ar_r4 h2 h3 (ar_k hlt hm56)
                  clear hsz5 hq hsq h0 h2 h3 h4
                  go_wp2_with fail
                  refine bodyPost_ret (results_tmp2 rfl _ _ _) rfl ?_; exact HLV.out _ (below_made _ _) HN.out
          · have e1 : ((x.q.f.kind : Int) != 1) = true := by rw [bne_iff_ne]; omega
            have HN : Hid (¬ fits first most k x.q) := Lib.hid (fun h => h1 h.2.1)
            clear hsz5 hq hsq h0 h1
            go_wp2_with fail
            refine bodyPost_ret (results_tmp2 rfl _ _ _) rfl ?_; exact HLV.out _ (below_made _ _) HN.out
      · obtain rfl : k = m := by omega
        have hall : xs.take xs.length = xs := List.take_length
        have hkx := HM.out
        have hg := HG.out
        have he := HE.out
        rw [← hkx, hall] at hg he hrow
        have HR := Lib.hid (rrun_all (d := d) hg)
        have HE2 := Lib.hid he
        clear hg he hall
        go_wp2_with fail
        refine bodyPost_ret (results_tmp2 rfl _ _ _) rfl ?_
        rw [HRF.out, HR.out, ← HE2.out]
        have e : (xs.map (It.move d)).length = xs.length := List.length_map _
        have hb2 := hb
        refine ⟨xs.map (It.move d), av, cap, rfl, by rw [e, hkx]; rfl, ⟨by rw [e]; exact own_mono hrow hb1.size, ?_⟩, hb1.trans (hb.mono hb1.size)⟩
        have hbo : Bodies w.heap.size xs wr := fun y hy => own_below (hps.2 y hy) hb
        have hbm := bodies_move (d := d) (k := xs.length) hbo
        rwa [List.take_length] at hbm
end Go.Proofs.YtffhejaeliphcaaDoor
