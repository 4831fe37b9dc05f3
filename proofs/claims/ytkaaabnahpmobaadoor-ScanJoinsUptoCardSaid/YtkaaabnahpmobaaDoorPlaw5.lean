/-
  The walk of ScanJoins. Conditions: the arguments read as frames and as bytes, within the statement's own bound; the program's table of nibbles holds what its text lays.
-/
import Derived.Test.YtkaaabnahpmobaaDoorPhead
import Derived.Test.YtkaaabnahpmobaaDoorPtorn
import Derived.Test.YtkaaabnahpmobaaDoorLawFis
import Derived.Test.YtkaaabnahpmobaaDoorPrunst
namespace Go.Proofs.YtkaaabnahpmobaaDoor
open Go.RowKit
set_option linter.unusedVariables false

def It.shift (d : Nat) (x : It) : It := { x with q := { x.q with at' := d + x.q.at' } }
theorem cells_set (d : Nat) : ∀ (zs : List It) (j : Nat) (x : It), zs[j]? = some x → (zs.flatMap It.cells).set (j * 5) (.int .i64 ((d + x.q.at' : Nat) : Int)) = (zs.set j (x.shift d)).flatMap It.cells
  | [], j, x, h => by simp at h
  | z :: zs, 0, x, h => by
    simp at h
    subst h
    rw [List.flatMap_cons, List.set_cons_zero, List.flatMap_cons]
    rfl
  | z :: zs, j + 1, x, h => by
    have ih := cells_set d zs j x (by simpa using h)
    rw [List.flatMap_cons, List.set_cons_succ, List.flatMap_cons, ← ih, show (j + 1) * 5 = j * 5 + 5 by omega]
    show (_ :: _ :: _ :: _ :: _ :: _ : List Value).set (j * 5 + 5) _ = _
    rfl
theorem cells_at : ∀ (zs : List It) (j : Nat) (x : It), zs[j]? = some x → (zs.flatMap It.cells)[j * 5]? = some (.int .i64 (x.q.at' : Int))
  | [], j, x, h => by simp at h
  | z :: zs, 0, x, h => by
    simp at h
    subst h
    rw [List.flatMap_cons]
    rfl
  | z :: zs, j + 1, x, h => by
    have ih := cells_at zs j x (by simpa using h)
    rw [List.flatMap_cons, ← ih, show (j + 1) * 5 = j * 5 + 5 by omega]
    rfl
theorem shift_step (d : Nat) {xs : List It} {j : Nat} {x : It} (h : xs[j]? = some x) : ((xs.take j).map (It.shift d) ++ xs.drop j).set j (x.shift d) = (xs.take (j + 1)).map (It.shift d) ++ xs.drop (j + 1) := by
  obtain ⟨hl, hx⟩ := List.getElem?_eq_some_iff.1 h
  have hlen : ((xs.take j).map (It.shift d)).length = j := by rw [List.length_map, List.length_take]; omega
  rw [List.set_append_right _ _ (by omega), hlen, Nat.sub_self, List.drop_eq_getElem_cons hl, List.set_cons_zero, List.take_add_one, List.getElem?_eq_getElem hl, hx, List.map_append, List.append_assoc]
  rfl
theorem shift_at (d : Nat) {xs : List It} {j : Nat} {x : It} (h : xs[j]? = some x) : ((xs.take j).map (It.shift d) ++ xs.drop j)[j]? = some x := by
  obtain ⟨hl, hx⟩ := List.getElem?_eq_some_iff.1 h
  have hlen : ((xs.take j).map (It.shift d)).length = j := by rw [List.length_map, List.length_take]; omega
  rw [List.getElem?_append_right (by omega), hlen, Nat.sub_self, List.getElem?_drop, Nat.add_zero, h]
theorem shift_mem {d : Nat} {xs : List It} {j : Nat} {P : It → Prop} (h : ∀ x ∈ xs, P x) (hs : ∀ x, P x → P (x.shift d)) : ∀ x ∈ (xs.take j).map (It.shift d) ++ xs.drop j, P x := fun x hx => by
  rcases List.mem_append.1 hx with hx | hx
  · obtain ⟨y, hy, rfl⟩ := List.mem_map.1 hx
    exact hs y (h y (List.mem_of_mem_take hy))
  · exact h x (List.mem_of_mem_drop hx)

theorem cells_drop (ys : List It) (n : Nat) : (ys.drop n).flatMap It.cells = (ys.flatMap It.cells).drop (n * 5) := by
  induction ys generalizing n with
  | nil => simp
  | cons y ys ih =>
    cases n with
    | zero => simp
    | succ n =>
      rw [List.drop_succ_cons, ih, List.flatMap_cons, show (n + 1) * 5 = n * 5 + 5 by omega]
      rfl
theorem PlsAt.within' {lo : Nat} {v : Value} {xs : List It} {W W' : World} (h : PlsAt lo v xs W) (hk : ∀ g, lo ≤ g → g < W.heap.size → W'.heap[g]? = W.heap[g]?) : PlsAt lo v xs W' :=
  ⟨own_on h.1 fun g cs _ hb hw => (hk g hb (lt_of_block hw)).trans hw, fun x hx => own_on (h.2 x hx) fun g cs _ hb hw => (hk g hb (lt_of_block hw)).trans hw⟩
theorem PlsAt.rd' {lo : Nat} {a : Option Addr} {n c : Nat} {xs : List It} {W : World} (h : PlsAt lo (.slice a n c) xs W) (hn : xs.length = n) : PlsRd a n c xs W := by
  subst hn
  exact ⟨own_rowAt h.1, fun x hx => own_rowAt (h.2 x hx)⟩

set_option maxRecDepth 8000 in
set_option maxHeartbeats 6400000 in
theorem joins_walk (v : Value) (fs : List FI) (a1 : Option Addr) (n1 c1 : Nat) (l : List UInt8) (w : World) (hv : FisArg w v fs) (r1 : RowAt w a1 n1 c1 1 (l.map B)) (hs : n1 ≤ 1048576) (ht : Tab w) :
    Calls Tryd.prog 8 #[v, .slice a1 n1 c1] w fun e w' => e = .returned (.bool true) ∧ Below w.heap.size w w' := by
  obtain ⟨⟨a, n, c, rfl, hn, r⟩, hbd, -⟩ := hv
  have hl := r.len
  have HL := Lib.hid hl
  have hml : l.length = n1 := by simpa using r1.len
  have HML := Lib.hid hml
  clear hl hml
  go_enter Tryd.func8, Tryd.ntmps8
  go_wp2_with fail
  (with_reducible refine (phead_any _ ht).mono ?_)
  rintro e w1 ⟨rfl, hb1⟩
  have rf := r.below hb1
  have rl := r1.below hb1
  have t1 := ht.below hb1
  go_wp2_with fail
  (with_reducible refine (plaid_any a n c fs _ hn rf hbd t1).mono ?_)
  rintro e w2 (⟨hok, ab, cb, ae, ce, rfl, hob, hoe, hb2⟩ | ⟨rfl, hb2⟩)
  · have rl2 := rl.below hb2
    have t2 := t1.below hb2
    have hc2 := below_next hb1 hb2
    obtain ⟨gs, hgs⟩ : ∃ gs, fs.map FI.fr = gs := ⟨_, rfl⟩
    have hgl : gs.length = n := by rw [← hgs, List.length_map, HL.out]
    have hgr : ∀ g ∈ gs, g.right := by
      rw [← hgs]; intro g hg
      obtain ⟨x, hx, rfl⟩ := List.mem_map.1 hg
      exact (hok x hx).1
    have hNle := layN_le hgr
    have hsc := scanF_lay hgr l
    rw [hgs, HL.out] at hoe ⊢
    rw [hgs] at hob
    obtain ⟨L, hL⟩ : ∃ L, layN gs = L := ⟨_, rfl⟩
    obtain ⟨N, hN⟩ : ∃ N, L.length = N := ⟨_, rfl⟩
    rw [hL, hN] at hob hNle hsc ⊢
    rw [hgl] at hNle
    have hN40 : N ≤ 17201364992 := by omega
    obtain ⟨y, hy⟩ : ∃ y, scanF l = y := ⟨_, rfl⟩
    rw [hy] at hsc
    obtain ⟨P, p, er⟩ := y
    simp only at hsc
    have HSL := Lib.hid hy
    have HSJ := Lib.hid hsc
    have HN := Lib.hid hN
    have HPL : Hid ((pcsN 0 gs).length = n) := Lib.hid (by rw [pcsN_len, hgl])
    have rb := own_rowAt hob
    clear hgs hL hN hgl hgr hok hNle hb1 hb2 rf rl t1 hob hoe hsc hy r1 r
    go_wp2_with fail
    (with_reducible refine (copy_any _ _ _ l _ (by omega) rl2).mono ?_)
    rintro e w3 ⟨a3, c3, rfl, ho3, hb3⟩
    rw [HML.out] at ho3 ⊢
    have q3 := own_rowAt ho3
    have t3 := t2.below hb3
    have rl3 := rl2.below hb3
    have rb3 := rb.below hb3
    have hc3 := below_next hc2 hb3
    clear ho3 hb3 t2 rl2 rb hc2
    go_wp2_with fail
    (with_reducible refine (sall_any _ _ _ l _ (by omega) q3 t3).mono ?_)
    rintro e w4 ⟨xs, a4, c4, hxq, rfl, hpx, hb4⟩
    rw [HSL.out] at hxq ⊢
    simp only at hxq ⊢
    have t4 := t3.below hb4
    have rl4 := rl3.below hb4
    have rb4 := rb3.below hb4
    have hc4 := below_next hc3 hb4
    have hz3 := hc3.size
    obtain ⟨B3, hB3⟩ : ∃ B3, w3.heap.size = B3 := ⟨_, rfl⟩
    rw [hB3] at hpx hz3
    clear q3 t3 rl3 rb3 hc3 hb4 hB3
    go_wp2_with fail
    (with_reducible refine (copy_any _ _ _ L _ (by omega) rb4).mono ?_)
    rintro e w5 ⟨a5, c5, rfl, ho5, hb5⟩
    rw [HN.out] at ho5 ⊢
    have t5 := t4.below hb5
    have rl5 := rl4.below hb5
    have hc5 := below_next hc4 hb5
    have hro5 := own_below hpx.1 hb5
    have hbo5 : Bodies B3 xs w5 := fun x hx => own_below (hpx.2 x hx) hb5
    have hz5 := hb5.size
    have hxlt := hpx.1.lt
    have hblt : ∀ x ∈ xs, ∀ g, (Value.slice x.a x.q.f.body.length x.c).ownBlock = some g → g < w4.heap.size := fun x hx g hg => ((hpx.2 x hx).lt g hg).2
    have hz4 := hc4.size
    obtain ⟨B4, hB4⟩ : ∃ B4, w4.heap.size = B4 := ⟨_, rfl⟩
    rw [hB4] at ho5 hz5 hxlt hblt hz4
    clear t4 rl4 rb4 hc4 hb5 hpx hB4
    go_wp2_with (at_builtin; refine wpList_app rfl _ _ 22 rfl slB rfl ho5 rfl rl5 (B_one _) (by omega) hz5 fun a6 c6 w6 ho6 hg6 => ?_)
    have hc6 := hc5.grown hg6 hc5.size (fun k hk => by have := own_block ho5 k hk; omega)
    have t6 : Tab w6 := ht.below hc6
    have hro6 := own_else hro5 ho5 rfl hg6
    have hbo6 : Bodies B3 xs w6 := fun x hx => own_on (hbo5 x hx) fun g cs hg hb hw => (hg6.block g (lt_of_block hw) fun e => by have := own_block ho5 g e.symm; have := hblt x hx g hg; omega).trans hw
    have r6 : RowAt w6 a6 (N + n1) c6 1 ((L ++ l).map B) := by rw [List.map_append]; exact own_rowAt ho6
    have hz6 := hg6.size
    clear hro5 hbo5 ho5 hg6 rl5 t5 hc5 ho6
    go_wp2_with fail
    (with_reducible refine (sall_any _ _ _ (L ++ l) _ (by omega) r6 t6).mono ?_)
    rintro e w7 ⟨ys, a7, c7, hyq, rfl, hpy, hb7⟩
    rw [HSJ.out] at hyq ⊢
    simp only at hyq ⊢
    have hro7 := own_below hro6 hb7
    have hbo7 : Bodies B3 xs w7 := fun x hx => own_below (hbo6 x hx) hb7
    have hc7 := below_next hc6 hb7
    have hyl : ys.length = n + xs.length := by
      have h1 := congrArg List.length hyq
      have h2 := congrArg List.length hxq
      rw [List.length_append, List.length_map, List.length_map, HPL.out] at h1
      rw [List.length_map] at h2
      omega
    obtain ⟨nx, hnx⟩ : ∃ nx, xs.length = nx := ⟨_, rfl⟩
    rw [hnx] at hro7 hyl hxlt ⊢
    have hpy' : PlsAt w6.heap.size (.slice a7 (n + nx) c7) ys w7 := by rw [hyl] at hpy; exact hpy
    have hch := (scan_chain l).1
    rw [HSL.out] at hch
    have hp1 := hch.le.1
    have hp2 := hch.le.2
    simp only at hp1 hp2
    rw [HML.out] at hp1
    have HPB : Hid (∀ x ∈ xs, x.q.at' ≤ n1) := Lib.hid fun x hx => by
      have h1 := (hch.oks x.q (by rw [← hxq]; exact List.mem_map_of_mem hx)).fits
      rw [HML.out] at h1
      omega
    have hpl : P.length = nx := by rw [← hnx, ← hxq, List.length_map]
    rw [hpl] at hp2
    have HXQ := Lib.hid hxq
    have HYQ := Lib.hid hyq
    have HNX := Lib.hid hnx
    have HYL := Lib.hid hyl
    have e1 : (((N + p : Nat) : Int) != ((N : Int) + (p : Int))) = false := by rw [bne_eq_false_iff_eq]; omega
    have e2 : ((er : Int) != (er : Int)) = false := by simp
    have e3 : (((n + nx : Nat) : Int) != ((n : Int) + (nx : Int))) = false := by rw [bne_eq_false_iff_eq]; omega
    rw [hyl]
    clear hro6 hbo6 r6 t6 hc6 hb7 hxq hyq hnx hyl hpy hch hpl ht
    go_wp2_with fail
    have hro0 : w7.ownsRow B3 36 5 (.slice a4 nx c4) nx (((xs.take 0).map (It.shift N) ++ xs.drop 0).flatMap It.cells) := hro7
    have hg0 := grownBy_refl w7 (Value.slice a4 nx c4).ownBlock
    go_loopw [64] (fun iv wr => ∃ j : Nat, iv = .int .i64 (j : Int) ∧ j ≤ nx ∧ wr.ownsRow B3 36 5 (.slice a4 nx c4) nx (((xs.take j).map (It.shift N) ++ xs.drop j).flatMap It.cells) ∧ w7.grownBy wr (Value.slice a4 nx c4).ownBlock) (fun iv _ => nx - (intOf iv).toNat)
    case atStart => exact ⟨0, rfl, Nat.zero_le _, hro0, hg0⟩
    case round =>
      clear hro0 hg0
      obtain ⟨j, rfl, hj, hro, hg⟩ := hrel
      by_cases hjn : j < nx
      · obtain ⟨g, rfl⟩ := own_some hro (by omega)
        obtain ⟨x, hx⟩ : ∃ x, xs[j]? = some x := ⟨_, List.getElem?_eq_getElem (by rw [HNX.out]; exact hjn)⟩
        have hat := shift_at N hx
        have hxb := HPB.out x (List.mem_of_getElem? hx)
        have hc0 := hro.cellAt (j * 5) (by omega)
        rw [cells_at _ _ _ hat] at hc0
        have hf0 := hro.frozenAt (j * 5)
        obtain ⟨hst, hgs⟩ := hro.stored (j * 5) (.int .i64 ((N + x.q.at' : Nat) : Int))
        rw [cells_set N _ _ _ hat, shift_step N hx] at hst
        have hsum : wrap64 ((x.q.at' : Int) + (N : Int)) = ((N + x.q.at' : Nat) : Int) := by unfold wrap64; omega
        have hg2 := grownBy_trans hg hgs
        have u1 := (own_rowAt hro).2.1
        have u2 := (own_rowAt hro).2.2.1
        unfold maxLen at u2
        have HST := Lib.hid hst
        have HG2 := Lib.hid hg2
        clear hro hg hgs hat hx hst hg2 hxlt hro7 hpy' hbo7 hc7 hblt e1 e2 e3
        go_wp2_with fail
        go_roundw
        case rel => exact ⟨j + 1, by go_num, by omega, HST.out, HG2.out⟩
        case measure => simp [intOf]; omega
      · obtain rfl : j = nx := by omega
        rw [List.take_of_length_le (by rw [HNX.out]; exact Nat.le_refl _), List.drop_of_length_le (by rw [HNX.out]; exact Nat.le_refl _), List.append_nil] at hro
        have hcW := hc7.grown hg hc7.size (fun k hk => by have := (hxlt k hk).1; omega)
        have hyW : PlsAt w6.heap.size (.slice a7 (n + j) c7) ys wr := hpy'.within' fun g h1 h2 => hg.block g h2 fun e => by have := (hxlt g e.symm).2; omega
        have hyr : PlsRd a7 (n + j) c7 ys wr := hyW.rd' HYL.out
        obtain ⟨a8, hcut, r8⟩ := cut_from slPl hyr.1 n (by omega)
        rw [show n + j - n = j by omega] at hcut r8
        rw [← cells_drop] at r8
        have hy8 : PlsRd a8 j (c7 - n) (ys.drop n) wr := ⟨r8, fun x hx => hyr.2 x (List.mem_of_mem_drop hx)⟩
        have hx8 : PlsRd a4 j c4 (xs.map (It.shift N)) wr := ⟨own_rowAt hro, fun x hx => by
          obtain ⟨y, hy, rfl⟩ := List.mem_map.1 hx
          exact own_rowAt (own_else (hbo7 y hy) hro7 rfl hg)⟩
        have HEQ : Hid (((ys.drop n).map It.q == (xs.map (It.shift N)).map It.q) = true) := Lib.hid (by
          rw [List.map_drop, HYQ.out, ← HPL.out, List.drop_left, ← HXQ.out, List.map_map, List.map_map]
          exact beq_self_eq_true _)
        clear hro hxlt hro7 hpy' hbo7 hc7 hblt e1 e2 e3 hg hyW hyr r8
        go_wp2_with fail
        (with_reducible refine (psame_any _ _ _ (ys.drop n) _ _ _ (xs.map (It.shift N)) _ hy8 hx8).mono ?_)
        rintro e w9 ⟨rfl, hb9⟩
        rw [HEQ.out]
        have hc9 := below_next hcW hb9
        go_wp2_with fail
        go_ret
        exact ⟨rfl, hc9⟩
  · have hc2 := below_next hb1 hb2
    go_wp2_with fail
    go_ret
    exact ⟨rfl, hc2⟩
end Go.Proofs.YtkaaabnahpmobaaDoor
