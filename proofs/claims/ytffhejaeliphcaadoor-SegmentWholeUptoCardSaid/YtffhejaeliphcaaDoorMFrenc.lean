/-
  The walks of the reference's Head and Encode of a frame. Condition: the body reads as bytes.
-/
import Derived.Test.YtffhejaeliphcaaDoorMFenc
import Derived.Deep.RegionHeld3
namespace Go.Proofs.YtffhejaeliphcaaDoor
open Go.RowKit
set_option linter.unusedVariables false

set_option maxHeartbeats 1600000 in
theorem rhead_any (kd n sq : Nat) (w : World) (k1 : 1 ≤ kd) (k2 : kd ≤ 7) (s2 : sq ≤ 1099511627776) (hn : n ≤ 16384) :
    Calls Tryd.prog 68 #[.int .i64 (kd : Int), .int .i64 (n : Int), .int .i64 (sq : Int)] w (GivesB 5 w (headF kd n sq)) := by
  obtain ⟨S0, hS0⟩ : ∃ S : Int, (sq : Int) = S := ⟨_, rfl⟩
  have q3 : 0 ≤ S0 := by omega
  have q4 : S0 ≤ 1099511627776 := by omega
  have hkm : (kd : Int) % 256 = (kd : Int) := by omega
  have HS0 := Lib.hid hS0
  rw [hS0]
  clear hS0
  have ho0 := own_lit w [.int .u8 165, .int .u8 (kd : Int), .int .u8 ((n : Int) % 256), .int .u8 ((n : Int) / 256)] 4 1 5 rfl (by decide)
  have hbm := below_made w (.cells #[.int .u8 165, .int .u8 (kd : Int), .int .u8 ((n : Int) % 256), .int .u8 ((n : Int) / 256)] 5)
  have hp4 : ([.int .u8 165, .int .u8 (kd : Int), .int .u8 ((n : Int) % 256), .int .u8 ((n : Int) / 256)] : List Value) = ([165, UInt8.ofNat kd, UInt8.ofNat n, UInt8.ofNat (n / 256)] ++ (lowBytes 8 sq).take 0).map B := by
    have x1 : (kd : Int) = ((UInt8.ofNat kd).toNat : Int) := by simp only [UInt8.toNat_ofNat']; omega
    have x3 : (n : Int) / 256 = ((UInt8.ofNat (n / 256)).toNat : Int) := by simp only [UInt8.toNat_ofNat']; omega
    rw [byteof n, x3]
    conv => lhs; rw [x1]
    rfl
  have ho1 : (w.alloc (.cells #[.int .u8 165, .int .u8 (kd : Int), .int .u8 ((n : Int) % 256), .int .u8 ((n : Int) / 256)] 5)).ownsRow w.heap.size 5 1 (.slice (some ⟨w.heap.size, 0, none⟩) 4 4) 4 (([165, UInt8.ofNat kd, UInt8.ofNat n, UInt8.ofNat (n / 256)] ++ (lowBytes 8 sq).take 0).map B) := by
    rw [← hp4]; exact ho0
  clear hp4 ho0
  go_enter Tryd.func68, Tryd.ntmps68
  go_wp2_with fail
  go_loopw [2, 7, 8] (fun sv pv iv wr => ∃ (k : Nat) (S : Int) (a : Option Addr) (cap : Nat), sv = .int .i64 S ∧ pv = .slice a (4 + k) cap ∧ iv = .int .i64 (k : Int) ∧ k ≤ 8 ∧ 0 ≤ S ∧ S ≤ 1099511627776 ∧ Hid (S = ((sq / 256 ^ k : Nat) : Int)) ∧
    wr.ownsRow w.heap.size 5 1 (.slice a (4 + k) cap) (4 + k) (([165, UInt8.ofNat kd, UInt8.ofNat n, UInt8.ofNat (n / 256)] ++ (lowBytes 8 sq).take k).map B) ∧ Below w.heap.size w wr) (fun _ _ iv _ => 8 - (intOf iv).toNat)
  case atStart => exact ⟨0, S0, _, _, rfl, rfl, rfl, Nat.zero_le _, q3, q4, Lib.hid (by rw [← HS0.out]; simp), ho1, hbm⟩
  case round =>
    clear ho1 hbm
    obtain ⟨k, S, a2, cap, rfl, rfl, rfl, hk, hS1, hS2, HS, ho, hb⟩ := hrel
    have hsz := hb.size
    by_cases hlt : k < 8
    · have hval : S % 256 = ((UInt8.ofNat (sq / 256 ^ k)).toNat : Int) := by rw [← byteof, HS.out]
      have HT := Lib.hid (low_take sq k hlt)
      have HS3 : Hid (S / 256 = ((sq / 256 ^ (k + 1) : Nat) : Int)) := Lib.hid (by rw [HS.out, Nat.pow_succ, ← Nat.div_div_eq_div_mul, Int.natCast_ediv (sq / 256 ^ k)]; rfl)
      go_wp2_with (at_builtin; refine wpList_app1 rfl _ _ 22 rfl slB rfl ho rfl rfl (one1 _ _) (by omega) hsz fun a3 c3 w3 hown3 hg3 => ?_)
      go_roundw
      case rel =>
        refine ⟨k + 1, S / 256, a3, c3, rfl, rfl, by go_num, by omega, by omega, by omega, HS3, ?_, hb.grown hg3 hsz (own_block ho)⟩
        rw [HT.out, ← List.append_assoc, List.map_append]
        simp only [List.map_cons, List.map_nil, B]
        exact hown3
      case measure => simp [intOf]; omega
    · obtain ⟨k8, hk8⟩ : ∃ k8, k8 = k ∧ k8 = 8 := ⟨k, rfl, by omega⟩
      obtain ⟨rfl, hk8⟩ := hk8
      have hlk : ¬ (k8 : Int) < 8 := by omega
      have h12 : [165, UInt8.ofNat kd, UInt8.ofNat n, UInt8.ofNat (n / 256)] ++ (lowBytes 8 sq).take k8 = head12 kd n sq := by
        rw [hk8, List.take_of_length_le (by rw [lowBytes_len]; exact Nat.le_refl _)]; rfl
      rw [h12] at ho
      have h4k : 4 + k8 = 12 := by omega
      rw [h4k] at ho ⊢
      have hsl := sumN_lt 0 (head12 kd n sq)
      clear h12 hk8 h4k
      go_wp2_with fail
      (with_reducible refine (rsum_any _ _ _ (head12 kd n sq) _ (own_rowAt ho)).mono ?_)
      rintro e w1 ⟨rfl, rfl⟩
      go_wp2_with fail
      (with_reducible refine (rfour_any _ _ hsl).mono ?_)
      rintro e w2 ⟨a4, c4, rfl, ho4, hb4⟩
      have ox := own_below ho hb4
      have hsz2 := hb4.size
      go_wp2_with (at_builtin; refine wpList_app rfl _ _ 22 rfl slB rfl ox rfl (own_rowAt ho4) (B_one _) (by simp [four]) (by omega) fun a5 c5 w5 ho5 hg5 => ?_)
      go_ret
      rw [← List.map_append] at ho5
      have hl : 12 + (four (sumN 0 (head12 kd n sq))).length = (headF kd n sq).length := by rw [headF_len]; rfl
      refine ⟨a5, c5, ?_, ?_, (below_next hb hb4).grown hg5 (by omega) (own_block ox)⟩
      · rw [← hl]; rfl
      · rw [← hl]; exact ho5

/-- append as one step of a region that draws its order. -/
theorem step_app {P : Program} {ops : Array Oper} {o : Oper} {act : Act} {w : World} {K : Act → World → Prop} {Q : Exit → Act → World → Prop} {E : Prop} (hgd : o.guard = none) (s x : Operand) (t : TypeId)
    (ho : o.op = .call { callee := .builtin .append, args := #[s, x], argTypes := #[t, t] }) {e : TypeId} {size bytes : Nat} {z : Value} (hT : SlTy P t e size bytes z)
    {base : Nat} {a : Option Addr} {n cap : Nat} {xs : List Value} (hs : act.eval s = .slice a n cap) (hown : w.ownsRow base e size (.slice a n cap) n xs)
    {sa : Option Addr} {m sc : Nat} {news : List Value} (hx : act.eval x = .slice sa m sc) (hsrc : RowAt w sa m sc size news) (h1 : ∀ u ∈ news, u.oneCell' = true)
    (hbytes : (n + m) * bytes ≤ 140737488355328) (hbase : base ≤ w.heap.size)
    (h : ∀ a' cap' w', w'.ownsRow base e size (.slice a' (n + m) cap') (n + m) (xs ++ news) → w.grownBy w' (Value.slice a n cap).ownBlock → K (act.put o.dst (.slice a' (n + m) cap')) w') :
    if Region.wanted o (yielded ops act.tmps) = true then Oper.wp P o act w K Q else E := by
  have hw : Region.wanted o (yielded ops act.tmps) = true := by simp [Region.wanted, hgd]
  rw [if_pos hw]
  obtain ⟨a', cap', w', hr, h2, h3, _⟩ := run_app (P := P) (w := w) (t := t) (ty := o.type) hT hown hsrc h1 hbytes hbase
  unfold Oper.wp
  simp only [execOp, ho, resolve, invoke, builtin, Sem.run_bind, Sem.run_pure, Result.andThen_ok, List.map_toArray, List.map_cons, List.map_nil, hs, hx, hr]
  exact h a' cap' w' h2 h3

theorem far_cell {w w' : World} {v : Value} {b o : Nat} {x : Value} (hg : w.grownBy w' v.ownBlock) (hc : w.cell? ⟨b, o, none⟩ = some x) (hne : ∀ k, v.ownBlock = some k → b < k) : w'.cell? ⟨b, o, none⟩ = some x := by
  have hlt := World.block_lt_of_cell? w _ hc
  rw [World.cell?_of_block (hg.block b hlt fun e => Nat.lt_irrefl _ (hne b e.symm))]
  exact hc
theorem below_cell {w w' : World} {b o : Nat} {x : Value} (hg : Below w.heap.size w w') (hc : w.cell? ⟨b, o, none⟩ = some x) : w'.cell? ⟨b, o, none⟩ = some x := by
  have hlt := World.block_lt_of_cell? w _ hc
  rw [World.cell?_of_block (hg.block b hlt)]
  exact hc

set_option maxHeartbeats 1600000 in
theorem frenc_ok (kd sq : Nat) (a : Option Addr) (n c : Nat) (body : List UInt8) (w : World) (r : RowAt w a n c 1 (body.map B)) (k1 : 1 ≤ kd) (k2 : kd ≤ 7) (s2 : sq ≤ 1099511627776) (hn : n ≤ 16384) :
    Calls Tryd.prog 42 #[.agg #[.int .i64 (kd : Int), .int .i64 (sq : Int), .slice a n c]] w (GivesE 5 w (frameF kd sq body, 0)) := by
  have e1 : body.length = n := by simpa using r.len
  have H1 := Lib.hid e1
  clear e1
  have hb0 := below_made w (.cells #[.int .i64 (kd : Int), .int .i64 (sq : Int), .slice a n c] 53)
  have h0 := heap_alloc_new w (.cells #[.int .i64 (kd : Int), .int .i64 (sq : Int), .slice a n c] 53)
  have hz0 : w.heap.size < (w.alloc (.cells #[.int .i64 (kd : Int), .int .i64 (sq : Int), .slice a n c] 53)).heap.size := by simp
  have r0 := r.below hb0
  have q1 : ¬ (kd : Int) < 1 := by omega
  have q2 : ¬ (7 : Int) < (kd : Int) := by omega
  have q3 : ¬ (sq : Int) < 0 := by omega
  have q4 : ¬ (1099511627776 : Int) < (sq : Int) := by omega
  have q5 : ¬ (16384 : Int) < (n : Int) := by omega
  have hsl2 := sumN_lt 0 body
  have hhl := headF_len kd n sq
  obtain ⟨HF, hHF⟩ : ∃ HF, headF kd n sq = HF := ⟨_, rfl⟩
  have HHF := Lib.hid hHF
  rw [hHF] at hhl
  have HHL := Lib.hid hhl
  clear hHF hhl
  go_enter Tryd.func42, Tryd.ntmps42
  go_wp2_with fail
  obtain ⟨wb, hwb⟩ : ∃ wb, w.alloc (.cells #[.int .i64 (kd : Int), .int .i64 (sq : Int), .slice a n c] 53) = wb := ⟨_, rfl⟩
  have hsb : wb.heap.size = w.heap.size + 1 := by rw [← hwb]; simp
  rw [hwb] at hb0 h0 hz0 r0 ⊢
  clear hwb
  obtain ⟨c0, c1, c2, _, _, _⟩ := laid3 h0
  have hcall : ∀ wx, Below wb.heap.size wb wx → Calls Tryd.prog 68 #[.int .i64 (kd : Int), .int .i64 (n : Int), .int .i64 (sq : Int)] wx (GivesB 5 wx HF) := fun wx _ => by rw [← HHF.out]; exact rhead_any kd n sq wx k1 k2 s2 hn
  have HCALL := Lib.hid hcall
  clear hcall
  go_region_held3 (fun w' => w'.cell? ⟨w.heap.size, 0, none⟩ = some (.int .i64 (kd : Int)) ∧ w'.cell? ⟨w.heap.size, 1, none⟩ = some (.int .i64 (sq : Int)) ∧ w'.cell? ⟨w.heap.size, 2, none⟩ = some (.slice a n c))
    (first
      | go_keep
      | (go_split_ands
         exact ⟨below_cell hbh (by assumption), below_cell hbh (by assumption), below_cell hbh (by assumption)⟩)
      | (go_split_ands
         exact ⟨far_cell hg3 (by assumption) hfar, far_cell hg3 (by assumption) hfar, far_cell hg3 (by assumption) hfar⟩))
    (first
      | (go_at_call 68; refine (HCALL.out _ ((Still.one wb 1).below _)).mono ?_; rintro e wh ⟨ah, ch, rfl, hoh, hbh⟩; rw [HHL.out] at hoh ⊢; have hfar : ∀ j, (Value.slice ah 16 ch).ownBlock = some j → w.heap.size < j := fun j hj => Nat.lt_of_lt_of_le hz0 (hoh.lt j hj).1; have rh := r0.below (((Still.one wb 1).below _).trans hbh))
      | (refine step_app rfl _ _ 22 (by rfl) slB (by rfl) hoh (by rfl) rh (B_one _) (by omega) hbh.size ?_; intro a3 c3 w3 hown3 hg3))
  have hbh2 : Below wb.heap.size wb wh := ((Still.one wb 1).below _).trans hbh
  have hsz2 := hbh2.size
  have hb3 : Below wb.heap.size wb w3 := hbh2.grown hg3 hsz2 (fun j hj => (hoh.lt j hj).1)
  have c23 : w3.cell? ⟨w.heap.size, 2, none⟩ = some (.slice a n c) := cell_blk ((hb3.block _ hz0).trans h0) rfl
  have r3 := r0.below hb3
  have hsz3 := hb3.size
  have hown4 : w3.ownsRow wb.heap.size 5 1 (.slice a3 (16 + n) c3) (16 + n) ((HF ++ body).map B) := by rw [List.map_append]; exact hown3
  clear hown3 hg3 hbh hbh2 hoh rh hfar HCALL hsz2
  go_wp2_with fail
  (with_reducible refine (rsum_any _ _ _ body _ r3).mono ?_)
  rintro e w4 ⟨rfl, rfl⟩
  go_wp2_with fail
  (with_reducible refine (rfour_any _ _ hsl2).mono ?_)
  rintro e w5 ⟨a5, c5, rfl, ho5, hb5⟩
  have oy := own_below hown4 hb5
  have hsz5 := hb5.size
  go_wp2_with (at_builtin; refine wpList_app rfl _ _ 22 rfl slB rfl oy rfl (own_rowAt ho5) (B_one _) (by simp [four]; omega) (by omega) fun a6 c6 w6 ho6 hg6 => ?_)
  go_ret2
  have hb6 : Below wb.heap.size wb w6 := (below_next hb3 hb5).grown hg6 (by omega) (own_block oy)
  rw [← List.map_append] at ho6
  have hfl : HF ++ body ++ four (sumN 0 body) = frameF kd sq body := by
    unfold frameF; rw [H1.out, HHF.out]; simp
  have hfn : 16 + n + (four (sumN 0 body)).length = (frameF kd sq body).length := by
    rw [frameF_len, H1.out]; simp [four]; omega
  rw [hfl, hfn] at ho6
  refine ⟨a6, c6, ?_, own_mono ho6 (by omega), below_next hb0 hb6⟩
  show Ending.returned (.tuple #[.slice a6 _ c6, .int .i64 0]) = .returned (.tuple #[.slice a6 (frameF kd sq body).length c6, .int .i64 0])
  rw [← hfn]

theorem frenc_no (kind seq : Int) (a : Option Addr) (n c : Nat) (body : List UInt8) (w : World) (r : RowAt w a n c 1 (body.map B)) (h : ¬ (encF kind seq body).2 = 0) :
    Calls Tryd.prog 42 #[.agg #[.int .i64 kind, .int .i64 seq, .slice a n c]] w (GivesE 5 w (encF kind seq body)) := by
  have e1 : body.length = n := by simpa using r.len
  have hb0 := below_made w (.cells #[.int .i64 kind, .int .i64 seq, .slice a n c] 53)
  by_cases c1 : kind < 1
  · have HE : Hid (encF kind seq body = ([], 63)) := Lib.hid (by unfold encF; rw [if_pos (by omega)])
    clear h e1
    go_enter Tryd.func42, Tryd.ntmps42
    go_wp2_with fail
    go_ret2
    rw [HE.out]
    exact ⟨none, 0, rfl, World.ownsRow_nil _ _ _ _, hb0⟩
  · by_cases c2 : 7 < kind
    · have HE : Hid (encF kind seq body = ([], 63)) := Lib.hid (by unfold encF; rw [if_pos (by omega)])
      clear h e1
      go_enter Tryd.func42, Tryd.ntmps42
      go_wp2_with fail
      go_ret2
      rw [HE.out]
      exact ⟨none, 0, rfl, World.ownsRow_nil _ _ _ _, hb0⟩
    · by_cases c3 : seq < 0
      · have HE : Hid (encF kind seq body = ([], 63)) := Lib.hid (by unfold encF; rw [if_pos (by omega)])
        clear h e1
        go_enter Tryd.func42, Tryd.ntmps42
        go_wp2_with fail
        go_ret2
        rw [HE.out]
        exact ⟨none, 0, rfl, World.ownsRow_nil _ _ _ _, hb0⟩
      · by_cases c4 : 1099511627776 < seq
        · have HE : Hid (encF kind seq body = ([], 63)) := Lib.hid (by unfold encF; rw [if_pos (by omega)])
          clear h e1
          go_enter Tryd.func42, Tryd.ntmps42
          go_wp2_with fail
          go_ret2
          rw [HE.out]
          exact ⟨none, 0, rfl, World.ownsRow_nil _ _ _ _, hb0⟩
        · have hn : 16384 < n := by
            by_cases hn : 16384 < n
            · exact hn
            · exfalso; apply h; unfold encF; rw [if_neg (by omega), if_neg (by omega)]
          have HE : Hid (encF kind seq body = ([], 24)) := Lib.hid (by unfold encF; rw [if_neg (by omega), if_pos (by omega)])
          have c5 : (16384 : Int) < (n : Int) := by omega
          clear h e1
          go_enter Tryd.func42, Tryd.ntmps42
          go_wp2_with fail
          go_ret2
          rw [HE.out]
          exact ⟨none, 0, rfl, World.ownsRow_nil _ _ _ _, hb0⟩

theorem frenc_any (kind seq : Int) (a : Option Addr) (n c : Nat) (body : List UInt8) (w : World) (r : RowAt w a n c 1 (body.map B)) :
    Calls Tryd.prog 42 #[.agg #[.int .i64 kind, .int .i64 seq, .slice a n c]] w (GivesE 5 w (encF kind seq body)) := by
  by_cases h : (encF kind seq body).2 = 0
  · obtain ⟨kd, sq, rfl, rfl, h1, h2, h3, h4, h5⟩ := encF_ok h
    rw [h5]
    have e1 : body.length = n := by simpa using r.len
    exact frenc_ok kd sq a n c body w r h1 h2 h3 (by omega)
  · exact frenc_no kind seq a n c body w r h
end Go.Proofs.YtffhejaeliphcaaDoor
