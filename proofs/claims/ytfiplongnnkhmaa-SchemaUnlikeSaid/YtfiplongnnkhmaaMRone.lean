/-
  The walks of the reference's Fault and One. Condition: the field lies in memory.
-/
import Derived.Test.YtfiplongnnkhmaaMTs
import Derived.Test.YtfiplongnnkhmaaMVrenc
import Derived.Deep.RegionHeld3
namespace Go.Proofs.Ytfiplongnnkhmaa
open Go.RowKit
set_option linter.unusedVariables false

theorem rfault_any (f : Fld) (last : Int) (w : World) : Calls Try.prog 46 #[f.val, .int .i64 last] w fun x w' => x = .returned (.int .i64 (faultM f last)) ∧ Below w.heap.size w w' := by
  obtain ⟨t, x, n, ba, bn, bc⟩ := f
  unfold Fld.val faultM
  dsimp only
  by_cases c1 : t < 1
  · rw [if_pos (.inl c1)]
    go_enter Try.func46, Try.ntmps46
    go_wp2_with fail
    go_ret
    exact ⟨rfl, below_made _ _⟩
  by_cases c2 : 31 < t
  · rw [if_pos (.inr c2)]
    go_enter Try.func46, Try.ntmps46
    go_wp2_with fail
    go_ret
    exact ⟨rfl, below_made _ _⟩
  rw [if_neg (by omega)]
  by_cases c3 : t ≤ last
  · rw [if_pos c3]
    go_enter Try.func46, Try.ntmps46
    go_wp2_with fail
    go_ret
    exact ⟨rfl, below_made _ _⟩
  rw [if_neg c3]
  cases x
  · rw [if_neg (by decide)]
    by_cases c4 : n = 0
    · rw [if_pos c4]
      have c4b : (n == 0) = true := by simpa using c4
      clear c4
      go_enter Try.func46, Try.ntmps46
      go_wp2_with fail
      go_ret
      exact ⟨rfl, below_made _ _⟩
    · rw [if_neg c4]
      have c4b : (n == 0) = false := by simpa using c4
      clear c4
      go_enter Try.func46, Try.ntmps46
      go_wp2_with fail
      go_ret
      exact ⟨rfl, below_made _ _⟩
  · rw [if_pos rfl]
    by_cases c4 : bn = 0
    · rw [if_pos c4]
      subst c4
      go_enter Try.func46, Try.ntmps46
      go_wp2_with fail
      go_ret
      exact ⟨rfl, below_made _ _⟩
    · rw [if_neg c4]
      have c4b : ((bn : Int) == 0) = false := by rw [beq_eq_false_iff_ne]; omega
      by_cases c5 : 200 < bn
      · rw [if_pos c5]
        have c5b : 200 < (bn : Int) := by omega
        clear c4 c5
        go_enter Try.func46, Try.ntmps46
        go_wp2_with fail
        go_ret
        exact ⟨rfl, below_made _ _⟩
      · rw [if_neg c5]
        have c5b : ¬ 200 < (bn : Int) := by omega
        clear c4 c5
        go_enter Try.func46, Try.ntmps46
        go_wp2_with fail
        go_ret
        exact ⟨rfl, below_made _ _⟩

theorem renc_any (u : Int) (w : World) (h0 : 0 ≤ u) (hu : u < 18446744073709551616) : Calls Try.prog 41 #[.int .u64 u] w (GivesB 5 w (enc u.toNat)) := renc_n u.toNat u w (Nat.le_refl _) h0 hu

/-- An append of bytes as one step of a region that draws. -/
theorem step_app {ops : Array Oper} {o : Oper} {a : Act} {K : Act → World → Prop} {Q : Exit → Act → World → Prop} {E : Prop} {base : Nat} {wx : World} (hgd : o.guard = none) (s x : Operand) (ho : o.op = .call { callee := .builtin .append, args := #[s, x], argTypes := #[30, 30] })
    {av sa : Option Addr} {n m cap sc : Nat} {l k : List UInt8} (hs : a.eval s = .slice av n cap) (hx : a.eval x = .slice sa m sc) (hown : wx.ownsRow base 5 1 (.slice av n cap) n (l.map B)) (hsrc : RowAt wx sa m sc 1 (k.map B)) (hn : n + m ≤ 140737488355328) (hbase : base ≤ wx.heap.size)
    (h : ∀ a' cap' w', w'.ownsRow base 5 1 (.slice a' (n + m) cap') (n + m) ((l ++ k).map B) → wx.grownBy w' (Value.slice av n cap).ownBlock → K (a.put o.dst (.slice a' (n + m) cap')) w') :
    if Region.wanted o (yielded ops a.tmps) = true then Oper.wp Try.prog o a wx K Q else E := by
  have hw : Region.wanted o (yielded ops a.tmps) = true := by simp [Region.wanted, hgd]
  rw [if_pos hw]
  obtain ⟨a', cap', w', hr, h2, h3, _⟩ := run_app (P := Try.prog) (w := wx) (t := 30) (ty := o.type) slB hown hsrc (B_one _) (by omega) hbase
  unfold Oper.wp execOp
  simp only [ho, resolve, invoke, builtin, Sem.run_bind, Sem.run_pure, Result.andThen_ok, List.map_toArray, List.map_cons, List.map_nil, hs, hx, hr]
  exact h _ _ _ (by rw [List.map_append]; exact h2) h3

set_option maxRecDepth 20000 in
set_option maxHeartbeats 1600000 in
theorem rone_num (t m : Int) (ba : Option Addr) (bn bc : Nat) (w : World) (t0 : 0 ≤ t) (t1 : t ≤ 31) (m0 : 0 ≤ m) (m1 : m < 18446744073709551616) :
    Calls Try.prog 47 #[.agg #[.int .i64 t, .bool false, .int .u64 m, .slice ba bn bc]] w fun x w' => ∃ a' c' l, x = .returned (.slice a' l c') ∧ l = (enc (2 * t).toNat ++ enc m.toNat).length ∧ w'.ownsRow w.heap.size 5 1 (.slice a' l c') l ((enc (2 * t).toNat ++ enc m.toNat).map B) ∧ Below w.heap.size w w' := by
  have hl1 := enc_len10 (2 * t).toNat (by omega)
  have hl2 := enc_len10 m.toNat (by omega)
  have hk1 : IntKind.i64.wrap (2 * t) = 2 * t := IntWalk.i64_in _ (by omega)
  have hk2 : IntKind.u64.wrap (2 * t) = 2 * t := by rw [wrap_u64]; omega
  have hbx := below_made w (.cells #[.int .i64 t, .bool false, .int .u64 m, .slice ba bn bc] 68)
  have hX := heap_alloc_new w (.cells #[.int .i64 t, .bool false, .int .u64 m, .slice ba bn bc] 68)
  go_enter Try.func47, Try.ntmps47
  go_wp2_with fail
  have hxw : w.heap.size < (w.alloc (.cells #[.int .i64 t, .bool false, .int .u64 m, .slice ba bn bc] 68)).heap.size := lt_of_block hX
  obtain ⟨wa, hwa⟩ : ∃ wa, w.alloc (.cells #[.int .i64 t, .bool false, .int .u64 m, .slice ba bn bc] 68) = wa := ⟨_, rfl⟩
  rw [hwa] at hX hbx hxw ⊢
  clear hwa
  have hxw : w.heap.size < wa.drew.heap.size := hxw
  have c0 : wa.cell? ⟨w.heap.size, 0, none⟩ = some (.int .i64 t) := cell_blk hX rfl
  have c2 : wa.cell? ⟨w.heap.size, 2, none⟩ = some (.int .u64 m) := cell_blk hX rfl
  have hX : wa.drew.heap[w.heap.size]? = some (.cells #[.int .i64 t, .bool false, .int .u64 m, .slice ba bn bc] 68) := hX
  have hbx : Below w.heap.size w wa.drew := hbx.trans ((Still.one wa 1).below _)
  go_region_held3 (fun w' => w'.cell? ⟨w.heap.size, 0, none⟩ = some (.int .i64 t) ∧ w'.cell? ⟨w.heap.size, 2, none⟩ = some (.int .u64 m))
    (first
      | go_keep
      | (go_split_ands
         exact ⟨cell_blk hX rfl, cell_blk hX rfl⟩))
    (first
    | (refine step_app rfl _ _ rfl rfl rfl ho1 (own_rowAt ho2) (by omega) (by omega) ?_; intro a3 q3 w3 ho3 hg3; have hbx := hbx.grown hg3 (by omega) (fun j hj => by have := (ho1.lt j hj.symm.symm).1; omega); have ho3 := own_mono ho3 (show w.heap.size ≤ _ by omega); have hs3 := hg3.size; have hX := (hg3.block w.heap.size (by omega) (fun e => by have := (ho1.lt _ e.symm).1; omega)).trans hX)
    | (go_at_call 41; (with_reducible refine (renc_any (2 * t) _ (by omega) (by omega)).mono ?_); rintro x wc ⟨a1, q1, rfl, ho1, hb1⟩; have hX := below_blk' hb1 hX; have hs1 := hb1.size; have hz1 := hbx.size; have hbx := below_next hbx hb1; have hxl := lt_of_block hX; have c0 : wc.cell? ⟨w.heap.size, 0, none⟩ = some (.int .i64 t) := cell_blk hX rfl; have c2 : wc.cell? ⟨w.heap.size, 2, none⟩ = some (.int .u64 m) := cell_blk hX rfl; first | (have ho2 := own_below ho2 hb1) | skip)
    | (go_at_call 41; (with_reducible refine (renc_any (m) _ (by omega) (by omega)).mono ?_); rintro x wd ⟨a2, q2, rfl, ho2, hb2⟩; have hX := below_blk' hb2 hX; have hs2 := hb2.size; have hz2 := hbx.size; have hbx := below_next hbx hb2; have hxl := lt_of_block hX; have c0 : wd.cell? ⟨w.heap.size, 0, none⟩ = some (.int .i64 t) := cell_blk hX rfl; have c2 : wd.cell? ⟨w.heap.size, 2, none⟩ = some (.int .u64 m) := cell_blk hX rfl; first | (have ho1 := own_below ho1 hb2) | skip))
  all_goals
    go_wp2_with fail
    go_ret
    exact ⟨a3, q3, _, rfl, by rw [List.length_append], by simpa using ho3, hbx⟩

set_option maxRecDepth 20000 in
set_option maxHeartbeats 1600000 in
theorem rone_text (t m : Int) (ba : Option Addr) (bn bc : Nat) (l : List UInt8) (w : World) (hr : RowAt w ba bn bc 1 (l.map B)) (t0 : 0 ≤ t) (t1 : t ≤ 31) (hn : bn ≤ 200) :
    Calls Try.prog 47 #[.agg #[.int .i64 t, .bool true, .int .u64 m, .slice ba bn bc]] w fun x w' => ∃ a' c' k, x = .returned (.slice a' k c') ∧ k = (enc (2 * t + 1).toNat ++ enc bn ++ l).length ∧ w'.ownsRow w.heap.size 5 1 (.slice a' k c') k ((enc (2 * t + 1).toNat ++ enc bn ++ l).map B) ∧ Below w.heap.size w w' := by
  have hl1 := enc_len10 (2 * t + 1).toNat (by omega)
  have hl2 := enc_len10 bn (by omega)
  have hll : l.length = bn := by simpa using hr.len
  have hk3 : IntKind.i64.wrap (2 * t + 1) = 2 * t + 1 := IntWalk.i64_in _ (by omega)
  have hk4 : IntKind.u64.wrap (2 * t + 1) = 2 * t + 1 := by rw [wrap_u64]; omega
  have hk5 : IntKind.u64.wrap (bn : Int) = (bn : Int) := by rw [wrap_u64]; omega
  have HR := Lib.hid hr
  have HLL := Lib.hid hll
  clear hr hll
  have hk1 : IntKind.i64.wrap (2 * t) = 2 * t := IntWalk.i64_in _ (by omega)
  have hbx := below_made w (.cells #[.int .i64 t, .bool true, .int .u64 m, .slice ba bn bc] 68)
  have hX := heap_alloc_new w (.cells #[.int .i64 t, .bool true, .int .u64 m, .slice ba bn bc] 68)
  go_enter Try.func47, Try.ntmps47
  go_wp2_with fail
  have hxw : w.heap.size < (w.alloc (.cells #[.int .i64 t, .bool true, .int .u64 m, .slice ba bn bc] 68)).heap.size := lt_of_block hX
  obtain ⟨wa, hwa⟩ : ∃ wa, w.alloc (.cells #[.int .i64 t, .bool true, .int .u64 m, .slice ba bn bc] 68) = wa := ⟨_, rfl⟩
  rw [hwa] at hX hbx hxw ⊢
  clear hwa
  have hxw : w.heap.size < wa.drew.heap.size := hxw
  have c0 : wa.cell? ⟨w.heap.size, 0, none⟩ = some (.int .i64 t) := cell_blk hX rfl
  have c3 : wa.cell? ⟨w.heap.size, 3, none⟩ = some (.slice ba bn bc) := cell_blk hX rfl
  have hX : wa.drew.heap[w.heap.size]? = some (.cells #[.int .i64 t, .bool true, .int .u64 m, .slice ba bn bc] 68) := hX
  have hbx : Below w.heap.size w wa.drew := hbx.trans ((Still.one wa 1).below _)
  go_region_held3 (fun w' => w'.cell? ⟨w.heap.size, 0, none⟩ = some (.int .i64 t) ∧ w'.cell? ⟨w.heap.size, 3, none⟩ = some (.slice ba bn bc))
    (first
      | go_keep
      | (go_split_ands
         exact ⟨cell_blk hX rfl, cell_blk hX rfl⟩))
    (first
    | (refine step_app rfl _ _ rfl rfl rfl ho1 (own_rowAt ho2) (by omega) (by omega) ?_; intro a3 q3 w3 ho3 hg3; have hbx := hbx.grown hg3 (by omega) (fun j hj => by have := (ho1.lt j hj.symm.symm).1; omega); have ho3 := own_mono ho3 (show w.heap.size ≤ _ by omega); have hs3 := hg3.size; have hX := (hg3.block w.heap.size (by omega) (fun e => by have := (ho1.lt _ e.symm).1; omega)).trans hX)
    | (go_at_call 41; (with_reducible refine (renc_any (2 * t + 1) _ (by omega) (by omega)).mono ?_); rintro x wc ⟨a1, q1, rfl, ho1, hb1⟩; have hX := below_blk' hb1 hX; have hs1 := hb1.size; have hz1 := hbx.size; have hbx := below_next hbx hb1; have hxl := lt_of_block hX; have c0 : wc.cell? ⟨w.heap.size, 0, none⟩ = some (.int .i64 t) := cell_blk hX rfl; have c3 : wc.cell? ⟨w.heap.size, 3, none⟩ = some (.slice ba bn bc) := cell_blk hX rfl; first | (have ho2 := own_below ho2 hb1) | skip)
    | (go_at_call 41; (with_reducible refine (renc_any ((bn : Nat) : Int) _ (by omega) (by omega)).mono ?_); rintro x wd ⟨a2, q2, rfl, ho2, hb2⟩; simp only [Int.toNat_natCast] at ho2 ⊢; have hX := below_blk' hb2 hX; have hs2 := hb2.size; have hz2 := hbx.size; have hbx := below_next hbx hb2; have hxl := lt_of_block hX; have c0 : wd.cell? ⟨w.heap.size, 0, none⟩ = some (.int .i64 t) := cell_blk hX rfl; have c3 : wd.cell? ⟨w.heap.size, 3, none⟩ = some (.slice ba bn bc) := cell_blk hX rfl; first | (have ho1 := own_below ho1 hb2) | skip))
  all_goals
    have hr3 := HR.out.below hbx
    have hb3 := hbx
    go_wp2_with (at_builtin; refine wpList_app rfl _ _ 30 rfl slB rfl ho3 rfl hr3 (B_one _) (by omega) (by omega) fun a5 q5 w5 ho5 hg5 => ?_)
    go_ret
    exact ⟨a5, q5, _, rfl, by simp only [List.length_append]; rw [HLL.out], by simpa [List.append_assoc] using ho5, hb3.grown hg5 (by omega) (fun j hj => (ho3.lt j hj.symm.symm).1)⟩

theorem rone_any (f : Fld) (d : FD) (w : World) (hf : FldIs w f d) (ht : d.tag ≤ 31) (h3 : d.text = true → 0 < d.bytes.length ∧ d.bytes.length ≤ 200) (h4 : d.text = false → 0 < d.num ∧ d.num < 18446744073709551616) :
    Calls Try.prog 47 #[.agg #[.int .i64 f.tag, .bool f.text, .int .u64 f.num, .slice f.ba f.bn f.bc]] w fun x w' => ∃ a' c' l, x = .returned (.slice a' l c') ∧ l = (oneF d).length ∧ w'.ownsRow w.heap.size 5 1 (.slice a' l c') l ((oneF d).map B) ∧ Below w.heap.size w w' := by
  obtain ⟨t, x, m, ba, bn, bc⟩ := f
  obtain ⟨e1, e2, e3, hr⟩ := hf
  dsimp only at e1 e2 e3 hr ⊢
  subst e1 e3
  have hl : d.bytes.length = bn := by simpa using hr.len
  cases hx : d.text
  · rw [hx] at e2; subst e2
    rw [oneF_num hx]
    exact rone_num d.tag d.num ba bn bc w (by omega) (by omega) (by omega) (by have := h4 hx; omega)
  · rw [hx] at e2; subst e2
    rw [oneF_text hx, hl]
    exact rone_text d.tag d.num ba bn bc d.bytes w hr (by omega) (by omega) (by have := h3 hx; omega)
end Go.Proofs.Ytfiplongnnkhmaa
