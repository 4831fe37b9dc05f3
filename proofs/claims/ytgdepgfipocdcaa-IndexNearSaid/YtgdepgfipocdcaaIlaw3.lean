/-
  The walks of IndexCodes and IndexBuilds. Conditions: arguments read as their types say, within the form's own reach.
-/
import Derived.Test.YtgdepgfipocdcaaIhead
import Derived.Test.YtgdepgfipocdcaaIrdec
import Derived.Test.YtgdepgfipocdcaaIrenc
import Derived.Test.YtgdepgfipocdcaaIbuild
namespace Go.Proofs.Ytgdepgfipocdcaa
open Go.RowKit
set_option linter.unusedVariables false

/-- A cell of what the call owns, whatever the size of its elements. -/
theorem own_cells {w : World} {base size : Nat} {e : TypeId} {g n cap : Nat} {xs : List Value} (h : w.ownsRow base e size (.slice (some ⟨g, 0, none⟩) n cap) n xs) (j : Nat) (hj : j < n * size) :
    ∃ u, w.cell? ⟨g, j, none⟩ = some u := by
  have h1 := h.cellAt j hj
  have h2 : j < xs.length := by rw [h.1]; omega
  rw [List.getElem?_eq_getElem h2] at h1
  exact ⟨_, h1⟩

theorem slP : SlTy Try.prog 36 43 5 56 (.agg #[.int .i64 0, .int .i64 0, .int .i64 0, .int .i64 0, .slice none 0 0]) := slTy_mk Try.underlying36 (by kernel_rfl) rfl (by decide) (by decide)

theorem mk_own {w : World} {base : Nat} {e : TypeId} {a : Option Addr} {n cap : Nat} {xs : List Value} (h : w.ownsRow base e 2 (.slice a n cap) n xs) (hn : 0 < n) : ∃ g, a = some ⟨g, 0, none⟩ := own_some h hn

set_option maxHeartbeats 1600000 in
theorem codes_walk (a : Option Addr) (n c : Nat) (ms : List Mk) (a' : Option Addr) (n' c' : Nat) (l : List UInt8) (w : World) (r : RowAt w a n c 2 (ms.flatMap Mk.cells)) (hs : n * 16 ≤ 140737488351232)
    (r' : RowAt w a' n' c' 1 (l.map B)) (hs' : n' * 1 ≤ 140737488351232) :
    Calls Try.prog 7 #[.slice a n c, .slice a' n' c'] w fun e w' => e = .returned (.bool true) ∧ Below w.heap.size w w' := by
  have hml : ms.length = n := by have := r.1; rw [M_len] at this; omega
  have HL := Lib.hid hml
  have hml' : l.length = n' := by simpa using r'.len
  have HL' := Lib.hid hml'
  clear hml hml'
  go_enter Try.func7, Try.ntmps7
  go_wp2_with fail
  (with_reducible refine (head_any _).mono ?_)
  rintro e w1 ⟨rfl, hb1⟩
  have r1 := r.below hb1
  have l1 := r'.below hb1
  go_wp2_with fail
  (with_reducible refine (mcopy_any _ _ _ ms _ (by omega) r1).mono ?_)
  rintro e w2 ⟨a2, c2, rfl, ho2, hb2⟩
  rw [HL.out] at ho2 ⊢
  have m2 := own_rowAt ho2
  have r2 := r1.below hb2
  have l2 := l1.below hb2
  have hb3 := below_next hb1 hb2
  clear ho2 hb1 hb2 r1 l1
  go_wp2_with fail
  (with_reducible refine (irenc_any _ _ _ ms _ r2).mono ?_)
  rintro e w3 ⟨a3, c3, rfl, ho3, hb4⟩
  have x3 := own_rowAt ho3
  have m3 := m2.below hb4
  have r3 := r2.below hb4
  have l3 := l2.below hb4
  have hb5 := below_next hb3 hb4
  clear ho3 hb3 hb4 m2 r2 l2
  go_wp2_with fail
  (with_reducible refine (ienc_any _ _ _ ms _ m3).mono ?_)
  rintro e w4 ⟨a4, c4, rfl, ho4, hb6⟩
  have y4 := own_rowAt ho4
  have x4 := x3.below hb6
  have m4 := m3.below hb6
  have r4 := r3.below hb6
  have l4 := l3.below hb6
  have hb7 := below_next hb5 hb6
  clear ho4 hb5 hb6 x3 m3 r3 l3
  obtain ⟨z, hz⟩ : ∃ z, encIx ms = z := ⟨_, rfl⟩
  rw [hz] at y4 x4 ⊢
  clear hz
  go_wp2_with fail
  (with_reducible refine (same_any _ _ _ z.1 _ _ _ z.1 _ y4 x4).mono ?_)
  rintro e w5 ⟨rfl, hst5⟩
  rw [beq_self_eq_true]
  have m5 := m4.still hst5
  have r5 := r4.still hst5
  have l5 := l4.still hst5
  have hb8 := below_still hb7 hst5
  clear hb7 hst5 y4 x4 m4 r4 l4
  go_wp2_with fail
  (with_reducible refine (rmsame_any _ _ _ ms _ _ _ ms _ m5 r5).mono ?_)
  rintro e w6 ⟨rfl, hst6⟩
  rw [decide_eq_true rfl]
  have l6 := l5.still hst6
  have hb9 := below_still hb8 hst6
  clear hb8 hst6 m5 r5 l5
  go_wp2_with fail
  (with_reducible refine (copy_any _ _ _ l _ (by omega) l6).mono ?_)
  rintro e w7 ⟨a7, c7, rfl, ho7, hb10⟩
  rw [HL'.out] at ho7 ⊢
  have o7 := own_rowAt ho7
  have l7 := l6.below hb10
  have hb11 := below_next hb9 hb10
  clear hb9 hb10 ho7 l6
  go_wp2_with fail
  (with_reducible refine (irdec_any _ _ _ l _ l7).mono ?_)
  rintro e w8 ⟨a8, c8, rfl, ox8, hb12⟩
  have o8 := o7.below hb12
  have l8 := l7.below hb12
  have hb13 := below_next hb11 hb12
  clear hb11 hb12 o7 l7
  go_wp2_with fail
  (with_reducible refine (idec_any _ _ _ l _ o8).mono ?_)
  rintro e w9 ⟨a9, c9, rfl, oy9, hb14⟩
  have ox9 := own_below ox8 hb14
  have nxy := ne_later ox8 oy9 (Nat.le_refl _)
  have o9 := o8.below hb14
  have l9 := l8.below hb14
  have hb15 := below_next hb13 hb14
  have hbs13 := hb13.size
  clear hb13 hb14 o8 l8 ox8
  go_wp2_with fail
  (with_reducible refine (idec_any _ _ _ l _ o9).mono ?_)
  rintro e w10 ⟨a10, c10, rfl, oz10, hb16⟩
  have ox10 := own_below ox9 hb16
  have oy10 := own_below oy9 hb16
  have nyz := ne_later oy9 oz10 (Nat.le_refl _)
  have o10 := o9.below hb16
  have l10 := l9.below hb16
  have hb17 := below_next hb15 hb16
  clear hb15 hb16 o9 l9 ox9 oy9
  obtain ⟨z', hz'⟩ : ∃ z', decIx l = z' := ⟨_, rfl⟩
  obtain ⟨zs, ze⟩ := z'
  rw [hz'] at ox10 oy10 oz10 nxy nyz ⊢
  simp only at ox10 oy10 oz10 nxy nyz ⊢
  clear hz'
  go_wp2_with fail
  (with_reducible refine (rmsame_any _ _ _ zs _ _ _ zs _ (own_rowAt ox10) (own_rowAt oy10)).mono ?_)
  rintro e w11 ⟨rfl, hst11⟩
  rw [decide_eq_true rfl]
  have ox11 := own_still ox10 hst11
  have oy11 := own_still oy10 hst11
  have oz11 := own_still oz10 hst11
  have o11 := o10.still hst11
  have l11 := l10.still hst11
  have hb18 := below_still hb17 hst11
  clear hb17 hst11 ox10 oy10 oz10 o10 l10
  go_wp2_with fail
  (with_reducible refine (same_any _ _ _ l _ _ _ l _ o11 l11).mono ?_)
  rintro e w12 ⟨rfl, hst12⟩
  rw [beq_self_eq_true]
  have ox12 := own_still ox11 hst12
  have oy12 := own_still oy11 hst12
  have oz12 := own_still oz11 hst12
  have hb19 := below_still hb18 hst12
  clear hb18 hst12 ox11 oy11 oz11 o11 l11
  obtain ⟨m, hm⟩ : ∃ m, zs.length = m := ⟨_, rfl⟩
  rw [hm] at ox12 oy12 oz12 nxy nyz ⊢
  have hcap := (own_rowAt oy12).2.2.1
  have hcap2 := (own_rowAt oy12).2.1
  unfold maxLen at hcap
  go_wp2_with fail
  go_loopw [81] (fun iv wr => ∃ (k : Nat) (vs : List Value), iv = .int .i64 (k : Int) ∧ k ≤ m ∧ wr.ownsRow w8.heap.size 31 2 (.slice a9 m c9) m vs ∧ w12.grownBy wr (Value.slice a9 m c9).ownBlock) (fun iv _ => m - (intOf iv).toNat)
  case atStart => exact ⟨0, _, rfl, Nat.zero_le _, oy12, grownBy_refl _ _⟩
  case round =>
    obtain ⟨k, vs, rfl, hk, oy, hg⟩ := hrel
    by_cases hlt : k < m
    · obtain ⟨g, rfl⟩ := mk_own oy (by omega)
      obtain ⟨u, hu⟩ := own_cells oy (k * 2 + 1) (by omega)
      have hf := oy.frozenAt (k * 2 + 1)
      obtain ⟨hst, hgs⟩ := oy.stored (k * 2 + 1) (.int .i64 (-3))
      go_wp2_with fail
      go_roundw
      case rel => exact ⟨k + 1, _, by go_num, by omega, hst, grownBy_trans hg hgs⟩
      case measure => simp [intOf]; omega
    · obtain rfl : k = m := by omega
      have hlk : ¬ (k : Int) < (k : Int) := by omega
      have ox := own_ne ox12 hg (row := .slice a9 k c9) nxy.symm
      have oz := own_ne oz12 hg (row := .slice a9 k c9) nyz
      have hb20 := hb19.grown hg hb19.size (fun k hk => by have := (oy12.lt k hk).1; omega)
      go_wp2_with fail
      (with_reducible refine (rmsame_any _ _ _ zs _ _ _ zs _ (own_rowAt oz) (own_rowAt ox)).mono ?_)
      rintro e w14 ⟨rfl, hst14⟩
      rw [decide_eq_true rfl]
      go_wp2_with fail
      go_ret
      exact ⟨rfl, below_still hb20 hst14⟩

set_option maxHeartbeats 1600000 in
theorem builds_walk (a : Option Addr) (n c : Nat) (ps : List Pl) (stride : Int) (a' : Option Addr) (n' c' : Nat) (ms : List Mk) (w : World) (r : RowAt w a n c 5 (ps.flatMap Pl.cells)) (hs : n * 56 ≤ 140737488351232)
    (h0 : -9223372036854775808 ≤ stride) (h1 : stride ≤ 9223372036854775807) (r' : RowAt w a' n' c' 2 (ms.flatMap Mk.cells)) (hs' : n' * 16 ≤ 140737488351232) :
    Calls Try.prog 5 #[.slice a n c, .int .i64 stride, .slice a' n' c'] w fun e w' => e = .returned (.bool true) ∧ Below w.heap.size w w' := by
  have hml : ps.length = n := by have := r.1; rw [P_len] at this; omega
  have HL := Lib.hid hml
  have hml' : ms.length = n' := by have := r'.1; rw [M_len] at this; omega
  have HL' := Lib.hid hml'
  clear hml hml'
  go_enter Try.func5, Try.ntmps5
  go_wp2_with fail
  (with_reducible refine (head_any _).mono ?_)
  rintro e w1 ⟨rfl, hb1⟩
  have r1 := r'.below hb1
  have ho0 := own_lit w1 [] 0 5 43 rfl (by decide)
  have hbl := below_made w1 (.cells [].toArray 43)
  have hsz0 := hbl.size
  have p1 := (r.below hb1).below hbl
  go_wp2_with (at_builtin; refine wpList_app rfl _ _ 36 rfl slP rfl ho0 rfl p1 (P_one _) (by omega) (by simp) fun a2 c2 w2 hown2 hg2 => ?_)
  rw [List.nil_append, Nat.zero_add] at hown2
  have hb2 := below_next hb1 (hbl.grown hg2 hsz0 (own_block ho0))
  have r2 := r1.below (hbl.grown hg2 hsz0 (own_block ho0))
  have m2 := own_rowAt hown2
  have p2 := r.below hb2
  clear ho0 hbl p1 hown2 hg2 hb1 r1 hsz0
  (with_reducible refine (rbuild_any _ _ _ ps stride _ (by omega) p2 h1).mono ?_)
  rintro e w3 ⟨a3, c3, rfl, ow3, hb3⟩
  have r3 := r2.below hb3
  have m3 := m2.below hb3
  have hb4 := below_next hb2 hb3
  clear hb2 hb3 r2 m2
  obtain ⟨z, hz⟩ : ∃ z, buildN ps stride = z := ⟨_, rfl⟩
  have HZ := Lib.hid hz
  rw [hz] at ow3 ⊢
  clear hz
  go_wp2_with fail
  (with_reducible refine (build_any _ _ _ ps stride _ (by omega) m3 h1).mono ?_)
  rintro e w5 ⟨a5, c5, rfl, oa5, hb5⟩
  rw [HZ.out] at oa5 ⊢
  have ow5 := own_below ow3 hb5
  have nwa := ne_later ow3 oa5 (Nat.le_refl _)
  have r5 := r3.below hb5
  have m5 := m3.below hb5
  have hb6 := below_next hb4 hb5
  have hs3 := hb4.size
  clear hb4 hb5 r3 m3 ow3
  go_wp2_with fail
  (with_reducible refine (build_any _ _ _ ps stride _ (by omega) m5 h1).mono ?_)
  rintro e w7 ⟨a7, c7, rfl, ob7, hb7⟩
  rw [HZ.out] at ob7 ⊢
  have ow7 := own_below ow5 hb7
  have oa7 := own_below oa5 hb7
  have nab := ne_later oa5 ob7 (Nat.le_refl _)
  have r7 := r5.below hb7
  have hb8 := below_next hb6 hb7
  clear hb6 hb7 r5 m5 ow5 oa5
  go_wp2_with fail
  (with_reducible refine (rmsame_any _ _ _ z _ _ _ z _ (own_rowAt oa7) (own_rowAt ow7)).mono ?_)
  rintro e w9 ⟨rfl, hst9⟩
  rw [decide_eq_true rfl]
  have ow9 := own_still ow7 hst9
  have oa9 := own_still oa7 hst9
  have ob9 := own_still ob7 hst9
  have r9 := r7.still hst9
  have hb9 := below_still hb8 hst9
  clear hb8 hst9 ow7 oa7 ob7 r7
  go_wp2_with fail
  (with_reducible refine (mcopy_any _ _ _ ms _ (by omega) r9).mono ?_)
  rintro e w10 ⟨a10, c10, rfl, oc10, hb10⟩
  rw [HL'.out] at oc10 ⊢
  have ow10 := own_below ow9 hb10
  have oa10 := own_below oa9 hb10
  have ob10 := own_below ob9 hb10
  have r10 := r9.below hb10
  have hb11 := below_next hb9 hb10
  clear hb9 hb10 ow9 oa9 ob9 r9
  go_wp2_with fail
  (with_reducible refine (valid_any _ _ _ ms _ (own_rowAt oc10)).mono ?_)
  rintro e w11 ⟨rfl, hb12⟩
  have ow11 := own_below ow10 hb12
  have oa11 := own_below oa10 hb12
  have ob11 := own_below ob10 hb12
  have r11 := r10.below hb12
  have hb13 := below_next hb11 hb12
  clear hb11 hb12 ow10 oa10 ob10 r10 oc10
  go_wp2_with fail
  (with_reducible refine (rvalid_any _ _ _ ms _ r11).mono ?_)
  rintro e w12 ⟨rfl, hst12⟩
  have ow12 := own_still ow11 hst12
  have oa12 := own_still oa11 hst12
  have ob12 := own_still ob11 hst12
  have hb14 := below_still hb13 hst12
  clear hb13 hst12 ow11 oa11 ob11 r11
  obtain ⟨bb, hbb⟩ : ∃ bb, okN ms = bb := ⟨_, rfl⟩
  rw [hbb]
  clear hbb
  obtain ⟨m, hm⟩ : ∃ m, z.length = m := ⟨_, rfl⟩
  rw [hm] at ow12 oa12 ob12 nwa nab ⊢
  have hcap := (own_rowAt oa12).2.2.1
  have hcap2 := (own_rowAt oa12).2.1
  unfold maxLen at hcap
  have hbe : (bb != bb) = false := by cases bb <;> rfl
  have hbe2 : (!(bb == bb)) = false := by cases bb <;> rfl
  go_wp2_with fail
  go_loopw [40] (fun iv wr => ∃ (k : Nat) (vs : List Value), iv = .int .i64 (k : Int) ∧ k ≤ m ∧ wr.ownsRow w3.heap.size 31 2 (.slice a5 m c5) m vs ∧ w12.grownBy wr (Value.slice a5 m c5).ownBlock) (fun iv _ => m - (intOf iv).toNat)
  case atStart => exact ⟨0, _, rfl, Nat.zero_le _, oa12, grownBy_refl _ _⟩
  case round =>
    obtain ⟨k, vs, rfl, hk, oy, hg⟩ := hrel
    by_cases hlt : k < m
    · obtain ⟨g, rfl⟩ := mk_own oy (by omega)
      obtain ⟨u0, hu0⟩ := own_cells oy (k * 2) (by omega)
      obtain ⟨u1, hu1⟩ := own_cells oy (k * 2 + 1) (by omega)
      have hf0 := oy.frozenAt (k * 2)
      obtain ⟨hst, hgs⟩ := oy.stored (k * 2) (.int .i64 (-1))
      have hf1 := hst.frozenAt (k * 2 + 1)
      obtain ⟨hst2, hgs2⟩ := hst.stored (k * 2 + 1) (.int .i64 (-1))
      clear hst
      go_wp2_with fail
      go_roundw
      case rel => exact ⟨k + 1, _, by go_num, by omega, hst2, grownBy_trans (grownBy_trans hg hgs) hgs2⟩
      case measure => simp [intOf]; omega
    · obtain rfl : k = m := by omega
      have hlk : ¬ (k : Int) < (k : Int) := by omega
      have ow := own_ne ow12 hg (row := .slice a5 k c5) nwa.symm
      have ob := own_ne ob12 hg (row := .slice a5 k c5) nab
      have hb20 := hb14.grown hg hb14.size (fun k hk => by have := (oa12.lt k hk).1; omega)
      go_wp2_with fail
      (with_reducible refine (rmsame_any _ _ _ z _ _ _ z _ (own_rowAt ob) (own_rowAt ow)).mono ?_)
      rintro e w14 ⟨rfl, hst14⟩
      rw [decide_eq_true rfl]
      go_wp2_with fail
      go_ret
      exact ⟨rfl, below_still hb20 hst14⟩
end Go.Proofs.Ytgdepgfipocdcaa
