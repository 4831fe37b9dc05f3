/-
  The walks of last and of Kinds, version by version, printed by genkinds.py. No condition.
-/
import Derived.Test.YtmlkapmaebakbaaSkinds
namespace Go.Proofs.Ytmlkapmaebakbaa
open Go.RowKit
set_option linter.unusedVariables false

theorem slK : SlTy Try.prog 39 22 1 8 (.int .i64 0) := slTy_mk Try.underlying39 (by kernel_rfl) rfl (by decide) (by decide)

/-- The kinds 1 to L, as cells. -/
def kindCells (L : Nat) : List Value := (List.range L).map fun (i : Nat) => Value.int .i64 ((i : Int) + 1)
theorem kindCells_succ (L : Nat) : kindCells (L + 1) = kindCells L ++ [.int .i64 ((L : Int) + 1)] := by
  unfold kindCells; rw [List.range_succ, List.map_append]; rfl
theorem kindCells_len (L : Nat) : (kindCells L).length = L := by simp [kindCells]

/-- The word of Kinds: the kinds 1 to L in new memory. -/
def GivesK (w : World) (L : Nat) (e : Ending) (w' : World) : Prop := ∃ a cap, e = .returned (.slice a L cap) ∧ w'.ownsRow w.heap.size 22 1 (.slice a L cap) L (kindCells L) ∧ Below w.heap.size w w'

theorem last1_any (w : World) : Calls Try.prog 33 #[.agg #[.int .i64 0, .int .i64 0, .int .i64 0, .int .i64 0, .int .i64 0]] w fun x w' => x = .returned (.int .i64 5) ∧ Below w.heap.size w w' := by
  go_enter Try.func33, Try.ntmps33
  go_wp2_with fail
  go_ret
  exact ⟨rfl, below_made _ _⟩

theorem last3_any (w : World) : Calls Try.prog 38 #[.agg #[.int .i64 0, .int .i64 0, .int .i64 0, .int .i64 0, .int .i64 0, .int .i64 0, .int .i64 0]] w fun x w' => x = .returned (.int .i64 7) ∧ Below w.heap.size w w' := by
  go_enter Try.func38, Try.ntmps38
  go_wp2_with fail
  go_ret
  exact ⟨rfl, below_made _ _⟩

theorem last4_any (w : World) : Calls Try.prog 40 #[.agg #[.int .i64 0, .int .i64 0, .int .i64 0, .int .i64 0, .int .i64 0, .int .i64 0, .int .i64 0, .string ⟨#[]⟩]] w fun x w' => x = .returned (.int .i64 9) ∧ Below w.heap.size w w' := by
  go_enter Try.func40, Try.ntmps40
  go_wp2_with fail
  go_ret
  exact ⟨rfl, below_made _ _⟩

theorem last5_any (w : World) : Calls Try.prog 43 #[.agg #[.int .i64 0, .int .i64 0, .int .i64 0, .int .i64 0, .int .i64 0, .int .i64 0, .int .i64 0, .string ⟨#[]⟩, .int .i64 0, .string ⟨#[]⟩]] w fun x w' => x = .returned (.int .i64 10) ∧ Below w.heap.size w w' := by
  go_enter Try.func43, Try.ntmps43
  go_wp2_with fail
  go_ret
  exact ⟨rfl, below_made _ _⟩

theorem met1 (w : World) : (method 179 26 (.agg #[.int .i64 0, .int .i64 0, .int .i64 0, .int .i64 0, .int .i64 0]) "daybook/schema.last").run Try.prog w = .ok (33, .agg #[.int .i64 0, .int .i64 0, .int .i64 0, .int .i64 0, .int .i64 0]) w := by kernel_rfl

set_option maxHeartbeats 800000 in
theorem kinds1 (w : World) : Calls Try.prog 13 #[.int .i64 1] w (GivesK w 5) := by
  have ht := fun wx => typed_any 1 ⟨0, 0, 0, 0, 0, 0, 0, ⟨#[]⟩, 0, ⟨#[]⟩⟩ wx
  unfold Ev.val Ev.cells typV at ht
  simp only [if_true, Int.reduceEq, if_false] at ht
  have HT := Lib.hid ht
  clear ht
  go_enter Try.func13, Try.ntmps13
  go_wp2_with fail
  (with_reducible refine (HT.out _).mono ?_)
  rintro x w1 ⟨rfl, hb1⟩
  go_wp2_with fail
  go_loopw [4, 5] (fun pv kv wr => ∃ (j : Nat) (a : Option Addr) (cap : Nat), pv = .slice a j cap ∧ kv = .int .i64 ((j : Int) + 1) ∧ j ≤ 5 ∧ wr.ownsRow w1.heap.size 22 1 (.slice a j cap) j (kindCells j) ∧ Below w1.heap.size w1 wr) (fun _ kv _ => 6 - (intOf kv).toNat)
  case atStart => exact ⟨0, none, 0, rfl, rfl, by omega, World.ownsRow_nil _ _ _ _, Below.refl _ _⟩
  case round =>
    obtain ⟨j, a, cap, rfl, rfl, hj, ho, hb⟩ := hrel
    have hm := met1
    have hs1 := hb1.size
    by_cases hlt : j < 5
    · have hle : (j : Int) + 1 ≤ 5 := by omega
      go_wp2_with fail
      (with_reducible refine (last1_any _).mono ?_)
      rintro x w2 ⟨rfl, hb2⟩
      have ho2 := own_below ho hb2
      have hb3 := below_next hb hb2
      have hsz := hb3.size
      go_wp2_with (at_builtin; refine wpList_app1 rfl _ _ 39 rfl slK rfl ho2 rfl rfl (one1 _ _) (by omega) hsz fun a3 c3 w3 ho3 hg3 => ?_)
      go_roundw
      case rel => exact ⟨j + 1, a3, c3, rfl, by go_num, by omega, by rw [kindCells_succ]; exact ho3, hb3.grown hg3 hsz (own_block ho2)⟩
      case measure => simp [intOf]; omega
    · obtain ⟨L, hL, hjL⟩ : ∃ L, L = j ∧ L = 5 := ⟨j, rfl, by omega⟩
      subst hL
      have hle : ¬ (L : Int) + 1 ≤ 5 := by omega
      go_wp2_with fail
      (with_reducible refine (last1_any _).mono ?_)
      rintro x w2 ⟨rfl, hb2⟩
      go_wp2_with fail
      go_ret
      subst hjL
      exact ⟨a, cap, rfl, own_mono (own_below ho hb2) hs1, below_next hb1 (below_next hb hb2)⟩

theorem met2 (w : World) : (method 179 28 (.agg #[.int .i64 0, .int .i64 0, .int .i64 0, .int .i64 0, .int .i64 0, .int .i64 0]) "daybook/schema.last").run Try.prog w = .ok (33, .agg #[.int .i64 0, .int .i64 0, .int .i64 0, .int .i64 0, .int .i64 0]) w := by kernel_rfl

set_option maxHeartbeats 800000 in
theorem kinds2 (w : World) : Calls Try.prog 13 #[.int .i64 2] w (GivesK w 5) := by
  have ht := fun wx => typed_any 2 ⟨0, 0, 0, 0, 0, 0, 0, ⟨#[]⟩, 0, ⟨#[]⟩⟩ wx
  unfold Ev.val Ev.cells typV at ht
  simp only [if_true, Int.reduceEq, if_false] at ht
  have HT := Lib.hid ht
  clear ht
  go_enter Try.func13, Try.ntmps13
  go_wp2_with fail
  (with_reducible refine (HT.out _).mono ?_)
  rintro x w1 ⟨rfl, hb1⟩
  go_wp2_with fail
  go_loopw [4, 5] (fun pv kv wr => ∃ (j : Nat) (a : Option Addr) (cap : Nat), pv = .slice a j cap ∧ kv = .int .i64 ((j : Int) + 1) ∧ j ≤ 5 ∧ wr.ownsRow w1.heap.size 22 1 (.slice a j cap) j (kindCells j) ∧ Below w1.heap.size w1 wr) (fun _ kv _ => 6 - (intOf kv).toNat)
  case atStart => exact ⟨0, none, 0, rfl, rfl, by omega, World.ownsRow_nil _ _ _ _, Below.refl _ _⟩
  case round =>
    obtain ⟨j, a, cap, rfl, rfl, hj, ho, hb⟩ := hrel
    have hm := met2
    have hs1 := hb1.size
    by_cases hlt : j < 5
    · have hle : (j : Int) + 1 ≤ 5 := by omega
      go_wp2_with fail
      (with_reducible refine (last1_any _).mono ?_)
      rintro x w2 ⟨rfl, hb2⟩
      have ho2 := own_below ho hb2
      have hb3 := below_next hb hb2
      have hsz := hb3.size
      go_wp2_with (at_builtin; refine wpList_app1 rfl _ _ 39 rfl slK rfl ho2 rfl rfl (one1 _ _) (by omega) hsz fun a3 c3 w3 ho3 hg3 => ?_)
      go_roundw
      case rel => exact ⟨j + 1, a3, c3, rfl, by go_num, by omega, by rw [kindCells_succ]; exact ho3, hb3.grown hg3 hsz (own_block ho2)⟩
      case measure => simp [intOf]; omega
    · obtain ⟨L, hL, hjL⟩ : ∃ L, L = j ∧ L = 5 := ⟨j, rfl, by omega⟩
      subst hL
      have hle : ¬ (L : Int) + 1 ≤ 5 := by omega
      go_wp2_with fail
      (with_reducible refine (last1_any _).mono ?_)
      rintro x w2 ⟨rfl, hb2⟩
      go_wp2_with fail
      go_ret
      subst hjL
      exact ⟨a, cap, rfl, own_mono (own_below ho hb2) hs1, below_next hb1 (below_next hb hb2)⟩

theorem met3 (w : World) : (method 179 30 (.agg #[.int .i64 0, .int .i64 0, .int .i64 0, .int .i64 0, .int .i64 0, .int .i64 0, .int .i64 0]) "daybook/schema.last").run Try.prog w = .ok (38, .agg #[.int .i64 0, .int .i64 0, .int .i64 0, .int .i64 0, .int .i64 0, .int .i64 0, .int .i64 0]) w := by kernel_rfl

set_option maxHeartbeats 800000 in
theorem kinds3 (w : World) : Calls Try.prog 13 #[.int .i64 3] w (GivesK w 7) := by
  have ht := fun wx => typed_any 3 ⟨0, 0, 0, 0, 0, 0, 0, ⟨#[]⟩, 0, ⟨#[]⟩⟩ wx
  unfold Ev.val Ev.cells typV at ht
  simp only [if_true, Int.reduceEq, if_false] at ht
  have HT := Lib.hid ht
  clear ht
  go_enter Try.func13, Try.ntmps13
  go_wp2_with fail
  (with_reducible refine (HT.out _).mono ?_)
  rintro x w1 ⟨rfl, hb1⟩
  go_wp2_with fail
  go_loopw [4, 5] (fun pv kv wr => ∃ (j : Nat) (a : Option Addr) (cap : Nat), pv = .slice a j cap ∧ kv = .int .i64 ((j : Int) + 1) ∧ j ≤ 7 ∧ wr.ownsRow w1.heap.size 22 1 (.slice a j cap) j (kindCells j) ∧ Below w1.heap.size w1 wr) (fun _ kv _ => 8 - (intOf kv).toNat)
  case atStart => exact ⟨0, none, 0, rfl, rfl, by omega, World.ownsRow_nil _ _ _ _, Below.refl _ _⟩
  case round =>
    obtain ⟨j, a, cap, rfl, rfl, hj, ho, hb⟩ := hrel
    have hm := met3
    have hs1 := hb1.size
    by_cases hlt : j < 7
    · have hle : (j : Int) + 1 ≤ 7 := by omega
      go_wp2_with fail
      (with_reducible refine (last3_any _).mono ?_)
      rintro x w2 ⟨rfl, hb2⟩
      have ho2 := own_below ho hb2
      have hb3 := below_next hb hb2
      have hsz := hb3.size
      go_wp2_with (at_builtin; refine wpList_app1 rfl _ _ 39 rfl slK rfl ho2 rfl rfl (one1 _ _) (by omega) hsz fun a3 c3 w3 ho3 hg3 => ?_)
      go_roundw
      case rel => exact ⟨j + 1, a3, c3, rfl, by go_num, by omega, by rw [kindCells_succ]; exact ho3, hb3.grown hg3 hsz (own_block ho2)⟩
      case measure => simp [intOf]; omega
    · obtain ⟨L, hL, hjL⟩ : ∃ L, L = j ∧ L = 7 := ⟨j, rfl, by omega⟩
      subst hL
      have hle : ¬ (L : Int) + 1 ≤ 7 := by omega
      go_wp2_with fail
      (with_reducible refine (last3_any _).mono ?_)
      rintro x w2 ⟨rfl, hb2⟩
      go_wp2_with fail
      go_ret
      subst hjL
      exact ⟨a, cap, rfl, own_mono (own_below ho hb2) hs1, below_next hb1 (below_next hb hb2)⟩

theorem met4 (w : World) : (method 179 32 (.agg #[.int .i64 0, .int .i64 0, .int .i64 0, .int .i64 0, .int .i64 0, .int .i64 0, .int .i64 0, .string ⟨#[]⟩]) "daybook/schema.last").run Try.prog w = .ok (40, .agg #[.int .i64 0, .int .i64 0, .int .i64 0, .int .i64 0, .int .i64 0, .int .i64 0, .int .i64 0, .string ⟨#[]⟩]) w := by kernel_rfl

set_option maxHeartbeats 800000 in
theorem kinds4 (w : World) : Calls Try.prog 13 #[.int .i64 4] w (GivesK w 9) := by
  have ht := fun wx => typed_any 4 ⟨0, 0, 0, 0, 0, 0, 0, ⟨#[]⟩, 0, ⟨#[]⟩⟩ wx
  unfold Ev.val Ev.cells typV at ht
  simp only [if_true, Int.reduceEq, if_false] at ht
  have HT := Lib.hid ht
  clear ht
  go_enter Try.func13, Try.ntmps13
  go_wp2_with fail
  (with_reducible refine (HT.out _).mono ?_)
  rintro x w1 ⟨rfl, hb1⟩
  go_wp2_with fail
  go_loopw [4, 5] (fun pv kv wr => ∃ (j : Nat) (a : Option Addr) (cap : Nat), pv = .slice a j cap ∧ kv = .int .i64 ((j : Int) + 1) ∧ j ≤ 9 ∧ wr.ownsRow w1.heap.size 22 1 (.slice a j cap) j (kindCells j) ∧ Below w1.heap.size w1 wr) (fun _ kv _ => 10 - (intOf kv).toNat)
  case atStart => exact ⟨0, none, 0, rfl, rfl, by omega, World.ownsRow_nil _ _ _ _, Below.refl _ _⟩
  case round =>
    obtain ⟨j, a, cap, rfl, rfl, hj, ho, hb⟩ := hrel
    have hm := met4
    have hs1 := hb1.size
    by_cases hlt : j < 9
    · have hle : (j : Int) + 1 ≤ 9 := by omega
      go_wp2_with fail
      (with_reducible refine (last4_any _).mono ?_)
      rintro x w2 ⟨rfl, hb2⟩
      have ho2 := own_below ho hb2
      have hb3 := below_next hb hb2
      have hsz := hb3.size
      go_wp2_with (at_builtin; refine wpList_app1 rfl _ _ 39 rfl slK rfl ho2 rfl rfl (one1 _ _) (by omega) hsz fun a3 c3 w3 ho3 hg3 => ?_)
      go_roundw
      case rel => exact ⟨j + 1, a3, c3, rfl, by go_num, by omega, by rw [kindCells_succ]; exact ho3, hb3.grown hg3 hsz (own_block ho2)⟩
      case measure => simp [intOf]; omega
    · obtain ⟨L, hL, hjL⟩ : ∃ L, L = j ∧ L = 9 := ⟨j, rfl, by omega⟩
      subst hL
      have hle : ¬ (L : Int) + 1 ≤ 9 := by omega
      go_wp2_with fail
      (with_reducible refine (last4_any _).mono ?_)
      rintro x w2 ⟨rfl, hb2⟩
      go_wp2_with fail
      go_ret
      subst hjL
      exact ⟨a, cap, rfl, own_mono (own_below ho hb2) hs1, below_next hb1 (below_next hb hb2)⟩

theorem met5 (w : World) : (method 179 34 (.agg #[.int .i64 0, .int .i64 0, .int .i64 0, .int .i64 0, .int .i64 0, .int .i64 0, .int .i64 0, .string ⟨#[]⟩, .int .i64 0, .string ⟨#[]⟩]) "daybook/schema.last").run Try.prog w = .ok (43, .agg #[.int .i64 0, .int .i64 0, .int .i64 0, .int .i64 0, .int .i64 0, .int .i64 0, .int .i64 0, .string ⟨#[]⟩, .int .i64 0, .string ⟨#[]⟩]) w := by kernel_rfl

set_option maxHeartbeats 800000 in
theorem kinds5 (w : World) : Calls Try.prog 13 #[.int .i64 5] w (GivesK w 10) := by
  have ht := fun wx => typed_any 5 ⟨0, 0, 0, 0, 0, 0, 0, ⟨#[]⟩, 0, ⟨#[]⟩⟩ wx
  unfold Ev.val Ev.cells typV at ht
  simp only [if_true, Int.reduceEq, if_false] at ht
  have HT := Lib.hid ht
  clear ht
  go_enter Try.func13, Try.ntmps13
  go_wp2_with fail
  (with_reducible refine (HT.out _).mono ?_)
  rintro x w1 ⟨rfl, hb1⟩
  go_wp2_with fail
  go_loopw [4, 5] (fun pv kv wr => ∃ (j : Nat) (a : Option Addr) (cap : Nat), pv = .slice a j cap ∧ kv = .int .i64 ((j : Int) + 1) ∧ j ≤ 10 ∧ wr.ownsRow w1.heap.size 22 1 (.slice a j cap) j (kindCells j) ∧ Below w1.heap.size w1 wr) (fun _ kv _ => 11 - (intOf kv).toNat)
  case atStart => exact ⟨0, none, 0, rfl, rfl, by omega, World.ownsRow_nil _ _ _ _, Below.refl _ _⟩
  case round =>
    obtain ⟨j, a, cap, rfl, rfl, hj, ho, hb⟩ := hrel
    have hm := met5
    have hs1 := hb1.size
    by_cases hlt : j < 10
    · have hle : (j : Int) + 1 ≤ 10 := by omega
      go_wp2_with fail
      (with_reducible refine (last5_any _).mono ?_)
      rintro x w2 ⟨rfl, hb2⟩
      have ho2 := own_below ho hb2
      have hb3 := below_next hb hb2
      have hsz := hb3.size
      go_wp2_with (at_builtin; refine wpList_app1 rfl _ _ 39 rfl slK rfl ho2 rfl rfl (one1 _ _) (by omega) hsz fun a3 c3 w3 ho3 hg3 => ?_)
      go_roundw
      case rel => exact ⟨j + 1, a3, c3, rfl, by go_num, by omega, by rw [kindCells_succ]; exact ho3, hb3.grown hg3 hsz (own_block ho2)⟩
      case measure => simp [intOf]; omega
    · obtain ⟨L, hL, hjL⟩ : ∃ L, L = j ∧ L = 10 := ⟨j, rfl, by omega⟩
      subst hL
      have hle : ¬ (L : Int) + 1 ≤ 10 := by omega
      go_wp2_with fail
      (with_reducible refine (last5_any _).mono ?_)
      rintro x w2 ⟨rfl, hb2⟩
      go_wp2_with fail
      go_ret
      subst hjL
      exact ⟨a, cap, rfl, own_mono (own_below ho hb2) hs1, below_next hb1 (below_next hb hb2)⟩


theorem kinds_no (v : Int) (w : World) (h : v < 1 ∨ 5 < v) : Calls Try.prog 13 #[.int .i64 v] w (GivesK w 0) := by
  have hE : typV v ⟨0, 0, 0, 0, 0, 0, 0, ⟨#[]⟩, 0, ⟨#[]⟩⟩ = .nilIface := by
    unfold typV; rw [if_neg (by omega), if_neg (by omega), if_neg (by omega), if_neg (by omega), if_neg (by omega)]
  have ht := fun wx => typed_any v ⟨0, 0, 0, 0, 0, 0, 0, ⟨#[]⟩, 0, ⟨#[]⟩⟩ wx
  rw [hE] at ht
  unfold Ev.val Ev.cells at ht
  have HT := Lib.hid ht
  clear ht hE
  go_enter Try.func13, Try.ntmps13
  go_wp2_with fail
  (with_reducible refine (HT.out _).mono ?_)
  rintro x w1 ⟨rfl, hb1⟩
  go_wp2_with fail
  go_ret
  exact ⟨none, 0, rfl, World.ownsRow_nil _ _ _ _, hb1⟩
end Go.Proofs.Ytmlkapmaebakbaa
