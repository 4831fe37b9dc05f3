/-
  The walks of the numbers in a header: nums, unnums, right, the reference's two. Conditions: the arguments read as their types say; few numbers.
-/
import Derived.Test.YtffhejaeliphcaaDoorMHplain
import Derived.Test.YtffhejaeliphcaaDoorMVd
import Derived.Test.YtffhejaeliphcaaDoorMVe
namespace Go.Proofs.YtffhejaeliphcaaDoor
open Go.RowKit
set_option linter.unusedVariables false

/-- A number as a cell. -/
def I (x : Nat) : Value := .int .i64 (x : Int)
theorem I_one (l : List Nat) : ∀ u ∈ l.map I, u.oneCell' = true := by
  intro u hu; simp at hu; obtain ⟨x, _, rfl⟩ := hu; rfl
/-- Numbers, one behind the other. -/
def numsN (us : List Nat) : List UInt8 := us.flatMap enc
theorem numsN_len : ∀ (us : List Nat), (∀ u ∈ us, u < 9223372036854775808) → (numsN us).length ≤ 10 * us.length
  | [], _ => by simp [numsN]
  | u :: r, h => by
    have h1 := enc_len10 u (by have := h u (by simp); omega)
    have h2 := numsN_len r (fun x hx => h x (by simp [hx]))
    unfold numsN at h2 ⊢
    simp only [List.flatMap_cons, List.length_append, List.length_cons]; omega
theorem numsN_drop {us : List Nat} {k : Nat} {x : Nat} (h : us[k]? = some x) : numsN (us.drop k) = enc x ++ numsN (us.drop (k + 1)) := by
  obtain ⟨hk, rfl⟩ := List.getElem?_eq_some_iff.1 h
  rw [List.drop_eq_getElem_cons hk]; rfl

set_option maxHeartbeats 400000 in
theorem nums_any (a1 : Option Addr) (n1 c1 : Nat) (us : List Nat) (w : World) (hu : ∀ u ∈ us, u < 9223372036854775808) (hn : n1 ≤ 1000) (r1 : RowAt w a1 n1 c1 1 (us.map I)) :
    Calls Tryd.prog 41 #[.slice a1 n1 c1] w (GivesB 5 w (numsN us)) := by
  have e1 : us.length = n1 := by simpa using r1.len
  have m1 := r1.2.2.1
  have m2 := r1.2.1
  unfold maxLen at m1
  have HL := Lib.hid (numsN_len us hu)
  have HU := Lib.hid hu
  have H1 := Lib.hid e1; clear e1 hu
  go_enter Tryd.func41, Tryd.ntmps41
  go_wp2_with fail
  go_loopw [3, 5, 8] (fun bv _ iv wr => ∃ (k : Nat) (l : List UInt8) (a : Option Addr) (cap : Nat), iv = .int .i64 (k : Int) ∧ k ≤ n1 ∧ bv = .slice a l.length cap ∧
    wr.ownsRow w.heap.size 5 1 (.slice a l.length cap) l.length (l.map B) ∧ Hid (l ++ numsN (us.drop k) = numsN us) ∧ Below w.heap.size w wr) (fun _ _ iv _ => n1 - (intOf iv).toNat)
  case atStart => exact ⟨0, [], none, 0, rfl, Nat.zero_le _, rfl, World.ownsRow_nil _ _ _ _, Lib.hid rfl, Below.refl _ _⟩
  case round =>
    obtain ⟨k, l, a, cap, rfl, hk, rfl, hown, HT, hb⟩ := hrel
    by_cases hlt : k < n1
    · obtain ⟨b1, o1, x, rfl, hx1, hc1⟩ := (r1.below hb).elem k hlt
      unfold I at hc1
      have hx : x < 2 ^ 63 := HU.out x (List.mem_of_getElem? hx1)
      have HX1 := Lib.hid hx1; clear hx1
      have hle : l.length + (enc x).length ≤ 140737488355328 := by
        have h1 := HT.out
        rw [numsN_drop HX1.out] at h1
        have := HL.out
        rw [← h1] at this
        simp only [List.length_append] at this
        have := H1.out
        omega
      go_wp2_with fail
      refine (enc_any _ _ (by omega) (by omega)).mono ?_
      rintro e w2 ⟨a2, cap2, rfl, hown2, hb2⟩
      have ho1 := own_below hown hb2
      have hsz := hb.size
      have hsz2 := hb2.size
      simp only [Int.toNat_natCast] at *
      go_wp2_with (at_builtin; refine wpList_app rfl _ _ 22 rfl slB rfl ho1 rfl (own_rowAt hown2) (B_one _) (by omega) (by omega) fun a3 cap3 w3 hown3 hg3 => ?_)
      go_roundw
      case rel =>
        exact ⟨k + 1, l ++ enc x, a3, cap3, by go_num, by omega, by simp, by simpa using hown3, Lib.hid (by have h1 := HT.out; rw [numsN_drop HX1.out] at h1; rw [← h1]; simp), (below_next hb hb2).grown hg3 (by omega) (own_block ho1)⟩
      case measure => first | (simp [intOf]; omega) | simp [intOf]
    · go_wp2
      go_ret
      have h1 := HT.out
      rw [List.drop_eq_nil_of_le (by have := H1.out; omega)] at h1
      simp only [numsN, List.flatMap_nil, List.append_nil] at h1
      change l = numsN us at h1
      rw [← h1]
      exact ⟨a, cap, rfl, hown, hb⟩

theorem slI : SlTy Tryd.prog 40 3 1 8 (.int .i64 0) := slTy_mk Tryd.underlying40 (by kernel_rfl) rfl (by decide) (by decide)

/-- The word of unnums' contract: the numbers in new memory, what stands behind them, whether. -/
def GivesU (w : World) (x : Option (List Nat × List UInt8)) (e : Ending) (w' : World) : Prop :=
  match x with
  | none => e = .returned (.tuple #[.slice none 0 0, .slice none 0 0, .bool false]) ∧ Below w.heap.size w w'
  | some (vs, r) => ∃ av cv ar cr, e = .returned (.tuple #[.slice av vs.length cv, .slice ar r.length cr, .bool true]) ∧ RowAt w' av vs.length cv 1 (vs.map I) ∧ RowAt w' ar r.length cr 1 (r.map B) ∧ Below w.heap.size w w'

theorem unN_more {l : List UInt8} {j : Nat} (h : unN l j = none) : ∀ k, j ≤ k → unN l k = none
  | k, hk => by
    induction k with
    | zero => have : j = 0 := by omega
              subst this; exact h
    | succ k ih =>
      by_cases e : j = k + 1
      · rw [← e]; exact h
      · have := ih (by omega)
        unfold unN; rw [this]
theorem unN_step {l : List UInt8} {j : Nat} {vs : List Nat} {r : List UInt8} (h : unN l j = some (vs, r)) :
    unN l (j + 1) = if (dec r).2.2 ≠ 0 ∨ 2199023255552 < (dec r).1 then none else some (vs ++ [(dec r).1], r.drop (dec r).2.1) := by
  rw [unN, h]

set_option maxHeartbeats 800000 in
theorem unnums_any (a1 : Option Addr) (n1 c1 : Nat) (l : List UInt8) (m : Nat) (w : World) (hm : m ≤ 1000) (r1 : RowAt w a1 n1 c1 1 (l.map B)) :
    Calls Tryd.prog 51 #[.slice a1 n1 c1, .int .i64 (m : Int)] w (GivesU w (unN l m)) := by
  have e1 : l.length = n1 := by simpa using r1.len
  have m1 := r1.2.2.1
  have m2 := r1.2.1
  unfold maxLen at m1
  go_enter Tryd.func51, Tryd.ntmps51
  go_wp2_with fail
  go_loopw [0, 7, 12] (fun bv usv iv wr => ∃ (k : Nat) (us : List Nat) (r : List UInt8) (a ar : Option Addr) (cap cr : Nat), iv = .int .i64 (k : Int) ∧ k ≤ m ∧ us.length ≤ k ∧ r.length ≤ n1 ∧ bv = .slice ar r.length cr ∧ RowAt w ar r.length cr 1 (r.map B) ∧
    usv = .slice a us.length cap ∧ wr.ownsRow w.heap.size 3 1 (.slice a us.length cap) us.length (us.map I) ∧ Hid (unN l k = some (us, r)) ∧ Below w.heap.size w wr) (fun _ _ iv _ => m - (intOf iv).toNat)
  case atStart => exact ⟨0, [], l, none, a1, 0, c1, rfl, Nat.zero_le _, Nat.le_refl _, by omega, by rw [e1], by rw [e1]; exact r1, rfl, World.ownsRow_nil _ _ _ _, Lib.hid rfl, Below.refl _ _⟩
  case round =>
    obtain ⟨k, us, r, a, ar, cap, cr, rfl, hk, huk, hrl, rfl, hr, rfl, hown, HT, hb⟩ := hrel
    by_cases hlt : k < m
    · obtain ⟨g1, g2, g3, g4⟩ := dec_bd r
      obtain ⟨y, hy⟩ : ∃ y, dec r = y := ⟨_, rfl⟩
      obtain ⟨u, q, e⟩ := y
      have HY := Lib.hid hy
      rw [hy] at g1 g2 g3 g4
      simp only at g1 g2 g3 g4
      have g1' : u < 2 ^ 64 := by omega
      clear hy g1
      have HW : Hid (decV r = .tuple #[.int .u64 (u : Int), .int .i64 (q : Int), .int .i64 (e : Int)]) := Lib.hid (by unfold decV; rw [HY.out])
      have HS := Lib.hid (unN_step HT.out)
      rw [HY.out] at HS
      by_cases he : e = 0
      · subst he
        by_cases hu : 2199023255552 < u
        · have HN : Hid (unN l m = none) := Lib.hid (unN_more (by rw [HS.out, if_pos (.inr hu)]) m (by omega))
          go_wp2_with fail
          refine (dec_any _ _ _ r _ (hr.below hb)).mono ?_
          rintro e w2 ⟨rfl, rfl⟩
          rw [HW.out]
          go_wp2_with fail
          go_ret3
          rw [HN.out]
          exact ⟨rfl, hb⟩
        · have HN : Hid (unN l (k + 1) = some (us ++ [u], r.drop q)) := Lib.hid (by rw [HS.out, if_neg (by simp; omega)])
          obtain ⟨a', hcut, r2⟩ := cut_from slB hr q g3
          rw [Nat.mul_one, ← List.map_drop] at r2
          have hsz := hb.size
          go_wp2_with fail
          refine (dec_any _ _ _ r _ (hr.below hb)).mono ?_
          rintro e w2 ⟨rfl, rfl⟩
          rw [HW.out]
          go_wp2_with (at_builtin; refine wpList_app1 rfl _ _ 40 rfl slI rfl hown rfl rfl (one1 _ _) (by omega) (by omega) fun a3 cap3 w3 hown3 hg3 => ?_)
          go_roundw
          case rel =>
            refine ⟨k + 1, us ++ [u], r.drop q, a3, a', cap3, cr - q, by go_num, by omega, by simp; omega, by simp; omega, ?_, ?_, by simp, by simpa [I] using hown3, HN, hb.grown hg3 hsz (own_block hown)⟩
            · rw [List.length_drop]
            · rw [List.length_drop]; exact r2
          case measure => first | (simp [intOf]; omega) | simp [intOf]
      · have he' : ((e : Int) != 0) = true := by rw [bne_iff_ne]; omega
        have HN : Hid (unN l m = none) := Lib.hid (unN_more (by rw [HS.out, if_pos (.inl he)]) m (by omega))
        clear he
        go_wp2_with fail
        refine (dec_any _ _ _ r _ (hr.below hb)).mono ?_
        rintro e w2 ⟨rfl, rfl⟩
        rw [HW.out]
        go_wp2_with fail
        go_ret3
        rw [HN.out]
        exact ⟨rfl, hb⟩
    · obtain rfl : k = m := by omega
      go_wp2_with fail
      go_ret3
      rw [HT.out]
      exact ⟨a, cap, ar, cr, rfl, own_rowAt hown, hr.below hb, hb⟩
end Go.Proofs.YtffhejaeliphcaaDoor
