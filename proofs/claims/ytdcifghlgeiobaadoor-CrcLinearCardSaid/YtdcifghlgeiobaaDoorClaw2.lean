/-
  The walk of CrcLinear. Conditions: arguments read as their types say, within the form's own reach; the table of nibbles holds what the text lays.
-/
import Derived.Test.YtdcifghlgeiobaaDoorClaw1
import Derived.WalkLawsBesides
namespace Go.Proofs.YtdcifghlgeiobaaDoor
open Go.RowKit
set_option linter.unusedVariables false

/-- Three texts laid over each other. -/
def lay3 : List UInt8 → List UInt8 → List UInt8 → List UInt8
  | x :: l, y :: m, z :: r => UInt8.ofNat (x.toNat ^^^ y.toNat ^^^ z.toNat) :: lay3 l m r
  | _, _, _ => []

theorem x3_lt (x y z : UInt8) : x.toNat ^^^ y.toNat ^^^ z.toNat < 256 :=
  Nat.xor_lt_two_pow (n := 8) (Nat.xor_lt_two_pow (n := 8) x.toNat_lt y.toNat_lt) z.toNat_lt

theorem xor_swap (a b c d e f : Nat) : a ^^^ b ^^^ c ^^^ (d ^^^ e ^^^ f) = a ^^^ d ^^^ (b ^^^ e) ^^^ (c ^^^ f) := by
  apply Nat.eq_of_testBit_eq; intro i
  simp only [Nat.testBit_xor]
  cases a.testBit i <;> cases b.testBit i <;> cases c.testBit i <;> cases d.testBit i <;> cases e.testBit i <;> cases f.testBit i <;> rfl

theorem upd_lay3 : ∀ (l m r : List UInt8) (a b c : Nat), l.length = m.length → m.length = r.length → upd (a ^^^ b ^^^ c) (lay3 l m r) = upd a l ^^^ upd b m ^^^ upd c r
  | [], [], [], _, _, _, _, _ => rfl
  | x :: l, y :: m, z :: r, a, b, c, h1, h2 => by
    have e1 : upd (a ^^^ b ^^^ c) (lay3 (x :: l) (y :: m) (z :: r)) = upd (take8 (a ^^^ b ^^^ c) (x.toNat ^^^ y.toNat ^^^ z.toNat)) (lay3 l m r) := by
      have : (UInt8.ofNat (x.toNat ^^^ y.toNat ^^^ z.toNat)).toNat = x.toNat ^^^ y.toNat ^^^ z.toNat := by
        simp only [UInt8.toNat_ofNat']; exact Nat.mod_eq_of_lt (x3_lt x y z)
      show upd (take8 (a ^^^ b ^^^ c) (UInt8.ofNat _).toNat) _ = _
      rw [this]
    rw [e1]
    have e2 : take8 (a ^^^ b ^^^ c) (x.toNat ^^^ y.toNat ^^^ z.toNat) = take8 a x.toNat ^^^ take8 b y.toNat ^^^ take8 c z.toNat := by
      unfold take8; rw [← bitN_xor, ← bitN_xor, xor_swap]
    rw [e2, upd_lay3 l m r _ _ _ (by simpa using h1) (by simpa using h2)]
    rfl

theorem sum_lay3 (l m r : List UInt8) (h1 : l.length = m.length) (h2 : m.length = r.length) : sumN 0 (lay3 l m r) = sumN 0 l ^^^ sumN 0 m ^^^ sumN 0 r := by
  have hl := upd_lt l 4294967295 (by omega)
  have hm := upd_lt m 4294967295 (by omega)
  have hr := upd_lt r 4294967295 (by omega)
  have h := upd_lay3 l m r 4294967295 4294967295 4294967295 h1 h2
  rw [Nat.xor_self, Nat.zero_xor] at h
  have hd := upd_lt (lay3 l m r) 4294967295 (by omega)
  unfold sumN
  simp only [Nat.sub_zero]
  rw [not_xor _ hl, not_xor _ hm, not_xor _ hr, not_xor _ hd, h]
  apply Nat.eq_of_testBit_eq; intro i
  simp only [Nat.testBit_xor]
  cases (upd 4294967295 l).testBit i <;> cases (upd 4294967295 m).testBit i <;> cases (upd 4294967295 r).testBit i <;> cases (4294967295 : Nat).testBit i <;> rfl

theorem lay3_length : ∀ (l m r : List UInt8), l.length = m.length → m.length = r.length → (lay3 l m r).length = l.length
  | [], [], [], _, _ => rfl
  | x :: l, y :: m, z :: r, h1, h2 => by simp only [lay3, List.length_cons]; rw [lay3_length l m r (by simpa using h1) (by simpa using h2)]

theorem lay3_get : ∀ (l m r : List UInt8) (k : Nat) (x y z : UInt8), l[k]? = some x → m[k]? = some y → r[k]? = some z → (lay3 l m r)[k]? = some (UInt8.ofNat (x.toNat ^^^ y.toNat ^^^ z.toNat))
  | [], _, _, k, _, _, _, h, _, _ => by simp at h
  | _ :: _, [], _, k, _, _, _, _, h, _ => by simp at h
  | _ :: _, _ :: _, [], k, _, _, _, _, _, h => by simp at h
  | x :: l, y :: m, z :: r, 0, x', y', z', h1, h2, h3 => by simp at h1 h2 h3; subst h1 h2 h3; rfl
  | x :: l, y :: m, z :: r, k + 1, x', y', z', h1, h2, h3 => by simp at h1 h2 h3; exact lay3_get l m r k x' y' z' h1 h2 h3

theorem x3_bits (x y z : UInt8) : bits .xor .u8 (bits .xor .u8 (x.toNat : Int) (y.toNat : Int)) (z.toNat : Int) = ((UInt8.ofNat (x.toNat ^^^ y.toNat ^^^ z.toNat)).toNat : Int) := by
  have h1 := u8_xor_nat x.toNat y.toNat x.toNat_lt y.toNat_lt
  have h2 := u8_xor_nat (x.toNat ^^^ y.toNat) z.toNat (Nat.xor_lt_two_pow (n := 8) x.toNat_lt y.toNat_lt) z.toNat_lt
  rw [h1, h2]
  simp only [UInt8.toNat_ofNat']
  rw [Nat.mod_eq_of_lt (x3_lt x y z)]

set_option maxHeartbeats 800000 in
theorem linear_walk (a : Option Addr) (n c : Nat) (l : List UInt8) (a' : Option Addr) (n' c' : Nat) (l' : List UInt8) (a'' : Option Addr) (n'' c'' : Nat) (l'' : List UInt8) (w : World)
    (r : RowAt w a n c 1 (l.map B)) (hs : n * 1 ≤ 140737488351232) (r' : RowAt w a' n' c' 1 (l'.map B)) (hs' : n' * 1 ≤ 140737488351232) (r'' : RowAt w a'' n'' c'' 1 (l''.map B)) (hs'' : n'' * 1 ≤ 140737488351232) (ht : Tab w) :
    Calls Tryd.prog 5 #[.slice a n c, .slice a' n' c', .slice a'' n'' c''] w fun e w' => e = .returned (.bool true) ∧ Below w.heap.size w w' := by
  have e1 : l.length = n := by simpa using r.len
  have e2 : l'.length = n' := by simpa using r'.len
  have e3 : l''.length = n'' := by simpa using r''.len
  have H1 := Lib.hid e1; clear e1
  have H2 := Lib.hid e2; clear e2
  have H3 := Lib.hid e3; clear e3
  obtain ⟨m, hm1, hm2, hm3, hm⟩ : ∃ m, m ≤ n ∧ m ≤ n' ∧ m ≤ n'' ∧ ((¬ (n' : Int) < (n : Int) ∧ ¬ (n'' : Int) < (n : Int) ∧ m = n) ∨ (((n' : Int) < (n : Int)) ∧ ¬ (n'' : Int) < (n' : Int) ∧ m = n') ∨ (((n' : Int) < (n : Int)) ∧ (n'' : Int) < (n' : Int) ∧ m = n'') ∨ (¬ (n' : Int) < (n : Int) ∧ (n'' : Int) < (n : Int) ∧ m = n'')) := by
    by_cases h1 : (n' : Int) < (n : Int)
    · by_cases h2 : (n'' : Int) < (n' : Int)
      · exact ⟨n'', by omega, by omega, by omega, .inr (.inr (.inl ⟨h1, h2, rfl⟩))⟩
      · exact ⟨n', by omega, by omega, by omega, .inr (.inl ⟨h1, h2, rfl⟩)⟩
    · by_cases h2 : (n'' : Int) < (n : Int)
      · exact ⟨n'', by omega, by omega, by omega, .inr (.inr (.inr ⟨h1, h2, rfl⟩))⟩
      · exact ⟨n, by omega, by omega, by omega, .inl ⟨h1, h2, rfl⟩⟩
  have q1 := rowB_upto r hm1
  have q2 := rowB_upto r' hm2
  have q3 := rowB_upto r'' hm3
  have f1 : (l.take m).length = m := by simpa using q1.len
  have f2 : (l'.take m).length = m := by simpa using q2.len
  have f3 : (l''.take m).length = m := by simpa using q3.len
  have HS := Lib.hid (sum_lay3 (l.take m) (l'.take m) (l''.take m) (by omega) (by omega))
  have HL : Hid ((lay3 (l.take m) (l'.take m) (l''.take m)).length = m) := Lib.hid (by rw [lay3_length _ _ _ (by omega) (by omega)]; exact f1)
  have HG := Lib.hid (lay3_get (l.take m) (l'.take m) (l''.take m))
  have hc1 := fun wx => run_cut0 (a := a) (n := n) (cap := c) slB wx m (Nat.le_trans hm1 r.2.1)
  have hc2 := fun wx => run_cut0 (a := a') (n := n') (cap := c') slB wx m (Nat.le_trans hm2 r'.2.1)
  have hc3 := fun wx => run_cut0 (a := a'') (n := n'') (cap := c'') slB wx m (Nat.le_trans hm3 r''.2.1)
  have hu1 := sumN_lt 0 (l.take m)
  have hu2 := sumN_lt 0 (l'.take m)
  have hu3 := sumN_lt 0 (l''.take m)
  have hx1 := u32_xor_nat _ _ hu1 hu2
  have hx2 := u32_xor_nat _ _ (Nat.xor_lt_two_pow (n := 32) hu1 hu2) hu3
  clear f1 f2 f3 hu1 hu2 hu3
  generalize lay3 (l.take m) (l'.take m) (l''.take m) = D at *
  rcases hm with ⟨o1, o2, rfl⟩ | ⟨o1, o2, rfl⟩ | ⟨o1, o2, rfl⟩ | ⟨o1, o2, rfl⟩
  all_goals
    go_enter Tryd.func5, Tryd.ntmps5
    go_wp2_with fail
    (with_reducible refine (head_any _ ht).mono ?_)
    rintro e w1 ⟨rfl, hb1⟩
    go_wp2_with (at_make; refine wpList_mkn rfl _ _ 22 rfl slB rfl w1.heap.size _ _ _ _ m rfl rfl rfl rfl (by omega) (by unfold maxLen; omega) (Nat.le_refl _) fun w2 hown hg => ?_)
  all_goals
    have hb2 := (Below.refl w1.heap.size w1).grown hg (Nat.le_refl _) (fun k hk => by cases hk)
    have hb := below_next hb1 hb2
    have z1 := hb1.size
    have hown1 := own_mono hown z1
    clear hb1 hb2 hown hg
    go_loopw [9, 23] (fun _ iv wr => ∃ k : Nat, iv = .int .i64 (k : Int) ∧ k ≤ m ∧ wr.ownsRow w.heap.size 5 1 (.slice (some ⟨w1.heap.size, 0, none⟩) m m) m ((D.take k).map B ++ List.replicate (m - k) (.int .u8 0)) ∧ Below w.heap.size w wr) (fun _ iv _ => m - (intOf iv).toNat)
    case atStart => exact ⟨0, rfl, Nat.zero_le _, by simpa using hown1, hb⟩
    case round =>
      clear hown1 hb
      obtain ⟨k, rfl, hk, ho, hb⟩ := hrel
      by_cases hlt : k < m
      · obtain ⟨b1, o1', x1, rfl, hy1, hd1⟩ := (q1.below hb).byte k hlt
        obtain ⟨b2, o2', x2, rfl, hy2, hd2⟩ := (q2.below hb).byte k hlt
        obtain ⟨b3, o3', x3, rfl, hy3, hd3⟩ := (q3.below hb).byte k hlt
        have hD := HG.out k _ _ _ hy1 hy2 hy3
        have hxx := x3_bits x1 x2 x3
        obtain ⟨⟨v0, _, hc0⟩, hf0, hst⟩ := own_cell ho k hlt
        have hst1 := (hst (.int .u8 ((UInt8.ofNat (x1.toNat ^^^ x2.toNat ^^^ x3.toNat)).toNat : Int))).1
        rw [copy_set hD hlt] at hst1
        have hbs := hb.setCell (p := ⟨w1.heap.size, k, none⟩) z1 (.int .u8 ((UInt8.ofNat (x1.toNat ^^^ x2.toNat ^^^ x3.toNat)).toNat : Int))
        clear hst hy1 hy2 hy3 hD
        generalize (UInt8.ofNat (x1.toNat ^^^ x2.toNat ^^^ x3.toNat)).toNat = xr at *
        go_wp2_with fail
        go_region
        go_wp2_with fail
        go_roundw
        case rel => exact ⟨k + 1, by go_num, by omega, own_still hst1 (Still.one _ 1), below_still hbs (Still.one _ 1)⟩
        case measure => first | (simp [intOf]; omega) | simp [intOf]
      · have rD : RowAt wr (some ⟨w1.heap.size, 0, none⟩) m m 1 (D.map B) := by
          have := own_rowAt ho
          obtain rfl : k = m := by omega
          rwa [Nat.sub_self, List.replicate_zero, List.append_nil, List.take_of_length_le (by have := HL.out; omega)] at this
        have t2 := ht.below hb
        have p1 := q1.below hb
        have p2 := q2.below hb
        have p3 := q3.below hb
        clear ho
        have hlt' : ¬ (k : Int) < (m : Int) := by omega
        go_wp2_with fail
        go_quiet ((first
          | (go_at_call_of 13 (Value.slice (some ⟨w1.heap.size, 0, none⟩) m m); exact quiet_left (sum_any _ _ _ D _ (by exact rD.still (Still.one _ _)) (by exact t2.still (Still.one _ _))))
          | (go_at_call_of 13 (Value.slice a m c); exact quiet_left (sum_any _ _ _ (l.take m) _ (by exact p1.still (Still.one _ _)) (by exact t2.still (Still.one _ _))))
          | (go_at_call_of 13 (Value.slice a' m c'); exact quiet_left (sum_any _ _ _ (l'.take m) _ (by exact p2.still (Still.one _ _)) (by exact t2.still (Still.one _ _))))
          | (go_at_call_of 13 (Value.slice a'' m c''); exact quiet_left (sum_any _ _ _ (l''.take m) _ (by exact p3.still (Still.one _ _)) (by exact t2.still (Still.one _ _))))))
        go_wp2_with fail
        go_ret
        exact ⟨ret_bool (by rw [HS.out]; simp), below_still hb (Still.one _ _)⟩
end Go.Proofs.YtdcifghlgeiobaaDoor
