/-
  The walk of IndexLast. Conditions: arguments read as their types say, within the form's own reach.
-/
import Derived.Test.YtgdepgfipocdcaaIlast
import Derived.Test.YtgdepgfipocdcaaLawDeep
namespace Go.Proofs.Ytgdepgfipocdcaa
open Go.RowKit Go.ChangeShapes Go.WideShapes
set_option linter.unusedVariables false

theorem slI : SlTy Try.prog 22 3 1 8 (.int .i64 0) := slTy_mk Try.underlying22 (by kernel_rfl) rfl (by decide) (by decide)

section
variable {H : Type} {enc : TypeId × Value → H} {P : Program} {W : World} {t e : TypeId} {a : Option Addr} {n c : Nat} {d : DataW H} {ps : List MemPlace}
theorem open_its (ht : P.underlying t = some (.slice e)) (he : P.underlying e = some (.int .i64)) (hc : P.cellsOf e = 1) (h : DataW.Trod enc P W 0 (fun _ => true) true t (.slice a n c) d ps) :
    ∃ l : List Int, l.length = n ∧ RowAt W a n c 1 (l.map IV) ∧ Dt d n := by
  obtain ⟨zs, hz, hd⟩ := open_row ht he hc h
  rcases hz with ⟨rfl, rfl, rfl, rfl⟩ | ⟨x, rfl, hl, hm, hz, hcell, hw⟩
  · exact ⟨[], rfl, RowAt.nil _ _, hd⟩
  · have hln : (zs.take n).length = n := by rw [List.length_take]; omega
    refine ⟨zs.take n, hln, ⟨by rw [List.length_map, hln, Nat.mul_one], hl, hm, ?_⟩, hd⟩
    by_cases hn : n = 0
    · exact .inl hn
    · right
      obtain ⟨b, off, spot⟩ := x
      have h0 := hcell 0 (by omega)
      have hspot : spot = none := by simpa [Addr.add] using World.cell?_spot h0
      subst hspot
      refine ⟨b, off, rfl, fun j u hu => ?_⟩
      simp only [List.getElem?_map, Option.map_eq_some_iff] at hu
      obtain ⟨y, hy, rfl⟩ := hu
      have hj : j < n := by have := (List.getElem?_eq_some_iff.1 hy).1; omega
      have h1 := hcell j (by omega)
      rw [addr_add] at h1
      rw [List.getElem?_take_of_lt hj] at hy
      rw [h1, List.getD, hy]; rfl
end

theorem i64_and15 (n : Int) : bits .and .i64 n 15 = n % 16 := by
  have h127 : (BitVec.ofInt 64 15).toNat = 2 ^ 4 - 1 := by decide
  have key : (BitVec.ofInt 64 n &&& BitVec.ofInt 64 15).toNat = (n % ((2 ^ 64 : Nat) : Int)).toNat % 2 ^ 4 := by
    rw [BitVec.toNat_and, BitVec.toNat_ofInt, h127, Nat.and_two_pow_sub_one_eq_mod]
  show IntKind.i64.wrap ((BitVec.ofInt 64 n &&& BitVec.ofInt 64 15).toNat : Nat) = n % 16
  rw [key, IntKind.wrap_i64]
  omega

/-- A list that rises, and where a number stands in it. -/
structure Up (L : List Int) (T n : Int) (W : Nat) : Prop where
  le : ∀ x ∈ L, x ≤ T
  up : ∀ (i j : Nat) x y, i ≤ j → L[i]? = some x → L[j]? = some y → x ≤ y
  wl : W ≤ L.length
  lo : ∀ x, 0 < W → L[W - 1]? = some x → x ≤ n
  hi : ∀ i x, W ≤ i → L[i]? = some x → n < x

theorem Up.nil (n : Int) : Up [] 0 n 0 := ⟨(fun x h => by cases h), (fun i j x y _ h => by simp at h), Nat.le_refl _, (fun x h => by omega), (fun i x _ h => by simp at h)⟩

theorem snoc_get {L : List Int} {T x : Int} {i : Nat} (h : (L ++ [T])[i]? = some x) : (i < L.length ∧ L[i]? = some x) ∨ (i = L.length ∧ x = T) := by
  by_cases hi : i < L.length
  · exact .inl ⟨hi, by rwa [List.getElem?_append_left hi] at h⟩
  · right
    rw [List.getElem?_append_right (by omega)] at h
    have h0 : i - L.length = 0 := by
      by_cases h0 : i - L.length = 0
      · exact h0
      · rw [List.getElem?_eq_none (by simp; omega)] at h; cases h
    rw [h0] at h
    simp at h
    exact ⟨by omega, h.symm⟩

theorem Up.snoc {L : List Int} {T T' n : Int} {W : Nat} (U : Up L T n W) (hT : T ≤ T') : Up (L ++ [T']) T' n (if T' ≤ n then L.length + 1 else W) := by
  refine ⟨?_, ?_, ?_, ?_, ?_⟩
  · intro x hx
    rcases List.mem_append.1 hx with h | h
    · exact Int.le_trans (U.le x h) hT
    · simp at h; omega
  · intro i j x y hij hx hy
    rcases snoc_get hx with ⟨h1, h2⟩ | ⟨h1, h2⟩ <;> rcases snoc_get hy with ⟨h3, h4⟩ | ⟨h3, h4⟩
    · exact U.up i j x y hij h2 h4
    · have := U.le x (List.mem_of_getElem? h2); omega
    · omega
    · omega
  · split <;> simp <;> have := U.wl <;> omega
  · intro x h0 hx
    split at hx
    · rcases snoc_get hx with ⟨h1, h2⟩ | ⟨h1, h2⟩ <;> omega
    · rename_i hn
      rw [if_neg hn] at h0
      rcases snoc_get hx with ⟨h1, h2⟩ | ⟨h1, h2⟩
      · exact U.lo x h0 h2
      · have := U.wl; omega
  · intro i x hi hx
    split at hi
    · rcases snoc_get hx with ⟨h1, h2⟩ | ⟨h1, h2⟩ <;> omega
    · rename_i hn
      rcases snoc_get hx with ⟨h1, h2⟩ | ⟨h1, h2⟩
      · exact U.hi i x hi h2
      · omega

theorem Up.found {L : List Int} {T n : Int} {W l : Nat} (U : Up L T n W) (hl : l ≤ L.length) (h1 : ∀ x, L[l]? = some x → n < x) (h2 : ∀ x, 0 < l → L[l - 1]? = some x → x ≤ n) : l = W := by
  have hw := U.wl
  rcases Nat.lt_trichotomy l W with h | h | h
  · have e1 : L[l]? = some (L[l]'(by omega)) := List.getElem?_eq_getElem (by omega)
    have e2 : L[W - 1]? = some (L[W - 1]'(by omega)) := List.getElem?_eq_getElem (by omega)
    have a1 := h1 _ e1
    have a2 := U.lo _ (by omega) e2
    have a3 := U.up l (W - 1) _ _ (by omega) e1 e2
    omega
  · exact h
  · have e1 : L[l - 1]? = some (L[l - 1]'(by omega)) := List.getElem?_eq_getElem (by omega)
    have a1 := h2 _ (by omega) e1
    have a2 := U.hi (l - 1) _ (by omega) e1
    omega

theorem three_found {l : Nat} (hl : l ≤ 3) (h1 : ∀ x, ([1, 3, 5] : List Int)[l]? = some x → 3 < x) (h2 : ∀ x, 0 < l → ([1, 3, 5] : List Int)[l - 1]? = some x → x ≤ 3) : l = 2 := by
  match l, hl with
  | 0, _ => have := h1 1 rfl; omega
  | 1, _ => have := h1 3 rfl; omega
  | 2, _ => rfl
  | 3, _ => have := h2 5 (by decide) rfl; omega

theorem lastlaw_walk (a : Option Addr) (n c : Nat) (l : List Int) (t : Int) (w : World) (r : RowAt w a n c 1 (l.map IV)) (hn : n * 8 ≤ 140737488351232) (h0 : -9223372036854775808 ≤ t) (h1 : t ≤ 9223372036854775807) :
    Calls Try.prog 3 #[.slice a n c, .int .i64 t] w fun e w' => e = .returned (.bool true) ∧ Below w.heap.size w w' := by
  go_enter Try.func3, Try.ntmps3
  go_wp2_with fail
  have r3 : RowAt ((w.alloc (.cells #[.int .i64 t] 3)).alloc (.cells #[.int .i64 1, .int .i64 3, .int .i64 5] 3)) (some ⟨w.heap.size + 1, 0, none⟩) 3 3 1 (([1, 3, 5] : List Int).map IV) := by
    have := rowAt_lit (w.alloc (.cells #[.int .i64 t] 3)) [.int .i64 1, .int .i64 3, .int .i64 5] 3 1 3 rfl (by decide)
    rw [show (w.alloc (.cells #[.int .i64 t] 3)).heap.size = w.heap.size + 1 by simp] at this
    exact this
  have hbx : Below w.heap.size w ((w.alloc (.cells #[.int .i64 t] 3)).alloc (.cells #[.int .i64 1, .int .i64 3, .int .i64 5] 3)) := below_next (below_made _ _) (below_made _ _)
  have hc0 : ((w.alloc (.cells #[.int .i64 t] 3)).alloc (.cells #[.int .i64 1, .int .i64 3, .int .i64 5] 3)).cell? ⟨w.heap.size, 0, none⟩ = some (.int .i64 t) := by
    have h1 : ((w.alloc (.cells #[.int .i64 t] 3)).alloc (.cells #[.int .i64 1, .int .i64 3, .int .i64 5] 3)).heap[w.heap.size]? = some (.cells #[.int .i64 t] 3) := by
      rw [Below.heap_alloc _ _ _ (by simp)]; exact heap_alloc_new w _
    exact cell_of_one h1
  have hsz : w.heap.size < ((w.alloc (.cells #[.int .i64 t] 3)).alloc (.cells #[.int .i64 1, .int .i64 3, .int .i64 5] 3)).heap.size := by simp; omega
  obtain ⟨w1, hw1⟩ : ∃ w1, ((w.alloc (.cells #[.int .i64 t] 3)).alloc (.cells #[.int .i64 1, .int .i64 3, .int .i64 5] 3)) = w1 := ⟨_, rfl⟩
  rw [hw1] at r3 hbx hc0 hsz ⊢
  clear hw1
  (with_reducible refine (three_last _ 3 3 [1, 3, 5] _ r3 (by decide)).mono ?_)
  rintro e w2 ⟨⟨l3, rfl, h31, h32, h33⟩, rfl⟩
  obtain rfl := three_found h31 h32 h33
  clear r3 h31 h32 h33
  go_wp2_with fail
  have ho0 := own_lit w1 [] 0 1 3 rfl (by decide)
  have hb0 := below_made w1 (.cells #[] 3)
  go_loopw [5, 6, 7, 16] (fun xv av qv iv wr => ∃ (k : Nat) (T : Int) (W : Nat) (L : List Int) (ax : Option Addr) (cx : Nat), xv = .slice ax k cx ∧ av = .int .i64 T ∧ qv = .int .i64 ((W : Int) - 1) ∧ iv = .int .i64 (k : Int) ∧ k ≤ n ∧ 0 ≤ T ∧ T ≤ 15 * (k : Int) ∧ L.length = k ∧ wr.ownsRow w1.heap.size 3 1 (.slice ax k cx) k (L.map IV) ∧ Up L T t W ∧ Below w1.heap.size w1 wr) (fun _ _ _ iv _ => n - (intOf iv).toNat)
  case atStart => exact ⟨0, 0, 0, [], _, _, rfl, rfl, rfl, rfl, Nat.zero_le _, Int.le_refl _, by omega, rfl, ho0, Up.nil t, hb0⟩
  case round =>
    clear ho0 hb0
    obtain ⟨k, T, W, L, ax, cx, rfl, rfl, rfl, rfl, hk, hT0, hT1, hL, ho, U, hb⟩ := hrel
    have hc : wr.cell? ⟨w.heap.size, 0, none⟩ = some (.int .i64 t) := (World.cell?_of_block (hb.block _ hsz)).trans hc0
    by_cases hlt : k < n
    · obtain ⟨b, off, s, rfl, hs, hcell⟩ := ((r.below hbx).below hb).elem k hlt
      unfold IV at hcell
      have h15 := i64_and15 s
      obtain ⟨T2, hT2⟩ : ∃ T2, T + s % 16 = T2 := ⟨_, rfl⟩
      have hT3 : T ≤ T2 ∧ T2 ≤ 15 * ((k : Int) + 1) := by omega
      have U2 := U.snoc hT3.1
      have hbs := hb.size
      clear hs
      by_cases hle : T2 ≤ t
      all_goals
        go_wp2_with (at_builtin; refine wpList_app1 rfl _ _ 22 rfl slI rfl ho rfl rfl (one1 _ _) (by omega) (by omega) fun a2 c2 w2 ho2 hg2 => ?_; have hb2 := hb.grown hg2 hbs (own_block ho); have hc2 := (World.cell?_of_block (hb2.block _ hsz)).trans hc0)
      · rw [if_pos hle] at U2
        have ho3 : w2.ownsRow w1.heap.size 3 1 (.slice a2 (k + 1) c2) (k + 1) ((L ++ [T2]).map IV) := by simpa [IV] using ho2
        go_roundw
        case rel => exact ⟨k + 1, T2, L.length + 1, L ++ [T2], a2, c2, rfl, rfl, by go_num, by go_num, by omega, by omega, by omega, by simp [hL], ho3, U2, hb2⟩
        case measure => simp [intOf]; omega
      · rw [if_neg hle] at U2
        have ho3 : w2.ownsRow w1.heap.size 3 1 (.slice a2 (k + 1) c2) (k + 1) ((L ++ [T2]).map IV) := by simpa [IV] using ho2
        go_roundw
        case rel => exact ⟨k + 1, T2, W, L ++ [T2], a2, c2, rfl, rfl, rfl, by go_num, by omega, by omega, by omega, by simp [hL], ho3, U2, hb2⟩
        case measure => simp [intOf]; omega
    · obtain rfl : k = n := by omega
      have hlk : ¬ (k : Int) < (k : Int) := by omega
      have rL := own_rowAt ho
      have hmf : ∀ (fn : Fn) (first cap : Array Value) (w : World), (Instr.makeFunc fn first cap).run Try.prog w = .ok (.func fn first cap) w := fun _ _ _ _ => rfl
      go_wp2_with fail
      (with_reducible refine (upTo_last t _ _ _ _ L _ hc rL (by omega)).mono ?_)
      rintro e w2 ⟨⟨l3, rfl, h31, h32, h33⟩, rfl⟩
      obtain rfl := U.found (by omega) h32 h33
      go_wp2_with fail
      go_ret
      exact ⟨ret_bool (by simp), below_next hbx hb⟩
end Go.Proofs.Ytgdepgfipocdcaa
