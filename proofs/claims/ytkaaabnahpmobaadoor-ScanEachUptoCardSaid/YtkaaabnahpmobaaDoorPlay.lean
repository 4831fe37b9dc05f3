/-
  Frames as an argument, and the walk of the reference's Lay. Condition: the argument reads as frames, no more than 2^20.
-/
import Derived.Test.YtkaaabnahpmobaaDoorPsame
import Derived.Test.YtkaaabnahpmobaaDoorFrenc
namespace Go.Proofs.YtkaaabnahpmobaaDoor
open Go.RowKit
set_option linter.unusedVariables false

/-- A frame that is handed over. -/
structure FI where
  kind : Int
  seq : Int
  a : Option Addr
  c : Nat
  body : List UInt8
def FI.cells (x : FI) : List Value := [.int .i64 x.kind, .int .i64 x.seq, .slice x.a x.body.length x.c]
def FisRd (a : Option Addr) (n c : Nat) (fs : List FI) (W : World) : Prop := RowAt W a n c 3 (fs.flatMap FI.cells) ∧ ∀ x ∈ fs, RowAt W x.a x.body.length x.c 1 (x.body.map B)
theorem FisRd.below {a : Option Addr} {n c : Nat} {fs : List FI} {W W' : World} (h : FisRd a n c fs W) (hb : Below W.heap.size W W') : FisRd a n c fs W' := ⟨h.1.below hb, fun x hx => (h.2 x hx).below hb⟩
theorem FisRd.len {a : Option Addr} {n c : Nat} {fs : List FI} {W : World} (h : FisRd a n c fs W) : fs.length = n := by
  have e := h.1.1
  rw [flat_length FI.cells (k := 3) (fun _ => rfl) fs] at e
  omega
theorem FisRd.at {a : Option Addr} {n c : Nat} {fs : List FI} {W : World} (h : FisRd a n c fs W) (j : Nat) (hj : j < n) :
    ∃ b off x, a = some ⟨b, off, none⟩ ∧ fs[j]? = some x ∧ W.cell? ⟨b, off + j * 3, none⟩ = some (.int .i64 x.kind) ∧ W.cell? ⟨b, off + j * 3 + 1, none⟩ = some (.int .i64 x.seq) ∧
      W.cell? ⟨b, off + j * 3 + 2, none⟩ = some (.slice x.a x.body.length x.c) ∧ RowAt W x.a x.body.length x.c 1 (x.body.map B) := by
  have key : ∀ r, r < 3 → ∃ b off x, a = some ⟨b, off, none⟩ ∧ fs[j]? = some x ∧ ∃ u, x.cells[r]? = some u ∧ W.cell? ⟨b, off + j * 3 + r, none⟩ = some u := by
    intro r hr
    obtain ⟨b, off, u, ha, hu, hc⟩ := h.1.at (j * 3 + r) (by omega)
    obtain ⟨i, r', x, h1, h2, h3, h4⟩ := flat_get (k := 3) FI.cells (fun _ => rfl) fs _ u hu
    obtain rfl : i = j := by omega
    obtain rfl : r' = r := by omega
    exact ⟨b, off, x, ha, h1, u, h4, by rw [Nat.add_assoc]; exact hc⟩
  obtain ⟨b, off, x, ha, hx, u0, e0, d0⟩ := key 0 (by decide)
  have get : ∀ r, r < 3 → ∃ u, x.cells[r]? = some u ∧ W.cell? ⟨b, off + j * 3 + r, none⟩ = some u := by
    intro r hr
    obtain ⟨b', off', x', ha', hx', u, e, d⟩ := key r hr
    rw [ha] at ha'; cases ha'
    rw [hx] at hx'; cases hx'
    exact ⟨u, e, d⟩
  obtain ⟨u1, e1, d1⟩ := get 1 (by decide)
  obtain ⟨u2, e2, d2⟩ := get 2 (by decide)
  simp [FI.cells] at e0 e1 e2
  subst e0 e1 e2
  exact ⟨b, off, x, ha, hx, d0, d1, d2, h.2 x (List.mem_of_getElem? hx)⟩

/-- Frames behind one another. -/
def layF (fs : List FI) : List UInt8 := fs.flatMap fun f => (encF f.kind f.seq f.body).1
theorem encF_le (kind seq : Int) (body : List UInt8) : (encF kind seq body).1.length ≤ 16404 := by
  by_cases h : (encF kind seq body).2 = 0
  · obtain ⟨kd, sq, -, -, -, -, -, h5, h6⟩ := encF_ok h
    rw [h6]; simp only; rw [frameF_len]; omega
  · unfold encF at h ⊢
    split
    · simp
    · rw [if_neg (by assumption)] at h
      split
      · simp
      · rw [if_neg (by assumption)] at h; exact absurd rfl h
theorem layF_step {fs : List FI} {k : Nat} {x : FI} (h : fs[k]? = some x) : layF (fs.take (k + 1)) = layF (fs.take k) ++ (encF x.kind x.seq x.body).1 := by
  unfold layF
  rw [List.take_add_one, h]
  simp
theorem layF_le (fs : List FI) : (layF fs).length ≤ fs.length * 16404 := by
  unfold layF
  induction fs with
  | nil => simp
  | cons f r ih =>
    have := encF_le f.kind f.seq f.body
    rw [List.flatMap_cons, List.length_append, List.length_cons]
    omega

set_option maxRecDepth 8000 in
set_option maxHeartbeats 1600000 in
theorem play_any (a : Option Addr) (n c : Nat) (fs : List FI) (w : World) (hn : n ≤ 1048576) (r : FisRd a n c fs w) :
    Calls Tryd.prog 21 #[.slice a n c] w (GivesB 5 w (layF fs)) := by
  have hl := r.len
  have m1 := r.1.2.2.1
  have m2 := r.1.2.1
  unfold maxLen at m1
  have HL := Lib.hid hl
  have hb0 := below_made w (.cells #[] 5)
  have ho0 := World.alloc_heap_new w (.cells #[] 5)
  clear hl
  go_enter Tryd.func21, Tryd.ntmps21
  go_wp2_with fail
  go_loopw [3, 10] (fun mv iv wr => ∃ (k : Nat) (L : List UInt8) (av : Option Addr) (cap : Nat), mv = .slice av L.length cap ∧ iv = .int .i64 (k : Int) ∧ k ≤ n ∧ Hid (layF (fs.take k) = L) ∧ wr.ownsRow w.heap.size 5 1 (.slice av L.length cap) L.length (L.map B) ∧ Below w.heap.size w wr) (fun _ iv _ => n - (intOf iv).toNat)
  case atStart => exact ⟨0, [], _, _, rfl, rfl, Nat.zero_le _, Lib.hid rfl, ⟨rfl, .inr ⟨w.heap.size, 0, #[], rfl, Nat.le_refl _, ho0, Nat.le_refl _, by decide, rfl, rfl⟩⟩, hb0⟩
  case round =>
    obtain ⟨k, L, av, cap, rfl, rfl, hk, HK, hrow, hb⟩ := hrel
    clear hb0 ho0
    by_cases hlt : k < n
    · obtain ⟨b, off, x, rfl, hx, c0, c1, c2, rx⟩ := (r.below hb).at k hlt
      have hd := frenc_any x.kind x.seq x.a x.body.length x.c x.body wr rx
      have hs := layF_step hx
      rw [HK.out] at hs
      have hle := layF_le (fs.take k)
      rw [HK.out, List.length_take] at hle
      have hle2 := encF_le x.kind x.seq x.body
      obtain ⟨y, hy⟩ : ∃ y, encF x.kind x.seq x.body = y := ⟨_, rfl⟩
      rw [hy] at hd hs hle2
      obtain ⟨M, er⟩ := y
      unfold GivesE at hd
      simp only at hd hs hle2
      have HD := Lib.hid hd
      have HS := Lib.hid hs
      have hby : (L.length + M.length) * 1 ≤ 140737488355328 := by have : min k fs.length ≤ k := Nat.min_le_left _ _; omega
      clear hd hs hx hy hle hle2
      go_wp2_with fail
      (with_reducible refine (HD.out).mono ?_)
      rintro e w1 ⟨am, cm, rfl, hom, hb1⟩
      have hrow1 := own_below hrow hb1
      have hsrc := own_rowAt hom
      have hb2 := hb.trans (hb1.mono hb.size)
      clear hom hrow HD
      go_wp2_with (at_builtin; refine wpList_app rfl _ _ 22 rfl slB rfl hrow1 rfl hsrc (by intro u hu; obtain ⟨z, -, rfl⟩ := List.mem_map.1 hu; rfl) hby hb2.size fun a4 c4 w4 hown4 hgr4 => ?_)
      go_roundw
      case rel => exact ⟨k + 1, L ++ M, a4, c4, by simp, by go_num, by omega, HS, by rw [List.length_append, List.map_append]; exact hown4, hb2.grown hgr4 hb2.size (own_block hrow1)⟩
      case measure => simp [intOf]; omega
    · obtain rfl : k = n := by omega
      have h := HK.out
      rw [List.take_of_length_le (by rw [HL.out]; exact Nat.le_refl _)] at h
      subst h
      go_wp2_with fail
      go_ret
      exact ⟨av, cap, rfl, hrow, hb⟩
end Go.Proofs.YtkaaabnahpmobaaDoor
