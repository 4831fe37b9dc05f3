/-
  The walk of layer 06's head. No condition.
-/
import Derived.Test.YtfiplongnnkhmaaMSunp
import Derived.Test.YtfiplongnnkhmaaMEa
namespace Go.Proofs.Ytfiplongnnkhmaa
open Go.RowKit
set_option linter.unusedVariables false

/-- A guarded load of a whole struct. -/
theorem wpList_load_rowG {P : Program} {ops : Array Oper} {rest : List Oper} {o : Oper} {a : Act} {w : World} {Q : Exit → Act → World → Prop} (hw : Region.wanted o (yielded ops a.tmps) = true) (ty : TypeId) (x : Operand) (ho : o.op = .load ty x)
    (g : Nat) (hx : a.eval x = .pointer (some ⟨g, 0, none⟩)) (t : TypeId) (cs : Array Value) (fr : Nat × Nat) (d : TypeDesc) (hg : w.heap[g]? = some (.cells cs t fr))
    (hu : P.underlying ty = some d) (hd : (match d with | .struct _ | .array _ _ => true | _ => false) = true) (hi : (P.info? ty).map (·.size) = some cs.size)
    (h : wpList P ops Q rest (a.put o.dst (.agg cs)) w) : wpList P ops Q (o :: rest) a w :=
  wpList_step fun K hK => by
    rw [if_pos hw]
    exact wp_load_row ty x ho g hx t cs fr d hg hu hd hi (hK _ _ h)
def evH : Ev := ⟨2, 7, 3, -2, 5, 0, 0, ⟨#[]⟩, 0, ⟨#[]⟩⟩
def bytesH : List UInt8 := [1, 2, 2, 4, 7, 6, 3, 8, 3, 10, 5]
theorem packH : packL 1 evH = bytesH := by decide +kernel
theorem chkH : chk 1 evH = 0 := by decide +kernel
theorem unpH : unpF bytesH = (1, evH, 0) := by kernel_rfl
theorem schead_any (w : World) : Calls Try.prog 11 #[] w fun x w' => x = .returned (.bool true) ∧ Below w.heap.size w w' := by
  have hp := fun wx => pack_any 1 evH wx
  unfold GivesP at hp
  rw [chkH, packH] at hp
  have hu := fun wx a n c hx => unp_any a n c bytesH wx hx
  unfold GivesU at hu
  rw [unpH] at hu
  unfold evH Ev.val Ev.cells at hp hu
  dsimp only at hu
  have HP := Lib.hid hp
  have HU := Lib.hid hu
  have hbm := below_made w (.cells evH.cells 24)
  have hE := heap_alloc_new w (.cells evH.cells 24)
  have HW := Lib.hid (⟨_, rfl⟩ : ∃ w0, w.alloc (.cells evH.cells 24) = w0)
  clear hp hu
  go_enter Try.func11, Try.ntmps11
  go_upto_region 2 with (fail)
  rw [show (#[.int .i64 2, .int .i64 7, .int .i64 3, .int .i64 (-2), .int .i64 5, .int .i64 0, .int .i64 0, .string ⟨#[]⟩, .int .i64 0, .string ⟨#[]⟩] : Array Value) = evH.cells from rfl]
  obtain ⟨w0, hw0⟩ := HW.out
  rw [hw0] at hbm hE ⊢
  clear hw0 HW
  have hE : w0.heap[w.heap.size]? = some (.cells #[.int .i64 2, .int .i64 7, .int .i64 3, .int .i64 (-2), .int .i64 5, .int .i64 0, .int .i64 0, .string ⟨#[]⟩, .int .i64 0, .string ⟨#[]⟩] 24 (0, 0)) := hE
  go_wp2_with (first
    | (with_reducible refine wpList_load_row rfl 24 (.tmp 1) rfl w.heap.size rfl _ #[.int .i64 2, .int .i64 7, .int .i64 3, .int .i64 (-2), .int .i64 5, .int .i64 0, .int .i64 0, .string ⟨#[]⟩, .int .i64 0, .string ⟨#[]⟩] (0, 0) _ hE Try.underlying24 rfl (by with_unfolding_all exact info_ev) ?_)
    | ((with_reducible refine (HP.out _).mono ?_); rintro x w1 ⟨a, c, l, rfl, rfl, ho1, hb1⟩))
  rw [show bytesH.length = 11 from rfl] at ho1 ⊢
  have hr1 := own_rowAt ho1
  obtain ⟨b, off, cB, rfl, hc8, hcell⟩ := hr1.byte 8 (by decide)
  obtain rfl : (3 : UInt8) = cB := by have : bytesH[8]? = some (3 : UInt8) := rfl; rw [this] at hc8; exact Option.some.inj hc8
  have hbl := below_made w1 (.cells (bytesH.map B).toArray 5)
  have hE1 := below_blk' hbl (below_blk' hb1 hE)
  have hr2 := hr1.below hbl
  have hB1 := below_next (below_next hbm hb1) hbl
  have hrl := rowAt_lit w1 (bytesH.map B) 11 1 5 rfl (by decide)
  have HW := Lib.hid (⟨_, rfl⟩ : ∃ w2, w1.alloc (.cells (bytesH.map B).toArray 5) = w2)
  rw [show (#[.int .u8 1, .int .u8 2, .int .u8 2, .int .u8 4, .int .u8 7, .int .u8 6, .int .u8 3, .int .u8 8, .int .u8 3, .int .u8 10, .int .u8 5] : Array Value) = (bytesH.map B).toArray from rfl]
  obtain ⟨w2, hw2⟩ := HW.out
  rw [hw2] at hbl hE1 hr2 hB1 hrl ⊢
  clear hw2 HW hr1 hcell ho1 hE hbm hb1 hbl
  (with_reducible refine (HU.out _ _ _ _ hrl).mono ?_)
  rintro x w3 ⟨rfl, hb3⟩
  have hE3 := below_blk' hb3 hE1
  have hr3 := hr2.below hb3
  have hB3 := below_next hB1 hb3
  have hbf := below_made w3 (.cells #[.int .i64 2, .int .i64 7, .int .i64 3, .int .i64 (-2), .int .i64 5, .int .i64 0, .int .i64 0, .string ⟨#[]⟩, .int .i64 0, .string ⟨#[]⟩] 24)
  have hF := heap_alloc_new w3 (.cells #[.int .i64 2, .int .i64 7, .int .i64 3, .int .i64 (-2), .int .i64 5, .int .i64 0, .int .i64 0, .string ⟨#[]⟩, .int .i64 0, .string ⟨#[]⟩] 24)
  have hE4 := below_blk' hbf hE3
  have hr4 := hr3.below hbf
  have hB4 := below_next hB3 hbf
  have HW := Lib.hid (⟨_, rfl⟩ : ∃ w4, w3.alloc (.cells #[.int .i64 2, .int .i64 7, .int .i64 3, .int .i64 (-2), .int .i64 5, .int .i64 0, .int .i64 0, .string ⟨#[]⟩, .int .i64 0, .string ⟨#[]⟩] 24) = w4)
  clear hE1 hr2 hB1 hrl hb3 hE3 hr3 hB3 hbf
  go_upto_region 4 with (fail)
  obtain ⟨w4, hw4⟩ := HW.out
  rw [hw4] at hF hE4 hr4 hB4 ⊢
  clear hw4 HW
  have c8 : w4.cell? ⟨b, off + 8, none⟩ = some (.int .u8 3) := by
    obtain ⟨b', off', c', h1, h2, h3⟩ := hr4.byte 8 (by decide)
    cases h1
    have : bytesH[8]? = some (3 : UInt8) := rfl
    rw [this] at h2
    cases h2
    exact h3
  clear hr4
  go_wp2_with (first
    | (with_reducible refine wpList_load_rowG rfl 24 (.tmp 5) rfl w3.heap.size rfl _ #[.int .i64 2, .int .i64 7, .int .i64 3, .int .i64 (-2), .int .i64 5, .int .i64 0, .int .i64 0, .string ⟨#[]⟩, .int .i64 0, .string ⟨#[]⟩] (0, 0) _ hF Try.underlying24 rfl (by with_unfolding_all exact info_ev) ?_)
    | (with_reducible refine wpList_load_rowG rfl 24 (.tmp 1) rfl w.heap.size rfl _ #[.int .i64 2, .int .i64 7, .int .i64 3, .int .i64 (-2), .int .i64 5, .int .i64 0, .int .i64 0, .string ⟨#[]⟩, .int .i64 0, .string ⟨#[]⟩] (0, 0) _ hE4 Try.underlying24 rfl (by with_unfolding_all exact info_ev) ?_))
  go_ret
  exact ⟨rfl, hB4⟩
end Go.Proofs.Ytfiplongnnkhmaa
