/-
  The walk of the reference's Decode of a record. Condition: the argument reads as bytes.
-/
import Derived.Test.YtfiplongnnkhmaaMDn
import Derived.Test.YtfiplongnnkhmaaMRnext
import Derived.Test.YtfiplongnnkhmaaMRfields
namespace Go.Proofs.Ytfiplongnnkhmaa
open Go.RowKit
set_option linter.unusedVariables false

/-- What Decode gives: fields in new memory, a place, what is wrong. -/
def GivesD (w : World) (y : List FD × Nat × Nat) (x : Ending) (w' : World) : Prop := ∃ a n c ms, x = .returned (.tuple #[.slice a n c, .int .i64 (y.2.1 : Int), .int .i64 (y.2.2 : Int)]) ∧ FsIn w w' y.1 a n c ms
theorem fsIn_nil {w w' : World} (h : Below w.heap.size w w') : FsIn w w' [] none 0 0 [] := ⟨World.ownsRow_nil _ _ _ _, trivial, fun f hf => absurd hf (by simp), h⟩

set_option maxHeartbeats 3200000 in
theorem rdec5_any (a1 : Option Addr) (n1 c1 : Nat) (l : List UInt8) (w : World) (r1 : RowAt w a1 n1 c1 1 (l.map B)) :
    Calls Try.prog 32 #[.slice a1 n1 c1] w (GivesD w (decodeF l)) := by
  have e1 : l.length = n1 := by simpa using r1.len
  have m1 := r1.2.2.1
  have m2 := r1.2.1
  unfold maxLen at m1
  by_cases hbig : 1024 < n1
  · have HQ : Hid (decodeF l = ([], 0, 24)) := Lib.hid (by unfold decodeF; rw [if_pos (by omega)])
    clear e1
    go_enter Try.func32, Try.ntmps32
    go_wp2_with fail
    go_ret3
    rw [HQ.out]
    exact ⟨none, 0, 0, [], rfl, fsIn_nil (Below.refl _ _)⟩
  · have HQ : Hid (decodeF l = readF l (n1 + 1) 0 0 []) := Lib.hid (by unfold decodeF; rw [if_neg (by omega), e1])
    have H1 := Lib.hid e1
    clear e1
    have ho1 := own_lit w [] 0 4 68 rfl (by decide)
    have hbm := below_made w (.cells #[] 68)
    have hF0 : FsIn w (w.alloc (.cells #[] 68)) [] (some ⟨w.heap.size, 0, none⟩) 0 0 [] := ⟨ho1, trivial, fun f hf => absurd hf (by simp), hbm⟩
    clear ho1 hbm
    go_enter Try.func32, Try.ntmps32
    go_wp2_with fail
    go_loopw [5, 6, 7] (fun fv lv pv wr => ∃ (p last : Nat) (ds : List FD) (a : Option Addr) (n c : Nat) (ms : List Fld), pv = .int .i64 (p : Int) ∧ p ≤ n1 ∧ lv = .int .i64 (last : Int) ∧ last ≤ 31 ∧ ds.length ≤ p ∧ fv = .slice a n c ∧ FsIn w wr ds a n c ms ∧
      (∃ k, n1 - p < k ∧ Hid (decodeF l = readF l k p last ds))) (fun _ _ pv _ => n1 - (intOf pv).toNat)
    case atStart => exact ⟨0, 0, [], _, 0, 0, [], rfl, Nat.zero_le _, rfl, by decide, Nat.le_refl _, rfl, hF0, n1 + 1, by omega, HQ⟩
    case round =>
      clear hF0 HQ
      obtain ⟨p, last, ds, a, n, c, ms, rfl, hp, rfl, hl31, hdl, rfl, hF, fu, hfu, HT⟩ := hrel
      by_cases hlt : p < n1
      · obtain ⟨y, hy⟩ : ∃ y, nextF (l.drop p) last = y := ⟨_, rfl⟩
        obtain ⟨d, q, e⟩ := y
        have hg := nextF_good hy
        have HY := Lib.hid hy
        have hll : p < l.length := by have := H1.out; omega
        have hlen := hF.len
        have hn : n ≤ 1024 := by omega
        have r2 := r1.below hF.bel
        obtain ⟨a', hcut, r3⟩ := cut_from slB r2 p hp
        rw [Nat.mul_one, ← List.map_drop] at r3
        obtain ⟨j, rfl⟩ : ∃ j, fu = j + 1 := ⟨fu - 1, by omega⟩
        clear hy
        by_cases he : e = 0
        · subst he
          obtain ⟨g1, g2, g3, g4⟩ := hg.2 rfl
          have g2' : p + q ≤ n1 := by rw [List.length_drop] at g2; have := H1.out; omega
          have HS : Hid (decodeF l = readF l j (p + q) d.tag (ds ++ [d])) := Lib.hid (by rw [HT.out]; exact readF_on hll HY.out)
          clear hg g2 hll
          go_wp2_with fail
          (with_reducible refine (rnext_any _ _ _ (l.drop p) last _ hl31 r3).mono ?_)
          rintro x w2 ⟨f, rfl, hfl, hbt, hb2⟩
          rw [HY.out] at hfl ⊢
          simp only at hfl ⊢
          have hF2 := hF.below hb2
          have HTAG := Lib.hid hfl.tag
          have hX := heap_alloc_new w2 (.cells #[.int .i64 f.tag, .bool f.text, .int .u64 f.num, .slice f.ba f.bn f.bc] 68)
          have hbm := below_made w2 (.cells #[.int .i64 f.tag, .bool f.text, .int .u64 f.num, .slice f.ba f.bn f.bc] 68)
          have hF3 := hF2.below hbm
          have ho3 := hF3.own
          have hfl3 := hfl.below hbm
          have hbt3 := hbt.below hbm
          have hlt2 := fun k e => (hF2.own.lt k e).2
          have hs2 := hF3.bel.size
          have hz2 := lt_of_block hX
          unfold Fld.row
          obtain ⟨wm, hwm⟩ : ∃ wm, w2.alloc (.cells #[.int .i64 f.tag, .bool f.text, .int .u64 f.num, .slice f.ba f.bn f.bc] 68) = wm := ⟨_, rfl⟩
          have HWM := Lib.hid hwm
          rw [hwm] at hX hbm hF3 ho3 hfl3 hbt3 hs2 hz2
          clear hwm
          have c0 : wm.cell? ⟨w2.heap.size, 0, none⟩ = some (.int .i64 f.tag) := cell_blk hX rfl
          have c1' : wm.cell? ⟨w2.heap.size, 1, none⟩ = some (.bool f.text) := cell_blk hX rfl
          have c2 : wm.cell? ⟨w2.heap.size, 2, none⟩ = some (.int .u64 f.num) := cell_blk hX rfl
          have c3 : wm.cell? ⟨w2.heap.size, 3, none⟩ = some (.slice f.ba f.bn f.bc) := cell_blk hX rfl
          go_upto_region 8 with (fail)
          rw [HWM.out]
          go_wp2_with (at_builtin; refine wpList_app1 rfl _ _ 58 rfl slF rfl ho3 rfl rfl (F_one1 f) (by omega) (by omega) fun a3 cap3 w3 ho hg => ?_; have hX5 := (hg.block w2.heap.size (by omega) (fun e => by have := hlt2 _ e.symm; omega)).trans hX; have c5 : w3.cell? ⟨w2.heap.size, 0, none⟩ = some (.int .i64 f.tag) := cell_blk hX5 rfl)
          go_roundw
          case rel =>
            obtain ⟨hA, hB⟩ := hF3.app hfl3 hbt3 ho hg
            exact ⟨p + q, d.tag, ds ++ [d], a3, n + 1, cap3, _, by go_num, g2', by rw [HTAG.out], g4, by rw [List.length_append]; simp; omega, rfl, hA, j, by omega, HS⟩
          case measure => first | (simp [intOf]; omega) | simp [intOf]
        · have he' : ((e : Int) != 0) = true := by rw [bne_iff_ne]; omega
          have HE : Hid (decodeF l = ([], p, e)) := Lib.hid (by rw [HT.out]; exact readF_bad hll HY.out he)
          clear hg he hll
          go_wp2_with fail
          (with_reducible refine (rnext_any _ _ _ (l.drop p) last _ hl31 r3).mono ?_)
          rintro x w2 ⟨f, rfl, hfl, hbt, hb2⟩
          rw [HY.out] at hfl ⊢
          simp only at hfl ⊢
          have hF2 := hF.below hb2
          have hbm := below_made w2 (.cells #[.int .i64 f.tag, .bool f.text, .int .u64 f.num, .slice f.ba f.bn f.bc] 68)
          unfold Fld.row
          go_wp2_with fail
          go_ret3
          rw [HE.out]
          exact ⟨none, 0, 0, [], rfl, fsIn_nil (below_next hF2.bel hbm)⟩
      · have HE : Hid (decodeF l = (ds, 0, 0)) := Lib.hid (by rw [HT.out]; exact readF_end (by have := H1.out; omega))
        clear HT
        go_wp2_with fail
        go_ret3
        rw [HE.out]
        exact ⟨a, n, c, ms, rfl, hF⟩
end Go.Proofs.Ytfiplongnnkhmaa
