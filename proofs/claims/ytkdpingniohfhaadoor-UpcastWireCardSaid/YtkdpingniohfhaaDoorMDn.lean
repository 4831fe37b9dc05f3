/-
  One field read: as data; a field in memory as a result in a cell. No condition.
  The fields of a record read from the left: as data. No condition.
-/
import Derived.Test.YtkdpingniohfhaaDoorMTs
import Derived.Test.YtkdpingniohfhaaDoorMSty
import Derived.Test.YtkdpingniohfhaaDoorMVd
import Derived.Laws.ResultCell
namespace Go.Proofs.YtkdpingniohfhaaDoor
open Go.RowKit
set_option linter.unusedVariables false

/-- A field read from the left, behind one of the tag last; how many bytes; what is wrong. -/
def nextF (l : List UInt8) (last : Nat) : FD × Nat × Nat :=
  if (dec l).2.2 ≠ 0 then (default, 0, (dec l).2.2)
  else if (dec l).1 < 2 ∨ 63 < (dec l).1 then (default, 0, 20)
  else if (dec l).1 / 2 ≤ last then (default, 0, 21)
  else if (dec (l.drop (dec l).2.1)).2.2 ≠ 0 then (default, 0, (dec (l.drop (dec l).2.1)).2.2)
  else if (dec (l.drop (dec l).2.1)).1 = 0 then (default, 0, 22)
  else if (dec l).1 % 2 = 0 then (⟨(dec l).1 / 2, false, (dec (l.drop (dec l).2.1)).1, []⟩, (dec l).2.1 + (dec (l.drop (dec l).2.1)).2.1, 0)
  else if 200 < (dec (l.drop (dec l).2.1)).1 then (default, 0, 23)
  else if l.length < (dec l).2.1 + (dec (l.drop (dec l).2.1)).2.1 + (dec (l.drop (dec l).2.1)).1 then (default, 0, 10)
  else (⟨(dec l).1 / 2, true, 0, (l.drop ((dec l).2.1 + (dec (l.drop (dec l).2.1)).2.1)).take (dec (l.drop (dec l).2.1)).1⟩, (dec l).2.1 + (dec (l.drop (dec l).2.1)).2.1 + (dec (l.drop (dec l).2.1)).1, 0)

/-- The same with both numbers named. -/
theorem nextF_of {l : List UInt8} {last k n e u m e2 : Nat} (h1 : dec l = (k, n, e)) (h2 : dec (l.drop n) = (u, m, e2)) : nextF l last =
    if e ≠ 0 then (default, 0, e) else if k < 2 ∨ 63 < k then (default, 0, 20) else if k / 2 ≤ last then (default, 0, 21)
    else if e2 ≠ 0 then (default, 0, e2) else if u = 0 then (default, 0, 22) else if k % 2 = 0 then (⟨k / 2, false, u, []⟩, n + m, 0)
    else if 200 < u then (default, 0, 23) else if l.length < n + m + u then (default, 0, 10)
    else (⟨k / 2, true, 0, (l.drop (n + m)).take u⟩, n + m + u, 0) := by
  unfold nextF; rw [h1]; simp only; rw [h2]

/-- An empty field. -/
def Fld.zero : Fld := ⟨0, false, 0, none, 0, 0⟩
theorem zero_is (w : World) : FldIs w Fld.zero default ∧ BytesTag w Fld.zero := ⟨⟨rfl, rfl, rfl, RowAt.nil w 1⟩, fun b o h => by cases h⟩
def Fld.row (f : Fld) : Array Value := #[.int .i64 f.tag, .bool f.text, .int .u64 f.num, .slice f.ba f.bn f.bc]
theorem info_fld : (Tryd.prog.info? 81).map (·.size) = some 4 := by kernel_rfl

theorem results_cell_tmp_tmp {fn : Func} {p u v : Tmp} {ty : TypeId} (h : fn.results = #[.cell p ty, .tmp u, .tmp v]) (tmps : Array Value) (P : Program) (w : World) :
    (results fn tmps).run P w =
      ((asAddr (tmps.getD p undef)).run P w).andThen fun a w₁ => ((loadVar ty a).run P w₁).andThen fun x w₂ => .ok (.tuple #[x, tmps.getD u undef, tmps.getD v undef]) w₂ := by
  simp only [results, h]
  simp [Sem.run_bind, Result.andThen]
theorem ret_fld3 {fn : Func} {p u s : Tmp} {f : Fld} {tmps : Array Value} {w : World} {g : Nat} {e : TypeId} (h : fn.results = #[.cell p 81, .tmp u, .tmp s]) (hp : tmps.getD p undef = .pointer (some ⟨g, 0, none⟩)) (hg : w.heap[g]? = some (.cells f.row e (0, 0))) {v z : Value} (hv : tmps.getD u undef = v) (hz : tmps.getD s undef = z) :
    (results fn tmps).run Tryd.prog w = .ok (.tuple #[.agg f.row, v, z]) w := by
  subst hv
  subst hz
  rw [results_cell_tmp_tmp h, hp]
  have hl := run_loadVar_row (P := Tryd.prog) w g e 81 f.row (0, 0) _ hg Tryd.underlying81 rfl (by exact info_fld)
  simp [asAddr, hl]

theorem grown_row (w : World) (g : Nat) (cs : Array Value) : w.grownBy (w.setRow g cs) (some g) :=
  ⟨rfl, rfl, rfl, by simp, fun k hk hne => setRow_other w g k _ (fun e => hne (by rw [e]))⟩
/-- What Next gives. -/
def GivesN (w : World) (y : FD × Nat × Nat) (x : Ending) (w' : World) : Prop := ∃ f : Fld, x = .returned (.tuple #[.agg f.row, .int .i64 (y.2.1 : Int), .int .i64 (y.2.2 : Int)]) ∧ FldIs w' f y.1 ∧ BytesTag w' f ∧ Below w.heap.size w w'
end Go.Proofs.YtkdpingniohfhaaDoor

namespace Go.Proofs.YtkdpingniohfhaaDoor
open Go.RowKit
set_option linter.unusedVariables false

theorem nextF_good {l : List UInt8} {last n e : Nat} {d : FD} (h : nextF l last = (d, n, e)) : e ≤ 23 ∧ (e = 0 → 1 ≤ n ∧ n ≤ l.length ∧ last < d.tag ∧ d.tag ≤ 31) := by
  obtain ⟨x1, hx1⟩ : ∃ x, dec l = x := ⟨_, rfl⟩
  obtain ⟨k, p, er⟩ := x1
  obtain ⟨x2, hx2⟩ : ∃ x, dec (l.drop p) = x := ⟨_, rfl⟩
  obtain ⟨u, m, er2⟩ := x2
  have d1 := dec_bd l
  have d2 := dec_bd (l.drop p)
  have d3 := dec_pos l
  rw [hx1] at d1 d3
  rw [hx2] at d2
  simp only [List.length_drop] at d1 d2 d3
  rw [nextF_of hx1 hx2] at h
  split at h
  · simp only [Prod.mk.injEq] at h; omega
  split at h
  · simp only [Prod.mk.injEq] at h; omega
  split at h
  · simp only [Prod.mk.injEq] at h; omega
  split at h
  · simp only [Prod.mk.injEq] at h; omega
  split at h
  · simp only [Prod.mk.injEq] at h; omega
  have dp := d3 (by omega)
  split at h
  · simp only [Prod.mk.injEq] at h
    obtain ⟨rfl, rfl, rfl⟩ := h
    exact ⟨by omega, fun _ => ⟨by omega, by omega, by show last < k / 2; omega, by show k / 2 ≤ 31; omega⟩⟩
  split at h
  · simp only [Prod.mk.injEq] at h; omega
  split at h
  · simp only [Prod.mk.injEq] at h; omega
  · simp only [Prod.mk.injEq] at h
    obtain ⟨rfl, rfl, rfl⟩ := h
    exact ⟨by omega, fun _ => ⟨by omega, by omega, by show last < k / 2; omega, by show k / 2 ≤ 31; omega⟩⟩

/-- The fields from a place on, behind one of the tag last, with those read before; the place and the fault. -/
def readF (l : List UInt8) : Nat → Nat → Nat → List FD → List FD × Nat × Nat
  | 0, _, _, acc => (acc, 0, 0)
  | k + 1, p, last, acc =>
    if l.length ≤ p then (acc, 0, 0)
    else if (nextF (l.drop p) last).2.2 ≠ 0 then ([], p, (nextF (l.drop p) last).2.2)
    else readF l k (p + (nextF (l.drop p) last).2.1) (nextF (l.drop p) last).1.tag (acc ++ [(nextF (l.drop p) last).1])
/-- The fields of a record. -/
def decodeF (l : List UInt8) : List FD × Nat × Nat := if 1024 < l.length then ([], 0, 24) else readF l (l.length + 1) 0 0 []

theorem readF_end {l : List UInt8} {k p last : Nat} {acc : List FD} (h : l.length ≤ p) : readF l k p last acc = (acc, 0, 0) := by
  cases k with
  | zero => rfl
  | succ k => rw [readF, if_pos h]
theorem readF_bad {l : List UInt8} {k p last n e : Nat} {d : FD} {acc : List FD} (h : p < l.length) (hn : nextF (l.drop p) last = (d, n, e)) (he : e ≠ 0) : readF l (k + 1) p last acc = ([], p, e) := by
  rw [readF, if_neg (by omega), hn, if_pos he]
theorem readF_on {l : List UInt8} {k p last n : Nat} {d : FD} {acc : List FD} (h : p < l.length) (hn : nextF (l.drop p) last = (d, n, 0)) : readF l (k + 1) p last acc = readF l k (p + n) d.tag (acc ++ [d]) := by
  rw [readF, if_neg (by omega), hn, if_neg (by simp)]
end Go.Proofs.YtkdpingniohfhaaDoor
