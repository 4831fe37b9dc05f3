/-
  Fields of a record: as data, and in memory. No condition.
  The walk of tlv's check. No condition.
  The walk of tlv's put. Condition: the field's bytes lie in memory that is older than what is written.
  The walk of tlv's Encode, for right fields whose record is short. Condition: the slice reads as a list of fields.
  The writer in memory; the walk of its add. Condition: the writer holds right fields.
  The bytes of a string, in new memory. No condition.
-/
import Derived.Test.YtkdpingniohfhaaDoorMBytes
import Derived.Test.YtkdpingniohfhaaDoorMLawDeep
import Derived.Test.YtkdpingniohfhaaDoorMVb
import Derived.Laws.Rows
import Derived.Lib.Hide
import Derived.Test.YtkdpingniohfhaaDoorMVe
import Derived.Test.YtkdpingniohfhaaDoorMBase
import Derived.StillTailTactics
import Derived.Lib.ConvBytes
namespace Go.Proofs.YtkdpingniohfhaaDoor
open Go.RowKit
set_option linter.unusedVariables false

/-- A field as data. -/
structure FD where
  tag : Nat
  text : Bool
  num : Nat
  bytes : List UInt8
deriving DecidableEq
instance : Inhabited FD := ⟨⟨0, false, 0, []⟩⟩
/-- A field in memory: its cells alone. -/
structure Fld where
  tag : Int
  text : Bool
  num : Int
  ba : Option Addr
  bn : Nat
  bc : Nat
instance : Inhabited Fld := ⟨⟨0, false, 0, none, 0, 0⟩⟩
def Fld.cells (f : Fld) : List Value := [.int .i64 f.tag, .bool f.text, .int .u64 f.num, .slice f.ba f.bn f.bc]
def Fld.val (f : Fld) : Value := .agg #[.int .i64 f.tag, .bool f.text, .int .u64 f.num, .slice f.ba f.bn f.bc]
theorem F_len (fs : List Fld) : (fs.flatMap Fld.cells).length = fs.length * 4 := flat_length Fld.cells (fun _ => rfl) fs
theorem F_one (fs : List Fld) : ∀ u ∈ fs.flatMap Fld.cells, u.oneCell' = true := by
  intro u hu
  obtain ⟨m, _, hm⟩ := List.mem_flatMap.1 hu
  simp [Fld.cells] at hm
  rcases hm with rfl | rfl | rfl | rfl <;> rfl

theorem fld_at {w : World} {a : Option Addr} {n c : Nat} {fs : List Fld} (h : RowAt w a n c 4 (fs.flatMap Fld.cells)) (j : Nat) (hj : j < n) :
    ∃ b off f, a = some ⟨b, off, none⟩ ∧ fs[j]? = some f ∧ w.cell? ⟨b, off + j * 4, none⟩ = some (.int .i64 f.tag) ∧ w.cell? ⟨b, off + j * 4 + 1, none⟩ = some (.bool f.text) ∧
      w.cell? ⟨b, off + j * 4 + 2, none⟩ = some (.int .u64 f.num) ∧ w.cell? ⟨b, off + j * 4 + 3, none⟩ = some (.slice f.ba f.bn f.bc) := by
  have key : ∀ r, r < 4 → ∃ b off f, a = some ⟨b, off, none⟩ ∧ fs[j]? = some f ∧ ∃ u, f.cells[r]? = some u ∧ w.cell? ⟨b, off + j * 4 + r, none⟩ = some u := by
    intro r hr
    obtain ⟨b, off, u, ha, hu, hc⟩ := h.at (j * 4 + r) (by omega)
    obtain ⟨i, r', x, h1, h2, h3, h4⟩ := flat_get (k := 4) Fld.cells (fun _ => rfl) fs _ u hu
    obtain rfl : i = j := by omega
    obtain rfl : r' = r := by omega
    exact ⟨b, off, x, ha, h1, u, h4, by rw [Nat.add_assoc]; exact hc⟩
  obtain ⟨b, off, f, ha, hf, u0, k0, c0⟩ := key 0 (by decide)
  obtain ⟨b1, o1, f1, ha1, hf1, u1, k1, c1⟩ := key 1 (by decide)
  obtain ⟨b2, o2, f2, ha2, hf2, u2, k2, c2⟩ := key 2 (by decide)
  obtain ⟨b3, o3, f3, ha3, hf3, u3, k3, c3⟩ := key 3 (by decide)
  rw [ha] at ha1 ha2 ha3
  cases ha1; cases ha2; cases ha3
  rw [hf] at hf1 hf2 hf3
  cases hf1; cases hf2; cases hf3
  simp [Fld.cells] at k0 k1 k2 k3
  subst k0 k1 k2 k3
  exact ⟨b, off, f, ha, hf, c0, c1, c2, c3⟩

/-- A field in memory is that field as data. -/
structure FldIs (w : World) (f : Fld) (d : FD) : Prop where
  tag : f.tag = (d.tag : Int)
  text : f.text = d.text
  num : f.num = (d.num : Int)
  row : RowAt w f.ba f.bn f.bc 1 (d.bytes.map B)
theorem FldIs.below {w w' : World} {f : Fld} {d : FD} (h : FldIs w f d) (hb : Below w.heap.size w w') : FldIs w' f d := ⟨h.tag, h.text, h.num, h.row.below hb⟩
/-- Fields in memory are those fields as data. -/
def FldsAre (w : World) : List Fld → List FD → Prop
  | [], [] => True
  | f :: fs, d :: ds => FldIs w f d ∧ FldsAre w fs ds
  | _, _ => False
theorem FldsAre.below {w w' : World} (hb : Below w.heap.size w w') : ∀ {fs : List Fld} {ds : List FD}, FldsAre w fs ds → FldsAre w' fs ds
  | [], [], _ => trivial
  | _ :: _, _ :: _, h => ⟨h.1.below hb, FldsAre.below hb h.2⟩
  | [], _ :: _, h => h.elim
  | _ :: _, [], h => h.elim
theorem FldsAre.len {w : World} : ∀ {fs : List Fld} {ds : List FD}, FldsAre w fs ds → fs.length = ds.length
  | [], [], _ => rfl
  | _ :: _, _ :: _, h => by simp [FldsAre.len h.2]
  | [], _ :: _, h => h.elim
  | _ :: _, [], h => h.elim
theorem FldsAre.get {w : World} : ∀ {fs : List Fld} {ds : List FD}, FldsAre w fs ds → ∀ {j : Nat} {f : Fld}, fs[j]? = some f → ∃ d, ds[j]? = some d ∧ FldIs w f d
  | f :: fs, d :: ds, h, 0, g, hg => by simp at hg; subst hg; exact ⟨d, rfl, h.1⟩
  | _ :: fs, _ :: ds, h, j + 1, g, hg => FldsAre.get h.2 (by simpa using hg)
  | [], _ :: _, h, _, _, _ => h.elim
  | _ :: _, [], h, _, _, _ => h.elim
  | [], [], _, _, _, hg => by simp at hg
theorem FldsAre.snoc {w : World} {f : Fld} {d : FD} (k : FldIs w f d) : ∀ {fs : List Fld} {ds : List FD}, FldsAre w fs ds → FldsAre w (fs ++ [f]) (ds ++ [d])
  | [], [], _ => ⟨k, trivial⟩
  | _ :: _, _ :: _, h => ⟨h.1, FldsAre.snoc k h.2⟩
  | [], _ :: _, h => h.elim
  | _ :: _, [], h => h.elim

/-- What is wrong with a field behind one of the tag last. -/
def fault (d : FD) (last : Nat) : Int :=
  if d.tag < 1 ∨ 31 < d.tag then 20
  else if d.tag ≤ last then 21
  else if d.text then (if d.bytes.length = 0 then 22 else if 200 < d.bytes.length then 23 else 0)
  else if d.num = 0 then 22 else 0
/-- The bytes of a right field. -/
def oneF (d : FD) : List UInt8 := if d.text then enc (2 * d.tag + 1) ++ enc d.bytes.length ++ d.bytes else enc (2 * d.tag) ++ enc d.num
/-- The record of right fields; the fault of the first that is none. -/
def encGo : List FD → Nat → Int
  | [], _ => 0
  | d :: ds, last => if fault d last = 0 then encGo ds d.tag else fault d last
def recF (ds : List FD) : List UInt8 := ds.flatMap oneF
/-- What is wrong with a field in memory behind one of the tag last. -/
def faultM (f : Fld) (last : Int) : Int :=
  if f.tag < 1 ∨ 31 < f.tag then 20
  else if f.tag ≤ last then 21
  else if f.text then (if f.bn = 0 then 22 else if 200 < f.bn then 23 else 0)
  else if f.num = 0 then 22 else 0
theorem fault_mem {w : World} {f : Fld} {d : FD} (h : FldIs w f d) (last : Nat) : faultM f last = fault d last := by
  have hl : d.bytes.length = f.bn := by have := h.row.len; simpa using this
  unfold faultM fault
  rw [h.tag, h.text, h.num, hl]
  have e1 : ((d.tag : Int) < 1 ∨ 31 < (d.tag : Int)) ↔ (d.tag < 1 ∨ 31 < d.tag) := by omega
  have e2 : ((d.tag : Int) ≤ (last : Int)) ↔ (d.tag ≤ last) := by omega
  have e3 : ((d.num : Int) = 0) ↔ (d.num = 0) := by omega
  simp only [e1, e2, e3]

/-- Right fields behind one of the tag last: tags rise to 31; nothing is empty; texts are short. -/
def okF : Nat → List FD → Prop
  | _, [] => True
  | last, d :: ds => last < d.tag ∧ d.tag ≤ 31 ∧ (d.text = true → 0 < d.bytes.length ∧ d.bytes.length ≤ 200) ∧ (d.text = false → 0 < d.num ∧ d.num < 18446744073709551616) ∧ okF d.tag ds
/-- The tag of the last of the first k. -/
def tagAt (ds : List FD) (k : Nat) : Nat := if k = 0 then 0 else (ds[k - 1]?.getD default).tag
theorem tagAt_succ {ds : List FD} {k : Nat} {d : FD} (h : ds[k]? = some d) : tagAt ds (k + 1) = d.tag := by unfold tagAt; simp [h]
theorem okF_drop : ∀ (ds : List FD) (l k : Nat), okF l ds → k ≤ ds.length → okF (if k = 0 then l else tagAt ds k) (ds.drop k)
  | ds, l, 0, h, _ => by simpa using h
  | [], _, k + 1, _, hk => absurd hk (by simp)
  | d :: ds, l, k + 1, h, hk => by
    have h2 := okF_drop ds d.tag k h.2.2.2.2 (by simpa using hk)
    rw [if_neg (by omega)]
    show okF (tagAt (d :: ds) (k + 1)) (ds.drop k)
    have : tagAt (d :: ds) (k + 1) = if k = 0 then d.tag else tagAt ds k := by
      unfold tagAt
      rw [if_neg (by omega)]
      cases k with
      | zero => simp
      | succ k => simp
    rw [this]; exact h2
theorem okF_at {ds : List FD} {k : Nat} {d : FD} (h : okF 0 ds) (hk : ds[k]? = some d) : tagAt ds k < d.tag ∧ d.tag ≤ 31 ∧ (d.text = true → 0 < d.bytes.length ∧ d.bytes.length ≤ 200) ∧ (d.text = false → 0 < d.num ∧ d.num < 18446744073709551616) := by
  have hlt : k < ds.length := (List.getElem?_eq_some_iff.1 hk).1
  have h1 := okF_drop ds 0 k h (by omega)
  rw [List.drop_eq_getElem_cons hlt] at h1
  have hd : ds[k] = d := (List.getElem?_eq_some_iff.1 hk).2
  rw [hd] at h1
  have ht : (if k = 0 then 0 else tagAt ds k) = tagAt ds k := by unfold tagAt; split <;> rfl
  rw [ht] at h1
  exact ⟨h1.1, h1.2.1, h1.2.2.1, h1.2.2.2.1⟩
theorem fault_ok {d : FD} {last : Nat} (h1 : last < d.tag) (h2 : d.tag ≤ 31) (h3 : d.text = true → 0 < d.bytes.length ∧ d.bytes.length ≤ 200) (h4 : d.text = false → 0 < d.num ∧ d.num < 18446744073709551616) : fault d last = 0 := by
  unfold fault
  rw [if_neg (by omega), if_neg (by omega)]
  cases hx : d.text
  · rw [if_neg (by decide), if_neg (by have := (h4 hx).1; omega)]
  · have := h3 hx
    rw [if_pos rfl, if_neg (by omega), if_neg (by omega)]
theorem recF_take {ds : List FD} {k : Nat} {d : FD} (h : ds[k]? = some d) : recF (ds.take (k + 1)) = recF (ds.take k) ++ oneF d := by
  unfold recF; rw [List.take_add_one, h]; simp
theorem recF_take_le (ds : List FD) (k : Nat) : (recF (ds.take k)).length ≤ (recF ds).length := by
  conv => rhs; rw [← List.take_append_drop k ds]
  unfold recF; rw [List.flatMap_append, List.length_append]; omega
end Go.Proofs.YtkdpingniohfhaaDoor

namespace Go.Proofs.YtkdpingniohfhaaDoor
open Go.RowKit
set_option linter.unusedVariables false

theorem tchk_any (f : Fld) (last : Int) (w : World) : Calls Tryd.prog 50 #[f.val, .int .i64 last] w fun x w' => x = .returned (.int .i64 (faultM f last)) ∧ Below w.heap.size w w' := by
  obtain ⟨t, x, n, ba, bn, bc⟩ := f
  unfold Fld.val faultM
  dsimp only
  by_cases c1 : t < 1
  · rw [if_pos (.inl c1)]
    go_enter Tryd.func50, Tryd.ntmps50
    go_wp2_with fail
    go_ret
    exact ⟨rfl, below_made _ _⟩
  by_cases c2 : 31 < t
  · rw [if_pos (.inr c2)]
    go_enter Tryd.func50, Tryd.ntmps50
    go_wp2_with fail
    go_ret
    exact ⟨rfl, below_made _ _⟩
  rw [if_neg (by omega)]
  by_cases c3 : t ≤ last
  · rw [if_pos c3]
    go_enter Tryd.func50, Tryd.ntmps50
    go_wp2_with fail
    go_ret
    exact ⟨rfl, below_made _ _⟩
  rw [if_neg c3]
  cases x
  · rw [if_neg (by decide)]
    by_cases c4 : n = 0
    · rw [if_pos c4]
      have c4b : (n == 0) = true := by simpa using c4
      clear c4
      go_enter Tryd.func50, Tryd.ntmps50
      go_wp2_with fail
      go_ret
      exact ⟨rfl, below_made _ _⟩
    · rw [if_neg c4]
      have c4b : (n == 0) = false := by simpa using c4
      clear c4
      go_enter Tryd.func50, Tryd.ntmps50
      go_wp2_with fail
      go_ret
      exact ⟨rfl, below_made _ _⟩
  · rw [if_pos rfl]
    by_cases c4 : bn = 0
    · rw [if_pos c4]
      subst c4
      go_enter Tryd.func50, Tryd.ntmps50
      go_wp2_with fail
      go_ret
      exact ⟨rfl, below_made _ _⟩
    · rw [if_neg c4]
      have c4b : ((bn : Int) == 0) = false := by rw [beq_eq_false_iff_ne]; omega
      by_cases c5 : 200 < bn
      · rw [if_pos c5]
        have c5b : 200 < (bn : Int) := by omega
        clear c4 c5
        go_enter Tryd.func50, Tryd.ntmps50
        go_wp2_with fail
        go_ret
        exact ⟨rfl, below_made _ _⟩
      · rw [if_neg c5]
        have c5b : ¬ 200 < (bn : Int) := by omega
        clear c4 c5
        go_enter Tryd.func50, Tryd.ntmps50
        go_wp2_with fail
        go_ret
        exact ⟨rfl, below_made _ _⟩
end Go.Proofs.YtkdpingniohfhaaDoor

namespace Go.Proofs.YtkdpingniohfhaaDoor
open Go.RowKit
set_option linter.unusedVariables false

theorem below_blk' {w w' : World} {b : Nat} {x : Obj} (hb : Below w.heap.size w w') (h : w.heap[b]? = some x) : w'.heap[b]? = some x := (hb.block _ (lt_of_block h)).trans h
theorem oneF_num {d : FD} (h : d.text = false) : oneF d = enc (2 * d.tag) ++ enc d.num := by unfold oneF; rw [h]; rfl
theorem oneF_text {d : FD} (h : d.text = true) : oneF d = enc (2 * d.tag + 1) ++ enc d.bytes.length ++ d.bytes := by unfold oneF; rw [h]; rfl

/-- Below stays under an append to a row of the call's own. -/
theorem below_own {w0 w w' : World} {e : TypeId} {size n : Nat} {v : Value} {xs : List Value} (hb : Below w0.heap.size w0 w) (ho : w.ownsRow w0.heap.size e size v n xs) (hg : w.grownBy w' v.ownBlock) : Below w0.heap.size w0 w' :=
  hb.grown hg hb.size (fun k hk => (ho.lt k hk.symm.symm).1)

set_option maxHeartbeats 1600000 in
theorem put_num (w0 : World) (a : Option Addr) (n cap : Nat) (lb : List UInt8) (t m : Int) (ba : Option Addr) (bn bc : Nat) (w : World) (hb0 : Below w0.heap.size w0 w) (hown : w.ownsRow w0.heap.size 5 1 (.slice a n cap) n (lb.map B))
    (h1 : n ≤ 100000) (t0 : 0 ≤ t) (t1 : t ≤ 31) (m0 : 0 ≤ m) (m1 : m < 18446744073709551616) :
    Calls Tryd.prog 51 #[.slice a n cap, .agg #[.int .i64 t, .bool false, .int .u64 m, .slice ba bn bc]] w fun x w' => ∃ a' c' l, x = .returned (.slice a' l c') ∧ l = n + ((enc (2 * t).toNat ++ enc m.toNat)).length ∧
      w'.ownsRow w0.heap.size 5 1 (.slice a' l c') l ((lb ++ (enc (2 * t).toNat ++ enc m.toNat)).map B) ∧ Below w0.heap.size w0 w' := by
  have hl1 := enc_len10 (2 * t).toNat (by omega)
  have hl2 := enc_len10 m.toNat (by omega)
  have hk : IntKind.u64.wrap (t * 2) = 2 * t := by rw [wrap_u64]; omega
  have hk2 : IntKind.u64.wrap t = t := by rw [wrap_u64]; omega
  have hsz0 := hb0.size
  have hbx := below_made w (.cells #[.int .i64 t, .bool false, .int .u64 m, .slice ba bn bc] 81)
  have hX := heap_alloc_new w (.cells #[.int .i64 t, .bool false, .int .u64 m, .slice ba bn bc] 81)
  have hlt := hown.lt
  have hown1 := own_below hown hbx
  have hb1 := hb0.trans (hbx.mono hsz0)
  have hsz1 := hbx.size
  go_enter Tryd.func51, Tryd.ntmps51
  go_wp2_with fail
  obtain ⟨wx, hwx⟩ : ∃ wx, w.alloc (.cells #[.int .i64 t, .bool false, .int .u64 m, .slice ba bn bc] 81) = wx := ⟨_, rfl⟩
  rw [hwx] at hX hown1 hb1 hsz1 ⊢
  clear hwx hbx hb0 hown
  (with_reducible refine (enc_any _ _ (by omega) (by omega)).mono ?_)
  rintro x w2 ⟨a2, cap2, rfl, hown2, hb2⟩
  have ho2 := own_below hown1 hb2
  have hX2 := below_blk' hb2 hX
  have hB2 := hb1.trans (hb2.mono (by omega))
  have hs2 := hb2.size
  have hxl := lt_of_block hX
  clear hown1 hX hb1
  go_wp2_with (at_builtin; refine wpList_app rfl _ _ 22 rfl slB rfl ho2 rfl (own_rowAt hown2) (B_one _) (by omega) (by omega) fun a3 cap3 w3 hown3 hg3 => ?_; have hX3 := (hg3.block w.heap.size (by omega) (fun e => absurd (hlt _ e.symm).2 (Nat.lt_irrefl _))).trans hX2; have hB3 := below_own hB2 ho2 hg3; have hc3 : w3.cell? ⟨w.heap.size, 2, none⟩ = some (.int .u64 m) := cell_blk hX3 rfl; clear hX2 hB2)
  (with_reducible refine (enc_any _ _ (by omega) (by omega)).mono ?_)
  rintro x w4 ⟨a4, cap4, rfl, hown4, hb4⟩
  have ho4 := own_below hown3 hb4
  have hs3 := hB3.size
  have hB4 := hB3.trans (hb4.mono (by omega))
  have hs4 := hb4.size
  clear hown3 hc3
  go_wp2_with (at_builtin; refine wpList_app rfl _ _ 22 rfl slB rfl ho4 rfl (own_rowAt hown4) (B_one _) (by omega) (by omega) fun a5 cap5 w5 hown5 hg5 => ?_)
  go_ret
  exact ⟨a5, cap5, _, rfl, by rw [List.length_append]; omega, by simpa [List.append_assoc] using hown5, below_own hB4 ho4 hg5⟩

theorem rowAt_below {w w' : World} {a : Option Addr} {n cap : Nat} {l : List UInt8} (h : RowAt w a n cap 1 (l.map B)) (hb : Below w.heap.size w w') : RowAt w' a n cap 1 (l.map B) := h.below hb

set_option maxHeartbeats 1600000 in
theorem put_text (w0 : World) (a : Option Addr) (n cap : Nat) (lb : List UInt8) (t m : Int) (ba : Option Addr) (bn bc : Nat) (l : List UInt8) (w : World) (hb0 : Below w0.heap.size w0 w) (hown : w.ownsRow w0.heap.size 5 1 (.slice a n cap) n (lb.map B))
    (hr : RowAt w0 ba bn bc 1 (l.map B)) (h1 : n ≤ 100000) (t0 : 0 ≤ t) (t1 : t ≤ 31) (hn : bn ≤ 200) :
    Calls Tryd.prog 51 #[.slice a n cap, .agg #[.int .i64 t, .bool true, .int .u64 m, .slice ba bn bc]] w fun x w' => ∃ a' c' k, x = .returned (.slice a' k c') ∧ k = n + ((enc (2 * t + 1).toNat ++ enc bn ++ l)).length ∧
      w'.ownsRow w0.heap.size 5 1 (.slice a' k c') k ((lb ++ (enc (2 * t + 1).toNat ++ enc bn ++ l)).map B) ∧ Below w0.heap.size w0 w' := by
  have hl1 := enc_len10 (2 * t + 1).toNat (by omega)
  have hl2 := enc_len10 bn (by omega)
  have hll : l.length = bn := by simpa using hr.len
  have hk : IntKind.u64.wrap (t * 2) = 2 * t := by rw [wrap_u64]; omega
  have hk2 : IntKind.u64.wrap t = t := by rw [wrap_u64]; omega
  have hk3 : IntKind.u64.wrap (2 * t + 1) = 2 * t + 1 := by rw [wrap_u64]; omega
  have hk4 : IntKind.u64.wrap (bn : Int) = (bn : Int) := by rw [wrap_u64]; omega
  have hsz0 := hb0.size
  have hbx := below_made w (.cells #[.int .i64 t, .bool true, .int .u64 m, .slice ba bn bc] 81)
  have hX := heap_alloc_new w (.cells #[.int .i64 t, .bool true, .int .u64 m, .slice ba bn bc] 81)
  have hlt := hown.lt
  have hown1 := own_below hown hbx
  have hb1 := hb0.trans (hbx.mono hsz0)
  have hsz1 := hbx.size
  go_enter Tryd.func51, Tryd.ntmps51
  go_wp2_with fail
  obtain ⟨wx, hwx⟩ : ∃ wx, w.alloc (.cells #[.int .i64 t, .bool true, .int .u64 m, .slice ba bn bc] 81) = wx := ⟨_, rfl⟩
  rw [hwx] at hX hown1 hb1 hsz1 ⊢
  clear hwx hbx hb0 hown
  (with_reducible refine (enc_any _ _ (by omega) (by omega)).mono ?_)
  rintro x w2 ⟨a2, cap2, rfl, hown2, hb2⟩
  have ho2 := own_below hown1 hb2
  have hX2 := below_blk' hb2 hX
  have hB2 := hb1.trans (hb2.mono (by omega))
  have hs2 := hb2.size
  have hxl := lt_of_block hX
  clear hown1 hX hb1
  go_wp2_with (at_builtin; refine wpList_appN rfl _ _ 22 rfl slB rfl ho2 rfl (own_rowAt hown2) (B_one _) (by omega) (by omega) fun a3 cap3 w3 hown3 hg3 hn3 => ?_; have hX3 := (hg3.block w.heap.size (by omega) (fun e => absurd (hlt _ e.symm).2 (Nat.lt_irrefl _))).trans hX2; have hB3 := below_own hB2 ho2 hg3; have hs32 := hg3.size; have hc3 : w3.cell? ⟨w.heap.size, 3, none⟩ = some (.slice ba bn bc) := cell_blk hX3 rfl; have hne3 : ∀ k, (Value.slice a3 (n + (enc (2 * t + 1).toNat).length) cap3).ownBlock = some k → k ≠ w.heap.size := (fun k hk => (hn3 k hk).elim (fun h => Nat.ne_of_lt (hlt k h).2) (fun h => by omega)); clear hX2 hB2)
  (with_reducible refine (enc_any (bn : Int) _ (by omega) (by omega)).mono ?_)
  rintro x w4 ⟨a4, cap4, rfl, hown4, hb4⟩
  simp only [Int.toNat_natCast] at hown4 ⊢
  have ho4 := own_below hown3 hb4
  have hs3 := hB3.size
  have hB4 := hB3.trans (hb4.mono (by omega))
  have hs4 := hb4.size
  have hX4 := below_blk' hb4 hX3
  clear hown3 hc3
  go_wp2_with (first | (at_builtin; refine wpList_app rfl _ _ 22 rfl slB rfl ho4 rfl (own_rowAt hown4) (B_one _) (by omega) (by omega) fun a5 cap5 w5 hown5 hg5 => ?_; have hX5 := (hg5.block w.heap.size (by omega) (fun e => (hne3 _ e.symm) rfl)).trans hX4; have hB5 := below_own hB4 ho4 hg5; have hc5 : w5.cell? ⟨w.heap.size, 3, none⟩ = some (.slice ba bn bc) := cell_blk hX5 rfl; have hs5 := hg5.size; have hr5 := rowAt_below hr hB5; clear hX4 hB4 ho4) | (at_builtin; refine wpList_app rfl _ _ 22 rfl slB rfl hown5 rfl hr5 (B_one _) (by omega) (by omega) fun a7 cap7 w7 hown7 hg7 => ?_))
  go_ret
  exact ⟨a7, cap7, _, rfl, by simp only [List.length_append]; omega, by simpa [List.append_assoc] using hown7, below_own hB5 hown5 hg7⟩

/-- put, for a field in memory that is a right field as data. -/
theorem put_any (w0 : World) (a : Option Addr) (n cap : Nat) (lb : List UInt8) (f : Fld) (d : FD) (w : World) (hb0 : Below w0.heap.size w0 w) (hown : w.ownsRow w0.heap.size 5 1 (.slice a n cap) n (lb.map B))
    (hf : FldIs w0 f d) (h1 : n ≤ 100000) (ht : d.tag ≤ 31) (h3 : d.text = true → 0 < d.bytes.length ∧ d.bytes.length ≤ 200) (h4 : d.text = false → 0 < d.num ∧ d.num < 18446744073709551616) :
    Calls Tryd.prog 51 #[.slice a n cap, .agg #[.int .i64 f.tag, .bool f.text, .int .u64 f.num, .slice f.ba f.bn f.bc]] w fun x w' => ∃ a' c' l, x = .returned (.slice a' l c') ∧ l = n + (oneF d).length ∧
      w'.ownsRow w0.heap.size 5 1 (.slice a' l c') l ((lb ++ oneF d).map B) ∧ Below w0.heap.size w0 w' := by
  obtain ⟨t, x, m, ba, bn, bc⟩ := f
  obtain ⟨e1, e2, e3, hr⟩ := hf
  dsimp only at e1 e2 e3 hr ⊢
  subst e1 e3
  have hl : d.bytes.length = bn := by simpa using hr.len
  cases hx : d.text
  · rw [hx] at e2; subst e2
    rw [oneF_num hx]
    exact put_num w0 a n cap lb d.tag d.num ba bn bc w hb0 hown h1 (by omega) (by omega) (by omega) (by have := h4 hx; omega)
  · rw [hx] at e2; subst e2
    rw [oneF_text hx, hl]
    exact put_text w0 a n cap lb d.tag d.num ba bn bc d.bytes w hb0 hown hr h1 (by omega) (by omega) (by have := h3 hx; omega)
end Go.Proofs.YtkdpingniohfhaaDoor

namespace Go.Proofs.YtkdpingniohfhaaDoor
open Go.RowKit
set_option linter.unusedVariables false

set_option maxHeartbeats 3200000 in
theorem tenc_any (a : Option Addr) (n cap : Nat) (fs : List Fld) (ds : List FD) (w : World) (hr : RowAt w a n cap 4 (fs.flatMap Fld.cells)) (hf : FldsAre w fs ds) (hok : okF 0 ds) (hlen : (recF ds).length ≤ 1024) :
    Calls Tryd.prog 45 #[.slice a n cap] w fun x w' => ∃ a' c' l, x = .returned (.tuple #[.slice a' l c', .int .i64 0]) ∧ l = (recF ds).length ∧ w'.ownsRow w.heap.size 5 1 (.slice a' l c') l ((recF ds).map B) ∧ Below w.heap.size w w' := by
  have hn : fs.length = n := by have := hr.1; rw [F_len] at this; omega
  have hnd : ds.length = n := by rw [← hf.len]; exact hn
  have hm := hr.2.2.1
  unfold maxLen at hm
  have hm2 := hr.2.1
  have HF := Lib.hid hf
  have HOK := Lib.hid hok
  have HL := Lib.hid hlen
  have HN := Lib.hid hn
  have HND := Lib.hid hnd
  clear hf hok hlen hn hnd
  go_enter Tryd.func45, Tryd.ntmps45
  go_wp2_with fail
  go_loopw [4, 5, 11] (fun bv lv iv wr => ∃ (j : Nat) (a' : Option Addr) (c' k : Nat), iv = .int .i64 (j : Int) ∧ j ≤ n ∧ lv = .int .i64 (tagAt ds j : Int) ∧ bv = .slice a' k c' ∧ k = (recF (ds.take j)).length ∧ wr.ownsRow w.heap.size 5 1 (.slice a' k c') k ((recF (ds.take j)).map B) ∧ Below w.heap.size w wr) (fun _ _ iv _ => n - (intOf iv).toNat)
  case atStart => exact ⟨0, none, 0, 0, rfl, Nat.zero_le _, rfl, rfl, rfl, World.ownsRow_nil _ _ _ _, Below.refl _ _⟩
  case round =>
    obtain ⟨j, a', c', k, rfl, hj, rfl, rfl, hk, ho, hb⟩ := hrel
    have hkl : k ≤ 1024 := by have h1 := recF_take_le ds j; have h2 := HL.out; omega
    have HK := Lib.hid hk
    clear hk
    by_cases hlt : j < n
    · obtain ⟨b, off, f, rfl, hfj, g0, g1, g2, g3⟩ := fld_at (hr.below hb) j hlt
      obtain ⟨d, hd, hfd⟩ := HF.out.get hfj
      obtain ⟨q1, q2, q3, q4⟩ := okF_at HOK.out hd
      have hfm := fault_mem hfd (tagAt ds j)
      rw [fault_ok q1 q2 q3 q4] at hfm
      have HFD := Lib.hid hfd
      have HD := Lib.hid hd
      have htag : f.tag = (tagAt ds (j + 1) : Int) := by rw [tagAt_succ hd]; exact hfd.tag
      have HT := Lib.hid htag
      have hch := fun wx => tchk_any f (tagAt ds j) wx
      rw [hfm] at hch
      unfold Fld.val at hch
      have HC := Lib.hid hch
      clear hch hfm hfj hfd hd htag
      have hbm := below_made wr (.cells #[.int .i64 f.tag, .bool f.text, .int .u64 f.num, .slice f.ba f.bn f.bc] 81)
      have hX := heap_alloc_new wr (.cells #[.int .i64 f.tag, .bool f.text, .int .u64 f.num, .slice f.ba f.bn f.bc] 81)
      have ho1 := own_below ho hbm
      have hb1 := below_next hb hbm
      go_wp2_with fail
      (with_reducible refine (HC.out _).mono ?_)
      rintro x w2 ⟨rfl, hb2⟩
      have ho2 := own_below ho1 hb2
      have hB2 := below_next hb1 hb2
      have hX2 := below_blk' hb2 hX
      have e0 : w2.cell? ⟨wr.heap.size, 0, none⟩ = some (.int .i64 f.tag) := cell_blk hX2 rfl
      have e1 : w2.cell? ⟨wr.heap.size, 1, none⟩ = some (.bool f.text) := cell_blk hX2 rfl
      have e2 : w2.cell? ⟨wr.heap.size, 2, none⟩ = some (.int .u64 f.num) := cell_blk hX2 rfl
      have e3 : w2.cell? ⟨wr.heap.size, 3, none⟩ = some (.slice f.ba f.bn f.bc) := cell_blk hX2 rfl
      clear ho ho1 hb hb1 hb2 hX hbm
      go_wp2_with fail
      (with_reducible refine (put_any w _ _ _ _ f d _ hB2 ho2 HFD.out (by omega) q2 q3 q4).mono ?_)
      rintro x w3 ⟨a3, c3, l3, rfl, rfl, ho3, hB3⟩
      go_wp2_with fail
      go_roundw
      case rel => exact ⟨j + 1, a3, c3, _, by go_num, by omega, by rw [HT.out], rfl, by rw [recF_take HD.out, List.length_append, HK.out], by rw [recF_take HD.out]; exact ho3, hB3⟩
      case measure => simp [intOf]; omega
    · obtain rfl : j = n := by omega
      have hall : ds.take j = ds := List.take_of_length_le (by have := HND.out; omega)
      have HA := Lib.hid hall
      have hk2 : ¬ 1024 < (k : Int) := by omega
      clear hall
      go_wp2_with fail
      refine bodyPost_ret (results_tmp2 rfl _ _ _) rfl ?_
      rw [HA.out] at ho
      exact ⟨a', c', k, rfl, by rw [HK.out, HA.out], ho, hb⟩
end Go.Proofs.YtkdpingniohfhaaDoor

namespace Go.Proofs.YtkdpingniohfhaaDoor
open Go.RowKit
set_option linter.unusedVariables false

/-- A block of cells of a kind. -/
def Tag (w : World) (b : Nat) (t : TypeId) : Prop := ∃ cs fr, w.heap[b]? = some (.cells cs t fr)
theorem Tag.ne {w : World} {b c : Nat} {t u : TypeId} (h : Tag w b t) (k : Tag w c u) (hne : t ≠ u) : b ≠ c := by
  rintro rfl
  obtain ⟨cs, fr, h⟩ := h
  obtain ⟨ds, gr, k⟩ := k
  rw [h] at k; cases k; exact hne rfl
theorem Tag.lt {w : World} {b : Nat} {t : TypeId} (h : Tag w b t) : b < w.heap.size := by obtain ⟨_, _, h⟩ := h; exact lt_of_block h
theorem Tag.grown {w w' : World} {b : Nat} {t : TypeId} {row : Option Nat} (h : Tag w b t) (hg : w.grownBy w' row) (hr : row ≠ some b) : Tag w' b t := by
  obtain ⟨cs, fr, k⟩ := h
  exact ⟨cs, fr, (hg.block b (lt_of_block k) (fun e => hr e.symm)).trans k⟩
theorem Tag.below {w w' : World} {b : Nat} {t : TypeId} (h : Tag w b t) (hb : Below w.heap.size w w') : Tag w' b t := by
  obtain ⟨cs, fr, k⟩ := h; exact ⟨cs, fr, below_blk' hb k⟩
theorem own_tag {w : World} {base : Nat} {e : TypeId} {size : Nat} {v : Value} {n : Nat} {xs : List Value} (h : w.ownsRow base e size v n xs) {k : Nat} (hk : v.ownBlock = some k) : Tag w k e := by
  rcases h.2 with ⟨rfl, _⟩ | ⟨g, c, cur, rfl, _, hg, _⟩
  · cases hk
  · cases hk; exact ⟨cur, (0, 0), hg⟩

/-- The bytes of a field, if any, lie in a block of bytes. -/
def BytesTag (w : World) (f : Fld) : Prop := ∀ b o, f.ba = some ⟨b, o, none⟩ → Tag w b 5
theorem BytesTag.grown {w w' : World} {f : Fld} {row : Option Nat} (h : BytesTag w f) (hg : w.grownBy w' row) {t : TypeId} (ht : t ≠ 5) (hr : ∀ k, row = some k → Tag w k t) : BytesTag w' f := fun b o hb =>
  (h b o hb).grown hg (fun e => (hr b e).ne (h b o hb) ht rfl)
theorem BytesTag.below {w w' : World} {f : Fld} (h : BytesTag w f) (hb : Below w.heap.size w w') : BytesTag w' f := fun b o e => (h b o e).below hb
theorem FldIs.grown {w w' : World} {f : Fld} {d : FD} {row : Option Nat} (h : FldIs w f d) (hb : BytesTag w f) (hg : w.grownBy w' row) {t : TypeId} (ht : t ≠ 5) (hr : ∀ k, row = some k → Tag w k t) : FldIs w' f d :=
  ⟨h.tag, h.text, h.num, h.row.grown hg (fun b o e e2 => (hr b e2.symm).ne (hb b o e) ht rfl)⟩
theorem FldsAre.grown {w w' : World} {row : Option Nat} (hg : w.grownBy w' row) {t : TypeId} (ht : t ≠ 5) (hr : ∀ k, row = some k → Tag w k t) : ∀ {fs : List Fld} {ds : List FD}, (∀ f ∈ fs, BytesTag w f) → FldsAre w fs ds → FldsAre w' fs ds
  | [], [], _, _ => trivial
  | f :: fs, d :: ds, hb, h => ⟨h.1.grown (hb f (by simp)) hg ht hr, FldsAre.grown hg ht hr (fun g hg' => hb g (by simp [hg'])) h.2⟩
  | [], _ :: _, _, h => h.elim
  | _ :: _, [], _, h => h.elim

/-- The writer stands in block p and holds these fields. -/
structure WrIn (w0 w : World) (p : Nat) (ds : List FD) (a : Option Addr) (n cap : Nat) (ms : List Fld) : Prop where
  blk : w.heap[p]? = some (.cells #[.slice a n cap, .int .i64 0] 86 (0, 0))
  own : w.ownsRow w0.heap.size 81 4 (.slice a n cap) n (ms.flatMap Fld.cells)
  flds : FldsAre w ms ds
  tags : ∀ f ∈ ms, BytesTag w f
  base : w0.heap.size ≤ p
  bel : Below w0.heap.size w0 w
def WrAt (w0 w : World) (p : Nat) (ds : List FD) : Prop := ∃ a n cap ms, WrIn w0 w p ds a n cap ms
theorem WrIn.len {w0 w : World} {p : Nat} {ds : List FD} {a : Option Addr} {n cap : Nat} {ms : List Fld} (h : WrIn w0 w p ds a n cap ms) : ms.length = n ∧ ds.length = n := by
  have h1 := h.own.1
  rw [F_len] at h1
  have h2 : ms.length = n := by omega
  exact ⟨h2, by rw [← h.flds.len]; exact h2⟩
theorem WrAt.below {w0 w w' : World} {p : Nat} {ds : List FD} (h : WrAt w0 w p ds) (hb : Below w.heap.size w w') : WrAt w0 w' p ds := by
  obtain ⟨a, n, cap, ms, h⟩ := h
  exact ⟨a, n, cap, ms, below_blk' hb h.blk, own_below h.own hb, h.flds.below hb, fun f hf => (h.tags f hf).below hb, h.base, h.bel.trans (hb.mono h.bel.size)⟩

/-- What a writer's call leaves as it was: every block but its own and its rows of fields. -/
structure WKeep (p : Nat) (w w' : World) : Prop where
  size : w.heap.size ≤ w'.heap.size
  keep : ∀ b cs t fr, w.heap[b]? = some (.cells cs t fr) → t ≠ 81 → b ≠ p → w'.heap[b]? = some (.cells cs t fr)
theorem WKeep.trans {p : Nat} {a b c : World} (h : WKeep p a b) (k : WKeep p b c) : WKeep p a c :=
  ⟨Nat.le_trans h.size k.size, fun x cs t fr hx ht hp => k.keep x cs t fr (h.keep x cs t fr hx ht hp) ht hp⟩
theorem WKeep.below {p : Nat} {w w' : World} (h : Below w.heap.size w w') : WKeep p w w' := ⟨h.size, fun b cs t fr hb _ _ => below_blk' h hb⟩
theorem WKeep.set {p o : Nat} {w : World} {v : Value} : WKeep p w (w.setCell ⟨p, o, none⟩ v) :=
  ⟨by simp [World.setCell], fun b cs t fr hb _ hp => by rw [Below.heap_setCell _ _ _ _ (fun e => hp e)]; exact hb⟩
theorem WKeep.row {p : Nat} {w w' : World} {base : Nat} {size : Nat} {v : Value} {n : Nat} {xs : List Value} (h : w.ownsRow base 81 size v n xs) (hg : w.grownBy w' v.ownBlock) : WKeep p w w' :=
  ⟨hg.size, fun b cs t fr hb ht _ => (hg.block b (lt_of_block hb) (fun e => (own_tag h e.symm).ne ⟨cs, fr, hb⟩ (fun e2 => ht e2.symm) rfl)).trans hb⟩

/-- The writer's own block is turned to what it was. -/
theorem WrIn.turn {w0 w : World} {p o : Nat} {ds : List FD} {a : Option Addr} {n cap : Nat} {ms : List Fld} {v : Value} (h : WrIn w0 w p ds a n cap ms) : (w.setCell ⟨p, o, none⟩ v).ownsRow w0.heap.size 81 4 (.slice a n cap) n (ms.flatMap Fld.cells) ∧ FldsAre (w.setCell ⟨p, o, none⟩ v) ms ds ∧ (∀ f ∈ ms, BytesTag (w.setCell ⟨p, o, none⟩ v) f) ∧ Below w0.heap.size w0 (w.setCell ⟨p, o, none⟩ v) := by
  have htp : Tag w p 86 := ⟨_, _, h.blk⟩
  have hg := grown_set w p o v
  have hr : ∀ k, some p = some k → Tag w k 86 := fun k e => by cases e; exact htp
  exact ⟨h.own.kept hg (.inr fun e => (own_tag h.own e).ne htp (by decide) rfl), h.flds.grown hg (by decide) hr h.tags, fun f hf => (h.tags f hf).grown hg (by decide) hr, h.bel.setCell (p := ⟨p, o, none⟩) h.base v⟩
end Go.Proofs.YtkdpingniohfhaaDoor

namespace Go.Proofs.YtkdpingniohfhaaDoor
open Go.RowKit
set_option linter.unusedVariables false

theorem str_conv (u : ByteArray) (w : World) : (convert 9 22 (.string u)).run Tryd.prog w = .ok (.slice (some ⟨w.heap.size, 0, none⟩) u.size (grownCap w u.size 0 5)) (Lib.bytesWorld w 5 u) :=
  Lib.run_convert_string_bytes w _ _ _ u Tryd.underlying9 Tryd.underlying22 Tryd.underlying5
theorem str_below (w : World) (u : ByteArray) : Below w.heap.size w (Lib.bytesWorld w 5 u) :=
  ⟨rfl, rfl, rfl, by rw [Lib.bytesWorld_size]; omega, fun k hk => Lib.bytesWorld_at_old w _ u k hk⟩
theorem str_row (w : World) (u : ByteArray) (h : u.size ≤ maxLen) : RowAt (Lib.bytesWorld w 5 u) (some ⟨w.heap.size, 0, none⟩) u.size (grownCap w u.size 0 5) 1 (u.data.toList.map B) := by
  refine ⟨by simp, grownCap_ge w _ _ _, grownCap_le_maxLen w _ _ _ h, .inr ⟨w.heap.size, 0, rfl, fun j v hj => ?_⟩⟩
  have hlt : j < u.size := by have := (List.getElem?_eq_some_iff.1 hj).1; simpa using this
  rw [Nat.zero_add, Lib.bytesWorld_cell w _ u j hlt]
  have hlt' : j < u.data.toList.length := by simpa using hlt
  simp only [List.getElem?_map, List.getElem?_eq_getElem hlt', Option.map_some, Option.some.injEq] at hj
  rw [← hj, List.getD_eq_getElem?_getD, List.getElem?_eq_getElem hlt']
  rfl
theorem str_tag (w : World) (u : ByteArray) : ∃ cs fr, (Lib.bytesWorld w 5 u).heap[w.heap.size]? = some (.cells cs 5 fr) := ⟨_, _, Lib.bytesWorld_at_new w _ u⟩
end Go.Proofs.YtkdpingniohfhaaDoor
