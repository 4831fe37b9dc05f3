/-
  Plain facts on memory: how a slice's cells read as a list, how that stays when memory grows, and an append of a whole slice to one that the call owns. Conditions: those that each line names.
  A block of two cells: what its cells hold, that they may be written, what the block is behind a store. No condition.
  A block whose cells are all known: what its cells hold, that they may be written, what the block is behind a store. No condition.
-/
import Derived.WalkKit
import Derived.WalkSpells
import Derived.Laws.OwnMore
import Derived.Laws.MakeOwn
import Derived.Deep.Draws
import Derived.Deep.Quiet
namespace Go.Proofs.YtffhejaeliphcaaDoor
open Go.RowKit
set_option linter.unusedVariables false

theorem vint {k : IntKind} {a b : Int} (h : a = b) : Value.int k a = .int k b := by rw [h]

theorem ret_int {k : IntKind} {a b : Int} (h : a = b) : Ending.returned (.int k a) = .returned (.int k b) := by rw [h]
theorem ret_bool {a b : Bool} (h : a = b) : Ending.returned (.bool a) = .returned (.bool b) := by rw [h]

/-- The length in a slot: for a loop's measure. -/
def lenV : Value → Nat | .slice _ n _ => n | _ => 0

def B (c : UInt8) : Value := .int .u8 (c.toNat : Int)

/-- The slice value '.slice a n cap' reads, in the world w, as n elements of 'size' cells each, all cells in the list vs. -/
def RowAt (w : World) (a : Option Addr) (n cap size : Nat) (vs : List Value) : Prop :=
  vs.length = n * size ∧ n ≤ cap ∧ cap ≤ maxLen ∧
  (n = 0 ∨ ∃ b off, a = some ⟨b, off, none⟩ ∧ ∀ j u, vs[j]? = some u → w.cell? ⟨b, off + j, none⟩ = some u)

theorem RowAt.nil (w : World) (size : Nat) : RowAt w none 0 0 size [] := ⟨by simp, Nat.le_refl _, by unfold maxLen; omega, .inl rfl⟩

theorem RowAt.len {w : World} {a : Option Addr} {n cap : Nat} {vs : List Value} (h : RowAt w a n cap 1 vs) : vs.length = n := by rw [h.1]; omega

theorem RowAt.at {w : World} {a : Option Addr} {n cap size : Nat} {vs : List Value} (h : RowAt w a n cap size vs) (j : Nat) (hj : j < n * size) :
    ∃ b off u, a = some ⟨b, off, none⟩ ∧ vs[j]? = some u ∧ w.cell? ⟨b, off + j, none⟩ = some u := by
  obtain ⟨h1, h2, h3, h4⟩ := h
  have hu : vs[j]? = some (vs[j]'(by omega)) := List.getElem?_eq_getElem (by omega)
  rcases h4 with rfl | ⟨b, off, rfl, hc⟩
  · simp at hj
  · exact ⟨b, off, _, rfl, hu, hc j _ hu⟩

/-- One byte of a slice of bytes. -/
theorem RowAt.byte {w : World} {a : Option Addr} {n cap : Nat} {l : List UInt8} (h : RowAt w a n cap 1 (l.map B)) (j : Nat) (hj : j < n) :
    ∃ b off c, a = some ⟨b, off, none⟩ ∧ l[j]? = some c ∧ w.cell? ⟨b, off + j, none⟩ = some (.int .u8 (c.toNat : Int)) := by
  obtain ⟨b, off, u, ha, hu, hc⟩ := h.at j (by omega)
  simp only [List.getElem?_map, Option.map_eq_some_iff] at hu
  obtain ⟨c, hc1, rfl⟩ := hu
  exact ⟨b, off, c, ha, hc1, hc⟩

/-- It reads the same where its block is the same. -/
theorem RowAt.same {w w' : World} {a : Option Addr} {n cap size : Nat} {vs : List Value} (h : RowAt w a n cap size vs)
    (hs : ∀ b off, a = some ⟨b, off, none⟩ → b < w.heap.size → w'.heap[b]? = w.heap[b]?) : RowAt w' a n cap size vs := by
  obtain ⟨h1, h2, h3, h4⟩ := h
  refine ⟨h1, h2, h3, h4.imp id ?_⟩
  rintro ⟨b, off, rfl, hc⟩
  refine ⟨b, off, rfl, fun j u hu => ?_⟩
  have := hc j u hu
  rw [← this]
  exact World.cell?_of_block (hs b off rfl (World.block_lt_of_cell? w _ this))

theorem RowAt.below {w w' : World} {a : Option Addr} {n cap size : Nat} {vs : List Value} (h : RowAt w a n cap size vs) (hb : Below w.heap.size w w') : RowAt w' a n cap size vs :=
  h.same fun b _ _ hlt => hb.block b hlt

theorem RowAt.drewN {w : World} {a : Option Addr} {n cap size k : Nat} {vs : List Value} (h : RowAt w a n cap size vs) : RowAt (w.drewN k) a n cap size vs :=
  h.same fun _ _ _ _ => rfl

theorem RowAt.grown {w w' : World} {a : Option Addr} {n cap size : Nat} {vs : List Value} {row : Option Nat} (h : RowAt w a n cap size vs) (hg : w.grownBy w' row)
    (hne : ∀ b off, a = some ⟨b, off, none⟩ → some b ≠ row) : RowAt w' a n cap size vs :=
  h.same fun b off ha hlt => hg.block b hlt (hne b off ha)

/-- What the call owns reads so. -/
theorem own_rowAt {w : World} {base : Nat} {e : TypeId} {size : Nat} {a : Option Addr} {n cap : Nat} {vs : List Value}
    (h : w.ownsRow base e size (.slice a n cap) n vs) : RowAt w a n cap size vs := by
  obtain ⟨h1, h2⟩ := h
  rcases h2 with ⟨hv, rfl⟩ | ⟨g, c, cur, hv, hb, hg, hn, hm, hs, ht⟩
  · injection hv with e1 e2 e3
    subst e1 e3
    exact ⟨h1, Nat.le_refl _, by unfold maxLen; omega, .inl rfl⟩
  · injection hv with e1 e2 e3
    subst e1 e3
    refine ⟨h1, hn, hm, .inr ⟨g, 0, rfl, fun j u hu => ?_⟩⟩
    rw [Nat.zero_add, cell_of_row w g j cur e (0, 0) hg]
    rw [← ht, List.getElem?_take] at hu
    split at hu
    · simpa using hu
    · cases hu

/-- A cut of a slice: its first k elements dropped. The address is spelled as the model spells it. -/
theorem RowAt.from {w : World} {a : Option Addr} {n cap size : Nat} {vs : List Value} (h : RowAt w a n cap size vs) (k : Nat) (hk : k ≤ n) :
    RowAt w (if cap = k then a else a.map (·.add (k * size))) (n - k) (cap - k) size (vs.drop (k * size)) := by
  obtain ⟨h1, h2, h3, h4⟩ := h
  refine ⟨by rw [List.length_drop, h1, Nat.sub_mul], by omega, by omega, ?_⟩
  rcases h4 with rfl | ⟨b, off, rfl, hc⟩
  · left; omega
  · right
    by_cases hck : cap = k
    · rw [if_pos hck]
      refine ⟨b, off, rfl, fun j u hu => ?_⟩
      have : vs.drop (k * size) = [] := List.drop_eq_nil_of_le (by rw [h1]; exact Nat.mul_le_mul_right _ (by omega))
      rw [this] at hu; cases hu
    · rw [if_neg hck]
      refine ⟨b, off + k * size, ?_, fun j u hu => ?_⟩
      · simp only [Option.map_some, Addr.add]
        split
        · rename_i h0; rw [h0]; rfl
        · rfl
      · rw [List.getElem?_drop] at hu
        rw [Nat.add_assoc]
        exact hc _ _ hu

/-- The first k elements. -/
theorem RowAt.upto {w : World} {a : Option Addr} {n cap size : Nat} {vs : List Value} (h : RowAt w a n cap size vs) (k : Nat) (hk : k ≤ n) :
    RowAt w a k cap size (vs.take (k * size)) := by
  obtain ⟨h1, h2, h3, h4⟩ := h
  refine ⟨by rw [List.length_take, h1]; exact Nat.min_eq_left (Nat.mul_le_mul_right _ hk), by omega, h3, h4.imp (fun h => by omega) ?_⟩
  rintro ⟨b, off, rfl, hc⟩
  refine ⟨b, off, rfl, fun j u hu => hc j u ?_⟩
  rw [List.getElem?_take] at hu
  split at hu
  · exact hu
  · cases hu

/-- From the shell's own word on an argument: a slice of bytes. -/
theorem rowAt_bytes {w : World} {a : Option Addr} {len cap : Nat} {zs : List Int}
    (h : (a = none ∧ len = 0 ∧ cap = 0 ∧ zs = []) ∨ ∃ x, a = some x ∧ len ≤ cap ∧ cap ≤ maxLen ∧ zs.length = cap ∧ (∀ i, i < zs.length → w.cell? (x.add i) = some (.int .u8 (zs.getD i 0))) ∧ ∀ n ∈ zs, (Lit.int .u8 n).wf = true) :
    ∃ l : List UInt8, l.length = len ∧ RowAt w a len cap 1 (l.map B) := by
  rcases h with ⟨rfl, rfl, rfl, rfl⟩ | ⟨x, rfl, hl, hm, hz, hc, hw⟩
  · exact ⟨[], rfl, RowAt.nil w 1⟩
  · by_cases h0 : len = 0
    · exact ⟨[], by simp [h0], by simp [h0], hl, hm, .inl h0⟩
    · have hsp : x.spot = none := by
        have := hc 0 (by omega)
        simp only [Addr.add, if_true, World.cell?] at this
        cases hs : x.spot with
        | none => rfl
        | some _ => simp [hs] at this; split at this <;> cases this
      obtain ⟨b, off, sp⟩ := x
      simp only at hsp
      subst hsp
      refine ⟨(zs.take len).map fun z => UInt8.ofNat z.toNat, by simp; omega, by simp; omega, hl, hm, .inr ⟨b, off, rfl, fun j u hu => ?_⟩⟩
      simp only [List.map_map, List.getElem?_map, List.getElem?_take, Option.map_eq_some_iff] at hu
      obtain ⟨z, hz1, rfl⟩ := hu
      split at hz1
      · rename_i hj
        have hj2 : j < zs.length := by omega
        have hz2 : zs[j] = z := by rw [List.getElem?_eq_getElem hj2] at hz1; exact Option.some.inj hz1
        have := hc j hj2
        have hwz := hw z (by rw [← hz2]; exact List.getElem_mem hj2)
        have hbd : 0 ≤ z ∧ z ≤ 255 := by simpa [Lit.wf, IntKind.min, IntKind.max, IntKind.signed, IntKind.bits] using hwz
        have hg : zs.getD j 0 = z := by rw [List.getD_eq_getElem?_getD, hz1]; rfl
        rw [hg] at this
        have hadd : (⟨b, off, none⟩ : Addr).add j = ⟨b, off + j, none⟩ := by unfold Addr.add; split <;> simp_all
        rw [hadd] at this
        rw [this]
        simp only [B, Function.comp, UInt8.toNat_ofNat', Option.some.injEq, Value.int.injEq, true_and]
        omega
      · cases hz1

/-- A slice type of the program: its element's type, cells, bytes and zero. -/
def SlTy (P : Program) (t e : TypeId) (size bytes : Nat) (z : Value) : Prop :=
  P.underlying t = some (.slice e) ∧ ∃ i, P.info? e = some i ∧ i.zero = some z ∧ i.size = size ∧ i.bytes = bytes ∧ z.cells.size = size ∧ 0 < size ∧ 0 < bytes

theorem slTy_mk {P : Program} {t e : TypeId} {size bytes : Nat} {z : Value} (h1 : P.underlying t = some (.slice e))
    (h2 : (P.info? e).map (fun i => (i.zero, i.size, i.bytes)) = some (some z, size, bytes)) (h3 : z.cells.size = size) (h4 : 0 < size) (h5 : 0 < bytes) : SlTy P t e size bytes z := by
  obtain ⟨i, a, b, c, d⟩ := info_parts h2
  exact ⟨h1, i, a, b, c, d, h3, h4, h5⟩

theorem addr_add (b off j : Nat) : (⟨b, off, none⟩ : Addr).add j = ⟨b, off + j, none⟩ := by unfold Addr.add; split <;> simp_all

/-- The block of what append gives: the old one, or a new one. -/
def NewOr (w : World) (v v' : Value) : Prop := ∀ k, v'.ownBlock = some k → v.ownBlock = some k ∨ w.heap.size ≤ k

/-- append of a whole slice, of whatever length, to one that the call owns. -/
theorem run_app {P : Program} {w : World} {t ty e : TypeId} {size bytes : Nat} {z : Value} (hT : SlTy P t e size bytes z) {base : Nat} {a : Option Addr} {n cap : Nat} {xs : List Value}
    (hown : w.ownsRow base e size (.slice a n cap) n xs) {sa : Option Addr} {m sc : Nat} {news : List Value} (hsrc : RowAt w sa m sc size news) (h1 : ∀ u ∈ news, u.oneCell' = true)
    (hbytes : (n + m) * bytes ≤ 140737488355328) (hbase : base ≤ w.heap.size) :
    ∃ a' cap' w', (Builtin.append_ #[t, t] ty #[.slice a n cap, .slice sa m sc]).run P w = .ok (.slice a' (n + m) cap') w' ∧
      w'.ownsRow base e size (.slice a' (n + m) cap') (n + m) (xs ++ news) ∧ w.grownBy w' (Value.slice a n cap).ownBlock ∧ NewOr w (.slice a n cap) (.slice a' (n + m) cap') := by
  obtain ⟨ht, i, hi, hz, hsize, hby, hzs, hsz, hbp⟩ := hT
  have h63 : n + m ≤ maxLen := by
    have := Nat.le_trans (Nat.le_mul_of_pos_right (n + m) hbp) hbytes
    unfold maxLen; omega
  have h63' : n + m ≤ 9223372036854775807 := by unfold maxLen at h63; omega
  have fin : ∀ {v' w'}, (Builtin.append_ #[t, t] ty #[.slice a n cap, .slice sa m sc]).run P w = .ok v' w' → w'.ownsRow base e size v' (n + m) (xs ++ news) → w.grownBy w' (Value.slice a n cap).ownBlock → NewOr w (.slice a n cap) v' →
      ∃ a' cap' w', (Builtin.append_ #[t, t] ty #[.slice a n cap, .slice sa m sc]).run P w = .ok (.slice a' (n + m) cap') w' ∧
      w'.ownsRow base e size (.slice a' (n + m) cap') (n + m) (xs ++ news) ∧ w.grownBy w' (Value.slice a n cap).ownBlock ∧ NewOr w (.slice a n cap) (.slice a' (n + m) cap') := by
    intro v' w' hr ho hg hn
    have ho' := ho
    rcases ho.2 with ⟨rfl, h0⟩ | ⟨g, c, cur, rfl, _⟩
    · rw [h0] at ho' ⊢; exact ⟨_, _, w', hr, ho', hg, hn⟩
    · exact ⟨_, _, w', hr, ho', hg, hn⟩
  obtain ⟨r1, r2, r3, r4⟩ := hsrc
  by_cases hm : m = 0
  · subst hm
    have hn : news = [] := List.eq_nil_of_length_eq_zero (by simpa using r1)
    subst hn
    refine fin (v' := .slice a n cap) (w' := w) ?_ (by simpa using hown) ⟨rfl, rfl, rfl, Nat.le_refl _, fun _ _ _ => rfl⟩ (fun k hk => .inl hk)
    rcases hown.2 with ⟨hv, rfl⟩ | ⟨g, c, cur, hv, _, hg, hnc, _, hcs, _⟩
    · injection hv with e1 e2 e3
      subst e1 e3
      cases sa <;> simp [Builtin.append_, run_underlying ht, sizeOf, typeInfo, hi, Builtin.lenOf, Builtin.firstCells, loadCells, loadCellsFrom]
    · injection hv with e1 e2 e3
      subst e1 e3
      cases sa <;> simp [Builtin.append_, run_underlying ht, sizeOf, typeInfo, hi, Builtin.lenOf, Builtin.firstCells, hnc, storeCells, loadCells, loadCellsFrom]
  · rcases r4 with rfl | ⟨b, off, rfl, hc⟩
    · exact absurd rfl hm
    · have hnews : ∀ j u, news[j]? = some u → w.cell? ((⟨b, off, none⟩ : Addr).add j) = some u := fun j u hu => by rw [addr_add]; exact hc j u hu
      obtain ⟨v', w', hr, h2, h3, _⟩ := run_append_own (P := P) w base t ty e i z size bytes ht hi hz hsize hby hzs hsz (.slice a n cap) n xs hown ⟨b, off, none⟩ m sc news r1
        hnews h1 h63 hbytes hbase
      refine fin hr h2 h3 ?_
      rcases hown.2 with ⟨hv, h0⟩ | ⟨g, c, cur, hv, _, hg, hnc, _, hcs, _⟩
      · injection hv with e1 e2 e3
        subst e1 e2 e3
        have he := run_append_nil (P := P) w t ty e i z ht hi hz ⟨b, off, none⟩ m sc news (by rw [hsize]; exact r1) hnews (by omega) (by omega) (by rw [hby]; have := hbytes; simp only [Nat.zero_add] at this; omega)
        rw [hr] at he
        injection he with he1 he2
        subst he1
        intro k hk
        simp [Value.ownBlock] at hk
        right; omega
      · injection hv with e1 e2 e3
        subst e1 e3
        by_cases hroom : n + m ≤ cap
        · have he := run_append_room (P := P) w t ty e i ht hi g n cap cur hg ⟨b, off, none⟩ m sc news (by rw [hsize]; exact r1) hnews h1 hroom (by rw [hsize, r1, hcs, ← Nat.add_mul]; exact Nat.mul_le_mul_right _ hroom)
          rw [hr] at he
          injection he with he1 he2
          subst he1
          intro k hk
          simp [Value.ownBlock] at hk
          left; simp [Value.ownBlock, hk]
        · have holds : ∀ j u, xs[j]? = some u → w.cell? ((⟨g, 0, none⟩ : Addr).add j) = some u := hown.cells (g := g) rfl
          have he := run_append_grow (P := P) w t ty e i z ht hi hz ⟨g, 0, none⟩ n cap xs (by rw [hsize]; exact hown.1) holds ⟨b, off, none⟩ m sc news (by rw [hsize]; exact r1) hnews (by omega) (by omega) (growslice_fits (by omega) (by rw [hby]; exact hbytes))
          rw [hr] at he
          injection he with he1 he2
          subst he1
          intro k hk
          simp [Value.ownBlock] at hk
          right; omega

theorem wpList_appN {P : Program} {w : World} {ops : Array Oper} {rest : List Oper} {o : Oper} {act : Act} {Q : Exit → Act → World → Prop} (hgd : o.guard = none) (s x : Operand) (t : TypeId)
    (ho : o.op = .call { callee := .builtin .append, args := #[s, x], argTypes := #[t, t] }) {e : TypeId} {size bytes : Nat} {z : Value} (hT : SlTy P t e size bytes z)
    {base : Nat} {a : Option Addr} {n cap : Nat} {xs : List Value} (hs : act.eval s = .slice a n cap) (hown : w.ownsRow base e size (.slice a n cap) n xs)
    {sa : Option Addr} {m sc : Nat} {news : List Value} (hx : act.eval x = .slice sa m sc) (hsrc : RowAt w sa m sc size news) (h1 : ∀ u ∈ news, u.oneCell' = true)
    (hbytes : (n + m) * bytes ≤ 140737488355328) (hbase : base ≤ w.heap.size)
    (h : ∀ a' cap' w', w'.ownsRow base e size (.slice a' (n + m) cap') (n + m) (xs ++ news) → w.grownBy w' (Value.slice a n cap).ownBlock → NewOr w (.slice a n cap) (.slice a' (n + m) cap') →
      wpList P ops Q rest (act.put o.dst (.slice a' (n + m) cap')) w') : wpList P ops Q (o :: rest) act w := by
  refine wpList_plain hgd fun K hK => ?_
  obtain ⟨a', cap', w', hr, h2, h3, h4⟩ := run_app (P := P) (w := w) (t := t) (ty := o.type) hT hown hsrc h1 hbytes hbase
  unfold Oper.wp execOp
  simp only [ho, resolve, invoke, builtin, Sem.run_bind, Sem.run_pure, Result.andThen_ok, List.map_toArray, List.map_cons, List.map_nil, hs, hx, hr]
  exact hK _ _ (h a' cap' w' h2 h3 h4)

theorem wpList_app {P : Program} {w : World} {ops : Array Oper} {rest : List Oper} {o : Oper} {act : Act} {Q : Exit → Act → World → Prop} (hgd : o.guard = none) (s x : Operand) (t : TypeId)
    (ho : o.op = .call { callee := .builtin .append, args := #[s, x], argTypes := #[t, t] }) {e : TypeId} {size bytes : Nat} {z : Value} (hT : SlTy P t e size bytes z)
    {base : Nat} {a : Option Addr} {n cap : Nat} {xs : List Value} (hs : act.eval s = .slice a n cap) (hown : w.ownsRow base e size (.slice a n cap) n xs)
    {sa : Option Addr} {m sc : Nat} {news : List Value} (hx : act.eval x = .slice sa m sc) (hsrc : RowAt w sa m sc size news) (h1 : ∀ u ∈ news, u.oneCell' = true)
    (hbytes : (n + m) * bytes ≤ 140737488355328) (hbase : base ≤ w.heap.size)
    (h : ∀ a' cap' w', w'.ownsRow base e size (.slice a' (n + m) cap') (n + m) (xs ++ news) → w.grownBy w' (Value.slice a n cap).ownBlock →
      wpList P ops Q rest (act.put o.dst (.slice a' (n + m) cap')) w') : wpList P ops Q (o :: rest) act w := by
  refine wpList_plain hgd fun K hK => ?_
  obtain ⟨a', cap', w', hr, h2, h3, _⟩ := run_app (P := P) (w := w) (t := t) (ty := o.type) hT hown hsrc h1 hbytes hbase
  unfold Oper.wp execOp
  simp only [ho, resolve, invoke, builtin, Sem.run_bind, Sem.run_pure, Result.andThen_ok, List.map_toArray, List.map_cons, List.map_nil, hs, hx, hr]
  exact hK _ _ (h a' cap' w' h2 h3)

/-- A slice literal that was just laid. -/
theorem rowAt_lit (w : World) (cs : List Value) (n size : Nat) (e : TypeId) (h : cs.length = n * size) (hn : n ≤ maxLen) :
    RowAt (w.alloc (.cells cs.toArray e)) (some ⟨w.heap.size, 0, none⟩) n n size cs := by
  refine ⟨h, Nat.le_refl _, hn, .inr ⟨_, _, rfl, fun j u hu => ?_⟩⟩
  rw [World.cell?_alloc_at _ _ _ _ rfl]
  simpa using hu

theorem B_one (l : List UInt8) : ∀ u ∈ l.map B, u.oneCell' = true := by
  intro u hu; obtain ⟨_, _, rfl⟩ := List.mem_map.1 hu; rfl

/-- THE CONTRACT's WORD: a new slice of bytes, owned, that reads as l; nothing that was there has turned. -/
def GivesB (eB : TypeId) (w : World) (l : List UInt8) (e : Ending) (w' : World) : Prop :=
  ∃ a cap, e = .returned (.slice a l.length cap) ∧ w'.ownsRow w.heap.size eB 1 (.slice a l.length cap) l.length (l.map B) ∧ Below w.heap.size w w'

theorem own_block {w : World} {base : Nat} {e : TypeId} {size : Nat} {a : Option Addr} {n cap : Nat} {vs : List Value}
    (h : w.ownsRow base e size (.slice a n cap) n vs) : ∀ k, (Value.slice a n cap).ownBlock = some k → base ≤ k := fun k hk => (h.lt k hk).1

/-- append of one element that was just laid: the cells vs of it stand in a block of their own. -/
theorem wpList_app1 {P : Program} {w : World} {ops : Array Oper} {rest : List Oper} {o : Oper} {act : Act} {Q : Exit → Act → World → Prop} (hgd : o.guard = none) (s x : Operand) (t : TypeId)
    (ho : o.op = .call { callee := .builtin .append, args := #[s, x], argTypes := #[t, t] }) {e : TypeId} {size bytes : Nat} {z : Value} (hT : SlTy P t e size bytes z)
    {base : Nat} {a : Option Addr} {n cap : Nat} {xs : List Value} (hs : act.eval s = .slice a n cap) (hown : w.ownsRow base e size (.slice a n cap) n xs)
    {vs : List Value} (hx : act.eval x = .slice (some ⟨w.heap.size, 0, none⟩) 1 1) (hvs : vs.length = size) (h1 : ∀ u ∈ vs, u.oneCell' = true)
    (hbytes : (n + 1) * bytes ≤ 140737488355328) (hbase : base ≤ w.heap.size)
    (h : ∀ a' cap' w', w'.ownsRow base e size (.slice a' (n + 1) cap') (n + 1) (xs ++ vs) → w.grownBy w' (Value.slice a n cap).ownBlock →
      wpList P ops Q rest (act.put o.dst (.slice a' (n + 1) cap')) w') : wpList P ops Q (o :: rest) act (w.alloc (.cells vs.toArray e)) := by
  refine wpList_app hgd s x t ho hT hs (hown.alloc _) hx (rowAt_lit w vs 1 size e (by omega) (by decide)) h1 hbytes (by simp; omega) fun a' cap' w' h2 h3 => h a' cap' w' h2 ?_
  exact ⟨h3.os, h3.tape, h3.output, by have := h3.size; simp at this; omega, fun k hk hne => by rw [h3.block k (by simp; omega) hne]; exact Below.heap_alloc w _ k hk⟩

theorem wpList_app1N {P : Program} {w : World} {ops : Array Oper} {rest : List Oper} {o : Oper} {act : Act} {Q : Exit → Act → World → Prop} (hgd : o.guard = none) (s x : Operand) (t : TypeId)
    (ho : o.op = .call { callee := .builtin .append, args := #[s, x], argTypes := #[t, t] }) {e : TypeId} {size bytes : Nat} {z : Value} (hT : SlTy P t e size bytes z)
    {base : Nat} {a : Option Addr} {n cap : Nat} {xs : List Value} (hs : act.eval s = .slice a n cap) (hown : w.ownsRow base e size (.slice a n cap) n xs)
    {vs : List Value} (hx : act.eval x = .slice (some ⟨w.heap.size, 0, none⟩) 1 1) (hvs : vs.length = size) (h1 : ∀ u ∈ vs, u.oneCell' = true)
    (hbytes : (n + 1) * bytes ≤ 140737488355328) (hbase : base ≤ w.heap.size)
    (h : ∀ a' cap' w', w'.ownsRow base e size (.slice a' (n + 1) cap') (n + 1) (xs ++ vs) → w.grownBy w' (Value.slice a n cap).ownBlock → NewOr w (.slice a n cap) (.slice a' (n + 1) cap') →
      wpList P ops Q rest (act.put o.dst (.slice a' (n + 1) cap')) w') : wpList P ops Q (o :: rest) act (w.alloc (.cells vs.toArray e)) := by
  refine wpList_appN hgd s x t ho hT hs (hown.alloc _) hx (rowAt_lit w vs 1 size e (by omega) (by decide)) h1 hbytes (by simp; omega) fun a' cap' w' h2 h3 h4 => h a' cap' w' h2 ?_ ?_
  · exact ⟨h3.os, h3.tape, h3.output, by have := h3.size; simp at this; omega, fun k hk hne => by rw [h3.block k (by simp; omega) hne]; exact Below.heap_alloc w _ k hk⟩
  · intro k hk
    rcases h4 k hk with h5 | h5
    · exact .inl h5
    · right; simp at h5; omega

theorem grownBy_trans {a b c : World} {r : Option Nat} (h : a.grownBy b r) (k : b.grownBy c r) : a.grownBy c r :=
  ⟨k.os.trans h.os, k.tape.trans h.tape, k.output.trans h.output, Nat.le_trans h.size k.size, fun i hi hr => (k.block i (Nat.lt_of_lt_of_le hi h.size) hr).trans (h.block i hi hr)⟩
theorem grownBy_refl (a : World) (r : Option Nat) : a.grownBy a r := ⟨rfl, rfl, rfl, Nat.le_refl _, fun _ _ _ => rfl⟩

theorem one1 (k : IntKind) (n : Int) : ∀ u ∈ [Value.int k n], u.oneCell' = true := by intro u hu; simp at hu; subst hu; rfl

theorem own_snoc {w : World} {base : Nat} {e : TypeId} {a : Option Addr} {n cap : Nat} {l : List UInt8} {c : UInt8} {x : Int} (h : w.ownsRow base e 1 (.slice a (n + 1) cap) (n + 1) (l.map B ++ [.int .u8 x]))
    (hn : n = l.length) (hx : x = (c.toNat : Int)) : w.ownsRow base e 1 (.slice a (l ++ [c]).length cap) (l ++ [c]).length ((l ++ [c]).map B) := by
  subst hn hx
  simpa [B] using h

/-- make([]T, 0, c). -/
theorem wpList_mk0 {P : Program} {w : World} {ops : Array Oper} {rest : List Oper} {o : Oper} {act : Act} {Q : Exit → Act → World → Prop} (hgd : o.guard = none) (l c : Operand) (t : TypeId)
    (ho : o.op = Op.makeSlice t l c) {e : TypeId} {size bytes : Nat} {z : Value} (hT : SlTy P t e size bytes z) (base : Nat)
    (kl kc : IntKind) (C : Int) (n : Nat) (hl : act.eval l = .int kl 0) (hc : act.eval c = .int kc C) (hC : C = (n : Int)) (b2 : bytes * n ≤ 281474976710656) (b3 : n ≤ maxLen) (b4 : base ≤ w.heap.size)
    (hK : ∀ w', w'.ownsRow base e size (.slice (some ⟨w.heap.size, 0, none⟩) 0 n) 0 [] → w.grownBy w' none → wpList P ops Q rest (act.put o.dst (.slice (some ⟨w.heap.size, 0, none⟩) 0 n)) w') :
    wpList P ops Q (o :: rest) act w := by
  obtain ⟨ht, i, hi, hz, hsize, hby, hzs, hsz, hbp⟩ := hT
  exact wpList_make_own w hgd l c t ho base e i z size ht hi hz hsize kl kc C n hl hc hC (by rw [hby]; exact b2) b3 b4 hK

theorem toList_madeCells (z : Value) (hz : z.cells = #[z]) (n : Nat) : (madeCells z.cells (n * 1)).toList = List.replicate n z := by
  rw [hz, Nat.mul_one]; exact toList_madeCells_one z n

/-- make([]T, n), each element of one cell. -/
theorem wpList_mkn {P : Program} {w : World} {ops : Array Oper} {rest : List Oper} {o : Oper} {act : Act} {Q : Exit → Act → World → Prop} (hgd : o.guard = none) (l c : Operand) (t : TypeId)
    (ho : o.op = Op.makeSlice t l c) {e : TypeId} {bytes : Nat} {z : Value} (hT : SlTy P t e 1 bytes z) (hz1 : z.cells = #[z]) (base : Nat)
    (kl kc : IntKind) (L C : Int) (n : Nat) (hl : act.eval l = .int kl L) (hc : act.eval c = .int kc C) (hL : L = (n : Int)) (hC : C = (n : Int)) (b2 : bytes * n ≤ 281474976710656) (b3 : n ≤ maxLen) (b4 : base ≤ w.heap.size)
    (hK : ∀ w', w'.ownsRow base e 1 (.slice (some ⟨w.heap.size, 0, none⟩) n n) n (List.replicate n z) → w.grownBy w' none → wpList P ops Q rest (act.put o.dst (.slice (some ⟨w.heap.size, 0, none⟩) n n)) w') :
    wpList P ops Q (o :: rest) act w := by
  obtain ⟨ht, i, hi, hz, hsize, hby, hzs, hsz, hbp⟩ := hT
  refine wpList_make_full w hgd l c t ho base e i z 1 ht hi hz hsize kl kc L C n hl hc hL hC (by rw [hby]; exact b2) b3 b4 fun w' h1 h2 => hK w' ?_ h2
  rw [toList_madeCells z hz1] at h1
  exact h1

/-- Same memory, some draws more. -/
def Still (w w' : World) : Prop := ∃ n, w' = w.drewN n
theorem Still.refl (w : World) : Still w w := ⟨0, rfl⟩
theorem Still.one (w : World) (n : Nat) : Still w (w.drewN n) := ⟨n, rfl⟩
theorem Still.two (w : World) (m n : Nat) : Still w ((w.drewN m).drewN n) := ⟨m + n, by simp [World.drewN, Nat.add_assoc]⟩
theorem Still.three (w : World) (m n k : Nat) : Still w (((w.drewN m).drewN n).drewN k) := ⟨m + n + k, by simp [World.drewN, Nat.add_assoc]⟩
theorem Still.trans {a b c : World} (h : Still a b) (k : Still b c) : Still a c := by
  obtain ⟨m, rfl⟩ := h; obtain ⟨n, rfl⟩ := k; exact Still.two a m n
theorem Still.below {w w' : World} (h : Still w w') (B : Nat) : Below B w w' := by
  obtain ⟨n, rfl⟩ := h; exact ⟨rfl, rfl, rfl, Nat.le_refl _, fun _ _ => rfl⟩
theorem Still.heap {w w' : World} (h : Still w w') : w'.heap = w.heap := by obtain ⟨n, rfl⟩ := h; rfl
theorem below_still {B : Nat} {a w w' : World} (h : Below B a w) (k : Still w w') : Below B a w' := h.trans (k.below B)
theorem own_still {w w' : World} {base : Nat} {e : TypeId} {size : Nat} {v : Value} {n : Nat} {xs : List Value} (h : w.ownsRow base e size v n xs) (k : Still w w') : w'.ownsRow base e size v n xs :=
  h.kept (row := none) ⟨by obtain ⟨n, rfl⟩ := k; rfl, by obtain ⟨n, rfl⟩ := k; rfl, by obtain ⟨n, rfl⟩ := k; rfl, by rw [k.heap]; exact Nat.le_refl _, fun i _ _ => by rw [k.heap]⟩ (by cases hv : v.ownBlock <;> simp)
theorem RowAt.still {w w' : World} {a : Option Addr} {n cap size : Nat} {vs : List Value} (h : RowAt w a n cap size vs) (k : Still w w') : RowAt w' a n cap size vs :=
  h.same fun _ _ _ _ => by rw [k.heap]

theorem own_below {w w' : World} {base : Nat} {e : TypeId} {size : Nat} {v : Value} {n : Nat} {xs : List Value} (h : w.ownsRow base e size v n xs) (k : Below w.heap.size w w') : w'.ownsRow base e size v n xs :=
  h.kept (row := none) ⟨k.os, k.tape, k.output, k.size, fun i hi _ => k.block i hi⟩ (by cases hv : v.ownBlock <;> simp)

theorem own_mono {w : World} {base base' : Nat} {e : TypeId} {size : Nat} {v : Value} {n : Nat} {xs : List Value} (h : w.ownsRow base e size v n xs) (hb : base' ≤ base) : w.ownsRow base' e size v n xs := by
  obtain ⟨h1, h2⟩ := h
  exact ⟨h1, h2.imp id fun ⟨g, c, cur, hv, hg, r⟩ => ⟨g, c, cur, hv, Nat.le_trans hb hg, r⟩⟩

/-- A slice literal is the call's own. -/
theorem own_lit (w : World) (cs : List Value) (n size : Nat) (e : TypeId) (h : cs.length = n * size) (hn : n ≤ maxLen) :
    (w.alloc (.cells cs.toArray e)).ownsRow w.heap.size e size (.slice (some ⟨w.heap.size, 0, none⟩) n n) n cs := by
  have := World.ownsRow_lit (base := w.heap.size) (e := e) (size := size) w cs.toArray n (Nat.le_refl _) hn (by simpa using h)
  simpa using this

/-- One after the other: what was made below stays, what is made later is the call's own. -/
theorem below_next {w w1 w2 : World} (h : Below w.heap.size w w1) (k : Below w1.heap.size w1 w2) : Below w.heap.size w w2 := h.trans (k.mono h.size)

theorem below_made (w : World) (o : Obj) : Below w.heap.size w (w.alloc o) := (Below.refl _ _).alloc (Nat.le_refl _) o

theorem own_lit1 (w : World) (e : TypeId) {x : Int} {c : UInt8} (h : x = (c.toNat : Int)) :
    (w.alloc (.cells #[.int .u8 x] e)).ownsRow w.heap.size e 1 (.slice (some ⟨w.heap.size, 0, none⟩) [c].length 1) [c].length ([c].map B) := by
  subst h; exact own_lit w [.int .u8 (c.toNat : Int)] 1 1 e rfl (by decide)

/-- One element of a slice whose elements take one cell. -/
theorem RowAt.elem {α : Type} {f : α → Value} {w : World} {a : Option Addr} {n cap : Nat} {l : List α} (h : RowAt w a n cap 1 (l.map f)) (j : Nat) (hj : j < n) :
    ∃ b off x, a = some ⟨b, off, none⟩ ∧ l[j]? = some x ∧ w.cell? ⟨b, off + j, none⟩ = some (f x) := by
  obtain ⟨b, off, u, ha, hu, hc⟩ := h.at j (by omega)
  simp only [List.getElem?_map, Option.map_eq_some_iff] at hu
  obtain ⟨c, hc1, rfl⟩ := hu
  exact ⟨b, off, c, ha, hc1, hc⟩

def U (c : UInt64) : Value := .int .u64 (c.toNat : Int)

theorem U_one (l : List UInt64) : ∀ u ∈ l.map U, u.oneCell' = true := by
  intro u hu; obtain ⟨_, _, rfl⟩ := List.mem_map.1 hu; rfl

/-- From the shell's own word on an argument: a slice of uint64. -/
theorem rowAt_nums {w : World} {a : Option Addr} {len cap : Nat} {zs : List Int}
    (h : (a = none ∧ len = 0 ∧ cap = 0 ∧ zs = []) ∨ ∃ x, a = some x ∧ len ≤ cap ∧ cap ≤ maxLen ∧ zs.length = cap ∧ (∀ i, i < zs.length → w.cell? (x.add i) = some (.int .u64 (zs.getD i 0))) ∧ ∀ n ∈ zs, (Lit.int .u64 n).wf = true) :
    ∃ l : List UInt64, l.length = len ∧ RowAt w a len cap 1 (l.map U) := by
  rcases h with ⟨rfl, rfl, rfl, rfl⟩ | ⟨x, rfl, hl, hm, hz, hc, hw⟩
  · exact ⟨[], rfl, RowAt.nil w 1⟩
  · by_cases h0 : len = 0
    · exact ⟨[], by simp [h0], by simp [h0], hl, hm, .inl h0⟩
    · have hsp : x.spot = none := by
        have := hc 0 (by omega)
        simp only [Addr.add, if_true, World.cell?] at this
        cases hs : x.spot with
        | none => rfl
        | some _ => simp [hs] at this; split at this <;> cases this
      obtain ⟨b, off, sp⟩ := x
      simp only at hsp
      subst hsp
      refine ⟨(zs.take len).map fun z => UInt64.ofNat z.toNat, by simp; omega, by simp; omega, hl, hm, .inr ⟨b, off, rfl, fun j u hu => ?_⟩⟩
      simp only [List.map_map, List.getElem?_map, List.getElem?_take, Option.map_eq_some_iff] at hu
      obtain ⟨z, hz1, rfl⟩ := hu
      split at hz1
      · rename_i hj
        have hj2 : j < zs.length := by omega
        have hz2 : zs[j] = z := by rw [List.getElem?_eq_getElem hj2] at hz1; exact Option.some.inj hz1
        have := hc j hj2
        have hwz := hw z (by rw [← hz2]; exact List.getElem_mem hj2)
        have hbd : 0 ≤ z ∧ z ≤ 18446744073709551615 := by simpa [Lit.wf, IntKind.min, IntKind.max, IntKind.signed, IntKind.bits] using hwz
        have hg : zs.getD j 0 = z := by rw [List.getD_eq_getElem?_getD, hz1]; rfl
        rw [hg] at this
        rw [addr_add] at this
        rw [this]
        simp only [U, Function.comp, UInt64.toNat_ofNat', Option.some.injEq, Value.int.injEq, true_and]
        omega
      · cases hz1

section
variable {P : Program} {t e : TypeId} {size bytes : Nat} {z : Value} {w : World} {a : Option Addr} {n cap : Nat} {vs : List Value}

theorem run_cut (hT : SlTy P t e size bytes z) (wx : World) (p : Nat) (hp : p ≤ n) :
    (Instr.slice t (.slice a n cap) (some (.int .i64 (p : Int))) none none).run P wx = .ok (.slice (if cap = p then a else a.map (·.add (p * size))) (n - p) (cap - p)) wx := by
  obtain ⟨ht, i, hi, hz, hsize, _⟩ := hT
  simp [Instr.slice, run_underlying ht, Instr.sliceBounds, Instr.sliceBound, asIntOf, sizeOf, typeInfo, hi, hsize, hp]

theorem run_cut2 (hT : SlTy P t e size bytes z) (wx : World) (p q : Nat) (hp : p ≤ q) (hq : q ≤ cap) :
    (Instr.slice t (.slice a n cap) (some (.int .i64 (p : Int))) (some (.int .i64 (q : Int))) none).run P wx = .ok (.slice (if cap = p then a else a.map (·.add (p * size))) (q - p) (cap - p)) wx := by
  obtain ⟨ht, i, hi, hz, hsize, _⟩ := hT
  simp [Instr.slice, run_underlying ht, Instr.sliceBounds, Instr.sliceBound, asIntOf, sizeOf, typeInfo, hi, hsize, hp, hq]

theorem run_cut0 (hT : SlTy P t e size bytes z) (wx : World) (q : Nat) (hq : q ≤ cap) :
    (Instr.slice t (.slice a n cap) none (some (.int .i64 (q : Int))) none).run P wx = .ok (.slice a q cap) wx := by
  obtain ⟨ht, i, hi, hz, _, _⟩ := hT
  have h3 : (if cap = 0 then a else Option.map (fun x : Addr => x.add 0) a) = a := by
    split
    · rfl
    · cases a <;> simp [Addr.add]
  simp [Instr.slice, run_underlying ht, Instr.sliceBounds, Instr.sliceBound, asIntOf, sizeOf, typeInfo, hi, hq, h3]

theorem run_cut3 (hT : SlTy P t e size bytes z) (wx : World) (p q m : Nat) (hp : p ≤ q) (hq : q ≤ m) (hm : m ≤ cap) :
    (Instr.slice t (.slice a n cap) (some (.int .i64 (p : Int))) (some (.int .i64 (q : Int))) (some (.int .i64 (m : Int)))).run P wx = .ok (.slice (if m = p then a else a.map (·.add (p * size))) (q - p) (m - p)) wx := by
  obtain ⟨ht, i, hi, hz, hsize, _⟩ := hT
  simp [Instr.slice, run_underlying ht, Instr.sliceBounds, Instr.sliceBound, asIntOf, sizeOf, typeInfo, hi, hsize, hp, hq, hm]

/-- 'x[p:]', as a value that reads as the list without its first p. -/
theorem cut_from (hT : SlTy P t e size bytes z) (h : RowAt w a n cap size vs) (p : Nat) (hp : p ≤ n) :
    ∃ a', (∀ wx, (Instr.slice t (.slice a n cap) (some (.int .i64 (p : Int))) none none).run P wx = .ok (.slice a' (n - p) (cap - p)) wx) ∧ RowAt w a' (n - p) (cap - p) size (vs.drop (p * size)) :=
  ⟨_, fun wx => run_cut hT wx p hp, h.from p hp⟩

/-- 'x[p:q]'. -/
theorem cut_mid (hT : SlTy P t e size bytes z) (h : RowAt w a n cap size vs) (p q : Nat) (hp : p ≤ q) (hq : q ≤ n) :
    ∃ a', (∀ wx, (Instr.slice t (.slice a n cap) (some (.int .i64 (p : Int))) (some (.int .i64 (q : Int))) none).run P wx = .ok (.slice a' (q - p) (cap - p)) wx) ∧ RowAt w a' (q - p) (cap - p) size ((vs.take (q * size)).drop (p * size)) :=
  ⟨_, fun wx => run_cut2 hT wx p q hp (Nat.le_trans hq h.2.1), (h.upto q hq).from p hp⟩

end

theorem rowB_upto {f : UInt8 → Value} {w : World} {a : Option Addr} {n cap m : Nat} {l : List UInt8} (h : RowAt w a n cap 1 (l.map f)) (hm : m ≤ n) : RowAt w a m cap 1 ((l.take m).map f) := by
  have := h.upto m hm
  rwa [Nat.mul_one, ← List.map_take] at this

theorem below_undrew {B : Nat} {w w' : World} (h : Below B w.drew w') : Below B w w' := ⟨h.os, h.tape, h.output, h.size, h.block⟩
theorem rowAt_drew {w : World} {a : Option Addr} {n cap size : Nat} {vs : List Value} (h : RowAt w a n cap size vs) : RowAt w.drew a n cap size vs := h.same fun _ _ _ _ => rfl

/-- What the call made first stays while it appends to what it made later. -/
theorem own_apart {w3 w4 w5 : World} {b3 b4 : Nat} {e3 e4 : TypeId} {s3 s4 : Nat} {v3 v4 : Value} {n3 n4 : Nat} {x3 x4 : List Value} (h3 : w3.ownsRow b3 e3 s3 v3 n3 x3) (hb : Below w3.heap.size w3 w4)
    (h4 : w4.ownsRow b4 e4 s4 v4 n4 x4) (hb4 : w3.heap.size ≤ b4) (hg : w4.grownBy w5 v4.ownBlock) : w5.ownsRow b3 e3 s3 v3 n3 x3 := by
  refine (own_below h3 hb).kept hg ?_
  cases hv : v3.ownBlock with
  | none => exact .inl rfl
  | some k =>
    right
    intro h
    have h1 := (h3.lt k hv).2
    have h2 := (h4.lt k h.symm).1
    omega

/-- Two values that do not share a block. -/
def Ne2 (v u : Value) : Prop := ∀ k, v.ownBlock = some k → u.ownBlock ≠ some k

theorem Ne2.symm {v u : Value} (h : Ne2 v u) : Ne2 u v := fun k hk hv => h k hv hk

theorem own_ne {w w' : World} {row : Value} {base : Nat} {e : TypeId} {size : Nat} {v : Value} {n : Nat} {xs : List Value} (h : w.ownsRow base e size v n xs) (hg : w.grownBy w' row.ownBlock) (hne : Ne2 row v) : w'.ownsRow base e size v n xs := by
  refine h.kept hg ?_
  cases hv : v.ownBlock with
  | none => exact .inl rfl
  | some k => right; exact fun hr => hne k hr.symm hv

theorem ne_new {w : World} {v v' u : Value} (h : NewOr w v v') (hne : Ne2 v u) (hlt : ∀ k, u.ownBlock = some k → k < w.heap.size) : Ne2 v' u := by
  intro k hk hu
  rcases h k hk with h1 | h1
  · exact hne k h1 hu
  · have := hlt k hu; omega

theorem ne_later {w w' : World} {b b' : Nat} {e e' : TypeId} {s s' : Nat} {v v' : Value} {n n' : Nat} {x x' : List Value} (h : w.ownsRow b e s v n x) (h' : w'.ownsRow b' e' s' v' n' x') (hb : w.heap.size ≤ b') : Ne2 v v' := by
  intro k hk hk'
  have h1 := (h.lt k hk).2
  have h2 := (h'.lt k hk').1
  omega

theorem own_some {w : World} {base : Nat} {e : TypeId} {size : Nat} {a : Option Addr} {n cap : Nat} {xs : List Value} (h : w.ownsRow base e size (.slice a n cap) n xs) (hn : 0 < n) : ∃ g, a = some ⟨g, 0, none⟩ := by
  rcases h.2 with ⟨hv, h0⟩ | ⟨g, c, cur, hv, _⟩
  · omega
  · injection hv with e1 e2 e3
    exact ⟨g, e1⟩

/-- A cell of what the call owns: what it holds; that it may be written; what comes of a store. -/
theorem own_cell {w : World} {base : Nat} {e : TypeId} {g n cap : Nat} {xs : List Value} (h : w.ownsRow base e 1 (.slice (some ⟨g, 0, none⟩) n cap) n xs) (j : Nat) (hj : j < n) :
    (∃ u, xs[j]? = some u ∧ w.cell? ⟨g, j, none⟩ = some u) ∧ w.frozen? ⟨g, j, none⟩ = false ∧
    ∀ v, (w.setCell ⟨g, j, none⟩ v).ownsRow base e 1 (.slice (some ⟨g, 0, none⟩) n cap) n (xs.set j v) ∧ w.grownBy (w.setCell ⟨g, j, none⟩ v) (some g) := by
  refine ⟨?_, h.frozenAt j, fun v => h.stored j v⟩
  have h1 := h.cellAt j (by omega)
  have h2 : j < xs.length := by rw [h.1]; omega
  rw [List.getElem?_eq_getElem h2] at h1
  exact ⟨_, List.getElem?_eq_getElem h2, h1⟩

/-- A callee that leaves memory alone, inside a region that draws its order. -/
theorem quiet_left {P : Program} {f : FuncId} {args : Array Value} {w : World} {n : Nat} {v : Value}
    (h : Calls P f args (w.drewN n) fun e w' => e = .returned v ∧ w.drewN n = w') : Calls P f args (w.drewN n) fun e w'' => e = .returned v ∧ ∃ m, w'' = w.drewN m :=
  h.mono fun _ _ ⟨he, hm⟩ => ⟨he, n, hm.symm⟩
theorem quiet_still {P : Program} {f : FuncId} {args : Array Value} {w : World} {n : Nat} {v : Value}
    (h : Calls P f args (w.drewN n) fun e w' => e = .returned v ∧ Still (w.drewN n) w') : Calls P f args (w.drewN n) fun e w'' => e = .returned v ∧ ∃ m, w'' = w.drewN m :=
  h.mono fun _ _ ⟨he, m, hm⟩ => ⟨he, n + m, by rw [hm]; simp [World.drewN, Nat.add_assoc]⟩

end Go.Proofs.YtffhejaeliphcaaDoor

namespace Go.Proofs.YtffhejaeliphcaaDoor
open Go.RowKit
set_option linter.unusedVariables false

section
variable {w : World} {b : Nat} {x y u : Value} {t : TypeId}
theorem cell_two0 (h : w.heap[b]? = some (.cells #[x, y] t (0, 0))) : w.cell? ⟨b, 0, none⟩ = some x := by simp [World.cell?, h]
theorem cell_two1 (h : w.heap[b]? = some (.cells #[x, y] t (0, 0))) : w.cell? ⟨b, 1, none⟩ = some y := by simp [World.cell?, h]
theorem free_two0 (h : w.heap[b]? = some (.cells #[x, y] t (0, 0))) : w.frozen? ⟨b, 0, none⟩ = false := by simp [World.frozen?, h]
theorem free_two1 (h : w.heap[b]? = some (.cells #[x, y] t (0, 0))) : w.frozen? ⟨b, 1, none⟩ = false := by simp [World.frozen?, h]
theorem two_set0 (h : w.heap[b]? = some (.cells #[x, y] t (0, 0))) : (w.setCell ⟨b, 0, none⟩ u).heap[b]? = some (.cells #[u, y] t (0, 0)) := by
  have hlt := lt_of_block h
  have h' : w.heap[b] = .cells #[x, y] t (0, 0) := by simpa [Array.getElem?_eq_getElem hlt] using h
  show (w.heap.modify b _)[b]? = _
  rw [Array.getElem?_eq_getElem (by simpa using hlt), Array.getElem_modify_self, h']
  rfl
theorem two_set1 (h : w.heap[b]? = some (.cells #[x, y] t (0, 0))) : (w.setCell ⟨b, 1, none⟩ u).heap[b]? = some (.cells #[x, u] t (0, 0)) := by
  have hlt := lt_of_block h
  have h' : w.heap[b] = .cells #[x, y] t (0, 0) := by simpa [Array.getElem?_eq_getElem hlt] using h
  show (w.heap.modify b _)[b]? = _
  rw [Array.getElem?_eq_getElem (by simpa using hlt), Array.getElem_modify_self, h']
  rfl
theorem grown_set (w : World) (b o : Nat) (v : Value) : w.grownBy (w.setCell ⟨b, o, none⟩ v) (some b) :=
  ⟨rfl, rfl, rfl, by simp [World.setCell], fun i hi hne => Below.heap_setCell _ _ _ _ (fun e => hne (by rw [e]))⟩
end

end Go.Proofs.YtffhejaeliphcaaDoor

namespace Go.Proofs.YtffhejaeliphcaaDoor
open Go.RowKit
set_option linter.unusedVariables false

section
variable {w : World} {b j : Nat} {cs : Array Value} {v u : Value} {t : TypeId}
theorem cell_blk (h : w.heap[b]? = some (.cells cs t (0, 0))) (hj : cs[j]? = some v) : w.cell? ⟨b, j, none⟩ = some v := by simp [World.cell?, h, hj]
theorem free_blk (h : w.heap[b]? = some (.cells cs t (0, 0))) : w.frozen? ⟨b, j, none⟩ = false := by simp [World.frozen?, h]
theorem blk_set (h : w.heap[b]? = some (.cells cs t (0, 0))) : (w.setCell ⟨b, j, none⟩ u).heap[b]? = some (.cells (cs.setIfInBounds j u) t (0, 0)) := by
  have hlt := lt_of_block h
  have h' : w.heap[b] = .cells cs t (0, 0) := by simpa [Array.getElem?_eq_getElem hlt] using h
  show (w.heap.modify b _)[b]? = _
  rw [Array.getElem?_eq_getElem (by simpa using hlt), Array.getElem_modify_self, h']
  rfl
end

/-- Three cells laid anew. -/
structure Laid3 (w : World) (b : Nat) (t : TypeId) (x y z : Value) : Prop where
  c0 : w.cell? ⟨b, 0, none⟩ = some x
  c1 : w.cell? ⟨b, 1, none⟩ = some y
  c2 : w.cell? ⟨b, 2, none⟩ = some z
  f0 : w.frozen? ⟨b, 0, none⟩ = false
  f1 : w.frozen? ⟨b, 1, none⟩ = false
  f2 : w.frozen? ⟨b, 2, none⟩ = false
theorem laid3 {w : World} {b : Nat} {t : TypeId} {x y z : Value} (h : w.heap[b]? = some (.cells #[x, y, z] t (0, 0))) : Laid3 w b t x y z :=
  ⟨cell_blk h rfl, cell_blk h rfl, cell_blk h rfl, free_blk h, free_blk h, free_blk h⟩
theorem set3_0 {w : World} {b : Nat} {t : TypeId} {x y z u : Value} (h : w.heap[b]? = some (.cells #[x, y, z] t (0, 0))) : (w.setCell ⟨b, 0, none⟩ u).heap[b]? = some (.cells #[u, y, z] t (0, 0)) := blk_set h
theorem set3_1 {w : World} {b : Nat} {t : TypeId} {x y z u : Value} (h : w.heap[b]? = some (.cells #[x, y, z] t (0, 0))) : (w.setCell ⟨b, 1, none⟩ u).heap[b]? = some (.cells #[x, u, z] t (0, 0)) := blk_set h
theorem set3_2 {w : World} {b : Nat} {t : TypeId} {x y z u : Value} (h : w.heap[b]? = some (.cells #[x, y, z] t (0, 0))) : (w.setCell ⟨b, 2, none⟩ u).heap[b]? = some (.cells #[x, y, u] t (0, 0)) := blk_set h

/-- Below stays under three stores into a block of the call's own. -/
theorem below_set3 {B : Nat} {a w : World} {b : Nat} {x y z : Value} (h : Below B a w) (hb : B ≤ b) : Below B a (((w.setCell ⟨b, 0, none⟩ x).setCell ⟨b, 1, none⟩ y).setCell ⟨b, 2, none⟩ z) :=
  ((h.setCell (p := ⟨b, 0, none⟩) hb x).setCell (p := ⟨b, 1, none⟩) hb y).setCell (p := ⟨b, 2, none⟩) hb z

theorem own_set3 {w : World} {base : Nat} {e : TypeId} {size : Nat} {v : Value} {n : Nat} {xs : List Value} {b : Nat} {x y z : Value} (h : w.ownsRow base e size v n xs) (hb : v.ownBlock ≠ some b) :
    (((w.setCell ⟨b, 0, none⟩ x).setCell ⟨b, 1, none⟩ y).setCell ⟨b, 2, none⟩ z).ownsRow base e size v n xs :=
  ((h.kept (grown_set w b 0 x) (.inr hb)).kept (grown_set _ b 1 y) (.inr hb)).kept (grown_set _ b 2 z) (.inr hb)
end Go.Proofs.YtffhejaeliphcaaDoor
