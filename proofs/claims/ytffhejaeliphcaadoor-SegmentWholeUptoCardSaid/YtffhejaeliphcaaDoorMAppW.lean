/-
  append of a whole slice to one that the call owns, up to 2^47 elements and more. Condition: what each line names.
-/
import Derived.Test.YtffhejaeliphcaaDoorMBase
import Derived.Deep.DeepAppendWide
namespace Go.Proofs.YtffhejaeliphcaaDoor
open Go.RowKit
set_option linter.unusedVariables false

theorem wpList_appW {P : Program} {w : World} {ops : Array Oper} {rest : List Oper} {o : Oper} {act : Act} {Q : Exit → Act → World → Prop} (hgd : o.guard = none) (s x : Operand) (t : TypeId)
    (ho : o.op = .call { callee := .builtin .append, args := #[s, x], argTypes := #[t, t] }) {e : TypeId} {size bytes : Nat} {z : Value} (hT : SlTy P t e size bytes z)
    {base : Nat} {a : Option Addr} {n cap : Nat} {xs : List Value} (hs : act.eval s = .slice a n cap) (hown : w.ownsRow base e size (.slice a n cap) n xs)
    {sa : Option Addr} {m sc : Nat} {news : List Value} (hx : act.eval x = .slice sa m sc) (hsrc : RowAt w sa m sc size news) (h1 : ∀ u ∈ news, u.oneCell' = true)
    (hbytes : ((n + m) + (n + m) / 4 + 192) * bytes ≤ 281474976710656) (hbase : base ≤ w.heap.size)
    (h : ∀ a' cap' w', w'.ownsRow base e size (.slice a' (n + m) cap') (n + m) (xs ++ news) → w.grownBy w' (Value.slice a n cap).ownBlock →
      wpList P ops Q rest (act.put o.dst (.slice a' (n + m) cap')) w') : wpList P ops Q (o :: rest) act w := by
  by_cases hsmall : (n + m) * bytes ≤ 140737488355328
  · exact wpList_app hgd s x t ho hT hs hown hx hsrc h1 hsmall hbase h
  · obtain ⟨ht, i, hi, hz, hsize, hby, hzs, hsz, hbp⟩ := hT
    have h63 : n + m ≤ maxLen := by
      have h2 := Nat.le_mul_of_pos_right ((n + m) + (n + m) / 4 + 192) hbp
      unfold maxLen; omega
    obtain ⟨r1, r2, r3, r4⟩ := hsrc
    have run : ∃ a' cap' w', (Builtin.append_ #[t, t] o.type #[.slice a n cap, .slice sa m sc]).run P w = .ok (.slice a' (n + m) cap') w' ∧
        w'.ownsRow base e size (.slice a' (n + m) cap') (n + m) (xs ++ news) ∧ w.grownBy w' (Value.slice a n cap).ownBlock := by
      by_cases hm : m = 0
      · subst hm
        have hn : news = [] := List.eq_nil_of_length_eq_zero (by simpa using r1)
        subst hn
        refine ⟨a, cap, w, ?_, by simpa using hown, ⟨rfl, rfl, rfl, Nat.le_refl _, fun _ _ _ => rfl⟩⟩
        rcases hown.2 with ⟨hv, rfl⟩ | ⟨g, c, cur, hv, _, hg, hnc, _, hcs, _⟩
        · injection hv with e1 e2 e3
          subst e1 e3
          cases sa <;> simp [Builtin.append_, run_underlying ht, sizeOf, typeInfo, hi, Builtin.lenOf, Builtin.firstCells, loadCells, loadCellsFrom]
        · injection hv with e1 e2 e3
          subst e1 e3
          cases sa <;> simp [Builtin.append_, run_underlying ht, sizeOf, typeInfo, hi, Builtin.lenOf, Builtin.firstCells, hnc, storeCells, loadCells, loadCellsFrom]
      · rcases r4 with rfl | ⟨b, off, rfl, hc⟩
        · exact absurd rfl hm
        · obtain ⟨v', w', hr, h2, h3, _⟩ := run_append_own_wide (P := P) w base t o.type e i z size bytes ht hi hz hsize hby hzs hsz (.slice a n cap) n xs hown ⟨b, off, none⟩ m sc news r1
            (fun j u hu => by rw [addr_add]; exact hc j u hu) h1 h63 hbytes hbase
          have h2' := h2
          rcases h2.2 with ⟨rfl, h0⟩ | ⟨g, c, cur, rfl, _⟩
          · rw [h0] at h2' ⊢; exact ⟨_, _, w', hr, h2', h3⟩
          · exact ⟨_, _, w', hr, h2', h3⟩
    refine wpList_plain hgd fun K hK => ?_
    obtain ⟨a', cap', w', hr, h2, h3⟩ := run
    unfold Oper.wp execOp
    simp only [ho, resolve, invoke, builtin, Sem.run_bind, Sem.run_pure, Result.andThen_ok, List.map_toArray, List.map_cons, List.map_nil, hs, hx, hr]
    exact hK _ _ (h a' cap' w' h2 h3)
end Go.Proofs.YtffhejaeliphcaaDoor
