/-
  Laid frames and what a scan finds in them, as data: whole, cut at any byte, with one frame turned, with more behind them. No condition.
-/
import Derived.Test.YtffhejaeliphcaaDoorMPp
import Derived.Test.YtffhejaeliphcaaDoorMFb
namespace Go.Proofs.YtffhejaeliphcaaDoor
open Go.RowKit
set_option linter.unusedVariables false

/-- A frame that can be laid. -/
def Fr.right (g : Fr) : Prop := 1 ≤ g.kind ∧ g.kind ≤ 7 ∧ g.body.length ≤ 16384 ∧ g.seq ≤ 1099511627776
def Fr.bytes (g : Fr) : List UInt8 := frameF g.kind g.seq g.body
theorem Fr.bytes_len (g : Fr) : g.bytes.length = 20 + g.body.length := by unfold Fr.bytes; rw [frameF_len]; omega
/-- Frames behind one another, and their places. -/
def layN (gs : List Fr) : List UInt8 := gs.flatMap Fr.bytes
def pcsN : Nat → List Fr → List Pc
  | _, [] => []
  | p, g :: r => ⟨p, 20 + g.body.length, g⟩ :: pcsN (p + (20 + g.body.length)) r
theorem layN_snoc (gs : List Fr) (g : Fr) : layN (gs ++ [g]) = layN gs ++ g.bytes := by simp [layN]
theorem layN_app (gs hs : List Fr) : layN (gs ++ hs) = layN gs ++ layN hs := by simp [layN]
theorem pcsN_snoc (g : Fr) : ∀ (gs : List Fr) (p : Nat), pcsN p (gs ++ [g]) = pcsN p gs ++ [⟨p + (layN gs).length, 20 + g.body.length, g⟩]
  | [], p => by simp [pcsN, layN]
  | h :: gs, p => by
    have ih := pcsN_snoc g gs (p + (20 + h.body.length))
    rw [List.cons_append, pcsN, ih, pcsN, List.cons_append]
    have e : (layN (h :: gs)).length = 20 + h.body.length + (layN gs).length := by
      show ((h :: gs).flatMap Fr.bytes).length = _
      rw [List.flatMap_cons, List.length_append, h.bytes_len]; rfl
    rw [e, Nat.add_assoc]
theorem pcsN_len : ∀ (gs : List Fr) (p : Nat), (pcsN p gs).length = gs.length
  | [], p => rfl
  | g :: gs, p => by rw [pcsN, List.length_cons, List.length_cons, pcsN_len]
theorem pcsN_f : ∀ (gs : List Fr) (p : Nat), (pcsN p gs).map Pc.f = gs
  | [], p => rfl
  | g :: gs, p => by rw [pcsN, List.map_cons, pcsN_f]

/-- Laid frames are found, whatever stands behind them. -/
theorem chain_lay {gs : List Fr} (h : ∀ g ∈ gs, g.right) (r : List UInt8) : Chain (layN gs ++ r) (pcsN 0 gs) (layN gs).length := by
  obtain ⟨rs, rfl⟩ : ∃ rs : List Fr, rs.reverse = gs := ⟨gs.reverse, List.reverse_reverse _⟩
  induction rs generalizing r with
  | nil => exact .nil
  | cons g rs ih =>
    rw [List.reverse_cons] at h ⊢
    have hg := h g (by simp)
    have ih' := ih (g.bytes ++ r) (fun x hx => h x (List.mem_append_left _ hx))
    rw [layN_snoc, pcsN_snoc, Nat.zero_add, List.append_assoc, List.length_append, g.bytes_len]
    refine ih'.snoc (by rw [List.length_append, List.length_append, g.bytes_len]; omega) ?_
    rw [List.drop_left]
    exact decF_laid hg.1 hg.2.1 hg.2.2.1 hg.2.2.2 r

/-- A chain goes on behind such a beginning. -/
theorem Chain.join {a b : List UInt8} {ps qs : List Pc} {p : Nat} (ha : ∀ r, Chain (a ++ r) ps a.length) (h : Chain b qs p) : Chain (a ++ b) (ps ++ qs.map (fun q => { q with at' := a.length + q.at' })) (a.length + p) := by
  induction h with
  | nil => rw [List.map_nil, List.append_nil]; exact ha b
  | snoc hc hp hd ih =>
    rename_i ps' p f n
    rw [List.map_append, ← List.append_assoc, List.map_singleton, ← Nat.add_assoc]
    refine ih.snoc (by rw [List.length_append]; omega) ?_
    rw [List.drop_length_add_append]
    exact hd
theorem EndsAt.join {a b : List UInt8} {p e : Nat} (h : EndsAt b p e) : EndsAt (a ++ b) (a.length + p) e := by
  rcases h with ⟨h1, h2⟩ | ⟨h1, h2, h3⟩
  · exact .inl ⟨by rw [List.length_append, h1], h2⟩
  · exact .inr ⟨by rw [List.length_append]; omega, by rw [List.drop_length_add_append]; exact h2, h3⟩
theorem scanF_join {a b : List UInt8} {ps : List Pc} (ha : ∀ r, Chain (a ++ r) ps a.length) : scanF (a ++ b) = (ps ++ (scanF b).1.map (fun q => { q with at' := a.length + q.at' }), a.length + (scanF b).2.1, (scanF b).2.2) := by
  obtain ⟨h1, h2⟩ := scan_chain b
  exact scan_is (h1.join ha) h2.join
theorem scanF_lay {gs : List Fr} (h : ∀ g ∈ gs, g.right) (b : List UInt8) : scanF (layN gs ++ b) = (pcsN 0 gs ++ (scanF b).1.map (fun q => { q with at' := (layN gs).length + q.at' }), (layN gs).length + (scanF b).2.1, (scanF b).2.2) := scanF_join fun r => chain_lay h r
theorem scanF_nil : scanF [] = ([], 0, 0) := scan_is .nil (.inl ⟨rfl, rfl⟩)
theorem scanF_bad {l : List UInt8} {x : Fr × Nat} {e : Nat} (h : decF l = (x.1, x.2, e)) (he : e ≠ 0) (hl : 0 < l.length) : scanF l = ([], 0, e) := scan_is .nil (.inr ⟨hl, by rw [List.drop_zero, h], he⟩)

/-- Frames that are torn at any byte: just the whole ones are found. -/
theorem scanF_torn {gs : List Fr} {g : Fr} {j : Nat} (h : ∀ x ∈ gs, x.right) (hg : g.right) (hj : 0 < j) (hj2 : j < 20 + g.body.length) (r : List UInt8) : scanF ((layN gs ++ (g.bytes ++ r)).take ((layN gs).length + j)) = (pcsN 0 gs, (layN gs).length, 60) := by
  have hb := g.bytes_len
  rw [List.take_length_add_append, List.take_append_of_le_length (by omega), scanF_lay h, scanF_bad (l := g.bytes.take j) (x := (Fr.none, 0)) (decF_torn hg.1 hg.2.1 hg.2.2.1 hg.2.2.2 j hj2) (by decide) (by rw [List.length_take]; show 0 < min j g.bytes.length; omega)]
  simp
theorem scanF_whole {gs : List Fr} (h : ∀ x ∈ gs, x.right) (r : List UInt8) : scanF ((layN gs ++ r).take (layN gs).length) = (pcsN 0 gs, (layN gs).length, 0) := by
  rw [List.take_left]
  have := scanF_lay h []
  rw [List.append_nil, scanF_nil] at this
  simpa using this
/-- One frame is turned: those ahead of it are found. -/
theorem scanF_turned {gs : List Fr} {g : Fr} {m r : List UInt8} {t p : Nat} (h : ∀ x ∈ gs, x.right) (hg : g.right) (hp : p < 4294967296) (hl : m.length = g.bytes.length) (ht : t ≤ 8 * g.bytes.length) (hm : num m = num g.bytes ^^^ 2 ^ t * p) (hne : m ≠ g.bytes) :
    ∃ e, (e = 61 ∨ e = 62) ∧ scanF (layN gs ++ (m ++ r)) = (pcsN 0 gs, (layN gs).length, e) := by
  have h0 : 0 < (m ++ r).length := by rw [List.length_append, hl, g.bytes_len]; omega
  have key : ∀ e, e ≠ 0 → decF (m ++ r) = (Fr.none, 0, e) → scanF (layN gs ++ (m ++ r)) = (pcsN 0 gs, (layN gs).length, e) := fun e he hd => by
    rw [scanF_lay h, scanF_bad (x := (Fr.none, 0)) hd he h0]
    simp
  rcases decF_turned hg.1 hg.2.1 hg.2.2.1 hg.2.2.2 m r t p hp hl ht hm hne with hd | hd
  · exact ⟨61, .inl rfl, key 61 (by decide) hd⟩
  · exact ⟨62, .inr rfl, key 62 (by decide) hd⟩
end Go.Proofs.YtffhejaeliphcaaDoor
