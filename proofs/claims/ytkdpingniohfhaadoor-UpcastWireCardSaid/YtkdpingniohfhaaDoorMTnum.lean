/-
  The walks of the writer's Num, Int, Text and Done, and of NewWriter. Condition: the writer holds right fields, all of lesser tags.
-/
import Derived.Test.YtkdpingniohfhaaDoorMTadd
import Derived.Test.YtkdpingniohfhaaDoorMClone
import Derived.Test.YtkdpingniohfhaaDoorMVzig
namespace Go.Proofs.YtkdpingniohfhaaDoor
open Go.RowKit
set_option linter.unusedVariables false

def numF (t v : Nat) : List FD := if v = 0 then [] else [⟨t, false, v, []⟩]
def txtF (t : Nat) (l : List UInt8) : List FD := if l = [] then [] else [⟨t, true, 0, l⟩]

/-- The writer holds right fields, none of a tag above t. -/
structure WrOk (w0 w : World) (p : Nat) (ds : List FD) (t : Nat) : Prop where
  at' : WrAt w0 w p ds
  last : tagAt ds ds.length ≤ t
  ok : okF 0 ds
  len : ds.length ≤ t
theorem tagAt_snoc (ds : List FD) (d : FD) : tagAt (ds ++ [d]) (ds ++ [d]).length = d.tag := by
  have : (ds ++ [d])[ds.length]? = some d := by simp
  have h := tagAt_succ this
  simpa using h
theorem okF_snoc : ∀ (ds : List FD) (l : Nat) (d : FD), okF l ds → (if ds = [] then l else tagAt ds ds.length) < d.tag → d.tag ≤ 31 → (d.text = true → 0 < d.bytes.length ∧ d.bytes.length ≤ 200) → (d.text = false → 0 < d.num ∧ d.num < 18446744073709551616) → okF l (ds ++ [d])
  | [], l, d, _, h, h1, h2, h3 => ⟨by simpa using h, h1, h2, h3, trivial⟩
  | e :: ds, l, d, hok, h, h1, h2, h3 => by
    obtain ⟨k1, k2, k3, k4, k5⟩ := hok
    refine ⟨k1, k2, k3, k4, okF_snoc ds e.tag d k5 ?_ h1 h2 h3⟩
    rw [if_neg (by simp)] at h
    cases ds with
    | nil => simpa [tagAt] using h
    | cons x xs => rw [if_neg (by simp)]; simpa [tagAt] using h
theorem WrOk.mono {w0 w : World} {p : Nat} {ds : List FD} {s t : Nat} (h : WrOk w0 w p ds s) (hst : s ≤ t) : WrOk w0 w p ds t := ⟨h.at', Nat.le_trans h.last hst, h.ok, Nat.le_trans h.len hst⟩
theorem WrOk.snoc {w0 w w' : World} {p : Nat} {ds : List FD} {s : Nat} (h : WrOk w0 w p ds s) (d : FD) (hat : WrAt w0 w' p (ds ++ [d])) (hst : s < d.tag) (h1 : d.tag ≤ 31) (h2 : d.text = true → 0 < d.bytes.length ∧ d.bytes.length ≤ 200) (h3 : d.text = false → 0 < d.num ∧ d.num < 18446744073709551616) : WrOk w0 w' p (ds ++ [d]) d.tag := by
  have hl := h.last
  have hn := h.len
  refine ⟨hat, Nat.le_of_eq (tagAt_snoc ds d), okF_snoc ds 0 d h.ok ?_ h1 h2 h3, by simp; omega⟩
  split <;> omega
theorem WrOk.below {w0 w w' : World} {p : Nat} {ds : List FD} {t : Nat} (h : WrOk w0 w p ds t) (hb : Below w.heap.size w w') : WrOk w0 w' p ds t := ⟨h.at'.below hb, h.last, h.ok, h.len⟩
/-- What a writer's call gives. -/
def GivesW (w0 w : World) (p : Nat) (ds : List FD) (t : Nat) (x : Ending) (w' : World) : Prop := x = .returned (.pointer (some ⟨p, 0, none⟩)) ∧ WrOk w0 w' p ds t ∧ WKeep p w w'

theorem num_any (w0 w : World) (p : Nat) (ds : List FD) (s : Nat) (t : Nat) (v : Int) (h : WrOk w0 w p ds s) (hst : s < t) (ht : t ≤ 31) (v0 : 0 ≤ v) (v1 : v < 18446744073709551616) :
    Calls Tryd.prog 79 #[.pointer (some ⟨p, 0, none⟩), .int .i64 (t : Int), .int .u64 v] w (GivesW w0 w p (ds ++ numF t v.toNat) t) := by
  have hf : FldIs w ⟨(t : Int), false, v, none, 0, 0⟩ ⟨t, false, v.toNat, []⟩ := ⟨rfl, rfl, by show v = ((v.toNat : Nat) : Int); omega, RowAt.nil w 1⟩
  have hbt : BytesTag w ⟨(t : Int), false, v, none, 0, 0⟩ := fun b o e => by cases e
  have hl := h.last
  have hn := h.len
  by_cases hz : v = 0
  · have hfl : fault ⟨t, false, v.toNat, []⟩ (tagAt ds ds.length) = 22 := by
      unfold fault
      dsimp only
      rw [if_neg (by omega), if_neg (by omega), if_neg (by decide), if_pos (by omega)]
    have HA := Lib.hid (add_zero w0 w p ds h.at' _ _ hf hfl)
    have hE : ds ++ numF t v.toNat = ds := by unfold numF; rw [if_pos (by omega), List.append_nil]
    unfold GivesW
    rw [hE]
    clear hf hbt hfl hE hz
    go_enter Tryd.func79, Tryd.ntmps79
    go_wp2_with fail
    (with_reducible refine HA.out.mono ?_)
    rintro x w2 ⟨rfl, hat, hk⟩
    go_wp2_with fail
    go_ret
    exact ⟨rfl, ⟨hat, by omega, h.ok, by omega⟩, hk⟩
  · have hvp : 0 < v.toNat := by omega
    have hfl : fault ⟨t, false, v.toNat, []⟩ (tagAt ds ds.length) = 0 := fault_ok (by show _ < t; omega) ht (fun e => by cases e) (fun _ => ⟨by show 0 < v.toNat; omega, by show v.toNat < _; omega⟩)
    have HA := Lib.hid (add_some w0 w p ds h.at' _ _ hf hbt hfl (by omega))
    have hE : ds ++ numF t v.toNat = ds ++ [⟨t, false, v.toNat, []⟩] := by unfold numF; rw [if_neg (by omega)]
    unfold GivesW
    rw [hE]
    clear hf hbt hfl hE hz
    go_enter Tryd.func79, Tryd.ntmps79
    go_wp2_with fail
    (with_reducible refine HA.out.mono ?_)
    rintro x w2 ⟨rfl, hat, hk⟩
    go_wp2_with fail
    go_ret
    exact ⟨rfl, h.snoc ⟨t, false, v.toNat, []⟩ hat hst ht (fun e => by cases e) (fun _ => ⟨hvp, by show v.toNat < _; omega⟩), hk⟩

theorem int_any (w0 w : World) (p : Nat) (ds : List FD) (s : Nat) (t : Nat) (v : Int) (h : WrOk w0 w p ds s) (hst : s < t) (ht : t ≤ 31) (v0 : -9223372036854775808 ≤ v) (v1 : v ≤ 9223372036854775807) :
    Calls Tryd.prog 71 #[.pointer (some ⟨p, 0, none⟩), .int .i64 (t : Int), .int .i64 v] w (GivesW w0 w p (ds ++ numF t (zigN v).toNat) t) := by
  obtain ⟨z0, z1⟩ := zig_bd v v0 v1
  have HZ := Lib.hid (zig_any v w v0 v1)
  have HN := Lib.hid (num_any w0 w p ds s t (zigN v) h hst ht z0 z1)
  clear h
  unfold GivesW at HN ⊢
  go_enter Tryd.func71, Tryd.ntmps71
  go_wp2_with fail
  (with_reducible refine HZ.out.mono ?_)
  rintro x w1 ⟨rfl, rfl⟩
  go_wp2_with fail
  (with_reducible refine HN.out.mono ?_)
  rintro x w2 ⟨rfl, hok, hk⟩
  go_wp2_with fail
  go_ret
  exact ⟨rfl, hok, hk⟩

theorem text_any (w0 w : World) (p : Nat) (ds : List FD) (s : Nat) (t : Nat) (a : Option Addr) (n c : Nat) (l : List UInt8) (h : WrOk w0 w p ds s) (hst : s < t) (ht : t ≤ 31) (hr : RowAt w a n c 1 (l.map B)) (hn : n ≤ 200) (h0 : a = none → n = 0) :
    Calls Tryd.prog 95 #[.pointer (some ⟨p, 0, none⟩), .int .i64 (t : Int), .slice a n c] w (GivesW w0 w p (ds ++ txtF t l) t) := by
  have hll : l.length = n := by simpa using hr.len
  subst hll
  have HC := Lib.hid (clone_any a _ c l w (by omega) hr h0)
  have hl := h.last
  have hsn := h.len
  have HOK := Lib.hid h
  clear h hr h0
  unfold GivesW
  go_enter Tryd.func95, Tryd.ntmps95
  go_wp2_with fail
  (with_reducible refine HC.out.mono ?_)
  rintro x w1 ⟨a1, c1, rfl, ho, hb⟩
  have h1 := HOK.out.below hb
  have hf : FldIs w1 ⟨(t : Int), true, 0, a1, l.length, c1⟩ ⟨t, true, 0, l⟩ := ⟨rfl, rfl, rfl, own_rowAt ho⟩
  have hbt : BytesTag w1 ⟨(t : Int), true, 0, a1, l.length, c1⟩ := fun b o e => by
    have e' : a1 = some ⟨b, o, none⟩ := e
    subst e'
    exact own_tag ho rfl
  by_cases hz : l = []
  · have hfl : fault ⟨t, true, 0, l⟩ (tagAt ds ds.length) = 22 := by
      unfold fault
      dsimp only
      rw [if_neg (by omega), if_neg (by omega), if_pos rfl, if_pos (by rw [hz]; rfl)]
    have HA := Lib.hid (add_zero w0 w1 p ds h1.at' _ _ hf hfl)
    have hE : ds ++ txtF t l = ds := by unfold txtF; rw [if_pos hz, List.append_nil]
    have HEQ := Lib.hid hE
    clear hf hbt hfl hE hz
    go_wp2_with fail
    (with_reducible refine HA.out.mono ?_)
    rintro x w2 ⟨rfl, hat, hk⟩
    go_wp2_with fail
    go_ret
    exact ⟨rfl, by rw [HEQ.out]; exact ⟨hat, by omega, h1.ok, by omega⟩, (WKeep.below hb).trans hk⟩
  · have hlp : 0 < l.length := by cases l with | nil => exact absurd rfl hz | cons _ _ => simp
    have hfl : fault ⟨t, true, 0, l⟩ (tagAt ds ds.length) = 0 := fault_ok (by show _ < t; omega) ht (fun _ => ⟨hlp, by show l.length ≤ 200; omega⟩) (fun e => by cases e)
    have HA := Lib.hid (add_some w0 w1 p ds h1.at' _ _ hf hbt hfl (by omega))
    have hE : ds ++ txtF t l = ds ++ [⟨t, true, 0, l⟩] := by unfold txtF; rw [if_neg hz]
    have HEQ := Lib.hid hE
    clear hf hbt hfl hE hz
    go_wp2_with fail
    (with_reducible refine HA.out.mono ?_)
    rintro x w2 ⟨rfl, hat, hk⟩
    go_wp2_with fail
    go_ret
    exact ⟨rfl, by rw [HEQ.out]; exact h1.snoc ⟨t, true, 0, l⟩ hat hst ht (fun _ => ⟨hlp, by show l.length ≤ 200; omega⟩) (fun e => by cases e), (WKeep.below hb).trans hk⟩

theorem new_any (w : World) : Calls Tryd.prog 31 #[] w fun x w' => x = .returned (.pointer (some ⟨w.heap.size, 0, none⟩)) ∧ WrOk w w' w.heap.size [] 0 ∧ Below w.heap.size w w' := by
  go_enter Tryd.func31, Tryd.ntmps31
  go_wp2_with fail
  go_ret
  exact ⟨rfl, ⟨⟨none, 0, 0, [], heap_alloc_new w _, World.ownsRow_nil _ _ _ _, trivial, (fun f hf => absurd hf (by simp)), Nat.le_refl _, below_made _ _⟩, Nat.le_refl _, trivial, Nat.le_refl _⟩, below_made _ _⟩

theorem done_any (w0 w : World) (p : Nat) (ds : List FD) (t : Nat) (h : WrOk w0 w p ds t) (hlen : (recF ds).length ≤ 1024) :
    Calls Tryd.prog 33 #[.pointer (some ⟨p, 0, none⟩)] w fun x w' => ∃ a' c' l, x = .returned (.tuple #[.slice a' l c', .int .i64 0]) ∧ l = (recF ds).length ∧ w'.ownsRow w.heap.size 5 1 (.slice a' l c') l ((recF ds).map B) ∧ Below w.heap.size w w' := by
  obtain ⟨⟨a, n, cap, ms, hW⟩, -, hok, -⟩ := h
  have HE := Lib.hid (tenc_any a n cap ms ds w (own_rowAt hW.own) hW.flds hok hlen)
  have c0 := cell_two0 hW.blk
  have c1 := cell_two1 hW.blk
  clear hW hok hlen
  go_enter Tryd.func33, Tryd.ntmps33
  go_wp2_with fail
  (with_reducible refine HE.out.mono ?_)
  rintro x w2 ⟨a', c', l, rfl, rfl, ho, hb⟩
  go_wp2_with fail
  refine bodyPost_ret (results_tmp2 rfl _ _ _) rfl ?_
  exact ⟨a', c', _, rfl, rfl, ho, hb⟩
end Go.Proofs.YtkdpingniohfhaaDoor
