/-
  The walk of the statements' own laying of frames: their bytes and the places at which they end. Conditions: the argument reads as frames, no more than 2^20; the table of nibbles holds what its text lays.
-/
import Derived.Test.YtkaaabnahpmobaaDoorPlay
import Derived.Test.YtkaaabnahpmobaaDoorPjoin
import Derived.Test.YtkaaabnahpmobaaDoorFenc
namespace Go.Proofs.YtkaaabnahpmobaaDoor
open Go.RowKit
set_option linter.unusedVariables false

theorem slI : SlTy Tryd.prog 47 3 1 8 (.int .i64 0) := slTy_mk Tryd.underlying47 (by kernel_rfl) rfl (by decide) (by decide)
def NV (n : Nat) : Value := .int .i64 (n : Int)
def FI.fr (x : FI) : Fr := ⟨x.kind.toNat, x.seq.toNat, x.body⟩
/-- A frame that can be laid. -/
def FI.ok (x : FI) : Prop := x.fr.right ∧ x.kind = (x.fr.kind : Int) ∧ x.seq = (x.fr.seq : Int)
theorem FI.enc {x : FI} (h : (encF x.kind x.seq x.body).2 = 0) : x.ok ∧ encF x.kind x.seq x.body = (x.fr.bytes, 0) := by
  obtain ⟨kd, sq, h1, h2, h3, h4, h5, h6, h7⟩ := encF_ok h
  have e1 : x.kind.toNat = kd := by omega
  have e2 : x.seq.toNat = sq := by omega
  refine ⟨⟨?_, ?_, ?_⟩, ?_⟩
  · unfold FI.fr; rw [e1, e2]; exact ⟨h3, h4, h6, h5⟩
  · unfold FI.fr; rw [e1, h1]
  · unfold FI.fr; rw [e2, h2]
  · rw [h7]; unfold FI.fr Fr.bytes; rw [e1, e2]
/-- The places at which frames end. -/
def endsN (gs : List Fr) : List Nat := (List.range gs.length).map fun k => (layN (gs.take (k + 1))).length
theorem endsN_len (gs : List Fr) : (endsN gs).length = gs.length := by simp [endsN]
theorem endsN_snoc (gs : List Fr) (g : Fr) : endsN (gs ++ [g]) = endsN gs ++ [(layN gs).length + g.bytes.length] := by
  unfold endsN
  rw [List.length_append, List.length_singleton, List.range_succ, List.map_append, List.map_singleton, List.take_of_length_le (by simp), layN_snoc, List.length_append]
  congr 1
  refine List.map_congr_left fun k hk => ?_
  rw [List.take_append_of_le_length (by have := List.mem_range.1 hk; omega)]
theorem endsN_at {gs : List Fr} {k : Nat} (h : k < gs.length) : (endsN gs)[k]? = some (layN (gs.take (k + 1))).length := by
  unfold endsN
  rw [List.getElem?_map, List.getElem?_range h]
  rfl
theorem fr_take {fs : List FI} {k : Nat} {x : FI} (h : fs[k]? = some x) : (fs.take (k + 1)).map FI.fr = (fs.take k).map FI.fr ++ [x.fr] := by
  rw [List.take_add_one, h]; simp
theorem layN_le {gs : List Fr} (h : ∀ g ∈ gs, g.right) : (layN gs).length ≤ gs.length * 16404 := by
  induction gs with
  | nil => simp [layN]
  | cons g r ih =>
    have h1 := ih (fun x hx => h x (List.mem_cons_of_mem _ hx))
    have h2 := (h g (List.mem_cons_self ..)).2.2.1
    unfold layN at h1 ⊢
    rw [List.flatMap_cons, List.length_append, g.bytes_len, List.length_cons]
    omega
/-- A row of one's own stays where a row of another type has grown. -/
theorem own_else {w w' : World} {lo lo2 size size2 n n2 : Nat} {e e2 : TypeId} {v v2 : Value} {xs ys : List Value} (h : w.ownsRow lo e size v n xs) (h2 : w.ownsRow lo2 e2 size2 v2 n2 ys) (hne : (e == e2) = false) (hg : w.grownBy w' v2.ownBlock) : w'.ownsRow lo e size v n xs :=
  own_on h fun g cs _ _ hw => (hg.block g (lt_of_block hw) fun eg => by
    rcases h2.2 with ⟨h', _⟩ | ⟨g', cap', cur, h', _, hg', _⟩
    · rw [h'] at eg; simp [Value.ownBlock] at eg
    · rw [h'] at eg
      simp [Value.ownBlock] at eg
      subst eg
      rw [hw] at hg'
      simp at hg'
      rw [hg'.2] at hne
      simp at hne).trans hw

theorem ar_lay {N k n m : Nat} (h : N ≤ k * 16404) (hm : m ≤ 16404) (hk : k < n) (hn : n ≤ 1048576) : (N + m) * 1 ≤ 140737488355328 := by omega

/-- What the laying gives: all of them, or that one can't be laid. -/
def GivesL (w : World) (fs : List FI) (e : Ending) (w' : World) : Prop :=
  ((∀ x ∈ fs, x.ok) ∧ ∃ ab cb ae ce, e = .returned (.tuple #[.slice ab (layN (fs.map FI.fr)).length cb, .slice ae fs.length ce, .bool true]) ∧
    w'.ownsRow w.heap.size 5 1 (.slice ab (layN (fs.map FI.fr)).length cb) (layN (fs.map FI.fr)).length ((layN (fs.map FI.fr)).map B) ∧
    w'.ownsRow w.heap.size 3 1 (.slice ae fs.length ce) fs.length ((endsN (fs.map FI.fr)).map NV) ∧ Below w.heap.size w w') ∨
  (e = .returned (.tuple #[.slice none 0 0, .slice none 0 0, .bool false]) ∧ Below w.heap.size w w')

set_option maxRecDepth 8000 in
set_option maxHeartbeats 3200000 in
theorem plaid_any (a : Option Addr) (n c : Nat) (fs : List FI) (w : World) (hn : n ≤ 1048576) (r : FisRd a n c fs w) (hbs : ∀ x ∈ fs, x.body.length ≤ 1048576) (ht : Tab w) :
    Calls Tryd.prog 19 #[.slice a n c] w (GivesL w fs) := by
  have hl := r.len
  have m1 := r.1.2.2.1
  have m2 := r.1.2.1
  unfold maxLen at m1
  have HL := Lib.hid hl
  have hb0 := below_next (below_made w (.cells #[] 5)) (below_made (w.alloc (.cells #[] 5)) (.cells #[] 3))
  have ho0 := below_blk2 (below_made (w.alloc (.cells #[] 5)) (.cells #[] 3)) (World.alloc_heap_new w (.cells #[] 5))
  have ho1 := World.alloc_heap_new (w.alloc (.cells #[] 5)) (.cells #[] 3)
  rw [World.size_alloc] at ho1
  clear hl
  go_enter Tryd.func19, Tryd.ntmps19
  go_wp2_with fail
  go_loopw [5, 6, 14] (fun mv ev iv wr => ∃ (k N : Nat) (L : List UInt8) (Es : List Nat) (av ae : Option Addr) (cap ce : Nat), mv = .slice av N cap ∧ ev = .slice ae k ce ∧ iv = .int .i64 (k : Int) ∧ k ≤ n ∧ N ≤ k * 16404 ∧
    Hid (L.length = N ∧ layN ((fs.take k).map FI.fr) = L ∧ endsN ((fs.take k).map FI.fr) = Es ∧ ∀ x ∈ fs.take k, x.ok) ∧
    wr.ownsRow w.heap.size 5 1 (.slice av N cap) N (L.map B) ∧ wr.ownsRow w.heap.size 3 1 (.slice ae k ce) k (Es.map NV) ∧ Below w.heap.size w wr) (fun _ _ iv _ => n - (intOf iv).toNat)
  case atStart => exact ⟨0, 0, [], [], _, _, _, _, rfl, rfl, rfl, Nat.zero_le _, Nat.zero_le _, Lib.hid ⟨rfl, rfl, rfl, fun x hx => by simp at hx⟩, ⟨rfl, .inr ⟨w.heap.size, 0, #[], rfl, Nat.le_refl _, ho0, Nat.le_refl _, by decide, rfl, rfl⟩⟩, ⟨rfl, .inr ⟨w.heap.size + 1, 0, #[], rfl, Nat.le_succ _, ho1, Nat.le_refl _, by decide, rfl, rfl⟩⟩, hb0⟩
  case round =>
    obtain ⟨k, N, L, Es, av, ae, cap, ce, rfl, rfl, rfl, hk, hN, HK, hrow, hends, hb⟩ := hrel
    clear hb0 ho0 ho1
    by_cases hlt : k < n
    · obtain ⟨b, off, x, rfl, hx, c0, c1, c2, rx⟩ := (r.below hb).at k hlt
      have HX := Lib.hid hx
      have hxb := hbs x (List.mem_of_getElem? hx)
      have hcp := fun wx rx => copy_any x.a x.body.length x.c x.body wx (by omega) rx
      have hen := fun (av : Option Addr) (cv : Nat) wx rx tx => fenc_any x.kind x.seq av x.body.length cv x.body wx rx tx
      have tb := ht.below hb
      by_cases hok : (encF x.kind x.seq x.body).2 = 0
      · obtain ⟨hxo, hxe⟩ := FI.enc hok
        rw [hxe] at hen
        unfold GivesE at hen
        simp only at hen
        rw [show (((0 : Nat) : Int)) = 0 from rfl] at hen
        have hs := fr_take HX.out
        have HN : Hid (layN ((fs.take (k + 1)).map FI.fr) = L ++ x.fr.bytes ∧ endsN ((fs.take (k + 1)).map FI.fr) = Es ++ [N + x.fr.bytes.length] ∧ ∀ y ∈ fs.take (k + 1), y.ok) := Lib.hid (by
          obtain ⟨h1, h2, h3, h4⟩ := HK.out
          refine ⟨by rw [hs, layN_snoc, h2], by rw [hs, endsN_snoc, h3, h2, h1], fun y hy => ?_⟩
          rw [List.take_add_one, HX.out] at hy
          simp at hy
          rcases hy with hy | rfl
          · exact h4 y hy
          · exact hxo)
        have hbl : x.fr.bytes.length ≤ 16404 := by rw [x.fr.bytes_len]; have := hxo.1.2.2.1; omega
        have HLN := HK.out.1
        obtain ⟨M, hM⟩ : ∃ M, x.fr.bytes = M := ⟨_, rfl⟩
        obtain ⟨mm, hmm⟩ : ∃ mm, M.length = mm := ⟨_, rfl⟩
        rw [hM] at hen HN hbl
        rw [hmm] at hen HN hbl
        have HCP := Lib.hid hcp
        have HEN := Lib.hid hen
        have hby : (N + mm) * 1 ≤ 140737488355328 := ar_lay hN hbl hlt hn
        have hby2 : (k + 1) * 8 ≤ 140737488355328 := by omega
        clear hcp hen hs hx hM hok hxo hxe
        go_wp2_with fail
        go_region_held3 (fun w' => w'.cell? ⟨b, off + k * 3, none⟩ = some (.int .i64 x.kind) ∧ w'.cell? ⟨b, off + k * 3 + 1, none⟩ = some (.int .i64 x.seq) ∧ w'.cell? ⟨b, off + k * 3 + 2, none⟩ = some (.slice x.a x.body.length x.c))
          (first
            | (exact ⟨c0, c1, c2⟩)
            | (exact ⟨below_cell hb5 c0, below_cell hb5 c1, below_cell hb5 c2⟩)
            | exact ⟨below_cell hb6 (below_cell hb5 c0), below_cell hb6 (below_cell hb5 c1), below_cell hb6 (below_cell hb5 c2)⟩)
          (first
            | (go_at_call 10; refine (HCP.out _ (by exact rx)).mono ?_; rintro e w5 ⟨a5, c5, rfl, ho5, hb5⟩)
            | (go_at_call 26; refine (HEN.out _ _ _ (own_rowAt ho5) (by exact ht.below (below_next hb.drew hb5))).mono ?_; rintro e w6 ⟨a6, c6, rfl, ho6, hb6⟩))
        have hb56 : Below wr.heap.size wr w6 := below_undrew (below_next hb5 hb6)
        have hrow6 := own_below hrow hb56
        have hends6 := own_below hends hb56
        have hsrc := own_rowAt ho6
        have hbw6 : Below w.heap.size w w6 := hb.trans (hb56.mono hb.size)
        clear c0 c1 c2 rx HCP HEN ho5 ho6 hb5 hb6 hb56 hrow hends tb r hxb
        go_wp2_with (first
          | (at_builtin; refine wpList_app rfl _ _ 22 rfl slB rfl hrow6 rfl hsrc (B_one _) hby hbw6.size fun a7 c7 w7 hown7 hg7 => ?_; have hends7 := own_else hends6 hrow6 rfl hg7; have hbw7 := hbw6.grown hg7 hbw6.size (own_block hrow6))
          | (at_builtin; refine wpList_app1 rfl _ _ 47 rfl slI rfl hends7 rfl rfl (one1 _ _) hby2 hbw7.size fun a8 c8 w8 hown8 hg8 => ?_))
        go_roundw
        case rel => exact ⟨k + 1, N + mm, L ++ M, Es ++ [N + mm], a7, a8, c7, c8, rfl, rfl, by go_num, by omega, by omega, Lib.hid ⟨by rw [List.length_append, HLN, hmm], HN.out⟩, by rw [List.map_append]; exact own_else hown7 hends7 rfl hg8, by rw [List.map_append]; exact hown8, hbw7.grown hg8 hbw7.size (own_block hends7)⟩
        case measure => simp [intOf]; omega
      · have hne : (((encF x.kind x.seq x.body).2 : Int) != 0) = true := by rw [bne_iff_ne]; omega
        obtain ⟨y, hy⟩ : ∃ y, encF x.kind x.seq x.body = y := ⟨_, rfl⟩
        rw [hy] at hen hne
        obtain ⟨M, er⟩ := y
        unfold GivesE at hen
        simp only at hen hne
        obtain ⟨mm, hmm⟩ : ∃ mm, M.length = mm := ⟨_, rfl⟩
        rw [hmm] at hen
        have HCP := Lib.hid hcp
        have HEN := Lib.hid hen
        clear hcp hen hok hy hmm
        go_wp2_with fail
        go_region_held3 (fun w' => w'.cell? ⟨b, off + k * 3, none⟩ = some (.int .i64 x.kind) ∧ w'.cell? ⟨b, off + k * 3 + 1, none⟩ = some (.int .i64 x.seq) ∧ w'.cell? ⟨b, off + k * 3 + 2, none⟩ = some (.slice x.a x.body.length x.c))
          (first
            | exact ⟨c0, c1, c2⟩
            | exact ⟨below_cell hb5 c0, below_cell hb5 c1, below_cell hb5 c2⟩
            | exact ⟨below_cell hb6 (below_cell hb5 c0), below_cell hb6 (below_cell hb5 c1), below_cell hb6 (below_cell hb5 c2)⟩)
          (first
            | (go_at_call 10; refine (HCP.out _ (by exact rx)).mono ?_; rintro e w5 ⟨a5, c5, rfl, ho5, hb5⟩)
            | (go_at_call 26; refine (HEN.out _ _ _ (own_rowAt ho5) (by exact ht.below (below_next hb.drew hb5))).mono ?_; rintro e w6 ⟨a6, c6, rfl, ho6, hb6⟩))
        have hb56 : Below wr.heap.size wr w6 := below_undrew (below_next hb5 hb6)
        have hbw6 : Below w.heap.size w w6 := hb.trans (hb56.mono hb.size)
        clear c0 c1 c2 rx HCP HEN ho5 ho6 hb5 hb6 hb56 hrow hends tb r hxb
        go_wp2_with fail
        refine bodyPost_ret (results_tmp3 rfl _ _ _) rfl ?_
        exact .inr ⟨rfl, hbw6⟩
    · obtain rfl : k = n := by omega
      have h := HK.out
      rw [List.take_of_length_le (by rw [HL.out]; exact Nat.le_refl _)] at h
      obtain ⟨h1, h2, h3, h4⟩ := h
      go_wp2_with fail
      refine bodyPost_ret (results_tmp3 rfl _ _ _) rfl ?_
      refine .inl ⟨h4, av, cap, ae, ce, ?_, ?_, ?_, hb⟩
      · rw [h2, h1, HL.out]; rfl
      · rw [h2, h1]; exact hrow
      · rw [h3, HL.out]; exact hends
end Go.Proofs.YtkaaabnahpmobaaDoor
