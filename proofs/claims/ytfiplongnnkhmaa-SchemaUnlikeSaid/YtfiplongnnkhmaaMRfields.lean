/-
  The walk of the reference's Fields, for a right event of a version. Condition: that it is one.
-/
import Derived.Test.YtfiplongnnkhmaaMSchrec
import Derived.Test.YtfiplongnnkhmaaMTb
import Derived.Test.YtfiplongnnkhmaaMSty
import Derived.Test.YtfiplongnnkhmaaMVzig
namespace Go.Proofs.Ytfiplongnnkhmaa
open Go.RowKit
set_option linter.unusedVariables false

/-- The field of a tag; none where it is empty. -/
def fieldAt (v : Int) (e : Ev) (t : Nat) : List FD :=
  if t = 8 then txtF 8 e.who.data.toList else if t = 10 then txtF 10 e.note.data.toList
  else if t = 4 ∧ v < 3 then numF 4 (zigN e.qty).toNat else numF t (numAt e t).toNat
def fieldsUpto (v : Int) (e : Ev) : Nat → List FD
  | 0 => []
  | k + 1 => fieldsUpto v e k ++ fieldAt v e (k + 1)
theorem fields_upto (v : Int) (e : Ev) (h1 : 1 ≤ v) (h5 : v ≤ 5) : fieldsUpto v e (hasV v).toNat = fieldsE v e := by
  have hc : v = 1 ∨ v = 2 ∨ v = 3 ∨ v = 4 ∨ v = 5 := by omega
  rcases hc with rfl | rfl | rfl | rfl | rfl
  · show fieldsUpto 1 e 5 = f1F e.kind e.order e.item e.qty e.price
    simp [fieldsUpto, fieldAt, f1F, hdF, numAt]
  · show fieldsUpto 2 e 6 = f2F e.kind e.order e.item e.qty e.price e.cur
    simp [fieldsUpto, fieldAt, f2F, f1F, hdF, numAt]
  · show fieldsUpto 3 e 7 = f3F e.kind e.order e.item e.qty e.price e.cur e.tax
    simp [fieldsUpto, fieldAt, f3F, hdF, numAt]
  · show fieldsUpto 4 e 8 = f4F e.kind e.order e.item e.qty e.price e.cur e.tax e.who
    simp [fieldsUpto, fieldAt, f4F, f3F, hdF, numAt]
  · show fieldsUpto 5 e 10 = f5F e.kind e.order e.item e.qty e.price e.cur e.tax e.who e.stamp e.note
    simp [fieldsUpto, fieldAt, f5F, f4F, f3F, hdF, numAt]
theorem upto_len (v : Int) (e : Ev) : ∀ k, (fieldsUpto v e k).length ≤ k
  | 0 => Nat.le_refl _
  | k + 1 => by
    have := upto_len v e k
    have h2 : (fieldAt v e (k + 1)).length ≤ 1 := by
      unfold fieldAt numF txtF
      repeat' split
      all_goals simp
    show (fieldsUpto v e k ++ fieldAt v e (k + 1)).length ≤ k + 1
    rw [List.length_append]; omega

/-- A row of fields of one's own. -/
structure FsIn (w0 w : World) (ds : List FD) (a : Option Addr) (n cap : Nat) (ms : List Fld) : Prop where
  own : w.ownsRow w0.heap.size 68 4 (.slice a n cap) n (ms.flatMap Fld.cells)
  flds : FldsAre w ms ds
  tags : ∀ f ∈ ms, BytesTag w f
  bel : Below w0.heap.size w0 w
structure FKeep (w w' : World) : Prop where
  size : w.heap.size ≤ w'.heap.size
  keep : ∀ (b : Nat) (cs : Array Value) (t : TypeId) (fr : Nat × Nat), w.heap[b]? = some (.cells cs t fr) → t ≠ 68 → w'.heap[b]? = some (.cells cs t fr)
theorem FKeep.trans {a b c : World} (h : FKeep a b) (k : FKeep b c) : FKeep a c := ⟨Nat.le_trans h.size k.size, fun x cs t fr hx ht => k.keep x cs t fr (h.keep x cs t fr hx ht) ht⟩
theorem FKeep.below {w w' : World} (h : Below w.heap.size w w') : FKeep w w' := ⟨h.size, fun b cs t fr hb _ => below_blk' h hb⟩
theorem FKeep.refl (w : World) : FKeep w w := ⟨Nat.le_refl _, fun _ _ _ _ h _ => h⟩
theorem FsIn.below {w0 w w' : World} {ds : List FD} {a : Option Addr} {n cap : Nat} {ms : List Fld} (h : FsIn w0 w ds a n cap ms) (hb : Below w.heap.size w w') : FsIn w0 w' ds a n cap ms :=
  ⟨own_below h.own hb, h.flds.below hb, fun f hf => (h.tags f hf).below hb, h.bel.trans (hb.mono h.bel.size)⟩
theorem FsIn.len {w0 w : World} {ds : List FD} {a : Option Addr} {n cap : Nat} {ms : List Fld} (h : FsIn w0 w ds a n cap ms) : ms.length = n ∧ ds.length = n := by
  have h1 := h.own.1
  rw [F_len] at h1
  have h2 : ms.length = n := by omega
  exact ⟨h2, by rw [← h.flds.len]; exact h2⟩
theorem FsIn.app {w0 w w' : World} {ds : List FD} {a a' : Option Addr} {n cap cap' : Nat} {ms : List Fld} {f : Fld} {d : FD} (h : FsIn w0 w ds a n cap ms) (hf : FldIs w f d) (hb : BytesTag w f)
    (ho : w'.ownsRow w0.heap.size 68 4 (.slice a' (n + 1) cap') (n + 1) (ms.flatMap Fld.cells ++ f.cells)) (hg : w.grownBy w' (Value.slice a n cap).ownBlock) : FsIn w0 w' (ds ++ [d]) a' (n + 1) cap' (ms ++ [f]) ∧ FKeep w w' := by
  have hr : ∀ k, (Value.slice a n cap).ownBlock = some k → Tag w k 68 := fun k e => own_tag h.own e
  refine ⟨⟨by rw [List.flatMap_append]; simpa using ho, FldsAre.snoc (hf.grown hb hg (by decide) hr) (h.flds.grown hg (by decide) hr h.tags), fun g hg2 => ?_, h.bel.grown hg h.bel.size (fun k e => (h.own.lt k e.symm.symm).1)⟩, ⟨hg.size, fun b cs t fr hx ht => (hg.block b (lt_of_block hx) (fun e => (hr b e.symm).ne ⟨cs, fr, hx⟩ (fun e2 => ht e2.symm) rfl)).trans hx⟩⟩
  rcases List.mem_append.1 hg2 with h2 | h2
  · exact (h.tags g h2).grown hg (by decide) hr
  · simp at h2; subst h2; exact hb.grown hg (by decide) hr
theorem F_one1 (f : Fld) : ∀ u ∈ f.cells, u.oneCell' = true := by simp [Fld.cells, Value.oneCell']

theorem num_in {v : Int} {e : Ev} (h : Bd e) (hq : 3 ≤ v → 0 ≤ e.qty) (t : Nat) (h4 : ¬ (t = 4 ∧ v < 3)) : 0 ≤ numAt e t ∧ numAt e t < 9223372036854775808 := by
  obtain ⟨k0, k1, o0, o1, i0, i1, q0, q1, p0, p1, c0, c1, t0, t1, u, s0, s1, n⟩ := h
  unfold numAt
  split <;> first | exact ⟨k0, k1⟩ | exact ⟨o0, o1⟩ | exact ⟨i0, i1⟩ | exact ⟨p0, p1⟩ | exact ⟨c0, c1⟩ | exact ⟨t0, t1⟩ | exact ⟨s0, s1⟩ | exact ⟨hq (by omega), q1⟩ | decide

theorem fields_more (v : Int) (e : Ev) {T : Nat} (hT : 1 ≤ T) : fieldsUpto v e (T + 1 - 1) = fieldsUpto v e (T - 1) ++ fieldAt v e T := by
  obtain ⟨j, rfl⟩ : ∃ j, T = j + 1 := ⟨T - 1, by omega⟩
  rfl
/-- A number's field, a text's. -/
theorem num_fld (w : World) (t : Nat) (x : Int) (hx : 0 ≤ x) : FldIs w ⟨(t : Int), false, x, none, 0, 0⟩ ⟨t, false, x.toNat, []⟩ ∧ BytesTag w ⟨(t : Int), false, x, none, 0, 0⟩ :=
  ⟨⟨rfl, rfl, by show x = (x.toNat : Int); omega, RowAt.nil w 1⟩, fun b o h => by cases h⟩
theorem txt_fld (w : World) (t : Nat) (u : ByteArray) (hu : u.size ≤ 200) : FldIs (Lib.bytesWorld w 5 u) ⟨(t : Int), true, 0, some ⟨w.heap.size, 0, none⟩, u.size, grownCap w u.size 0 5⟩ ⟨t, true, 0, u.data.toList⟩ ∧ BytesTag (Lib.bytesWorld w 5 u) ⟨(t : Int), true, 0, some ⟨w.heap.size, 0, none⟩, u.size, grownCap w u.size 0 5⟩ :=
  ⟨⟨rfl, rfl, rfl, str_row w u (by unfold maxLen; omega)⟩, fun b o h => by cases h; exact str_tag w u⟩
theorem bytes_data {u : ByteArray} (h : u.size ≠ 0) : u.data.toList ≠ [] := by
  intro h2; apply h
  show u.data.size = 0
  rw [← Array.length_toList, h2]; rfl

set_option maxRecDepth 20000 in
set_option maxHeartbeats 6400000 in
theorem rfields_any (v : Int) (e : Ev) (w : World) (hR : Right v e) : Calls Try.prog 29 #[.int .i64 v, e.val] w fun x w' => ∃ a n c ms, x = .returned (.slice a n c) ∧ FsIn w w' (fieldsE v e) a n c ms := by
  have hv1 := hR.v1
  have hv5 := hR.v5
  have hbd := bd_of hR
  obtain ⟨k, o, i, q, p, cu, tx, u, st, nt⟩ := e
  have HFE := Lib.hid (fields_upto v ⟨k, o, i, q, p, cu, tx, u, st, nt⟩ hv1 hv5)
  have HHV : Hid (hasV v ≤ 10 ∧ 5 ≤ hasV v) := Lib.hid (by unfold hasV; split <;> (try split) <;> (try split) <;> (try split) <;> decide)
  obtain ⟨hus, hns⟩ : u.size ≤ 200 ∧ nt.size ≤ 200 := ⟨hbd.u, hbd.n⟩
  have HNI := Lib.hid (fun t h4 => num_in hbd hR.q3 t h4)
  have HQ : Hid (-9223372036854775808 ≤ q ∧ q ≤ 9223372036854775807) := Lib.hid (by have := hbd.q0; have := hbd.q1; dsimp only at *; omega)
  have HH := Lib.hid (fun wx => rhas_any v wx hv1 hv5)
  have hnn := fun wx => rnums_any ⟨k, o, i, q, p, cu, tx, u, st, nt⟩ wx
  unfold Ev.val Ev.cells at hnn ⊢
  dsimp only at hnn ⊢
  have HN := Lib.hid hnn
  have hbe := below_made w (.cells #[.int .i64 k, .int .i64 o, .int .i64 i, .int .i64 q, .int .i64 p, .int .i64 cu, .int .i64 tx, .string u, .int .i64 st, .string nt] 24)
  have hE := heap_alloc_new w (.cells #[.int .i64 k, .int .i64 o, .int .i64 i, .int .i64 q, .int .i64 p, .int .i64 cu, .int .i64 tx, .string u, .int .i64 st, .string nt] 24)
  clear hnn hbd hR hv1 hv5
  go_enter Try.func29, Try.ntmps29
  go_wp2_with fail
  (with_reducible refine (HN.out _).mono ?_)
  rintro x w1 ⟨b, rfl, hbge, hNb, hb1⟩
  have hE1 := below_blk' hb1 hE
  have hab1 := below_next hbe hb1
  have hs1 := hab1.size
  clear hbe hE hb1 hbge
  have ho1 := own_lit w1 [] 0 4 68 rfl (by decide)
  have hbm := below_made w1 (.cells #[] 68)
  obtain ⟨ws, hws⟩ : ∃ ws, w1.alloc (.cells #[] 68) = ws := ⟨_, rfl⟩
  have ho2 : ws.ownsRow w.heap.size 68 4 (.slice (some ⟨w1.heap.size, 0, none⟩) 0 0) 0 [] := by rw [← hws]; exact own_mono ho1 hs1
  rw [hws] at hbm
  have hE2 := below_blk' hbm hE1
  have hN2 := below_blk' hbm hNb
  have hF2 : FsIn w ws [] (some ⟨w1.heap.size, 0, none⟩) 0 0 [] := ⟨ho2, trivial, fun f hf => absurd hf (by simp), below_next hab1 hbm⟩
  clear hE1 hNb ho1 ho2 hbm hab1
  go_wp2_with fail
  clear hws
  go_loopw [6, 7] (fun fv tv wr => ∃ (T : Nat) (a : Option Addr) (n c : Nat) (ms : List Fld), tv = .int .i64 (T : Int) ∧ 1 ≤ T ∧ (T : Int) ≤ hasV v + 1 ∧ fv = .slice a n c ∧ FsIn w wr (fieldsUpto v ⟨k, o, i, q, p, cu, tx, u, st, nt⟩ (T - 1)) a n c ms ∧ FKeep ws wr) (fun _ tv _ => 12 - (intOf tv).toNat)
  case atStart => exact ⟨1, _, 0, 0, [], rfl, Nat.le_refl _, by have := HHV.out; omega, rfl, hF2, FKeep.refl _⟩
  case round =>
    clear hF2
    obtain ⟨T, a, n, c, ms, rfl, hT1, hT, rfl, hF, hk⟩ := hrel
    have hT11 : T ≤ 11 := by have := HHV.out; omega
    by_cases hlt : (T : Int) ≤ hasV v
    · have hT10 : T ≤ 10 := by have := HHV.out; omega
      have HLE : Hid (T + 1 ≤ hasV v + 1) := Lib.hid (by omega)
      have hMORE := fields_more v ⟨k, o, i, q, p, cu, tx, u, st, nt⟩ hT1
      have hlen : n ≤ 10 := by have h1 := hF.len; have h2 := upto_len v ⟨k, o, i, q, p, cu, tx, u, st, nt⟩ (T - 1); omega
      obtain ⟨y, hy⟩ : ∃ y : Int, y = numAt ⟨k, o, i, q, p, cu, tx, u, st, nt⟩ T := ⟨_, rfl⟩
      have cN := arr11_at (numAt ⟨k, o, i, q, p, cu, tx, u, st, nt⟩) T (by omega)
      rw [← hy] at cN
      have HY := Lib.hid hy
      clear hy
      have hE := hk.keep _ _ 24 _ hE2 (by decide)
      have hN := cell_blk (hk.keep _ _ 3 _ hN2 (by decide)) cN
      clear cN hT
      go_wp2_with fail
      (with_reducible refine (HH.out _).mono ?_)
      rintro x w2 ⟨rfl, hb2⟩
      have hE := below_blk' hb2 hE
      have hN := below_cell hb2 hN
      have hF := hF.below hb2
      have hk := hk.trans (FKeep.below hb2)
      have hsz := hF.bel.size
      clear hb2
      by_cases h8 : T = 8
      · subst h8
        have g7 : w2.cell? ⟨w.heap.size, 7, none⟩ = some (.string u) := cell_blk hE rfl
        by_cases hu0 : u.size = 0
        · obtain rfl := bytes_nil hu0
          have HM : Hid (fieldsUpto v ⟨k, o, i, q, p, cu, tx, ⟨#[]⟩, st, nt⟩ (8 + 1 - 1) = fieldsUpto v ⟨k, o, i, q, p, cu, tx, ⟨#[]⟩, st, nt⟩ (8 - 1)) := Lib.hid (by rw [hMORE]; simp [fieldAt, txtF])
          clear hMORE hE hN hu0
          go_wp2_with fail
          go_roundw
          case rel => exact ⟨9, a, n, c, ms, rfl, by decide, by have := HLE.out; omega, rfl, by rw [← HM.out] at hF; exact hF, hk⟩
          case measure => first | (simp [intOf]; omega) | simp [intOf]
        · obtain ⟨x1, x2, x3, x4⟩ := bytes_ne hu0
          have hcv := str_conv u
          obtain ⟨hfl, hbt⟩ := txt_fld w2 8 u hus
          have HM : Hid (fieldsUpto v ⟨k, o, i, q, p, cu, tx, u, st, nt⟩ (8 + 1 - 1) = fieldsUpto v ⟨k, o, i, q, p, cu, tx, u, st, nt⟩ (8 - 1) ++ [⟨8, true, 0, u.data.toList⟩]) := Lib.hid (by rw [hMORE]; simp [fieldAt, txtF, bytes_data hu0])
          have hF3 := hF.below (str_below w2 u)
          have hk3 := hk.trans (FKeep.below (str_below w2 u))
          have ho3 := hF3.own
          have hs3 := (str_below w2 u).size
          clear hMORE hE hN hu0
          go_wp2_with (at_builtin; refine wpList_app1 rfl _ _ 58 rfl slF rfl ho3 rfl rfl (F_one1 ⟨8, true, 0, some ⟨w2.heap.size, 0, none⟩, u.size, grownCap w2 u.size 0 5⟩) (by omega) (by omega) fun a3 cap3 w3 ho hg => ?_)
          go_roundw
          case rel =>
            obtain ⟨hA, hB⟩ := hF3.app hfl hbt ho hg
            rw [← HM.out] at hA
            exact ⟨9, a3, n + 1, cap3, _, rfl, by decide, by have := HLE.out; omega, rfl, hA, hk3.trans hB⟩
          case measure => first | (simp [intOf]; omega) | simp [intOf]
      · by_cases h10 : T = 10
        · subst h10
          have g7 : w2.cell? ⟨w.heap.size, 7, none⟩ = some (.string u) := cell_blk hE rfl
          have g9 : w2.cell? ⟨w.heap.size, 9, none⟩ = some (.string nt) := cell_blk hE rfl
          by_cases hu0 : nt.size = 0
          · obtain rfl := bytes_nil hu0
            have HM : Hid (fieldsUpto v ⟨k, o, i, q, p, cu, tx, u, st, ⟨#[]⟩⟩ (10 + 1 - 1) = fieldsUpto v ⟨k, o, i, q, p, cu, tx, u, st, ⟨#[]⟩⟩ (10 - 1)) := Lib.hid (by rw [hMORE]; simp [fieldAt, txtF])
            clear hMORE hE hN hu0 h8
            go_wp2_with fail
            go_roundw
            case rel => exact ⟨11, a, n, c, ms, rfl, by decide, by have := HLE.out; omega, rfl, by rw [← HM.out] at hF; exact hF, hk⟩
            case measure => first | (simp [intOf]; omega) | simp [intOf]
          · obtain ⟨x1, x2, x3, x4⟩ := bytes_ne hu0
            have hcv := str_conv nt
            obtain ⟨hfl, hbt⟩ := txt_fld w2 10 nt hns
            have HM : Hid (fieldsUpto v ⟨k, o, i, q, p, cu, tx, u, st, nt⟩ (10 + 1 - 1) = fieldsUpto v ⟨k, o, i, q, p, cu, tx, u, st, nt⟩ (10 - 1) ++ [⟨10, true, 0, nt.data.toList⟩]) := Lib.hid (by rw [hMORE]; simp [fieldAt, txtF, bytes_data hu0])
            have hF3 := hF.below (str_below w2 nt)
            have hk3 := hk.trans (FKeep.below (str_below w2 nt))
            have ho3 := hF3.own
            have hs3 := (str_below w2 nt).size
            clear hMORE hE hN hu0 h8
            go_wp2_with (at_builtin; refine wpList_app1 rfl _ _ 58 rfl slF rfl ho3 rfl rfl (F_one1 ⟨10, true, 0, some ⟨w2.heap.size, 0, none⟩, nt.size, grownCap w2 nt.size 0 5⟩) (by omega) (by omega) fun a3 cap3 w3 ho hg => ?_)
            go_roundw
            case rel =>
              obtain ⟨hA, hB⟩ := hF3.app hfl hbt ho hg
              rw [← HM.out] at hA
              exact ⟨11, a3, n + 1, cap3, _, rfl, by decide, by have := HLE.out; omega, rfl, hA, hk3.trans hB⟩
            case measure => first | (simp [intOf]; omega) | simp [intOf]
        · have k8 : ((T : Int) == 8) = false := by rw [beq_eq_false_iff_ne]; omega
          have k10 : ((T : Int) == 10) = false := by rw [beq_eq_false_iff_ne]; omega
          by_cases h4 : T = 4 ∧ v < 3
          · obtain ⟨h4, hv3⟩ := h4
            subst h4
            have hyq : y = q := HY.out
            have HZ := Lib.hid (fun wx => rzig_any q wx HQ.out.1 HQ.out.2)
            subst hyq
            have hzl : 0 ≤ zigN y ∧ zigN y < 18446744073709551616 := by have := HQ.out; unfold zigN; split <;> omega
            clear hE h8 h10
            by_cases hz : zigN y = 0
            · have HM : Hid (fieldsUpto v ⟨k, o, i, y, p, cu, tx, u, st, nt⟩ (4 + 1 - 1) = fieldsUpto v ⟨k, o, i, y, p, cu, tx, u, st, nt⟩ (4 - 1)) := Lib.hid (by rw [hMORE]; simp [fieldAt, numF, hz, hv3])
              clear hMORE
              go_wp2_with fail
              (with_reducible refine (HZ.out _).mono ?_)
              rintro x w3 ⟨rfl, rfl⟩
              rw [hz]
              go_wp2_with fail
              go_roundw
              case rel => exact ⟨5, a, n, c, ms, rfl, by decide, by have := HLE.out; omega, rfl, by rw [← HM.out] at hF; exact hF, hk⟩
              case measure => first | (simp [intOf]; omega) | simp [intOf]
            · obtain ⟨hz0, hz1⟩ := hzl
              obtain ⟨hfl, hbt⟩ := num_fld w2 4 (zigN y) hz0
              have hzn : (zigN y).toNat ≠ 0 := by omega
              have HM : Hid (fieldsUpto v ⟨k, o, i, y, p, cu, tx, u, st, nt⟩ (4 + 1 - 1) = fieldsUpto v ⟨k, o, i, y, p, cu, tx, u, st, nt⟩ (4 - 1) ++ [⟨4, false, (zigN y).toNat, []⟩]) := Lib.hid (by rw [hMORE]; simp [fieldAt, numF, hzn, hv3])
              have ho3 := hF.own
              clear hMORE hzn
              obtain ⟨z, hzz⟩ : ∃ z, zigN y = z := ⟨_, rfl⟩
              rw [hzz] at hz hz0 hz1 hfl hbt HM
              have HZZ := Lib.hid hzz
              clear hzz
              have hz' : (z != 0) = true := by rw [bne_iff_ne]; exact hz
              go_wp2_with fail
              (with_reducible refine (HZ.out _).mono ?_)
              rintro x w3 ⟨rfl, rfl⟩
              rw [HZZ.out]
              go_wp2_with (at_builtin; refine wpList_app1 rfl _ _ 58 rfl slF rfl ho3 rfl rfl (F_one1 ⟨4, false, z, none, 0, 0⟩) (by omega) (by omega) fun a3 cap3 w3 ho hg => ?_)
              go_roundw
              case rel =>
                obtain ⟨hA, hB⟩ := hF.app hfl hbt ho hg
                rw [← HM.out] at hA
                exact ⟨5, a3, n + 1, cap3, _, rfl, by decide, by have := HLE.out; omega, rfl, hA, hk.trans hB⟩
              case measure => first | (simp [intOf]; omega) | simp [intOf]
          · have hy2 := HNI.out T h4
            rw [← HY.out] at hy2
            obtain ⟨hy0, hy1⟩ := hy2
            have wy : IntKind.u64.wrap y = y := by rw [wrap_u64]; omega
            by_cases hz : y = 0
            · have HM : Hid (fieldsUpto v ⟨k, o, i, q, p, cu, tx, u, st, nt⟩ (T + 1 - 1) = fieldsUpto v ⟨k, o, i, q, p, cu, tx, u, st, nt⟩ (T - 1)) := Lib.hid (by rw [hMORE]; simp [fieldAt, numF, h8, h10, h4, ← HY.out, hz])
              have hz' : (y != 0) = false := by rw [hz]; rfl
              clear hMORE hz
              by_cases h44 : T = 4
              · have hv3 : ¬ v < 3 := fun h => h4 ⟨h44, h⟩
                have k4 : ((T : Int) == 4) = true := by rw [beq_iff_eq]; omega
                clear h8 h10 h4 h44 hE
                go_wp2_with fail
                go_roundw
                case rel => exact ⟨T + 1, a, n, c, ms, by go_num, by omega, by have := HLE.out; omega, rfl, by rw [← HM.out] at hF; exact hF, hk⟩
                case measure => first | (simp [intOf]; omega) | simp [intOf]
              · have k4 : ((T : Int) == 4) = false := by rw [beq_eq_false_iff_ne]; omega
                clear h8 h10 h4 h44 hE
                go_wp2_with fail
                go_roundw
                case rel => exact ⟨T + 1, a, n, c, ms, by go_num, by omega, by have := HLE.out; omega, rfl, by rw [← HM.out] at hF; exact hF, hk⟩
                case measure => first | (simp [intOf]; omega) | simp [intOf]
            · obtain ⟨hfl, hbt⟩ := num_fld w2 T y hy0
              have hzn : (numAt ⟨k, o, i, q, p, cu, tx, u, st, nt⟩ T).toNat ≠ 0 := by have := HY.out; omega
              have HM : Hid (fieldsUpto v ⟨k, o, i, q, p, cu, tx, u, st, nt⟩ (T + 1 - 1) = fieldsUpto v ⟨k, o, i, q, p, cu, tx, u, st, nt⟩ (T - 1) ++ [⟨T, false, y.toNat, []⟩]) := Lib.hid (by rw [hMORE, HY.out]; simp [fieldAt, numF, hzn, h8, h10, h4])
              have hz' : (y != 0) = true := by rw [bne_iff_ne]; exact hz
              have ho3 := hF.own
              clear hMORE hzn hz
              by_cases h44 : T = 4
              · have hv3 : ¬ v < 3 := fun h => h4 ⟨h44, h⟩
                have k4 : ((T : Int) == 4) = true := by rw [beq_iff_eq]; omega
                clear h8 h10 h4 h44 hE
                go_wp2_with (at_builtin; refine wpList_app1 rfl _ _ 58 rfl slF rfl ho3 rfl rfl (F_one1 ⟨(T : Int), false, y, none, 0, 0⟩) (by omega) (by omega) fun a3 cap3 w3 ho hg => ?_)
                go_roundw
                case rel =>
                  obtain ⟨hA, hB⟩ := hF.app hfl hbt ho hg
                  rw [← HM.out] at hA
                  exact ⟨T + 1, a3, n + 1, cap3, _, by go_num, by omega, by have := HLE.out; omega, rfl, hA, hk.trans hB⟩
                case measure => first | (simp [intOf]; omega) | simp [intOf]
              · have k4 : ((T : Int) == 4) = false := by rw [beq_eq_false_iff_ne]; omega
                clear h8 h10 h4 h44 hE
                go_wp2_with (at_builtin; refine wpList_app1 rfl _ _ 58 rfl slF rfl ho3 rfl rfl (F_one1 ⟨(T : Int), false, y, none, 0, 0⟩) (by omega) (by omega) fun a3 cap3 w3 ho hg => ?_)
                go_roundw
                case rel =>
                  obtain ⟨hA, hB⟩ := hF.app hfl hbt ho hg
                  rw [← HM.out] at hA
                  exact ⟨T + 1, a3, n + 1, cap3, _, by go_num, by omega, by have := HLE.out; omega, rfl, hA, hk.trans hB⟩
                case measure => first | (simp [intOf]; omega) | simp [intOf]
    · have HEQ : Hid (fieldsUpto v ⟨k, o, i, q, p, cu, tx, u, st, nt⟩ (T - 1) = fieldsE v ⟨k, o, i, q, p, cu, tx, u, st, nt⟩) := Lib.hid (by rw [show T - 1 = (hasV v).toNat by omega]; exact HFE.out)
      clear hE2 hN2
      go_wp2_with fail
      (with_reducible refine (HH.out _).mono ?_)
      rintro x w2 ⟨rfl, hb2⟩
      have hF3 := hF.below hb2
      go_wp2_with fail
      go_ret
      rw [HEQ.out] at hF3
      exact ⟨a, n, c, ms, rfl, hF3⟩
end Go.Proofs.Ytfiplongnnkhmaa
