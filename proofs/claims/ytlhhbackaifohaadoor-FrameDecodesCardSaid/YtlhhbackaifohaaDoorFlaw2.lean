/-
  The walk of FrameDecodes. Conditions: the argument reads as bytes, within the form's own reach; the table of nibbles holds what the text lays.
-/
import Derived.Test.YtlhhbackaifohaaDoorFhead
import Derived.Test.YtlhhbackaifohaaDoorFrdec
namespace Go.Proofs.YtlhhbackaifohaaDoor
open Go.RowKit
set_option linter.unusedVariables false

theorem decF_body (l : List UInt8) : (decF l).1.body.length ≤ 16384 := by
  have h := peekF_bd l
  unfold decF
  split
  · simp [Fr.none]
  · split
    · simp [Fr.none]
    · split
      · simp [Fr.none]
      · simp only [List.length_drop, List.length_take]; omega

set_option maxRecDepth 20000 in
set_option maxHeartbeats 4000000 in
theorem fdecodes_walk (a : Option Addr) (n c : Nat) (l : List UInt8) (w : World) (r : RowAt w a n c 1 (l.map B)) (hs : n * 1 ≤ 140737488351232) (ht : Tab w) :
    Calls Tryd.prog 4 #[.slice a n c] w fun e w' => e = .returned (.bool true) ∧ Below w.heap.size w w' := by
  have hml : l.length = n := by simpa using r.len
  have HL := Lib.hid hml
  clear hml
  go_enter Tryd.func4, Tryd.ntmps4
  go_wp2_with fail
  (with_reducible refine (fhead_any _ ht).mono ?_)
  rintro e w1 ⟨rfl, hb1⟩
  have r1 := r.below hb1
  have t1 := ht.below hb1
  go_wp2_with fail
  (with_reducible refine (copy_any _ _ _ l _ (by omega) r1).mono ?_)
  rintro e w2 ⟨a2, c2, rfl, ho2, hb2⟩
  rw [HL.out] at ho2 ⊢
  have q2 := own_rowAt ho2
  have r2 := r1.below hb2
  have t2 := t1.below hb2
  have hb3 := below_next hb1 hb2
  clear ho2 hb1 hb2 r1 t1
  go_wp2_with fail
  go_loopw [4] (fun iv wr => ∃ k : Nat, iv = .int .i64 (k : Int) ∧ k ≤ n + 1 ∧ Below w2.heap.size w2 wr) (fun iv _ => n + 1 - (intOf iv).toNat)
  case atStart => exact ⟨0, rfl, by omega, Below.refl _ _⟩
  case round =>
    obtain ⟨k, rfl, hk, hb⟩ := hrel
    by_cases hgo : k ≤ n ∧ k < 200
    · obtain ⟨hkn, hk200⟩ := hgo
      have i1 : (k : Int) ≤ (n : Int) := by omega
      have i2 : (k : Int) < 200 := by omega
      obtain ⟨ab, hcutb, rb⟩ := cut_from slB r2 k hkn
      obtain ⟨am, hcutm, rm⟩ := cut_from slB q2 k hkn
      rw [Nat.mul_one, ← List.map_drop] at rb rm
      have rb1 := rb.below hb
      have rm1 := rm.below hb
      have t3 := t2.below hb
      obtain ⟨y, hy⟩ : ∃ y, peekF (l.drop k) = y := ⟨_, rfl⟩
      obtain ⟨K, S, Z, E⟩ := y
      have HP : Hid (peekV (l.drop k) = .tuple #[.int .i64 (K : Int), .int .i64 (S : Int), .int .i64 (Z : Int), .int .i64 (E : Int)]) := Lib.hid (by unfold peekV; rw [hy])
      obtain ⟨x, hx⟩ : ∃ x, decF (l.drop k) = x := ⟨_, rfl⟩
      obtain ⟨f, q, er⟩ := x
      have HX := Lib.hid hx
      clear hy hx
      go_wp2_with fail
      (with_reducible refine (rpeek_any _ _ _ (l.drop k) _ rb1).mono ?_)
      rintro e w3 ⟨rfl, hb4⟩
      rw [HP.out]
      have rb2 := rb1.below hb4
      have rm2 := rm1.below hb4
      have t4 := t3.below hb4
      have hb5 := below_next hb hb4
      clear hb4 rb1 rm1 t3
      go_wp2_with fail
      (with_reducible refine (peek_any _ _ _ (l.drop k) _ rm2 t4).mono ?_)
      rintro e w4 ⟨rfl, hb6⟩
      rw [HP.out]
      have rb3 := rb2.below hb6
      have rm3 := rm2.below hb6
      have t5 := t4.below hb6
      have hb7 := below_next hb5 hb6
      clear hb5 hb6 rb2 rm2 t4
      go_wp2_with fail
      (with_reducible refine (frdec_any _ _ _ (l.drop k) _ rb3).mono ?_)
      rintro e w5 ⟨a5, c5, rfl, ho5, hb8⟩
      rw [HX.out] at ho5 ⊢
      simp only at ho5 ⊢
      have hbm := below_made w5 (.cells #[.int .i64 (f.kind : Int), .int .i64 (f.seq : Int), .slice a5 f.body.length c5] 29)
      have h5 := heap_alloc_new w5 (.cells #[.int .i64 (f.kind : Int), .int .i64 (f.seq : Int), .slice a5 f.body.length c5] 29)
      have z5 : w5.heap.size < (w5.alloc (.cells #[.int .i64 (f.kind : Int), .int .i64 (f.seq : Int), .slice a5 f.body.length c5] 29)).heap.size := by simp
      have rm4 := (rm3.below hb8).below hbm
      have t6 := (t5.below hb8).below hbm
      have f6 := (own_rowAt ho5).below hbm
      have hb9 := below_next (below_next hb7 hb8) hbm
      clear hbm ho5 hb7 hb8 rb3 rm3 t5
      go_wp2_with fail
      (with_reducible refine (fdec_any _ _ _ (l.drop k) _ rm4 t6).mono ?_)
      rintro e w7 ⟨a7, c7, rfl, ho7, hb10⟩
      rw [HX.out] at ho7 ⊢
      simp only at ho7 ⊢
      have h7 := (hb10.block _ z5).trans h5
      have z7 : w5.heap.size < w7.heap.size := by have := hb10.size; omega
      have f7 := f6.below hb10
      have hb11 := below_next hb9 hb10
      have hs9 := hb9.size
      clear hb9 h5 f6 rm4 t6
      obtain ⟨G, hG⟩ : ∃ G, w7.heap.size = G := ⟨_, rfl⟩
      have hbm := below_made w7 (.cells #[.int .i64 (f.kind : Int), .int .i64 (f.seq : Int), .slice a7 f.body.length c7] 29)
      have hg := heap_alloc_new w7 (.cells #[.int .i64 (f.kind : Int), .int .i64 (f.seq : Int), .slice a7 f.body.length c7] 29)
      have zg : G < (w7.alloc (.cells #[.int .i64 (f.kind : Int), .int .i64 (f.seq : Int), .slice a7 f.body.length c7] 29)).heap.size := by rw [← hG]; simp
      have h8 := (hbm.block _ z7).trans h7
      have f8 := f7.below hbm
      have og8 := own_below ho7 hbm
      have hb12 := below_next hb11 hbm
      obtain ⟨x0, x1, x2, _, _, _⟩ := laid3 hg
      obtain ⟨y0, y1, y2, _, _, _⟩ := laid3 h8
      have hlo : ∀ j, (Value.slice a7 f.body.length c7).ownBlock = some j → w2.heap.size ≤ j ∧ j < G := fun j hj => by
        have := ho7.lt j hj; omega
      have hG2 : w2.heap.size ≤ G := by have := hb11.size; omega
      clear hbm ho7 h7 f7 hb11 h8
      go_wp2_with fail
      (with_reducible refine (fsame_any (f.kind : Int) (f.seq : Int) _ _ _ f.body (f.kind : Int) (f.seq : Int) _ _ _ f.body _ f8 (own_rowAt og8)).mono ?_)
      rintro e w9 ⟨rfl, hb13⟩
      rw [frEq_refl]
      rw [hG] at hg
      have zg9 : G < w9.heap.size := by have := hb13.size; omega
      have hg9 := (hb13.block _ zg).trans hg
      have og9 := own_below og8 hb13
      have hb14 := below_next hb12 hb13
      have hbl : f.body.length ≤ 16384 := by have := decF_body (l.drop k); rw [HX.out] at this; exact this
      have HLO := Lib.hid hlo
      obtain ⟨BS, hBS⟩ : ∃ BS, (w5.alloc (.cells #[.int .i64 (f.kind : Int), .int .i64 (f.seq : Int), .slice a5 f.body.length c5] 29)).heap.size = BS := ⟨_, rfl⟩
      rw [hBS] at og9
      obtain ⟨bl, hble⟩ : ∃ bl, f.body.length = bl := ⟨_, rfl⟩
      have HBL := Lib.hid hble
      obtain ⟨kf, hkf⟩ : ∃ kf : Int, (f.kind : Int) = kf := ⟨_, rfl⟩
      obtain ⟨sf, hsf⟩ : ∃ sf : Int, (f.seq : Int) = sf := ⟨_, rfl⟩
      rw [hble] at hg9 og9 hbl HLO ⊢
      rw [hkf, hsf] at hg9 ⊢
      clear hg zg og8 hb12 hb13 hlo hs9 z7 z5 y0 y1 y2 x0 x1 x2 f8 hcutb hcutm rb rm hBS hble hkf hsf
      obtain ⟨x0, x1, x2, _, _, _⟩ := laid3 hg9
      obtain ⟨wo, rfl⟩ : ∃ wo : World, wo = wr := ⟨_, rfl⟩
      clear hG
      go_wp2_with fail
      go_loopw [103] (fun iv wr => ∃ (j : Nat) (vs : List Value), iv = .int .i64 (j : Int) ∧ j ≤ bl ∧ wr.heap[G]? = some (.cells #[.int .i64 kf, .int .i64 sf, .slice a7 bl c7] 29) ∧ wr.ownsRow BS 5 1 (.slice a7 bl c7) bl vs ∧ Hid (∀ i, j ≤ i → vs[i]? = (f.body.map B)[i]?) ∧ G < wr.heap.size ∧ Below w2.heap.size w2 wr) (fun iv _ => bl - (intOf iv).toNat)
      case atStart => exact ⟨0, _, rfl, Nat.zero_le _, hg9, og9, Lib.hid (fun _ _ => rfl), zg9, hb14⟩
      case round =>
        clear hg9 og9 zg9 hb14 x0 x1 x2
        obtain ⟨j, vs, rfl, hj, hgj, oj, HV, zj, hbj⟩ := hrel
        obtain ⟨x0, x1, x2, _, _, _⟩ := laid3 hgj
        by_cases hjl : j < bl
        · obtain ⟨g, rfl⟩ := own_some oj (by omega)
          obtain ⟨hg1, hg2⟩ := HLO.out g rfl
          have hgx : ∃ x : UInt8, wr.cell? ⟨g, j, none⟩ = some (.int .u8 (x.toNat : Int)) := by
            have h1 := oj.cellAt j (by omega)
            rw [HV.out j (Nat.le_refl _), List.getElem?_map, List.getElem?_eq_getElem (by have := HBL.out; omega)] at h1
            exact ⟨_, h1⟩
          obtain ⟨x, hcx⟩ := hgx
          have hf := oj.frozenAt j
          obtain ⟨hst, hgs⟩ := oj.stored j (.int .u8 (bits .xor .u8 (x.toNat : Int) 255))
          have hgj2 : (wr.setCell ⟨g, j, none⟩ (.int .u8 (bits .xor .u8 (x.toNat : Int) 255))).heap[G]? = some (.cells #[.int .i64 kf, .int .i64 sf, .slice (some ⟨g, 0, none⟩) bl c7] 29) := by
            rw [Below.heap_setCell _ _ _ _ (by show G ≠ g; omega)]; exact hgj
          have HV2 : Hid (∀ i, j + 1 ≤ i → (vs.set j (.int .u8 (bits .xor .u8 (x.toNat : Int) 255)))[i]? = (f.body.map B)[i]?) := Lib.hid (fun i hi => by
            rw [List.getElem?_set_ne (by omega)]; exact HV.out i (by omega))
          have hbs := hbj.setCell (p := ⟨g, j, none⟩) hg1 (.int .u8 (bits .xor .u8 (x.toNat : Int) 255))
          clear hgj
          go_wp2_with fail
          go_roundw
          case rel => exact ⟨j + 1, _, by go_num, by omega, hgj2, hst, HV2, by simpa using zj, hbs⟩
          case measure => simp [intOf]; omega
        · obtain rfl : j = bl := by omega
          have hjj : ¬ (j : Int) < (j : Int) := by omega
          have oj2 : wr.ownsRow w2.heap.size 5 1 (.slice a7 j c7) j vs := by
            refine ⟨oj.1, oj.2.imp id ?_⟩
            rintro ⟨g, cp, cur, hv, hg, rest⟩
            refine ⟨g, cp, cur, hv, ?_, rest⟩
            injection hv with e1 e2 e3
            subst e1
            exact (HLO.out g rfl).1
          have hne : (Value.slice a7 j c7).ownBlock ≠ some G := fun e => by have := (HLO.out G e).2; omega
          have HNE := Lib.hid hne
          clear oj HV hne
          obtain ⟨wi, rfl⟩ : ∃ wi : World, wi = wr := ⟨_, rfl⟩
          go_wp2_with fail
          go_loopw [19] (fun jv wr => ∃ (i : Nat) (vs : List Value) (a : Option Addr) (cap : Nat), jv = .int .i64 (i : Int) ∧ i ≤ 32 ∧ wr.heap[G]? = some (.cells #[.int .i64 kf, .int .i64 sf, .slice a (j + i) cap] 29) ∧ wr.ownsRow w2.heap.size 5 1 (.slice a (j + i) cap) (j + i) vs ∧ Hid ((Value.slice a (j + i) cap).ownBlock ≠ some G) ∧ G < wr.heap.size ∧ Below w2.heap.size w2 wr) (fun jv _ => 32 - (intOf jv).toNat)
          case atStart => exact ⟨0, vs, a7, c7, rfl, Nat.zero_le _, hgj, oj2, HNE, zj, hbj⟩
          case round =>
            clear hgj oj2 HNE zj hbj x0 x1 x2
            obtain ⟨i, vs2, a8, c8, rfl, hi, hgi, oi, HNI, zi, hbi⟩ := hrel
            obtain ⟨x0, x1, x2, _, _, _⟩ := laid3 hgi
            have hszi := hbi.size
            by_cases hil : i < 32
            · go_wp2_with (at_builtin; refine wpList_app1N rfl _ _ 22 rfl slB rfl oi rfl rfl (one1 _ _) (by omega) hszi fun a9 c9 wz oz hgz hnz => ?_; have hgG := (hgz.block G zi (fun e => HNI.out e.symm)).trans hgi; have s2 := set3_2 (u := .slice a9 (j + i + 1) c9) hgG; have y2 : wz.cell? ⟨G, 2, none⟩ = some (.slice a8 (j + i) c8) := cell_blk hgG rfl; have yf : wz.frozen? ⟨G, 2, none⟩ = false := free_blk hgG)
              have hne9 : (Value.slice a9 (j + i + 1) c9).ownBlock ≠ some G := fun e => by
                rcases hnz G e with h1 | h1
                · exact HNI.out h1
                · omega
              have oz2 := oz.kept (grown_set wz G 2 (.slice a9 (j + i + 1) c9)) (.inr hne9)
              have hbz := (hbi.grown hgz hszi (fun q hq => (oi.lt q hq).1)).setCell (p := ⟨G, 2, none⟩) hG2 (.slice a9 (j + i + 1) c9)
              have HN9 := Lib.hid hne9
              have hzz := hgz.size
              clear hne9
              go_roundw
              case rel => exact ⟨i + 1, _, a9, c9, by go_num, by omega, s2, oz2, HN9, by simp; omega, hbz⟩
              case measure => simp [intOf]; omega
            · have hii : ¬ (i : Int) < 32 := by omega
              go_wp2_with fail
              go_roundw
              case rel => exact ⟨k + 1, by go_num, by omega, hbi⟩
              case measure => simp [intOf]; omega
    · have hor : ¬ k ≤ n ∨ (k ≤ n ∧ ¬ k < 200) := by omega
      have r3 := r2.below hb
      have q3 := q2.below hb
      have hb4 := below_next hb3 hb
      clear hgo
      rcases hor with h1 | ⟨h1, h2⟩
      · have i1 : ¬ (k : Int) ≤ (n : Int) := by omega
        go_wp2_with fail
        (with_reducible refine (same_any _ _ _ l _ _ _ l _ q3 r3).mono ?_)
        rintro e w9 ⟨rfl, hst⟩
        rw [beq_self_eq_true]
        go_wp2_with fail
        go_ret
        exact ⟨rfl, below_still hb4 hst⟩
      · have i1 : (k : Int) ≤ (n : Int) := by omega
        have i2 : ¬ (k : Int) < 200 := by omega
        go_wp2_with fail
        (with_reducible refine (same_any _ _ _ l _ _ _ l _ q3 r3).mono ?_)
        rintro e w9 ⟨rfl, hst⟩
        rw [beq_self_eq_true]
        go_wp2_with fail
        go_ret
        exact ⟨rfl, below_still hb4 hst⟩
end Go.Proofs.YtlhhbackaifohaaDoor
