/- Texts of one proof, one behind the other: BtRefBytes, SbEnd, SbAns, SbCmd, SbRow, RnData. -/
import Derived.Test.YtdkkpkgfiodlbaaJb12
import Derived.Test.YtdkkpkgfiodlbaaJb4
import Derived.Test.YtdkkpkgfiodlbaaJb5
import Derived.Test.YtdkkpkgfiodlbaaJb11
import Derived.Test.YtdkkpkgfiodlbaaJb6
set_option linter.all false
/- crucibleref01.Bytes. -/
namespace Go.Proofs.Ytdkkpkgfiodlbaa
open Go.RowKit
/-- The first k bits of byte j. -/
def accB (L : List Bool) (j : Nat) : Nat → Nat
  | 0 => 0
  | k + 1 => 2 * accB L j k + btv L (8 * j + k)
theorem accB_lt (L : List Bool) (j : Nat) : ∀ k, accB L j k < 2 ^ k
  | 0 => by simp [accB]
  | k + 1 => by have := accB_lt L j k; have := btv_le L (8 * j + k); rw [accB, Nat.pow_succ]; omega
theorem accB_8 (L : List Bool) (j : Nat) : accB L j 8 = btByte L j := by
  unfold btByte; simp only [accB, Nat.add_zero]; omega
theorem b01_at {L : List Bool} {i : Nat} (h : i < L.length) : (b01 L)[i]? = some (btv L i) := by
  unfold b01 btv
  rw [List.getElem?_map, List.getElem?_eq_getElem h]
  cases L[i] <;> rfl
theorem btBytes_pre (L : List Bool) (j : Nat) : (List.range (j + 1)).map (btByte L) = (List.range j).map (btByte L) ++ [btByte L j] := by
  rw [List.range_succ, List.map_append]; rfl
set_option maxRecDepth 100000 in
set_option maxHeartbeats 8000000 in
theorem refBytes_call {L : List Bool} {v : Value} (w : World) (h : Src w v 1 L.length ((b01 L).map u8)) (hL : L.length ≤ 1048576) :
    Calls Try.prog 47 #[v] w (BytesQ L w) := by
  obtain ⟨a, c, rfl, hl, hn, hs⟩ := h
  have HS := Lib.hid hs
  have HN := Lib.hid (show a = none → L.length = 0 from fun h => (hn h).1)
  clear hl hn hs
  go_enter Try.func47, Try.ntmps47
  go_wp2_with fail
  go_loopw [3, 4] (fun o i wr => ∃ j : Nat, j ≤ (L.length + 7) / 8 ∧ i = vi (8 * j : Nat) ∧ Hid (wr.ownsRow w.heap.size 5 1 o j (((List.range j).map (btByte L)).map u8) ∧ Below w.heap.size w wr)) (fun _ i _ => L.length + 8 - (intOf i).toNat)
  case atStart =>
    exact ⟨0, Nat.zero_le _, rfl, Lib.hid ⟨⟨rfl, .inr ⟨w.heap.size, 0, #[], rfl, Nat.le_refl _, Bt.alloc_at _ _, Nat.le_refl _, by decide, rfl, rfl⟩⟩, (Below.refl _ _).alloc (Nat.le_refl _) _⟩⟩
  case round =>
    obtain ⟨wo, rfl⟩ : ∃ wo : World, wo = wr := ⟨_, rfl⟩
    obtain ⟨j, hj, rfl, HJ⟩ := hrel
    have hbw := HJ.out.2.size
    obtain ⟨ao, co, rfl⟩ := Bt.own_shape HJ.out.1
    by_cases hlt : 8 * j < L.length
    · have h1 : decide (((8 * j : Nat) : Int) < L.length) = true := decide_eq_true (by omega)
      have h2 : decide (8 * (j : Int) < L.length) = true := decide_eq_true (by omega)
      have h3 : decide (8 * j < L.length) = true := decide_eq_true (by omega)
      have hw8 : IntKind.i64.wrap (8 * (j : Int) + 8) = 8 * (j : Int) + 8 := IntWalk.i64_in _ (by omega)
      go_wp2_with fail
      go_loop [5, 6] (fun x y => ∃ (k z : Nat), k ≤ 8 ∧ y = vi k ∧ x = vi z ∧ z < 256 ∧ Hid (z = accB L j k)) (fun _ y => 8 - (intOf y).toNat)
      case atStart => exact ⟨0, 0, by omega, rfl, rfl, by omega, Lib.hid rfl⟩
      case round =>
        obtain ⟨k, z, hk, rfl, rfl, hz, HZ⟩ := hrel
        by_cases hk8 : k < 8
        · have k1 : decide ((k : Int) < 8) = true := decide_eq_true (by omega)
          have hzk : z < 128 := by
            have := accB_lt L j k
            rw [← HZ.out] at this
            exact Nat.lt_of_lt_of_le this (Nat.le_trans (Nat.pow_le_pow_right (by decide) (show k ≤ 7 by omega)) (by decide))
          have hw1 : IntKind.i64.wrap (2 * (z : Int)) = 2 * (z : Int) := IntWalk.i64_in _ (by omega)
          have hw2 : IntKind.i64.wrap (8 * (j : Int) + k) = 8 * (j : Int) + k := IntWalk.i64_in _ (by omega)
          have hw3 : IntKind.i64.wrap ((k : Int) + 1) = (k : Int) + 1 := IntWalk.i64_in _ (by omega)
          by_cases hin : 8 * j + k < L.length
          · have k2 : decide (8 * (j : Int) + k < L.length) = true := decide_eq_true (by omega)
            have hbl := btv_le L (8 * j + k)
            obtain ⟨x, hx⟩ : ∃ x, x = btv L (8 * j + k) := ⟨_, rfl⟩
            rw [← hx] at hbl
            have hc : ∃ b off, a = some ⟨b, off, none⟩ ∧ wo.cell? ⟨b, off + (8 * j + k), none⟩ = some (.int .u8 (x : Nat)) := by
              cases a with
              | none => have := HN.out rfl; omega
              | some ad =>
                have h0 := HS.out ad rfl 0 _ (by rw [List.getElem?_map, b01_at (show 0 < L.length by omega)]; rfl)
                have h3 : ad = ⟨ad.block, ad.off, none⟩ := addr_flat (x := ad) h0
                have h1 := HS.out ad rfl (8 * j + k) (.int .u8 (x : Nat)) (by rw [List.getElem?_map, b01_at hin, hx]; rfl)
                rw [h3] at h1
                rw [addr_add] at h1
                exact ⟨ad.block, ad.off, congrArg some h3, by rw [HJ.out.2.cell (World.block_lt_of_cell? w _ h1)]; exact h1⟩
            obtain ⟨b, off, rfl, hc⟩ := hc
            have HX := Lib.hid hx
            have hi1 : (8 * (j : Int) + k) < L.length := by omega
            have hi2 : (8 * (j : Int) + k).toNat = 8 * j + k := by omega
            have hw4 : IntKind.i64.wrap (2 * (z : Int) + x) = 2 * (z : Int) + x := IntWalk.i64_in _ (by omega)
            clear hx
            go_wp2_with fail
            refine ⟨⟨k + 1, 2 * z + x, by omega, by go_num, by go_num, by omega, Lib.hid ?_⟩, by simp only [intOf]; omega⟩
            rw [accB, ← HZ.out, HX.out]
          · have k2 : decide (8 * (j : Int) + k < L.length) = false := decide_eq_false (by omega)
            have hb0 := Lib.hid (btv_past (L := L) (i := 8 * j + k) (by omega))
            go_wp2_with fail
            refine ⟨⟨k + 1, 2 * z, by omega, by go_num, by go_num, by omega, Lib.hid ?_⟩, by simp only [intOf]; omega⟩
            rw [accB, ← HZ.out, hb0.out]; rfl
        · have hke : k = 8 := by omega
          have HK := Lib.hid hke
          have k1 : decide ((k : Int) < 8) = false := decide_eq_false (by omega)
          clear hke
          have hj2 : j + 1 ≤ 68719476736 := by omega
          go_wp2_with (refine wpList_append_src rfl (.tmp 35) (.tmp 38) 39 rfl eltU8 w.heap.size j _ (HJ.out.1.alloc _) rfl 1 [.int .u8 (z : Nat)] (src_new (cs := #[.int .u8 (z : Nat)]) rfl rfl) rfl (by intro u hu; simp at hu; subst hu; rfl) hj2 (by omega) (by simp; omega) ?_; intro v1 w1 ho1 hg1 _; have HO1 := Lib.hid ho1; have HG1 := Lib.hid hg1; clear ho1 hg1)
          refine ⟨⟨j + 1, by omega, by go_num, Lib.hid ⟨?_, ?_⟩⟩, by simp only [intOf]; omega⟩
          · have hz8 : z = btByte L j := by rw [HZ.out, HK.out]; exact accB_8 L j
            rw [btBytes_pre, List.map_append, ← hz8]
            exact HO1.out
          · exact HJ.out.2.trans (((Below.refl _ _).alloc hbw _).trans (below_grown HG1.out (by simp; omega) (fun g hg => (HJ.out.1.lt g hg).1)))
    · have hje : j = (L.length + 7) / 8 := by omega
      have HE := Lib.hid hje
      have h1 : decide (((8 * j : Nat) : Int) < L.length) = false := decide_eq_false (by omega)
      have h2 : decide (8 * (j : Int) < L.length) = false := decide_eq_false (by omega)
      have h3 : decide (8 * j < L.length) = false := decide_eq_false (by omega)
      clear hje
      go_wp2_with fail
      go_ret
      refine ⟨_, rfl, ?_, HJ.out.2⟩
      show World.ownsRow _ _ _ _ _ _ _
      rw [btBytes_length, ← HE.out]
      have := HJ.out.1
      rw [show btBytes L = (List.range j).map (btByte L) by rw [HE.out]; rfl]
      exact this
end Go.Proofs.Ytdkkpkgfiodlbaa

/- Layer 21's reference: an end in bits. -/
namespace Go.Proofs.Ytdkkpkgfiodlbaa
open Go.RowKit Go.Maps
/-- What is gathered, bit by bit, behind a world. -/
structure LB (w6 : World) (v : Value) (A : List Bool) (W : World) : Prop where
  row : Ow01 w6.heap.size W v A
  bel : Below w6.heap.size w6 W
theorem LB.sz {w6 : World} {v : Value} {A : List Bool} {W : World} (h : LB w6 v A W) : w6.heap.size ≤ W.heap.size := h.bel.size
theorem LB.later {w6 : World} {v : Value} {A : List Bool} {W W' : World} (h : LB w6 v A W) (hb : Below W.heap.size W W') : LB w6 v A W' := ⟨own_below h.row hb, h.bel.trans (hb.mono h.sz)⟩
theorem LB.more {w6 : World} {v v' : Value} {A C : List Bool} {W W' : World} (h : LB w6 v A W) (hg : W.grownBy W' v.ownBlock) (hr : W'.ownsRow w6.heap.size 5 1 v' (A.length + C.length) ((b01 A).map u8 ++ (b01 C).map u8)) : LB w6 v' (A ++ C) W' :=
  ⟨by unfold Ow01; rw [List.length_append, b01_append, List.map_append]; exact hr, h.bel.trans (below_grown hg h.sz (fun k hk => (World.ownsRow.lt h.row k hk).1))⟩
theorem lb_src {b : Nat} {w : World} {v : Value} {L : List Bool} (h : Ow01 b w v L) : Src w v 1 L.length ((b01 L).map u8) := own_src h
theorem LB.shape {w6 : World} {v : Value} {A : List Bool} {W : World} (h : LB w6 v A W) : ∃ a c, v = .slice a A.length c := Bt.own_shape h.row

set_option maxRecDepth 100000 in
set_option maxHeartbeats 4000000 in
theorem endBits21_call (e : EndM) (w : World) (hi : EndOk e) :
    Calls Try.prog 48 #[endV e] w (O01Q (endBL e) w) := by
  have HB0 := Lib.hid ((Below.refl w.heap.size w).alloc (Nat.le_refl _) (.cells #[vi e.txn, .bool e.commit, vi e.at_] 56))
  have HX0 := Lib.hid (Bt.alloc_at w (.cells #[vi e.txn, .bool e.commit, vi e.at_] 56))
  have HI := Lib.hid hi
  have l1 := intL_length hi.1
  have l2 := intL_length hi.2
  clear hi
  unfold endV
  go_enter Try.func48, Try.ntmps48
  go_upto_region 1 with fail
  generalize w.alloc (.cells #[vi e.txn, .bool e.commit, vi e.at_] 56) = w1 at *
  obtain ⟨X, hX⟩ : ∃ X, X = w.heap.size := ⟨_, rfl⟩
  rw [← hX] at HX0 ⊢
  clear hX
  have HCX := Lib.hid (show ∀ W, Below w1.heap.size w1 W → W.cell? ⟨X, 0, none⟩ = some (vi e.txn) ∧ W.cell? ⟨X, 1, none⟩ = some (.bool e.commit) ∧ W.cell? ⟨X, 2, none⟩ = some (vi e.at_) from fun W hW => by
    have h := (hW.block X (Array.getElem?_eq_some_iff.1 HX0.out).1).trans HX0.out
    exact ⟨by rw [Bt.cell_of h]; rfl, by rw [Bt.cell_of h]; rfl, by rw [Bt.cell_of h]; rfl⟩)
  obtain ⟨x0, -, -⟩ := HCX.out w1 (Below.refl _ _)
  go_upto_region 2 with (go_at_call 45; refine (refInt_call e.txn w1 HI.out.1).mono ?_; rintro e2 w2 ⟨v2, rfl, ho2, hb2⟩; have HL2 := Lib.hid (show LB w1 v2 (intL e.txn) w2 from ⟨ho2, hb2⟩); clear ho2 hb2)
  clear x0
  obtain ⟨-, x1, -⟩ := HCX.out w2 HL2.out.bel
  have hs2 : (intL e.txn).length + 1 ≤ 68719476736 := by omega
  have hs3 : (intL e.txn ++ [e.commit]).length + (intL e.at_).length ≤ 68719476736 := by simp; omega
  have HLN := Lib.hid (HL2.out.later ((Below.refl w2.heap.size w2).alloc (Nat.le_refl _) (.cells #[u8 1] 5)))
  have HLZ := Lib.hid (HL2.out.later ((Below.refl w2.heap.size w2).alloc (Nat.le_refl _) (.cells #[u8 0] 5)))
  cases hc : e.commit with
  | true =>
    rw [hc] at x1
    have HC := Lib.hid hc
    clear hc
    go_upto_region 5 with (refine wpList_append_src rfl (.tmp 9) (.tmp 10) 39 rfl eltU8 w1.heap.size (intL e.txn).length _ HLN.out.row rfl 1 [u8 1] (src_new (cs := #[u8 1]) rfl rfl) rfl (by intro u hu; simp at hu; subst hu; rfl) hs2 (by omega) HLN.out.sz ?_; intro v3 w3 ho3 hg3 _; have HL3 := Lib.hid (show LB w1 v3 (intL e.txn ++ [e.commit]) w3 from HLN.out.more (C := [e.commit]) hg3 (by rw [HC.out]; exact ho3)); clear ho3 hg3)
    clear x1
    obtain ⟨-, -, x2⟩ := HCX.out w3 HL3.out.bel
    go_wp2_with (first
      | (refine wpList_append_src rfl (.tmp 15) (.tmp 18) 39 rfl eltU8 w1.heap.size (intL e.txn ++ [e.commit]).length _ HL4.out.row rfl (intL e.at_).length _ (lb_src HO4.out) rfl (u8_one _) hs3 (by omega) HL4.out.sz ?_; intro v5 w5 ho5 hg5 _; have HL5 := Lib.hid (HL4.out.more hg5 ho5); clear ho5 hg5)
      | (go_at_call 45; refine (refInt_call e.at_ w3 HI.out.2).mono ?_; rintro e4 w4 ⟨v4, rfl, ho4, hb4⟩; have HO4 := Lib.hid ho4; have HL4 := Lib.hid (HL3.out.later hb4); clear ho4 hb4))
    go_ret
    exact ⟨_, rfl, own_mono HL5.out.row HB0.out.size, HB0.out.trans (HL5.out.bel.mono HB0.out.size)⟩
  | false =>
    rw [hc] at x1
    have HC := Lib.hid hc
    clear hc
    go_upto_region 5 with (refine wpList_append_src rfl (.tmp 12) (.tmp 13) 39 rfl eltU8 w1.heap.size (intL e.txn).length _ HLZ.out.row rfl 1 [u8 0] (src_new (cs := #[u8 0]) rfl rfl) rfl (by intro u hu; simp at hu; subst hu; rfl) hs2 (by omega) HLZ.out.sz ?_; intro v3 w3 ho3 hg3 _; have HL3 := Lib.hid (show LB w1 v3 (intL e.txn ++ [e.commit]) w3 from HLZ.out.more (C := [e.commit]) hg3 (by rw [HC.out]; exact ho3)); clear ho3 hg3)
    clear x1
    obtain ⟨-, -, x2⟩ := HCX.out w3 HL3.out.bel
    go_wp2_with (first
      | (refine wpList_append_src rfl (.tmp 15) (.tmp 18) 39 rfl eltU8 w1.heap.size (intL e.txn ++ [e.commit]).length _ HL4.out.row rfl (intL e.at_).length _ (lb_src HO4.out) rfl (u8_one _) hs3 (by omega) HL4.out.sz ?_; intro v5 w5 ho5 hg5 _; have HL5 := Lib.hid (HL4.out.more hg5 ho5); clear ho5 hg5)
      | (go_at_call 45; refine (refInt_call e.at_ w3 HI.out.2).mono ?_; rintro e4 w4 ⟨v4, rfl, ho4, hb4⟩; have HO4 := Lib.hid ho4; have HL4 := Lib.hid (HL3.out.later hb4); clear ho4 hb4))
    go_ret
    exact ⟨_, rfl, own_mono HL5.out.row HB0.out.size, HB0.out.trans (HL5.out.bel.mono HB0.out.size)⟩
end Go.Proofs.Ytdkkpkgfiodlbaa

/- Layer 21's reference: an answer's bytes. Printed by wip/gen/gen_sbans.py. -/
namespace Go.Proofs.Ytdkkpkgfiodlbaa
open Go.RowKit Go.Maps
set_option maxRecDepth 100000 in
set_option maxHeartbeats 8000000 in
theorem answerBytes21_call (a : Ans) (vv : Value) (w : World) (hx : RdInts w vv a.vals) (hi : AnsJ a) (hT : (ansL a).length ≤ 900000) :
    Calls Try.prog 26 #[ansV a vv] w (BytesQ (ansL a) w) := by
  obtain ⟨av, nv, cv, hvv, rfl, hmv, -⟩ := hx.at
  subst hvv
  have HRD := Lib.hid hx
  have HI := Lib.hid hi
  have l1 := intL_length hi.err
  have l2 := numL_length a.vals.length (by omega)
  have l4 := intL_length hi.at_
  have l5 := intL_length hi.by_
  have l6 := intL_length hi.home
  have l7 := endBL_length hi.e
  have lT : (intL a.err).length + (numL a.vals.length).length + (intsBL a.vals).length + (intL a.at_).length + (intL a.by_).length + (intL a.home).length + (endBL a.e).length ≤ 900000 := by
    have := hT
    simp only [ansL, List.length_append] at this; omega
  have HB0 := Lib.hid ((Below.refl w.heap.size w).alloc (Nat.le_refl _) (.cells #[vi a.err, .slice av a.vals.length cv, vi a.at_, vi a.by_, vi a.home, vi a.e.txn, .bool a.e.commit, vi a.e.at_] 58))
  have HX0 := Lib.hid (Bt.alloc_at w (.cells #[vi a.err, .slice av a.vals.length cv, vi a.at_, vi a.by_, vi a.home, vi a.e.txn, .bool a.e.commit, vi a.e.at_] 58))
  clear hx hi hT
  unfold ansV
  unfold ansC
  go_enter Try.func26, Try.ntmps26
  go_upto_region 1 with fail
  generalize w.alloc (.cells #[vi a.err, .slice av a.vals.length cv, vi a.at_, vi a.by_, vi a.home, vi a.e.txn, .bool a.e.commit, vi a.e.at_] 58) = w1 at *
  obtain ⟨X, hX⟩ : ∃ X, X = w.heap.size := ⟨_, rfl⟩
  rw [← hX] at HX0 ⊢
  clear hX
  have HCX := Lib.hid (show ∀ W, Below w1.heap.size w1 W → W.cell? ⟨X, 0, none⟩ = some (vi a.err) ∧ W.cell? ⟨X, 1, none⟩ = some (.slice av a.vals.length cv) ∧ W.cell? ⟨X, 2, none⟩ = some (vi a.at_) ∧ W.cell? ⟨X, 3, none⟩ = some (vi a.by_) ∧ W.cell? ⟨X, 4, none⟩ = some (vi a.home) ∧ W.cell? ⟨X, 5, none⟩ = some (vi a.e.txn) ∧ W.cell? ⟨X, 6, none⟩ = some (.bool a.e.commit) ∧ W.cell? ⟨X, 7, none⟩ = some (vi a.e.at_) from fun W hW => by
    have h := (hW.block X (Array.getElem?_eq_some_iff.1 HX0.out).1).trans HX0.out
    exact ⟨by rw [Bt.cell_of h]; rfl, by rw [Bt.cell_of h]; rfl, by rw [Bt.cell_of h]; rfl, by rw [Bt.cell_of h]; rfl, by rw [Bt.cell_of h]; rfl, by rw [Bt.cell_of h]; rfl, by rw [Bt.cell_of h]; rfl, by rw [Bt.cell_of h]; rfl⟩)
  have hwr1 : IntKind.u64.wrap (a.vals.length : Int) = (a.vals.length : Int) := by rw [IntKind.wrap_u64]; omega
  obtain ⟨z0, -, -, -, -, -, -, -⟩ := HCX.out w1 (Below.refl _ _)
  go_upto_region 2 with (go_at_call 45; refine (refInt_call a.err w1 HI.out.err).mono ?_; rintro e2 w2 ⟨v2, rfl, ho2, hb2⟩; have HL2 := Lib.hid (show LB w1 v2 (intL a.err) w2 from ⟨ho2, hb2⟩); clear ho2 hb2)
  clear z0
  have hs3 : (intL a.err).length + (numL a.vals.length).length ≤ 68719476736 := by omega
  obtain ⟨-, z1, -, -, -, -, -, -⟩ := HCX.out w2 HL2.out.bel
  go_upto_region 3 with (first
    | (refine wpList_append_src rfl (.tmp 9) (.tmp 14) 39 rfl eltU8 w1.heap.size (intL a.err).length _ HM3.out.row rfl (numL a.vals.length).length _ (lb_src HO3.out) rfl (u8_one _) hs3 (by omega) HM3.out.sz ?_; intro v3 w3 ho3 hg3 _; have HL3 := Lib.hid (HM3.out.more hg3 ho3); clear ho3 hg3)
    | (go_at_call 46; refine (refNum_call a.vals.length _ (by rfl) w2 (by omega)).mono ?_; rintro e3 y3 ⟨u3, rfl, ho3, hb3⟩; have HO3 := Lib.hid ho3; have HM3 := Lib.hid (HL2.out.later hb3); clear ho3 hb3))
  clear z1 hwr1
  obtain ⟨L3, hL3⟩ : ∃ L3, L3 = intL a.err ++ numL a.vals.length := ⟨_, rfl⟩
  have hl3 : L3.length ≤ 258 := by rw [hL3]; simp; omega
  rw [← hL3] at HL3
  have HLE3 := Lib.hid hL3
  clear hL3
  obtain ⟨-, z1, -, -, -, -, -, -⟩ := HCX.out w3 HL3.out.bel
  go_wp2_with fail
  clear z1
  go_loopw [3, 19] (fun v i wr => ∃ k : Nat, k ≤ a.vals.length ∧ i = vi k ∧ Hid (LB w1 v (L3 ++ intsBL (a.vals.take k)) wr)) (fun _ i _ => a.vals.length - (intOf i).toNat)
  case atStart => exact ⟨0, Nat.zero_le _, rfl, Lib.hid (by simpa [intsBL] using HL3.out)⟩
  case round =>

    obtain ⟨wj, rfl⟩ : ∃ wj : World, wj = wr := ⟨_, rfl⟩
    obtain ⟨k, hk, rfl, HJ⟩ := hrel
    by_cases hlt : k < a.vals.length
    · have k1 : decide ((k : Int) < a.vals.length) = true := decide_eq_true (by omega)
      have k2 : (k : Int) < a.vals.length := by omega
      have hwk : IntKind.i64.wrap ((k : Int) + 1) = (k : Int) + 1 := IntWalk.i64_in _ (by omega)
      obtain ⟨o, ho⟩ := some_at hlt
      have hoi := HI.out.vals o (List.mem_of_getElem? ho)
      obtain ⟨a', n', c', he, _, _, hcells⟩ := (show RdInts wj (.slice av a.vals.length cv) a.vals from HRD.out.later (HB0.out.trans (HJ.out.bel.mono HB0.out.size))).at
      obtain ⟨b, off, ha, k3, _⟩ := hcells k o ho
      simp only [Value.slice.injEq] at he
      obtain ⟨rfl, -, -⟩ := he
      subst ha
      have htk := intsBL_snoc ho
      have hlk := intsBL_take a.vals k
      have hlo := intL_length hoi
      have HTK := Lib.hid htk
      have HOI := Lib.hid hoi
      clear hcells ho htk hoi
      have hs6 : (L3 ++ intsBL (a.vals.take k)).length + (intL o).length ≤ 68719476736 := by simp; omega
      go_wp2_with (first
        | (refine wpList_append_src rfl (.tmp 23) (.tmp 25) 39 rfl eltU8 w1.heap.size (L3 ++ intsBL (a.vals.take k)).length _ HM6.out.row rfl (intL o).length _ (lb_src HO6.out) rfl (u8_one _) hs6 (by omega) HM6.out.sz ?_; intro v6 w6 ho6 hg6 _; have HL6 := Lib.hid (HM6.out.more hg6 ho6); clear ho6 hg6)
        | (go_at_call 45; refine (refInt_call o wj HOI.out).mono ?_; rintro e6 y6 ⟨u6, rfl, ho6, hb6⟩; have HO6 := Lib.hid ho6; have HM6 := Lib.hid (HJ.out.later hb6); clear ho6 hb6))
      refine ⟨⟨k + 1, by omega, by go_num, Lib.hid ?_⟩, by simp only [intOf]; omega⟩
      rw [HTK.out, ← List.append_assoc]; exact HL6.out
    · have k1 : decide ((k : Int) < a.vals.length) = false := decide_eq_false (by omega)
      have hke := Lib.hid (show k = a.vals.length by omega)
      have HL7 : Hid (LB w1 u3 (L3 ++ intsBL a.vals) wj) := by have := HJ.out; rw [hke.out, List.take_length] at this; exact Lib.hid this
      clear HJ
      obtain ⟨L7, hL7⟩ : ∃ L7, L7 = L3 ++ intsBL a.vals := ⟨_, rfl⟩
      rw [← hL7] at HL7
      have hl77 : L7.length ≤ 900300 := by rw [hL7]; simp; omega
      have HLE7 := Lib.hid hL7
      clear hL7
      have hs8 : L7.length + (intL a.at_).length ≤ 68719476736 := by omega
      have hs9 : (L7 ++ intL a.at_).length + (intL a.by_).length ≤ 68719476736 := by simp; omega
      have hs10 : (L7 ++ intL a.at_ ++ intL a.by_).length + (intL a.home).length ≤ 68719476736 := by simp; omega
      have hs11 : (L7 ++ intL a.at_ ++ intL a.by_ ++ intL a.home).length + (endBL a.e).length ≤ 68719476736 := by simp; omega
      obtain ⟨-, -, z2, -, -, -, -, -⟩ := HCX.out wj HL7.out.bel
      go_upto_region 9 with (first
        | (refine wpList_append_src rfl (.tmp 28) (.tmp 31) 39 rfl eltU8 w1.heap.size (L7).length _ HM8.out.row rfl (intL a.at_).length _ (lb_src HO8.out) rfl (u8_one _) hs8 (by omega) HM8.out.sz ?_; intro v8 w8 ho8 hg8 _; have HL8 := Lib.hid (HM8.out.more hg8 ho8); clear ho8 hg8)
        | (go_at_call 45; refine (refInt_call a.at_ wj HI.out.at_).mono ?_; rintro e8 y8 ⟨u8, rfl, ho8, hb8⟩; have HO8 := Lib.hid ho8; have HM8 := Lib.hid (HL7.out.later hb8); clear ho8 hb8))
      clear z2
      obtain ⟨-, -, -, z3, -, -, -, -⟩ := HCX.out w8 HL8.out.bel
      go_upto_region 10 with (first
        | (refine wpList_append_src rfl (.tmp 33) (.tmp 36) 39 rfl eltU8 w1.heap.size (L7 ++ intL a.at_).length _ HM9.out.row rfl (intL a.by_).length _ (lb_src HO9.out) rfl (u8_one _) hs9 (by omega) HM9.out.sz ?_; intro v9 w9 ho9 hg9 _; have HL9 := Lib.hid (HM9.out.more hg9 ho9); clear ho9 hg9)
        | (go_at_call 45; refine (refInt_call a.by_ w8 HI.out.by_).mono ?_; rintro e9 y9 ⟨u9, rfl, ho9, hb9⟩; have HO9 := Lib.hid ho9; have HM9 := Lib.hid (HL8.out.later hb9); clear ho9 hb9))
      clear z3
      obtain ⟨-, -, -, -, z4, -, -, -⟩ := HCX.out w9 HL9.out.bel
      go_upto_region 11 with (first
        | (refine wpList_append_src rfl (.tmp 38) (.tmp 41) 39 rfl eltU8 w1.heap.size (L7 ++ intL a.at_ ++ intL a.by_).length _ HM10.out.row rfl (intL a.home).length _ (lb_src HO10.out) rfl (u8_one _) hs10 (by omega) HM10.out.sz ?_; intro v10 w10 ho10 hg10 _; have HL10 := Lib.hid (HM10.out.more hg10 ho10); clear ho10 hg10)
        | (go_at_call 45; refine (refInt_call a.home w9 HI.out.home).mono ?_; rintro e10 y10 ⟨u10, rfl, ho10, hb10⟩; have HO10 := Lib.hid ho10; have HM10 := Lib.hid (HL9.out.later hb10); clear ho10 hb10))
      clear z4
      obtain ⟨-, -, -, -, -, z5, z6, z7⟩ := HCX.out w10 HL10.out.bel
      go_wp2_with (first
        | (go_at_call 47; refine (refBytes_call w11 (lb_src HL11.out.row) (by simp; omega)).mono ?_; rintro e12 w12 ⟨v12, rfl, ho12, hb12⟩; have HO12 := Lib.hid ho12; have HB12 := Lib.hid hb12; clear ho12 hb12)
        | (refine wpList_append_src rfl (.tmp 43) (.tmp 46) 39 rfl eltU8 w1.heap.size (L7 ++ intL a.at_ ++ intL a.by_ ++ intL a.home).length _ HM11.out.row rfl (endBL a.e).length _ (lb_src HO11.out) rfl (u8_one _) hs11 (by omega) HM11.out.sz ?_; intro v11 w11 ho11 hg11 _; have HL11 := Lib.hid (HM11.out.more hg11 ho11); clear ho11 hg11)
        | (go_at_call 48; refine (endBits21_call a.e w10 HI.out.e).mono ?_; rintro e11 y11 ⟨u11, rfl, ho11, hb11⟩; have HO11 := Lib.hid ho11; have HM11 := Lib.hid (HL10.out.later hb11); clear ho11 hb11))
      go_ret
      have hB := HB0.out.trans (HL11.out.bel.mono HB0.out.size)
      have hLL : L7 ++ intL a.at_ ++ intL a.by_ ++ intL a.home ++ endBL a.e = ansL a := by rw [HLE7.out, HLE3.out]; simp [ansL]
      exact ⟨_, rfl, by rw [← hLL]; exact own_mono HO12.out hB.size, hB.trans (HB12.out.mono hB.size)⟩
end Go.Proofs.Ytdkkpkgfiodlbaa

/- Layer 21's reference: a command's bytes. Printed by wip/gen/gen_sbcmd.py. -/
namespace Go.Proofs.Ytdkkpkgfiodlbaa
open Go.RowKit Go.Maps
attribute [local go_sem] Oper.semAt_some

theorem lb_keep {b Y e n m : Nat} {W W' : World} {v : Value} {xs : List Value} {cs : Array Value} {T : TypeId} (h : W.ownsRow b e n v m xs) (hY : W.heap[Y]? = some (.cells cs T)) (hT : T ≠ e) (hg : W.grownBy W' v.ownBlock) : W'.heap[Y]? = some (.cells cs T) :=
  (hg.block Y (Array.getElem?_eq_some_iff.1 hY).1 (fun e => by
    rcases h.2 with ⟨hv, _⟩ | ⟨g', cap, cur, hv, _, hh, _⟩
    · rw [hv] at e; cases e
    · rw [hv] at e; simp only [Value.ownBlock, Option.some.injEq] at e; subst e; rw [hY] at hh; cases hh; exact hT rfl)).trans hY
set_option maxRecDepth 100000 in
set_option maxHeartbeats 8000000 in
theorem cmdBytes21_call (c : Cmd21) (wv rv : Value) (w : World) (hx : RdyS w ⟨wv, rv, c.r⟩) (hi : CmdJ c) (hT : (cmdL c).length ≤ 900000) :
    Calls Try.prog 22 #[cmdV c wv rv] w (BytesQ (cmdL c) w) := by
  obtain ⟨aw, nw, cw, hwv, rfl, hmw, -⟩ := (show RdOps w wv c.r.writes from hx.ws).at
  obtain ⟨ar, nr, cr, hrv, rfl, hmr, -⟩ := (show RdInts w rv c.r.reads from hx.rs).at
  subst hwv hrv
  have HRD := Lib.hid hx
  have HI := Lib.hid hi
  have l1 := intL_length hi.k
  have l2 := intL_length hi.r.txn
  have l3 := intL_length hi.r.home
  have l4 := intL_length hi.r.start
  have l5 := numL_length c.r.writes.length (by omega)
  have l6 := numL_length c.r.reads.length (by omega)
  have l7 := endBL_length hi.e
  have lT : (intL c.k).length + (intL c.r.txn).length + (intL c.r.home).length + (intL c.r.start).length + (numL c.r.writes.length).length + (opsBL c.r.writes).length + (numL c.r.reads.length).length + (intsBL c.r.reads).length + (endBL c.e).length ≤ 900000 := by
    have := hT
    simp only [cmdL, rdyBL, List.length_append] at this; omega
  have HB0 := Lib.hid ((Below.refl w.heap.size w).alloc (Nat.le_refl _) (.cells #[vi c.k, vi c.r.txn, vi c.r.home, vi c.r.start, .slice aw c.r.writes.length cw, .slice ar c.r.reads.length cr, vi c.e.txn, .bool c.e.commit, vi c.e.at_] 63))
  have HX0 := Lib.hid (Bt.alloc_at w (.cells #[vi c.k, vi c.r.txn, vi c.r.home, vi c.r.start, .slice aw c.r.writes.length cw, .slice ar c.r.reads.length cr, vi c.e.txn, .bool c.e.commit, vi c.e.at_] 63))
  clear hx hi hT
  unfold cmdV
  unfold cmdC
  go_enter Try.func22, Try.ntmps22
  go_upto_region 1 with fail
  generalize w.alloc (.cells #[vi c.k, vi c.r.txn, vi c.r.home, vi c.r.start, .slice aw c.r.writes.length cw, .slice ar c.r.reads.length cr, vi c.e.txn, .bool c.e.commit, vi c.e.at_] 63) = w1 at *
  obtain ⟨X, hX⟩ : ∃ X, X = w.heap.size := ⟨_, rfl⟩
  rw [← hX] at HX0 ⊢
  clear hX
  have HCX := Lib.hid (show ∀ W, Below w1.heap.size w1 W → W.cell? ⟨X, 0, none⟩ = some (vi c.k) ∧ W.cell? ⟨X, 1, none⟩ = some (vi c.r.txn) ∧ W.cell? ⟨X, 2, none⟩ = some (vi c.r.home) ∧ W.cell? ⟨X, 3, none⟩ = some (vi c.r.start) ∧ W.cell? ⟨X, 4, none⟩ = some (.slice aw c.r.writes.length cw) ∧ W.cell? ⟨X, 5, none⟩ = some (.slice ar c.r.reads.length cr) ∧ W.cell? ⟨X, 6, none⟩ = some (vi c.e.txn) ∧ W.cell? ⟨X, 7, none⟩ = some (.bool c.e.commit) ∧ W.cell? ⟨X, 8, none⟩ = some (vi c.e.at_) from fun W hW => by
    have h := (hW.block X (Array.getElem?_eq_some_iff.1 HX0.out).1).trans HX0.out
    exact ⟨by rw [Bt.cell_of h]; rfl, by rw [Bt.cell_of h]; rfl, by rw [Bt.cell_of h]; rfl, by rw [Bt.cell_of h]; rfl, by rw [Bt.cell_of h]; rfl, by rw [Bt.cell_of h]; rfl, by rw [Bt.cell_of h]; rfl, by rw [Bt.cell_of h]; rfl, by rw [Bt.cell_of h]; rfl⟩)
  have hwr1 : IntKind.u64.wrap (c.r.writes.length : Int) = (c.r.writes.length : Int) := by rw [IntKind.wrap_u64]; omega
  have hwr2 : IntKind.u64.wrap (c.r.reads.length : Int) = (c.r.reads.length : Int) := by rw [IntKind.wrap_u64]; omega
  obtain ⟨z0, -, -, -, -, -, -, -, -⟩ := HCX.out w1 (Below.refl _ _)
  go_upto_region 2 with (go_at_call 45; refine (refInt_call c.k w1 HI.out.k).mono ?_; rintro e2 w2 ⟨v2, rfl, ho2, hb2⟩; have HL2 := Lib.hid (show LB w1 v2 (intL c.k) w2 from ⟨ho2, hb2⟩); clear ho2 hb2)
  clear z0
  have hs3 : (intL c.k).length + (intL c.r.txn).length ≤ 68719476736 := by omega
  have hs4 : (intL c.k ++ intL c.r.txn).length + (intL c.r.home).length ≤ 68719476736 := by simp; omega
  have hs5 : (intL c.k ++ intL c.r.txn ++ intL c.r.home).length + (intL c.r.start).length ≤ 68719476736 := by simp; omega
  have hs6 : (intL c.k ++ intL c.r.txn ++ intL c.r.home ++ intL c.r.start).length + (numL c.r.writes.length).length ≤ 68719476736 := by simp; omega
  obtain ⟨-, z1, -, -, -, -, -, -, -⟩ := HCX.out w2 HL2.out.bel
  go_upto_region 3 with (first
    | (refine wpList_append_src rfl (.tmp 11) (.tmp 15) 39 rfl eltU8 w1.heap.size (intL c.k).length _ HM3.out.row rfl (intL c.r.txn).length _ (lb_src HO3.out) rfl (u8_one _) hs3 (by omega) HM3.out.sz ?_; intro v3 w3 ho3 hg3 _; have HL3 := Lib.hid (HM3.out.more hg3 ho3); clear ho3 hg3)
    | (go_at_call 45; refine (refInt_call c.r.txn w2 HI.out.r.txn).mono ?_; rintro e3 y3 ⟨u3, rfl, ho3, hb3⟩; have HO3 := Lib.hid ho3; have HM3 := Lib.hid (HL2.out.later hb3); clear ho3 hb3))
  clear z1
  obtain ⟨-, -, z2, -, -, -, -, -, -⟩ := HCX.out w3 HL3.out.bel
  go_upto_region 4 with (first
    | (refine wpList_append_src rfl (.tmp 17) (.tmp 21) 39 rfl eltU8 w1.heap.size (intL c.k ++ intL c.r.txn).length _ HM4.out.row rfl (intL c.r.home).length _ (lb_src HO4.out) rfl (u8_one _) hs4 (by omega) HM4.out.sz ?_; intro v4 w4 ho4 hg4 _; have HL4 := Lib.hid (HM4.out.more hg4 ho4); clear ho4 hg4)
    | (go_at_call 45; refine (refInt_call c.r.home w3 HI.out.r.home).mono ?_; rintro e4 y4 ⟨u4, rfl, ho4, hb4⟩; have HO4 := Lib.hid ho4; have HM4 := Lib.hid (HL3.out.later hb4); clear ho4 hb4))
  clear z2
  obtain ⟨-, -, -, z3, -, -, -, -, -⟩ := HCX.out w4 HL4.out.bel
  go_upto_region 5 with (first
    | (refine wpList_append_src rfl (.tmp 23) (.tmp 27) 39 rfl eltU8 w1.heap.size (intL c.k ++ intL c.r.txn ++ intL c.r.home).length _ HM5.out.row rfl (intL c.r.start).length _ (lb_src HO5.out) rfl (u8_one _) hs5 (by omega) HM5.out.sz ?_; intro v5 w5 ho5 hg5 _; have HL5 := Lib.hid (HM5.out.more hg5 ho5); clear ho5 hg5)
    | (go_at_call 45; refine (refInt_call c.r.start w4 HI.out.r.start).mono ?_; rintro e5 y5 ⟨u5, rfl, ho5, hb5⟩; have HO5 := Lib.hid ho5; have HM5 := Lib.hid (HL4.out.later hb5); clear ho5 hb5))
  clear z3
  obtain ⟨-, -, -, -, z4, -, -, -, -⟩ := HCX.out w5 HL5.out.bel
  go_upto_region 6 with (first
    | (refine wpList_append_src rfl (.tmp 29) (.tmp 35) 39 rfl eltU8 w1.heap.size (intL c.k ++ intL c.r.txn ++ intL c.r.home ++ intL c.r.start).length _ HM6.out.row rfl (numL c.r.writes.length).length _ (lb_src HO6.out) rfl (u8_one _) hs6 (by omega) HM6.out.sz ?_; intro v6 w6 ho6 hg6 _; have HL6 := Lib.hid (HM6.out.more hg6 ho6); clear ho6 hg6)
    | (go_at_call 46; refine (refNum_call c.r.writes.length _ (by rfl) w5 (by omega)).mono ?_; rintro e6 y6 ⟨u6, rfl, ho6, hb6⟩; have HO6 := Lib.hid ho6; have HM6 := Lib.hid (HL5.out.later hb6); clear ho6 hb6))
  clear z4 hwr1
  obtain ⟨L6, hL6⟩ : ∃ L6, L6 = intL c.k ++ intL c.r.txn ++ intL c.r.home ++ intL c.r.start ++ numL c.r.writes.length := ⟨_, rfl⟩
  have hl6 : L6.length + (opsBL c.r.writes).length + (numL c.r.reads.length).length + (intsBL c.r.reads).length + (endBL c.e).length ≤ 900000 := by rw [hL6]; simp; omega
  rw [← hL6] at HL6
  have HLE6 := Lib.hid hL6
  clear hL6 hs3 hs4 hs5 hs6
  obtain ⟨-, -, -, -, z4, -, -, -, -⟩ := HCX.out w6 HL6.out.bel
  go_wp2_with fail
  clear z4
  go_loopw [3, 41] (fun v i wr => ∃ k : Nat, k ≤ c.r.writes.length ∧ i = vi k ∧ Hid (LB w1 v (L6 ++ opsBL (c.r.writes.take k)) wr)) (fun _ i _ => c.r.writes.length - (intOf i).toNat)
  case atStart => exact ⟨0, Nat.zero_le _, rfl, Lib.hid (by simpa [opsBL] using HL6.out)⟩
  case round =>
    obtain ⟨wj, rfl⟩ : ∃ wj : World, wj = wr := ⟨_, rfl⟩
    obtain ⟨k, hk, rfl, HJ⟩ := hrel
    by_cases hlt : k < c.r.writes.length
    · have k1 : decide ((k : Int) < c.r.writes.length) = true := decide_eq_true (by omega)
      have k2 : (k : Int) < c.r.writes.length := by omega
      have hwk : IntKind.i64.wrap ((k : Int) + 1) = (k : Int) + 1 := IntWalk.i64_in _ (by omega)
      obtain ⟨o, ho⟩ := some_at hlt
      have hoi := HI.out.r.ws o (List.mem_of_getElem? ho)
      obtain ⟨a', n', c', he, _, _, hcells⟩ := (show RdOps wj (.slice aw c.r.writes.length cw) c.r.writes from (HRD.out.later (HB0.out.trans (HJ.out.bel.mono HB0.out.size))).ws).at
      obtain ⟨b, off, ha, c0, c1, c2⟩ := hcells k o ho
      simp only [Value.slice.injEq] at he
      obtain ⟨rfl, -, -⟩ := he
      subst ha
      have htk := opsBL_snoc ho
      have hlk := opsBL_take c.r.writes k
      have hla := intL_length hoi.1
      have hlb := intL_length hoi.2
      have HTK := Lib.hid htk
      have HOI := Lib.hid hoi
      have HLA := Lib.hid (HJ.out.later ((Below.refl wj.heap.size wj).alloc (Nat.le_refl _) (.cells #[vi o.kind, vi o.key, vi o.val] 104)))
      have HYA := Lib.hid (Bt.alloc_at wj (.cells #[vi o.kind, vi o.key, vi o.val] 104))
      clear hcells ho htk hoi
      go_upto_region 9 with fail
      clear c0 c1 c2
      generalize wj.alloc (.cells #[vi o.kind, vi o.key, vi o.val] 104) = wa at *
      obtain ⟨Y, hY⟩ : ∃ Y, Y = wj.heap.size := ⟨_, rfl⟩
      rw [← hY] at HYA ⊢
      clear hY
      have HCH := Lib.hid (show ∀ W : World, W.heap[Y]? = some (.cells #[vi o.kind, vi o.key, vi o.val] 104) → W.cell? ⟨Y, 1, none⟩ = some (vi o.key) ∧ W.cell? ⟨Y, 2, none⟩ = some (vi o.val) from fun W h => ⟨by rw [Bt.cell_of h]; rfl, by rw [Bt.cell_of h]; rfl⟩)
      have hs7 : (L6 ++ opsBL (c.r.writes.take k)).length + (intL o.key).length ≤ 68719476736 := by simp; omega
      have hs8 : (L6 ++ opsBL (c.r.writes.take k) ++ intL o.key).length + (intL o.val).length ≤ 68719476736 := by simp; omega
      have hYl := (Array.getElem?_eq_some_iff.1 HYA.out).1
      have HK0 := Lib.hid (show Below wa.heap.size wa wa.drew from (Below.refl _ _).drew)
      have HJ0 := Lib.hid (HLA.out.later HK0.out)
      have HY0 := Lib.hid (show wa.drew.heap[Y]? = _ from HYA.out)
      go_region_held3 (fun W : World => W.cell? ⟨Y, 1, none⟩ = some (vi o.key) ∧ W.cell? ⟨Y, 2, none⟩ = some (vi o.val))
        (first | with_reducible exact HCH.out _ HY0.out | with_reducible exact HCH.out _ HYa.out | with_reducible exact HCH.out _ HYb.out | with_reducible exact HCH.out _ HYc.out | with_reducible exact HCH.out _ HYd.out)
        (first
          | (go_at_call 45; refine (refInt_call o.val wb HOI.out.2).mono ?_; rintro ec yc ⟨uc, rfl, hoc, hbc⟩; have HOc := Lib.hid hoc; have HYc := Lib.hid ((hbc.block Y (Array.getElem?_eq_some_iff.1 HYb.out).1).trans HYb.out); have HMc := Lib.hid (HLb.out.later hbc); clear hoc hbc)
          | (go_at_call 45; refine (refInt_call o.key wa.drew HOI.out.1).mono ?_; rintro ea ya ⟨ua, rfl, hoa, hba⟩; have HOa := Lib.hid hoa; have HYa := Lib.hid ((hba.block Y (Array.getElem?_eq_some_iff.1 HY0.out).1).trans HY0.out); have HMa := Lib.hid (HJ0.out.later hba); clear hoa hba)
          | (refine step_append_src rfl _ _ 39 rfl eltU8 w1.heap.size (L6 ++ opsBL (c.r.writes.take k) ++ intL o.key).length _ HMc.out.row rfl (intL o.val).length _ (lb_src HOc.out) rfl (u8_one _) hs8 (by omega) HMc.out.sz ?_; intro vd wd hod hgd _; have HLd := Lib.hid (HMc.out.more hgd hod); have HYd := Lib.hid (lb_keep HMc.out.row HYc.out (by decide) hgd); clear hod hgd)
          | (refine step_append_src rfl _ _ 39 rfl eltU8 w1.heap.size (L6 ++ opsBL (c.r.writes.take k)).length _ HMa.out.row rfl (intL o.key).length _ (lb_src HOa.out) rfl (u8_one _) hs7 (by omega) HMa.out.sz ?_; intro vb wb hob hgb _; have HLb := Lib.hid (HMa.out.more hgb hob); have HYb := Lib.hid (lb_keep HMa.out.row HYa.out (by decide) hgb); clear hob hgb))
      go_wp2_with fail
      refine ⟨⟨k + 1, by omega, by go_num, Lib.hid ?_⟩, by simp only [intOf]; omega⟩
      rw [HTK.out, ← List.append_assoc, ← List.append_assoc]; exact HLd.out
    · have k1 : decide ((k : Int) < c.r.writes.length) = false := decide_eq_false (by omega)
      have hke := Lib.hid (show k = c.r.writes.length by omega)
      have HL7 : Hid (LB w1 u3 (L6 ++ opsBL c.r.writes) wj) := by have := HJ.out; rw [hke.out, List.take_length] at this; exact Lib.hid this
      clear HJ
      obtain ⟨L7, hL7⟩ : ∃ L7, L7 = L6 ++ opsBL c.r.writes := ⟨_, rfl⟩
      rw [← hL7] at HL7
      have hl7 : L7.length + (numL c.r.reads.length).length + (intsBL c.r.reads).length + (endBL c.e).length ≤ 900000 := by rw [hL7]; simp; omega
      have HLE7 := Lib.hid hL7
      clear hL7
      have hs8 : L7.length + (numL c.r.reads.length).length ≤ 68719476736 := by omega
      obtain ⟨-, -, -, -, -, z5, -, -, -⟩ := HCX.out wj HL7.out.bel
      go_upto_region 12 with (first
        | (refine wpList_append_src rfl (.tmp 55) (.tmp 61) 39 rfl eltU8 w1.heap.size (L7).length _ HM8.out.row rfl (numL c.r.reads.length).length _ (lb_src HO8.out) rfl (u8_one _) hs8 (by omega) HM8.out.sz ?_; intro v8 w8 ho8 hg8 _; have HL8 := Lib.hid (HM8.out.more hg8 ho8); clear ho8 hg8)
        | (go_at_call 46; refine (refNum_call c.r.reads.length _ (by rfl) wj (by omega)).mono ?_; rintro e8 y8 ⟨u8, rfl, ho8, hb8⟩; have HO8 := Lib.hid ho8; have HM8 := Lib.hid (HL7.out.later hb8); clear ho8 hb8))
      clear z5 hwr2
      obtain ⟨L8, hL8⟩ : ∃ L8, L8 = L7 ++ numL c.r.reads.length := ⟨_, rfl⟩
      have hl8 : L8.length + (intsBL c.r.reads).length + (endBL c.e).length ≤ 900000 := by rw [hL8]; simp; omega
      rw [← hL8] at HL8
      have HLE8 := Lib.hid hL8
      clear hL8 hs8 hk hlt k1
      obtain ⟨-, -, -, -, -, z5, -, -, -⟩ := HCX.out w8 HL8.out.bel
      go_wp2_with fail
      clear z5
      go_loopw [3, 67] (fun v i wr => ∃ k : Nat, k ≤ c.r.reads.length ∧ i = vi k ∧ Hid (LB w1 v (L8 ++ intsBL (c.r.reads.take k)) wr)) (fun _ i _ => c.r.reads.length - (intOf i).toNat)
      case atStart => exact ⟨0, Nat.zero_le _, rfl, Lib.hid (by simpa [intsBL] using HL8.out)⟩
      case round =>
        obtain ⟨wq, rfl⟩ : ∃ wq : World, wq = wr := ⟨_, rfl⟩
        obtain ⟨k, hk, rfl, HJ⟩ := hrel
        by_cases hlt : k < c.r.reads.length
        · have k1 : decide ((k : Int) < c.r.reads.length) = true := decide_eq_true (by omega)
          have k2 : (k : Int) < c.r.reads.length := by omega
          have hwk : IntKind.i64.wrap ((k : Int) + 1) = (k : Int) + 1 := IntWalk.i64_in _ (by omega)
          obtain ⟨o, ho⟩ := some_at hlt
          have hoi := HI.out.r.rs o (List.mem_of_getElem? ho)
          obtain ⟨a', n', c', he, _, _, hcells⟩ := (show RdInts wq (.slice ar c.r.reads.length cr) c.r.reads from (HRD.out.later (HB0.out.trans (HJ.out.bel.mono HB0.out.size))).rs).at
          obtain ⟨b, off, ha, k3, _⟩ := hcells k o ho
          simp only [Value.slice.injEq] at he
          obtain ⟨rfl, -, -⟩ := he
          subst ha
          have htk := intsBL_snoc ho
          have hlk := intsBL_take c.r.reads k
          have hlo := intL_length hoi
          have HTK := Lib.hid htk
          have HOI := Lib.hid hoi
          clear hcells ho htk hoi
          have hs6 : (L8 ++ intsBL (c.r.reads.take k)).length + (intL o).length ≤ 68719476736 := by simp; omega
          go_wp2_with (first
            | (refine wpList_append_src rfl (.tmp 71) (.tmp 73) 39 rfl eltU8 w1.heap.size (L8 ++ intsBL (c.r.reads.take k)).length _ HM6.out.row rfl (intL o).length _ (lb_src HO6.out) rfl (u8_one _) hs6 (by omega) HM6.out.sz ?_; intro v6 w6 ho6 hg6 _; have HL6 := Lib.hid (HM6.out.more hg6 ho6); clear ho6 hg6)
            | (go_at_call 45; refine (refInt_call o wq HOI.out).mono ?_; rintro e6 y6 ⟨u6, rfl, ho6, hb6⟩; have HO6 := Lib.hid ho6; have HM6 := Lib.hid (HJ.out.later hb6); clear ho6 hb6))
          refine ⟨⟨k + 1, by omega, by go_num, Lib.hid ?_⟩, by simp only [intOf]; omega⟩
          rw [HTK.out, ← List.append_assoc]; exact HL6.out
        · have k1 : decide ((k : Int) < c.r.reads.length) = false := decide_eq_false (by omega)
          have hke := Lib.hid (show k = c.r.reads.length by omega)
          have HL9 : Hid (LB w1 u3 (L8 ++ intsBL c.r.reads) wq) := by have := HJ.out; rw [hke.out, List.take_length] at this; exact Lib.hid this
          clear HJ
          obtain ⟨L9, hL9⟩ : ∃ L9, L9 = L8 ++ intsBL c.r.reads := ⟨_, rfl⟩
          rw [← hL9] at HL9
          have hl9 : L9.length + (endBL c.e).length ≤ 900000 := by rw [hL9]; simp; omega
          have HLE9 := Lib.hid hL9
          clear hL9
          have hs10 : L9.length + (endBL c.e).length ≤ 68719476736 := by omega
          obtain ⟨-, -, -, -, -, -, z6, z7, z8⟩ := HCX.out wq HL9.out.bel
          go_wp2_with (first
            | (go_at_call 47; refine (refBytes_call w10 (lb_src HL10.out.row) (by simp; omega)).mono ?_; rintro e12 w12 ⟨v12, rfl, ho12, hb12⟩; have HO12 := Lib.hid ho12; have HB12 := Lib.hid hb12; clear ho12 hb12)
            | (refine wpList_append_src rfl (.tmp 76) (.tmp 79) 39 rfl eltU8 w1.heap.size L9.length _ HM10.out.row rfl (endBL c.e).length _ (lb_src HO10.out) rfl (u8_one _) hs10 (by omega) HM10.out.sz ?_; intro v10 w10 ho10 hg10 _; have HL10 := Lib.hid (HM10.out.more hg10 ho10); clear ho10 hg10)
            | (go_at_call 48; refine (endBits21_call c.e wq HI.out.e).mono ?_; rintro e10 y10 ⟨u10, rfl, ho10, hb10⟩; have HO10 := Lib.hid ho10; have HM10 := Lib.hid (HL9.out.later hb10); clear ho10 hb10))
          go_ret
          have hB := HB0.out.trans (HL10.out.bel.mono HB0.out.size)
          have hLL : L9 ++ endBL c.e = cmdL c := by rw [HLE9.out, HLE8.out, HLE7.out, HLE6.out]; simp [cmdL, rdyBL]
          exact ⟨_, rfl, by rw [← hLL]; exact own_mono HO12.out hB.size, hB.trans (HB12.out.mono hB.size)⟩
end Go.Proofs.Ytdkkpkgfiodlbaa

/- The law ShardBytes: how its arguments read; bytes and bits, plain; Copy. -/
namespace Go.Proofs.Ytdkkpkgfiodlbaa
open Go.RowKit Go.Maps
open Go.ChangeShapes Go.WideShapes

theorem putL8_inj {a b : Nat} (ha : a < 256) (hb : b < 256) (h : putL a 8 = putL b 8) : a = b := by
  have h1 := valL_putL a 8
  have h2 := valL_putL b 8
  rw [h, h2] at h1
  rw [Nat.mod_eq_of_lt (by simpa using hb), Nat.mod_eq_of_lt (by simpa using ha)] at h1
  exact h1.symm
theorem bitsOf_inj : ∀ {xs bs : List Nat}, (∀ b ∈ xs, b < 256) → (∀ b ∈ bs, b < 256) → bitsOf xs = bitsOf bs → xs = bs
  | [], [], _, _, _ => rfl
  | [], b :: bs, _, _, h => by have := congrArg List.length h; rw [bitsOf_length, bitsOf_length] at this; simp at this
  | a :: xs, [], _, _, h => by have := congrArg List.length h; rw [bitsOf_length, bitsOf_length] at this; simp at this
  | a :: xs, b :: bs, ha, hb, h => by
    have h' : putL a 8 ++ bitsOf xs = putL b 8 ++ bitsOf bs := h
    obtain ⟨h1, h2⟩ := List.append_inj h' (by rw [putL_length, putL_length])
    rw [putL8_inj (ha a (by simp)) (hb b (by simp)) h1, bitsOf_inj (fun x hx => ha x (by simp [hx])) (fun x hx => hb x (by simp [hx])) h2]
/-- Bytes whose bits are L, filled up, are L's bytes. -/
theorem bytes_eq {L : List Bool} {bs : List Nat} {z : Nat} (hb : ∀ b ∈ bs, b < 256) (hz : z ≤ 7) (h : bitsOf bs = L ++ List.replicate z false) : btBytes L = bs := by
  obtain ⟨z', hz', h'⟩ := bitsOf_btBytes L
  have e1 := congrArg List.length h
  have e2 := congrArg List.length h'
  rw [bitsOf_length] at e1 e2
  simp only [List.length_append, List.length_replicate] at e1 e2
  have hzz : z' = z := by omega
  subst hzz
  refine bitsOf_inj (fun b hx => ?_) hb (h'.trans h.symm)
  obtain ⟨j, _, rfl⟩ := List.mem_map.1 hx
  exact btByte_lt _ _
theorem bits_len {L : List Bool} {bs : List Nat} {z n : Nat} (h : bitsOf bs = L ++ List.replicate z false) (hl : bs.length ≤ n) : L.length ≤ 8 * n := by
  have e1 := congrArg List.length h
  rw [bitsOf_length] at e1
  simp only [List.length_append, List.length_replicate] at e1
  omega
theorem AnsBOk.j {a : Ans} (h : AnsBOk a) : AnsJ a := ⟨h.err, h.vs.2, h.at_, h.by_, h.home, h.e⟩
theorem CmdBOk.j {c : Cmd21} (h : CmdBOk c) : CmdJ c := ⟨h.k, ⟨h.r.txn, h.r.home, h.r.start, fun o ho => (h.r.ws.2 o ho).2, h.r.rs.2⟩, h.e⟩
theorem CmdI.j {c : Cmd21} (h : CmdI c) : CmdJ c := ⟨h.k, h.r.ok, h.endOk⟩

set_option maxRecDepth 100000 in
set_option maxHeartbeats 1000000 in
theorem copy21_call (v : Value) (bs : List Nat) (w : World) (hv : Src w v 1 bs.length (bs.map u8)) (hl : bs.length ≤ 1048576) :
    Calls Try.prog 27 #[v] w fun e w' => ∃ v', e = .returned v' ∧ OwU w.heap.size w' v' bs ∧ Below w.heap.size w w' := by
  have HO0 := Lib.hid (World.ownsRow_lit (base := w.heap.size) (e := 5) (size := 1) w #[] 0 (Nat.le_refl _) (by simp [maxLen]) rfl)
  have HB0 := Lib.hid ((Below.refl w.heap.size w).alloc (Nat.le_refl _) (.cells #[] 5))
  have HS := Lib.hid (hv.below HB0.out)
  obtain ⟨a, c, rfl, hlen, hn, hc⟩ := hv
  clear hlen hn hc
  go_enter Try.func27, Try.ntmps27
  go_wp2_with (at_builtin; refine wpList_append_src rfl _ _ 39 rfl eltU8 w.heap.size 0 [] HO0.out rfl bs.length _ HS.out rfl (u8_one _) (by omega) (by omega) (by simp) ?_; intro v1 w1 hown hg _)
  go_ret
  exact ⟨_, rfl, by simpa [OwU] using hown, HB0.out.grown hg (by simp) (by simp [Value.ownBlock])⟩

/-- A row of bytes that can be read. -/
def RdB21 (w : World) (v : Value) (bs : List Nat) : Prop := Src w v 1 bs.length (bs.map u8) ∧ (∀ b ∈ bs, b < 256) ∧ bs.length ≤ 9223372036854775807
section
variable {H : Type} {enc : TypeId × Value → H} {w : World} {spare : Nat → Bool} {held : Bool} {base : Nat} {v : Value} {d : DataW H} {ps : List MemPlace}
theorem errno_cell {m : Nat} {c : Value} {y : DataW H × List MemPlace} (h : DataW.trod enc Try.prog w 0 spare held m 35 [c] = some y) : ∃ n, c = vi n ∧ i64 n := by
  obtain ⟨n, hc, -, hw⟩ := DataW.trod_int Try.underlying35 h
  exact ⟨n, by simpa using hc, wf_i64 hw⟩
theorem cells_errno : Try.prog.cellsOf 35 = 1 := by kernel_rfl
theorem cells_ans21 : Try.prog.cellsOf 37 = 8 := by kernel_rfl
theorem cells_u8 : Try.prog.cellsOf 5 = 1 := by kernel_rfl
def AnsVI (w : World) (v : Value) (a : Ans) : Prop := ∃ vv, v = ansV a vv ∧ RdInts w vv a.vals ∧ AnsJ a
def CmdVI (w : World) (v : Value) (c : Cmd21) : Prop := ∃ wv rv, v = cmdV c wv rv ∧ RdyS w ⟨wv, rv, c.r⟩ ∧ RdyI c.r ∧ EndI c.e ∧ i64 c.k
set_option maxRecDepth 100000 in
theorem ans_cells {m : Nat} {cs : List Value} {y : DataW H × List MemPlace} (hl : cs.length = 8) (h : DataW.trod enc Try.prog w 0 spare held m 37 cs = some y) : ∃ a vv, cs = [vi a.err, vv, vi a.at_, vi a.by_, vi a.home, vi a.e.txn, .bool a.e.commit, vi a.e.at_] ∧ RdInts w vv a.vals ∧ AnsJ a := by
  obtain ⟨xs, n, _, _, _, hlen, hf⟩ := DataW.trod_struct Try.underlying37 h
  match cs, hl, xs, hlen with
  | [c0, c1, c2, c3, c4, c5, c6, c7], _, [y0, y1, y2, y3, y4, y5], _ =>
    have h0 : DataW.trod enc Try.prog w 0 spare held n 35 (([c0, c1, c2, c3, c4, c5, c6, c7].drop 0).take (Try.prog.cellsOf 35)) = some y0 := hf 0 _ rfl
    have h1 : DataW.trod enc Try.prog w 0 spare held n 27 (([c0, c1, c2, c3, c4, c5, c6, c7].drop 1).take (Try.prog.cellsOf 27)) = some y1 := hf 1 _ rfl
    have h2 : DataW.trod enc Try.prog w 0 spare held n 3 (([c0, c1, c2, c3, c4, c5, c6, c7].drop 2).take (Try.prog.cellsOf 3)) = some y2 := hf 2 _ rfl
    have h3 : DataW.trod enc Try.prog w 0 spare held n 3 (([c0, c1, c2, c3, c4, c5, c6, c7].drop 3).take (Try.prog.cellsOf 3)) = some y3 := hf 3 _ rfl
    have h4 : DataW.trod enc Try.prog w 0 spare held n 3 (([c0, c1, c2, c3, c4, c5, c6, c7].drop 4).take (Try.prog.cellsOf 3)) = some y4 := hf 4 _ rfl
    have h5 : DataW.trod enc Try.prog w 0 spare held n 31 (([c0, c1, c2, c3, c4, c5, c6, c7].drop 5).take (Try.prog.cellsOf 31)) = some y5 := hf 5 _ rfl
    rw [cells_errno] at h0
    rw [cells_ints] at h1
    rw [cells_int] at h2 h3 h4
    rw [cells_end] at h5
    obtain ⟨a, rfl, ha⟩ := errno_cell h0
    obtain ⟨rs, hr, hri⟩ := ints_read h1
    obtain ⟨b, rfl, hb⟩ := int_cell h2
    obtain ⟨c, rfl, hc⟩ := int_cell h3
    obtain ⟨d, rfl, hd⟩ := int_cell h4
    obtain ⟨e, he, hei⟩ := end_cells (by rfl) h5
    cases he
    exact ⟨⟨a, rs, b, c, d, e⟩, c1, rfl, hr, ⟨ha, hri, hb, hc, hd, ⟨hei.txn, hei.at_⟩⟩⟩
set_option maxRecDepth 100000 in
theorem ans_of_row (hk : Value.okWide Try.prog w .any base 37 v) (h : DataW.Trod enc Try.prog w 0 spare held 37 v d ps) : ∃ a, AnsVI w v a := by
  obtain ⟨cs, rfl, hsz⟩ := okWide_struct Try.underlying37 hk
  obtain ⟨fuel, hf⟩ := h
  obtain ⟨a, vv, hx, h1, h2⟩ := ans_cells (cs := cs.toList) (by simpa using hsz.trans cells_ans21) hf
  refine ⟨a, vv, ?_, h1, h2⟩
  unfold ansV ansC
  rw [← hx]
set_option maxRecDepth 100000 in
theorem cmd_of_row (hk : Value.okWide Try.prog w .any base 33 v) (h : DataW.Trod enc Try.prog w 0 spare held 33 v d ps) : ∃ c, CmdVI w v c := by
  obtain ⟨cs, rfl, hsz⟩ := okWide_struct Try.underlying33 hk
  obtain ⟨fuel, hf⟩ := h
  obtain ⟨o, ⟨wv, rv, hx, h1, h2, h3⟩, h4⟩ := cmdI_cells (cs := cs.toList) (by simpa using hsz.trans cells_cmd21) hf
  refine ⟨o, wv, rv, ?_, h1, h2, h3, h4⟩
  unfold cmdV cmdC
  unfold cmd21C at hx
  rw [← hx]
set_option maxRecDepth 100000 in
theorem bytes_of_row (hk : Value.okWide Try.prog w .any base 39 v) (h : DataW.Trod enc Try.prog w 0 spare held 39 v d ps) : ∃ bs, RdB21 w v bs := by
  obtain ⟨a, l, c, rfl⟩ := okWide_slice Try.underlying39 hk
  obtain ⟨fuel, hf⟩ := h
  obtain ⟨us, hus⟩ : ∃ us : List Nat, RdS 1 (fun _ cs (b : Nat) => cs = [u8 b] ∧ b < 256) w (.slice a l c) us := rds_of_trod Try.underlying39 cells_u8 (by omega) hf fun m cs y _ hy => by
    obtain ⟨n, rfl, _, hw⟩ := DataW.trod_int Try.underlying5 hy
    have hb : 0 ≤ n ∧ n ≤ 255 := by simp [Lit.wf, IntKind.min, IntKind.max, IntKind.signed, IntKind.bits] at hw; omega
    refine ⟨n.toNat, ?_, by omega⟩
    have : (n.toNat : Int) = n := by omega
    unfold u8
    rw [this]
  obtain ⟨a', len, cap, h1, h2, h3, h4, h5, h6⟩ := hus
  simp only [Value.slice.injEq] at h1
  obtain ⟨rfl, rfl, rfl⟩ := h1
  subst h2
  refine ⟨us, ⟨a, c, rfl, by simp, h5, fun ad hd j u hj => ?_⟩, fun b hb => ?_, h3⟩
  · rw [List.getElem?_map, Option.map_eq_some_iff] at hj
    obtain ⟨b, hb, rfl⟩ := hj
    obtain ⟨g, off, cs, ha, hl, hc, he, _⟩ := h6 j b hb
    subst he
    rw [hd] at ha
    cases ha
    rw [addr_add]
    simpa using hc 0 _ rfl
  · obtain ⟨j, hj⟩ := List.mem_iff_getElem?.1 hb
    obtain ⟨g, off, cs, ha, hl, hc, he, h7⟩ := h6 j b hj
    exact h7
end
end Go.Proofs.Ytdkkpkgfiodlbaa

/- The state of layer 19's reference in memory; its writes, has and later. -/
namespace Go.Proofs.Ytdkkpkgfiodlbaa
open Go.RowKit Go.Maps
/-- A version of a key: the key, from which time on, the value. -/
structure Ver3 where
  key : Int
  at_ : Int
  val : Int
deriving DecidableEq
def ver3V (x : Ver3) : List Value := [vi x.key, vi x.at_, vi x.val]
def EVer3 (_ : World) (cs : List Value) (x : Ver3) : Prop := cs = ver3V x
abbrev RdVer3 (w : World) (v : Value) (l : List Ver3) : Prop := RdS 3 EVer3 w v l
theorem RdVer3.later {A B : World} {v : Value} {l : List Ver3} (h : RdVer3 A v l) (hb : Below A.heap.size A B) : RdVer3 B v l := RdS.below h hb fun _ _ h => h
theorem RdVer3.at {w : World} {v : Value} {xs : List Ver3} (h : RdVer3 w v xs) : ∃ a len cap, v = .slice a len cap ∧ len = xs.length ∧ xs.length ≤ 9223372036854775807 ∧ ∀ j x, xs[j]? = some x → ∃ b off, a = some ⟨b, off, none⟩ ∧ w.cell? ⟨b, off + j * 3, none⟩ = some (vi x.key) ∧ w.cell? ⟨b, off + j * 3 + 1, none⟩ = some (vi x.at_) ∧ w.cell? ⟨b, off + j * 3 + 2, none⟩ = some (vi x.val) := by
  obtain ⟨a, len, cap, h1, h2, h3, h4, h5, h6⟩ := h
  refine ⟨a, len, cap, h1, h2, h3, fun j x hj => ?_⟩
  obtain ⟨b, off, cs, ha, hl, hc, rfl⟩ := h6 j x hj
  exact ⟨b, off, ha, by simpa using hc 0 _ rfl, by simpa [Nat.add_assoc] using hc 1 _ rfl, by simpa [Nat.add_assoc] using hc 2 _ rfl⟩
/-- One who waits, as an element of a slice. -/
def ERdy (w : World) (cs : List Value) (r : Rdy) : Prop := ∃ wv rv, cs = [vi r.txn, vi r.home, vi r.start, wv, rv] ∧ RdyS w ⟨wv, rv, r⟩
abbrev RdRdy (w : World) (v : Value) (l : List Rdy) : Prop := RdS 5 ERdy w v l
theorem ERdy.later {A B : World} {cs : List Value} {r : Rdy} (h : ERdy A cs r) (hb : Below A.heap.size A B) : ERdy B cs r := by
  obtain ⟨wv, rv, h1, h2⟩ := h; exact ⟨wv, rv, h1, h2.later hb⟩
theorem RdRdy.later {A B : World} {v : Value} {l : List Rdy} (h : RdRdy A v l) (hb : Below A.heap.size A B) : RdRdy B v l := RdS.below h hb fun _ _ h => h.later hb
theorem RdRdy.at {w : World} {v : Value} {xs : List Rdy} (h : RdRdy w v xs) : ∃ a len cap, v = .slice a len cap ∧ len = xs.length ∧ xs.length ≤ 9223372036854775807 ∧ ∀ j x, xs[j]? = some x → ∃ b off wv rv, a = some ⟨b, off, none⟩ ∧ RdyS w ⟨wv, rv, x⟩ ∧ w.cell? ⟨b, off + j * 5, none⟩ = some (vi x.txn) ∧ w.cell? ⟨b, off + j * 5 + 1, none⟩ = some (vi x.home) ∧ w.cell? ⟨b, off + j * 5 + 2, none⟩ = some (vi x.start) ∧ w.cell? ⟨b, off + j * 5 + 3, none⟩ = some wv ∧ w.cell? ⟨b, off + j * 5 + 4, none⟩ = some rv := by
  obtain ⟨a, len, cap, h1, h2, h3, h4, h5, h6⟩ := h
  refine ⟨a, len, cap, h1, h2, h3, fun j x hj => ?_⟩
  obtain ⟨b, off, cs, ha, hl, hc, wv, rv, rfl, hx⟩ := h6 j x hj
  exact ⟨b, off, wv, rv, ha, hx, by simpa using hc 0 _ rfl, by simpa [Nat.add_assoc] using hc 1 _ rfl, by simpa [Nat.add_assoc] using hc 2 _ rfl, by simpa [Nat.add_assoc] using hc 3 _ rfl, by simpa [Nat.add_assoc] using hc 4 _ rfl⟩
/-- An end, as an element of a slice. -/
def EEn (_ : World) (cs : List Value) (e : EndM) : Prop := cs = [vi e.txn, .bool e.commit, vi e.at_]
abbrev RdEn (w : World) (v : Value) (l : List EndM) : Prop := RdS 3 EEn w v l
theorem RdEn.later {A B : World} {v : Value} {l : List EndM} (h : RdEn A v l) (hb : Below A.heap.size A B) : RdEn B v l := RdS.below h hb fun _ _ h => h
theorem RdEn.at {w : World} {v : Value} {xs : List EndM} (h : RdEn w v xs) : ∃ a len cap, v = .slice a len cap ∧ len = xs.length ∧ xs.length ≤ 9223372036854775807 ∧ ∀ j x, xs[j]? = some x → ∃ b off, a = some ⟨b, off, none⟩ ∧ w.cell? ⟨b, off + j * 3, none⟩ = some (vi x.txn) ∧ w.cell? ⟨b, off + j * 3 + 1, none⟩ = some (.bool x.commit) ∧ w.cell? ⟨b, off + j * 3 + 2, none⟩ = some (vi x.at_) := by
  obtain ⟨a, len, cap, h1, h2, h3, h4, h5, h6⟩ := h
  refine ⟨a, len, cap, h1, h2, h3, fun j x hj => ?_⟩
  obtain ⟨b, off, cs, ha, hl, hc, rfl⟩ := h6 j x hj
  exact ⟨b, off, ha, by simpa using hc 0 _ rfl, by simpa [Nat.add_assoc] using hc 1 _ rfl, by simpa [Nat.add_assoc] using hc 2 _ rfl⟩

/-- The reference's state. -/
structure RSt where
  serial : Bool
  bugs : Int
  vs : List Ver3
  ws : List Rdy
  es : List EndM
/-- .. and the slice values that its lists lie in. -/
structure RSV where
  vv : Value
  wv : Value
  ev : Value
  s : RSt
def rsC (x : RSV) : Array Value := #[.bool x.s.serial, vi x.s.bugs, x.vv, x.wv, x.ev]
def rsV (x : RSV) : Value := .agg (rsC x)
structure RdSt (W : World) (x : RSV) : Prop where
  vs : RdVer3 W x.vv x.s.vs
  ws : RdRdy W x.wv x.s.ws
  es : RdEn W x.ev x.s.es
theorem RdSt.later {A B : World} {x : RSV} (h : RdSt A x) (hb : Below A.heap.size A B) : RdSt B x := ⟨h.vs.later hb, h.ws.later hb, h.es.later hb⟩

theorem RdOps.el {w : World} {a : Option Addr} {n c : Nat} {l : List GOp} (h : RdOps w (.slice a n c) l) {k : Nat} {o : GOp} (ho : l[k]? = some o) : ∃ b off, a = some ⟨b, off, none⟩ ∧ w.cell? ⟨b, off + k * 3, none⟩ = some (vi o.kind) ∧ w.cell? ⟨b, off + k * 3 + 1, none⟩ = some (vi o.key) ∧ w.cell? ⟨b, off + k * 3 + 2, none⟩ = some (vi o.val) := by
  obtain ⟨_, _, _, he, _, _, hc⟩ := h.at
  simp only [Value.slice.injEq] at he
  obtain ⟨rfl, -, -⟩ := he
  exact hc k o ho
theorem RdInts.el {w : World} {a : Option Addr} {n c : Nat} {l : List Int} (h : RdInts w (.slice a n c) l) {k : Nat} {o : Int} (ho : l[k]? = some o) : ∃ b off, a = some ⟨b, off, none⟩ ∧ w.cell? ⟨b, off + k, none⟩ = some (vi o) ∧ i64 o := by
  obtain ⟨_, _, _, he, _, _, hc⟩ := h.at
  simp only [Value.slice.injEq] at he
  obtain ⟨rfl, -, -⟩ := he
  exact hc k o ho
theorem RdVer3.el {w : World} {a : Option Addr} {n c : Nat} {l : List Ver3} (h : RdVer3 w (.slice a n c) l) {k : Nat} {x : Ver3} (ho : l[k]? = some x) : ∃ b off, a = some ⟨b, off, none⟩ ∧ w.cell? ⟨b, off + k * 3, none⟩ = some (vi x.key) ∧ w.cell? ⟨b, off + k * 3 + 1, none⟩ = some (vi x.at_) ∧ w.cell? ⟨b, off + k * 3 + 2, none⟩ = some (vi x.val) := by
  obtain ⟨_, _, _, he, _, _, hc⟩ := h.at
  simp only [Value.slice.injEq] at he
  obtain ⟨rfl, -, -⟩ := he
  exact hc k x ho
theorem RdEn.el {w : World} {a : Option Addr} {n c : Nat} {l : List EndM} (h : RdEn w (.slice a n c) l) {k : Nat} {x : EndM} (ho : l[k]? = some x) : ∃ b off, a = some ⟨b, off, none⟩ ∧ w.cell? ⟨b, off + k * 3, none⟩ = some (vi x.txn) ∧ w.cell? ⟨b, off + k * 3 + 1, none⟩ = some (.bool x.commit) ∧ w.cell? ⟨b, off + k * 3 + 2, none⟩ = some (vi x.at_) := by
  obtain ⟨_, _, _, he, _, _, hc⟩ := h.at
  simp only [Value.slice.injEq] at he
  obtain ⟨rfl, -, -⟩ := he
  exact hc k x ho
theorem RdRdy.el {w : World} {a : Option Addr} {n c : Nat} {l : List Rdy} (h : RdRdy w (.slice a n c) l) {k : Nat} {x : Rdy} (ho : l[k]? = some x) : ∃ b off wv rv, a = some ⟨b, off, none⟩ ∧ RdyS w ⟨wv, rv, x⟩ ∧ w.cell? ⟨b, off + k * 5, none⟩ = some (vi x.txn) ∧ w.cell? ⟨b, off + k * 5 + 1, none⟩ = some (vi x.home) ∧ w.cell? ⟨b, off + k * 5 + 2, none⟩ = some (vi x.start) ∧ w.cell? ⟨b, off + k * 5 + 3, none⟩ = some wv ∧ w.cell? ⟨b, off + k * 5 + 4, none⟩ = some rv := by
  obtain ⟨_, _, _, he, _, _, hc⟩ := h.at
  simp only [Value.slice.injEq] at he
  obtain ⟨rfl, -, -⟩ := he
  exact hc k x ho
theorem any_take {α : Type} {q : α → Bool} {l : List α} {k : Nat} {o : α} (h : ∀ x ∈ l.take k, q x = false) (ho : l[k]? = some o) (hq : q o = false) : ∀ x ∈ l.take (k + 1), q x = false := fun x hx => by
  rw [take_at ho] at hx
  rcases List.mem_append.1 hx with h1 | h1
  · exact h x h1
  · rw [List.mem_singleton.1 h1]; exact hq
theorem any_none {α : Type} {q : α → Bool} {l : List α} {k : Nat} (h : ∀ x ∈ l.take k, q x = false) (hk : ¬ k < l.length) : l.any q = false := by
  rw [List.any_eq_false]
  intro o ho
  rw [h o (by rw [List.take_of_length_le (by omega)]; exact ho)]; decide
theorem any_some {α : Type} {q : α → Bool} {l : List α} {k : Nat} {o : α} (ho : l[k]? = some o) (hq : q o = true) : l.any q = true := List.any_eq_true.2 ⟨o, List.mem_of_getElem? ho, hq⟩


set_option maxRecDepth 100000 in
set_option maxHeartbeats 4000000 in
theorem rnWrites_call (x : RV) (key : Int) (w : World) (hx : RdyS w x) :
    Calls Try.prog 73 #[rdyV x, vi key] w fun e w' => e = .returned (.bool (writesB x.r key)) ∧ Below w.heap.size w w' := by
  obtain ⟨wv, rv, r⟩ := x
  have HX := Lib.hid hx
  obtain ⟨aw, nw, cw, hwv, rfl, hmw, -⟩ := (show RdOps w wv r.writes from hx.ws).at
  subst hwv
  have HB := Lib.hid ((Below.refl w.heap.size w).alloc (Nat.le_refl _) (.cells (rdyC ⟨.slice aw r.writes.length cw, rv, r⟩) 61))
  clear hx
  unfold rdyV rdyC at *
  simp only at HB
  go_enter Try.func73, Try.ntmps73
  go_wp2_with fail
  generalize (w.alloc (.cells #[vi r.txn, vi r.home, vi r.start, .slice aw r.writes.length cw, rv] 61)) = w1 at *
  go_loopw [10] (fun i wr => ∃ k : Nat, k ≤ r.writes.length ∧ i = vi k ∧ Hid (Below w.heap.size w wr) ∧ Hid (∀ o ∈ r.writes.take k, keyB key o = false)) (fun i _ => r.writes.length - (intOf i).toNat)
  case atStart => exact ⟨0, Nat.zero_le _, rfl, HB, Lib.hid (by simp)⟩
  case round =>
    obtain ⟨wj, rfl⟩ : ∃ wj : World, wj = wr := ⟨_, rfl⟩
    obtain ⟨k, hk, rfl, HJ, HN⟩ := hrel
    by_cases hlt : k < r.writes.length
    · have k1 : decide ((k : Int) < r.writes.length) = true := decide_eq_true (by omega)
      have k2 : (k : Int) < r.writes.length := by omega
      have hwk : IntKind.i64.wrap ((k : Int) + 1) = (k : Int) + 1 := IntWalk.i64_in _ (by omega)
      obtain ⟨o, ho⟩ := some_at hlt
      obtain ⟨g, off, ha, c0, c1, c2⟩ := (show RdOps wj (.slice aw r.writes.length cw) r.writes from (HX.out.later HJ.out).ws).el ho
      subst ha
      have HO := Lib.hid ho
      have hsz := HJ.out.size
      clear ho
      cases hq : keyB key o with
      | true =>
        have hq1 : (o.key == key) = true := hq
        have hr : writesB r key = true := any_some HO.out hq
        go_wp2_with fail
        go_ret
        exact ⟨by rw [hr]; rfl, HJ.out.alloc hsz _⟩
      | false =>
        have hq1 : (o.key == key) = false := hq
        go_wp2_with fail
        exact ⟨⟨k + 1, by omega, by go_num, Lib.hid (HJ.out.alloc hsz _), Lib.hid (any_take HN.out HO.out hq)⟩, by simp only [intOf]; omega⟩
    · have k1 : decide ((k : Int) < r.writes.length) = false := decide_eq_false (by omega)
      have hr : writesB r key = false := any_none HN.out hlt
      go_wp2_with fail
      go_ret
      exact ⟨by rw [hr]; rfl, HJ.out⟩

set_option maxRecDepth 100000 in
set_option maxHeartbeats 4000000 in
theorem rnHas_call (v : Value) (l : List Int) (key : Int) (w : World) (hx : RdInts w v l) :
    Calls Try.prog 75 #[v, vi key] w fun e w' => e = .returned (.bool (l.any (fun k => key == k))) ∧ Below w.heap.size w w' := by
  have HX := Lib.hid hx
  obtain ⟨a, n, c, hwv, rfl, hm, -⟩ := hx.at
  subst hwv
  clear hx
  go_enter Try.func75, Try.ntmps75
  go_wp2_with fail
  go_loopw [9] (fun i wr => ∃ k : Nat, k ≤ l.length ∧ i = vi k ∧ Hid (Below w.heap.size w wr) ∧ Hid (∀ o ∈ l.take k, (key == o) = false)) (fun i _ => l.length - (intOf i).toNat)
  case atStart => exact ⟨0, Nat.zero_le _, rfl, Lib.hid (Below.refl _ _), Lib.hid (by simp)⟩
  case round =>
    obtain ⟨wj, rfl⟩ : ∃ wj : World, wj = wr := ⟨_, rfl⟩
    obtain ⟨k, hk, rfl, HJ, HN⟩ := hrel
    by_cases hlt : k < l.length
    · have k1 : decide ((k : Int) < l.length) = true := decide_eq_true (by omega)
      have k2 : (k : Int) < l.length := by omega
      have hwk : IntKind.i64.wrap ((k : Int) + 1) = (k : Int) + 1 := IntWalk.i64_in _ (by omega)
      obtain ⟨o, ho⟩ := some_at hlt
      obtain ⟨g, off, ha, c0, -⟩ := (HX.out.later HJ.out).el ho
      subst ha
      have HO := Lib.hid ho
      clear ho
      cases hq : (key == o) with
      | true =>
        have hq1 : (o == key) = true := by rw [beq_iff_eq] at hq ⊢; exact hq.symm
        have hr : l.any (fun k => key == k) = true := any_some HO.out hq
        go_wp2_with fail
        go_ret
        exact ⟨by rw [hr]; rfl, HJ.out⟩
      | false =>
        have hq1 : (o == key) = false := by rw [beq_eq_false_iff_ne] at hq ⊢; exact fun e => hq e.symm
        go_wp2_with fail
        exact ⟨⟨k + 1, by omega, by go_num, HJ, Lib.hid (any_take HN.out HO.out hq)⟩, by simp only [intOf]; omega⟩
    · have k1 : decide ((k : Int) < l.length) = false := decide_eq_false (by omega)
      have hr : l.any (fun k => key == k) = false := any_none HN.out hlt
      go_wp2_with fail
      go_ret
      exact ⟨by rw [hr]; rfl, HJ.out⟩

def later3 (key t : Int) (x : Ver3) : Bool := x.key == key && decide (t < x.at_)
set_option maxRecDepth 100000 in
set_option maxHeartbeats 4000000 in
theorem rnLater_call (x : RSV) (key t : Int) (w : World) (hx : RdSt w x) :
    Calls Try.prog 74 #[rsV x, vi key, vi t] w fun e w' => e = .returned (.bool (x.s.vs.any (later3 key t))) ∧ Below w.heap.size w w' := by
  obtain ⟨vv, wv, ev, s⟩ := x
  have HX := Lib.hid hx.vs
  obtain ⟨a, n, c, hwv, rfl, hm, -⟩ := (show RdVer3 w vv s.vs from hx.vs).at
  subst hwv
  simp only at HX
  have HB := Lib.hid ((Below.refl w.heap.size w).alloc (Nat.le_refl _) (.cells (rsC ⟨.slice a s.vs.length c, wv, ev, s⟩) 52))
  clear hx
  unfold rsV rsC at *
  simp only at HB
  go_enter Try.func74, Try.ntmps74
  go_wp2_with fail
  generalize (w.alloc (.cells #[.bool s.serial, vi s.bugs, .slice a s.vs.length c, wv, ev] 52)) = w1 at *
  go_loopw [12] (fun i wr => ∃ k : Nat, k ≤ s.vs.length ∧ i = vi k ∧ Hid (Below w.heap.size w wr) ∧ Hid (∀ o ∈ s.vs.take k, later3 key t o = false)) (fun i _ => s.vs.length - (intOf i).toNat)
  case atStart => exact ⟨0, Nat.zero_le _, rfl, HB, Lib.hid (by simp)⟩
  case round =>
    obtain ⟨wj, rfl⟩ : ∃ wj : World, wj = wr := ⟨_, rfl⟩
    obtain ⟨k, hk, rfl, HJ, HN⟩ := hrel
    by_cases hlt : k < s.vs.length
    · have k1 : decide ((k : Int) < s.vs.length) = true := decide_eq_true (by omega)
      have k2 : (k : Int) < s.vs.length := by omega
      have hwk : IntKind.i64.wrap ((k : Int) + 1) = (k : Int) + 1 := IntWalk.i64_in _ (by omega)
      obtain ⟨o, ho⟩ := some_at hlt
      obtain ⟨g, off, ha, c0, c1, c2⟩ := (HX.out.later HJ.out).el ho
      subst ha
      have HO := Lib.hid ho
      have hsz := HJ.out.size
      clear ho
      have stop : later3 key t o = false → (∃ k_1 : Nat, k_1 ≤ s.vs.length ∧ vi ((k : Int) + 1) = vi k_1 ∧ Hid (Below w.heap.size w (wj.alloc (.cells #[vi o.key, vi o.at_, vi o.val] 151))) ∧ Hid (∀ o ∈ s.vs.take k_1, later3 key t o = false)) := fun hq =>
        ⟨k + 1, by omega, by go_num, Lib.hid (HJ.out.alloc hsz _), Lib.hid (any_take HN.out HO.out hq)⟩
      have STOP := Lib.hid stop
      clear stop
      cases hq1 : (o.key == key) with
      | true =>
        cases hq2 : decide (t < o.at_) with
        | true =>
          have hr : s.vs.any (later3 key t) = true := any_some HO.out (by unfold later3; rw [hq1, hq2]; rfl)
          go_wp2_with fail
          go_ret
          exact ⟨by rw [hr]; rfl, HJ.out.alloc hsz _⟩
        | false =>
          go_wp2_with fail
          exact ⟨STOP.out (by unfold later3; rw [hq1, hq2]; rfl), by simp only [intOf]; omega⟩
      | false =>
        go_wp2_with fail
        exact ⟨STOP.out (by unfold later3; rw [hq1]; rfl), by simp only [intOf]; omega⟩
    · have k1 : decide ((k : Int) < s.vs.length) = false := decide_eq_false (by omega)
      have hr : s.vs.any (later3 key t) = false := any_none HN.out hlt
      go_wp2_with fail
      go_ret
      exact ⟨by rw [hr]; rfl, HJ.out⟩
end Go.Proofs.Ytdkkpkgfiodlbaa
