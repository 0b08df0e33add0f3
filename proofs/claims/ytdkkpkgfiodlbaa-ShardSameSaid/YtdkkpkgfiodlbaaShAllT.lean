/- Texts of one proof, one behind the other: BtRefPut, BtZeros, BtRefNum, BtRefInt, ShAns, ShSim, ShStep, ShRuns, ShTold, ShSame. -/
import Derived.Test.YtdkkpkgfiodlbaaBtEnd
import Derived.Lib.AppendZerosOnto
import Derived.Laws.IdiomStrings
import Derived.Laws.BytesArg
import Derived.Test.YtdkkpkgfiodlbaaShAllS
import Derived.Test.YtdkkpkgfiodlbaaMvWaits
namespace Go.Proofs.Ytdkkpkgfiodlbaa
open Go.RowKit
/-- Bits as a list of noughts and ones. -/
def b01 (L : List Bool) : List Nat := L.map (fun b => if b then 1 else 0)
theorem b01_length (L : List Bool) : (b01 L).length = L.length := by simp [b01]
theorem b01_append (A B : List Bool) : b01 (A ++ B) = b01 A ++ b01 B := by simp [b01]
theorem b01_cons (b : Bool) (B : List Bool) : b01 (b :: B) = (if b then 1 else 0) :: b01 B := by simp [b01]
theorem u8_one (bs : List Nat) : ∀ u ∈ bs.map u8, u.oneCell' = true := by
  intro u hu; simp at hu; obtain ⟨a, _, rfl⟩ := hu; rfl
/-- A row of bits that the call owns. -/
def Ow01 (base : Nat) (w : World) (v : Value) (L : List Bool) : Prop := w.ownsRow base 5 1 v L.length ((b01 L).map u8)
def O01Q (L : List Bool) (w : World) (e : Ending) (w' : World) : Prop := ∃ v, e = .returned v ∧ Ow01 w.heap.size w' v L ∧ Below w.heap.size w w'
theorem own_lit {base : Nat} (w : World) (z : Value) (hb : base ≤ w.heap.size) : (w.alloc (.cells #[z] 5)).ownsRow base 5 1 (.slice (some ⟨w.heap.size, 0, none⟩) 1 1) 1 [z] :=
  ⟨rfl, .inr ⟨w.heap.size, 1, #[z], rfl, hb, Bt.alloc_at _ _, Nat.le_refl _, by decide, rfl, rfl⟩⟩
set_option maxRecDepth 100000 in
set_option maxHeartbeats 4000000 in
theorem refPut_call (x n : Nat) (w : World) (hx : x < 18446744073709551616) (hn : n ≤ 64) :
    Calls Try.prog 79 #[.int .u64 x, .int .i64 n] w (O01Q (putL x n) w) := by
  have h64 : decide ((64 : Int) < n) = false := decide_eq_false (by omega)
  go_enter Try.func79, Try.ntmps79
  go_wp2_with fail
  go_loopw [0, 5, 6] (fun y v i wr => ∃ (k : Nat) (z : Nat), k ≤ n ∧ i = vi k ∧ z < 18446744073709551616 ∧ y = .int .u64 (z : Nat) ∧ Hid (z = x / 2 ^ k ∧ Ow01 w.heap.size wr v (putL x k) ∧ Below w.heap.size w wr)) (fun _ _ i _ => (n : Int).toNat - (intOf i).toNat)
  case atStart =>
    refine ⟨0, x, Nat.zero_le _, rfl, hx, rfl, Lib.hid ⟨by simp, ?_, ?_⟩⟩
    · exact ⟨rfl, .inr ⟨w.heap.size, 0, #[], rfl, Nat.le_refl _, Bt.alloc_at _ _, Nat.le_refl _, by decide, rfl, rfl⟩⟩
    · exact (Below.refl _ _).alloc (Nat.le_refl _) _
  case round =>
    obtain ⟨wj, rfl⟩ : ∃ wj : World, wj = wr := ⟨_, rfl⟩
    obtain ⟨k, z, hk, rfl, hz, rfl, HJ⟩ := hrel
    by_cases hkn : k < n
    · have hkn2 : decide ((k : Int) < n) = true := decide_eq_true (by omega)
      have hw1 : IntKind.i64.wrap ((k : Int) + 1) = (k : Int) + 1 := IntWalk.i64_in _ (by omega)
      have hbw := HJ.out.2.2.size
      have hw2 : IntKind.u8.wrap ((z : Int) % 2) = ((z % 2 : Nat) : Int) := by rw [IntKind.wrap_u8]; omega
      have hk2 : 1 + (putL x k).length ≤ 68719476736 := by rw [putL_length]; omega
      have hrow := HJ.out.2.1
      obtain ⟨a, c, rfl⟩ := Bt.own_shape hrow
      rw [putL_length] at hk2 ⊢
      have hrow2 : wj.ownsRow w.heap.size 5 1 (.slice a (putL x k).length c) k ((b01 (putL x k)).map u8) := by unfold Ow01 at hrow; rw [putL_length] at hrow ⊢; exact hrow
      clear hrow
      rw [putL_length] at hrow2
      have HROW := Lib.hid hrow2
      have HSRC := fun o => Lib.hid ((own_src hrow2).below ((Below.refl wj.heap.size wj).alloc (Nat.le_refl _) o))
      clear hrow2
      go_wp2_with (refine wpList_append_src rfl (.tmp 18) (.tmp 19) 39 rfl eltU8 w.heap.size 1 _ (own_lit wj _ hbw) rfl k _ (HSRC _).out rfl (u8_one _) hk2 (by omega) (by simp; omega) ?_; intro v1 w1 ho1 hg1 _; have HO1 := Lib.hid ho1; have HG1 := Lib.hid hg1; clear ho1 hg1)
      refine ⟨⟨k + 1, z / 2, by omega, by go_num, by omega, by go_num, Lib.hid ⟨?_, ?_, ?_⟩⟩, by simp only [intOf]; omega⟩
      · rw [HJ.out.1, Nat.div_div_eq_div_mul, Nat.pow_succ]
      · have h1 := HO1.out
        unfold Ow01
        rw [putL_length, putL, b01_cons, List.map_cons, Nat.add_comm k 1, ← HJ.out.1]
        have h2 : (u8 (if (z % 2 == 1) = true then 1 else 0)) = Value.int IntKind.u8 ((z : Int) % 2) := by
          rcases (show z % 2 = 0 ∨ z % 2 = 1 by omega) with h | h
          · rw [h, show ((z : Int) % 2) = 0 by omega]; rfl
          · rw [h, show ((z : Int) % 2) = 1 by omega]; rfl
        rw [h2]; exact h1
      · exact HJ.out.2.2.trans (((Below.refl _ _).alloc hbw _).trans (below_grown HG1.out (by simp; omega) (fun j hj => by simp [Value.ownBlock] at hj; omega)))
    · have hkn2 : decide ((k : Int) < n) = false := decide_eq_false (by omega)
      have hke := Lib.hid (show k = n by omega)
      go_wp2_with fail
      go_ret
      exact ⟨_, rfl, by rw [← hke.out]; exact HJ.out.2.1, HJ.out.2.2⟩
end Go.Proofs.Ytdkkpkgfiodlbaa

namespace Go.Proofs.Ytdkkpkgfiodlbaa
open Go.RowKit

theorem zeroCells_u8 (k : Nat) : (Builtin.zeroCells (Value.int .u8 0).cells k).toList = List.replicate k (u8 0) := by
  unfold Builtin.zeroCells
  apply List.ext_getElem?
  intro j
  simp only [Array.toList_map, Array.toList_range, List.getElem?_map]
  have hs : (Value.int .u8 0).cells.size = 1 := rfl
  rw [hs, Nat.mul_one]
  by_cases h : j < k
  · rw [List.getElem?_range h, List.getElem?_replicate, if_pos h, Option.map_some, Nat.mod_one]; rfl
  · rw [List.getElem?_eq_none (by simp; omega), List.getElem?_eq_none (by simp; omega)]; rfl
theorem run_append_zeros {base : Nat} (w : World) (ty : TypeId) (g n cap k : Nat) (xs : List Value) (h : w.ownsRow base 5 1 (.slice (some ⟨g, 0, none⟩) n cap) n xs) (h0 : 0 < k) (hk : k ≤ 1048576) (hn : n ≤ 1048576) (hbase : base ≤ w.heap.size) :
    ∃ v' w', (Builtin.append_ #[39, 3] ty #[.slice (some ⟨g, 0, none⟩) n cap, .int .i64 (k : Nat)]).run Try.prog w = .ok v' w' ∧ Hid (w'.ownsRow base 5 1 v' (n + k) (xs ++ List.replicate k (u8 0)) ∧ w.grownBy w' (some g)) := by
  obtain ⟨i, hi, h2⟩ := Option.map_eq_some_iff.1 Try.infoU8
  simp only [Prod.mk.injEq] at h2
  obtain ⟨hz, hs, hb⟩ := h2
  have ht := Try.underlying39
  have hlen : (xs ++ List.replicate k (u8 0)).length = (n + k) * 1 := by rw [List.length_append, h.1, List.length_replicate]; omega
  rcases h.2 with ⟨hv, _⟩ | ⟨g', cap', cur, hv, hbg, hg, hnc, hcm, hcs, htake⟩
  · cases hv
  cases hv
  by_cases hroom : n + k ≤ cap
  · have hfit : n * 1 + (List.replicate k (u8 0)).length ≤ cur.size := by rw [hcs, List.length_replicate]; omega
    have hst := run_storeCells_at Try.prog g (n * 1) 5 (List.replicate k (u8 0)) 0 cur w hg (by simpa using hfit) (by intro u hu; rw [List.eq_of_mem_replicate hu]; rfl)
    have hkz : k ≠ 0 := by omega
    have hw : IntKind.i64.wrap (k : Int) = k := by rw [IntKind.wrap_i64]; omega
    have hneg : ¬ ((k : Int) < 0) := by omega
    have h48i : ¬ (281474976710656 < (k : Int)) := by omega
    simp only [Nat.add_zero, Nat.mul_one] at hst
    refine ⟨_, _, ?_, Lib.hid ⟨⟨hlen, .inr ⟨g, cap, (cur.toList.take n ++ List.replicate k (u8 0) ++ cur.toList.drop (n + k)).toArray, rfl, hbg, setRow_heap w g cur _ _ _ hg, hroom, hcm, ?_, ?_⟩⟩, ⟨rfl, rfl, rfl, by simp, fun j hj hne => setRow_other w g j _ (fun e => hne (by rw [e]))⟩⟩⟩
    · have hzc := zeroCells_u8 k
      simp [Builtin.append_, run_underlying ht, run_underlying Try.underlying3, sizeOf, typeInfo, zeroValue, hi, hz, hs, hb, asInt, asIntOf, hw, hneg, h48i, hkz, hroom, Addr.add_lit, hzc, hst]
    · simp only [List.size_toArray, List.length_append, List.length_take, List.length_drop, Array.length_toList, List.length_replicate]
      omega
    · have : cur.toList.take n = xs := by rw [← htake, Nat.mul_one]
      rw [this, ← hlen]; exact List.take_left
  · have hold := run_firstCells_some (P := Try.prog) w.drew 1 n ⟨g, 0, none⟩ n cap xs h.1 (fun j u hu => h.cells (g := g) rfl j u hu)
    have hold2 : (Builtin.firstCells i.size n (.slice (some ⟨g, 0, none⟩) n cap)).run Try.prog w.drew = .ok xs.toArray w.drew := by rw [hs]; exact hold
    have hnx : Builtin.nextslicecap (n + k) cap * i.bytes ≤ 281474976710656 := growslice_fits (by omega) (by rw [hb]; omega)
    have hr := Lib.run_append_grow_zeros (P := Try.prog) w 39 3 ty 5 i (.int .u8 0) .i64 .i64 ht Try.underlying3 hi hz (some ⟨g, 0, none⟩) n cap xs hold2 k h0 (by omega) (by omega) (by omega) (by rw [hb]; omega) hnx
    refine ⟨_, _, hr, Lib.hid ⟨⟨hlen, .inr ⟨w.heap.size, _, _, rfl, hbase, heap_alloc_new w.drew _, grownCap_ge w _ _ _, grownCap_le_maxLen w _ _ _ (by unfold maxLen; omega), ?_, ?_⟩⟩, ⟨rfl, rfl, rfl, by simp, fun j hj _ => heap_alloc_old w.drew _ hj⟩⟩⟩
    · have hge := grownCap_ge w (n + k) cap 5
      have e1 : xs.length = n := by rw [h.1]; omega
      simp only [Array.size_append, List.size_toArray, size_zeroCells, e1]
      have e2 : (Value.int IntKind.u8 0).cells.size = 1 := rfl
      rw [e2]; omega
    · simp only [Array.toList_append, zeroCells_u8, List.append_assoc]
      rw [← List.append_assoc, ← hlen]
      exact List.take_left
end Go.Proofs.Ytdkkpkgfiodlbaa

namespace Go.Proofs.Ytdkkpkgfiodlbaa
open Go.RowKit

theorem b01_falses (n : Nat) : (b01 (List.replicate n false)).map u8 = List.replicate n (u8 0) := by simp [b01]
theorem b01_zeros (n : Nat) : (b01 (putL 0 n)).map u8 = List.replicate n (u8 0) := by rw [putL_zero]; exact b01_falses n
theorem own_zeros {base : Nat} (w : World) (n : Nat) (hb : base ≤ w.heap.size) (hn : n ≤ 1048576) : (w.alloc (.cells (Array.replicate n (u8 0)) 5)).ownsRow base 5 1 (.slice (some ⟨w.heap.size, 0, none⟩) n n) n (List.replicate n (u8 0)) :=
  ⟨by simp, .inr ⟨w.heap.size, n, Array.replicate n (u8 0), rfl, hb, Bt.alloc_at _ _, Nat.le_refl _, by unfold maxLen; omega, by simp, by simp⟩⟩
set_option maxRecDepth 100000 in
set_option maxHeartbeats 4000000 in
theorem refNum_big (w : World) :
    Calls Try.prog 46 #[.int .u64 18446744073709551615] w (O01Q (numL 18446744073709551615) w) := by
  go_enter Try.func46, Try.ntmps46
  have hmk : ∀ w : World, (Instr.makeSlice 39 (.int .i64 64) (.int .i64 64)).run Try.prog w = .ok (.slice (some ⟨w.heap.size, 0, none⟩) 64 64) (w.alloc (.cells (Array.replicate 64 (u8 0)) 5)) := fun w => run_makeBytes w 64 (by decide)
  have hrow := fun (o : Obj) => Lib.hid ((own_zeros (base := w.heap.size) w 64 (Nat.le_refl _) (by decide)).alloc o)
  go_wp2_with (first
    | (refine wpList_append_src rfl (.tmp 7) (.tmp 8) 39 rfl eltU8 w.heap.size 64 _ (hrow _).out rfl 1 [u8 1] (src_new (cs := #[u8 1]) rfl (by simp)) rfl (by intro u hu; simp at hu; subst hu; rfl) (by omega) (by omega) (by simp; omega) ?_; intro v1 w1 ho1 hg1 _; obtain ⟨g1, c1, rfl⟩ := Bt.own_some ho1 (by omega); have HO1 := Lib.hid ho1; have HG1 := Lib.hid hg1; obtain ⟨v2, w2, hr2, H2⟩ := run_append_zeros (base := w.heap.size) w1 39 g1 65 c1 64 _ ho1 (by omega) (by omega) (by omega) (by have := hg1.size; simp at this; omega); have HR2 := Lib.hid hr2; clear ho1 hg1 hr2)
    | (at_builtin; refine Lib.wpList_append_run _ rfl _ _ _ _ rfl _ _ rfl rfl _ _ HR2.out ?_))
  go_ret
  obtain ⟨h2, g2⟩ := H2.out
  have hs1 := HG1.out.size
  simp at hs1
  refine ⟨_, rfl, ?_, ?_⟩
  · unfold Ow01
    have e : numL 18446744073709551615 = putL 0 64 ++ putL 1 1 ++ putL 0 64 := by unfold numL; rw [if_pos rfl]
    rw [e, b01_append, b01_append, List.map_append, List.map_append, b01_zeros, List.length_append, List.length_append, putL_length, putL_length]
    exact h2
  · refine ((((Below.refl _ _).alloc (Nat.le_refl _) _).alloc (by simp) _).trans (below_grown HG1.out (by simp; omega) (fun j hj => by simp [Value.ownBlock] at hj; omega))).trans ?_
    refine (Below.refl _ _).grown g2 (by omega) (fun j hj => ?_)
    rcases HO1.out.2 with ⟨h, _⟩ | ⟨g', cap, cur, h, hg, _⟩
    · cases h
    · cases h; simp at hj; omega
set_option maxRecDepth 100000 in
set_option maxHeartbeats 4000000 in
theorem refNum_small (x : Nat) (w : World) (hx : x < 18446744073709551615) :
    Calls Try.prog 46 #[.int .u64 x] w (O01Q (numL x) w) := by
  have hb1 : ((x : Int) == 18446744073709551615) = false := by simp; omega
  have hlt : x + 1 < 18446744073709551616 := by omega
  have hw1 : IntKind.u64.wrap ((x : Int) + 1) = (x : Int) + 1 := by rw [IntKind.wrap_u64]; omega
  have hle := Lib.bitLen_le (x + 1) 64 (by decide) hlt
  have hp := bitLen_pos (x := x + 1) (by omega) hlt
  have HN := Lib.hid (show numL x = putL 0 (Lib.bitLen (x + 1) - 1) ++ putL (x + 1) (Lib.bitLen (x + 1)) by unfold numL; rw [if_neg (by omega)])
  go_enter Try.func46, Try.ntmps46
  go_wp2_with fail
  go_loop [3, 4] (fun n y => ∃ (k z : Nat), n = vi k ∧ y = .int .u64 (z : Nat) ∧ z < 18446744073709551616 ∧ k ≤ 64 ∧ Hid (Lib.bitLen (x + 1) = k + Lib.bitLen z)) (fun _ y => (intOf y).toNat)
  case atStart => exact ⟨0, x + 1, rfl, by go_num, hlt, by omega, Lib.hid (by omega)⟩
  case round =>
    obtain ⟨k, z, rfl, rfl, hz, hk, HB⟩ := hrel
    by_cases h0 : z = 0
    · have h01 : decide ((0 : Int) < z) = false := decide_eq_false (by omega)
      have h02 : decide (0 < z) = false := decide_eq_false (by omega)
      have hkb : Lib.bitLen (x + 1) = k := by
        have h2 : Lib.bitLen 0 = 0 := by decide
        rw [HB.out, h0, h2]; rfl
      obtain ⟨m, rfl⟩ : ∃ m, k = m + 1 := ⟨k - 1, by omega⟩
      have HK := Lib.hid hkb
      have hw2 : IntKind.i64.wrap (m : Int) = (m : Int) := IntWalk.i64_in _ (by omega)
      have hm0 : (0 : Int) ≤ m := by omega
      have hm1 : (m : Int) ≤ 1048576 := by omega
      have hmk : ∀ w : World, (Instr.makeSlice 39 (.int .i64 (m : Int)) (.int .i64 (m : Int))).run Try.prog w = .ok (.slice (some ⟨w.heap.size, 0, none⟩) m m) (w.alloc (.cells (Array.replicate m (u8 0)) 5)) := fun w => run_makeBytes w m (by omega)
      clear hkb h0 hle hp HB
      have hmm : m ≤ 1048576 := by omega
      have hm64 : m + 1 ≤ 64 := by omega
      have hln := putL_length (x + 1) (m + 1)
      have HLN := Lib.hid hln
      clear hln
      go_wp2_with fail
      go_region_law (first
        | (go_simp; go_at_call 79; refine (refPut_call (x + 1) (m + 1) _ hlt hm64).mono ?_; rintro e2 w2 ⟨v2, rfl, ho2, hb2⟩; have hs2 : w.heap.size ≤ w2.heap.size := Nat.le_trans (by simp) hb2.size; have hs3 := hb2.size; unfold Ow01 at ho2; rw [HLN.out] at ho2; obtain ⟨a2, c2, rfl⟩ := Bt.own_shape ho2; have HO2 := Lib.hid ho2; have HB2 := Lib.hid hb2; clear ho2 hb2)
        | (refine step_append_src rfl _ _ 39 rfl eltU8 w.heap.size m _ (own_below (w := (w.alloc (.cells (Array.replicate m (u8 0)) 5)).drew) (own_zeros (base := w.heap.size) w m (Nat.le_refl _) hmm) HB2.out) rfl (m + 1) _ (own_src HO2.out) rfl (u8_one _) (by omega) (by omega) (by simp at hs3; omega) ?_; intro v3 w3 ho3 hg3 _; have HO3 := Lib.hid ho3; have HB3 := Lib.hid (show Below w.heap.size w w3 from (((Below.refl w.heap.size w).alloc (Nat.le_refl _) (.cells (Array.replicate m (u8 0)) 5)).drew).trans ((HB2.out.mono (by simp)).trans (below_grown hg3 (by simp at hs3; omega) (fun j hj => by simp [Value.ownBlock] at hj; omega)))); clear ho3 hg3)
        | (refine step_append_src rfl _ _ 39 rfl eltU8 w.heap.size m _ (own_zeros (base := w.heap.size) w2 m hs2 hmm) rfl (m + 1) _ (own_src (HO2.out.alloc _)) rfl (u8_one _) (by omega) (by omega) (by simp; omega) ?_; intro v3 w3 ho3 hg3 _; have HO3 := Lib.hid ho3; have HB3 := Lib.hid (show Below w.heap.size w w3 from ((((Below.refl w.heap.size w).drew).trans HB2.out).alloc hs2 _).trans (below_grown hg3 (by simp; omega) (fun j hj => by simp [Value.ownBlock] at hj; omega))); clear ho3 hg3))
      all_goals
        go_wp2
        go_ret
        refine ⟨_, rfl, ?_, HB3.out⟩
        unfold Ow01
        rw [HN.out, HK.out, Nat.add_sub_cancel, b01_append, List.map_append, b01_zeros, List.length_append, putL_length, putL_length]
        exact HO3.out
    · have h01 : decide ((0 : Int) < z) = true := decide_eq_true (by omega)
      have h02 : decide (0 < z) = true := decide_eq_true (by omega)
      have hh := Lib.bitLen_half z h0 hz
      have hk2 : k + 1 ≤ 64 := by have := HB.out; omega
      have HH := Lib.hid hh
      have hw2 : IntKind.i64.wrap ((k : Int) + 1) = (k : Int) + 1 := IntWalk.i64_in _ (by omega)
      clear hh
      go_wp2_with fail
      exact ⟨⟨k + 1, z / 2, by go_num, by go_num, by omega, hk2, Lib.hid (by rw [HB.out, HH.out]; omega)⟩, by simp only [intOf]; omega⟩
end Go.Proofs.Ytdkkpkgfiodlbaa

namespace Go.Proofs.Ytdkkpkgfiodlbaa
open Go.RowKit

theorem refNum_call (x : Nat) (i : Int) (hi : i = x) (w : World) (hx : x < 18446744073709551616) :
    Calls Try.prog 46 #[.int .u64 i] w (O01Q (numL x) w) := by
  subst hi
  by_cases h : x = 18446744073709551615
  · subst h; exact refNum_big w
  · exact refNum_small x w (by omega)
set_option maxRecDepth 100000 in
set_option maxHeartbeats 4000000 in
theorem refInt_call (z : Int) (w : World) (h : IntOk z) :
    Calls Try.prog 45 #[.int .i64 z] w (O01Q (intL z) w) := by
  have hlt := zig_lt h.1 h.2
  obtain ⟨h1, h2⟩ := h
  by_cases hz : z < 0
  · have hb : decide (z < 0) = true := decide_eq_true hz
    have he : (zig z : Int) = -(z + 1) * 2 + 1 := by unfold zig; rw [if_pos hz]; omega
    have hw1 : IntKind.i64.wrap (z + 1) = z + 1 := IntWalk.i64_in _ (by omega)
    have hw2 : IntKind.i64.wrap (-(z + 1)) = -(z + 1) := IntWalk.i64_in _ (by omega)
    have hw3 : IntKind.u64.wrap (-(z + 1)) = -(z + 1) := by rw [IntKind.wrap_u64]; omega
    have hw4 : IntKind.u64.wrap (-(z + 1) * 2) = -(z + 1) * 2 := by rw [IntKind.wrap_u64]; omega
    have hw5 : IntKind.u64.wrap (-(z + 1) * 2 + 1) = -(z + 1) * 2 + 1 := by rw [IntKind.wrap_u64]; omega
    have HE := Lib.hid he
    clear he
    go_enter Try.func45, Try.ntmps45
    go_wp2_with (go_at_call 46; refine (refNum_call (zig z) _ (by rw [HE.out]) w hlt).mono ?_; rintro e1 w1 ⟨v1, rfl, ho1, hb1⟩)
    go_ret
    exact ⟨_, rfl, ho1, hb1⟩
  · have hb : decide (z < 0) = false := decide_eq_false hz
    have he : (zig z : Int) = z * 2 := by unfold zig; rw [if_neg hz]; omega
    have hw3 : IntKind.u64.wrap z = z := by rw [IntKind.wrap_u64]; omega
    have hw4 : IntKind.u64.wrap (z * 2) = z * 2 := by rw [IntKind.wrap_u64]; omega
    have HE := Lib.hid he
    clear he
    go_enter Try.func45, Try.ntmps45
    go_wp2_with (go_at_call 46; refine (refNum_call (zig z) _ (by rw [HE.out]) w hlt).mono ?_; rintro e1 w1 ⟨v1, rfl, ho1, hb1⟩)
    go_ret
    exact ⟨_, rfl, ho1, hb1⟩

/-- Rows of bytes as a string. -/
theorem conv_u8 {w : World} {v : Value} {bs : List Nat} (h : Src w v 1 bs.length (bs.map u8)) (hb : ∀ b ∈ bs, b < 256) : ∃ a c, v = .slice a bs.length c ∧ (convert 39 9 (.slice a bs.length c)).run Try.prog w = .ok (.string ⟨(bs.map UInt8.ofNat).toArray⟩) w := by
  obtain ⟨a, c, rfl, hl, hn, hs⟩ := h
  refine ⟨a, c, rfl, ?_⟩
  cases a with
  | none =>
    obtain ⟨h0, rfl⟩ := hn rfl
    obtain rfl := List.length_eq_zero_iff.1 h0
    show (convert 39 9 (.slice none 0 0)).run Try.prog w = _
    rw [run_convert_bytes_string w 39 9 5 none 0 0 Try.underlying39 Try.underlying5 Try.underlying9]
    rfl
  | some ad =>
    have hr := run_convert_bytes_back (P := Try.prog) w 39 9 5 ad c (bs.map UInt8.ofNat) Try.underlying39 Try.underlying5 Try.underlying9 (fun j hj => by
      rw [List.length_map] at hj
      have h1 : (bs.map u8)[j]? = some (u8 bs[j]) := by rw [List.getElem?_map, List.getElem?_eq_getElem hj]; rfl
      have h2 := hs ad rfl j _ h1
      rw [h2, List.getElem_map]
      have h3 := hb bs[j] (List.getElem_mem _)
      have h4 : (UInt8.ofNat bs[j]).toNat = bs[j] := by rw [UInt8.toNat_ofNat']; omega
      rw [h4])
    rw [List.length_map] at hr
    exact hr
theorem u8s_inj {a b : List Nat} (ha : ∀ x ∈ a, x < 256) (hb : ∀ x ∈ b, x < 256) : (a.map UInt8.ofNat == b.map UInt8.ofNat) = (a == b) := by
  have key : ∀ a b : List Nat, (∀ x ∈ a, x < 256) → (∀ x ∈ b, x < 256) → a.map UInt8.ofNat = b.map UInt8.ofNat → a = b := by
    intro a
    induction a with
    | nil => intro b _ _ h; cases b; rfl; cases h
    | cons x a ih =>
      intro b ha hb h
      cases b with
      | nil => cases h
      | cons y b =>
        simp only [List.map_cons, List.cons.injEq] at h
        have h1 := congrArg UInt8.toNat h.1
        rw [UInt8.toNat_ofNat', UInt8.toNat_ofNat'] at h1
        have := ha x (by simp); have := hb y (by simp)
        rw [show x = y by omega, ih b (fun z hz => ha z (by simp [hz])) (fun z hz => hb z (by simp [hz])) h.2]
  rw [Bool.eq_iff_iff]
  simp only [beq_iff_eq]
  exact ⟨key a b ha hb, fun h => by rw [h]⟩
set_option maxRecDepth 100000 in
set_option maxHeartbeats 4000000 in
theorem sameB_call {v v' : Value} {a b : List Nat} (w : World) (h : Src w v 1 a.length (a.map u8)) (h' : Src w v' 1 b.length (b.map u8)) (ha : ∀ x ∈ a, x < 256) (hb : ∀ x ∈ b, x < 256) :
    Calls Try.prog 21 #[v, v'] w fun e w' => e = .returned (.bool (a == b)) ∧ w = w' := by
  obtain ⟨p, c, rfl, hr⟩ := conv_u8 h ha
  obtain ⟨p', c', rfl, hr'⟩ := conv_u8 h' hb
  have HE := Lib.hid (show ((ByteArray.mk (a.map UInt8.ofNat).toArray).toList == (ByteArray.mk (b.map UInt8.ofNat).toArray).toList) = (a == b) by
    have e : ∀ l : List UInt8, (ByteArray.mk l.toArray).toList = l := fun l => by rw [Go.ByteArray.toList_eq]
    rw [e, e]; exact u8s_inj ha hb)
  have HE2 := Lib.hid (u8s_inj ha hb)
  clear h h' ha hb
  obtain ⟨A, hA⟩ : ∃ A, A = a.map UInt8.ofNat := ⟨_, rfl⟩
  obtain ⟨B, hB⟩ : ∃ B, B = b.map UInt8.ofNat := ⟨_, rfl⟩
  rw [← hA] at hr HE HE2
  rw [← hB] at hr' HE HE2
  clear hA hB
  go_enter Try.func21, Try.ntmps21
  go_wp2_with fail
  go_ret
  exact ⟨by first | (rw [← HE.out]; rfl) | (simp; exact HE.out) | (simp; exact HE2.out), rfl⟩
end Go.Proofs.Ytdkkpkgfiodlbaa

namespace Go.Proofs.Ytdkkpkgfiodlbaa
open Go.RowKit Go.Maps

/-- An answer, in bits. -/
def ansL (a : Ans) : List Bool := intL a.err ++ numL a.vals.length ++ intsBL a.vals ++ intL a.at_ ++ intL a.by_ ++ intL a.home ++ endBL a.e
structure AnsI (a : Ans) : Prop where
  err : IntOk a.err
  vals : ∀ v ∈ a.vals, IntOk v
  at_ : IntOk a.at_
  by_ : IntOk a.by_
  home : IntOk a.home
  e : EndOk a.e
  lv : a.vals.length ≤ 50
set_option maxRecDepth 100000 in
set_option maxHeartbeats 8000000 in
theorem ansBytes_call (a : Ans) (vv : Value) (w : World) (hx : RdInts w vv a.vals) (hi : AnsI a) :
    Calls Try.prog 24 #[ansV a vv] w (BytesQ (ansL a) w) := by
  obtain ⟨av, nv, cv, hvv, rfl, hmv, -⟩ := hx.at
  subst hvv
  have HRD := Lib.hid hx
  have HI := Lib.hid hi
  have l1 := intL_length hi.err
  have l2 := numL_length a.vals.length (by omega)
  have l3 := intsBL_length a.vals hi.vals
  have l4 := intL_length hi.at_
  have l5 := intL_length hi.by_
  have l6 := intL_length hi.home
  have l7 := endBL_length hi.e
  have lv := hi.lv
  have HX0 := Lib.hid (Bt.alloc_at w (.cells (ansC a (.slice av a.vals.length cv)) 37))
  have HB0 := Lib.hid ((Below.refl w.heap.size w).alloc (Nat.le_refl _) (.cells (ansC a (.slice av a.vals.length cv)) 37))
  clear hx hi
  unfold ansV at *
  unfold ansC at *
  go_enter Try.func24, Try.ntmps24
  go_upto_region 1 with fail
  generalize w.alloc (.cells #[vi a.err, .slice av a.vals.length cv, vi a.at_, vi a.by_, vi a.home, vi a.e.txn, .bool a.e.commit, vi a.e.at_] 37) = w1 at *
  have HW2 := Lib.hid (show WrS w.heap.size w1.heap.size [] (w1.alloc (.cells #[.slice none 0 0, vi 0] 93)) from ⟨HB0.out.size, .slice none 0 0, Bt.alloc_at w1 _, ⟨rfl, .inl ⟨rfl, rfl⟩⟩⟩)
  have HB2 := Lib.hid (HB0.out.alloc HB0.out.size (.cells #[.slice none 0 0, vi 0] 93))
  have HX2 := Lib.hid ((Below.heap_alloc w1 (.cells #[.slice none 0 0, vi 0] 93) w.heap.size (Array.getElem?_eq_some_iff.1 HX0.out).1).trans HX0.out)
  have hXP : w.heap.size < w1.heap.size := (Array.getElem?_eq_some_iff.1 HX0.out).1
  go_upto_region 2 with fail
  generalize w1.alloc (.cells #[.slice none 0 0, vi 0] 93) = w2 at *
  obtain ⟨X, hX⟩ : ∃ X, X = w.heap.size := ⟨_, rfl⟩
  obtain ⟨p, hp⟩ : ∃ p, p = w1.heap.size := ⟨_, rfl⟩
  rw [← hp] at HW2 hXP ⊢
  rw [← hX] at HX2 hXP ⊢
  have hnX : X ≠ p := by omega
  have HXE := Lib.hid hX
  have HPE := Lib.hid hp
  clear hX hp HX0 HB0
  have hb2 := HB2.out.size
  have c0 : w2.cell? ⟨X, 0, none⟩ = some (vi a.err) := by rw [Bt.cell_of HX2.out]; rfl
  go_upto_region 3 with (go_at_call 33; refine (int_call (L := []) a.err w2 HW2.out HI.out.err.1 HI.out.err.2 (by simp) hb2).mono ?_; rintro e3 w3 ⟨rfl, hw3, hf3⟩; have HW3 := Lib.hid (show WrS w.heap.size p (intL a.err) w3 from hw3); have HF3 := Lib.hid hf3; have hb3 := Nat.le_trans hb2 hf3.size; have HX3 := Lib.hid (hf3.cells HX2.out hnX (by decide)); clear hw3 hf3)
  have d1 : w3.cell? ⟨X, 1, none⟩ = some (.slice av a.vals.length cv) := by rw [Bt.cell_of HX3.out]; rfl
  have hwr1 : IntKind.u64.wrap (a.vals.length : Int) = (a.vals.length : Int) := by rw [IntKind.wrap_u64]; omega
  clear c0
  go_upto_region 4 with (go_at_call 54; refine (num_call (L := intL a.err) a.vals.length w3 HW3.out (by omega) (by omega) hb3).mono ?_; rintro e4 w4 ⟨rfl, hw4, hf4⟩; have HW4 := Lib.hid hw4; have HF4 := Lib.hid (HF3.out.trans hf4); have hb4 := Nat.le_trans hb3 hf4.size; have HX4 := Lib.hid (hf4.cells HX3.out hnX (by decide)); clear hw4 hf4)
  have d1' : w4.cell? ⟨X, 1, none⟩ = some (.slice av a.vals.length cv) := by rw [Bt.cell_of HX4.out]; rfl
  obtain ⟨L4, hL4⟩ : ∃ L4, L4 = intL a.err ++ numL a.vals.length := ⟨_, rfl⟩
  rw [← hL4] at HW4
  have hl4 : L4.length ≤ 300 := by rw [hL4]; simp; omega
  have HL4 := Lib.hid hL4
  clear hL4 d1 hwr1
  go_wp2_with fail
  clear d1'
  go_loopw [21] (fun i wr => ∃ k : Nat, k ≤ a.vals.length ∧ i = vi k ∧ Hid (WrS w.heap.size p (L4 ++ intsBL (a.vals.take k)) wr ∧ FrW w.heap.size p w2 wr ∧ wr.heap[X]? = some (.cells #[vi a.err, .slice av a.vals.length cv, vi a.at_, vi a.by_, vi a.home, vi a.e.txn, .bool a.e.commit, vi a.e.at_] 37))) (fun i _ => a.vals.length - (intOf i).toNat)
  case atStart => exact ⟨0, Nat.zero_le _, rfl, Lib.hid ⟨by simpa [intsBL] using HW4.out, HF4.out, HX4.out⟩⟩
  case round =>
    obtain ⟨wj, rfl⟩ : ∃ wj : World, wj = wr := ⟨_, rfl⟩
    obtain ⟨k, hk, rfl, HJ⟩ := hrel
    have HBJ := Lib.hid (HB2.out.trans (HJ.out.2.1.toBelow hb2 HW2.out.1))
    have hbj := HBJ.out.size
    by_cases hlt : k < a.vals.length
    · have k1 : decide ((k : Int) < a.vals.length) = true := decide_eq_true (by omega)
      have hwk : IntKind.i64.wrap ((k : Int) + 1) = (k : Int) + 1 := IntWalk.i64_in _ (by omega)
      obtain ⟨o, ho⟩ := some_at hlt
      have hoi := HI.out.vals o (List.mem_of_getElem? ho)
      obtain ⟨a', n', c', he, _, _, hcells⟩ := (show RdInts wj (.slice av a.vals.length cv) a.vals from HRD.out.later HBJ.out).at
      obtain ⟨b, off, ha, k2, _⟩ := hcells k o ho
      simp only [Value.slice.injEq] at he
      obtain ⟨rfl, -, -⟩ := he
      subst ha
      have htk := intsBL_snoc ho
      have hlk : (intsBL (a.vals.take k)).length ≤ 129 * a.vals.length := by
        have h1 := intsBL_length (a.vals.take k) (fun x hx => HI.out.vals x (List.mem_of_mem_take hx))
        have h2 : (a.vals.take k).length ≤ a.vals.length := by rw [List.length_take]; omega
        omega
      have HTK := Lib.hid htk
      clear hcells ho htk
      go_wp2_with (go_at_call 33; refine (int_call (L := L4 ++ intsBL (a.vals.take k)) o wj HJ.out.1 hoi.1 hoi.2 (by simp; omega) hbj).mono ?_; rintro eb wb ⟨rfl, hwb, hfb⟩; have HWB := Lib.hid hwb; have HFB := Lib.hid hfb; clear hwb hfb)
      refine ⟨⟨k + 1, by omega, by go_num, Lib.hid ⟨?_, HJ.out.2.1.trans HFB.out, HFB.out.cells HJ.out.2.2 hnX (by decide)⟩⟩, by simp only [intOf]; omega⟩
      rw [HTK.out, ← List.append_assoc]; exact HWB.out
    · have k1 : decide ((k : Int) < a.vals.length) = false := decide_eq_false (by omega)
      have hke := Lib.hid (show k = a.vals.length by omega)
      have HWJ : Hid (WrS w.heap.size p (L4 ++ intsBL a.vals) wj) := by have := HJ.out.1; rw [hke.out, List.take_length] at this; exact Lib.hid this
      have HXJ := Lib.hid HJ.out.2.2
      have HFJ := Lib.hid HJ.out.2.1
      have HJ0 := HJ
      clear HJ0 HJ
      obtain ⟨L5, hL5⟩ : ∃ L5, L5 = L4 ++ intsBL a.vals := ⟨_, rfl⟩
      rw [← hL5] at HWJ
      have hl5 : L5.length ≤ 7000 := by rw [hL5]; simp; omega
      have HL5 := Lib.hid hL5
      clear hL5
      have x2 : wj.cell? ⟨X, 2, none⟩ = some (vi a.at_) := by rw [Bt.cell_of HXJ.out]; rfl
      go_upto_region 10 with (go_at_call 33; refine (int_call (L := L5) a.at_ wj HWJ.out HI.out.at_.1 HI.out.at_.2 (by omega) hbj).mono ?_; rintro e6 w6 ⟨rfl, hw6, hf6⟩; have HW6 := Lib.hid hw6; have HF6 := Lib.hid (HFJ.out.trans hf6); have hb6 := Nat.le_trans hbj hf6.size; have HX6 := Lib.hid (hf6.cells HXJ.out hnX (by decide)); clear hw6 hf6)
      clear x2
      have x3 : w6.cell? ⟨X, 3, none⟩ = some (vi a.by_) := by rw [Bt.cell_of HX6.out]; rfl
      go_upto_region 11 with (go_at_call 33; refine (int_call (L := L5 ++ intL a.at_) a.by_ w6 HW6.out HI.out.by_.1 HI.out.by_.2 (by simp; omega) hb6).mono ?_; rintro e7 w7 ⟨rfl, hw7, hf7⟩; have HW7 := Lib.hid hw7; have HF7 := Lib.hid (HF6.out.trans hf7); have hb7 := Nat.le_trans hb6 hf7.size; have HX7 := Lib.hid (hf7.cells HX6.out hnX (by decide)); clear hw7 hf7)
      clear x3
      have x4 : w7.cell? ⟨X, 4, none⟩ = some (vi a.home) := by rw [Bt.cell_of HX7.out]; rfl
      go_upto_region 12 with (go_at_call 33; refine (int_call (L := L5 ++ intL a.at_ ++ intL a.by_) a.home w7 HW7.out HI.out.home.1 HI.out.home.2 (by simp; omega) hb7).mono ?_; rintro e8 w8 ⟨rfl, hw8, hf8⟩; have HW8 := Lib.hid hw8; have HF8 := Lib.hid (HF7.out.trans hf8); have hb8 := Nat.le_trans hb7 hf8.size; have HX8 := Lib.hid (hf8.cells HX7.out hnX (by decide)); clear hw8 hf8)
      clear x4
      have x5 : w8.cell? ⟨X, 5, none⟩ = some (vi a.e.txn) := by rw [Bt.cell_of HX8.out]; rfl
      have x6 : w8.cell? ⟨X, 6, none⟩ = some (.bool a.e.commit) := by rw [Bt.cell_of HX8.out]; rfl
      have x7 : w8.cell? ⟨X, 7, none⟩ = some (vi a.e.at_) := by rw [Bt.cell_of HX8.out]; rfl
      have hl8 : (L5 ++ intL a.at_ ++ intL a.by_ ++ intL a.home).length ≤ 8000 := by simp; omega
      obtain ⟨L8, hL8⟩ : ∃ L8, L8 = L5 ++ intL a.at_ ++ intL a.by_ ++ intL a.home := ⟨_, rfl⟩
      rw [← hL8] at HW8 hl8
      have HL8 := Lib.hid hL8
      clear hL8
      go_upto_region 13 with (go_at_call 35; refine (shEnd_call (base := w.heap.size) (p := p) (L := L8) a.e w8 HW8.out HI.out.e (by omega) hb8).mono ?_; rintro e9 w9 ⟨rfl, hw9, hf9⟩; have HW9 := Lib.hid hw9; have HF9 := Lib.hid (HF8.out.trans hf9); clear hw9 hf9)
      clear x5 x6 x7
      go_wp2_with (go_at_call 36; refine (bytes_call w9 HW9.out (by simp; omega)).mono ?_; rintro e10 w10 ⟨v10, rfl, ho10, hb10⟩; have HO10 := Lib.hid ho10; have HB10 := Lib.hid hb10; clear ho10 hb10)
      go_ret
      have hB9 : Below w.heap.size w w9 := HB2.out.trans (HF9.out.toBelow hb2 HW2.out.1)
      have hLL : L8 ++ endBL a.e = ansL a := by rw [HL8.out, HL5.out, HL4.out]; simp [ansL]
      exact ⟨_, rfl, by rw [← hLL]; exact own_mono HO10.out hB9.size, hB9.trans (HB10.out.mono hB9.size)⟩
end Go.Proofs.Ytdkkpkgfiodlbaa

namespace Go.Proofs.Ytdkkpkgfiodlbaa
open Go.RowKit Go.Maps

def prR (y : Int × RV) : Int × Rdy := (y.1, y.2.r)
theorem getM_pr (R : RdyL) (k : Int) : getM (R.map prR) k = (getM R k).map (·.r) := by
  unfold getM
  rw [List.find?_map, Option.map_map, Option.map_map]
  rfl
theorem putM_pr (R : RdyL) (k : Int) (y : RV) : (putM R k y).map prR = putM (R.map prR) k y.r := by
  unfold putM
  rw [getM_pr, Option.isSome_map]
  split
  · rw [List.map_map, List.map_map]
    apply List.map_congr_left
    intro p _
    show prR (if p.1 = k then (k, y) else p) = if (prR p).1 = k then (k, y.r) else prR p
    by_cases h : p.1 = k
    · rw [if_pos h, if_pos (show (prR p).1 = k from h)]; rfl
    · rw [if_neg h, if_neg (show ¬ (prR p).1 = k from h)]
  · rw [List.map_append]; rfl
theorem delM_pr (R : RdyL) (k : Int) : (delM R k).map prR = delM (R.map prR) k := by
  unfold delM
  rw [List.filter_map]; rfl
structure Sim2 (K1 : KeysL) (R1 : RdyL) (E1 D1 : EndL) (n1 : Int) (K2 : KeysL) (R2 : RdyL) (E2 D2 : EndL) (n2 : Int) : Prop where
  k : ∀ key, verOf K1 key = verOf K2 key
  r : R1.map prR = R2.map prR
  e : E1 = E2
  d : D1 = D2
  n : n1 = n2
theorem Sim2.start : Sim2 [] [] [] [] 0 [] [] [] [] 0 := ⟨fun _ => rfl, rfl, rfl, rfl, rfl⟩
def BlkP (P : List (Int × Rdy)) (but : Int) (q : Rdy → Bool) (r : Int × Bool) : Prop :=
  (r = (0, false) ∧ ∀ x ∈ P, x.1 ≠ but → q x.2 = false) ∨ (∃ x ∈ P, x.1 ≠ but ∧ q x.2 = true ∧ r = (x.1, true) ∧ ∀ y ∈ P, y.1 ≠ but → q y.2 = true → x.1 ≤ y.1)
theorem blk_pr {R : RdyL} {but : Int} {q : Rdy → Bool} {r : Int × Bool} (h : Blk R but q r) : BlkP (R.map prR) but q r := by
  rcases h with ⟨h1, h2⟩ | ⟨x, hx, h1, h2, h3, h4⟩
  · refine .inl ⟨h1, fun x hx => ?_⟩
    obtain ⟨y, hy, rfl⟩ := List.mem_map.1 hx
    exact h2 y hy
  · refine .inr ⟨prR x, List.mem_map.2 ⟨x, hx, rfl⟩, h1, h2, h3, fun y hy => ?_⟩
    obtain ⟨z, hz, rfl⟩ := List.mem_map.1 hy
    exact h4 z hz
theorem BlkP.uniq {P : List (Int × Rdy)} {but : Int} {q : Rdy → Bool} {a b : Int × Bool} (ha : BlkP P but q a) (hb : BlkP P but q b) : a = b := by
  rcases ha with ⟨h1, h2⟩ | ⟨x, hx, h1, h2, h3, h4⟩
  · rcases hb with ⟨g1, _⟩ | ⟨y, hy, g1, g2, _, _⟩
    · rw [h1, g1]
    · rw [h2 y hy g1] at g2; cases g2
  · rcases hb with ⟨_, g2⟩ | ⟨y, hy, g1, g2, g3, g4⟩
    · rw [g2 x hx h1] at h2; cases h2
    · have e1 := h4 y hy g1 g2
      have e2 := g4 x hx h1 h2
      have e : x.1 = y.1 := by omega
      rw [h3, g3, e]
theorem ReadM.uniq {K1 K2 : KeysL} {R1 R2 : RdyL} (hk : ∀ key, verOf K1 key = verOf K2 key) (hr : R1.map prR = R2.map prR) {bugs txn key t v1 b1 e1 v2 b2 e2 : Int} (h1 : ReadM K1 R1 bugs txn key t v1 b1 e1) (h2 : ReadM K2 R2 bugs txn key t v2 b2 e2) : v1 = v2 ∧ b1 = b2 ∧ e1 = e2 := by
  obtain ⟨i1, o1, hb1, c1⟩ := h1
  obtain ⟨i2, o2, hb2, c2⟩ := h2
  have hu := BlkP.uniq (blk_pr hb1) (hr ▸ blk_pr hb2)
  cases hu
  rcases c1 with ⟨p1, p2, rfl, rfl, rfl⟩ | ⟨p1, rfl, rfl, rfl⟩
  · rcases c2 with ⟨_, _, rfl, rfl, rfl⟩ | ⟨q1, rfl, rfl, rfl⟩
    · exact ⟨rfl, rfl, rfl⟩
    · rcases q1 with q1 | q1
      · rw [p1] at q1; cases q1
      · rw [p2] at q1; cases q1
  · rcases c2 with ⟨q1, q2, rfl, rfl, rfl⟩ | ⟨_, rfl, rfl, rfl⟩
    · rcases p1 with p1 | p1
      · rw [q1] at p1; cases p1
      · rw [q2] at p1; cases p1
    · exact ⟨by rw [hk key], rfl, rfl⟩
theorem GetsM.uniq {K1 K2 : KeysL} {R1 R2 : RdyL} (hk : ∀ key, verOf K1 key = verOf K2 key) (hr : R1.map prR = R2.map prR) {bugs txn t : Int} {ks v1 v2 : List Int} (h1 : GetsM K1 R1 bugs txn t ks v1) (h2 : GetsM K2 R2 bugs txn t ks v2) : v1 = v2 := by
  apply List.ext_getElem?
  intro j
  by_cases hj : j < ks.length
  · obtain ⟨k, hk'⟩ := some_at hj
    obtain ⟨x, hx⟩ := some_at (show j < v1.length by rw [h1.1]; exact hj)
    obtain ⟨y, hy⟩ := some_at (show j < v2.length by rw [h2.1]; exact hj)
    obtain ⟨_, g1⟩ := h1.2 j k x hk' hx
    obtain ⟨_, g2⟩ := h2.2 j k y hk' hy
    rw [hx, hy, (g1.uniq hk hr g2).1]
  · rw [List.getElem?_eq_none (by rw [h1.1]; omega), List.getElem?_eq_none (by rw [h2.1]; omega)]
theorem sorted_eq : ∀ {a b : List Int}, a.Perm b → a.Pairwise (fun x y => x ≤ y) → b.Pairwise (fun x y => x ≤ y) → a = b := fun hp h1 h2 =>
  hp.eq_of_pairwise (fun _ _ _ _ h3 h4 => Int.le_antisymm h3 h4) h1 h2
theorem WaitsM.uniq {R1 R2 : RdyL} (hr : R1.map prR = R2.map prR) {l1 l2 : List Rdy} (h1 : WaitsM R1 l1) (h2 : WaitsM R2 l2) : l1 = l2 := by
  obtain ⟨k1, p1, s1, rfl⟩ := h1
  obtain ⟨k2, p2, s2, rfl⟩ := h2
  have hm : R1.map (·.1) = R2.map (·.1) := by
    have := congrArg (List.map (fun x : Int × Rdy => x.1)) hr
    rw [List.map_map, List.map_map] at this; exact this
  have hk : k1 = k2 := sorted_eq (p1.trans (hm ▸ p2.symm)) s1 s2
  subst hk
  apply List.map_congr_left
  intro k _
  have hg := getM_pr R1 k
  rw [hr, getM_pr R2 k] at hg
  cases h1 : getM R1 k with
  | none =>
    rw [h1] at hg
    cases h2 : getM R2 k with
    | none => rfl
    | some y => rw [h2] at hg; cases hg
  | some x =>
    rw [h1] at hg
    cases h2 : getM R2 k with
    | none => rw [h2] at hg; cases hg
    | some y => rw [h2] at hg; exact (Option.some.inj hg).symm
theorem LockP.uniq {R1 R2 : RdyL} (hr : R1.map prR = R2.map prR) {b e m1 m2 : Int} (h1 : LockP R1 b e m1) (h2 : LockP R2 b e m2) : m1 = m2 := by
  by_cases he : e = 60
  · obtain ⟨L1, w1, rfl⟩ := h1.2 he
    obtain ⟨L2, w2, rfl⟩ := h2.2 he
    rw [w1.uniq hr w2]
  · rw [h1.1 he, h2.1 he]
theorem PrepM.uniq {K1 K2 : KeysL} {R1 R2 : RdyL} (hk : ∀ key, verOf K1 key = verOf K2 key) (hr : R1.map prR = R2.map prR) {E : EndL} {serial : Bool} {bugs : Int} {r : Rdy} {b1 e1 b2 e2 : Int} {S1 S2 : RdyL} (h1 : PrepM serial bugs K1 R1 E r b1 e1 S1) (h2 : PrepM serial bugs K2 R2 E r b2 e2 S2) : b1 = b2 ∧ e1 = e2 ∧ S1.map prR = S2.map prR := by
  have hR : (getM R2 r.txn).isSome = (getM R1 r.txn).isSome := by
    have h := getM_pr R1 r.txn
    rw [hr, getM_pr R2 r.txn] at h
    have h' := congrArg Option.isSome h
    rw [Option.isSome_map, Option.isSome_map] at h'
    exact h'
  have hW : lostW K2 bugs r = lostW K1 bugs r := by unfold lostW; simp only [hk]
  have hL : lostR K2 serial bugs r = lostR K1 serial bugs r := by unfold lostR; simp only [hk]
  unfold PrepM at h2
  rw [hR, hW, hL] at h2
  rcases h1 with ⟨a1, rfl, rfl, rfl⟩ | ⟨a1, a2, rfl, rfl, rfl⟩ | ⟨a1, a2, a3, rfl, rfl, rfl⟩ | ⟨a1, a2, a3, a4, i1, o1, x1, c1⟩ <;>
  rcases h2 with ⟨g1, rfl, rfl, rfl⟩ | ⟨g1, g2, rfl, rfl, rfl⟩ | ⟨g1, g2, g3, rfl, rfl, rfl⟩ | ⟨g1, g2, g3, g4, i2, o2, x2, c2⟩
  case inr.inr.inr.inr.inr.inr =>
    have hu := BlkP.uniq (blk_pr x1) (hr ▸ blk_pr x2)
    cases hu
    rcases c1 with ⟨p1, p2, rfl, rfl, rfl⟩ | ⟨p1, rfl, rfl, wv, rv, rfl⟩
    · rcases c2 with ⟨_, _, rfl, rfl, rfl⟩ | ⟨q1, _⟩
      · exact ⟨rfl, rfl, hr⟩
      · rcases q1 with q1 | q1
        · rw [p1] at q1; cases q1
        · rw [p2] at q1; cases q1
    · rcases c2 with ⟨q1, q2, _⟩ | ⟨_, rfl, rfl, wv', rv', rfl⟩
      · rcases p1 with p1 | p1
        · rw [q1] at p1; cases p1
        · rw [q2] at p1; cases p1
      · exact ⟨rfl, rfl, by rw [putM_pr, putM_pr, hr]⟩
  all_goals first
    | exact ⟨rfl, rfl, hr⟩
    | exact absurd (a1.symm.trans g1) (by decide)
    | exact absurd (a2.symm.trans g2) (by decide)
    | exact absurd a3 (by rw [g3, g4]; decide)
    | exact absurd g3 (by rw [a3, a4]; decide)
theorem writesOf_pr (R : RdyL) (e : EndM) : writesOf R e = if e.commit then (match getM (R.map prR) e.txn with | some r => r.writes | none => []) else [] := by
  unfold writesOf
  rw [getM_pr]
  cases getM R e.txn <;> rfl
theorem FinM.uniq {K1 K2 : KeysL} {R1 R2 : RdyL} (hk : ∀ key, verOf K1 key = verOf K2 key) (hr : R1.map prR = R2.map prR) {E : EndL} {e : EndM} {L1 L2 : KeysL} {S1 S2 : RdyL} {F1 F2 : EndL} (h1 : FinM K1 R1 E e L1 S1 F1) (h2 : FinM K2 R2 E e L2 S2 F2) : (∀ key, verOf L1 key = verOf L2 key) ∧ S1.map prR = S2.map prR ∧ F1 = F2 := by
  rcases h1 with ⟨a1, rfl, rfl, rfl⟩ | ⟨a1, rfl, rfl, a2⟩ <;> rcases h2 with ⟨g1, rfl, rfl, rfl⟩ | ⟨g1, rfl, rfl, g2⟩
  · exact ⟨hk, hr, rfl⟩
  · exact absurd (a1.symm.trans g1) (by decide)
  · exact absurd (a1.symm.trans g1) (by decide)
  · refine ⟨fun key => ?_, by rw [delM_pr, delM_pr, hr], rfl⟩
    rw [a2 key, g2 key, hk key, writesOf_pr R1, writesOf_pr R2, hr]
def StepP (serial : Bool) (bugs stamps : Int) (c : Cmd21) (now : Int) (K : KeysL) (R : RdyL) (E D : EndL) (a : Ans) (now' : Int) (K' : KeysL) (R' : RdyL) (E' D' : EndL) : Prop :=
  (c.k = 1 ∧ StampP stamps now K R E D a now' K' R' E' D') ∨ (c.k = 2 ∧ GetP bugs now K R E D c.r a now' K' R' E' D') ∨ (c.k = 3 ∧ PrepP serial bugs now K R E D c.r a now' K' R' E' D') ∨ (c.k = 4 ∧ DecideP bugs now K R E D c.e a now' K' R' E' D') ∨ (c.k = 5 ∧ FinishP now K R E D c.e a now' K' R' E' D') ∨ (¬ (1 ≤ c.k ∧ c.k ≤ 5) ∧ BadP now K R E D a now' K' R' E' D')
theorem GetP.uniq {K1 K2 : KeysL} {R1 R2 : RdyL} (hk : ∀ key, verOf K1 key = verOf K2 key) (hr : R1.map prR = R2.map prR) {E D : EndL} {bugs n : Int} {r : Rdy} {a1 a2 : Ans} {n1' n2' : Int} {L1 L2 : KeysL} {S1 S2 : RdyL} {F1 F2 G1 G2 : EndL} (h1 : GetP bugs n K1 R1 E D r a1 n1' L1 S1 F1 G1) (h2 : GetP bugs n K2 R2 E D r a2 n2' L2 S2 F2 G2) : a1 = a2 ∧ Sim2 L1 S1 F1 G1 n1' L2 S2 F2 G2 n2' := by
  obtain ⟨p1, rfl, rfl, rfl, rfl, rfl⟩ := h1
  obtain ⟨p2, rfl, rfl, rfl, rfl, rfl⟩ := h2
  refine ⟨?_, hk, hr, rfl, rfl, rfl⟩
  have stop : ∀ {K1 K2 : KeysL} {R1 R2 : RdyL}, (∀ key, verOf K1 key = verOf K2 key) → R1.map prR = R2.map prR → ∀ {ks vals : List Int} {j : Nat} {k v by_ err : Int}, GetsM K1 R1 bugs r.txn r.start ks vals → ks[j]? = some k → ReadM K2 R2 bugs r.txn k r.start v by_ err → err = 0 := by
    intro K1 K2 R1 R2 hk hr ks vals j k v by_ err hg hj hm
    obtain ⟨x, hx⟩ := some_at (show j < vals.length by rw [hg.1]; exact (List.getElem?_eq_some_iff.1 hj).1)
    obtain ⟨_, g⟩ := hg.2 j k x hj hx
    exact (g.uniq hk hr hm).2.2.symm
  have tk : ∀ {j i : Nat} {k : Int}, r.reads[j]? = some k → j < i → (r.reads.take i)[j]? = some k := fun h hji => by rw [List.getElem?_take_of_lt hji]; exact h
  rcases p1 with ⟨v1, rfl, g1⟩ | ⟨j1, k1, v1, b1, e1, m1, vs1, g1, hj1, r1, he1, rfl, l1⟩ <;> rcases p2 with ⟨v2, rfl, g2⟩ | ⟨j2, k2, v2, b2, e2, m2, vs2, g2, hj2, r2, he2, rfl, l2⟩
  · rw [g1.uniq hk hr g2]
  · exact absurd (stop hk hr g1 hj2 r2) he2
  · exact absurd (stop (fun key => (hk key).symm) hr.symm g2 hj1 r1) he1
  · have hj : j1 = j2 := by
      rcases Nat.lt_trichotomy j1 j2 with h | h | h
      · exact absurd (stop (fun key => (hk key).symm) hr.symm g2 (tk hj1 h) r1) he1
      · exact h
      · exact absurd (stop hk hr g1 (tk hj2 h) r2) he2
    subst hj
    rw [hj1] at hj2
    cases hj2
    obtain ⟨_, rfl, rfl⟩ := r1.uniq hk hr r2
    rw [l1.uniq hr l2]
theorem StepP.uniq {serial : Bool} {bugs stamps : Int} {c : Cmd21} {K1 K2 : KeysL} {R1 R2 : RdyL} {E1 E2 D1 D2 : EndL} {n1 n2 : Int} (hs : Sim2 K1 R1 E1 D1 n1 K2 R2 E2 D2 n2) {a1 a2 : Ans} {n1' n2' : Int} {L1 L2 : KeysL} {S1 S2 : RdyL} {F1 F2 G1 G2 : EndL} (h1 : StepP serial bugs stamps c n1 K1 R1 E1 D1 a1 n1' L1 S1 F1 G1) (h2 : StepP serial bugs stamps c n2 K2 R2 E2 D2 a2 n2' L2 S2 F2 G2) : a1 = a2 ∧ Sim2 L1 S1 F1 G1 n1' L2 S2 F2 G2 n2' := by
  obtain ⟨hk, hr, rfl, rfl, rfl⟩ := hs
  rcases h1 with ⟨c1, h1⟩ | ⟨c1, h1⟩ | ⟨c1, h1⟩ | ⟨c1, h1⟩ | ⟨c1, h1⟩ | ⟨c1, h1⟩ <;> rcases h2 with ⟨c2, h2⟩ | ⟨c2, h2⟩ | ⟨c2, h2⟩ | ⟨c2, h2⟩ | ⟨c2, h2⟩ | ⟨c2, h2⟩ <;> try (exfalso; omega)
  · obtain ⟨p1, rfl, rfl, rfl, rfl⟩ := h1
    obtain ⟨p2, rfl, rfl, rfl, rfl⟩ := h2
    rcases p1 with ⟨q1, rfl, rfl⟩ | ⟨q1, rfl, rfl⟩ <;> rcases p2 with ⟨q2, rfl, rfl⟩ | ⟨q2, rfl, rfl⟩ <;> try (exfalso; omega)
    · exact ⟨rfl, hk, hr, rfl, rfl, rfl⟩
    · exact ⟨rfl, hk, hr, rfl, rfl, rfl⟩
  · exact h1.uniq hk hr h2
  · obtain ⟨b1, e1, m1, rfl, p1, l1, rfl, rfl, rfl, rfl⟩ := h1
    obtain ⟨b2, e2, m2, rfl, p2, l2, rfl, rfl, rfl, rfl⟩ := h2
    obtain ⟨rfl, rfl, hS⟩ := p1.uniq hk hr p2
    rw [l1.uniq hS l2]
    exact ⟨rfl, hk, hS, rfl, rfl, rfl⟩
  · obtain ⟨p1, rfl, rfl, rfl, rfl⟩ := h1
    obtain ⟨p2, rfl, rfl, rfl, rfl⟩ := h2
    rcases p1 with ⟨x, hx, ho, rfl, rfl⟩ | ⟨ho, rfl, rfl⟩ <;> rcases p2 with ⟨y, hy, go, rfl, rfl⟩ | ⟨go, rfl, rfl⟩
    · rw [hx] at hy; cases hy
      exact ⟨rfl, hk, hr, rfl, rfl, rfl⟩
    · rcases go with go | go
      · rw [hx] at go; cases go
      · rw [ho] at go; cases go
    · rcases ho with ho | ho
      · rw [hy] at ho; cases ho
      · rw [go] at ho; cases ho
    · exact ⟨rfl, hk, hr, rfl, rfl, rfl⟩
  · obtain ⟨rfl, rfl, p1, rfl⟩ := h1
    obtain ⟨rfl, rfl, p2, rfl⟩ := h2
    obtain ⟨q1, q2, q3⟩ := p1.uniq hk hr p2
    exact ⟨rfl, q1, q2, q3, rfl, rfl⟩
  · obtain ⟨rfl, rfl, rfl, rfl, rfl, rfl⟩ := h1
    obtain ⟨rfl, rfl, rfl, rfl, rfl, rfl⟩ := h2
    exact ⟨rfl, hk, hr, rfl, rfl, rfl⟩
end Go.Proofs.Ytdkkpkgfiodlbaa

namespace Go.Proofs.Ytdkkpkgfiodlbaa
open Go.RowKit Go.Maps

/-- The numbers that a shard holds lie in their bounds. -/
structure ShJ (K : KeysL) (R : RdyL) (D : EndL) : Prop where
  k : ∀ key, ∀ x ∈ verOf K key, i64 x.2
  r : ∀ y ∈ R, i64 y.1 ∧ i64 y.2.r.home ∧ ∀ o ∈ y.2.r.writes, i64 o.val
  d : ∀ y ∈ D, EndOk y.2
theorem ShJ.start : ShJ [] [] [] := ⟨fun _ x hx => by simp [verOf, curK, getM, nilK] at hx, (fun y hy => by cases hy), (fun y hy => by cases hy)⟩
theorem i64_0 : i64 0 := by unfold i64; omega
theorem i64_small (z : Int) (h : 0 ≤ z ∧ z ≤ 1000) : i64 z := by unfold i64; omega
theorem finV_mem {t key : Int} {x : Ver} : ∀ {ops : List GOp} {vs : List Ver}, x ∈ finV t key ops vs → x ∈ vs ∨ ∃ o ∈ ops, x.2 = o.val
  | [], vs, h => .inl h
  | o :: ops, vs, h => by
    have h' : x ∈ finV t key ops (if o.key = key then insV vs t o.val else vs) := h
    rcases finV_mem h' with h1 | ⟨o', h1, h2⟩
    · split at h1
      · rcases insV_mem h1 with h2 | h2
        · exact .inr ⟨o, List.mem_cons_self, by rw [h2]⟩
        · exact .inl h2
      · exact .inl h1
    · exact .inr ⟨o', List.mem_cons_of_mem _ h1, h2⟩
theorem valAt_i64 {vs : List Ver} {t : Int} (h : ∀ x ∈ vs, i64 x.2) : i64 (valAt vs t) := by
  unfold valAt
  cases hf : (revL vs).find? (fun p => decide (p.2.1 ≤ t)) with
  | none => exact i64_0
  | some p =>
    have hm := List.mem_of_find?_eq_some hf
    unfold revL at hm
    rw [List.mem_reverse] at hm
    obtain ⟨q, hq, rfl⟩ := List.mem_map.1 hm
    exact h q.1 (List.fst_mem_of_mem_zipIdx hq)
theorem Blk.i64 {R : RdyL} {but : Int} {q : Rdy → Bool} {id : Int} {ok : Bool} (h : Blk R but q (id, ok)) (hr : ∀ y ∈ R, i64 y.1) : i64 id := by
  rcases h with ⟨h1, _⟩ | ⟨x, hx, _, _, h3, _⟩
  · cases h1; exact i64_0
  · cases h3; exact hr x hx
theorem ReadM.i64 {K : KeysL} {R : RdyL} {bugs txn key t v by_ err : Int} (h : ReadM K R bugs txn key t v by_ err) (hk : ∀ key, ∀ x ∈ verOf K key, i64 x.2) (hr : ∀ y ∈ R, i64 y.1) : i64 v ∧ i64 by_ ∧ (err = 0 ∨ err = 60) := by
  obtain ⟨id, ok, hb, h⟩ := h
  rcases h with ⟨_, _, rfl, rfl, rfl⟩ | ⟨_, rfl, rfl, rfl⟩
  · exact ⟨i64_0, hb.i64 hr, .inr rfl⟩
  · exact ⟨valAt_i64 (hk key), i64_0, .inl rfl⟩
theorem GetsM.i64 {K : KeysL} {R : RdyL} {bugs txn t : Int} {ks vals : List Int} (h : GetsM K R bugs txn t ks vals) (hk : ∀ key, ∀ x ∈ verOf K key, i64 x.2) (hr : ∀ y ∈ R, i64 y.1) : ∀ v ∈ vals, i64 v := by
  intro v hv
  obtain ⟨j, hj⟩ := List.mem_iff_getElem?.1 hv
  obtain ⟨k, hk'⟩ := some_at (show j < ks.length by rw [← h.1]; exact (List.getElem?_eq_some_iff.1 hj).1)
  obtain ⟨_, hm⟩ := h.2 j k v hk' hj
  exact (hm.i64 hk hr).1
theorem homeL_i64 {by_ : Int} : ∀ {L : List Rdy} {z : Int}, i64 z → (∀ y ∈ L, i64 y.home) → i64 (L.foldl (fun h y => if y.txn = by_ then y.home else h) z)
  | [], z, hz, _ => hz
  | y :: L, z, hz, h => by
    show i64 (L.foldl _ (if y.txn = by_ then y.home else z))
    refine homeL_i64 ?_ (fun x hx => h x (List.mem_cons_of_mem _ hx))
    split
    · exact h y List.mem_cons_self
    · exact hz
theorem LockP.i64 {R : RdyL} {by_ err home : Int} (h : LockP R by_ err home) (hr : ∀ y ∈ R, i64 y.2.r.home) : i64 home := by
  by_cases he : err = 60
  · obtain ⟨L, ⟨ks, _, _, rfl⟩, rfl⟩ := h.2 he
    refine homeL_i64 i64_0 (fun y hy => ?_)
    obtain ⟨k, _, rfl⟩ := List.mem_map.1 hy
    cases hg : getM R k with
    | none => exact i64_0
    | some z => exact hr _ (getM_some hg)
  · rw [h.1 he]; exact i64_0
theorem PrepM.i64 {serial : Bool} {bugs : Int} {K : KeysL} {R : RdyL} {E : EndL} {r : Rdy} {by_ err : Int} {R' : RdyL} (h : PrepM serial bugs K R E r by_ err R') (hr : ∀ y ∈ R, i64 y.1) : i64 by_ ∧ i64 err := by
  rcases h with ⟨_, rfl, rfl, _⟩ | ⟨_, _, rfl, rfl, _⟩ | ⟨_, _, _, rfl, rfl, _⟩ | ⟨_, _, _, _, id, ok, hb, ⟨_, _, rfl, rfl, _⟩ | ⟨_, rfl, rfl, _⟩⟩
  · exact ⟨i64_0, by unfold Proofs.Ytdkkpkgfiodlbaa.i64; omega⟩
  · exact ⟨i64_0, i64_0⟩
  · exact ⟨i64_0, by unfold Proofs.Ytdkkpkgfiodlbaa.i64; omega⟩
  · exact ⟨hb.i64 hr, by unfold Proofs.Ytdkkpkgfiodlbaa.i64; omega⟩
  · exact ⟨i64_0, i64_0⟩
theorem PrepM.mem {serial : Bool} {bugs : Int} {K : KeysL} {R : RdyL} {E : EndL} {r : Rdy} {by_ err : Int} {R' : RdyL} (h : PrepM serial bugs K R E r by_ err R') : ∀ y ∈ R', y ∈ R ∨ (y.1 = r.txn ∧ y.2.r = r) := by
  intro y hy
  rcases h with ⟨_, _, _, rfl⟩ | ⟨_, _, _, _, rfl⟩ | ⟨_, _, _, _, _, rfl⟩ | ⟨_, _, _, _, id, ok, hb, ⟨_, _, _, _, rfl⟩ | ⟨_, _, _, wv, rv, rfl⟩⟩
  · exact .inl hy
  · exact .inl hy
  · exact .inl hy
  · exact .inl hy
  · rcases mem_putM hy with rfl | hy
    · exact .inr ⟨rfl, rfl⟩
    · exact .inl hy
theorem zeroE_ok : EndOk zeroE' := ⟨i64_0, i64_0⟩
/-- The numbers stay within their bounds, and the answer's are. -/
theorem StepP.ok {serial : Bool} {bugs stamps : Int} {c : Cmd21} {now : Int} {K : KeysL} {R : RdyL} {E D : EndL} {a : Ans} {now' : Int} {K' : KeysL} {R' : RdyL} {E' D' : EndL} (h : StepP serial bugs stamps c now K R E D a now' K' R' E' D') (hi : CmdI c) (hj : ShJ K R D) (h0 : 0 ≤ now ∧ now ≤ 1000000) : AnsI a ∧ ShJ K' R' D' ∧ (now' = now ∨ now' = now + 1) := by
  have hr1 : ∀ y ∈ R, i64 y.1 := fun y hy => (hj.r y hy).1
  rcases h with ⟨c1, h⟩ | ⟨c1, h⟩ | ⟨c1, h⟩ | ⟨c1, h⟩ | ⟨c1, h⟩ | ⟨c1, h⟩
  · obtain ⟨p, rfl, rfl, rfl, rfl⟩ := h
    rcases p with ⟨_, rfl, rfl⟩ | ⟨_, rfl, rfl⟩
    · exact ⟨⟨i64_0, (fun v hv => by cases hv), ⟨by show _ ≤ now + 1; omega, by show now + 1 ≤ _; omega⟩, i64_0, i64_0, zeroE_ok, by simp⟩, hj, .inr rfl⟩
    · exact ⟨⟨i64_small 63 (by decide), (fun v hv => by cases hv), i64_0, i64_0, i64_0, zeroE_ok, by simp⟩, hj, .inl rfl⟩
  · obtain ⟨p, rfl, rfl, rfl, rfl, rfl⟩ := h
    rcases p with ⟨vs, rfl, g⟩ | ⟨j, k, v, b, e, m, vs, _, _, rm, _, rfl, lk⟩
    · exact ⟨⟨i64_0, g.i64 hj.k hr1, i64_0, i64_0, i64_0, zeroE_ok, by show vs.length ≤ 50; rw [g.1]; have := hi.lr; omega⟩, hj, .inl rfl⟩
    · obtain ⟨_, q2, q3⟩ := rm.i64 hj.k hr1
      refine ⟨⟨?_, (fun v hv => by cases hv), i64_0, q2, lk.i64 (fun y hy => (hj.r y hy).2.1), zeroE_ok, by simp⟩, hj, .inl rfl⟩
      rcases q3 with rfl | rfl
      · exact i64_0
      · exact i64_small 60 (by decide)
  · obtain ⟨b, e, m, rfl, p, lk, rfl, rfl, rfl, rfl⟩ := h
    have hJ : ∀ y ∈ R', i64 y.1 ∧ i64 y.2.r.home ∧ ∀ o ∈ y.2.r.writes, i64 o.val := fun y hy => by
      rcases p.mem y hy with h1 | ⟨h1, h2⟩
      · exact hj.r y h1
      · rw [h1, h2]
        refine ⟨hi.r.txn, hi.r.home, fun o ho => ?_⟩
        obtain ⟨o', ho', rfl⟩ := List.mem_map.1 ho
        exact (hi.r.ws o' ho').2.2
    obtain ⟨q1, q2⟩ := p.i64 hr1
    exact ⟨⟨q2, (fun v hv => by cases hv), i64_0, q1, lk.i64 (fun y hy => (hJ y hy).2.1), zeroE_ok, by simp⟩, ⟨hj.k, hJ, hj.d⟩, .inl rfl⟩
  · obtain ⟨p, rfl, rfl, rfl, rfl⟩ := h
    rcases p with ⟨x, hx, _, rfl, rfl⟩ | ⟨_, rfl, rfl⟩
    · exact ⟨⟨i64_0, (fun v hv => by cases hv), i64_0, i64_0, i64_0, hj.d _ (getM_some hx), by simp⟩, hj, .inl rfl⟩
    · refine ⟨⟨i64_0, (fun v hv => by cases hv), i64_0, i64_0, i64_0, hi.endOk, by simp⟩, ⟨hj.k, hj.r, fun y hy => ?_⟩, .inl rfl⟩
      rcases mem_putM hy with rfl | hy
      · exact hi.endOk
      · exact hj.d y hy
  · obtain ⟨rfl, rfl, p, rfl⟩ := h
    refine ⟨⟨i64_0, (fun v hv => by cases hv), i64_0, i64_0, i64_0, zeroE_ok, by simp⟩, ?_, .inl rfl⟩
    rcases p with ⟨_, rfl, rfl, _⟩ | ⟨_, rfl, _, hk⟩
    · exact hj
    · refine ⟨fun key x hx => ?_, fun y hy => hj.r y (mem_delM hy), hj.d⟩
      rw [hk key] at hx
      rcases finV_mem hx with h1 | ⟨o, h1, h2⟩
      · exact hj.k key x h1
      · rw [h2]
        unfold writesOf at h1
        split at h1
        · cases hg : getM R c.e.txn with
          | none => rw [hg] at h1; cases h1
          | some y => rw [hg] at h1; exact (hj.r _ (getM_some hg)).2.2 o h1
        · cases h1
  · obtain ⟨rfl, rfl, rfl, rfl, rfl, rfl⟩ := h
    exact ⟨⟨i64_small 14 (by decide), (fun v hv => by cases hv), i64_0, i64_0, i64_0, zeroE_ok, by simp⟩, hj, .inl rfl⟩
theorem StepP.inv {serial : Bool} {bugs stamps : Int} {c : Cmd21} {now : Int} {K : KeysL} {R : RdyL} {E D : EndL} {a : Ans} {now' : Int} {K' : KeysL} {R' : RdyL} {E' D' : EndL} (h : StepP serial bugs stamps c now K R E D a now' K' R' E' D') (hi : CmdI c) {n : Nat} (hI : ShI n K R) : ShI (n + 1) K' R' := by
  rcases h with ⟨c1, h⟩ | ⟨c1, h⟩ | ⟨c1, h⟩ | ⟨c1, h⟩ | ⟨c1, h⟩ | ⟨c1, h⟩
  · obtain ⟨_, rfl, rfl, _, _⟩ := h; exact hI.more
  · obtain ⟨_, _, rfl, rfl, _, _⟩ := h; exact hI.more
  · obtain ⟨_, _, _, _, hp, _, _, rfl, _, _⟩ := h
    exact hI.prep (r := killK c.r) (by rw [killK_len]; exact hi.lw) hi.lr (killK_small hi.r) hp
  · obtain ⟨_, _, rfl, rfl, _⟩ := h; exact hI.more
  · obtain ⟨_, _, hf, _⟩ := h; exact hI.fin hf
  · obtain ⟨_, _, rfl, rfl, _, _⟩ := h; exact hI.more
theorem ShT.step {N base p ps mk mr me md : Nat} {serial : Bool} {bugs stamps now : Int} {K : KeysL} {R : RdyL} {E D : EndL} (c : Cmd21) {v : Value} (w : World) (h : ShT N base p ps mk mr me md serial bugs stamps now K R E D w) (hi : CmdI c)
    (hv : Src w v 1 (btBytes (cmdL c)).length ((btBytes (cmdL c)).map u8)) {n : Nat} (hn : n ≤ 900) (hI : ShI n K R) (h0 : 0 ≤ now ∧ now ≤ 1000000) :
    Calls Try.prog 11 #[.pointer (some ⟨p, 0, none⟩), v] w (AppT N base p ps mk mr me md serial bugs stamps (StepP serial bugs stamps c now K R E D) w) := by
  by_cases k1 : c.k = 1
  · exact (h.stamp c w hi k1 hv h0).mono fun _ _ hq => hq.imp fun a n' K' R' E' D' hp => .inl ⟨k1, hp⟩
  by_cases k2 : c.k = 2
  · exact (h.get c w hi k2 hv hn hI).mono fun _ _ hq => hq.imp fun a n' K' R' E' D' hp => .inr (.inl ⟨k2, hp⟩)
  by_cases k3 : c.k = 3
  · exact (h.prep c w hi k3 hv hn hI).mono fun _ _ hq => hq.imp fun a n' K' R' E' D' hp => .inr (.inr (.inl ⟨k3, hp⟩))
  by_cases k4 : c.k = 4
  · exact (h.dec4 c w hi k4 hv).mono fun _ _ hq => hq.imp fun a n' K' R' E' D' hp => .inr (.inr (.inr (.inl ⟨k4, hp⟩)))
  by_cases k5 : c.k = 5
  · exact (h.finish c w hi k5 hv (by omega) hI).mono fun _ _ hq => hq.imp fun a n' K' R' E' D' hp => .inr (.inr (.inr (.inr (.inl ⟨k5, hp⟩))))
  · exact (h.bad c w hi (by omega) hv).mono fun _ _ hq => hq.imp fun a n' K' R' E' D' hp => .inr (.inr (.inr (.inr (.inr ⟨by omega, hp⟩))))
end Go.Proofs.Ytdkkpkgfiodlbaa

namespace Go.Proofs.Ytdkkpkgfiodlbaa
open Go.RowKit Go.Maps

inductive Runs (serial : Bool) (stamps : Int) : List Cmd21 → List Ans → Int → KeysL → RdyL → EndL → EndL → Prop
  | nil : Runs serial stamps [] [] 0 [] [] [] []
  | snoc {cs : List Cmd21} {al : List Ans} {n : Int} {K : KeysL} {R : RdyL} {E D : EndL} {c : Cmd21} {a : Ans} {n' : Int} {K' : KeysL} {R' : RdyL} {E' D' : EndL} : Runs serial stamps cs al n K R E D → StepP serial 0 stamps c n K R E D a n' K' R' E' D' → Runs serial stamps (cs ++ [c]) (al ++ [a]) n' K' R' E' D'
theorem Runs.len {serial : Bool} {stamps : Int} {cs : List Cmd21} {al : List Ans} {n : Int} {K : KeysL} {R : RdyL} {E D : EndL} (h : Runs serial stamps cs al n K R E D) : al.length = cs.length := by
  induction h with
  | nil => rfl
  | snoc _ _ ih => simp [ih]
theorem Runs.uniq {serial : Bool} {stamps : Int} {cs : List Cmd21} {al1 : List Ans} {n1 : Int} {K1 : KeysL} {R1 : RdyL} {E1 D1 : EndL} (h1 : Runs serial stamps cs al1 n1 K1 R1 E1 D1) : ∀ {al2 : List Ans} {n2 : Int} {K2 : KeysL} {R2 : RdyL} {E2 D2 : EndL}, Runs serial stamps cs al2 n2 K2 R2 E2 D2 → al1 = al2 ∧ Sim2 K1 R1 E1 D1 n1 K2 R2 E2 D2 n2 := by
  induction h1 with
  | nil =>
    intro al2 n2 K2 R2 E2 D2 h2
    generalize hc : ([] : List Cmd21) = cs at h2
    cases h2 with
    | nil => exact ⟨rfl, Sim2.start⟩
    | snoc _ _ => simp at hc
  | @snoc cs al n K R E D c a n' K' R' E' D' _ hs ih =>
    intro al2 n2 K2 R2 E2 D2 h2
    generalize hc : cs ++ [c] = cs' at h2
    cases h2 with
    | nil => simp at hc
    | snoc g1 g2 =>
      obtain ⟨rfl, h⟩ := List.append_inj' hc rfl
      cases h
      obtain ⟨rfl, hsim⟩ := ih g1
      obtain ⟨rfl, hsim'⟩ := StepP.uniq hsim hs g2
      exact ⟨rfl, hsim'⟩
theorem Runs.pre {serial : Bool} {stamps : Int} {cs : List Cmd21} {al : List Ans} {n : Int} {K : KeysL} {R : RdyL} {E D : EndL} (h : Runs serial stamps cs al n K R E D) : ∀ k, k ≤ cs.length → ∃ n' K' R' E' D', Runs serial stamps (cs.take k) (al.take k) n' K' R' E' D' := by
  induction h with
  | nil => intro k _; exact ⟨0, [], [], [], [], by simpa using Runs.nil⟩
  | @snoc cs al n K R E D c a n' K' R' E' D' hr hs ih =>
    intro k hk
    by_cases hl : k ≤ cs.length
    · obtain ⟨n', K', R', E', D', h⟩ := ih k hl
      refine ⟨n', K', R', E', D', ?_⟩
      rw [List.take_append_of_le_length hl, List.take_append_of_le_length (by rw [hr.len]; exact hl)]
      exact h
    · have e : k = cs.length + 1 := by simp at hk; omega
      refine ⟨n', K', R', E', D', ?_⟩
      rw [List.take_of_length_le (by simp; omega), List.take_of_length_le (by simp [hr.len]; omega)]
      exact hr.snoc hs
/-- The other shard answers as the first did. -/
theorem Runs.same {serial : Bool} {stamps : Int} {cs : List Cmd21} {al bs : List Ans} {n m : Int} {K L : KeysL} {R S : RdyL} {E D F G : EndL} (h : Runs serial stamps cs al n K R E D) {k : Nat} {c : Cmd21} (hc : cs[k]? = some c) (hb : Runs serial stamps (cs.take k) bs m L S F G) {b : Ans} {m' : Int} {L' : KeysL} {S' : RdyL} {F' G' : EndL} (hs : StepP serial 0 stamps c m L S F G b m' L' S' F' G') : al[k]? = some b ∧ Runs serial stamps (cs.take (k + 1)) (bs ++ [b]) m' L' S' F' G' := by
  have h1 := hb.snoc hs
  rw [← take_at hc] at h1
  have hk := (List.getElem?_eq_some_iff.1 hc).1
  obtain ⟨_, _, _, _, _, h2⟩ := h.pre (k + 1) hk
  have he := (h1.uniq h2).1
  have hlb : bs.length = k := by rw [hb.len, List.length_take]; omega
  refine ⟨?_, h1⟩
  have h3 : (bs ++ [b])[k]? = (al.take (k + 1))[k]? := by rw [he]
  rw [List.getElem?_append_right (by omega), hlb, List.getElem?_take_of_lt (by omega)] at h3
  rw [← h3]; simp
theorem Runs.end_ {serial : Bool} {stamps : Int} {cs : List Cmd21} {al bs : List Ans} {n m : Int} {K L : KeysL} {R S : RdyL} {E D F G : EndL} (h : Runs serial stamps cs al n K R E D) (hb : Runs serial stamps cs bs m L S F G) : n = m ∧ R.length = S.length := by
  have hs := (h.uniq hb).2
  exact ⟨hs.n, by have := congrArg List.length hs.r; simpa using this⟩
end Go.Proofs.Ytdkkpkgfiodlbaa

namespace Go.Proofs.Ytdkkpkgfiodlbaa
open Go.RowKit Go.Shelf Go.Maps

theorem Try.infoRowT : (Try.prog.info? 39).map (fun i => (i.zero, i.size, i.bytes)) = some (some (.slice none 0 0), 1, 24) := by kernel_rfl
theorem eltRowT : Elt Try.prog 80 39 1 24 (.slice none 0 0) := by
  obtain ⟨i0, hi, hz0, hz1, hz2⟩ := info_parts Try.infoRowT
  exact ⟨Try.underlying80, by decide, rfl, i0, hi, hz0, hz1, hz2⟩
theorem own_neT {W : World} {b e size n j : Nat} {v : Value} {xs : List Value} (h : W.ownsRow b e size v n xs) {cs : Array Value} {T : TypeId} (hj : W.heap[j]? = some (.cells cs T)) (hT : T ≠ e) : some j ≠ v.ownBlock := by
  rcases h.2 with ⟨hv, _⟩ | ⟨g, cap, cur, hv, _, hh, _⟩
  · rw [hv]; intro q; cases q
  · rw [hv]
    intro q
    have q' : j = g := Option.some.inj q
    rw [q', hh] at hj
    cases hj; exact hT rfl
theorem own_nemT {W : World} {b e size n j : Nat} {v : Value} {xs : List Value} (h : W.ownsRow b e size v n xs) (hj : ∃ es c, W.heap[j]? = some (.map es c)) : some j ≠ v.ownBlock := by
  obtain ⟨es, c, hj⟩ := hj
  rcases h.2 with ⟨hv, _⟩ | ⟨g, cap, cur, hv, _, hh, _⟩
  · rw [hv]; intro q; cases q
  · rw [hv]
    intro q
    have q' : j = g := Option.some.inj q
    rw [q', hh] at hj
    cases hj
theorem ShT.grownT {N base p ps mk mr me md : Nat} {serial : Bool} {bugs stamps now : Int} {K : KeysL} {R : RdyL} {E D : EndL} {W W' : World} (h : ShT N base p ps mk mr me md serial bugs stamps now K R E D W) {b n : Nat} {tv : Value} {xs : List Value} (ht : W.ownsRow b 39 1 tv n xs) (hg : W.grownBy W' tv.ownBlock) : ShT N base p ps mk mr me md serial bugs stamps now K R E D W' := by
  have ho : ∀ {e size n : Nat} {v : Value} {ys : List Value}, W.ownsRow N e size v n ys → e ≠ 39 → W'.ownsRow N e size v n ys := fun h1 h2 => h1.kept hg (own_apart' h1 ht h2)
  have hc : ∀ {j : Nat} {cs : Array Value} {T : TypeId}, W.heap[j]? = some (.cells cs T) → T ≠ 39 → W'.heap[j]? = some (.cells cs T) := fun {j cs T} h1 h2 => (hg.block j (Array.getElem?_eq_some_iff.1 h1).1 (own_neT ht h1 h2)).trans h1
  have hm : ∀ {j : Nat}, (∃ es c, W.heap[j]? = some (.map es c)) → W'.heap[j]? = W.heap[j]? := fun {j} ho => hg.block j (by obtain ⟨_, _, ho⟩ := ho; exact (Array.getElem?_eq_some_iff.1 ho).1) (own_nemT ht ho)
  exact ⟨⟨hc h.s.blk (by decide), ⟨hc h.s.st.blk (by decide), h.s.st.keys.frame (hm h.s.st.keys.obj), h.s.st.ready.frame (hm h.s.st.ready.obj), h.s.st.ends.frame (hm h.s.st.ends.obj), fun y hy => own_rdv (ho (h.kown y hy) (by decide)) (rdv_i64 (h.s.st.krow y hy)), fun y hy => rdy_own (ho (h.rown y hy).1 (by decide)) (ho (h.rown y hy).2 (by decide)) (reads_i64 (h.s.st.rrow y hy).rs), h.s.st.bp, h.s.st.bk, h.s.st.br, h.s.st.be, h.s.st.kr, h.s.st.ke, h.s.st.re⟩, h.s.dm.frame (hm h.s.dm.obj), h.s.bp, h.s.bd, h.s.dk, h.s.dr, h.s.de⟩, h.b, fun y hy => ho (h.kown y hy) (by decide), fun y hy => ⟨ho (h.rown y hy).1 (by decide), ho (h.rown y hy).2 (by decide)⟩, Nat.le_trans h.nw hg.size⟩
/-- What was told: the bytes of the answers. -/
structure Told (N : Nat) (tv : Value) (al : List Ans) (vs : List Value) (W : World) : Prop where
  row : W.ownsRow N 39 1 tv vs.length vs
  len : vs.length = al.length
  own : ∀ (j : Nat) (v : Value) (a : Ans), vs[j]? = some v → al[j]? = some a → OwU N W v (btBytes (ansL a)) ∧ AnsI a
theorem Told.later {N : Nat} {tv : Value} {al : List Ans} {vs : List Value} {A B : World} (h : Told N tv al vs A) (hb : Below A.heap.size A B) : Told N tv al vs B :=
  ⟨own_below h.row hb, h.len, fun j v a h1 h2 => ⟨own_below (h.own j v a h1 h2).1 hb, (h.own j v a h1 h2).2⟩⟩
theorem Told.turns {N p mk mr me md : Nat} {tv : Value} {al : List Ans} {vs : List Value} {A B : World} (h : Told N tv al vs A) (hT : Turns [p, md, mk, mr, me] A B) (hB : ShB N p mk mr me md) : Told N tv al vs B :=
  ⟨own_turns h.row hT hB (Nat.le_refl _), h.len, fun j v a h1 h2 => ⟨own_turns (h.own j v a h1 h2).1 hT hB (Nat.le_refl _), (h.own j v a h1 h2).2⟩⟩
theorem Told.snoc {N : Nat} {tv tv' : Value} {al : List Ans} {vs : List Value} {A B : World} (h : Told N tv al vs A) (hg : A.grownBy B tv.ownBlock) {v : Value} {a : Ans} (hr : B.ownsRow N 39 1 tv' (vs.length + 1) (vs ++ [v])) (hv : OwU N A v (btBytes (ansL a))) (ha : AnsI a) : Told N tv' (al ++ [a]) (vs ++ [v]) B := by
  have hk : ∀ {u : Value} {l : List Nat}, OwU N A u l → OwU N B u l := fun {u l} h1 => World.ownsRow.kept (h := h1) hg (own_apart' h1 h.row (by decide))
  refine ⟨by simpa using hr, by simp [h.len], fun j x b h1 h2 => ?_⟩
  by_cases hj : j < vs.length
  · rw [List.getElem?_append_left hj] at h1
    rw [List.getElem?_append_left (by rw [← h.len]; exact hj)] at h2
    exact ⟨hk (h.own j x b h1 h2).1, (h.own j x b h1 h2).2⟩
  · rw [List.getElem?_append_right (by omega)] at h1
    rw [List.getElem?_append_right (by rw [← h.len]; omega), ← h.len] at h2
    have h0 : j - vs.length = 0 := by have := (List.getElem?_eq_some_iff.1 h1).1; simp at this; omega
    rw [h0] at h1 h2
    simp at h1 h2
    subst h1 h2
    exact ⟨hk hv, ha⟩
end Go.Proofs.Ytdkkpkgfiodlbaa

namespace Go.Proofs.Ytdkkpkgfiodlbaa
open Go.RowKit Go.Maps

theorem cmdBytes_raw (o : Cmd21) (aw ar : Option Addr) (cw cr : Nat) (w : World) (hx : RdyS w ⟨.slice aw o.r.writes.length cw, .slice ar o.r.reads.length cr, o.r⟩) (hi : CmdI o) :
    Calls Try.prog 12 #[.agg #[vi o.k, vi o.r.txn, vi o.r.home, vi o.r.start, .slice aw o.r.writes.length cw, .slice ar o.r.reads.length cr, vi o.e.txn, .bool o.e.commit, vi o.e.at_]] w (BytesQ (cmdL o) w) := cmdBytes_call o _ _ w hx hi
theorem owr_shape {base : Nat} {w : World} {v : Value} {L : List RV} (h : OwR base w v L) : ∃ a c, v = .slice a L.length c := by
  obtain ⟨h1, _⟩ := h
  exact Bt.own_shape h1
theorem waits_len {R : RdyL} {L : List RV} (h : WaitsM R (L.map (·.r))) : L.length = R.length := by
  obtain ⟨ks, h1, _, h3⟩ := h
  have h4 := congrArg List.length h3
  have h5 := h1.length_eq
  simp at h4 h5
  omega
set_option maxRecDepth 100000 in
set_option maxHeartbeats 1000000 in
theorem store_call {base p ps mk mr me md : Nat} {serial : Bool} {bugs stamps now : Int} {K : KeysL} {R : RdyL} {E D : EndL} (w : World) (h : ShS base p ps mk mr me md serial bugs stamps now K R E D w) :
    Calls Try.prog 19 #[.pointer (some ⟨p, 0, none⟩)] w fun e w' => e = .returned (.pointer (some ⟨ps, 0, none⟩)) ∧ w' = w := by
  have c0 : w.cell? ⟨p, 0, none⟩ = some (.pointer (some ⟨ps, 0, none⟩)) := by rw [cell_of h.blk]; rfl
  clear h
  go_enter Try.func19, Try.ntmps19
  go_wp2_with fail
  go_ret
  exact ⟨rfl, rfl⟩
set_option maxRecDepth 100000 in
set_option maxHeartbeats 16000000 in
theorem shardSame.walk (sr : Bool) (st : Int) (v2 : Value) (cs : List Cmd21) (w : World) (r2 : RdCmdI w v2 cs) :
    Calls Try.prog 7 #[.bool sr, vi st, v2] w fun e w' => e = .returned (.bool true) ∧ Below w.heap.size w w' := by
  obtain ⟨av, nv, cv, hv, rfl, hm, -⟩ := r2.at
  subst hv
  have HR2 := Lib.hid r2
  clear r2
  go_enter Try.func7, Try.ntmps7
  go_wp2_with fail
  refine (head21_call w).mono ?_
  rintro e w1 ⟨rfl, hb1⟩
  have HB1 := Lib.hid hb1
  have hs1 := hb1.size
  clear hb1
  dsimp only
  by_cases h60 : 60 < cs.length
  · have g1 : decide ((60 : Int) < cs.length) = true := decide_eq_true (by omega)
    go_wp2_with fail
    go_ret
    exact ⟨rfl, HB1.out⟩
  have g1 : decide ((60 : Int) < cs.length) = false := decide_eq_false (by omega)
  go_wp2_with fail
  refine (shNew_call sr 0 st w1).mono ?_
  rintro e1 w2 ⟨p, ps, mk, mr, me, md, rfl, hs2, hb2⟩
  have HS2 := Lib.hid (show ShT w2.heap.size w1.heap.size p ps mk mr me md sr 0 st 0 [] [] [] [] w2 from ⟨hs2, hs2.bnd, (fun y hy => by cases hy), (fun y hy => by cases hy), Nat.le_refl _⟩)
  have HB2 := Lib.hid (HB1.out.trans (hb2.mono hs1))
  clear hs2 hb2
  dsimp only
  obtain ⟨N, hN⟩ : ∃ N, N = w2.heap.size := ⟨_, rfl⟩
  rw [← hN] at HS2
  have HN := Lib.hid hN
  clear hN
  have HS3 := Lib.hid (HS2.out.later ((Below.refl w2.heap.size w2).alloc (Nat.le_refl _) (.cells #[] 39)))
  have HB3 := Lib.hid (HB2.out.alloc HB2.out.size (.cells #[] 39))
  have HT3 := Lib.hid (show Told N (.slice (some ⟨w2.heap.size, 0, none⟩) 0 0) [] [] (w2.alloc (.cells #[] 39)) from ⟨⟨rfl, .inr ⟨w2.heap.size, 0, #[], rfl, by rw [HN.out]; exact Nat.le_refl _, alloc_at w2 _, Nat.le_refl _, by decide, rfl, rfl⟩⟩, rfl, fun j v a h1 _ => by simp at h1⟩)
  have hwN : w.heap.size ≤ N := by rw [HN.out]; exact HB2.out.size
  go_wp2_with fail
  generalize w2.alloc (.cells #[] 39) = w3 at *
  go_loopw [8, 25] (fun tv i wr => ∃ (k : Nat), k ≤ cs.length ∧ i = vi k ∧ Hid (∃ al n K R E D vs, Runs sr st (cs.take k) al n K R E D ∧ ShT N w1.heap.size p ps mk mr me md sr 0 st n K R E D wr ∧ ShI k K R ∧ ShJ K R D ∧ Told N tv al vs wr ∧ Below w.heap.size w wr ∧ 0 ≤ n ∧ n ≤ k ∧ (∀ o ∈ cs.take k, CmdI o))) (fun _ i _ => cs.length - (intOf i).toNat)
  case atStart => exact ⟨0, Nat.zero_le _, rfl, Lib.hid ⟨[], 0, [], [], [], [], [], Runs.nil, HS3.out, ShI.start, ShJ.start, HT3.out, HB3.out, Int.le_refl _, Int.le_refl _, (fun o ho => by simp at ho)⟩⟩
  case round =>
    obtain ⟨wj, rfl⟩ : ∃ wj : World, wj = wr := ⟨_, rfl⟩
    obtain ⟨k, hk, rfl, HJ⟩ := hrel
    obtain ⟨al, n, K, R, E, D, vs, hRu, hSj, hIj, hJj, hTj, hBj, hn0, hn1, hall⟩ := HJ.out
    have HALL := Lib.hid hall
    clear hall
    have HRU := Lib.hid hRu
    have HSJ := Lib.hid hSj
    have HIJ := Lib.hid hIj
    have HJJ := Lib.hid hJj
    have HTJ := Lib.hid hTj
    have HBJ := Lib.hid hBj
    obtain ⟨aT, cT, rfl⟩ := Bt.own_shape hTj.row
    have hlv : vs.length = k := by rw [hTj.len, hRu.len, List.length_take]; omega
    have HLV := Lib.hid hlv
    clear HJ hRu hSj hIj hJj hTj hBj
    by_cases hlt : k < cs.length
    · have k1 : decide ((k : Int) < cs.length) = true := decide_eq_true (by omega)
      have hki : (k : Int) < cs.length := by omega
      have hwk : IntKind.i64.wrap ((k : Int) + 1) = (k : Int) + 1 := IntWalk.i64_in _ (by omega)
      obtain ⟨o, ho⟩ := some_at hlt
      obtain ⟨a', n', c', hee, _, _, hcells⟩ := (HR2.out.later HBJ.out).at
      obtain ⟨bo, oo, wv, rv, ha, hrd, hri, hei, hki64, hc⟩ := hcells k o ho
      simp only [Value.slice.injEq] at hee
      obtain ⟨rfl, -, -⟩ := hee
      subst ha
      obtain ⟨aw, cw, ar, cr, hw0, hr0, lw0, lr0⟩ := rdv_slices21 hrd
      simp only at hw0 hr0 lw0 lr0
      subst hw0 hr0
      have y0 : wj.cell? ⟨bo, oo + k * 9, none⟩ = some (vi o.k) := hc 0 _ rfl
      have y1 : wj.cell? ⟨bo, oo + k * 9 + 1, none⟩ = some (vi o.r.txn) := by have := hc 1 _ rfl; rw [← Nat.add_assoc] at this; exact this
      have y2 : wj.cell? ⟨bo, oo + k * 9 + 2, none⟩ = some (vi o.r.home) := by have := hc 2 _ rfl; rw [← Nat.add_assoc] at this; exact this
      have y3 : wj.cell? ⟨bo, oo + k * 9 + 3, none⟩ = some (vi o.r.start) := by have := hc 3 _ rfl; rw [← Nat.add_assoc] at this; exact this
      have y4 : wj.cell? ⟨bo, oo + k * 9 + 4, none⟩ = some (.slice aw o.r.writes.length cw) := by have := hc 4 _ rfl; rw [← Nat.add_assoc] at this; exact this
      have y5 : wj.cell? ⟨bo, oo + k * 9 + 5, none⟩ = some (.slice ar o.r.reads.length cr) := by have := hc 5 _ rfl; rw [← Nat.add_assoc] at this; exact this
      have y6 : wj.cell? ⟨bo, oo + k * 9 + 6, none⟩ = some (vi o.e.txn) := by have := hc 6 _ rfl; rw [← Nat.add_assoc] at this; exact this
      have y7 : wj.cell? ⟨bo, oo + k * 9 + 7, none⟩ = some (.bool o.e.commit) := by have := hc 7 _ rfl; rw [← Nat.add_assoc] at this; exact this
      have y8 : wj.cell? ⟨bo, oo + k * 9 + 8, none⟩ = some (vi o.e.at_) := by have := hc 8 _ rfl; rw [← Nat.add_assoc] at this; exact this
      have hjs := HBJ.out.size
      have hE0 := (Below.refl wj.heap.size wj).alloc (Nat.le_refl _) (.cells #[vi o.k, vi o.r.txn, vi o.r.home, vi o.r.start, .slice aw o.r.writes.length cw, .slice ar o.r.reads.length cr, vi o.e.txn, .bool o.e.commit, vi o.e.at_] 33)
      have HSA := Lib.hid (HSJ.out.later hE0)
      have HTA := Lib.hid (HTJ.out.later hE0)
      have HBA := Lib.hid (HBJ.out.trans (hE0.mono hjs))
      have HXA := Lib.hid (alloc_at wj (.cells #[vi o.k, vi o.r.txn, vi o.r.home, vi o.r.start, .slice aw o.r.writes.length cw, .slice ar o.r.reads.length cr, vi o.e.txn, .bool o.e.commit, vi o.e.at_] 33))
      have HRDA := Lib.hid (hrd.later hE0)
      have HRI := Lib.hid hri
      have HEI := Lib.hid hei
      have HK64 := Lib.hid hki64
      have HO := Lib.hid ho
      clear hcells ho hrd hri hei hc hE0 hki64
      go_upto_region 10 with fail
      clear y0 y1 y2 y3 y4 y5 y6 y7 y8
      generalize wj.alloc (.cells #[vi o.k, vi o.r.txn, vi o.r.home, vi o.r.start, .slice aw o.r.writes.length cw, .slice ar o.r.reads.length cr, vi o.e.txn, .bool o.e.commit, vi o.e.at_] 33) = wA at *
      obtain ⟨b8, hb8⟩ : ∃ b8, b8 = wj.heap.size := ⟨_, rfl⟩
      rw [← hb8] at HXA ⊢
      have HB8 := Lib.hid (show N ≤ b8 from by rw [hb8]; exact HSJ.out.nw)
      clear hb8
      have x0 : wA.cell? ⟨b8, 0, none⟩ = some (vi o.k) := by rw [cell_of HXA.out]; rfl
      have x1 : wA.cell? ⟨b8, 1, none⟩ = some (vi o.r.txn) := by rw [cell_of HXA.out]; rfl
      have x2 : wA.cell? ⟨b8, 2, none⟩ = some (vi o.r.home) := by rw [cell_of HXA.out]; rfl
      have x3 : wA.cell? ⟨b8, 3, none⟩ = some (vi o.r.start) := by rw [cell_of HXA.out]; rfl
      have x4 : wA.cell? ⟨b8, 4, none⟩ = some (.slice aw o.r.writes.length cw) := by rw [cell_of HXA.out]; rfl
      have x5 : wA.cell? ⟨b8, 5, none⟩ = some (.slice ar o.r.reads.length cr) := by rw [cell_of HXA.out]; rfl
      have x6 : wA.cell? ⟨b8, 6, none⟩ = some (vi o.e.txn) := by rw [cell_of HXA.out]; rfl
      have x7 : wA.cell? ⟨b8, 7, none⟩ = some (.bool o.e.commit) := by rw [cell_of HXA.out]; rfl
      have x8 : wA.cell? ⟨b8, 8, none⟩ = some (vi o.e.at_) := by rw [cell_of HXA.out]; rfl
      clear hlv
      go_wp2_with fail
      refine (big21_call o.k o.e.txn o.e.at_ o.e.commit aw ar cw cr o.r wA lw0 lr0).mono ?_
      rintro e3 wB ⟨rfl, hbb⟩
      have HSB := Lib.hid (HSA.out.later hbb)
      have HTB := Lib.hid (HTA.out.later hbb)
      have HBB := Lib.hid (HBA.out.trans (hbb.mono HBA.out.size))
      have HXB := Lib.hid ((hbb.block b8 (Array.getElem?_eq_some_iff.1 HXA.out).1).trans HXA.out)
      have HRDB := Lib.hid (HRDA.out.later hbb)
      clear hbb x0 x1 x2 x3 x4 x5 x6 x7 x8 HSA HXA HRDA HBA HTA
      dsimp only
      cases hbig : bigC o.r with
      | true =>
        go_wp2_with fail
        go_ret
        exact ⟨rfl, HBB.out⟩
      | false =>
      have HCI := Lib.hid (show CmdI o from ⟨HK64.out, HRI.out, HEI.out, (bigC_false hbig).1, (bigC_false hbig).2⟩)
      clear hbig
      have x0 : wB.cell? ⟨b8, 0, none⟩ = some (vi o.k) := by rw [cell_of HXB.out]; rfl
      have x1 : wB.cell? ⟨b8, 1, none⟩ = some (vi o.r.txn) := by rw [cell_of HXB.out]; rfl
      have x2 : wB.cell? ⟨b8, 2, none⟩ = some (vi o.r.home) := by rw [cell_of HXB.out]; rfl
      have x3 : wB.cell? ⟨b8, 3, none⟩ = some (vi o.r.start) := by rw [cell_of HXB.out]; rfl
      have x4 : wB.cell? ⟨b8, 4, none⟩ = some (.slice aw o.r.writes.length cw) := by rw [cell_of HXB.out]; rfl
      have x5 : wB.cell? ⟨b8, 5, none⟩ = some (.slice ar o.r.reads.length cr) := by rw [cell_of HXB.out]; rfl
      have x6 : wB.cell? ⟨b8, 6, none⟩ = some (vi o.e.txn) := by rw [cell_of HXB.out]; rfl
      have x7 : wB.cell? ⟨b8, 7, none⟩ = some (.bool o.e.commit) := by rw [cell_of HXB.out]; rfl
      have x8 : wB.cell? ⟨b8, 8, none⟩ = some (vi o.e.at_) := by rw [cell_of HXB.out]; rfl
      go_wp2_with fail
      refine (cmdBytes_call o (.slice aw o.r.writes.length cw) (.slice ar o.r.reads.length cr) wB HRDB.out HCI.out).mono ?_
      rintro e4 wC ⟨vb, rfl, hob, hbb⟩
      have HOB := Lib.hid hob
      have HSC := Lib.hid (HSB.out.later hbb)
      have HTC := Lib.hid (HTB.out.later hbb)
      have HBC := Lib.hid (HBB.out.trans (hbb.mono HBB.out.size))
      have hlc := HBC.out.size
      clear hob hbb x0 x1 x2 x3 x4 x5 x6 x7 x8 HSB HXB HRDB HBB HTB
      dsimp only
      have hkn : k ≤ 900 := by omega
      have HLB := Lib.hid (show 0 ≤ n ∧ n ≤ 1000000 from ⟨hn0, by omega⟩)
      go_wp2_with fail
      refine (HSC.out.step o wC HCI.out (own_src HOB.out) hkn HIJ.out HLB.out).mono ?_
      rintro e5 wd ⟨a, vv, now', K', R', E', D', rfl, ho2, hsd, htd, hp2⟩
      obtain ⟨hai, hJ2, hnw⟩ := hp2.ok HCI.out HJJ.out HLB.out
      have HSD := Lib.hid hsd
      have HP := Lib.hid hp2
      have HAI := Lib.hid hai
      have HJ2 := Lib.hid hJ2
      have HTD := Lib.hid (HTC.out.turns htd hsd.b)
      have HBD := Lib.hid (HBC.out.trans (htd.toBelow' hlc (fun z hz => Nat.le_trans hs1 (hsd.s.bases z hz))))
      have HVD := Lib.hid (show RdInts wd vv a.vals from own_rds (enc := viC) (fun _ => rfl) ho2 (fun x hx => ⟨rfl, hai.vals x hx⟩))
      clear htd hsd ho2 hp2 HSC HBC HOB HTC hai hJ2
      go_wp2_with fail
      refine (ansBytes_call a vv wd HVD.out HAI.out).mono ?_
      rintro e6 we ⟨vq, rfl, hoq, hbq⟩
      obtain ⟨aq, cq, rfl⟩ := Bt.own_shape hoq
      have HSE := Lib.hid (HSD.out.later hbq)
      have HTE := Lib.hid (HTD.out.later hbq)
      have HBE := Lib.hid (HBD.out.trans (hbq.mono HBD.out.size))
      have HOQ := Lib.hid (own_mono hoq HSD.out.nw)
      obtain ⟨lq, hlq⟩ : ∃ lq, lq = (btBytes (ansL a)).length := ⟨_, rfl⟩
      clear hbq hoq HSD HTD HBD HVD
      rw [← hlq] at HOQ ⊢
      have HLQ := Lib.hid hlq
      clear hlq
      dsimp only
      have hs2 : vs.length + 1 ≤ 68719476736 := by have := HLV.out; omega
      have hes := HBE.out.size
      have hNe := HSE.out.nw
      have HF := Lib.hid ((Below.refl we.heap.size we).alloc (Nat.le_refl _) (.cells #[.slice aq lq cq] 39))
      go_wp2_with (refine wpList_append_src rfl (.tmp 31) (.tmp 37) 80 rfl eltRowT N vs.length _ (HTE.out.row.alloc _) rfl 1 [.slice aq lq cq] (src_new (cs := #[.slice aq lq cq]) rfl rfl) rfl (by intro u hu; simp at hu; subst hu; rfl) hs2 (by omega) (by simp; omega) ?_; intro v5 w5 ho5 hg5 _; have HO5 := Lib.hid ho5; have HG5 := Lib.hid hg5; clear ho5 hg5)
      refine ⟨⟨k + 1, by omega, by go_num, Lib.hid ⟨al ++ [a], now', K', R', E', D', vs ++ [.slice aq lq cq], ?_, ?_, HP.out.inv HCI.out HIJ.out, HJ2.out, ?_, ?_, ?_, ?_, ?_⟩⟩, by simp only [intOf]; omega⟩
      · rw [take_at HO.out]; exact HRU.out.snoc HP.out
      · exact (HSE.out.later HF.out).grownT (HTE.out.later HF.out).row HG5.out
      · refine (HTE.out.later HF.out).snoc HG5.out HO5.out ?_ HAI.out
        have := own_below HOQ.out HF.out
        rw [HLQ.out] at this ⊢
        exact this
      · exact (HBE.out.trans (HF.out.mono hes)).trans (below_grown HG5.out (by simp; omega) (fun j hj => Nat.le_trans hwN ((HTE.out.later HF.out).row.lt j hj).1))
      · rcases hnw with rfl | rfl <;> omega
      · rcases hnw with rfl | rfl <;> omega
      · intro z hz
        rw [take_at HO.out, List.mem_append] at hz
        rcases hz with hz | hz
        · exact HALL.out z hz
        · simp at hz; rw [hz]; exact HCI.out
    · have k1 : decide ((k : Int) < cs.length) = false := decide_eq_false (by omega)
      have hke : k = cs.length := by omega
      have HRF : Hid (Runs sr st cs al n K R E D) := by have := HRU.out; rw [hke, List.take_length] at this; exact Lib.hid this
      have HCIA : Hid (∀ o ∈ cs, CmdI o) := by have := HALL.out; rw [hke, List.take_length] at this; exact Lib.hid this
      have hwj := HBJ.out.size
      clear hlv
      have HRL := Lib.hid (show R.length ≤ 1048576 by have := HIJ.out.rlen; omega)
      have HRW := Lib.hid (show ∀ y ∈ R, y.2.r.writes.length ≤ 1048576 ∧ y.2.r.reads.length ≤ 1048576 from fun y hy => ⟨by have := (HIJ.out.small y hy).1; omega, by have := (HIJ.out.small y hy).2.1; omega⟩)
      go_wp2_with fail
      refine (shNew_call sr 0 st wj).mono ?_
      rintro e1 x2 ⟨q, qs, nk, nr, ne, nd, rfl, ht2, hc2⟩
      have HU2 := Lib.hid (show ShT x2.heap.size wj.heap.size q qs nk nr ne nd sr 0 st 0 [] [] [] [] x2 from ⟨ht2, ht2.bnd, (fun y hy => by cases hy), (fun y hy => by cases hy), Nat.le_refl _⟩)
      have HC2 := Lib.hid hc2
      clear ht2 hc2
      dsimp only
      obtain ⟨M, hM⟩ : ∃ M, M = x2.heap.size := ⟨_, rfl⟩
      rw [← hM] at HU2
      have HM := Lib.hid hM
      have hjM : wj.heap.size ≤ M := by rw [hM]; exact HC2.out.size
      clear hM
      go_wp2_with fail
      go_loopw [45] (fun i wr => ∃ (k : Nat), k ≤ cs.length ∧ i = vi k ∧ Hid (∃ bl n K R E D, Runs sr st (cs.take k) bl n K R E D ∧ ShT M wj.heap.size q qs nk nr ne nd sr 0 st n K R E D wr ∧ ShI k K R ∧ ShJ K R D ∧ Below wj.heap.size wj wr ∧ 0 ≤ n ∧ n ≤ k)) (fun i _ => cs.length - (intOf i).toNat)
      case atStart => exact ⟨0, Nat.zero_le _, rfl, Lib.hid ⟨[], 0, [], [], [], [], Runs.nil, HU2.out, ShI.start, ShJ.start, HC2.out, Int.le_refl _, Int.le_refl _⟩⟩
      case round =>
        obtain ⟨xj, rfl⟩ : ∃ xj : World, xj = wr := ⟨_, rfl⟩
        clear hlt k1 hke hk
        obtain ⟨k, hk, rfl, HZ⟩ := hrel
        obtain ⟨bl, m, L, S, F, G, hRu, hSj, hIj, hJj, hBj, hm0, hm1⟩ := HZ.out
        have HRV := Lib.hid hRu
        have HVJ := Lib.hid hSj
        have HIV := Lib.hid hIj
        have HJV := Lib.hid hJj
        have HYJ := Lib.hid hBj
        have HYW := Lib.hid (HBJ.out.trans (hBj.mono hwj))
        have HTX := Lib.hid (HTJ.out.later hBj)
        have HSX := Lib.hid (HSJ.out.later hBj)
        clear HZ hRu hSj hIj hJj hBj
        by_cases hlt : k < cs.length
        · have k1 : decide ((k : Int) < cs.length) = true := decide_eq_true (by omega)
          have hki : (k : Int) < cs.length := by omega
          have hwk : IntKind.i64.wrap ((k : Int) + 1) = (k : Int) + 1 := IntWalk.i64_in _ (by omega)
          obtain ⟨o, ho⟩ := some_at hlt
          obtain ⟨a', n', c', hee, _, _, hcells⟩ := (HR2.out.later HYW.out).at
          obtain ⟨bo, oo, wv, rv, ha, hrd, hri, hei, hki64, hc⟩ := hcells k o ho
          simp only [Value.slice.injEq] at hee
          obtain ⟨rfl, -, -⟩ := hee
          subst ha
          obtain ⟨aw, cw, ar, cr, hw0, hr0, lw0, lr0⟩ := rdv_slices21 hrd
          simp only at hw0 hr0 lw0 lr0
          subst hw0 hr0
          have y0 : xj.cell? ⟨bo, oo + k * 9, none⟩ = some (vi o.k) := hc 0 _ rfl
          have y1 : xj.cell? ⟨bo, oo + k * 9 + 1, none⟩ = some (vi o.r.txn) := by have := hc 1 _ rfl; rw [← Nat.add_assoc] at this; exact this
          have y2 : xj.cell? ⟨bo, oo + k * 9 + 2, none⟩ = some (vi o.r.home) := by have := hc 2 _ rfl; rw [← Nat.add_assoc] at this; exact this
          have y3 : xj.cell? ⟨bo, oo + k * 9 + 3, none⟩ = some (vi o.r.start) := by have := hc 3 _ rfl; rw [← Nat.add_assoc] at this; exact this
          have y4 : xj.cell? ⟨bo, oo + k * 9 + 4, none⟩ = some (.slice aw o.r.writes.length cw) := by have := hc 4 _ rfl; rw [← Nat.add_assoc] at this; exact this
          have y5 : xj.cell? ⟨bo, oo + k * 9 + 5, none⟩ = some (.slice ar o.r.reads.length cr) := by have := hc 5 _ rfl; rw [← Nat.add_assoc] at this; exact this
          have y6 : xj.cell? ⟨bo, oo + k * 9 + 6, none⟩ = some (vi o.e.txn) := by have := hc 6 _ rfl; rw [← Nat.add_assoc] at this; exact this
          have y7 : xj.cell? ⟨bo, oo + k * 9 + 7, none⟩ = some (.bool o.e.commit) := by have := hc 7 _ rfl; rw [← Nat.add_assoc] at this; exact this
          have y8 : xj.cell? ⟨bo, oo + k * 9 + 8, none⟩ = some (vi o.e.at_) := by have := hc 8 _ rfl; rw [← Nat.add_assoc] at this; exact this
          have hjs := HYW.out.size
          have hE0 := (Below.refl xj.heap.size xj).alloc (Nat.le_refl _) (.cells #[vi o.k, vi o.r.txn, vi o.r.home, vi o.r.start, .slice aw o.r.writes.length cw, .slice ar o.r.reads.length cr, vi o.e.txn, .bool o.e.commit, vi o.e.at_] 33)
          have HSA := Lib.hid (HVJ.out.later hE0)
          have HTA := Lib.hid (HTX.out.later hE0)
          have HBA := Lib.hid (HYW.out.trans (hE0.mono hjs))
          have HYA := Lib.hid (HYJ.out.trans (hE0.mono HYJ.out.size))
          have HXA := Lib.hid (alloc_at xj (.cells #[vi o.k, vi o.r.txn, vi o.r.home, vi o.r.start, .slice aw o.r.writes.length cw, .slice ar o.r.reads.length cr, vi o.e.txn, .bool o.e.commit, vi o.e.at_] 33))
          have HRDA := Lib.hid (hrd.later hE0)
          have HRI := Lib.hid hri
          have HEI := Lib.hid hei
          have HK64 := Lib.hid hki64
          have HO := Lib.hid ho
          clear hcells ho hrd hri hei hc hE0 hki64
          go_upto_region 18 with fail
          clear y0 y1 y2 y3 y4 y5 y6 y7 y8
          generalize xj.alloc (.cells #[vi o.k, vi o.r.txn, vi o.r.home, vi o.r.start, .slice aw o.r.writes.length cw, .slice ar o.r.reads.length cr, vi o.e.txn, .bool o.e.commit, vi o.e.at_] 33) = xA at *
          obtain ⟨b8, hb8⟩ : ∃ b8, b8 = xj.heap.size := ⟨_, rfl⟩
          rw [← hb8] at HXA ⊢
          have HB8 := Lib.hid (show M ≤ b8 from by rw [hb8]; exact HVJ.out.nw)
          clear hb8
          have x0 : xA.cell? ⟨b8, 0, none⟩ = some (vi o.k) := by rw [cell_of HXA.out]; rfl
          have x1 : xA.cell? ⟨b8, 1, none⟩ = some (vi o.r.txn) := by rw [cell_of HXA.out]; rfl
          have x2 : xA.cell? ⟨b8, 2, none⟩ = some (vi o.r.home) := by rw [cell_of HXA.out]; rfl
          have x3 : xA.cell? ⟨b8, 3, none⟩ = some (vi o.r.start) := by rw [cell_of HXA.out]; rfl
          have x4 : xA.cell? ⟨b8, 4, none⟩ = some (.slice aw o.r.writes.length cw) := by rw [cell_of HXA.out]; rfl
          have x5 : xA.cell? ⟨b8, 5, none⟩ = some (.slice ar o.r.reads.length cr) := by rw [cell_of HXA.out]; rfl
          have x6 : xA.cell? ⟨b8, 6, none⟩ = some (vi o.e.txn) := by rw [cell_of HXA.out]; rfl
          have x7 : xA.cell? ⟨b8, 7, none⟩ = some (.bool o.e.commit) := by rw [cell_of HXA.out]; rfl
          have x8 : xA.cell? ⟨b8, 8, none⟩ = some (vi o.e.at_) := by rw [cell_of HXA.out]; rfl
          have hvx : vs.length = cs.length := by rw [HTA.out.len, HRF.out.len]
          obtain ⟨vk, hvk⟩ := some_at (show k < vs.length by omega)
          obtain ⟨ak, hak⟩ := some_at (show k < al.length by rw [← HTA.out.len]; omega)
          obtain ⟨tg, tc, hte⟩ := Bt.own_some HTA.out.row (by omega)
          simp only [Value.slice.injEq] at hte
          obtain ⟨rfl, -, rfl⟩ := hte
          obtain ⟨hok, haik⟩ := HTA.out.own k vk ak hvk hak
          obtain ⟨aq, cq, rfl⟩ := Bt.own_shape hok
          have HAK := Lib.hid hak
          have HVK := Lib.hid hvk
          have HOK := Lib.hid hok
          have t0 : xA.cell? ⟨tg, k, none⟩ = some (.slice aq (btBytes (ansL ak)).length cq) := by
            obtain ⟨_, _, he, _, _, hc⟩ := own_src HTA.out.row
            simp only [Value.slice.injEq] at he
            obtain ⟨rfl, -, -⟩ := he
            have := hc _ rfl k _ hvk
            rw [addr_add, Nat.zero_add] at this
            exact this
          have htl : tg < M := by
            have := (HTJ.out.row.lt tg rfl).2
            omega
          have HS := Lib.hid (show ∀ W : World, W.heap[b8]? = xA.heap[b8]? → W.heap[tg]? = xA.heap[tg]? → (W.cell? ⟨b8, 0, none⟩ = some (vi o.k) ∧ W.cell? ⟨b8, 1, none⟩ = some (vi o.r.txn) ∧ W.cell? ⟨b8, 2, none⟩ = some (vi o.r.home) ∧ W.cell? ⟨b8, 3, none⟩ = some (vi o.r.start) ∧ W.cell? ⟨b8, 4, none⟩ = some (.slice aw o.r.writes.length cw) ∧ W.cell? ⟨b8, 5, none⟩ = some (.slice ar o.r.reads.length cr) ∧ W.cell? ⟨b8, 6, none⟩ = some (vi o.e.txn) ∧ W.cell? ⟨b8, 7, none⟩ = some (.bool o.e.commit) ∧ W.cell? ⟨b8, 8, none⟩ = some (vi o.e.at_)) ∧ W.cell? ⟨tg, k, none⟩ = some (.slice aq (btBytes (ansL ak)).length cq) from fun W h1 h2 => by
            have g : ∀ {j : Nat} {v : Value}, xA.cell? ⟨b8, j, none⟩ = some v → W.cell? ⟨b8, j, none⟩ = some v := fun {j v} h => (World.cell?_of_block (a := ⟨b8, j, none⟩) h1).trans h
            exact ⟨⟨g x0, g x1, g x2, g x3, g x4, g x5, g x6, g x7, g x8⟩, (World.cell?_of_block (a := ⟨tg, k, none⟩) h2).trans t0⟩)
          have hkv : (k : Int) < vs.length := by omega
          clear hvx hvk hak hok haik t0 x0 x1 x2 x3 x4 x5 x6 x7 x8
          have HD := Lib.hid (show Below xA.heap.size xA xA.drew from (Below.refl _ _).drew)
          have HK0 := Lib.hid (HS.out xA.drew rfl rfl)
          have HVD := Lib.hid (HSA.out.later HD.out)
          have HRDD := Lib.hid (HRDA.out.later HD.out)
          have hkn : k ≤ 900 := by omega
          have HLB := Lib.hid (show 0 ≤ m ∧ m ≤ 1000000 from ⟨hm0, by omega⟩)
          have hbl := (Array.getElem?_eq_some_iff.1 HXA.out).1
          have htx : tg < xA.heap.size := by have := HSA.out.nw; omega
          have HCI := Lib.hid (HCIA.out o (List.mem_of_getElem? HO.out))
          have hb8M := HB8.out
          have HTG := Lib.hid (show tg ∉ [q, nd, nk, nr, ne] from fun hz => by have h1 := HVJ.out.s.bases tg hz; have h2 := (HTJ.out.row.lt tg rfl).2; omega)
          go_cut [45, 60] from 45 to 61 (fun i b wx => i = vi k ∧ b = .bool false ∧ ∃ a m' L' S' F' G', StepP sr 0 st o m L S F G a m' L' S' F' G' ∧ ShT M wj.heap.size q qs nk nr ne nd sr 0 st m' L' S' F' G' wx ∧ Below wj.heap.size wj wx)
          case first =>
            go_region_held3 (fun W : World => (W.cell? ⟨b8, 0, none⟩ = some (vi o.k) ∧ W.cell? ⟨b8, 1, none⟩ = some (vi o.r.txn) ∧ W.cell? ⟨b8, 2, none⟩ = some (vi o.r.home) ∧ W.cell? ⟨b8, 3, none⟩ = some (vi o.r.start) ∧ W.cell? ⟨b8, 4, none⟩ = some (.slice aw o.r.writes.length cw) ∧ W.cell? ⟨b8, 5, none⟩ = some (.slice ar o.r.reads.length cr) ∧ W.cell? ⟨b8, 6, none⟩ = some (vi o.e.txn) ∧ W.cell? ⟨b8, 7, none⟩ = some (.bool o.e.commit) ∧ W.cell? ⟨b8, 8, none⟩ = some (vi o.e.at_)) ∧ W.cell? ⟨tg, k, none⟩ = some (.slice aq (btBytes (ansL ak)).length cq))
              (first | with_reducible exact HK0.out | with_reducible exact HK1.out | with_reducible exact HK2.out | with_reducible exact HK3.out)
              (first
                | (go_at_call 12; (with_reducible refine (cmdBytes_raw o aw ar cw cr xA.drew HRDD.out HCI.out).mono ?_); rintro e4 y1 ⟨vb, rfl, hob, hbb⟩; have HSRC := Lib.hid (show Src y1 vb 1 (btBytes (cmdL o)).length ((btBytes (cmdL o)).map u8) from own_src hob); have HV1 := Lib.hid (HVD.out.later hbb); have HE1 := Lib.hid (HD.out.trans (hbb.mono HD.out.size)); have HK1 := Lib.hid (HS.out y1 (HE1.out.block b8 hbl) (HE1.out.block tg htx)); clear hob hbb)
                | (go_at_call 11; (with_reducible refine (HV1.out.step o y1 HCI.out HSRC.out hkn HIV.out HLB.out).mono ?_); rintro e5 y2 ⟨a, vv, m', L', S', F', G', rfl, ho2, hsd, htd, hp2⟩; have HP := Lib.hid hp2; have HV2 := Lib.hid hsd; have HT2 := Lib.hid htd; have HAI := Lib.hid (hp2.ok HCI.out HJV.out HLB.out).1; have HVV := Lib.hid (show RdInts y2 vv a.vals from own_rds (enc := viC) (fun _ => rfl) ho2 (fun x hx => ⟨rfl, HAI.out.vals x hx⟩)); have HBY2 := Lib.hid ((HYA.out.trans (HE1.out.mono HYA.out.size)).trans (htd.toBelow' (Nat.le_trans HYA.out.size HE1.out.size) (fun z hz => hsd.s.bases z hz))); have HQ8 := Lib.hid ((htd.block b8 (Nat.lt_of_lt_of_le hbl HE1.out.size) (hsd.b.out hb8M)).trans (HE1.out.block b8 hbl)); have HQT := Lib.hid ((htd.block tg (Nat.lt_of_lt_of_le htx HE1.out.size) (HTG.out)).trans (HE1.out.block tg htx)); have HLS := Lib.hid (Nat.le_trans HE1.out.size htd.size); have HEQ := Lib.hid (show (btBytes (ansL a) == btBytes (ansL ak)) = true from by have h1 := (HRF.out.same HO.out HRV.out hp2).1; rw [HAK.out] at h1; rw [Option.some.inj h1]; exact beq_self_eq_true _); have HK2 := Lib.hid (HS.out y2 ((htd.block b8 (Nat.lt_of_lt_of_le hbl HE1.out.size) (hsd.b.out hb8M)).trans (HE1.out.block b8 hbl)) ((htd.block tg (Nat.lt_of_lt_of_le htx HE1.out.size) (HTG.out)).trans (HE1.out.block tg htx))); clear ho2 hsd htd hp2)
                | (go_at_call 24; (with_reducible refine (ansBytes_call a vv y2 HVV.out HAI.out).mono ?_); rintro e6 y3 ⟨vq, rfl, hoq, hbq⟩; have HOQ := Lib.hid hoq; have HB3' := Lib.hid hbq; have HV3 := Lib.hid (HV2.out.later hbq); have HBY3 := Lib.hid (HBY2.out.trans (hbq.mono HBY2.out.size)); have HSQ := Lib.hid (show Src y3 vq 1 (btBytes (ansL a)).length ((btBytes (ansL a)).map u8) from own_src hoq); have HST := Lib.hid (show Src y3 (.slice aq (btBytes (ansL ak)).length cq) 1 (btBytes (ansL ak)).length ((btBytes (ansL ak)).map u8) from own_src ((HTJ.out.later HBY3.out).own k _ ak HVK.out HAK.out).1); have HK3 := Lib.hid (HS.out y3 ((hbq.block b8 (Nat.lt_of_lt_of_le hbl HLS.out)).trans HQ8.out) ((hbq.block tg (Nat.lt_of_lt_of_le htx HLS.out)).trans HQT.out)); clear hoq hbq)
                | (go_at_call 21; (with_reducible refine (sameB_call y3 HSQ.out HST.out (btBytes_lt _) (btBytes_lt _)).mono ?_); rintro e7 y4 ⟨he7, rfl⟩; rw [HEQ.out] at he7; subst he7))
            all_goals
              go_wp2
              go_meet
              exact ⟨rfl, rfl, a, m', L', S', F', G', HP.out, HV3.out, HBY3.out⟩
          case rest =>
            obtain ⟨xc, rfl⟩ : ∃ xc : World, xc = wc := ⟨_, rfl⟩
            obtain ⟨rfl, rfl, a, m', L', S', F', G', hp, hv3, hby⟩ := hcut
            have HP := Lib.hid hp
            have HV3 := Lib.hid hv3
            have HBY := Lib.hid hby
            obtain ⟨_, hJ2, hnw⟩ := hp.ok HCI.out HJV.out HLB.out
            have HJ2 := Lib.hid hJ2
            clear hp hv3 hby hJ2
            go_wp2_with fail
            refine ⟨⟨k + 1, by omega, by go_num, Lib.hid ⟨bl ++ [a], m', L', S', F', G', (HRF.out.same HO.out HRV.out HP.out).2, HV3.out, HP.out.inv HCI.out HIV.out, HJ2.out, HBY.out, ?_, ?_⟩⟩, by simp only [intOf]; omega⟩
            · rcases hnw with rfl | rfl <;> omega
            · rcases hnw with rfl | rfl <;> omega
        · have k1 : decide ((k : Int) < cs.length) = false := decide_eq_false (by omega)
          have hke : k = cs.length := by omega
          have HRG : Hid (Runs sr st cs bl m L S F G) := by have := HRV.out; rw [hke, List.take_length] at this; exact Lib.hid this
          have hend := HRF.out.end_ HRG.out
          have b1 : (n == m) = true := by rw [hend.1]; exact beq_self_eq_true _
          have HVL := Lib.hid (show S.length ≤ 1048576 by have := HIV.out.rlen; omega)
          have HVW := Lib.hid (show ∀ y ∈ S, y.2.r.writes.length ≤ 1048576 ∧ y.2.r.reads.length ≤ 1048576 from fun y hy => ⟨by have := (HIV.out.small y hy).1; omega, by have := (HIV.out.small y hy).2.1; omega⟩)
          have HEL := Lib.hid hend.2
          clear hend
          go_wp2_with fail
          refine (now_call _ HSX.out.s).mono ?_
          rintro e6 w6 ⟨rfl, rfl⟩
          dsimp only
          go_wp2_with fail
          refine (now_call _ HVJ.out.s).mono ?_
          rintro e7 w7 ⟨rfl, rfl⟩
          dsimp only
          go_wp2_with fail
          refine (store_call _ HSX.out.s).mono ?_
          rintro e8 w8 ⟨rfl, rfl⟩
          dsimp only
          go_wp2_with fail
          refine (waits_call _ HSX.out.s.st HRL.out HRW.out).mono ?_
          rintro e9 w9 ⟨va, La, rfl, hoa, hwa, hba⟩
          obtain ⟨aa, ca, rfl⟩ : ∃ aa ca, va = .slice aa La.length ca := owr_shape hoa
          have HV9 := Lib.hid (HVJ.out.later hba)
          have HB9 := Lib.hid (HYW.out.trans (hba.mono HYW.out.size))
          have HLA := Lib.hid (waits_len hwa)
          clear hoa hwa hba
          dsimp only
          go_wp2_with fail
          refine (store_call _ HV9.out.s).mono ?_
          rintro e10 w10 ⟨rfl, rfl⟩
          dsimp only
          go_wp2_with fail
          refine (waits_call _ HV9.out.s.st HVL.out HVW.out).mono ?_
          rintro e11 w11 ⟨vb, Lb, rfl, hob, hwb, hbb⟩
          obtain ⟨ab, cb, rfl⟩ : ∃ ab cb, vb = .slice ab Lb.length cb := owr_shape hob
          have HLBB := Lib.hid (waits_len hwb)
          have HB11 := Lib.hid (HB9.out.trans (hbb.mono HB9.out.size))
          have b2 : ((La.length : Int) == (Lb.length : Int)) = true := by rw [HLA.out, HLBB.out, HEL.out]; exact beq_self_eq_true _
          clear hob hwb hbb
          dsimp only
          go_wp2_with fail
          go_ret
          exact ⟨rfl, HB11.out⟩
end Go.Proofs.Ytdkkpkgfiodlbaa
