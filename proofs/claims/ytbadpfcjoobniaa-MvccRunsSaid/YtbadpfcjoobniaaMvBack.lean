/- slices.Backward at versions, as an iterator. -/
import Derived.Test.YtbadpfcjoobniaaMvLaw0
import Derived.RangeFuncNested
import Derived.RangeFuncBound
import Derived.RangeFuncCalls
import Derived.RangeFuncLeaves
import Derived.RangeFuncBox
import Derived.Shelf.Abstract
import Derived.Shelf.RegionOpen
import Derived.OwnWalkIn
import Derived.TacticsInMore
import Derived.LoopNIn
import Derived.LoopIn
namespace Go.Proofs.Ytbadpfcjoobniaa
open Go.RowKit Go.Shelf Go.Maps
attribute [local go_sem] Oper.semAt_some

/-- What slices.Backward hands over, in order. -/
def revL (l : List Ver) : List (Nat × Ver) := (l.zipIdx.map (fun p => (p.2, p.1))).reverse

theorem revL_length (l : List Ver) : (revL l).length = l.length := by simp [revL]
theorem revL_at {l : List Ver} {m : Nat} {o : Ver} (h : l[m]? = some o) : (revL l)[l.length - (m + 1)]? = some (m, o) := by
  have hm := (List.getElem?_eq_some_iff.1 h).1
  unfold revL
  rw [List.getElem?_reverse (by simp; omega)]
  have : (List.map (fun p : Ver × Nat => (p.2, p.1)) l.zipIdx).length - 1 - (l.length - (m + 1)) = m := by simp; omega
  rw [this]
  simp [h]

abbrev encB (x : Nat × Ver) : Array Value := #[.int .i64 (x.1 : Int), .agg #[vi x.2.1, vi x.2.2]]

/-- What a round keeps: what lay below n₀, and the iterator's own box. -/
def KpB (n₀ Bs : Nat) (W W' : World) : Prop := Below n₀ W W' ∧ ∀ v, W.cell? ⟨Bs, 0, none⟩ = some v → W'.cell? ⟨Bs, 0, none⟩ = some v

set_option maxRecDepth 100000 in
set_option maxHeartbeats 2000000 in
theorem back1_in (F : Fence) (n : Nat) (hF : F.fn 73) (hro : F.round = none) (hn : 1 ≤ n) (lp Bs n₀ : Nat) (a : Option Addr) (cap : Nat) (l : List Ver) (hl : l.length ≤ 9223372036854775807) (J Jx : List (Nat × Ver) → World → Prop)
    (hY : ∀ pre x W, J pre W → pre.length < l.length → YieldAt F (n - 1) Try.prog lp (encB x) W fun e W' =>
      (e = .returned (.bool true) ∧ J (pre ++ [x]) W' ∧ KpB n₀ Bs W W') ∨ (e = .returned (.bool false) ∧ Jx (pre ++ [x]) W'))
    (W : World) (hBs : W.cell? ⟨Bs, 0, none⟩ = some (.slice a l.length cap)) 
    (hc : ∀ j x, l[j]? = some x → ∃ b off, a = some ⟨b, off, none⟩ ∧ b < n₀ ∧ W.cell? ⟨b, off + j * 2, none⟩ = some (vi x.1) ∧ W.cell? ⟨b, off + j * 2 + 1, none⟩ = some (vi x.2)) (h0 : J [] W) :
    CallsIn F n Try.prog 73 #[.func (.yield lp) #[] #[], .pointer (some ⟨Bs, 0, none⟩)] W fun e W' => (∃ v, e = .returned v) ∧
      ((∃ ys, ys = revL l ∧ J ys W') ∨ (∃ pre, pre <+: revL l ∧ Jx pre W')) := by
  have HC := Lib.hid hc
  clear hc
  refine callsIn_of_wp Try.func73 rfl hF ?_ hro
  simp only [Try.ntmps73, List.size_toArray, List.length_cons, List.length_nil, Nat.reduceAdd, Nat.reduceSub, Array.replicate_succ, Array.replicate_zero, List.push_toArray, List.append_toArray, List.nil_append, List.cons_append]
  gi_wp2
  gi_loopw [3] (fun i wr => ∃ j : Nat, j ≤ l.length ∧ ((j = 0 ∧ i = .int .i64 (-1)) ∨ ∃ m : Nat, j = m + 1 ∧ i = .int .i64 (m : Int)) ∧ J ((revL l).take (l.length - j)) wr ∧ KpB n₀ Bs W wr) (fun i _ => (intOf i + 1).toNat)
  case atStart =>
    refine ⟨l.length, Nat.le_refl _, ?_, by simpa using h0, Below.refl _ _, fun _ h => h⟩
    cases hll : l.length with
    | zero => exact .inl ⟨rfl, by simp⟩
    | succ m => exact .inr ⟨m, rfl, by go_num⟩
  case round =>
    obtain ⟨j, hj, hi, hJs, hkp⟩ := hrel
    have HKP := Lib.hid hkp
    clear hkp
    have hbx := HKP.out.2 _ hBs
    rcases hi with ⟨rfl, rfl⟩ | ⟨m, rfl, rfl⟩
    · gi_wp2
      go_end0
      exact ⟨⟨_, rfl⟩, .inl ⟨_, by rw [Nat.sub_zero, ← revL_length, List.take_length], hJs⟩⟩
    · obtain ⟨o, ho⟩ := some_at (l := l) (k := m) (by omega)
      obtain ⟨b, off, rfl, hb, k0', k1'⟩ := HC.out m o ho
      have k0 := (HKP.out.1.cell (p := ⟨b, off + m * 2, none⟩) hb).trans k0'
      have k1 := (HKP.out.1.cell (p := ⟨b, off + m * 2 + 1, none⟩) hb).trans k1'
      obtain ⟨fn, tmps, assign, body, hy, hR⟩ := hY _ (m, o) wr hJs (by rw [List.length_take, revL_length]; omega)
      have HR := Lib.hid (revL_at ho)
      have hmi : (m : Int) < (l.length : Int) := by omega
      clear k0' k1' ho
      gi_wp2
      have HT := Lib.hid (take_at HR.out)
      have hm1 : l.length - (m + 1) + 1 = l.length - m := by omega
      rw [hm1] at HT
      clear hm1
      refine hR.mono ?_
      rintro e W3 (⟨rfl, hJ3, hk3⟩ | ⟨rfl, hJx3⟩)
      · have hk4 : KpB n₀ Bs W W3 := ⟨HKP.out.1.trans hk3.1, fun v hv => hk3.2 v (HKP.out.2 v hv)⟩
        have HK4 := Lib.hid hk4
        clear hk3 hk4
        gi_wp2
        go_roundw
        case rel =>
          refine ⟨m, by omega, ?_, by rw [HT.out]; exact hJ3, HK4.out⟩
          cases m with
          | zero => exact .inl ⟨rfl, by simp⟩
          | succ m => exact .inr ⟨m, rfl, by go_num⟩
        case measure => simp [intOf]
      · gi_wp2
        refine bodyPost_ret (results_none rfl _ _ _) rfl ?_
        exact ⟨⟨_, rfl⟩, .inr ⟨(revL l).take (l.length - m), List.take_prefix _ _, by rw [HT.out]; exact hJx3⟩⟩

theorem kpb_t {n₀ Bs : Nat} {A B C : World} (h : KpB n₀ Bs A B) (k : KpB n₀ Bs B C) : KpB n₀ Bs A C := ⟨h.1.trans k.1, fun v hv => k.2 v (h.2 v hv)⟩

theorem kpb_b {n₀ Bs : Nat} {w : World} (hB : n₀ ≤ w.heap.size) (W : World) (l : Nat) (o o' : Obj) (hl : w.heap.size ≤ l) (ho : W.heap[l]? = some o) (hc : o.isCells = false) (hw : o.isWalk = false) : KpB n₀ Bs W (W.putObj l o') := by
  refine ⟨belowK_b hB W l o o' hl ho hc hw, fun v hv => ?_⟩
  have hne : l ≠ Bs := by
    intro e
    subst e
    unfold World.cell? at hv
    simp only [ho] at hv
    cases o <;> simp [Obj.isCells] at hc hv
  rw [← hv]
  unfold World.cell? World.putObj
  simp only [Array.getElem?_setIfInBounds]
  rw [if_neg (by exact hne)]

set_option maxHeartbeats 1000000 in
/-- slices.Backward(s): the slice value is boxed; the function value captures the box. -/
theorem back_in (F : Fence) (n : Nat) (hF : F.fn 52) (hro : F.round = none) (a : Option Addr) (len cap : Nat) (w : World) :
    CallsIn F n Try.prog 52 #[.slice a len cap] w fun e w' => e = .returned (.func (.func 73) #[] #[.pointer (some ⟨w.heap.size, 0, none⟩)]) ∧ w' = w.alloc (.cells #[.slice a len cap] 46) := by
  refine callsIn_of_wp Try.func52 rfl hF ?_ hro
  simp only [Try.ntmps52, List.size_toArray, List.length_cons, List.length_nil, Nat.reduceAdd, Nat.reduceSub, Array.replicate_succ, Array.replicate_zero, List.push_toArray, List.append_toArray, List.nil_append, List.cons_append]
  gi_wp2
  go_ret
  exact ⟨rfl, rfl⟩

/-- The value that Backward hands back, as an iterator: all of the operations from behind, or the first of them. -/
theorem back_stops (F : Fence) (n : Nat) (hF : F.fn 73) (hro : F.round = none) (hn : 1 ≤ n) (Bs n₀ : Nat) (a : Option Addr) (cap : Nat) (l : List Ver) (hl : l.length ≤ 9223372036854775807) (w : World) (hBs : Bs < w.heap.size) (hn₀ : n₀ ≤ w.heap.size)
    (hcb : w.cell? ⟨Bs, 0, none⟩ = some (.slice a l.length cap))
    (hc : ∀ j x, l[j]? = some x → ∃ b off, a = some ⟨b, off, none⟩ ∧ b < n₀ ∧ w.cell? ⟨b, off + j * 2, none⟩ = some (vi x.1) ∧ w.cell? ⟨b, off + j * 2 + 1, none⟩ = some (vi x.2)) :
    SeqStopsK F n Try.prog 73 #[.pointer (some ⟨Bs, 0, none⟩)] encB (KpB n₀ Bs) (fun ys => ys = revL l) (fun pre => pre <+: revL l) l.length w := fun lp J Jx W hW _ _ hY h0 =>
  back1_in F n hF hro hn lp Bs n₀ a cap l hl J Jx hY W ((hW.cell (p := ⟨Bs, 0, none⟩) hBs).trans hcb)
    (fun j x hj => by
      obtain ⟨b, off, h1, h2, h3, h4⟩ := hc j x hj
      have hb : b < w.heap.size := by omega
      exact ⟨b, off, h1, h2, (hW.cell (p := ⟨b, off + j * 2, none⟩) hb).trans h3, (hW.cell (p := ⟨b, off + j * 2 + 1, none⟩) hb).trans h4⟩) h0
end Go.Proofs.Ytbadpfcjoobniaa
