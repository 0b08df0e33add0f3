/- Texts of one proof, one behind the other: MvIns, MvBin, MvFinM, ShSt, ShAp1. -/
import Derived.Test.YtdkkpkgfiodlbaaJb6
import Derived.Test.YtdkkpkgfiodlbaaJb2
import Derived.Lib.AppendZerosOnto
import Derived.Lib.Overlaps
import Derived.Laws.Externs
import Derived.Lib.Small
import Derived.Test.YtdkkpkgfiodlbaaJb7
import Derived.Test.YtdkkpkgfiodlbaaJb5
set_option linter.all false
/- slices.Insert of one version into a row that the call owns. -/
namespace Go.Proofs.Ytdkkpkgfiodlbaa
open Go.RowKit Go.Maps

theorem flat_take (l : List Ver) : ∀ i, (l.flatMap verV).take (i * 2) = (l.take i).flatMap verV := by
  induction l with
  | nil => intro i; simp
  | cons x l ih =>
    intro i
    cases i with
    | zero => simp
    | succ i => rw [List.flatMap_cons, List.take_succ_cons, List.flatMap_cons, ← ih i, show (i + 1) * 2 = (verV x).length + i * 2 by rw [verV_length]; omega, List.take_length_add_append]
theorem flat_drop (l : List Ver) : ∀ i, (l.flatMap verV).drop (i * 2) = (l.drop i).flatMap verV := by
  induction l with
  | nil => intro i; simp
  | cons x l ih =>
    intro i
    cases i with
    | zero => simp
    | succ i => rw [List.flatMap_cons, List.drop_succ_cons, ← ih i, show (i + 1) * 2 = (verV x).length + i * 2 by rw [verV_length]; omega, List.drop_length_add_append]
theorem flat_ins (l : List Ver) (i : Nat) (x : Ver) : (l.take i ++ x :: l.drop i).flatMap verV = (l.flatMap verV).take (i * 2) ++ (verV x ++ (l.flatMap verV).drop (i * 2)) := by
  rw [flat_take, flat_drop, List.flatMap_append, List.flatMap_cons]

theorem splice_take {α : Type} (L : List α) (o : Nat) (cs : List α) (h : o + cs.length ≤ L.length) : (splice L o cs).take o = L.take o := by
  unfold splice
  rw [List.take_append_of_le_length (by rw [List.length_take]; omega), List.take_take, Nat.min_self]
theorem splice_mid {α : Type} (L : List α) (o : Nat) (cs : List α) (h : o + cs.length ≤ L.length) : (splice L o cs).take (o + cs.length) = L.take o ++ cs := by
  unfold splice
  have : (L.take o).length = o := by rw [List.length_take]; omega
  conv => lhs; rw [← this]
  simp only [this]
  rw [show o + cs.length = (L.take o).length + cs.length by omega, List.take_length_add_append, List.take_left]
theorem splice_drop {α : Type} (L : List α) (o : Nat) (cs : List α) (h : o + cs.length ≤ L.length) : (splice L o cs).drop (o + cs.length) = L.drop (o + cs.length) := by
  unfold splice
  rw [show o + cs.length = (L.take o).length + cs.length by rw [List.length_take]; omega, List.drop_length_add_append, List.drop_left]
/-- First what stands behind is shifted, then the new one is laid. -/
theorem ins_shift {α : Type} (L X D : List α) (o : Nat) (h : o + X.length + D.length ≤ L.length) : (splice (splice L (o + X.length) D) o X).take (o + X.length + D.length) = L.take o ++ (X ++ D) := by
  have h1 : (splice L (o + X.length) D).length = L.length := length_splice _ _ _ (by omega)
  have e1 := splice_mid (splice L (o + X.length) D) o X (by omega)
  have e2 := splice_drop (splice L (o + X.length) D) o X (by omega)
  have e3 : (splice L (o + X.length) D).take o = L.take o := by
    have := splice_take L (o + X.length) D (by omega)
    calc (splice L (o + X.length) D).take o = ((splice L (o + X.length) D).take (o + X.length)).take o := by rw [List.take_take]; congr 1; omega
      _ = (L.take (o + X.length)).take o := by rw [this]
      _ = L.take o := by rw [List.take_take]; congr 1; omega
  have e4 : ((splice L (o + X.length) D).drop (o + X.length)).take D.length = D := by
    have := splice_mid L (o + X.length) D (by omega)
    have h5 : ((splice L (o + X.length) D).take (o + X.length + D.length)).drop (o + X.length) = D := by
      rw [this]
      have : (L.take (o + X.length)).length = o + X.length := by rw [List.length_take]; omega
      conv => lhs; rw [← this]
      simp
    rw [List.drop_take, show o + X.length + D.length - (o + X.length) = D.length by omega] at h5
    exact h5
  rw [← List.take_append_drop (o + X.length) (splice (splice L (o + X.length) D) o X), e1, e2, e3]
  have l1 : (L.take o ++ X).length = o + X.length := by rw [List.length_append, List.length_take]; omega
  rw [← l1, List.take_length_add_append, l1, e4, List.append_assoc]
/-- First the new one is laid, then what stands behind. -/
theorem ins_grow {α : Type} (L X D : List α) (o : Nat) (h : o + X.length + D.length ≤ L.length) : (splice (splice L o X) (o + X.length) D).take (o + X.length + D.length) = L.take o ++ (X ++ D) := by
  have h1 : (splice L o X).length = L.length := length_splice _ _ _ (by omega)
  rw [splice_mid _ _ _ (by omega), splice_mid _ _ _ (by omega), List.append_assoc]

def InsQ (base : Nat) (v : Value) (l : List Ver) (w : World) (e : Ending) (w' : World) : Prop := ∃ v', e = .returned v' ∧ OwV base w' v' l ∧ w.grownBy w' v.ownBlock

theorem src_ver {w : World} {vb : Nat} {x : Ver} (hx : w.heap[vb]? = some (.cells #[vi x.1, vi x.2] 135)) : Src w (.slice (some ⟨vb, 0, none⟩) 1 1) 2 1 (verV x) := by
  refine ⟨some ⟨vb, 0, none⟩, 1, rfl, rfl, (fun h => by cases h), fun ad had j u hu => ?_⟩
  cases had
  rw [addr_add, cell_of hx]
  have : j < 2 := (List.getElem?_eq_some_iff.1 hu).1
  rcases (show j = 0 ∨ j = 1 by omega) with rfl | rfl <;> exact hu

set_option maxRecDepth 100000 in
set_option maxHeartbeats 4000000 in
theorem insert_end {base : Nat} (v : Value) (l : List Ver) (x : Ver) (vb : Nat) (w : World) (h : OwV base w v l) (hl : l.length ≤ 1048576) (hbase : base ≤ w.heap.size) (hx : w.heap[vb]? = some (.cells #[vi x.1, vi x.2] 135)) :
    Calls Try.prog 71 #[v, vi l.length, .slice (some ⟨vb, 0, none⟩) 1 1] w (InsQ base v (l ++ [x]) w) := by
  have HO := Lib.hid h
  have HS := Lib.hid (src_ver hx)
  obtain ⟨a, cap, hv, hcap, ha, h63⟩ : ∃ a cap, v = .slice a l.length cap ∧ l.length ≤ cap ∧ (a = none → cap = 0) ∧ cap ≤ 9223372036854775807 := by
    rcases h.2 with ⟨hv, h0⟩ | ⟨g, cap, cur, hv, hg, hb, h1, h2, h3, h4⟩
    · exact ⟨none, 0, by rw [hv, h0], by omega, fun _ => rfl, by omega⟩
    · exact ⟨some ⟨g, 0, none⟩, cap, hv, h1, (fun h => by cases h), by simp only [maxLen] at h2; omega⟩
  subst hv
  have hz : ¬ ((1 : Int) = 0) := by omega
  clear h hx
  by_cases hc : cap = l.length
  all_goals
    cases a
    all_goals
      go_enter Try.func71, Try.ntmps71
      go_wp2_with (at_builtin; refine wpList_append_src rfl _ _ 133 rfl eltVer base l.length _ HO.out rfl 1 _ HS.out rfl (by intro u hu; simp [verV] at hu; rcases hu with rfl | rfl <;> rfl) (by omega) (by omega) hbase ?_; intro v1 w1 hown hg _)
      go_ret
      exact ⟨v1, rfl, by unfold OwV; rw [List.length_append, List.flatMap_append]; simpa using hown, hg⟩

theorem ver_size : (Try.prog.info? 135).map (·.size) = some 2 := by kernel_rfl
theorem ver_sizeOf (w : World) : (Go.sizeOf 135).run Try.prog w = .ok 2 w := by kernel_rfl

set_option maxRecDepth 100000 in
set_option maxHeartbeats 4000000 in
theorem insert_shift {base : Nat} (g cap : Nat) (cur : Array Value) (l : List Ver) (i : Nat) (x : Ver) (vb : Nat) (w : World) (hl : l.length ≤ 1048576) (hi : i < l.length) (hroom : l.length + 1 ≤ cap) (hcap : cap ≤ 9223372036854775807)
    (hg : w.heap[g]? = some (.cells cur 135 (0, 0))) (hbg : base ≤ g) (hs : cur.size = cap * 2) (ht : cur.toList.take (l.length * 2) = l.flatMap verV)
    (hx : w.heap[vb]? = some (.cells #[vi x.1, vi x.2] 135)) (hne : vb ≠ g) :
    Calls Try.prog 71 #[.slice (some ⟨g, 0, none⟩) l.length cap, vi i, .slice (some ⟨vb, 0, none⟩) 1 1] w (InsQ base (.slice (some ⟨g, 0, none⟩) l.length cap) (l.take i ++ x :: l.drop i) w) := by
  have hfl := flat2 l
  have hov : ∀ lb cb, (callFunc 90 #[.slice (some ⟨vb, 0, none⟩) 1 1, .slice (some ⟨g, (i + 1) * 2, none⟩) lb cb]).run Try.prog w = .ok (.value (.bool false)) w := fun lb cb => by
    rw [run_callFunc_extern Try.func90 (by kernel_rfl) (by kernel_rfl) (by kernel_rfl) (e := Extern.SlicesOverlaps.overlaps #[133, 133] #[4]) (by kernel_rfl),
      Lib.run_overlaps_apart w 133 4 135 Try.underlying133 2 ver_sizeOf ⟨vb, 0, none⟩ ⟨g, (i + 1) * 2, none⟩ 1 1 lb cb hne 135 135 2 (cap * 2)
        (by simp [World.shape?, hx]) (by simp [World.shape?, hg, hs]) (by omega) (free_of hx 0) (free_of hx 2)]
    rfl
  have hdl : ((l.flatMap verV).drop (i * 2)).length = (l.length - i) * 2 := by rw [List.length_drop, hfl]; omega
  obtain ⟨D, hD⟩ : ∃ D, (l.flatMap verV).drop (i * 2) = D := ⟨_, rfl⟩
  rw [hD] at hdl
  have h1D : ∀ v ∈ D, v.oneCell' = true := fun v hv => one_of (enc := verV) (by intro x u hu; simp [verV] at hu; rcases hu with rfl | rfl <;> rfl) l v (by rw [← hD] at hv; exact List.mem_of_mem_drop hv)
  obtain ⟨w1, hcp1, H1⟩ := run_copyR (P := Try.prog) w.drew 133 133 3 135 2 g ((i + 1) * 2) (l.length + 1 - (i + 1)) (cap - (i + 1)) (some ⟨g, i * 2, none⟩) (l.length + 1 - i) (cap - i) D cur 135
    Try.underlying133 ver_size (by rw [hdl]; simp only [Nat.min_def]; split <;> omega) hg
    ⟨_, rfl, fun j v hj => by
      rw [addr_add, show w.drew.cell? _ = w.cell? _ from rfl, cell_of hg]
      rw [← hD, List.getElem?_drop, ← ht, List.getElem?_take] at hj
      split at hj
      · simpa using hj
      · cases hj⟩ (by rw [hdl, hs]; omega) h1D
  obtain ⟨w2, hcp2, H2⟩ := run_copyR (P := Try.prog) w1 133 133 3 135 2 g (i * 2) (l.length + 1 - i) (cap - i) (some ⟨vb, 0, none⟩) 1 1 (verV x) _ 135
    Try.underlying133 ver_size (by rw [verV_length]; simp only [Nat.min_def]; split <;> omega) H1.out.1
    ⟨_, rfl, fun j v hj => by
      have hb := (H1.out.2.1.block vb (Array.getElem?_eq_some_iff.1 hx).1 (fun e => hne (by cases e; rfl))).trans hx
      rw [addr_add, cell_of hb]
      have : j < 2 := (List.getElem?_eq_some_iff.1 hj).1
      rcases (show j = 0 ∨ j = 1 by omega) with rfl | rfl <;> exact hj⟩
    (by simp only [verV_length, List.size_toArray]; rw [length_splice _ _ _ (by simp [hdl]; omega)]; simp; omega) (by intro u hu; simp [verV] at hu; rcases hu with rfl | rfl <;> rfl)
  have HC1 := Lib.hid hcp1
  have HC2 := Lib.hid hcp2
  have HOV := Lib.hid hov
  have HHG := Lib.hid hg
  have HT := Lib.hid ht
  have HD := Lib.hid hD
  have HDL := Lib.hid hdl
  have HFL := Lib.hid hfl
  have HSZ := Lib.hid hs
  have hz : ¬ ((1 : Int) = 0) := by omega
  have hz2 : ¬ ((i : Int) = (l.length : Int)) := by omega
  have hz3 : ¬ ((cap : Int) < (l.length : Int) + 1) := by omega
  have hw1 : IntKind.i64.wrap ((i : Int) + 1) = (i : Int) + 1 := by rw [IntKind.wrap_i64]; omega
  have hb1 : (0 : Int) ≤ (i : Int) + 1 := by omega
  have htn : ((i : Int) + 1).toNat = i + 1 := by omega
  have hb2 : ¬ (cap = i + 1) := by omega
  have hb3 : (i : Int) + 1 ≤ (l.length : Int) + 1 := by omega
  have hb4 : ¬ (cap = i) := by omega
  have hb5 : (i : Int) ≤ (l.length : Int) + 1 := by omega
  have hb6 : (l.length : Int) + 1 ≤ (cap : Int) := by omega
  have hov' := HOV.out
  clear hcp1 hcp2 hov hg ht hD hdl hfl hs h1D hx
  go_enter Try.func71, Try.ntmps71
  go_wp2_with (simp only [hov'])
  go_region_law (refine step_copy_run rfl _ _ 133 133 rfl _ _ (by simp [Act.eval, Act.put]) (by simp [Act.eval, Act.put]) HC1.out ?_)
  go_wp2_with (refine wpList_copy_run rfl (.tmp 80) (.tmp 81) 133 133 rfl _ _ rfl rfl HC2.out ?_)
  go_ret
  refine ⟨_, rfl, ?_, ?_⟩
  · have hlen : (splice (splice cur.toList ((i + 1) * 2) D) (i * 2) (verV x)).length = cap * 2 := by
      rw [length_splice _ _ _ (by rw [length_splice _ _ _ (by simp [HDL.out, HSZ.out]; omega), verV_length]; simp [HSZ.out]; omega), length_splice _ _ _ (by simp [HDL.out, HSZ.out]; omega)]; simp [HSZ.out]
    have hins := ins_shift cur.toList (verV x) D (i * 2) (by rw [verV_length, HDL.out]; simp [HSZ.out]; omega)
    refine ⟨by rw [flat2], .inr ⟨g, cap, _, ?_, hbg, H2.out.1, ?_, by simp only [maxLen]; omega, by simp only [List.size_toArray]; simpa using hlen, ?_⟩⟩
    · congr 1; simp; omega
    · simp; omega
    · have e1 : (l.take i ++ x :: l.drop i).length = l.length + 1 := by simp; omega
      have e2 : (l.length + 1) * 2 = i * 2 + (verV x).length + D.length := by rw [verV_length, HDL.out]; omega
      rw [e1, flat_ins, e2]
      have e3 : (i + 1) * 2 = i * 2 + (verV x).length := by rw [verV_length]; omega
      rw [e3]
      simp only [List.toList_toArray]
      rw [hins, HD.out, ← HT.out, List.take_take, Nat.min_eq_left (by omega)]
  · have hh := H1.out.2.1.trans H2.out.2.1
    exact ⟨hh.os, hh.tape, hh.output, hh.size, hh.block⟩

theorem size_zeroCells (z : Array Value) (n : Nat) : (Builtin.zeroCells z n).size = n * z.size := by simp [Builtin.zeroCells]
set_option maxRecDepth 100000 in
set_option maxHeartbeats 4000000 in
theorem insert_grow {base : Nat} (g : Nat) (cur : Array Value) (l : List Ver) (i : Nat) (x : Ver) (vb : Nat) (w : World) (hl : l.length ≤ 1048576) (hi : i < l.length) (hbase : base ≤ w.heap.size)
    (hg : w.heap[g]? = some (.cells cur 135 (0, 0))) (hs : cur.size = l.length * 2) (ht : cur.toList.take (l.length * 2) = l.flatMap verV)
    (hx : w.heap[vb]? = some (.cells #[vi x.1, vi x.2] 135)) :
    Calls Try.prog 71 #[.slice (some ⟨g, 0, none⟩) l.length l.length, vi i, .slice (some ⟨vb, 0, none⟩) 1 1] w (InsQ base (.slice (some ⟨g, 0, none⟩) l.length l.length) (l.take i ++ x :: l.drop i) w) := by
  have hfl := flat2 l
  have hcell : ∀ j u, (l.flatMap verV)[j]? = some u → w.cell? ⟨g, j, none⟩ = some u := fun j u hj => by
    rw [cell_of hg]
    rw [← ht, List.getElem?_take] at hj
    split at hj
    · simpa using hj
    · cases hj
  obtain ⟨i0, hi0, hz0, hzs, hzb⟩ := info_parts Try.infoVer
  have hold : (Builtin.firstCells i0.size i (.slice (some ⟨g, 0, none⟩) i l.length)).run Try.prog w.drew = .ok ((l.flatMap verV).take (i * 2)).toArray w.drew := by
    rw [hzs]
    exact run_firstCells_some w.drew 2 i ⟨g, 0, none⟩ i l.length ((l.flatMap verV).take (i * 2)) (by rw [List.length_take]; omega) (fun j v hj => by
      rw [addr_add, Nat.zero_add]
      rw [List.getElem?_take] at hj
      split at hj
      · exact hcell j v hj
      · cases hj)
  have hkk : (l.length : Int) + 1 - (i : Int) = ((l.length + 1 - i : Nat) : Int) := by omega
  have hik : i + (l.length + 1 - i) = l.length + 1 := by omega
  have hrz := Lib.run_append_grow_zeros w 133 3 133 135 i0 _ .i64 .i64 Try.underlying133 Try.underlying3 hi0 hz0 (some ⟨g, 0, none⟩) i l.length _ hold (l.length + 1 - i) (by omega) (by omega) (by omega) (by omega) (by rw [hzb]; omega) (by rw [hzb, hik]; exact growslice_fits (by omega) (by omega))
  rw [hik, ← hkk] at hrz
  have hG1 := grownCap_ge w (l.length + 1) l.length 135
  have hG2 := grownCap_le_maxLen w (l.length + 1) l.length 135 (by unfold maxLen; omega)
  generalize grownCap w (l.length + 1) l.length 135 = G at *
  have hR : ∃ ROW : Array Value, ROW = ((l.flatMap verV).take (i * 2)).toArray ++ Builtin.zeroCells (Value.agg #[vi 0, vi 0]).cells (l.length + 1 - i) ++ Builtin.zeroCells (Value.agg #[vi 0, vi 0]).cells (G - (l.length + 1)) := ⟨_, rfl⟩
  obtain ⟨ROW, hROW⟩ := hR
  have hRs : ROW.size = G * 2 := by
    rw [hROW]
    simp only [Array.size_append, size_zeroCells, List.size_toArray, List.length_take, hfl]
    have : (Value.agg #[vi 0, vi 0]).cells.size = 2 := rfl
    rw [this]; omega
  have hRt : ROW.toList.take (i * 2) = (l.flatMap verV).take (i * 2) := by
    rw [hROW]
    simp only [Array.toList_append, List.append_assoc]
    rw [List.take_append_of_le_length (by simp [hfl]; omega), List.take_take, Nat.min_self]
  rw [← hROW] at hrz
  have hrl : ROW.toList.length = G * 2 := by rw [Array.length_toList]; exact hRs
  have hz63 : G ≤ 9223372036854775807 := by simpa only [maxLen] using hG2
  clear hROW hG2 hzb hzs hz0 hi0 hold
  obtain ⟨W1, hW1⟩ : ∃ W1, W1 = w.drew.alloc (.cells ROW 135) := ⟨_, rfl⟩
  have hN1 : W1.heap[w.heap.size]? = some (.cells ROW 135) := by rw [hW1]; exact alloc_at w.drew _
  have hB1 : Below w.heap.size w W1 := by rw [hW1]; exact ((Below.refl w.heap.size w).drew).alloc (Nat.le_refl _) _
  rw [← hW1] at hrz
  have hgw := (Array.getElem?_eq_some_iff.1 hg).1
  have hvw := (Array.getElem?_eq_some_iff.1 hx).1
  have hdl : ((l.flatMap verV).drop (i * 2)).length = (l.length - i) * 2 := by rw [List.length_drop, hfl]; omega
  obtain ⟨D, hD⟩ : ∃ D, (l.flatMap verV).drop (i * 2) = D := ⟨_, rfl⟩
  rw [hD] at hdl
  have h1D : ∀ v ∈ D, v.oneCell' = true := fun v hv => one_of (enc := verV) (by intro x u hu; simp [verV] at hu; rcases hu with rfl | rfl <;> rfl) l v (by rw [← hD] at hv; exact List.mem_of_mem_drop hv)
  obtain ⟨W2, hcpA, H2⟩ := run_copyR (P := Try.prog) W1 133 133 3 135 2 w.heap.size (i * 2) (l.length + 1 - i) (G - i) (some ⟨vb, 0, none⟩) 1 1 (verV x) ROW 135
    Try.underlying133 ver_size (by rw [verV_length]; simp only [Nat.min_def]; split <;> omega) hN1
    ⟨_, rfl, fun j v hj => by
      rw [addr_add, cell_of ((hB1.block vb hvw).trans hx)]
      have : j < 2 := (List.getElem?_eq_some_iff.1 hj).1
      rcases (show j = 0 ∨ j = 1 by omega) with rfl | rfl <;> exact hj⟩
    (by rw [verV_length, hRs]; omega) (by intro u hu; simp [verV] at hu; rcases hu with rfl | rfl <;> rfl)
  have hg2 : W2.drew.heap[g]? = some (.cells cur 135 (0, 0)) := (H2.out.2.1.block g (by have := hB1.size; omega) (fun e => by have := Option.some.inj e; omega)).trans ((hB1.block g hgw).trans hg)
  obtain ⟨W3, hcpB, H3⟩ := run_copyR (P := Try.prog) W2.drew 133 133 3 135 2 w.heap.size ((i + 1) * 2) (l.length + 1 - (i + 1)) (G - (i + 1)) (some ⟨g, i * 2, none⟩) (l.length - i) (l.length - i) D (splice ROW.toList (i * 2) (verV x)).toArray 135
    Try.underlying133 ver_size (by rw [hdl]; simp only [Nat.min_def]; split <;> omega) H2.out.1
    ⟨_, rfl, fun j v hj => by
      rw [addr_add, cell_of hg2]
      rw [← hD, List.getElem?_drop, ← ht, List.getElem?_take] at hj
      split at hj
      · simpa using hj
      · cases hj⟩ (by show (i + 1) * 2 + D.length ≤ (splice ROW.toList (i * 2) (verV x)).length; rw [length_splice _ _ _ (by rw [verV_length, hrl]; omega), hrl, hdl]; omega) h1D
  have HRZ := Lib.hid hrz
  have HCA := Lib.hid hcpA
  have HCB := Lib.hid hcpB
  have HD := Lib.hid hD
  have HDL := Lib.hid hdl
  have HRS := Lib.hid hRs
  have HRT := Lib.hid hRt
  have HB1 := Lib.hid hB1
  have hz : ¬ ((1 : Int) = 0) := by omega
  have hz2 : ¬ ((i : Int) = (l.length : Int)) := by omega
  have hz3 : (l.length : Int) < (l.length : Int) + 1 := by omega
  have hw1 : IntKind.i64.wrap ((i : Int) + 1) = (i : Int) + 1 := by rw [IntKind.wrap_i64]; omega
  have hb1 : (0 : Int) ≤ (i : Int) + 1 := by omega
  have htn : ((i : Int) + 1).toNat = i + 1 := by omega
  have hb2 : ¬ (G = i + 1) := by omega
  have hb2' : ¬ (G = i) := by omega
  have hb3 : (i : Int) + 1 ≤ (l.length : Int) + 1 := by omega
  have hb4 : ¬ (l.length = i) := by omega
  have hb5 : (i : Int) ≤ (l.length : Int) + 1 := by omega
  have hb6 : (l.length : Int) + 1 ≤ (G : Int) := by omega
  have hb7 : (i : Int) ≤ (l.length : Int) := by omega
  clear hrz hcpA hcpB hD hdl hRs hRt hB1 hW1 hN1 hg2 hkk hik hcell hg ht hfl hs h1D hx
  go_enter Try.func71, Try.ntmps71
  go_wp2_with (first
    | (at_builtin; refine Lib.wpList_append_run _ rfl _ _ _ _ rfl _ _ rfl rfl _ _ HRZ.out ?_)
    | (refine wpList_copy_run rfl (.tmp 43) (.tmp 44) 133 133 rfl _ _ rfl rfl HCA.out ?_))
  go_region_law (refine step_copy_run rfl _ _ 133 133 rfl _ _ (by simp [Act.eval, Act.put]) (by simp [Act.eval, Act.put]) HCB.out ?_)
  go_wp2_with fail
  go_ret
  refine ⟨_, rfl, ?_, ?_⟩
  · have hlen : (splice (splice ROW.toList (i * 2) (verV x)) ((i + 1) * 2) D).length = G * 2 := by
      rw [length_splice _ _ _ (by rw [length_splice _ _ _ (by rw [verV_length]; simp [HRS.out]; omega)]; simp [HRS.out, HDL.out]; omega), length_splice _ _ _ (by rw [verV_length]; simp [HRS.out]; omega)]; simp [HRS.out]
    have hins := ins_grow ROW.toList (verV x) D (i * 2) (by rw [verV_length, HDL.out]; simp [HRS.out]; omega)
    refine ⟨by rw [flat2], .inr ⟨w.heap.size, G, _, ?_, hbase, H3.out.1, ?_, by simp only [maxLen]; omega, by simp only [List.size_toArray]; simpa using hlen, ?_⟩⟩
    · congr 1; simp; omega
    · simp; omega
    · have e1 : (l.take i ++ x :: l.drop i).length = l.length + 1 := by simp; omega
      have e2 : (l.length + 1) * 2 = i * 2 + (verV x).length + D.length := by rw [verV_length, HDL.out]; omega
      have e3 : (i + 1) * 2 = i * 2 + (verV x).length := by rw [verV_length]; omega
      rw [e1, flat_ins, e2, e3]
      simp only [List.toList_toArray]
      rw [hins, HD.out, HRT.out]
  · have hb2 := H2.out.2.1
    have hb3 := H3.out.2.1
    have hsz := HB1.out.size
    refine ⟨(hb3.os.trans hb2.os).trans HB1.out.os, (hb3.tape.trans hb2.tape).trans HB1.out.tape, (hb3.output.trans hb2.output).trans HB1.out.output, Nat.le_trans (Nat.le_trans hsz hb2.size) hb3.size, fun k hk _ => ?_⟩
    have hne : some k ≠ some w.heap.size := fun e => by have := Option.some.inj e; omega
    exact ((hb3.block k (by show k < W2.heap.size; have := hb2.size; omega) hne).trans (hb2.block k (by omega) hne)).trans (HB1.out.block k hk)

theorem insert_call {base : Nat} (v : Value) (l : List Ver) (i : Nat) (x : Ver) (vb : Nat) (w : World) (h : OwV base w v l) (hl : l.length ≤ 1048576) (hi : i ≤ l.length) (hbase : base ≤ w.heap.size)
    (hx : w.heap[vb]? = some (.cells #[vi x.1, vi x.2] 135)) (hne : ∀ g, v.ownBlock = some g → vb ≠ g) :
    Calls Try.prog 71 #[v, vi i, .slice (some ⟨vb, 0, none⟩) 1 1] w (InsQ base v (l.take i ++ x :: l.drop i) w) := by
  by_cases he : i = l.length
  · subst he
    have := insert_end v l x vb w h hl hbase hx
    simpa using this
  · rcases h.2 with ⟨hv, h0⟩ | ⟨g, cap, cur, rfl, hg, hb, h1, h2, h3, h4⟩
    · omega
    · have h63 : cap ≤ 9223372036854775807 := by simpa only [maxLen] using h2
      by_cases hc : cap = l.length
      · subst hc
        exact insert_grow g cur l i x vb w hl (by omega) hbase hb h3 h4 hx
      · exact insert_shift g cap cur l i x vb w hl (by omega) (by omega) h63 hb hg h3 h4 hx (hne g rfl)
end Go.Proofs.Ytdkkpkgfiodlbaa

/- cmp.Compare at ints; slices.BinarySearchFunc at versions. -/
namespace Go.Proofs.Ytdkkpkgfiodlbaa
open Go.RowKit Go.Maps
section
set_option maxRecDepth 100000
set_option maxHeartbeats 2000000
theorem nan_call (a : Int) (w : World) : Calls Try.prog 89 #[vi a] w fun e w' => e = .returned (.bool false) ∧ w' = w := by
  go_enter Try.func89, Try.ntmps89
  go_wp2_with fail
  go_ret
  exact ⟨by simp, rfl⟩
theorem compare_call (a b : Int) (w : World) : Calls Try.prog 69 #[vi a, vi b] w fun e w' => e = .returned (vi (Lib.compareInt a b)) ∧ w = w' := by
  by_cases h1 : a < b
  · have e1 := Lib.hid (show Lib.compareInt a b = -1 by unfold Lib.compareInt; simp [h1])
    go_enter Try.func69, Try.ntmps69
    go_wp2_with (go_at_call 89; refine (nan_call _ _).mono ?_; rintro e w1 ⟨rfl, rfl⟩)
    go_ret
    exact ⟨by rw [e1.out]; rfl, rfl⟩
  · by_cases h2 : b < a
    · have e1 := Lib.hid (show Lib.compareInt a b = 1 by unfold Lib.compareInt; simp [h1, h2])
      go_enter Try.func69, Try.ntmps69
      go_wp2_with (go_at_call 89; refine (nan_call _ _).mono ?_; rintro e w1 ⟨rfl, rfl⟩)
      go_ret
      exact ⟨by rw [e1.out]; rfl, rfl⟩
    · have e1 := Lib.hid (show Lib.compareInt a b = 0 by unfold Lib.compareInt; simp [h1, h2])
      go_enter Try.func69, Try.ntmps69
      go_wp2_with (go_at_call 89; refine (nan_call _ _).mono ?_; rintro e w1 ⟨rfl, rfl⟩)
      go_ret
      exact ⟨by rw [e1.out]; rfl, rfl⟩

theorem fin1_call (x : Ver) (t : Int) (w : World) : Calls Try.prog 68 #[.agg #[vi x.1, vi x.2], vi t] w fun e w' => e = .returned (vi (Lib.compareInt x.1 t)) ∧ Below w.heap.size w w' := by
  go_enter Try.func68, Try.ntmps68
  go_wp2_with (go_at_call 69; refine (compare_call _ _ _).mono ?_; rintro e w1 ⟨rfl, rfl⟩)
  go_ret
  exact ⟨rfl, (Below.refl _ _).alloc (Nat.le_refl _) _⟩
end

def sameB (l : List Ver) (i : Nat) (t : Int) : Bool := match l[i]? with | some x => x.1 == t | none => false
theorem cmp_neg (a b : Int) : decide (Lib.compareInt a b < 0) = decide (a < b) := by
  unfold Lib.compareInt
  by_cases h1 : a < b
  · simp [h1]
  · by_cases h2 : a > b <;> simp [h1, h2]
theorem cmp_eq (a b : Int) : (Lib.compareInt a b == 0) = (a == b) := by
  unfold Lib.compareInt
  by_cases h1 : a < b
  · have : a ≠ b := by omega
    simp [h1, this]
  · by_cases h2 : a > b
    · have : a ≠ b := by omega
      simp [h1, h2, this]
    · have : a = b := by omega
      simp [this]
def BinQ (l : List Ver) (t : Int) (w : World) (e : Ending) (w' : World) : Prop :=
  ∃ i : Nat, e = .returned (.tuple #[vi i, .bool (sameB l i t)]) ∧ i ≤ l.length ∧ (∀ j x, j < i → l[j]? = some x → x.1 < t) ∧ (∀ j x, i ≤ j → l[j]? = some x → t ≤ x.1) ∧ Below w.heap.size w w'

set_option maxRecDepth 100000 in
set_option maxHeartbeats 2000000 in
theorem bin_call (v : Value) (l : List Ver) (t : Int) (w : World) (hv : RdVer w v l) (hl : l.length ≤ 1048576) (hs : l.Pairwise (fun x y => x.1 ≤ y.1)) :
    Calls Try.prog 67 #[v, vi t, .func (.func 68) #[] #[]] w (BinQ l t w) := by
  have HV := Lib.hid hv
  have HS := Lib.hid hs
  obtain ⟨a, len, cap, rfl, rfl, hm, -⟩ := hv.at
  clear hv hs
  have e47 : ∀ args w, (callFunc 68 args).run Try.prog w = .ok (.enter 68 args) w := enters_of Try.func68 (by kernel_rfl) rfl
  go_enter Try.func67, Try.ntmps67
  go_wp2_with fail
  go_loopw [9, 10] (fun vi' vj wr => ∃ i j : Nat, i ≤ j ∧ j ≤ l.length ∧ vi' = .int .i64 i ∧ vj = .int .i64 j ∧ Hid (∀ j x, j < i → l[j]? = some x → x.1 < t) ∧ Hid (∀ k x, j ≤ k → l[k]? = some x → t ≤ x.1) ∧ Below w.heap.size w wr) (fun vi' vj _ => (intOf vj).toNat - (intOf vi').toNat)
  case atStart => exact ⟨0, l.length, Nat.zero_le _, Nat.le_refl _, rfl, rfl, Lib.hid (fun j x h => absurd h (Nat.not_lt_zero _)), Lib.hid (fun k x h hk => by have := (List.getElem?_eq_some_iff.1 hk).1; omega), Below.refl _ _⟩
  case round =>
    obtain ⟨wj, rfl⟩ : ∃ wj : World, wj = wr := ⟨_, rfl⟩
    obtain ⟨i, j, hij, hj, rfl, rfl, HLo, HHi, hb⟩ := hrel
    have HB := Lib.hid hb
    clear hb
    by_cases hlt : i < j
    · obtain ⟨m, hmid⟩ : ∃ m, (i + j) / 2 = m := ⟨_, rfl⟩
      obtain ⟨x, hx⟩ := some_at (l := l) (k := m) (by omega)
      obtain ⟨_, _, _, e5, -, -, hcl⟩ := HV.out.at
      cases e5
      obtain ⟨b, off, rfl, k0', k1', -⟩ := hcl m x hx
      have k0 := cell_later HB.out k0'
      have k1 := cell_later HB.out k1'
      have HX := Lib.hid hx
      have hm1 : i ≤ m := by omega
      have hm2 : m < j := by omega
      have hml : (m : Int) < (l.length : Int) := by omega
      clear hcl hx k0' k1'
      have HC := Lib.hid (cmp_neg x.1 t)
      have HM := Lib.hid hmid
      by_cases hc : Lib.compareInt x.1 t < 0
      · have hx1 : x.1 < t := by have := HC.out; simp [hc] at this; exact this
        have HNEW := Lib.hid (show ∀ k y, k < (i + j) / 2 + 1 → l[k]? = some y → y.1 < t from fun k y hk hy => by
          have hp := HS.out
          rcases Nat.lt_or_ge k m with h1 | h1
          · have h2 := List.pairwise_iff_getElem.1 hp k m (List.getElem?_eq_some_iff.1 hy).1 (by omega) h1
            rw [(List.getElem?_eq_some_iff.1 hy).2, (List.getElem?_eq_some_iff.1 HX.out).2] at h2; omega
          · obtain rfl : k = m := by omega
            rw [HX.out] at hy; cases hy; exact hx1)
        clear hx1
        go_wp2_with (go_at_call 68; refine (fin1_call x t _).mono ?_; rintro e w2 ⟨rfl, hb2⟩; have HB2 := Lib.hid (HB.out.trans (hb2.mono HB.out.size)); clear hb2)
        go_roundw
        case rel => exact ⟨(i + j) / 2 + 1, j, by omega, hj, by go_num, rfl, HNEW, HHi, HB2.out⟩
        case measure => simp [intOf]; omega
      · have hx1 : ¬ x.1 < t := by have := HC.out; simp [hc] at this; omega
        have HNEW := Lib.hid (show ∀ k y, (i + j) / 2 ≤ k → l[k]? = some y → t ≤ y.1 from fun k y hk hy => by
          have hp := HS.out
          rcases Nat.lt_or_ge m k with h1 | h1
          · have h2 := List.pairwise_iff_getElem.1 hp m k (by omega) (List.getElem?_eq_some_iff.1 hy).1 h1
            rw [(List.getElem?_eq_some_iff.1 hy).2, (List.getElem?_eq_some_iff.1 HX.out).2] at h2; omega
          · obtain rfl : k = m := by omega
            rw [HX.out] at hy; cases hy; omega)
        clear hx1
        go_wp2_with (go_at_call 68; refine (fin1_call x t _).mono ?_; rintro e w2 ⟨rfl, hb2⟩; have HB2 := Lib.hid (HB.out.trans (hb2.mono HB.out.size)); clear hb2)
        go_roundw
        case rel => exact ⟨i, (i + j) / 2, by omega, by omega, rfl, by go_num, HLo, HNEW, HB2.out⟩
        case measure => simp [intOf]; omega
    · obtain rfl : i = j := by omega
      by_cases hin : i < l.length
      · obtain ⟨x, hx⟩ := some_at hin
        obtain ⟨_, _, _, e5, -, -, hcl⟩ := HV.out.at
        cases e5
        obtain ⟨b, off, rfl, k0', k1', -⟩ := hcl i x hx
        have k0 := cell_later HB.out k0'
        have k1 := cell_later HB.out k1'
        have hml : (i : Int) < (l.length : Int) := by omega
        have HSB := Lib.hid (show sameB l i t = (Lib.compareInt x.1 t == 0) by unfold sameB; rw [hx, cmp_eq])
        clear hcl hx k0' k1'
        go_wp2_with (go_at_call 68; refine (fin1_call x t _).mono ?_; rintro e w2 ⟨rfl, hb2⟩; have HB2 := Lib.hid (HB.out.trans (hb2.mono HB.out.size)); clear hb2)
        go_ret2
        exact ⟨i, by rw [HSB.out]; rfl, hj, HLo.out, HHi.out, HB2.out⟩
      · have HSB := Lib.hid (show sameB l i t = false by unfold sameB; rw [List.getElem?_eq_none (by omega)])
        obtain rfl : i = l.length := by omega
        go_wp2_with fail
        go_ret2
        exact ⟨l.length, by rw [HSB.out]; rfl, hj, HLo.out, HHi.out, HB.out⟩
end Go.Proofs.Ytdkkpkgfiodlbaa

/- What Finish makes of the versions; what turns. No walk. -/
namespace Go.Proofs.Ytdkkpkgfiodlbaa
open Go.RowKit Go.Maps
/-- Only these blocks turn. -/
structure Turns (bs : List Nat) (w w' : World) : Prop where
  os : w'.os = w.os
  tape : w'.tape = w.tape
  output : w'.output = w.output
  size : w.heap.size ≤ w'.heap.size
  block : ∀ k, k < w.heap.size → k ∉ bs → w'.heap[k]? = w.heap[k]?
theorem Turns.refl (bs : List Nat) (w : World) : Turns bs w w := ⟨rfl, rfl, rfl, Nat.le_refl _, fun _ _ _ => rfl⟩
theorem Turns.trans {bs : List Nat} {a b c : World} (h : Turns bs a b) (k : Turns bs b c) : Turns bs a c :=
  ⟨k.os.trans h.os, k.tape.trans h.tape, k.output.trans h.output, Nat.le_trans h.size k.size, fun j hj hn => (k.block j (Nat.lt_of_lt_of_le hj h.size) hn).trans (h.block j hj hn)⟩
theorem Turns.below {bs : List Nat} {a b : World} (h : Below a.heap.size a b) : Turns bs a b := ⟨h.os, h.tape, h.output, h.size, fun j hj _ => h.block j hj⟩
theorem Turns.later {bs : List Nat} {a b c : World} (h : Turns bs a b) (k : Below b.heap.size b c) : Turns bs a c := h.trans (Turns.below k)
theorem Turns.grown {bs : List Nat} {a b : World} {m : Nat} (h : a.grownBy b (some m)) (hm : m ∈ bs) : Turns bs a b :=
  ⟨h.os, h.tape, h.output, h.size, fun j hj hn => h.block j hj (fun e => hn (by cases e; exact hm))⟩
theorem Turns.mono {bs cs : List Nat} {a b : World} (h : Turns bs a b) (hs : ∀ k ∈ bs, k ∈ cs) : Turns cs a b := ⟨h.os, h.tape, h.output, h.size, fun j hj hn => h.block j hj (fun hb => hn (hs j hb))⟩
/-- Where only maps turn all cells stay. -/
theorem Turns.solid {bs : List Nat} {a b : World} (h : Turns bs a b) (hm : ∀ k ∈ bs, ∃ es c, a.heap[k]? = some (.map es c)) : Solid a b := fun j cs T fz hj =>
  (h.block j (Array.getElem?_eq_some_iff.1 hj).1 (fun hb => by obtain ⟨es, c, he⟩ := hm j hb; rw [he] at hj; cases hj)).trans hj
theorem MvS.maps {base p mk mr me : Nat} {serial : Bool} {bugs : Int} {K : KeysL} {R : RdyL} {E : EndL} {W : World} (h : MvS base p mk mr me serial bugs K R E W) : ∀ k ∈ [mk, mr, me], ∃ es c, W.heap[k]? = some (.map es c) := by
  intro k hk
  simp at hk
  rcases hk with rfl | rfl | rfl
  · exact h.keys.obj
  · exact h.ready.obj
  · exact h.ends.obj

def insV : List Ver → Int → Int → List Ver
  | [], t, v => [(t, v)]
  | x :: l, t, v => if x.1 < t then x :: insV l t v else if x.1 = t then (t, v) :: l else (t, v) :: x :: l
def Srt (l : List Ver) : Prop := l.Pairwise (fun x y => x.1 < y.1)

theorem insV_at : ∀ (l : List Ver) (t v : Int) (i : Nat), i ≤ l.length → (∀ j x, j < i → l[j]? = some x → x.1 < t) → (∀ j x, i ≤ j → l[j]? = some x → t ≤ x.1) →
    insV l t v = if sameB l i t then l.set i (t, v) else l.take i ++ (t, v) :: l.drop i
  | [], t, v, i, hi, _, _ => by
    obtain rfl : i = 0 := by simpa using hi
    rfl
  | x :: l, t, v, 0, hi, _, h2 => by
    have h0 := h2 0 x (Nat.le_refl _) rfl
    unfold insV sameB
    rw [if_neg (by omega)]
    by_cases hx : x.1 = t <;> simp [hx]
  | x :: l, t, v, i + 1, hi, h1, h2 => by
    have h0 := h1 0 x (by omega) rfl
    have ih := insV_at l t v i (by simpa using hi) (fun j y hj hy => h1 (j + 1) y (by omega) (by simpa using hy)) (fun j y hj hy => h2 (j + 1) y (by omega) (by simpa using hy))
    have hs : sameB (x :: l) (i + 1) t = sameB l i t := by unfold sameB; simp
    unfold insV
    rw [if_pos h0, ih, hs]
    by_cases hb : sameB l i t = true <;> simp [hb]

theorem insV_len : ∀ (l : List Ver) (t v : Int), (insV l t v).length ≤ l.length + 1
  | [], _, _ => by simp [insV]
  | x :: l, t, v => by
    have := insV_len l t v
    unfold insV
    split
    · simp; exact this
    · split <;> simp
theorem insV_mem {y : Ver} : ∀ {l : List Ver} {t v : Int}, y ∈ insV l t v → y = (t, v) ∨ y ∈ l
  | [], t, v, h => .inl (by simpa [insV] using h)
  | x :: l, t, v, h => by
    unfold insV at h
    split at h
    · rcases List.mem_cons.1 h with h | h
      · exact .inr (by simp [h])
      · rcases insV_mem h with h | h
        · exact .inl h
        · exact .inr (by simp [h])
    · split at h
      · rcases List.mem_cons.1 h with h | h
        · exact .inl h
        · exact .inr (by simp [h])
      · rcases List.mem_cons.1 h with h | h
        · exact .inl h
        · exact .inr h
theorem insV_srt : ∀ {l : List Ver} {t v : Int}, Srt l → Srt (insV l t v)
  | [], t, v, _ => by simp [insV, Srt]
  | x :: l, t, v, h => by
    have h' := List.pairwise_cons.1 h
    unfold insV
    split
    · rename_i hx
      refine List.pairwise_cons.2 ⟨fun y hy => ?_, insV_srt h'.2⟩
      rcases insV_mem hy with rfl | hy
      · exact hx
      · exact h'.1 y hy
    · split
      · rename_i hx he
        exact List.pairwise_cons.2 ⟨fun y hy => by have := h'.1 y hy; show t < y.1; omega, h'.2⟩
      · rename_i hx he
        refine List.pairwise_cons.2 ⟨fun y hy => ?_, h⟩
        rcases List.mem_cons.1 hy with rfl | hy
        · show t < y.1; omega
        · have := h'.1 y hy; show t < y.1; omega

/-- One key's versions behind some writes at a time. -/
def finV (t : Int) (key : Int) (ops : List GOp) (vs : List Ver) : List Ver := ops.foldl (fun vs o => if o.key = key then insV vs t o.val else vs) vs
theorem finV_snoc (t key : Int) (ops : List GOp) (o : GOp) (vs : List Ver) : finV t key (ops ++ [o]) vs = if o.key = key then insV (finV t key ops vs) t o.val else finV t key ops vs := by
  unfold finV; rw [List.foldl_append]; rfl
theorem finV_len (t key : Int) : ∀ (ops : List GOp) (vs : List Ver), (finV t key ops vs).length ≤ vs.length + ops.length
  | [], vs => by simp [finV]
  | o :: ops, vs => by
    have h1 := finV_len t key ops (if o.key = key then insV vs t o.val else vs)
    have h2 := insV_len vs t o.val
    unfold finV at h1 ⊢
    rw [List.foldl_cons]
    refine Nat.le_trans h1 ?_
    split <;> simp <;> omega
theorem finV_srt (t key : Int) : ∀ (ops : List GOp) (vs : List Ver), Srt vs → Srt (finV t key ops vs)
  | [], vs, h => h
  | o :: ops, vs, h => by
    unfold finV
    rw [List.foldl_cons]
    exact finV_srt t key ops _ (by split; exact insV_srt h; exact h)
/-- All keys' versions behind some writes at a time. -/
def KFin (K K' : KeysL) (t : Int) (ops : List GOp) : Prop := ∀ key, verOf K' key = finV t key ops (verOf K key)
theorem KFin.nil (K : KeysL) (t : Int) : KFin K K t [] := fun _ => rfl
theorem verOf_put (K : KeysL) (k key : Int) (v : Value) (vs : List Ver) : verOf (putM K k (v, vs)) key = if k = key then vs else verOf K key := by
  unfold verOf curK; rw [getM_put]; split <;> rfl
theorem KFin.snoc {K K' : KeysL} {t : Int} {ops : List GOp} (h : KFin K K' t ops) (o : GOp) (v : Value) : KFin K (putM K' o.key (v, insV (verOf K' o.key) t o.val)) t (ops ++ [o]) := fun key => by
  rw [verOf_put, finV_snoc, ← h key]
  split
  · rename_i e; rw [e]
  · rfl
def writesOf (R : RdyL) (e : EndM) : List GOp := if e.commit then (match getM R e.txn with | some y => y.r.writes | none => []) else []
def FinM (K : KeysL) (R : RdyL) (E : EndL) (e : EndM) (K' : KeysL) (R' : RdyL) (E' : EndL) : Prop :=
  ((getM E e.txn).isSome = true ∧ K' = K ∧ R' = R ∧ E' = E) ∨
  ((getM E e.txn).isSome = false ∧ R' = delM R e.txn ∧ E' = putM E e.txn e ∧ KFin K K' e.at_ (writesOf R e))

theorem mem_delM {κ ν : Type} [DecidableEq κ] {L : List (κ × ν)} {k : κ} {x : κ × ν} (h : x ∈ delM L k) : x ∈ L := (List.mem_filter.1 h).1
theorem MvS.putK {base p mk mr me : Nat} {serial : Bool} {bugs : Int} {K : KeysL} {R : RdyL} {E : EndL} {A B : World} {key : Int} {y : KV} (h : MvS base p mk mr me serial bugs K R E A) (hm : MapK B mk (putM K key y)) (hg : A.grownBy B (some mk)) (hy : RdVer A y.1 y.2) : MvS base p mk mr me serial bugs (putM K key y) R E B := by
  obtain ⟨es, c, ho⟩ := h.keys.obj
  have hs : Solid A B := (Solid.refl A).map ho hg
  refine ⟨hs _ _ _ _ h.blk, hm, h.ready.kept hg (fun e => h.kr (by cases e; rfl)), h.ends.kept hg (fun e => h.ke (by cases e; rfl)), fun x hx => ?_, fun x hx => (h.rrow x hx).solid hs, h.bp, h.bk, h.br, h.be, h.kr, h.ke, h.re⟩
  rcases mem_putM hx with rfl | hx
  · exact hy.solid hs
  · exact (h.krow x hx).solid hs
theorem MvS.delR {base p mk mr me : Nat} {serial : Bool} {bugs : Int} {K : KeysL} {R : RdyL} {E : EndL} {A B : World} {txn : Int} (h : MvS base p mk mr me serial bugs K R E A) (hm : MapR B mr (delM R txn)) (hg : A.grownBy B (some mr)) : MvS base p mk mr me serial bugs K (delM R txn) E B := by
  obtain ⟨es, c, ho⟩ := h.ready.obj
  have hs : Solid A B := (Solid.refl A).map ho hg
  exact ⟨hs _ _ _ _ h.blk, h.keys.kept hg (fun e => h.kr (by cases e; rfl)), hm, h.ends.kept hg (fun e => h.re (by cases e; rfl)), fun x hx => (h.krow x hx).solid hs, fun x hx => (h.rrow x (mem_delM hx)).solid hs, h.bp, h.bk, h.br, h.be, h.kr, h.ke, h.re⟩
theorem MvS.putE {base p mk mr me : Nat} {serial : Bool} {bugs : Int} {K : KeysL} {R : RdyL} {E : EndL} {A B : World} {txn : Int} {y : EndM} (h : MvS base p mk mr me serial bugs K R E A) (hm : MapE B me (putM E txn y)) (hg : A.grownBy B (some me)) : MvS base p mk mr me serial bugs K R (putM E txn y) B := by
  obtain ⟨es, c, ho⟩ := h.ends.obj
  have hs : Solid A B := (Solid.refl A).map ho hg
  exact ⟨hs _ _ _ _ h.blk, h.keys.kept hg (fun e => h.ke (by cases e; rfl)), h.ready.kept hg (fun e => h.re (by cases e; rfl)), hm, fun x hx => (h.krow x hx).solid hs, fun x hx => (h.rrow x hx).solid hs, h.bp, h.bk, h.br, h.be, h.kr, h.ke, h.re⟩
theorem put_keys {base p mk mr me : Nat} {serial : Bool} {bugs : Int} {K : KeysL} {R : RdyL} {E : EndL} {B : World} {key : Int} {y : KV} (h : MvS base p mk mr me serial bugs K R E B) (ht : i64 key) (hy : RdVer B y.1 y.2) :
    ∃ w', (Instr.mapUpdate 110 (.map (some mk)) (vi key) y.1).run Try.prog B = .ok () w' ∧ Hid (MvS base p mk mr me serial bugs (putM K key y) R E w' ∧ Turns [mk, mr, me] B w' ∧ Solid B w') := by
  obtain ⟨kl, hkl⟩ := intKey ht
  obtain ⟨w', hrun, hm, hg⟩ := h.keys.update (eV := fun x : KV => x.1) intKeyed vi_inj (t := 110) (e := 133) Try.underlying110 key hkl y
  obtain ⟨es, c, ho⟩ := h.keys.obj
  exact ⟨w', hrun, Lib.hid ⟨h.putK hm hg hy, Turns.grown hg (by simp), (Solid.refl B).map ho hg⟩⟩
theorem del_ready {base p mk mr me : Nat} {serial : Bool} {bugs : Int} {K : KeysL} {R : RdyL} {E : EndL} {B : World} {txn : Int} (h : MvS base p mk mr me serial bugs K R E B) (ht : i64 txn) (ty : TypeId) :
    ∃ w', (Builtin.delete_ #[109, 3] ty #[.map (some mr), vi txn]).run Try.prog B = .ok (.tuple #[]) w' ∧ Hid (MvS base p mk mr me serial bugs K (delM R txn) E w' ∧ Turns [mk, mr, me] B w' ∧ Solid B w') := by
  obtain ⟨kl, hkl⟩ := intKey ht
  obtain ⟨w', hrun, hm, hg, -⟩ := h.ready.delete (eV := rdyV) intKeyed vi_inj (t := 109) (e := 29) Try.underlying109 txn hkl ty
  obtain ⟨es, c, ho⟩ := h.ready.obj
  exact ⟨w', hrun, Lib.hid ⟨h.delR hm hg, Turns.grown hg (by simp), (Solid.refl B).map ho hg⟩⟩
theorem put_ends {base p mk mr me : Nat} {serial : Bool} {bugs : Int} {K : KeysL} {R : RdyL} {E : EndL} {B : World} {y : EndM} (h : MvS base p mk mr me serial bugs K R E B) (ht : i64 y.txn) :
    ∃ w', (Instr.mapUpdate 44 (.map (some me)) (vi y.txn) (.agg #[vi y.txn, .bool y.commit, vi y.at_])).run Try.prog B = .ok () w' ∧ Hid (MvS base p mk mr me serial bugs K R (putM E y.txn y) w' ∧ Turns [mk, mr, me] B w' ∧ Solid B w') := by
  obtain ⟨kl, hkl⟩ := intKey ht
  obtain ⟨w', hrun, hm, hg⟩ := h.ends.update (eV := endV) intKeyed vi_inj (t := 44) (e := 31) Try.underlying44 y.txn hkl y
  obtain ⟨es, c, ho⟩ := h.ends.obj
  exact ⟨w', hrun, Lib.hid ⟨h.putE hm hg, Turns.grown hg (by simp), (Solid.refl B).map ho hg⟩⟩
end Go.Proofs.Ytdkkpkgfiodlbaa

/- A shard in memory. -/
namespace Go.Proofs.Ytdkkpkgfiodlbaa
open Go.RowKit Go.Maps

theorem Turns.toBelow' {bs : List Nat} {base : Nat} {a b : World} (h : Turns bs a b) (hs : base ≤ a.heap.size) (hb : ∀ k ∈ bs, base ≤ k) : Below base a b :=
  ⟨h.os, h.tape, h.output, h.size, fun k hk => h.block k (by omega) (fun hm => by have := hb k hm; omega)⟩
structure ShS (base p ps mk mr me md : Nat) (serial : Bool) (bugs stamps now : Int) (K : KeysL) (R : RdyL) (E D : EndL) (W : World) : Prop where
  blk : W.heap[p]? = some (.cells #[.pointer (some ⟨ps, 0, none⟩), vi bugs, vi stamps, vi now, .map (some md)] 84)
  st : MvS base ps mk mr me serial bugs K R E W
  dm : MapE W md D
  bp : base ≤ p
  bd : base ≤ md
  dk : md ≠ mk
  dr : md ≠ mr
  de : md ≠ me
theorem ShS.later {base p ps mk mr me md : Nat} {serial : Bool} {bugs stamps now : Int} {K : KeysL} {R : RdyL} {E D : EndL} {A B : World} (h : ShS base p ps mk mr me md serial bugs stamps now K R E D A) (hb : Below A.heap.size A B) : ShS base p ps mk mr me md serial bugs stamps now K R E D B :=
  ⟨(hb.block p (Array.getElem?_eq_some_iff.1 h.blk).1).trans h.blk, h.st.later hb, h.dm.below hb h.dm.lt, h.bp, h.bd, h.dk, h.dr, h.de⟩
/-- An answer. -/
structure Ans where
  err : Int
  vals : List Int
  at_ : Int
  by_ : Int
  home : Int
  e : EndM
def ansC (a : Ans) (vv : Value) : Array Value := #[vi a.err, vv, vi a.at_, vi a.by_, vi a.home, vi a.e.txn, .bool a.e.commit, vi a.e.at_]
def ansV (a : Ans) (vv : Value) : Value := .agg (ansC a vv)
abbrev zeroE' : EndM := ⟨0, false, 0⟩
def AppQ (base p ps mk mr me md : Nat) (serial : Bool) (bugs stamps : Int) (P : Ans → Int → KeysL → RdyL → EndL → EndL → Prop) (w : World) (e : Ending) (w' : World) : Prop :=
  ∃ a vv now' K' R' E' D', e = .returned (ansV a vv) ∧ OwI w.heap.size w' vv a.vals ∧ ShS base p ps mk mr me md serial bugs stamps now' K' R' E' D' w' ∧ Turns [p, md, mk, mr, me] w w' ∧ P a now' K' R' E' D'
/-- The bytes of a command are read as it was. -/
theorem cmd_back {c : Cmd21} (hi : CmdI c) {w w' : World} {c' : Cmd21} {wv rv : Value} {err : Int} (h : CmdRd (btBytes (cmdL c)) w w' c' wv rv err) : (1 ≤ c.k ∧ c.k ≤ 5 → err = 0 ∧ c' = killC c) ∧ (¬ (1 ≤ c.k ∧ c.k ≤ 5) → err = 14) := by
  obtain ⟨z, hz, hb⟩ := bitsOf_btBytes (cmdL c)
  exact h.all (killC c) z hi.bok hz (by rw [killC_bits]; exact hb)
abbrev ansZ : Array Value := #[vi 0, .slice none 0 0, vi 0, vi 0, vi 0, vi 0, .bool false, vi 0]
theorem setCell_cong {A B : World} {j : Nat} (h : A.heap[j]? = B.heap[j]?) (a : Addr) (v : Value) : (A.setCell a v).heap[j]? = (B.setCell a v).heap[j]? := by
  simp only [World.setCell, Array.getElem?_modify, h]
theorem ShS.np {base p ps mk mr me md : Nat} {serial : Bool} {bugs stamps now : Int} {K : KeysL} {R : RdyL} {E D : EndL} {A : World} (h : ShS base p ps mk mr me md serial bugs stamps now K R E D A) : p ≠ md := by
  intro e
  obtain ⟨es, c, ho⟩ := h.dm.obj
  have := h.blk
  rw [e, ho] at this; cases this
theorem ShS.put {base p ps mk mr me md : Nat} {serial : Bool} {bugs stamps now : Int} {K : KeysL} {R : RdyL} {E D : EndL} {B : World} {y : EndM} (h : ShS base p ps mk mr me md serial bugs stamps now K R E D B) (ht : i64 y.txn) :
    ∃ w', (Instr.mapUpdate 44 (.map (some md)) (vi y.txn) (.agg #[vi y.txn, .bool y.commit, vi y.at_])).run Try.prog B = .ok () w' ∧ Hid (ShS base p ps mk mr me md serial bugs stamps now K R E (putM D y.txn y) w' ∧ B.grownBy w' (some md) ∧ Solid B w') := by
  obtain ⟨kl, hkl⟩ := intKey ht
  obtain ⟨w', hrun, hm, hg⟩ := h.dm.update (eV := endV) intKeyed vi_inj (t := 44) (e := 31) Try.underlying44 y.txn hkl y
  obtain ⟨es, c, ho⟩ := h.dm.obj
  have hs : Solid B w' := (Solid.refl B).map ho hg
  exact ⟨w', hrun, Lib.hid ⟨⟨hs _ _ _ _ h.blk, ⟨hs _ _ _ _ h.st.blk, h.st.keys.kept hg (fun e => h.dk (by cases e; rfl)), h.st.ready.kept hg (fun e => h.dr (by cases e; rfl)), h.st.ends.kept hg (fun e => h.de (by cases e; rfl)), fun x hx => (h.st.krow x hx).solid hs, fun x hx => (h.st.rrow x hx).solid hs, h.st.bp, h.st.bk, h.st.br, h.st.be, h.st.kr, h.st.ke, h.st.re⟩, hm, h.bp, h.bd, h.dk, h.dr, h.de⟩, hg, hs⟩⟩
/-- Another time. -/
theorem ShS.tick {base p ps mk mr me md : Nat} {serial : Bool} {bugs stamps now : Int} {K : KeysL} {R : RdyL} {E D : EndL} {A : World} (h : ShS base p ps mk mr me md serial bugs stamps now K R E D A) (x : Int) (hs : MvS base ps mk mr me serial bugs K R E (A.setCell ⟨p, 3, none⟩ (vi x))) : ShS base p ps mk mr me md serial bugs stamps x K R E D (A.setCell ⟨p, 3, none⟩ (vi x)) :=
  ⟨Bt.cells_set _ h.blk, hs, h.dm.kept (gro_setP (gro_refl A (some p)) _) (fun e => h.np (by cases e; rfl)), h.bp, h.bd, h.dk, h.dr, h.de⟩
/-- Behind a change of one block, and new ones. -/
theorem tick_below {w w3 W : World} {p A nq : Nat} {x : Int} {us : List Value} (hb : Below w.heap.size w w3) (hA : w.heap.size ≤ A) (hW : W = ((w3.drewN nq).setCell ⟨p, 3, none⟩ (vi x)).setCells A 0 us) : Below (w.setCell ⟨p, 3, none⟩ (vi x)).heap.size (w.setCell ⟨p, 3, none⟩ (vi x)) W := by
  subst hW
  have h := setCells_grown A us 0 ((w3.drewN nq).setCell ⟨p, 3, none⟩ (vi x))
  have hs : (w.setCell ⟨p, 3, none⟩ (vi x)).heap.size = w.heap.size := by simp [World.setCell]
  refine ⟨h.os.trans hb.os, h.tape.trans hb.tape, h.output.trans hb.output, by rw [hs]; exact Nat.le_trans hb.size (Nat.le_trans (by simp [World.setCell]) h.size), fun j hj => ?_⟩
  rw [hs] at hj
  rw [setCells_other A us 0 _ j (by omega)]
  exact setCell_cong (hb.block j hj) _ _
theorem tick_turns {w w3 W : World} {p A nq : Nat} {x : Int} {us : List Value} {bs : List Nat} (hb : Below w.heap.size w w3) (hA : w.heap.size ≤ A) (hp : p ∈ bs) (hW : W = ((w3.drewN nq).setCell ⟨p, 3, none⟩ (vi x)).setCells A 0 us) : Turns bs w W := by
  subst hW
  have h := setCells_grown A us 0 ((w3.drewN nq).setCell ⟨p, 3, none⟩ (vi x))
  refine ⟨h.os.trans hb.os, h.tape.trans hb.tape, h.output.trans hb.output, Nat.le_trans hb.size (Nat.le_trans (by simp [World.setCell]) h.size), fun j hj hn => ?_⟩
  rw [setCells_other A us 0 _ j (by omega)]
  exact (Below.heap_setCell _ _ _ j (fun e => hn (by rw [e]; exact hp))).trans (hb.block j hj)
theorem ans_below {w w3 : World} {A : Nat} {us : List Value} (hb : Below w.heap.size w w3) (hA : w.heap.size ≤ A) (nq : Nat) : Below w.heap.size w ((w3.drewN nq).setCells A 0 us) :=
  (show Below w.heap.size w (w3.drewN nq) from ⟨hb.os, hb.tape, hb.output, hb.size, hb.block⟩).trans (setCells_below A us 0 _ hA hb.size)
theorem ans_below0 {w w3 : World} {A : Nat} {us : List Value} (hb : Below w.heap.size w w3) (hA : w.heap.size ≤ A) : Below w.heap.size w (w3.setCells A 0 us) :=
  hb.trans (setCells_below A us 0 _ hA hb.size)
theorem endsNone {D : EndL} {k : Int} (h1 : (getM D k).isSome = false) : getM D k = none := by
  cases h : getM D k with
  | none => rfl
  | some x => rw [h] at h1; cases h1
theorem endsSome {D : EndL} {k : Int} {ex : EndM} (h1 : (getM D k).isSome = true) (h2 : (getM D k).getD ⟨0, false, 0⟩ = ex) : getM D k = some ex := by
  cases h : getM D k with
  | none => rw [h] at h1; cases h1
  | some x => rw [h] at h2; rw [← h2]; rfl
theorem ShS.dec {base p ps mk mr me md : Nat} {serial : Bool} {bugs stamps now : Int} {K : KeysL} {R : RdyL} {E D D' : EndL} {w W : World} (h : ShS base p ps mk mr me md serial bugs stamps now K R E D w) (hT : Turns [md] w W) (hd : MapE W md D') : ShS base p ps mk mr me md serial bugs stamps now K R E D' W := by
  have hs : Solid w W := hT.solid (fun k hk => by simp at hk; subst hk; exact h.dm.obj)
  exact ⟨hs _ _ _ _ h.blk, ⟨hs _ _ _ _ h.st.blk, h.st.keys.frame (hT.block mk h.st.keys.lt (by simp; exact fun e => h.dk e.symm)), h.st.ready.frame (hT.block mr h.st.ready.lt (by simp; exact fun e => h.dr e.symm)), h.st.ends.frame (hT.block me h.st.ends.lt (by simp; exact fun e => h.de e.symm)), fun x hx => (h.st.krow x hx).solid hs, fun x hx => (h.st.rrow x hx).solid hs, h.st.bp, h.st.bk, h.st.br, h.st.be, h.st.kr, h.st.ke, h.st.re⟩, hd, h.bp, h.bd, h.dk, h.dr, h.de⟩
theorem dec_turns {w w4 w5 : World} {A md : Nat} {us : List Value} (hb : Below w.heap.size w w4) (hg : w4.drew.grownBy w5 (some md)) (hA : w.heap.size ≤ A) : Turns [md] w (w5.setCells A 0 us) := by
  have h := setCells_grown A us 0 w5
  refine ⟨h.os.trans (hg.os.trans hb.os), h.tape.trans (hg.tape.trans hb.tape), h.output.trans (hg.output.trans hb.output), Nat.le_trans hb.size (Nat.le_trans hg.size h.size), fun j hj hn => ?_⟩
  rw [setCells_other A us 0 _ j (by omega)]
  exact (hg.block j (Nat.lt_of_lt_of_le hj hb.size) (fun e => hn (by simp; exact Option.some.inj e))).trans (hb.block j hj)
theorem ShS.aside {base p ps mk mr me md m : Nat} {serial : Bool} {bugs stamps now : Int} {K : KeysL} {R : RdyL} {E D : EndL} {A B : World} (h : ShS base p ps mk mr me md serial bugs stamps now K R E D A) (hT : A.grownBy B (some m)) (hm : ∃ es c, A.heap[m]? = some (.map es c)) (hd : m ≠ md) (hk : m ≠ mk) (hr : m ≠ mr) (he : m ≠ me) : ShS base p ps mk mr me md serial bugs stamps now K R E D B := by
  obtain ⟨es, c, ho⟩ := hm
  have hs : Solid A B := (Solid.refl A).map ho hT
  exact ⟨hs _ _ _ _ h.blk, ⟨hs _ _ _ _ h.st.blk, h.st.keys.kept hT (fun e => hk (by cases e; rfl)), h.st.ready.kept hT (fun e => hr (by cases e; rfl)), h.st.ends.kept hT (fun e => he (by cases e; rfl)), fun x hx => (h.st.krow x hx).solid hs, fun x hx => (h.st.rrow x hx).solid hs, h.st.bp, h.st.bk, h.st.br, h.st.be, h.st.kr, h.st.ke, h.st.re⟩, h.dm.kept hT (fun e => hd (by cases e; rfl)), h.bp, h.bd, h.dk, h.dr, h.de⟩
end Go.Proofs.Ytdkkpkgfiodlbaa

/- (*shard.State).Apply: a time. -/
namespace Go.Proofs.Ytdkkpkgfiodlbaa
open Go.RowKit Go.Maps

def StampP (stamps now : Int) (K : KeysL) (R : RdyL) (E D : EndL) (a : Ans) (now' : Int) (K' : KeysL) (R' : RdyL) (E' D' : EndL) : Prop :=
  ((now < stamps ∧ a = ⟨0, [], now + 1, 0, 0, zeroE'⟩ ∧ now' = now + 1) ∨ (stamps ≤ now ∧ a = ⟨63, [], 0, 0, 0, zeroE'⟩ ∧ now' = now)) ∧ K' = K ∧ R' = R ∧ E' = E ∧ D' = D
set_option maxRecDepth 100000 in
set_option maxHeartbeats 8000000 in
theorem apply_stamp {base p ps mk mr me md : Nat} {serial : Bool} {bugs stamps now : Int} {K : KeysL} {R : RdyL} {E D : EndL} (c : Cmd21) {v : Value} (w : World) (h : ShS base p ps mk mr me md serial bugs stamps now K R E D w) (hi : CmdI c) (hk : c.k = 1)
    (hv : Src w v 1 (btBytes (cmdL c)).length ((btBytes (cmdL c)).map u8)) (hn : 0 ≤ now ∧ now ≤ 1000000) (hsep : ∀ x : Int, MvS base ps mk mr me serial bugs K R E (w.setCell ⟨p, 3, none⟩ (vi x))) :
    Calls Try.prog 11 #[.pointer (some ⟨p, 0, none⟩), v] w (AppQ base p ps mk mr me md serial bugs stamps (StampP stamps now K R E D) w) := by
  have HI := Lib.hid hi
  have HK := Lib.hid hk
  have HH := Lib.hid (h.later ((Below.refl w.heap.size w).alloc (Nat.le_refl _) (.cells ansZ 37)))
  have HV := Lib.hid (hv.below ((Below.refl w.heap.size w).alloc (Nat.le_refl _) (.cells ansZ 37)))
  have HA0 := Lib.hid (Bt.alloc_at w (.cells ansZ 37))
  have HB0 := Lib.hid ((Below.refl w.heap.size w).alloc (Nat.le_refl _) (.cells ansZ 37))
  have hcl : (btBytes (cmdL c)).length ≤ 1048576 := by rw [btBytes_length]; have := cmdL_length hi; omega
  obtain ⟨bs, hbs⟩ : ∃ bs, bs = btBytes (cmdL c) := ⟨_, rfl⟩
  rw [← hbs] at HV hcl
  have HBS := Lib.hid hbs
  have hpw : p < w.heap.size := (Array.getElem?_eq_some_iff.1 h.blk).1
  have H0 := Lib.hid h
  have HSEP := Lib.hid hsep
  clear h hi hk hv hbs hsep
  go_enter Try.func11, Try.ntmps11
  go_upto_region 1 with fail
  generalize w.alloc (.cells ansZ 37) = w1 at *
  obtain ⟨A, hA⟩ : ∃ A, A = w.heap.size := ⟨_, rfl⟩
  rw [← hA] at HA0 ⊢
  have HAE := Lib.hid hA
  have hAw : A < w1.heap.size := (Array.getElem?_eq_some_iff.1 HA0.out).1
  clear hA
  go_wp2_with fail
  refine (shRead_call (bs := bs) w1 HV.out (by rw [HBS.out]; exact btBytes_lt _) hcl).mono ?_
  rintro e2 w2 ⟨c', wv, rv, err, rfl, hrd⟩
  rw [HBS.out] at hrd
  obtain ⟨rfl, rfl⟩ := (cmd_back HI.out hrd).1 ⟨by rw [HK.out]; decide, by rw [HK.out]; decide⟩
  have hkl := killK_len c.r
  have hows : w2.ownsRow w1.heap.size 104 3 wv c.r.writes.length ((killK c.r).writes.flatMap opV) := by have := hrd.ws; unfold OwOps at this; rw [show (killC c).r.writes.length = c.r.writes.length from hkl] at this; exact this
  have hors : w2.ownsRow w1.heap.size 3 1 rv c.r.reads.length (c.r.reads.flatMap viC) := hrd.rs
  obtain ⟨aw, cw, rfl⟩ := Bt.own_shape hows
  obtain ⟨ar, cr, rfl⟩ := Bt.own_shape hors
  have HWS := Lib.hid hrd.ws
  have HRS := Lib.hid hrd.rs
  have HH2 := Lib.hid (HH.out.later hrd.bel)
  have HA2 := Lib.hid ((hrd.bel.block A hAw).trans HA0.out)
  have HB2 := Lib.hid (HB0.out.trans (hrd.bel.mono HB0.out.size))
  have hA2w : A < w2.heap.size := Nat.lt_of_lt_of_le hAw hrd.bel.size
  have hw12 := hrd.bel.size
  have HKL := Lib.hid hkl
  clear hrd hkl hows hors HH HA0 HB0 HV
  unfold cmdV cmdC
  dsimp only [killC, killK]
  have HC3 := Lib.hid (Bt.alloc_at w2 (.cells #[vi c.k, vi c.r.txn, vi c.r.home, vi c.r.start, .slice aw c.r.writes.length cw, .slice ar c.r.reads.length cr, vi c.e.txn, .bool c.e.commit, vi c.e.at_] 33))
  have HH3 := Lib.hid (HH2.out.later ((Below.refl w2.heap.size w2).alloc (Nat.le_refl _) (.cells #[vi c.k, vi c.r.txn, vi c.r.home, vi c.r.start, .slice aw c.r.writes.length cw, .slice ar c.r.reads.length cr, vi c.e.txn, .bool c.e.commit, vi c.e.at_] 33)))
  have HA3 := Lib.hid ((Below.heap_alloc w2 (.cells #[vi c.k, vi c.r.txn, vi c.r.home, vi c.r.start, .slice aw c.r.writes.length cw, .slice ar c.r.reads.length cr, vi c.e.txn, .bool c.e.commit, vi c.e.at_] 33) A hA2w).trans HA2.out)
  have HB3 := Lib.hid (HB2.out.alloc HB2.out.size (.cells #[vi c.k, vi c.r.txn, vi c.r.home, vi c.r.start, .slice aw c.r.writes.length cw, .slice ar c.r.reads.length cr, vi c.e.txn, .bool c.e.commit, vi c.e.at_] 33))
  have HWS3 := Lib.hid (own_below HWS.out ((Below.refl w2.heap.size w2).alloc (Nat.le_refl _) (.cells #[vi c.k, vi c.r.txn, vi c.r.home, vi c.r.start, .slice aw c.r.writes.length cw, .slice ar c.r.reads.length cr, vi c.e.txn, .bool c.e.commit, vi c.e.at_] 33)))
  have HRS3 := Lib.hid (own_below HRS.out ((Below.refl w2.heap.size w2).alloc (Nat.le_refl _) (.cells #[vi c.k, vi c.r.txn, vi c.r.home, vi c.r.start, .slice aw c.r.writes.length cw, .slice ar c.r.reads.length cr, vi c.e.txn, .bool c.e.commit, vi c.e.at_] 33)))
  go_upto_region 4 with fail
  clear HH2 HA2 HB2 HWS HRS
  generalize w2.alloc (.cells #[vi c.k, vi c.r.txn, vi c.r.home, vi c.r.start, .slice aw c.r.writes.length cw, .slice ar c.r.reads.length cr, vi c.e.txn, .bool c.e.commit, vi c.e.at_] 33) = w3 at *
  have hC3w : w2.heap.size < w3.heap.size := (Array.getElem?_eq_some_iff.1 HC3.out).1
  obtain ⟨C, hC⟩ : ∃ C, C = w2.heap.size := ⟨_, rfl⟩
  rw [← hC] at HC3 hC3w ⊢
  have HCE := Lib.hid hC
  have hAC : A ≠ C := by omega
  have hpA : p < A := by have := HAE.out; omega
  clear hC
  have k0 : w3.cell? ⟨C, 0, none⟩ = some (vi c.k) := by rw [Bt.cell_of HC3.out]; rfl
  have b1 : (c.k == 1) = true := by rw [HK.out]; rfl
  have b2 : (c.k == 2) = false := by rw [HK.out]; rfl
  have b3 : (c.k == 3) = false := by rw [HK.out]; rfl
  have b4 : (c.k == 4) = false := by rw [HK.out]; rfl
  go_upto_region 8 with fail
  have hBw : w.heap.size ≤ w3.heap.size := HB3.out.size
  have q2 : w3.cell? ⟨p, 2, none⟩ = some (vi stamps) := by rw [cell_of HH3.out.blk]; rfl
  have q3 : w3.cell? ⟨p, 3, none⟩ = some (vi now) := by rw [cell_of HH3.out.blk]; rfl
  have qf : ∀ o, w3.frozen? ⟨p, o, none⟩ = false := fun o => free_of HH3.out.blk o
  have xf : ∀ o, w3.frozen? ⟨A, o, none⟩ = false := fun o => free_of HA3.out o
  have x0 : w3.cell? ⟨A, 0, none⟩ = some (vi 0) := by rw [Bt.cell_of HA3.out]; rfl
  have x1 : w3.cell? ⟨A, 1, none⟩ = some (.slice none 0 0) := by rw [Bt.cell_of HA3.out]; rfl
  have x2 : w3.cell? ⟨A, 2, none⟩ = some (vi 0) := by rw [Bt.cell_of HA3.out]; rfl
  have x3 : w3.cell? ⟨A, 3, none⟩ = some (vi 0) := by rw [Bt.cell_of HA3.out]; rfl
  have x4 : w3.cell? ⟨A, 4, none⟩ = some (vi 0) := by rw [Bt.cell_of HA3.out]; rfl
  have x5 : w3.cell? ⟨A, 5, none⟩ = some (vi 0) := by rw [Bt.cell_of HA3.out]; rfl
  have x6 : w3.cell? ⟨A, 6, none⟩ = some (.bool false) := by rw [Bt.cell_of HA3.out]; rfl
  have x7 : w3.cell? ⟨A, 7, none⟩ = some (vi 0) := by rw [Bt.cell_of HA3.out]; rfl
  have hne : ¬ (A = p) := by omega
  have hne' : ¬ (p = A) := by omega
  by_cases hlt : now < stamps
  · have l1 : decide (stamps ≤ now) = false := decide_eq_false (by omega)
    have hw1 : IntKind.i64.wrap (now + 1) = now + 1 := IntWalk.i64_in _ (by omega)
    go_quiet (fail)
    go_wp2_with fail
    have HAQ : ((w3.drewN nq).setCell ⟨p, 3, none⟩ (vi (now + 1))).heap[A]? = some (.cells ansZ 37) := Bt.cells_other _ HA3.out hne
    change bodyPost _ _ _ _ _ (((w3.drewN nq).setCell ⟨p, 3, none⟩ (vi (now + 1))).setCells A 0 [vi 0, .slice none 0 0, vi (now + 1), vi 0, vi 0, vi 0, .bool false, vi 0])
    obtain ⟨wz, hwz⟩ : ∃ wz, wz = ((w3.drewN nq).setCell ⟨p, 3, none⟩ (vi (now + 1))).setCells A 0 [vi 0, .slice none 0 0, vi (now + 1), vi 0, vi 0, vi 0, .bool false, vi 0] := ⟨_, rfl⟩
    have HZC := Lib.hid (show wz.heap[A]? = some (.cells #[vi 0, .slice none 0 0, vi (now + 1), vi 0, vi 0, vi 0, .bool false, vi 0] 37) by rw [hwz]; exact setCells_all (cs := [vi 0, .slice none 0 0, vi (now + 1), vi 0, vi 0, vi 0, .bool false, vi 0]) HAQ rfl)
    rw [← hwz]
    have HWZ := Lib.hid hwz
    clear hwz x0 x1 x2 x3 x4 x5 x6 x7 xf q2 q3 qf
    have r0 : wz.cell? ⟨A, 0, none⟩ = some (vi 0) := by rw [Bt.cell_of HZC.out]; rfl
    have r1 : wz.cell? ⟨A, 1, none⟩ = some (.slice none 0 0) := by rw [Bt.cell_of HZC.out]; rfl
    have r2 : wz.cell? ⟨A, 2, none⟩ = some (vi (now + 1)) := by rw [Bt.cell_of HZC.out]; rfl
    have r3 : wz.cell? ⟨A, 3, none⟩ = some (vi 0) := by rw [Bt.cell_of HZC.out]; rfl
    have r4 : wz.cell? ⟨A, 4, none⟩ = some (vi 0) := by rw [Bt.cell_of HZC.out]; rfl
    have r5 : wz.cell? ⟨A, 5, none⟩ = some (vi 0) := by rw [Bt.cell_of HZC.out]; rfl
    have r6 : wz.cell? ⟨A, 6, none⟩ = some (.bool false) := by rw [Bt.cell_of HZC.out]; rfl
    have r7 : wz.cell? ⟨A, 7, none⟩ = some (vi 0) := by rw [Bt.cell_of HZC.out]; rfl
    refine bodyPost_ret (v := ansV ⟨0, [], now + 1, 0, 0, zeroE'⟩ (.slice none 0 0)) (by simp [results, Try.results11, go_sem, ansV, ansC, r0, r1, r2, r3, r4, r5, r6, r7]) rfl ⟨⟨0, [], now + 1, 0, 0, zeroE'⟩, .slice none 0 0, now + 1, K, R, E, D, rfl, World.ownsRow_nil _ _ _ _, (H0.out.tick (now + 1) (HSEP.out _)).later (tick_below HB3.out (by rw [HAE.out]; exact Nat.le_refl _) HWZ.out), tick_turns HB3.out (by rw [HAE.out]; exact Nat.le_refl _) (by simp) HWZ.out, .inl ⟨hlt, rfl, rfl⟩, rfl, rfl, rfl, rfl⟩
  · have l1 : decide (stamps ≤ now) = true := decide_eq_true (by omega)
    go_quiet (fail)
    go_wp2_with fail
    have HAQ : (w3.drewN nq).heap[A]? = some (.cells ansZ 37) := HA3.out
    change bodyPost _ _ _ _ _ ((w3.drewN nq).setCells A 0 [vi 63, .slice none 0 0, vi 0, vi 0, vi 0, vi 0, .bool false, vi 0])
    obtain ⟨wz, hwz⟩ : ∃ wz, wz = (w3.drewN nq).setCells A 0 [vi 63, .slice none 0 0, vi 0, vi 0, vi 0, vi 0, .bool false, vi 0] := ⟨_, rfl⟩
    have HZC := Lib.hid (show wz.heap[A]? = some (.cells #[vi 63, .slice none 0 0, vi 0, vi 0, vi 0, vi 0, .bool false, vi 0] 37) by rw [hwz]; exact setCells_all (cs := [vi 63, .slice none 0 0, vi 0, vi 0, vi 0, vi 0, .bool false, vi 0]) HAQ rfl)
    rw [← hwz]
    have HWZ := Lib.hid hwz
    clear hwz x0 x1 x2 x3 x4 x5 x6 x7 xf q2 q3 qf
    have r0 : wz.cell? ⟨A, 0, none⟩ = some (vi 63) := by rw [Bt.cell_of HZC.out]; rfl
    have r1 : wz.cell? ⟨A, 1, none⟩ = some (.slice none 0 0) := by rw [Bt.cell_of HZC.out]; rfl
    have r2 : wz.cell? ⟨A, 2, none⟩ = some (vi 0) := by rw [Bt.cell_of HZC.out]; rfl
    have r3 : wz.cell? ⟨A, 3, none⟩ = some (vi 0) := by rw [Bt.cell_of HZC.out]; rfl
    have r4 : wz.cell? ⟨A, 4, none⟩ = some (vi 0) := by rw [Bt.cell_of HZC.out]; rfl
    have r5 : wz.cell? ⟨A, 5, none⟩ = some (vi 0) := by rw [Bt.cell_of HZC.out]; rfl
    have r6 : wz.cell? ⟨A, 6, none⟩ = some (.bool false) := by rw [Bt.cell_of HZC.out]; rfl
    have r7 : wz.cell? ⟨A, 7, none⟩ = some (vi 0) := by rw [Bt.cell_of HZC.out]; rfl
    refine bodyPost_ret (v := ansV ⟨63, [], 0, 0, 0, zeroE'⟩ (.slice none 0 0)) (by simp [results, Try.results11, go_sem, ansV, ansC, r0, r1, r2, r3, r4, r5, r6, r7]) rfl ⟨⟨63, [], 0, 0, 0, zeroE'⟩, .slice none 0 0, now, K, R, E, D, rfl, World.ownsRow_nil _ _ _ _, H0.out.later (by rw [HWZ.out]; exact ans_below HB3.out (by rw [HAE.out]; exact Nat.le_refl _) nq), Turns.below (by rw [HWZ.out]; exact ans_below HB3.out (by rw [HAE.out]; exact Nat.le_refl _) nq), .inr ⟨by omega, rfl, rfl⟩, rfl, rfl, rfl, rfl⟩
end Go.Proofs.Ytdkkpkgfiodlbaa
