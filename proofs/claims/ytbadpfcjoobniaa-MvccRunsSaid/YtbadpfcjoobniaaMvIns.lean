/- slices.Insert of one version into a row that the call owns. -/
import Derived.Test.YtbadpfcjoobniaaMvClone
import Derived.Test.YtbadpfcjoobniaaCopyK
import Derived.Lib.AppendZerosOnto
import Derived.Lib.Overlaps
import Derived.Laws.Externs
namespace Go.Proofs.Ytbadpfcjoobniaa
open Go.RowKit Go.Maps

theorem flat_take (l : List Ver) : ∀ i, (l.flatMap verV).take (i * 2) = (l.take i).flatMap verV := by
  induction l with
  | nil => intro i; simp
  | cons x l ih =>
    intro i
    cases i with
    | zero => simp
    | succ i => rw [List.flatMap_cons, List.take_succ_cons, List.flatMap_cons, ← ih i, show (i + 1) * 2 = (verV x).length + i * 2 by rw [verV_length]; omega, List.take_length_add_append]
theorem flat_drop (l : List Ver) : ∀ i, (l.flatMap verV).drop (i * 2) = (l.drop i).flatMap verV := by
  induction l with
  | nil => intro i; simp
  | cons x l ih =>
    intro i
    cases i with
    | zero => simp
    | succ i => rw [List.flatMap_cons, List.drop_succ_cons, ← ih i, show (i + 1) * 2 = (verV x).length + i * 2 by rw [verV_length]; omega, List.drop_length_add_append]
theorem flat_ins (l : List Ver) (i : Nat) (x : Ver) : (l.take i ++ x :: l.drop i).flatMap verV = (l.flatMap verV).take (i * 2) ++ (verV x ++ (l.flatMap verV).drop (i * 2)) := by
  rw [flat_take, flat_drop, List.flatMap_append, List.flatMap_cons]

theorem splice_take {α : Type} (L : List α) (o : Nat) (cs : List α) (h : o + cs.length ≤ L.length) : (splice L o cs).take o = L.take o := by
  unfold splice
  rw [List.take_append_of_le_length (by rw [List.length_take]; omega), List.take_take, Nat.min_self]
theorem splice_mid {α : Type} (L : List α) (o : Nat) (cs : List α) (h : o + cs.length ≤ L.length) : (splice L o cs).take (o + cs.length) = L.take o ++ cs := by
  unfold splice
  have : (L.take o).length = o := by rw [List.length_take]; omega
  conv => lhs; rw [← this]
  simp only [this]
  rw [show o + cs.length = (L.take o).length + cs.length by omega, List.take_length_add_append, List.take_left]
theorem splice_drop {α : Type} (L : List α) (o : Nat) (cs : List α) (h : o + cs.length ≤ L.length) : (splice L o cs).drop (o + cs.length) = L.drop (o + cs.length) := by
  unfold splice
  rw [show o + cs.length = (L.take o).length + cs.length by rw [List.length_take]; omega, List.drop_length_add_append, List.drop_left]
/-- First what stands behind is shifted, then the new one is laid. -/
theorem ins_shift {α : Type} (L X D : List α) (o : Nat) (h : o + X.length + D.length ≤ L.length) : (splice (splice L (o + X.length) D) o X).take (o + X.length + D.length) = L.take o ++ (X ++ D) := by
  have h1 : (splice L (o + X.length) D).length = L.length := length_splice _ _ _ (by omega)
  have e1 := splice_mid (splice L (o + X.length) D) o X (by omega)
  have e2 := splice_drop (splice L (o + X.length) D) o X (by omega)
  have e3 : (splice L (o + X.length) D).take o = L.take o := by
    have := splice_take L (o + X.length) D (by omega)
    calc (splice L (o + X.length) D).take o = ((splice L (o + X.length) D).take (o + X.length)).take o := by rw [List.take_take]; congr 1; omega
      _ = (L.take (o + X.length)).take o := by rw [this]
      _ = L.take o := by rw [List.take_take]; congr 1; omega
  have e4 : ((splice L (o + X.length) D).drop (o + X.length)).take D.length = D := by
    have := splice_mid L (o + X.length) D (by omega)
    have h5 : ((splice L (o + X.length) D).take (o + X.length + D.length)).drop (o + X.length) = D := by
      rw [this]
      have : (L.take (o + X.length)).length = o + X.length := by rw [List.length_take]; omega
      conv => lhs; rw [← this]
      simp
    rw [List.drop_take, show o + X.length + D.length - (o + X.length) = D.length by omega] at h5
    exact h5
  rw [← List.take_append_drop (o + X.length) (splice (splice L (o + X.length) D) o X), e1, e2, e3]
  have l1 : (L.take o ++ X).length = o + X.length := by rw [List.length_append, List.length_take]; omega
  rw [← l1, List.take_length_add_append, l1, e4, List.append_assoc]
/-- First the new one is laid, then what stands behind. -/
theorem ins_grow {α : Type} (L X D : List α) (o : Nat) (h : o + X.length + D.length ≤ L.length) : (splice (splice L o X) (o + X.length) D).take (o + X.length + D.length) = L.take o ++ (X ++ D) := by
  have h1 : (splice L o X).length = L.length := length_splice _ _ _ (by omega)
  rw [splice_mid _ _ _ (by omega), splice_mid _ _ _ (by omega), List.append_assoc]

def InsQ (base : Nat) (v : Value) (l : List Ver) (w : World) (e : Ending) (w' : World) : Prop := ∃ v', e = .returned v' ∧ OwV base w' v' l ∧ w.grownBy w' v.ownBlock

theorem src_ver {w : World} {vb : Nat} {x : Ver} (hx : w.heap[vb]? = some (.cells #[vi x.1, vi x.2] 70)) : Src w (.slice (some ⟨vb, 0, none⟩) 1 1) 2 1 (verV x) := by
  refine ⟨some ⟨vb, 0, none⟩, 1, rfl, rfl, (fun h => by cases h), fun ad had j u hu => ?_⟩
  cases had
  rw [addr_add, cell_of hx]
  have : j < 2 := (List.getElem?_eq_some_iff.1 hu).1
  rcases (show j = 0 ∨ j = 1 by omega) with rfl | rfl <;> exact hu

set_option maxRecDepth 100000 in
set_option maxHeartbeats 4000000 in
theorem insert_end {base : Nat} (v : Value) (l : List Ver) (x : Ver) (vb : Nat) (w : World) (h : OwV base w v l) (hl : l.length ≤ 1048576) (hbase : base ≤ w.heap.size) (hx : w.heap[vb]? = some (.cells #[vi x.1, vi x.2] 70)) :
    Calls Try.prog 50 #[v, vi l.length, .slice (some ⟨vb, 0, none⟩) 1 1] w (InsQ base v (l ++ [x]) w) := by
  have HO := Lib.hid h
  have HS := Lib.hid (src_ver hx)
  obtain ⟨a, cap, hv, hcap, ha, h63⟩ : ∃ a cap, v = .slice a l.length cap ∧ l.length ≤ cap ∧ (a = none → cap = 0) ∧ cap ≤ 9223372036854775807 := by
    rcases h.2 with ⟨hv, h0⟩ | ⟨g, cap, cur, hv, hg, hb, h1, h2, h3, h4⟩
    · exact ⟨none, 0, by rw [hv, h0], by omega, fun _ => rfl, by omega⟩
    · exact ⟨some ⟨g, 0, none⟩, cap, hv, h1, (fun h => by cases h), by simp only [maxLen] at h2; omega⟩
  subst hv
  have hz : ¬ ((1 : Int) = 0) := by omega
  clear h hx
  by_cases hc : cap = l.length
  all_goals
    cases a
    all_goals
      go_enter Try.func50, Try.ntmps50
      go_wp2_with (at_builtin; refine wpList_append_src rfl _ _ 46 rfl eltVer base l.length _ HO.out rfl 1 _ HS.out rfl (by intro u hu; simp [verV] at hu; rcases hu with rfl | rfl <;> rfl) (by omega) (by omega) hbase ?_; intro v1 w1 hown hg _)
      go_ret
      exact ⟨v1, rfl, by unfold OwV; rw [List.length_append, List.flatMap_append]; simpa using hown, hg⟩

theorem ver_size : (Try.prog.info? 70).map (·.size) = some 2 := by kernel_rfl
theorem ver_sizeOf (w : World) : (Go.sizeOf 70).run Try.prog w = .ok 2 w := by kernel_rfl

set_option maxRecDepth 100000 in
set_option maxHeartbeats 4000000 in
theorem insert_shift {base : Nat} (g cap : Nat) (cur : Array Value) (l : List Ver) (i : Nat) (x : Ver) (vb : Nat) (w : World) (hl : l.length ≤ 1048576) (hi : i < l.length) (hroom : l.length + 1 ≤ cap) (hcap : cap ≤ 9223372036854775807)
    (hg : w.heap[g]? = some (.cells cur 70 (0, 0))) (hbg : base ≤ g) (hs : cur.size = cap * 2) (ht : cur.toList.take (l.length * 2) = l.flatMap verV)
    (hx : w.heap[vb]? = some (.cells #[vi x.1, vi x.2] 70)) (hne : vb ≠ g) :
    Calls Try.prog 50 #[.slice (some ⟨g, 0, none⟩) l.length cap, vi i, .slice (some ⟨vb, 0, none⟩) 1 1] w (InsQ base (.slice (some ⟨g, 0, none⟩) l.length cap) (l.take i ++ x :: l.drop i) w) := by
  have hfl := flat2 l
  have hov : ∀ lb cb, (callFunc 71 #[.slice (some ⟨vb, 0, none⟩) 1 1, .slice (some ⟨g, (i + 1) * 2, none⟩) lb cb]).run Try.prog w = .ok (.value (.bool false)) w := fun lb cb => by
    rw [run_callFunc_extern Try.func71 (by kernel_rfl) (by kernel_rfl) (by kernel_rfl) (e := Extern.SlicesOverlaps.overlaps #[46, 46] #[4]) (by kernel_rfl),
      Lib.run_overlaps_apart w 46 4 70 Try.underlying46 2 ver_sizeOf ⟨vb, 0, none⟩ ⟨g, (i + 1) * 2, none⟩ 1 1 lb cb hne 70 70 2 (cap * 2)
        (by simp [World.shape?, hx]) (by simp [World.shape?, hg, hs]) (by omega) (free_of hx 0) (free_of hx 2)]
    rfl
  have hdl : ((l.flatMap verV).drop (i * 2)).length = (l.length - i) * 2 := by rw [List.length_drop, hfl]; omega
  obtain ⟨D, hD⟩ : ∃ D, (l.flatMap verV).drop (i * 2) = D := ⟨_, rfl⟩
  rw [hD] at hdl
  have h1D : ∀ v ∈ D, v.oneCell' = true := fun v hv => one_of (enc := verV) (by intro x u hu; simp [verV] at hu; rcases hu with rfl | rfl <;> rfl) l v (by rw [← hD] at hv; exact List.mem_of_mem_drop hv)
  obtain ⟨w1, hcp1, H1⟩ := run_copyR (P := Try.prog) w.drew 46 46 3 70 2 g ((i + 1) * 2) (l.length + 1 - (i + 1)) (cap - (i + 1)) (some ⟨g, i * 2, none⟩) (l.length + 1 - i) (cap - i) D cur 70
    Try.underlying46 ver_size (by rw [hdl]; simp only [Nat.min_def]; split <;> omega) hg
    ⟨_, rfl, fun j v hj => by
      rw [addr_add, show w.drew.cell? _ = w.cell? _ from rfl, cell_of hg]
      rw [← hD, List.getElem?_drop, ← ht, List.getElem?_take] at hj
      split at hj
      · simpa using hj
      · cases hj⟩ (by rw [hdl, hs]; omega) h1D
  obtain ⟨w2, hcp2, H2⟩ := run_copyR (P := Try.prog) w1 46 46 3 70 2 g (i * 2) (l.length + 1 - i) (cap - i) (some ⟨vb, 0, none⟩) 1 1 (verV x) _ 70
    Try.underlying46 ver_size (by rw [verV_length]; simp only [Nat.min_def]; split <;> omega) H1.out.1
    ⟨_, rfl, fun j v hj => by
      have hb := (H1.out.2.1.block vb (Array.getElem?_eq_some_iff.1 hx).1 (fun e => hne (by cases e; rfl))).trans hx
      rw [addr_add, cell_of hb]
      have : j < 2 := (List.getElem?_eq_some_iff.1 hj).1
      rcases (show j = 0 ∨ j = 1 by omega) with rfl | rfl <;> exact hj⟩
    (by simp only [verV_length, List.size_toArray]; rw [length_splice _ _ _ (by simp [hdl]; omega)]; simp; omega) (by intro u hu; simp [verV] at hu; rcases hu with rfl | rfl <;> rfl)
  have HC1 := Lib.hid hcp1
  have HC2 := Lib.hid hcp2
  have HOV := Lib.hid hov
  have HHG := Lib.hid hg
  have HT := Lib.hid ht
  have HD := Lib.hid hD
  have HDL := Lib.hid hdl
  have HFL := Lib.hid hfl
  have HSZ := Lib.hid hs
  have hz : ¬ ((1 : Int) = 0) := by omega
  have hz2 : ¬ ((i : Int) = (l.length : Int)) := by omega
  have hz3 : ¬ ((cap : Int) < (l.length : Int) + 1) := by omega
  have hw1 : IntKind.i64.wrap ((i : Int) + 1) = (i : Int) + 1 := by rw [IntKind.wrap_i64]; omega
  have hb1 : (0 : Int) ≤ (i : Int) + 1 := by omega
  have htn : ((i : Int) + 1).toNat = i + 1 := by omega
  have hb2 : ¬ (cap = i + 1) := by omega
  have hb3 : (i : Int) + 1 ≤ (l.length : Int) + 1 := by omega
  have hb4 : ¬ (cap = i) := by omega
  have hb5 : (i : Int) ≤ (l.length : Int) + 1 := by omega
  have hb6 : (l.length : Int) + 1 ≤ (cap : Int) := by omega
  have hov' := HOV.out
  clear hcp1 hcp2 hov hg ht hD hdl hfl hs h1D hx
  go_enter Try.func50, Try.ntmps50
  go_wp2_with (simp only [hov'])
  go_region_law (refine step_copy_run rfl _ _ 46 46 rfl _ _ (by simp [Act.eval, Act.put]) (by simp [Act.eval, Act.put]) HC1.out ?_)
  go_wp2_with (refine wpList_copy_run rfl (.tmp 80) (.tmp 81) 46 46 rfl _ _ rfl rfl HC2.out ?_)
  go_ret
  refine ⟨_, rfl, ?_, ?_⟩
  · have hlen : (splice (splice cur.toList ((i + 1) * 2) D) (i * 2) (verV x)).length = cap * 2 := by
      rw [length_splice _ _ _ (by rw [length_splice _ _ _ (by simp [HDL.out, HSZ.out]; omega), verV_length]; simp [HSZ.out]; omega), length_splice _ _ _ (by simp [HDL.out, HSZ.out]; omega)]; simp [HSZ.out]
    have hins := ins_shift cur.toList (verV x) D (i * 2) (by rw [verV_length, HDL.out]; simp [HSZ.out]; omega)
    refine ⟨by rw [flat2], .inr ⟨g, cap, _, ?_, hbg, H2.out.1, ?_, by simp only [maxLen]; omega, by simp only [List.size_toArray]; simpa using hlen, ?_⟩⟩
    · congr 1; simp; omega
    · simp; omega
    · have e1 : (l.take i ++ x :: l.drop i).length = l.length + 1 := by simp; omega
      have e2 : (l.length + 1) * 2 = i * 2 + (verV x).length + D.length := by rw [verV_length, HDL.out]; omega
      rw [e1, flat_ins, e2]
      have e3 : (i + 1) * 2 = i * 2 + (verV x).length := by rw [verV_length]; omega
      rw [e3]
      simp only [List.toList_toArray]
      rw [hins, HD.out, ← HT.out, List.take_take, Nat.min_eq_left (by omega)]
  · have hh := H1.out.2.1.trans H2.out.2.1
    exact ⟨hh.os, hh.tape, hh.output, hh.size, hh.block⟩

theorem size_zeroCells (z : Array Value) (n : Nat) : (Builtin.zeroCells z n).size = n * z.size := by simp [Builtin.zeroCells]
set_option maxRecDepth 100000 in
set_option maxHeartbeats 4000000 in
theorem insert_grow {base : Nat} (g : Nat) (cur : Array Value) (l : List Ver) (i : Nat) (x : Ver) (vb : Nat) (w : World) (hl : l.length ≤ 1048576) (hi : i < l.length) (hbase : base ≤ w.heap.size)
    (hg : w.heap[g]? = some (.cells cur 70 (0, 0))) (hs : cur.size = l.length * 2) (ht : cur.toList.take (l.length * 2) = l.flatMap verV)
    (hx : w.heap[vb]? = some (.cells #[vi x.1, vi x.2] 70)) :
    Calls Try.prog 50 #[.slice (some ⟨g, 0, none⟩) l.length l.length, vi i, .slice (some ⟨vb, 0, none⟩) 1 1] w (InsQ base (.slice (some ⟨g, 0, none⟩) l.length l.length) (l.take i ++ x :: l.drop i) w) := by
  have hfl := flat2 l
  have hcell : ∀ j u, (l.flatMap verV)[j]? = some u → w.cell? ⟨g, j, none⟩ = some u := fun j u hj => by
    rw [cell_of hg]
    rw [← ht, List.getElem?_take] at hj
    split at hj
    · simpa using hj
    · cases hj
  obtain ⟨i0, hi0, hz0, hzs, hzb⟩ := info_parts Try.infoVer
  have hold : (Builtin.firstCells i0.size i (.slice (some ⟨g, 0, none⟩) i l.length)).run Try.prog w.drew = .ok ((l.flatMap verV).take (i * 2)).toArray w.drew := by
    rw [hzs]
    exact run_firstCells_some w.drew 2 i ⟨g, 0, none⟩ i l.length ((l.flatMap verV).take (i * 2)) (by rw [List.length_take]; omega) (fun j v hj => by
      rw [addr_add, Nat.zero_add]
      rw [List.getElem?_take] at hj
      split at hj
      · exact hcell j v hj
      · cases hj)
  have hkk : (l.length : Int) + 1 - (i : Int) = ((l.length + 1 - i : Nat) : Int) := by omega
  have hik : i + (l.length + 1 - i) = l.length + 1 := by omega
  have hrz := Lib.run_append_grow_zeros w 46 3 46 70 i0 _ .i64 .i64 Try.underlying46 Try.underlying3 hi0 hz0 (some ⟨g, 0, none⟩) i l.length _ hold (l.length + 1 - i) (by omega) (by omega) (by omega) (by omega) (by rw [hzb]; omega) (by rw [hzb, hik]; exact growslice_fits (by omega) (by omega))
  rw [hik, ← hkk] at hrz
  have hG1 := grownCap_ge w (l.length + 1) l.length 70
  have hG2 := grownCap_le_maxLen w (l.length + 1) l.length 70 (by unfold maxLen; omega)
  generalize grownCap w (l.length + 1) l.length 70 = G at *
  have hR : ∃ ROW : Array Value, ROW = ((l.flatMap verV).take (i * 2)).toArray ++ Builtin.zeroCells (Value.agg #[vi 0, vi 0]).cells (l.length + 1 - i) ++ Builtin.zeroCells (Value.agg #[vi 0, vi 0]).cells (G - (l.length + 1)) := ⟨_, rfl⟩
  obtain ⟨ROW, hROW⟩ := hR
  have hRs : ROW.size = G * 2 := by
    rw [hROW]
    simp only [Array.size_append, size_zeroCells, List.size_toArray, List.length_take, hfl]
    have : (Value.agg #[vi 0, vi 0]).cells.size = 2 := rfl
    rw [this]; omega
  have hRt : ROW.toList.take (i * 2) = (l.flatMap verV).take (i * 2) := by
    rw [hROW]
    simp only [Array.toList_append, List.append_assoc]
    rw [List.take_append_of_le_length (by simp [hfl]; omega), List.take_take, Nat.min_self]
  rw [← hROW] at hrz
  have hrl : ROW.toList.length = G * 2 := by rw [Array.length_toList]; exact hRs
  have hz63 : G ≤ 9223372036854775807 := by simpa only [maxLen] using hG2
  clear hROW hG2 hzb hzs hz0 hi0 hold
  obtain ⟨W1, hW1⟩ : ∃ W1, W1 = w.drew.alloc (.cells ROW 70) := ⟨_, rfl⟩
  have hN1 : W1.heap[w.heap.size]? = some (.cells ROW 70) := by rw [hW1]; exact alloc_at w.drew _
  have hB1 : Below w.heap.size w W1 := by rw [hW1]; exact ((Below.refl w.heap.size w).drew).alloc (Nat.le_refl _) _
  rw [← hW1] at hrz
  have hgw := (Array.getElem?_eq_some_iff.1 hg).1
  have hvw := (Array.getElem?_eq_some_iff.1 hx).1
  have hdl : ((l.flatMap verV).drop (i * 2)).length = (l.length - i) * 2 := by rw [List.length_drop, hfl]; omega
  obtain ⟨D, hD⟩ : ∃ D, (l.flatMap verV).drop (i * 2) = D := ⟨_, rfl⟩
  rw [hD] at hdl
  have h1D : ∀ v ∈ D, v.oneCell' = true := fun v hv => one_of (enc := verV) (by intro x u hu; simp [verV] at hu; rcases hu with rfl | rfl <;> rfl) l v (by rw [← hD] at hv; exact List.mem_of_mem_drop hv)
  obtain ⟨W2, hcpA, H2⟩ := run_copyR (P := Try.prog) W1 46 46 3 70 2 w.heap.size (i * 2) (l.length + 1 - i) (G - i) (some ⟨vb, 0, none⟩) 1 1 (verV x) ROW 70
    Try.underlying46 ver_size (by rw [verV_length]; simp only [Nat.min_def]; split <;> omega) hN1
    ⟨_, rfl, fun j v hj => by
      rw [addr_add, cell_of ((hB1.block vb hvw).trans hx)]
      have : j < 2 := (List.getElem?_eq_some_iff.1 hj).1
      rcases (show j = 0 ∨ j = 1 by omega) with rfl | rfl <;> exact hj⟩
    (by rw [verV_length, hRs]; omega) (by intro u hu; simp [verV] at hu; rcases hu with rfl | rfl <;> rfl)
  have hg2 : W2.drew.heap[g]? = some (.cells cur 70 (0, 0)) := (H2.out.2.1.block g (by have := hB1.size; omega) (fun e => by have := Option.some.inj e; omega)).trans ((hB1.block g hgw).trans hg)
  obtain ⟨W3, hcpB, H3⟩ := run_copyR (P := Try.prog) W2.drew 46 46 3 70 2 w.heap.size ((i + 1) * 2) (l.length + 1 - (i + 1)) (G - (i + 1)) (some ⟨g, i * 2, none⟩) (l.length - i) (l.length - i) D (splice ROW.toList (i * 2) (verV x)).toArray 70
    Try.underlying46 ver_size (by rw [hdl]; simp only [Nat.min_def]; split <;> omega) H2.out.1
    ⟨_, rfl, fun j v hj => by
      rw [addr_add, cell_of hg2]
      rw [← hD, List.getElem?_drop, ← ht, List.getElem?_take] at hj
      split at hj
      · simpa using hj
      · cases hj⟩ (by show (i + 1) * 2 + D.length ≤ (splice ROW.toList (i * 2) (verV x)).length; rw [length_splice _ _ _ (by rw [verV_length, hrl]; omega), hrl, hdl]; omega) h1D
  have HRZ := Lib.hid hrz
  have HCA := Lib.hid hcpA
  have HCB := Lib.hid hcpB
  have HD := Lib.hid hD
  have HDL := Lib.hid hdl
  have HRS := Lib.hid hRs
  have HRT := Lib.hid hRt
  have HB1 := Lib.hid hB1
  have hz : ¬ ((1 : Int) = 0) := by omega
  have hz2 : ¬ ((i : Int) = (l.length : Int)) := by omega
  have hz3 : (l.length : Int) < (l.length : Int) + 1 := by omega
  have hw1 : IntKind.i64.wrap ((i : Int) + 1) = (i : Int) + 1 := by rw [IntKind.wrap_i64]; omega
  have hb1 : (0 : Int) ≤ (i : Int) + 1 := by omega
  have htn : ((i : Int) + 1).toNat = i + 1 := by omega
  have hb2 : ¬ (G = i + 1) := by omega
  have hb2' : ¬ (G = i) := by omega
  have hb3 : (i : Int) + 1 ≤ (l.length : Int) + 1 := by omega
  have hb4 : ¬ (l.length = i) := by omega
  have hb5 : (i : Int) ≤ (l.length : Int) + 1 := by omega
  have hb6 : (l.length : Int) + 1 ≤ (G : Int) := by omega
  have hb7 : (i : Int) ≤ (l.length : Int) := by omega
  clear hrz hcpA hcpB hD hdl hRs hRt hB1 hW1 hN1 hg2 hkk hik hcell hg ht hfl hs h1D hx
  go_enter Try.func50, Try.ntmps50
  go_wp2_with (first
    | (at_builtin; refine Lib.wpList_append_run _ rfl _ _ _ _ rfl _ _ rfl rfl _ _ HRZ.out ?_)
    | (refine wpList_copy_run rfl (.tmp 43) (.tmp 44) 46 46 rfl _ _ rfl rfl HCA.out ?_))
  go_region_law (refine step_copy_run rfl _ _ 46 46 rfl _ _ (by simp [Act.eval, Act.put]) (by simp [Act.eval, Act.put]) HCB.out ?_)
  go_wp2_with fail
  go_ret
  refine ⟨_, rfl, ?_, ?_⟩
  · have hlen : (splice (splice ROW.toList (i * 2) (verV x)) ((i + 1) * 2) D).length = G * 2 := by
      rw [length_splice _ _ _ (by rw [length_splice _ _ _ (by rw [verV_length]; simp [HRS.out]; omega)]; simp [HRS.out, HDL.out]; omega), length_splice _ _ _ (by rw [verV_length]; simp [HRS.out]; omega)]; simp [HRS.out]
    have hins := ins_grow ROW.toList (verV x) D (i * 2) (by rw [verV_length, HDL.out]; simp [HRS.out]; omega)
    refine ⟨by rw [flat2], .inr ⟨w.heap.size, G, _, ?_, hbase, H3.out.1, ?_, by simp only [maxLen]; omega, by simp only [List.size_toArray]; simpa using hlen, ?_⟩⟩
    · congr 1; simp; omega
    · simp; omega
    · have e1 : (l.take i ++ x :: l.drop i).length = l.length + 1 := by simp; omega
      have e2 : (l.length + 1) * 2 = i * 2 + (verV x).length + D.length := by rw [verV_length, HDL.out]; omega
      have e3 : (i + 1) * 2 = i * 2 + (verV x).length := by rw [verV_length]; omega
      rw [e1, flat_ins, e2, e3]
      simp only [List.toList_toArray]
      rw [hins, HD.out, HRT.out]
  · have hb2 := H2.out.2.1
    have hb3 := H3.out.2.1
    have hsz := HB1.out.size
    refine ⟨(hb3.os.trans hb2.os).trans HB1.out.os, (hb3.tape.trans hb2.tape).trans HB1.out.tape, (hb3.output.trans hb2.output).trans HB1.out.output, Nat.le_trans (Nat.le_trans hsz hb2.size) hb3.size, fun k hk _ => ?_⟩
    have hne : some k ≠ some w.heap.size := fun e => by have := Option.some.inj e; omega
    exact ((hb3.block k (by show k < W2.heap.size; have := hb2.size; omega) hne).trans (hb2.block k (by omega) hne)).trans (HB1.out.block k hk)

theorem insert_call {base : Nat} (v : Value) (l : List Ver) (i : Nat) (x : Ver) (vb : Nat) (w : World) (h : OwV base w v l) (hl : l.length ≤ 1048576) (hi : i ≤ l.length) (hbase : base ≤ w.heap.size)
    (hx : w.heap[vb]? = some (.cells #[vi x.1, vi x.2] 70)) (hne : ∀ g, v.ownBlock = some g → vb ≠ g) :
    Calls Try.prog 50 #[v, vi i, .slice (some ⟨vb, 0, none⟩) 1 1] w (InsQ base v (l.take i ++ x :: l.drop i) w) := by
  by_cases he : i = l.length
  · subst he
    have := insert_end v l x vb w h hl hbase hx
    simpa using this
  · rcases h.2 with ⟨hv, h0⟩ | ⟨g, cap, cur, rfl, hg, hb, h1, h2, h3, h4⟩
    · omega
    · have h63 : cap ≤ 9223372036854775807 := by simpa only [maxLen] using h2
      by_cases hc : cap = l.length
      · subst hc
        exact insert_grow g cur l i x vb w hl (by omega) hbase hb h3 h4 hx
      · exact insert_shift g cap cur l i x vb w hl (by omega) (by omega) h63 hb hg h3 h4 hx (hne g rfl)
end Go.Proofs.Ytbadpfcjoobniaa
