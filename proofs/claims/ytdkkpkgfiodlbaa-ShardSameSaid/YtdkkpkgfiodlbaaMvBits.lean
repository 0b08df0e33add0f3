/- (mvcc.Ready).Bits. -/
import Derived.Test.YtdkkpkgfiodlbaaBtInt
import Derived.Test.YtdkkpkgfiodlbaaBtIntR
import Derived.Test.YtdkkpkgfiodlbaaMvData
namespace Go.Proofs.Ytdkkpkgfiodlbaa
open Go.RowKit

def opL (o : GOp) : List Bool := intL o.key ++ intL o.val
def opsBL (ws : List GOp) : List Bool := ws.flatMap opL
def intsBL (rs : List Int) : List Bool := rs.flatMap intL
/-- A transaction that waits, in bits. -/
def rdyBL (r : Rdy) : List Bool := intL r.txn ++ intL r.home ++ intL r.start ++ numL r.writes.length ++ opsBL r.writes ++ numL r.reads.length ++ intsBL r.reads
theorem intL_length {z : Int} (h : IntOk z) : (intL z).length ≤ 129 := numL_length _ (zig_lt h.1 h.2)
theorem opsBL_length : ∀ ws : List GOp, (∀ o ∈ ws, IntOk o.key ∧ IntOk o.val) → (opsBL ws).length ≤ 258 * ws.length
  | [], _ => by simp [opsBL]
  | o :: ws, h => by
    have h1 := h o (by simp)
    have := opsBL_length ws (fun x hx => h x (by simp [hx]))
    have a := intL_length h1.1
    have b := intL_length h1.2
    simp only [opsBL, List.flatMap_cons, List.length_append, opL, List.length_cons] at *
    omega
theorem intsBL_length : ∀ rs : List Int, (∀ o ∈ rs, IntOk o) → (intsBL rs).length ≤ 129 * rs.length
  | [], _ => by simp [intsBL]
  | o :: ws, h => by
    have h1 := h o (by simp)
    have := intsBL_length ws (fun x hx => h x (by simp [hx]))
    have a := intL_length h1
    simp only [intsBL, List.flatMap_cons, List.length_append, List.length_cons] at *
    omega
theorem opsBL_snoc {ws : List GOp} {k : Nat} {o : GOp} (h : ws[k]? = some o) : opsBL (ws.take (k + 1)) = opsBL (ws.take k) ++ (intL o.key ++ intL o.val) := by
  rw [take_at h]; simp [opsBL, opL]
theorem intsBL_snoc {ws : List Int} {k : Nat} {o : Int} (h : ws[k]? = some o) : intsBL (ws.take (k + 1)) = intsBL (ws.take k) ++ intL o := by
  rw [take_at h]; simp [intsBL]
/-- What the numbers of a transaction are within. -/
structure RdyOk (r : Rdy) : Prop where
  txn : IntOk r.txn
  home : IntOk r.home
  start : IntOk r.start
  ws : ∀ o ∈ r.writes, IntOk o.key ∧ IntOk o.val
  rs : ∀ k ∈ r.reads, IntOk k
theorem FrW.alloc {base p : Nat} {a b : World} (h : FrW base p a b) (o : Obj) : FrW base p a (b.alloc o) := h.trans (FrW.below ((Below.refl _ _).alloc (Nat.le_refl _) o))
theorem WrS.alloc {base p : Nat} {L : List Bool} {A : World} (h : WrS base p L A) (o : Obj) : WrS base p L (A.alloc o) := h.later ((Below.refl _ _).alloc (Nat.le_refl _) o)

set_option maxRecDepth 100000 in
set_option maxHeartbeats 8000000 in
theorem rdyBits_call {base p : Nat} {L : List Bool} (x : RV) (w : World) (hw : WrS base p L w) (hb : base ≤ w.heap.size) (hx : ∀ W, Below base w W → RdyS W x) (hi : RdyOk x.r) (hlw : x.r.writes.length ≤ 1000) (hlr : x.r.reads.length ≤ 1000) (hL : L.length ≤ 500000) :
    Calls Try.prog 34 #[rdyV x, .pointer (some ⟨p, 0, none⟩)] w (PutQ base p (L ++ rdyBL x.r) w) := by
  obtain ⟨wv, rv, r⟩ := x
  have hx0 := hx w (Below.refl _ _)
  obtain ⟨aw, nw, cw, hwv, rfl, hmw, -⟩ := (show RdOps w wv r.writes from hx0.ws).at
  obtain ⟨ar, nr, cr, hrv, rfl, hmr, -⟩ := (show RdInts w rv r.reads from hx0.rs).at
  subst hwv hrv
  clear hx0
  have HX := Lib.hid (Bt.alloc_at w (.cells (rdyC ⟨.slice aw r.writes.length cw, .slice ar r.reads.length cr, r⟩) 29))
  have HW := Lib.hid (hw.alloc (.cells (rdyC ⟨.slice aw r.writes.length cw, .slice ar r.reads.length cr, r⟩) 29))
  have HF := Lib.hid ((FrW.refl base p w).alloc (.cells (rdyC ⟨.slice aw r.writes.length cw, .slice ar r.reads.length cr, r⟩) 29))
  have hne := hw.lt
  have HRD := Lib.hid hx
  have HI := Lib.hid hi
  have hl1 := intL_length hi.txn
  have hl2 := intL_length hi.home
  have hl3 := intL_length hi.start
  have hl4 := numL_length r.writes.length (by omega)
  have hl5 := numL_length r.reads.length (by omega)
  have hl6 := opsBL_length r.writes hi.ws
  have hl7 := intsBL_length r.reads hi.rs
  simp only at hlw hlr
  have hlen := Lib.hid (show (rdyBL r).length = (intL r.txn).length + (intL r.home).length + (intL r.start).length + (numL r.writes.length).length + (opsBL r.writes).length + (numL r.reads.length).length + (intsBL r.reads).length by simp [rdyBL]; omega)
  have hba : base ≤ (w.alloc (.cells (rdyC ⟨.slice aw r.writes.length cw, .slice ar r.reads.length cr, r⟩) 29)).heap.size := by simp; omega
  clear hx hi
  unfold rdyV at *
  unfold rdyC at *
  simp only at HX HW HF hba
  go_enter Try.func34, Try.ntmps34
  go_upto_region 1 with fail
  generalize w.alloc (.cells #[vi r.txn, vi r.home, vi r.start, .slice aw r.writes.length cw, .slice ar r.reads.length cr] 29) = w1 at *
  obtain ⟨X, hX⟩ : ∃ X, X = w.heap.size := ⟨_, rfl⟩
  rw [← hX] at HX hne ⊢
  have hnX : X ≠ p := by omega
  have hbX : base ≤ X := by omega
  have HXE := Lib.hid hX
  clear hX hb hw
  have x0 : w1.cell? ⟨X, 0, none⟩ = some (vi r.txn) := by rw [Bt.cell_of HX.out]; rfl
  go_upto_region 2 with (go_at_call 33; refine (int_call (L := L) r.txn w1 HW.out HI.out.txn.1 HI.out.txn.2 (by omega) hba).mono ?_; rintro e2 w2 ⟨rfl, hw2, hf2⟩; have HW2 := Lib.hid hw2; have HF2 := Lib.hid hf2; have hz2 := Nat.le_trans hba hf2.size; have x1 : w2.cell? ⟨X, 1, none⟩ = some (vi r.home) := (by rw [Bt.cell_of (hf2.cells HX.out hnX (by decide))]; rfl); have HX2 := Lib.hid (hf2.cells HX.out hnX (by decide)); clear hw2 hf2)
  go_upto_region 3 with (go_at_call 33; refine (int_call (L := L ++ intL r.txn) r.home w2 HW2.out HI.out.home.1 HI.out.home.2 (by simp; omega) hz2).mono ?_; rintro e3 w3 ⟨rfl, hw3, hf3⟩; have HW3 := Lib.hid hw3; have HF3 := Lib.hid hf3; have hz3 := Nat.le_trans hz2 hf3.size; have x2 : w3.cell? ⟨X, 2, none⟩ = some (vi r.start) := (by rw [Bt.cell_of (hf3.cells HX2.out hnX (by decide))]; rfl); have HX3 := Lib.hid (hf3.cells HX2.out hnX (by decide)); clear hw3 hf3)
  go_upto_region 4 with (go_at_call 33; refine (int_call (L := L ++ intL r.txn ++ intL r.home) r.start w3 HW3.out HI.out.start.1 HI.out.start.2 (by simp; omega) hz3).mono ?_; rintro e4 w4 ⟨rfl, hw4, hf4⟩; have HW4 := Lib.hid hw4; have HF4 := Lib.hid hf4; have hz4 := Nat.le_trans hz3 hf4.size; have x3 : w4.cell? ⟨X, 3, none⟩ = some (.slice aw r.writes.length cw) := (by rw [Bt.cell_of (hf4.cells HX3.out hnX (by decide))]; rfl); have HX4 := Lib.hid (hf4.cells HX3.out hnX (by decide)); clear hw4 hf4)
  have hwr1 : IntKind.u64.wrap (r.writes.length : Int) = (r.writes.length : Int) := by rw [IntKind.wrap_u64]; omega
  go_upto_region 5 with (go_at_call 54; refine (num_call (L := L ++ intL r.txn ++ intL r.home ++ intL r.start) r.writes.length w4 HW4.out (by omega) (by simp; omega) hz4).mono ?_; rintro e5 w5 ⟨rfl, hw5, hf5⟩; have HW5 := Lib.hid hw5; have HF5 := Lib.hid hf5; have hz5 := Nat.le_trans hz4 hf5.size; have x3' : w5.cell? ⟨X, 3, none⟩ = some (.slice aw r.writes.length cw) := (by rw [Bt.cell_of (hf5.cells HX4.out hnX (by decide))]; rfl); have HX5 := Lib.hid (hf5.cells HX4.out hnX (by decide)); clear hw5 hf5)
  have HFA := Lib.hid ((((HF.out.trans HF2.out).trans HF3.out).trans HF4.out).trans HF5.out)
  have HW5' := HW5
  clear x0 x1 x2 x3 HW HW2 HW3 HW4 HF HF2 HF3 HF4 HF5 HX HX2 HX3 HX4 hba hz2 hz3 hz4 hwr1
  obtain ⟨L5, hL5⟩ : ∃ L5, L5 = L ++ intL r.txn ++ intL r.home ++ intL r.start ++ numL r.writes.length := ⟨_, rfl⟩
  rw [← hL5] at HW5
  have hl55 : L5.length = L.length + (intL r.txn).length + (intL r.home).length + (intL r.start).length + (numL r.writes.length).length := by rw [hL5]; simp; omega
  have HLL5 := Lib.hid hl55
  have HL5 := Lib.hid hL5
  have hl5m : L5.length ≤ 500000 + 129 * 4 := by omega
  clear hL5 hl55 HW5'
  go_wp2_with fail
  go_loopw [29] (fun i wr => ∃ k : Nat, k ≤ r.writes.length ∧ i = vi k ∧ Hid (WrS base p (L5 ++ opsBL (r.writes.take k)) wr ∧ FrW base p w wr ∧ wr.heap[X]? = some (.cells #[vi r.txn, vi r.home, vi r.start, .slice aw r.writes.length cw, .slice ar r.reads.length cr] 29))) (fun i _ => r.writes.length - (intOf i).toNat)
  case atStart => exact ⟨0, Nat.zero_le _, rfl, Lib.hid ⟨by simpa [opsBL] using HW5.out, HFA.out, HX5.out⟩⟩
  case round =>
    obtain ⟨wj, rfl⟩ : ∃ wj : World, wj = wr := ⟨_, rfl⟩
    obtain ⟨k, hk, rfl, HJ⟩ := hrel
    have HBJ := Lib.hid (HJ.out.2.1.toBelow (by have := HXE.out; omega) HJ.out.1.1)
    by_cases hlt : k < r.writes.length
    · have k1 : decide ((k : Int) < r.writes.length) = true := decide_eq_true (by omega)
      have hwk : IntKind.i64.wrap ((k : Int) + 1) = (k : Int) + 1 := IntWalk.i64_in _ (by omega)
      obtain ⟨o, ho⟩ := some_at hlt
      have HO := Lib.hid ho
      have hoi := HI.out.ws o (List.mem_of_getElem? ho)
      obtain ⟨a', n', c', he, _, _, hcells⟩ := (show RdOps wj (.slice aw r.writes.length cw) r.writes from (HRD.out wj HBJ.out).ws).at
      obtain ⟨b, off, ha, k2, k3, k4⟩ := hcells k o ho
      simp only [Value.slice.injEq] at he
      obtain ⟨rfl, -, -⟩ := he
      subst ha
      clear hcells ho
      have hpj := HJ.out.1.lt
      have HWA := Lib.hid (HJ.out.1.alloc (.cells #[vi o.kind, vi o.key, vi o.val] 104))
      have HYA := Lib.hid (Bt.alloc_at wj (.cells #[vi o.kind, vi o.key, vi o.val] 104))
      have HFA1 := Lib.hid ((FrW.refl base p wj).alloc (.cells #[vi o.kind, vi o.key, vi o.val] 104))
      have hjb : base ≤ (wj.alloc (.cells #[vi o.kind, vi o.key, vi o.val] 104)).heap.size := by have := HBJ.out.size; have := HXE.out; simp; omega
      have htk := opsBL_snoc HO.out
      have hlk : (opsBL (r.writes.take k)).length ≤ 258 * r.writes.length := by
        have h1 := opsBL_length (r.writes.take k) (fun x hx => HI.out.ws x (List.mem_of_mem_take hx))
        have h2 : (r.writes.take k).length ≤ r.writes.length := by rw [List.length_take]; omega
        omega
      have hla := intL_length hoi.1
      have HTK := Lib.hid htk
      clear htk
      go_upto_region 8 with fail
      generalize wj.alloc (.cells #[vi o.kind, vi o.key, vi o.val] 104) = wa at *
      obtain ⟨Y, hY⟩ : ∃ Y, Y = wj.heap.size := ⟨_, rfl⟩
      rw [← hY] at HYA hpj ⊢
      have hnY : Y ≠ p := by omega
      have y1 : wa.cell? ⟨Y, 1, none⟩ = some (vi o.key) := by rw [Bt.cell_of HYA.out]; rfl
      have HY := Lib.hid hY
      clear hY
      go_wp2_with (first
        | (go_at_call 33; refine (int_call (L := L5 ++ opsBL (r.writes.take k) ++ intL o.key) o.val wb HWB.out hoi.2.1 hoi.2.2 (by simp; omega) hzb).mono ?_; rintro ec wc ⟨rfl, hwc, hfc⟩; have HWC := Lib.hid hwc; have HFC := Lib.hid hfc; clear hwc hfc)
        | (go_at_call 33; refine (int_call (L := L5 ++ opsBL (r.writes.take k)) o.key wa HWA.out hoi.1.1 hoi.1.2 (by simp; omega) hjb).mono ?_; rintro eb wb ⟨rfl, hwb, hfb⟩; have HWB := Lib.hid hwb; have HFB := Lib.hid hfb; have hzb := Nat.le_trans hjb hfb.size; have y2 : wb.cell? ⟨Y, 2, none⟩ = some (vi o.val) := (by rw [Bt.cell_of (hfb.cells HYA.out hnY (by decide))]; rfl); clear hwb hfb))
      refine ⟨⟨k + 1, by omega, by go_num, Lib.hid ⟨?_, ?_, ?_⟩⟩, by simp only [intOf]; omega⟩
      · rw [HTK.out, ← List.append_assoc, ← List.append_assoc]; exact HWC.out
      · exact ((HJ.out.2.1.trans HFA1.out).trans HFB.out).trans HFC.out
      · exact ((HFA1.out.trans HFB.out).trans HFC.out).cells HJ.out.2.2 hnX (by decide)
    · have k1 : decide ((k : Int) < r.writes.length) = false := decide_eq_false (by omega)
      have hke := Lib.hid (show k = r.writes.length by omega)
      have HWJ := Lib.hid HJ.out.1
      have hjb : base ≤ wj.heap.size := by have := HBJ.out.size; have := HXE.out; omega
      have HWJ2 : Hid (WrS base p (L5 ++ opsBL r.writes) wj) := by have := HJ.out.1; rw [hke.out, List.take_length] at this; exact Lib.hid this
      have HFJ := Lib.hid HJ.out.2.1
      have HXJ := Lib.hid HJ.out.2.2
      have x4 : wj.cell? ⟨X, 4, none⟩ = some (.slice ar r.reads.length cr) := by rw [Bt.cell_of HJ.out.2.2]; rfl
      have hwr2 : IntKind.u64.wrap (r.reads.length : Int) = (r.reads.length : Int) := by rw [IntKind.wrap_u64]; omega
      have HJ0 := HJ
      clear HJ0 HJ HWJ
      go_upto_region 12 with (go_at_call 54; refine (num_call (L := L5 ++ opsBL r.writes) r.reads.length wj HWJ2.out (by omega) (by simp; omega) hjb).mono ?_; rintro e6 w6 ⟨rfl, hw6, hf6⟩; have HW6 := Lib.hid hw6; have HF6 := Lib.hid hf6; have hz6 := Nat.le_trans hjb hf6.size; have x4' : w6.cell? ⟨X, 4, none⟩ = some (.slice ar r.reads.length cr) := (by rw [Bt.cell_of (hf6.cells HXJ.out hnX (by decide))]; rfl); clear hw6 hf6)
      obtain ⟨L6, hL6⟩ : ∃ L6, L6 = L5 ++ opsBL r.writes ++ numL r.reads.length := ⟨_, rfl⟩
      rw [← hL6] at HW6
      have hl66 : L6.length = L5.length + (opsBL r.writes).length + (numL r.reads.length).length := by rw [hL6]; simp; omega
      have hl6m : L6.length ≤ 500000 + 129 * 5 + 258 * 1000 := by omega
      have HL6 := Lib.hid hL6
      have HF6J := Lib.hid (HFJ.out.trans HF6.out)
      clear hL6 hl66
      go_wp2_with fail
      go_loopw [51] (fun i wr => ∃ k : Nat, k ≤ r.reads.length ∧ i = vi k ∧ Hid (WrS base p (L6 ++ intsBL (r.reads.take k)) wr ∧ FrW base p w wr)) (fun i _ => r.reads.length - (intOf i).toNat)
      case atStart => exact ⟨0, Nat.zero_le _, rfl, Lib.hid ⟨by simpa [intsBL] using HW6.out, HF6J.out⟩⟩
      case round =>
        obtain ⟨wq, rfl⟩ : ∃ wq : World, wq = wr := ⟨_, rfl⟩
        obtain ⟨q, hq, rfl, HQ⟩ := hrel
        have HBQ := Lib.hid (HQ.out.2.toBelow (by have := HXE.out; omega) HQ.out.1.1)
        by_cases hlt2 : q < r.reads.length
        · have k1 : decide ((q : Int) < r.reads.length) = true := decide_eq_true (by omega)
          have hwk : IntKind.i64.wrap ((q : Int) + 1) = (q : Int) + 1 := IntWalk.i64_in _ (by omega)
          obtain ⟨o, ho⟩ := some_at hlt2
          have HO := Lib.hid ho
          have hoi := HI.out.rs o (List.mem_of_getElem? ho)
          obtain ⟨a', n', c', he, _, _, hcells⟩ := (show RdInts wq (.slice ar r.reads.length cr) r.reads from (HRD.out wq HBQ.out).rs).at
          obtain ⟨b, off, ha, k2, _⟩ := hcells q o ho
          simp only [Value.slice.injEq] at he
          obtain ⟨rfl, -, -⟩ := he
          subst ha
          have htk := intsBL_snoc ho
          have hlk : (intsBL (r.reads.take q)).length ≤ 129 * r.reads.length := by
            have h1 := intsBL_length (r.reads.take q) (fun x hx => HI.out.rs x (List.mem_of_mem_take hx))
            have h2 : (r.reads.take q).length ≤ r.reads.length := by rw [List.length_take]; omega
            omega
          have hqb : base ≤ wq.heap.size := by have := HBQ.out.size; have := HXE.out; omega
          have HTK := Lib.hid htk
          clear hcells ho htk
          go_wp2_with (go_at_call 33; refine (int_call (L := L6 ++ intsBL (r.reads.take q)) o wq HQ.out.1 hoi.1 hoi.2 (by simp; omega) hqb).mono ?_; rintro eb wb ⟨rfl, hwb, hfb⟩; have HWB := Lib.hid hwb; have HFB := Lib.hid hfb; clear hwb hfb)
          refine ⟨⟨q + 1, by omega, by go_num, Lib.hid ⟨?_, HQ.out.2.trans HFB.out⟩⟩, by simp only [intOf]; omega⟩
          rw [HTK.out, ← List.append_assoc]; exact HWB.out
        · have k1 : decide ((q : Int) < r.reads.length) = false := decide_eq_false (by omega)
          have hqe := Lib.hid (show q = r.reads.length by omega)
          go_wp2_with fail
          go_end0
          refine ⟨rfl, ?_, HQ.out.2⟩
          have h1 := HQ.out.1
          rw [hqe.out, List.take_length] at h1
          have h2 : L ++ rdyBL r = L6 ++ intsBL r.reads := by rw [HL6.out, HL5.out]; simp [rdyBL]
          show WrS base p (L ++ rdyBL r) wq
          rw [h2]; exact h1
end Go.Proofs.Ytdkkpkgfiodlbaa