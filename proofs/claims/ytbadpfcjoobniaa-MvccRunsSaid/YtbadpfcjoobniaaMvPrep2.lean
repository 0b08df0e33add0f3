/- The test that Prepare hands to blocks. -/
import Derived.Test.YtbadpfcjoobniaaMvPrep1
namespace Go.Proofs.Ytbadpfcjoobniaa
open Go.RowKit Go.Maps

def wayB (r : Rdy) (look : Bool) (x : Rdy) : Bool := r.writes.any (wayO x look) || (look && r.reads.any (fun k => writesB x k))

set_option maxRecDepth 100000 in
set_option maxHeartbeats 2000000 in
theorem prep1_call (r x : RV) (look : Bool) (rb lb : Nat) (w : World) (hr : RdyS w r) (hx : RdyS w x) (hb : w.heap[rb]? = some (.cells (rdyC r) 29)) (hl : w.cell? ⟨lb, 0, none⟩ = some (.bool look)) :
    Calls Try.prog 36 #[rdyV x, .pointer (some ⟨rb, 0, none⟩), .pointer (some ⟨lb, 0, none⟩)] w fun e w' => e = .returned (.bool (wayB r.r look x.r)) ∧ Below w.heap.size w w' := by
  have hmf : ∀ (fn : Fn) (first cap : Array Value) (w : World), (Instr.makeFunc fn first cap).run Try.prog w = .ok (.func fn first cap) w := fun _ _ _ _ => rfl
  have HB := Lib.hid ((Below.refl w.heap.size w).alloc (Nat.le_refl _) (.cells (rdyC x) 29))
  have HX := Lib.hid (alloc_at w (.cells (rdyC x) 29))
  have HRX := Lib.hid (hx.later HB.out)
  have HRR := Lib.hid (hr.later HB.out)
  have HRB := Lib.hid ((HB.out.block rb (Array.getElem?_eq_some_iff.1 hb).1).trans hb)
  have l0 := cell_later HB.out hl
  clear hr hx hb hl
  have e38 : ∀ args w, (callFunc 38 args).run Try.prog w = .ok (.enter 38 args) w := enters_of Try.func38 (by kernel_rfl) rfl
  have e39 : ∀ args w, (callFunc 39 args).run Try.prog w = .ok (.enter 39 args) w := enters_of Try.func39 (by kernel_rfl) rfl
  have HT := Lib.hid (show OpTest 38 #[.pointer (some ⟨w.heap.size, 0, none⟩), .pointer (some ⟨lb, 0, none⟩)] (wayO x.r look) (w.alloc (.cells (rdyC x) 29)) from fun o W hW =>
    prep11_call x look o w.heap.size lb W (HRX.out.later hW) ((hW.block w.heap.size (by simp)).trans HX.out) (cell_later hW l0))
  have HZ := Lib.hid (show ∀ W0, Below (w.alloc (.cells (rdyC x) 29)).heap.size (w.alloc (.cells (rdyC x) 29)) W0 → IntTest 39 #[rdyV x] (fun k => writesB x.r k) W0 from fun W0 h0 k W hW => writes_call x k W ((HRX.out.later h0).later hW))
  have HE38 := Lib.hid e38
  have HE39 := Lib.hid e39
  clear e38 e39
  unfold rdyV at *
  unfold rdyC at *
  go_enter Try.func36, Try.ntmps36
  go_upto_region 1 with fail
  generalize w.alloc (.cells #[vi x.r.txn, vi x.r.home, vi x.r.start, x.wv, x.rv] 29) = w1 at *
  have r3 : w1.cell? ⟨rb, 3, none⟩ = some r.wv := by rw [cell_of HRB.out]; rfl
  have r4 : w1.cell? ⟨rb, 4, none⟩ = some r.rv := by rw [cell_of HRB.out]; rfl
  have x0 : w1.cell? ⟨w.heap.size, 0, none⟩ = some (vi x.r.txn) := by rw [cell_of HX.out]; rfl
  have x1 : w1.cell? ⟨w.heap.size, 1, none⟩ = some (vi x.r.home) := by rw [cell_of HX.out]; rfl
  have x2 : w1.cell? ⟨w.heap.size, 2, none⟩ = some (vi x.r.start) := by rw [cell_of HX.out]; rfl
  have x3 : w1.cell? ⟨w.heap.size, 3, none⟩ = some x.wv := by rw [cell_of HX.out]; rfl
  have x4 : w1.cell? ⟨w.heap.size, 4, none⟩ = some x.rv := by rw [cell_of HX.out]; rfl
  obtain ⟨b, hb⟩ : ∃ b, r.r.writes.any (wayO x.r look) = b := ⟨_, rfl⟩
  have HC := Lib.hid (show Calls Try.prog _ _ _ _ from containsQ_call r.wv r.r.writes _ _ (wayO x.r look) w1 HRR.out.ws HE38.out HT.out)
  rw [hb] at HC
  have HBB := Lib.hid hb
  clear hb
  cases b
  · cases look
    · go_wp2_with (go_at_call 37; refine HC.out.mono ?_; rintro e w2 ⟨rfl, hb2⟩; have l0' := cell_later hb2 l0)
      go_ret
      exact ⟨by unfold wayB; rw [HBB.out]; rfl, HB.out.trans (hb2.mono HB.out.size)⟩
    · go_wp2_with (first
        | (go_at_call 37; refine HC.out.mono ?_; rintro e w2 ⟨rfl, hb2⟩; have l0' := cell_later hb2 l0; have r4' := cell_later hb2 r4; have x0' := cell_later hb2 x0; have x1' := cell_later hb2 x1; have x2' := cell_later hb2 x2; have x3' := cell_later hb2 x3; have x4' := cell_later hb2 x4; have HR2 := Lib.hid (HRR.out.later hb2); have HZ2 := Lib.hid (HZ.out w2 hb2))
        | (go_at_call 41; refine (containsZ_call r.rv r.r.reads _ _ (fun k => writesB x.r k) _ HR2.out.rs HE39.out HZ2.out).mono ?_; rintro e w3 ⟨rfl, hb3⟩))
      go_ret
      exact ⟨by unfold wayB; rw [HBB.out]; rfl, HB.out.trans ((hb2.trans (hb3.mono hb2.size)).mono HB.out.size)⟩
  · go_wp2_with (go_at_call 37; refine HC.out.mono ?_; rintro e w2 ⟨rfl, hb2⟩)
    go_ret
    exact ⟨by unfold wayB; rw [HBB.out]; rfl, HB.out.trans (hb2.mono HB.out.size)⟩
end Go.Proofs.Ytbadpfcjoobniaa
