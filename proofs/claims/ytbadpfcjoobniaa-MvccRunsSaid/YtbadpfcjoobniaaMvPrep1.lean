/- The inner test that Prepare hands to blocks. -/
import Derived.Test.YtbadpfcjoobniaaMvCnI
namespace Go.Proofs.Ytbadpfcjoobniaa
open Go.RowKit Go.Maps

/-- Is one who waits in an operation's way? -/
def wayO (x : Rdy) (look : Bool) (o : GOp) : Bool := writesB x o.key || (look && x.reads.any (fun k => o.key == k))

set_option maxRecDepth 100000 in
set_option maxHeartbeats 2000000 in
theorem prep11_call (x : RV) (look : Bool) (o : GOp) (xb lb : Nat) (w : World) (hx : RdyS w x) (hb : w.heap[xb]? = some (.cells (rdyC x) 29)) (hl : w.cell? ⟨lb, 0, none⟩ = some (.bool look)) :
    Calls Try.prog 38 #[.agg #[vi o.kind, vi o.key, vi o.val], .pointer (some ⟨xb, 0, none⟩), .pointer (some ⟨lb, 0, none⟩)] w fun e w' => e = .returned (.bool (wayO x.r look o)) ∧ Below w.heap.size w w' := by
  have HB := Lib.hid ((Below.refl w.heap.size w).alloc (Nat.le_refl _) (.cells #[vi o.kind, vi o.key, vi o.val] 55))
  have HX := Lib.hid (alloc_at w (.cells #[vi o.kind, vi o.key, vi o.val] 55))
  have HR := Lib.hid (hx.later HB.out)
  have HXB := Lib.hid ((HB.out.block xb (Array.getElem?_eq_some_iff.1 hb).1).trans hb)
  have l0 := cell_later HB.out hl
  clear hx hb hl
  have HW := Lib.hid (fun (W : World) (h : RdyS W x) => writes_call x o.key W h)
  unfold rdyV rdyC at *
  go_enter Try.func38, Try.ntmps38
  go_upto_region 1 with fail
  generalize w.alloc (.cells #[vi o.kind, vi o.key, vi o.val] 55) = w1 at *
  have o1 : w1.cell? ⟨w.heap.size, 1, none⟩ = some (vi o.key) := by rw [cell_of HX.out]; rfl
  have b0 : w1.cell? ⟨xb, 0, none⟩ = some (vi x.r.txn) := by rw [cell_of HXB.out]; rfl
  have b1 : w1.cell? ⟨xb, 1, none⟩ = some (vi x.r.home) := by rw [cell_of HXB.out]; rfl
  have b2 : w1.cell? ⟨xb, 2, none⟩ = some (vi x.r.start) := by rw [cell_of HXB.out]; rfl
  have b3 : w1.cell? ⟨xb, 3, none⟩ = some x.wv := by rw [cell_of HXB.out]; rfl
  have b4 : w1.cell? ⟨xb, 4, none⟩ = some x.rv := by rw [cell_of HXB.out]; rfl
  have hcall := HW.out w1 HR.out
  obtain ⟨b, hb⟩ : ∃ b, writesB x.r o.key = b := ⟨_, rfl⟩
  rw [hb] at hcall
  have HC := Lib.hid hcall
  have HBB := Lib.hid hb
  clear hcall hb
  cases b
  · cases look
    · go_wp2_with (go_at_call 39; refine HC.out.mono ?_; rintro e w2 ⟨rfl, hb2⟩; have l0' := cell_later hb2 l0)
      go_ret
      exact ⟨by unfold wayO; rw [HBB.out]; rfl, HB.out.trans (hb2.mono HB.out.size)⟩
    · go_wp2_with (first
        | (go_at_call 39; refine HC.out.mono ?_; rintro e w2 ⟨rfl, hb2⟩; have l0' := cell_later hb2 l0; have b4' := cell_later hb2 b4; have o1' := cell_later hb2 o1; have HR2 := Lib.hid (HR.out.later hb2))
        | (go_at_call 40; refine (containsI_call x.rv x.r.reads o.key _ HR2.out.rs).mono ?_; rintro e w3 ⟨rfl, hb3⟩))
      go_ret
      exact ⟨by unfold wayO; rw [HBB.out]; rfl, HB.out.trans ((hb2.trans (hb3.mono hb2.size)).mono HB.out.size)⟩
  · go_wp2_with (go_at_call 39; refine HC.out.mono ?_; rintro e w2 ⟨rfl, hb2⟩)
    go_ret
    exact ⟨by unfold wayO; rw [HBB.out]; rfl, HB.out.trans (hb2.mono HB.out.size)⟩
end Go.Proofs.Ytbadpfcjoobniaa
