/- The test that Read hands to blocks. -/
import Derived.Test.YtbadpfcjoobniaaMvEnded
namespace Go.Proofs.Ytbadpfcjoobniaa
open Go.RowKit Go.Maps

set_option maxRecDepth 100000 in
set_option maxHeartbeats 2000000 in
theorem read1_call (x : RV) (kb ab : Nat) (key t : Int) (w : World) (hx : RdyS w x) (hk : w.cell? ⟨kb, 0, none⟩ = some (.int .i64 key)) (ha : w.cell? ⟨ab, 0, none⟩ = some (.int .i64 t)) :
    Calls Try.prog 51 #[rdyV x, .pointer (some ⟨kb, 0, none⟩), .pointer (some ⟨ab, 0, none⟩)] w fun e w' => e = .returned (.bool (writesB x.r key && decide (x.r.start < t))) ∧ Below w.heap.size w w' := by
  have HB := Lib.hid ((Below.refl w.heap.size w).alloc (Nat.le_refl _) (.cells #[vi x.r.txn, vi x.r.home, vi x.r.start, x.wv, x.rv] 29))
  have HX := Lib.hid (alloc_at w (.cells #[vi x.r.txn, vi x.r.home, vi x.r.start, x.wv, x.rv] 29))
  have HR := Lib.hid (hx.later HB.out)
  have k0 := cell_later HB.out hk
  have a0 := cell_later HB.out ha
  clear hx hk ha
  have HW := Lib.hid (fun (W : World) (h : RdyS W x) => writes_call x key W h)
  unfold rdyV rdyC at *
  go_enter Try.func51, Try.ntmps51
  go_upto_region 1 with fail
  generalize w.alloc (.cells #[vi x.r.txn, vi x.r.home, vi x.r.start, x.wv, x.rv] 29) = w1 at *
  have b0 : w1.cell? ⟨w.heap.size, 0, none⟩ = some (vi x.r.txn) := by rw [cell_of HX.out]; rfl
  have b1 : w1.cell? ⟨w.heap.size, 1, none⟩ = some (vi x.r.home) := by rw [cell_of HX.out]; rfl
  have b2 : w1.cell? ⟨w.heap.size, 2, none⟩ = some (vi x.r.start) := by rw [cell_of HX.out]; rfl
  have b3 : w1.cell? ⟨w.heap.size, 3, none⟩ = some x.wv := by rw [cell_of HX.out]; rfl
  have b4 : w1.cell? ⟨w.heap.size, 4, none⟩ = some x.rv := by rw [cell_of HX.out]; rfl
  have hcall := HW.out w1 HR.out
  obtain ⟨b, hb⟩ : ∃ b, writesB x.r key = b := ⟨_, rfl⟩
  rw [hb] at hcall
  have HC := Lib.hid hcall
  have HBB := Lib.hid hb
  clear hcall hb
  cases b
  · go_wp2_with (go_at_call 39; refine HC.out.mono ?_; rintro e w2 ⟨rfl, hb2⟩)
    go_ret
    exact ⟨by rw [HBB.out]; rfl, HB.out.trans (hb2.mono HB.out.size)⟩
  · go_wp2_with (go_at_call 39; refine HC.out.mono ?_; rintro e w2 ⟨rfl, hb2⟩; have b2' := cell_later hb2 b2; have a0' := cell_later hb2 a0)
    go_ret
    exact ⟨by rw [HBB.out]; rfl, HB.out.trans (hb2.mono HB.out.size)⟩

theorem read1_such {kb ab : Nat} {key t : Int} {R : RdyL} {w : World} (hR : ∀ x ∈ R, RdyS w x.2) (hk : w.cell? ⟨kb, 0, none⟩ = some (.int .i64 key)) (ha : w.cell? ⟨ab, 0, none⟩ = some (.int .i64 t)) :
    SuchAt 51 #[.pointer (some ⟨kb, 0, none⟩), .pointer (some ⟨ab, 0, none⟩)] (fun r => writesB r key && decide (r.start < t)) R w :=
  fun x hx W hW => read1_call x.2 kb ab key t W ((hR x hx).later hW) (cell_later hW hk) (cell_later hW ha)
end Go.Proofs.Ytbadpfcjoobniaa
