/- The comparison of links that Links hands to the sort. -/
import Derived.Test.YthpdenmbcjngkaaLnCmp
namespace Go.Proofs.Ythpdenmbcjngkaa
open Go.RowKit Go.Maps Go.Sort Go.Shelf

theorem grow_more {w w2 : World} (h : ∃ q os', w2 = grow (w.drewN q) os') (o : Obj) : ∃ q os', (w2.alloc o).drew = grow (w.drewN q) os' := by
  obtain ⟨q, os', rfl⟩ := h
  exact ⟨q + 1, os' ++ #[o], by rw [alloc_eq_grow, grow_grow]; rfl⟩

set_option maxRecDepth 100000 in
set_option maxHeartbeats 4000000 in
theorem links1_call (x y : LK) (w : World) : Calls Try.prog 27 #[lkV x, lkV y] w fun e w' => e = .returned (vi (cmpLK x y)) ∧ ∃ q os', w' = grow (w.drewN q) os' := by
  have HX1 := Lib.hid (alloc_at w (.cells #[vi x.1, vi x.2] 29))
  have HX2 := Lib.hid (alloc_at (w.alloc (.cells #[vi x.1, vi x.2] 29)) (.cells #[vi y.1, vi y.2] 29))
  have HX3 := Lib.hid ((Below.heap_alloc (w.alloc (.cells #[vi x.1, vi x.2] 29)) (.cells #[vi y.1, vi y.2] 29) w.heap.size (by simp)).trans HX1.out)
  have hw1 : (w.alloc (.cells #[vi x.1, vi x.2] 29)).heap.size = w.heap.size + 1 := by simp
  have HG := Lib.hid (show ∃ q os', ((w.alloc (.cells #[vi x.1, vi x.2] 29)).alloc (.cells #[vi y.1, vi y.2] 29)) = grow (w.drewN q) os' from ⟨0, _, by rw [alloc_eq_grow, alloc_eq_grow, grow_grow]; rfl⟩)
  rw [hw1] at HX2
  go_enter Try.func27, Try.ntmps27
  go_upto_region 1 with fail
  generalize ((w.alloc (.cells #[vi x.1, vi x.2] 29)).alloc (.cells #[vi y.1, vi y.2] 29)) = w2 at *
  have b0 : w2.drew.cell? ⟨w.heap.size, 0, none⟩ = some (vi x.1) := by show w2.cell? _ = _; rw [cell_of HX3.out]; rfl
  have b1 : w2.drew.cell? ⟨w.heap.size, 1, none⟩ = some (vi x.2) := by show w2.cell? _ = _; rw [cell_of HX3.out]; rfl
  have b2 : w2.drew.cell? ⟨w.heap.size + 1, 0, none⟩ = some (vi y.1) := by show w2.cell? _ = _; rw [cell_of HX2.out]; rfl
  have b3 : w2.drew.cell? ⟨w.heap.size + 1, 1, none⟩ = some (vi y.2) := by show w2.cell? _ = _; rw [cell_of HX2.out]; rfl
  have HA := Lib.hid (fun o => (Below.refl w2.drew.heap.size w2.drew).alloc (Nat.le_refl _) o)
  go_region_held3 (fun w' : World => w'.cell? ⟨w.heap.size, 0, none⟩ = some (vi x.1) ∧ w'.cell? ⟨w.heap.size, 1, none⟩ = some (vi x.2) ∧ w'.cell? ⟨w.heap.size + 1, 0, none⟩ = some (vi y.1) ∧ w'.cell? ⟨w.heap.size + 1, 1, none⟩ = some (vi y.2)) (first | exact ⟨b0, b1, b2, b3⟩ | exact ⟨cell_later (HA.out _) b0, cell_later (HA.out _) b1, cell_later (HA.out _) b2, cell_later (HA.out _) b3⟩) (first
    | (go_simp; go_at_call 28; refine (or_call w2.heap.size _ (Lib.compareInt x.1 y.1) (Lib.compareInt x.2 y.2) _ (by show (w2.alloc _).cell? _ = _; rw [cell_of (alloc_at w2 _)]; rfl) (by show (w2.alloc _).cell? _ = _; rw [cell_of (alloc_at w2 _)]; rfl)).mono ?_; rintro e w3 ⟨rfl, rfl⟩)
    | (go_simp; go_at_call 29; with_reducible refine (compare_call _ _ _).mono ?_; rintro e w3 ⟨rfl, rfl⟩))
  all_goals
    go_wp2
    go_ret
    exact ⟨rfl, grow_more HG.out _⟩
end Go.Proofs.Ythpdenmbcjngkaa
