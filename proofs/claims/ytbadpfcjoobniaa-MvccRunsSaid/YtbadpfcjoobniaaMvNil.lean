/- The methods of a nil store. -/
import Derived.Test.YtbadpfcjoobniaaMvPrep2
namespace Go.Proofs.Ytbadpfcjoobniaa
open Go.RowKit Go.Maps

section
set_option maxRecDepth 100000
set_option maxHeartbeats 1000000
theorem nil_versions (key : Int) (w : World) : Calls Try.prog 17 #[.pointer none, vi key] w fun e w' => e = .returned (.slice none 0 0) ∧ Below w.heap.size w w' := by
  go_enter Try.func17, Try.ntmps17
  go_wp2_with fail
  go_ret
  exact ⟨rfl, Below.refl _ _⟩
theorem nil_waits (w : World) : Calls Try.prog 13 #[.pointer none] w fun e w' => e = .returned (.slice none 0 0) ∧ Below w.heap.size w w' := by
  go_enter Try.func13, Try.ntmps13
  go_wp2_with fail
  go_ret
  exact ⟨rfl, Below.refl _ _⟩
theorem nil_prepare (x : RV) (w : World) : Calls Try.prog 12 #[.pointer none, rdyV x] w fun e w' => e = .returned (.tuple #[vi 0, vi 1]) ∧ Below w.heap.size w w' := by
  unfold rdyV rdyC
  go_enter Try.func12, Try.ntmps12
  go_wp2_with fail
  go_ret2
  exact ⟨rfl, (Below.refl w.heap.size w).alloc (Nat.le_refl _) _⟩
end

theorem prep1_such {r : RV} {look : Bool} {rb lb : Nat} {R : RdyL} {w : World} (hR : ∀ x ∈ R, RdyS w x.2) (hr : RdyS w r) (hb : w.heap[rb]? = some (.cells (rdyC r) 29)) (hl : w.cell? ⟨lb, 0, none⟩ = some (.bool look)) :
    SuchAt 36 #[.pointer (some ⟨rb, 0, none⟩), .pointer (some ⟨lb, 0, none⟩)] (wayB r.r look) R w :=
  fun x hx W hW => prep1_call r x.2 look rb lb W (hr.later hW) ((hR x hx).later hW) ((hW.block rb (Array.getElem?_eq_some_iff.1 hb).1).trans hb) (cell_later hW hl)
end Go.Proofs.Ytbadpfcjoobniaa
