/- (*link.Net).Len. -/
import Derived.Test.YthpdenmbcjngkaaLnDel
namespace Go.Proofs.Ythpdenmbcjngkaa
open Go.RowKit Go.Maps

theorem lookup_way {w : World} {mw : Nat} {L : Ways} (h : MapW w mw L) {l : LK} (hl : i64 l.1 ∧ i64 l.2) :
    (Instr.lookup 53 (.map (some mw)) (lkV l) false).run Try.prog w = .ok (curW L l).1 w := by
  obtain ⟨kl, hkl⟩ := linkKey hl
  have h1 := (h.lookup linkKeyed lkV_inj (t := 53) (e := 57) Try.underlying53 l hkl (zero_row w)).1
  have e : ((getM L l).map (fun x : Way => x.1)).getD (.slice none 0 0) = (curW L l).1 := by unfold curW; cases getM L l <;> rfl
  rw [e] at h1
  exact h1
theorem WayS.shape {base : Nat} {W : World} {x : Way} (h : WayS base W x) : ∃ a c, x.1 = .slice a x.2.length c := by
  rcases h.row.2 with ⟨hv, h0⟩ | ⟨g, cap, cur, hv, _⟩
  · exact ⟨none, 0, by rw [hv, h0]⟩
  · exact ⟨_, _, hv⟩

set_option maxRecDepth 100000 in
set_option maxHeartbeats 4000000 in
theorem len_call {base p mw ma : Nat} {L : Ways} {C : List (LK × Bool)} {n lost : Int} (l : LK) (w : World) (h : NetB base p mw ma L C n lost w) (hl : i64 l.1 ∧ i64 l.2) :
    Calls Try.prog 21 #[.pointer (some ⟨p, 0, none⟩), lkV l] w fun e w' => e = .returned (vi (conW L l).length) ∧ Below w.heap.size w w' := by
  have HB0 := Lib.hid ((Below.refl w.heap.size w).alloc (Nat.le_refl _) (.cells #[vi l.1, vi l.2] 29))
  have HN0 := Lib.hid (h.later HB0.out)
  have HX0 := Lib.hid (alloc_at w (.cells #[vi l.1, vi l.2] 29))
  obtain ⟨a, c, hx⟩ := (h.curS l).shape
  have HCL := Lib.hid (show (conW L l).length = (curW L l).2.length by rw [conW_cur]; simp)
  clear h
  go_enter Try.func21, Try.ntmps21
  go_upto_region 1 with fail
  generalize w.alloc (.cells #[vi l.1, vi l.2] 29) = w0 at *
  have p0 : w0.cell? ⟨p, 0, none⟩ = some (.map (some mw)) := by rw [cell_of HN0.out.blk]; rfl
  have b0 : w0.cell? ⟨w.heap.size, 0, none⟩ = some (vi l.1) := by rw [cell_of HX0.out]; rfl
  have b1 : w0.cell? ⟨w.heap.size, 1, none⟩ = some (vi l.2) := by rw [cell_of HX0.out]; rfl
  have hlk : ∀ q, (Instr.lookup 53 (.map (some mw)) (lkV l) false).run Try.prog (w0.drewN q) = .ok (.slice a (curW L l).2.length c) (w0.drewN q) := fun q => by
    rw [← hx]; exact lookup_way (HN0.out.ways.below (below_drewN (Below.refl w0.heap.size w0) q) HN0.out.ways.lt) hl
  clear hx
  generalize (curW L l).2.length = m at *
  go_wp2
  go_quiet (fail)
  go_wp2
  go_ret
  exact ⟨by rw [HCL.out]; rfl, below_drewN HB0.out _⟩
end Go.Proofs.Ythpdenmbcjngkaa
