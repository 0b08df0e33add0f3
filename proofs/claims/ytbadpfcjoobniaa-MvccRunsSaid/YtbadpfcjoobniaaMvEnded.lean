/- (*mvcc.Store).Versions, Ended; the methods of a nil store. -/
import Derived.Test.YtbadpfcjoobniaaMvClone
namespace Go.Proofs.Ytbadpfcjoobniaa
open Go.RowKit Go.Maps

set_option maxRecDepth 100000 in
set_option maxHeartbeats 2000000 in
theorem versions_call {base p mk mr me : Nat} {serial : Bool} {bugs : Int} {K : KeysL} {R : RdyL} {E : EndL} (key : Int) (w : World) (h : MvS base p mk mr me serial bugs K R E w) (hk : i64 key) (hl : (verOf K key).length ≤ 1048576) :
    Calls Try.prog 17 #[.pointer (some ⟨p, 0, none⟩), vi key] w fun e w' => ∃ v, e = .returned v ∧ OwV w.heap.size w' v (verOf K key) ∧ Below w.heap.size w w' := by
  have hlk := lookup_keys h.keys hk
  have p2 : w.cell? ⟨p, 2, none⟩ = some (.map (some mk)) := by rw [cell_of h.blk]; rfl
  have HR := Lib.hid (h.cur key)
  unfold verOf at *
  generalize curK K key = kv at *
  obtain ⟨kv1, vs⟩ := kv
  simp only at hlk hl
  clear h
  go_enter Try.func17, Try.ntmps17
  go_wp2_with (go_at_call 49; refine (cloneV_call kv1 vs _ HR.out hl).mono ?_; rintro e w1 ⟨v1, rfl, ho1, hb1⟩)
  go_ret
  exact ⟨v1, rfl, ho1, hb1⟩

theorem zero_end (w : World) : (zeroValue 31).run Try.prog w = .ok (.agg #[vi 0, .bool false, vi 0]) w := by kernel_rfl
theorem lookup_ends {w : World} {me : Nat} {E : EndL} (h : MapE w me E) {txn : Int} (hk : i64 txn) :
    (Instr.lookup 93 (.map (some me)) (vi txn) true).run Try.prog w = .ok (.tuple #[.agg #[vi ((getM E txn).getD ⟨0, false, 0⟩).txn, .bool ((getM E txn).getD ⟨0, false, 0⟩).commit, vi ((getM E txn).getD ⟨0, false, 0⟩).at_], .bool (getM E txn).isSome]) w := by
  obtain ⟨kl, hkl⟩ := intKey hk
  have h1 := (h.lookup intKeyed vi_inj (t := 93) (e := 31) Try.underlying93 txn hkl (zero_end w)).2
  have e : ((getM E txn).map endV).getD (.agg #[vi 0, .bool false, vi 0]) = endV ((getM E txn).getD ⟨0, false, 0⟩) := by cases getM E txn <;> rfl
  rw [e] at h1
  exact h1

set_option maxRecDepth 100000 in
set_option maxHeartbeats 2000000 in
theorem ended_call {base p mk mr me : Nat} {serial : Bool} {bugs : Int} {K : KeysL} {R : RdyL} {E : EndL} (txn : Int) (w : World) (h : MvS base p mk mr me serial bugs K R E w) (hk : i64 txn) :
    Calls Try.prog 21 #[.pointer (some ⟨p, 0, none⟩), vi txn] w fun e w' => e = .returned (.tuple #[endV ((getM E txn).getD ⟨0, false, 0⟩), .bool (getM E txn).isSome]) ∧ Below w.heap.size w w' := by
  have HB := Lib.hid ((Below.refl w.heap.size w).alloc (Nat.le_refl _) (.cells #[vi 0, .bool false, vi 0] 31))
  have HM := Lib.hid (h.later HB.out)
  have HX := Lib.hid (alloc_at w (.cells #[vi 0, .bool false, vi 0] 31))
  clear h
  go_enter Try.func21, Try.ntmps21
  go_upto_region 1 with fail
  generalize w.alloc (.cells #[vi 0, .bool false, vi 0] 31) = w1 at *
  have hlk := lookup_ends HM.out.ends hk
  have p4 : w1.cell? ⟨p, 4, none⟩ = some (.map (some me)) := by rw [cell_of HM.out.blk]; rfl
  have z0 : ∀ o, w1.frozen? ⟨w.heap.size, o, none⟩ = false := fun o => free_of HX.out o
  obtain ⟨x, hx⟩ : ∃ x, (getM E txn).getD ⟨0, false, 0⟩ = x := ⟨_, rfl⟩
  obtain ⟨b, hb⟩ : ∃ b, (getM E txn).isSome = b := ⟨_, rfl⟩
  rw [hx, hb] at hlk
  have HXB := Lib.hid (show ((getM E txn).getD ⟨0, false, 0⟩ = x ∧ (getM E txn).isSome = b) from ⟨hx, hb⟩)
  clear hx hb
  have HX2 := Lib.hid (alloc_at w1 (.cells #[vi x.txn, .bool x.commit, vi x.at_] 31))
  have hlt := (Array.getElem?_eq_some_iff.1 HX.out).1
  have HB2 := Lib.hid (HB.out.alloc HB.out.size (.cells #[vi x.txn, .bool x.commit, vi x.at_] 31))
  have HX1 := Lib.hid ((((Below.refl w1.heap.size w1).alloc (Nat.le_refl _) (.cells #[vi x.txn, .bool x.commit, vi x.at_] 31)).block w.heap.size hlt).trans HX.out)
  go_upto_region 4 with fail
  clear hlk p4 z0
  generalize w1.alloc (.cells #[vi x.txn, .bool x.commit, vi x.at_] 31) = w2 at *
  have q0 : w2.cell? ⟨w1.heap.size, 0, none⟩ = some (vi x.txn) := by rw [cell_of HX2.out]; rfl
  have q1 : w2.cell? ⟨w1.heap.size, 1, none⟩ = some (.bool x.commit) := by rw [cell_of HX2.out]; rfl
  have q2 : w2.cell? ⟨w1.heap.size, 2, none⟩ = some (vi x.at_) := by rw [cell_of HX2.out]; rfl
  have r0 : w2.cell? ⟨w.heap.size, 0, none⟩ = some (vi 0) := by rw [cell_of HX1.out]; rfl
  have r1 : w2.cell? ⟨w.heap.size, 1, none⟩ = some (.bool false) := by rw [cell_of HX1.out]; rfl
  have r2 : w2.cell? ⟨w.heap.size, 2, none⟩ = some (vi 0) := by rw [cell_of HX1.out]; rfl
  have z0 : w2.frozen? ⟨w.heap.size, 0, none⟩ = false := free_of HX1.out 0
  have z1 : w2.frozen? ⟨w.heap.size, 1, none⟩ = false := free_of HX1.out 1
  have z2 : w2.frozen? ⟨w.heap.size, 2, none⟩ = false := free_of HX1.out 2
  go_wp2_with fail
  refine bodyPost_ret (v := .tuple #[endV x, .bool b]) (by simp [results, Try.results21, go_sem, q0, q1, q2, r0, r1, r2, endV]) rfl ⟨by rw [HXB.out.1, HXB.out.2], ((HB2.out.setCell (Nat.le_refl _) _).setCell (Nat.le_refl _) _).setCell (Nat.le_refl _) _⟩
end Go.Proofs.Ytbadpfcjoobniaa
