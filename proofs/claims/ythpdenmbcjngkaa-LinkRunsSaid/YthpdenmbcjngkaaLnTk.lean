/- link.pair; (*link.Net).Take of a message that is there, where the places are together. -/
import Derived.Test.YthpdenmbcjngkaaLnTake
namespace Go.Proofs.Ythpdenmbcjngkaa
open Go.RowKit Go.Maps

def pairK (l : LK) : LK := (min l.1 l.2, max l.1 l.2)

set_option maxRecDepth 100000 in
set_option maxHeartbeats 1000000 in
theorem pair_call (a b : Int) (w : World) : Calls Try.prog 24 #[vi a, vi b] w fun e w' => e = .returned (lkV (min a b, max a b)) ∧ Below w.heap.size w w' := by
  have q0 : (w.alloc (.cells #[vi 0, vi 0] 29)).cell? ⟨w.heap.size, 0, none⟩ = some (vi 0) := by rw [cell_of (alloc_at _ _)]; rfl
  have q1 : (w.alloc (.cells #[vi 0, vi 0] 29)).cell? ⟨w.heap.size, 1, none⟩ = some (vi 0) := by rw [cell_of (alloc_at _ _)]; rfl
  have fz := fun j => free_of (alloc_at w (.cells #[vi 0, vi 0] 29)) j
  have HB := Lib.hid ((Below.refl w.heap.size w).alloc (Nat.le_refl _) (.cells #[vi 0, vi 0] 29))
  have hw1 : (w.alloc (.cells #[vi 0, vi 0] 29)).heap.size = w.heap.size + 1 := by simp
  go_enter Try.func24, Try.ntmps24
  go_upto_region 1 with fail
  generalize w.alloc (.cells #[vi 0, vi 0] 29) = w1 at *
  go_wp2_with fail
  · have e1 : min a b = b := by omega
    have e2 : max a b = a := by omega
    rw [e1, e2]
    refine bodyPost_ret (v := lkV (b, a)) (by simp [results, Try.results24, go_sem, q0, q1]) rfl ⟨rfl, (HB.out.setCell (Nat.le_refl _) _).setCell (Nat.le_refl _) _⟩
  · have e1 : min a b = a := by omega
    have e2 : max a b = b := by omega
    rw [e1, e2]
    refine bodyPost_ret (v := lkV (a, b)) (by simp [results, Try.results24, go_sem, q0, q1]) rfl ⟨rfl, (HB.out.setCell (Nat.le_refl _) _).setCell (Nat.le_refl _) _⟩
  · have e1 : min a b = a := by omega
    have e2 : max a b = a := by omega
    rw [e1, e2]
    refine bodyPost_ret (v := lkV (a, a)) (by simp [results, Try.results24, go_sem, q0, q1]) rfl ⟨rfl, (HB.out.setCell (Nat.le_refl _) _).setCell (Nat.le_refl _) _⟩

theorem lookup_apart {w : World} {ma : Nat} {A : List (LK × Bool)} (h : MapA w ma A) {l : LK} (hl : i64 l.1 ∧ i64 l.2) :
    (Instr.lookup 54 (.map (some ma)) (lkV l) false).run Try.prog w = .ok (.bool ((getM A l).getD false)) w := by
  obtain ⟨kl, hkl⟩ := linkKey hl
  have hz : (zeroValue 4).run Try.prog w = .ok (.bool false) w := by kernel_rfl
  have h1 := (h.lookup linkKeyed lkV_inj (t := 54) (e := 4) Try.underlying54 l hkl hz).1
  have e : ((getM A l).map Value.bool).getD (.bool false) = .bool ((getM A l).getD false) := by cases getM A l <;> rfl
  rw [e] at h1
  exact h1

set_option maxRecDepth 100000 in
set_option maxHeartbeats 8000000 in
theorem Take_call {base p mw ma : Nat} {L : Ways} {C : List (LK × Bool)} {n lost : Int} (l : LK) (k : Nat) (bs : List Int) (w : World) (h : NetS base p mw ma L C n lost w) (hbw : base ≤ w.heap.size) (hn : n ≤ 500) (hl : i64 l.1 ∧ i64 l.2) (hk : (conW L l)[k]? = some bs) (hA : (getM C (pairK l)).getD false = false) :
    Calls Try.prog 9 #[.pointer (some ⟨p, 0, none⟩), lkV l, .int .i64 k] w (TakeQ base p mw ma L C n lost l k bs w) := by
  have hlp : i64 (pairK l).1 ∧ i64 (pairK l).2 := by
    obtain ⟨⟨h1, h2⟩, h3, h4⟩ := hl
    unfold pairK i64; simp only; omega
  have HB0 := Lib.hid ((Below.refl w.heap.size w).alloc (Nat.le_refl _) (.cells #[vi l.1, vi l.2] 29))
  have HN0 := Lib.hid (h.later HB0.out)
  have HX0 := Lib.hid (alloc_at w (.cells #[vi l.1, vi l.2] 29))
  have hw0 : (w.alloc (.cells #[vi l.1, vi l.2] 29)).heap.size = w.heap.size + 1 := by simp
  have HKk := Lib.hid hk
  have HAA := Lib.hid hA
  clear h hk hA
  go_enter Try.func9, Try.ntmps9
  go_upto_region 1 with fail
  generalize w.alloc (.cells #[vi l.1, vi l.2] 29) = w0 at *
  have b0 : w0.cell? ⟨w.heap.size, 0, none⟩ = some (vi l.1) := by rw [cell_of HX0.out]; rfl
  have b1 : w0.cell? ⟨w.heap.size, 1, none⟩ = some (vi l.2) := by rw [cell_of HX0.out]; rfl
  go_upto_region 2 with (go_at_call 23; refine (take_call (base := base) l k bs _ HN0.out (by omega) hn hl HKk.out).mono ?_; rintro e w1 ⟨v1, rfl, hmsg, ⟨L', hnet, hc1, hc2⟩, hb1, ht1⟩)
  have HX1 := Lib.hid (ht1 _ _ _ HX0.out (by decide) (by decide))
  have HN1 := Lib.hid hnet
  have HM1 := Lib.hid hmsg
  have HB1 := Lib.hid ((HB0.out.mono hbw).trans hb1)
  have HT1 := Lib.hid (((Stays.refl w).later HB0.out).trans ht1)
  have HC1 := Lib.hid hc1
  have HC2 := Lib.hid hc2
  have hbs1 := hb1.size
  clear hmsg hnet hc1 hc2 hb1 ht1 b0 b1
  go_cut [29] (fun r wx => r = .bool false ∧ Below w1.heap.size w1 wx)
  case first =>
    have b0 : w1.drew.cell? ⟨w.heap.size, 0, none⟩ = some (vi l.1) := by show w1.cell? _ = _; rw [cell_of HX1.out]; rfl
    have b1 : w1.drew.cell? ⟨w.heap.size, 1, none⟩ = some (vi l.2) := by show w1.cell? _ = _; rw [cell_of HX1.out]; rfl
    have p1 : w1.drew.cell? ⟨p, 1, none⟩ = some (.map (some ma)) := by show w1.cell? _ = _; rw [cell_of HN1.out.mem.blk]; rfl
    have HBd := Lib.hid ((Below.refl w1.heap.size w1).drew)
    go_region_held3 (fun w' : World => w'.cell? ⟨p, 1, none⟩ = some (.map (some ma)) ∧ w'.cell? ⟨w.heap.size, 0, none⟩ = some (vi l.1) ∧ w'.cell? ⟨w.heap.size, 1, none⟩ = some (vi l.2)) (first | exact ⟨p1, b0, b1⟩ | exact ⟨p1', b0', b1'⟩)
      (first | (go_at_call 24; refine (pair_call _ _ _).mono ?_; rintro e w3 ⟨rfl, hb3⟩; have p1' := cell_later hb3 p1; have b0' := cell_later hb3 b0; have b1' := cell_later hb3 b1; have HB3 := Lib.hid (HBd.out.trans hb3); have hlk : (Instr.lookup 54 (.map (some ma)) (lkV (min l.1 l.2, max l.1 l.2)) false).run Try.prog w3 = .ok (.bool false) w3 := (by have h' := lookup_apart (HN1.out.mem.apart.below HB3.out HN1.out.mem.apart.lt) hlp; rw [HAA.out] at h'; exact h'); clear hb3))
    all_goals
      go_wp2
      go_meet
      exact ⟨rfl, HB3.out⟩
  case rest =>
    obtain ⟨wx, rfl⟩ : ∃ wx : World, wx = wc := ⟨_, rfl⟩
    obtain ⟨rfl, hbx⟩ := hcut
    go_wp2_with fail
    go_ret2
    exact ⟨v1, rfl, own_below HM1.out hbx, ⟨L', HN1.out.later hbx, HC1.out, HC2.out⟩, HB1.out.trans (hbx.mono (by omega)), HT1.out.later hbx⟩
end Go.Proofs.Ythpdenmbcjngkaa
