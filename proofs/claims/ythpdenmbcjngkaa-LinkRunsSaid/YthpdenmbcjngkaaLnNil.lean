/- The methods of a nil net; Send where the net is full. -/
import Derived.Test.YthpdenmbcjngkaaLnLinks
import Derived.Test.YthpdenmbcjngkaaLnTk
namespace Go.Proofs.Ythpdenmbcjngkaa
open Go.RowKit Go.Maps

section
set_option maxRecDepth 100000
set_option maxHeartbeats 1000000
theorem nil_len (l : LK) (w : World) : Calls Try.prog 21 #[.pointer none, lkV l] w fun e w' => e = .returned (vi 0) ∧ Below w.heap.size w w' := by
  go_enter Try.func21, Try.ntmps21
  go_wp2_with fail
  go_ret
  exact ⟨rfl, (Below.refl w.heap.size w).alloc (Nat.le_refl _) _⟩
theorem nil_flying (w : World) : Calls Try.prog 10 #[.pointer none] w fun e w' => e = .returned (vi 0) ∧ Below w.heap.size w w' := by
  go_enter Try.func10, Try.ntmps10
  go_wp2_with fail
  go_ret
  exact ⟨rfl, Below.refl _ _⟩
theorem nil_lost (w : World) : Calls Try.prog 12 #[.pointer none] w fun e w' => e = .returned (vi 0) ∧ Below w.heap.size w w' := by
  go_enter Try.func12, Try.ntmps12
  go_wp2_with fail
  go_ret
  exact ⟨rfl, Below.refl _ _⟩
theorem nil_links (w : World) : Calls Try.prog 11 #[.pointer none] w fun e w' => e = .returned (.slice none 0 0) ∧ Below w.heap.size w w' := by
  go_enter Try.func11, Try.ntmps11
  go_wp2_with fail
  go_ret
  exact ⟨rfl, Below.refl _ _⟩
theorem nil_heal (w : World) : Calls Try.prog 20 #[.pointer none] w fun e w' => e = .returned (.tuple #[]) ∧ Below w.heap.size w w' := by
  go_enter Try.func20, Try.ntmps20
  go_wp2_with fail
  go_end0
  exact ⟨rfl, Below.refl _ _⟩
theorem nil_cut (a b : Int) (ap : Bool) (w : World) : Calls Try.prog 19 #[.pointer none, vi a, vi b, .bool ap] w fun e w' => e = .returned (.tuple #[]) ∧ Below w.heap.size w w' := by
  go_enter Try.func19, Try.ntmps19
  go_wp2_with fail
  refine bodyPost_ret (v := .tuple #[]) (by simp [results, Try.results19, go_sem]) rfl ⟨rfl, Below.refl _ _⟩
theorem nil_send (l : LK) (v : Value) (w : World) : Calls Try.prog 8 #[.pointer none, lkV l, v] w fun e w' => e = .returned (vi 1) ∧ Below w.heap.size w w' := by
  go_enter Try.func8, Try.ntmps8
  go_wp2_with fail
  go_ret
  exact ⟨rfl, (Below.refl w.heap.size w).alloc (Nat.le_refl _) _⟩
theorem nil_take1 (l : LK) (w : World) : Calls Try.prog 23 #[.pointer none, lkV l, vi 0] w fun e w' => e = .returned (.tuple #[.slice none 0 0, .bool false]) ∧ Below w.heap.size w w' := by
  have HB := Lib.hid ((Below.refl w.heap.size w).alloc (Nat.le_refl _) (.cells #[vi l.1, vi l.2] 29))
  have HX := Lib.hid (alloc_at w (.cells #[vi l.1, vi l.2] 29))
  go_enter Try.func23, Try.ntmps23
  go_upto_region 1 with fail
  generalize w.alloc (.cells #[vi l.1, vi l.2] 29) = w0 at *
  have b0 : w0.cell? ⟨w.heap.size, 0, none⟩ = some (vi l.1) := by rw [cell_of HX.out]; rfl
  have b1 : w0.cell? ⟨w.heap.size, 1, none⟩ = some (vi l.2) := by rw [cell_of HX.out]; rfl
  go_wp2_with (go_at_call 21; refine (nil_len l _).mono ?_; rintro e w1 ⟨rfl, hb1⟩)
  go_ret2
  exact ⟨rfl, HB.out.trans (hb1.mono HB.out.size)⟩
theorem nil_take (l : LK) (w : World) : Calls Try.prog 9 #[.pointer none, lkV l, vi 0] w fun e w' => e = .returned (.tuple #[.slice none 0 0, .bool false]) ∧ Below w.heap.size w w' := by
  have HB := Lib.hid ((Below.refl w.heap.size w).alloc (Nat.le_refl _) (.cells #[vi l.1, vi l.2] 29))
  have HX := Lib.hid (alloc_at w (.cells #[vi l.1, vi l.2] 29))
  go_enter Try.func9, Try.ntmps9
  go_upto_region 1 with fail
  generalize w.alloc (.cells #[vi l.1, vi l.2] 29) = w0 at *
  have b0 : w0.cell? ⟨w.heap.size, 0, none⟩ = some (vi l.1) := by rw [cell_of HX.out]; rfl
  have b1 : w0.cell? ⟨w.heap.size, 1, none⟩ = some (vi l.2) := by rw [cell_of HX.out]; rfl
  go_upto_region 2 with (go_at_call 23; refine (nil_take1 l _).mono ?_; rintro e w1 ⟨rfl, hb1⟩)
  go_quiet (fail)
  go_wp2
  go_ret2
  exact ⟨rfl, below_drewN (HB.out.trans (hb1.mono HB.out.size)) _⟩
theorem nil_drop (l : LK) (w : World) : Calls Try.prog 17 #[.pointer none, lkV l, vi 0] w fun e w' => e = .returned (.bool false) ∧ Below w.heap.size w w' := by
  have HB := Lib.hid ((Below.refl w.heap.size w).alloc (Nat.le_refl _) (.cells #[vi l.1, vi l.2] 29))
  have HX := Lib.hid (alloc_at w (.cells #[vi l.1, vi l.2] 29))
  go_enter Try.func17, Try.ntmps17
  go_upto_region 1 with fail
  generalize w.alloc (.cells #[vi l.1, vi l.2] 29) = w0 at *
  have b0 : w0.cell? ⟨w.heap.size, 0, none⟩ = some (vi l.1) := by rw [cell_of HX.out]; rfl
  have b1 : w0.cell? ⟨w.heap.size, 1, none⟩ = some (vi l.2) := by rw [cell_of HX.out]; rfl
  go_wp2_with (go_at_call 23; refine (nil_take1 l _).mono ?_; rintro e w1 ⟨rfl, hb1⟩)
  go_ret
  exact ⟨rfl, HB.out.trans (hb1.mono HB.out.size)⟩
theorem nil_twice (l : LK) (w : World) : Calls Try.prog 18 #[.pointer none, lkV l, vi 0] w fun e w' => e = .returned (.bool false) ∧ Below w.heap.size w w' := by
  have HB := Lib.hid ((Below.refl w.heap.size w).alloc (Nat.le_refl _) (.cells #[vi l.1, vi l.2] 29))
  have HX := Lib.hid (alloc_at w (.cells #[vi l.1, vi l.2] 29))
  go_enter Try.func18, Try.ntmps18
  go_upto_region 1 with fail
  generalize w.alloc (.cells #[vi l.1, vi l.2] 29) = w0 at *
  have b0 : w0.cell? ⟨w.heap.size, 0, none⟩ = some (vi l.1) := by rw [cell_of HX.out]; rfl
  have b1 : w0.cell? ⟨w.heap.size, 1, none⟩ = some (vi l.2) := by rw [cell_of HX.out]; rfl
  go_wp2_with (go_at_call 21; refine (nil_len l _).mono ?_; rintro e w1 ⟨rfl, hb1⟩)
  go_ret
  exact ⟨rfl, HB.out.trans (hb1.mono HB.out.size)⟩

/-- Twice where the net is full. -/
theorem twice_full {base p mw ma : Nat} {L : Ways} {C : List (LK × Bool)} {n lost : Int} (l : LK) (k : Int) (w : World) (h : NetB base p mw ma L C n lost w) (hn : 500 ≤ n) (hl : i64 l.1 ∧ i64 l.2) :
    Calls Try.prog 18 #[.pointer (some ⟨p, 0, none⟩), lkV l, vi k] w fun e w' => e = .returned (.bool false) ∧ Below w.heap.size w w' := by
  have HB := Lib.hid ((Below.refl w.heap.size w).alloc (Nat.le_refl _) (.cells #[vi l.1, vi l.2] 29))
  have HX := Lib.hid (alloc_at w (.cells #[vi l.1, vi l.2] 29))
  have HN := Lib.hid (h.later HB.out)
  clear h
  go_enter Try.func18, Try.ntmps18
  go_upto_region 1 with fail
  generalize w.alloc (.cells #[vi l.1, vi l.2] 29) = w0 at *
  have b0 : w0.cell? ⟨w.heap.size, 0, none⟩ = some (vi l.1) := by rw [cell_of HX.out]; rfl
  have b1 : w0.cell? ⟨w.heap.size, 1, none⟩ = some (vi l.2) := by rw [cell_of HX.out]; rfl
  by_cases h0 : k < 0
  · go_wp2_with fail
    go_ret
    exact ⟨rfl, HB.out⟩
  · by_cases h1 : ((conW L l).length : Int) ≤ k
    · go_wp2_with (go_at_call 21; refine (len_call l _ HN.out hl).mono ?_; rintro e w1 ⟨rfl, hb1⟩)
      go_ret
      exact ⟨rfl, HB.out.trans (hb1.mono HB.out.size)⟩
    · go_wp2_with (go_at_call 21; refine (len_call l _ HN.out hl).mono ?_; rintro e w1 ⟨rfl, hb1⟩; have q2 : w1.cell? ⟨p, 2, none⟩ = some (vi n) := (by rw [cell_of (HN.out.later hb1).blk]; rfl))
      go_ret
      exact ⟨rfl, HB.out.trans (hb1.mono HB.out.size)⟩

/-- Send where the net is full. -/
theorem send_full {base p mw ma : Nat} {L : Ways} {C : List (LK × Bool)} {n lost : Int} (l : LK) (v : Value) (w : World) (h : NetS base p mw ma L C n lost w) (hbw : base ≤ w.heap.size) (hn : 500 ≤ n) (hlo : 0 ≤ lost) (hlo2 : lost < 4611686018427387904) :
    Calls Try.prog 8 #[.pointer (some ⟨p, 0, none⟩), lkV l, v] w fun e w' => e = .returned (vi 40) ∧ NetS base p mw ma L C n (lost + 1) w' ∧ Below base w w' ∧ Stays w w' := by
  have HB := Lib.hid ((Below.refl w.heap.size w).alloc (Nat.le_refl _) (.cells #[vi l.1, vi l.2] 29))
  have HN := Lib.hid (h.later HB.out)
  have hwr : IntKind.i64.wrap (lost + 1) = lost + 1 := IntWalk.i64_in _ (by omega)
  clear h
  go_enter Try.func8, Try.ntmps8
  go_upto_region 1 with fail
  generalize w.alloc (.cells #[vi l.1, vi l.2] 29) = w0 at *
  have q2 : w0.cell? ⟨p, 2, none⟩ = some (vi n) := by rw [cell_of HN.out.mem.blk]; rfl
  have q3 : w0.cell? ⟨p, 3, none⟩ = some (vi lost) := by rw [cell_of HN.out.mem.blk]; rfl
  have z3 : w0.frozen? ⟨p, 3, none⟩ = false := free_of HN.out.mem.blk 3
  go_wp2_with fail
  go_ret
  have hg9 : w0.grownBy (w0.setCell ⟨p, 3, none⟩ (vi (lost + 1))) (some p) := ⟨rfl, rfl, rfl, by simp, fun k _ hk => heap_setCell_other w0 ⟨p, 3, none⟩ k _ (fun e => hk (by simp [e]))⟩
  exact ⟨rfl, ⟨HN.out.mem.numbers (lost' := lost + 1) hg9 (by rw [heap_setCell_same w0 p 3 _ _ _ HN.out.mem.blk]; rfl), HN.out.ne, HN.out.cnt⟩, (HB.out.mono hbw).setCell HN.out.mem.bp _, ((Stays.refl w).later HB.out).grown hg9 (vac_net HN.out.mem.blk)⟩
end
end Go.Proofs.Ythpdenmbcjngkaa
