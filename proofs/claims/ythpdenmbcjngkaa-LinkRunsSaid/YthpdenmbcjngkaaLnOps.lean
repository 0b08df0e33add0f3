/- The net's operations where there is no such message; Take that is lost; Drop; Twice; Cut; Heal. -/
import Derived.Test.YthpdenmbcjngkaaLnNil
namespace Go.Proofs.Ythpdenmbcjngkaa
open Go.RowKit Go.Maps Go.MapKept
open Go.ChangeMaps (setBlock)

/-- clear(m). -/
theorem MapT.clear {κ ν : Type} [DecidableEq κ] {P : Program} {k e t : TypeId} {eK : κ → Value} {eV : ν → Value} {w : World} {b : Nat} {L : List (κ × ν)} (ht : P.underlying t = some (.map k e)) (h : MapT P k eK eV w b L) (ty : TypeId) :
    ∃ w', (Builtin.clear_ #[t] ty #[.map (some b)]).run P w = .ok (.tuple #[]) w' ∧ MapT P k eK eV w' b ([] : List (κ × ν)) ∧ w.grownBy w' (some b) ∧ w'.heap.size = w.heap.size := by
  obtain ⟨es, clock, hb, hs, hk, hL⟩ := h
  refine ⟨setBlock w b (.map #[] clock), ?_, ⟨#[], clock, ChangeMaps.heap_setBlock_same hb _, ⟨by simp, by simp, by simp⟩, by simp, rfl⟩, ⟨rfl, rfl, rfl, by simp [setBlock], fun i _ hi => ChangeMaps.heap_setBlock_other hb _ (fun e => hi (by rw [e]))⟩, by simp [setBlock]⟩
  simp [Builtin.clear_, run_underlying ht, MapKept.run_getObj_map hb, MapKept.run_setObj_map _ hb, Result.andThen, setBlock]

/-- A net whose own block was left, its map of places written. -/
theorem NetB.cuts {base p mw ma : Nat} {L : Ways} {C C' : List (LK × Bool)} {n lost : Int} {A B : World} (h : NetB base p mw ma L C n lost A) (hg : A.grownBy B (some ma)) (hM : MapA B ma C') : NetB base p mw ma L C' n lost B := by
  obtain ⟨es1, c1, ho1⟩ := h.ways.obj
  obtain ⟨es2, c2, ho2⟩ := h.apart.obj
  have hp : p ≠ ma := fun e => by rw [← e, h.blk] at ho2; cases ho2
  refine ⟨(hg.block p (Array.getElem?_eq_some_iff.1 h.blk).1 (by simpa using hp)).trans h.blk, h.ways.kept hg (by have := h.wa; simp; omega), hM, fun x hx => (h.way x hx).kept hg ⟨_, ho2, fun cs => by simp⟩ (fun e => row_not (h.way x hx).row ho2 (fun cs => by simp) e.symm), h.rows, h.bp, h.bw, h.ba, h.wa⟩

/-- There is no k-th message. -/
def NoneAt (L : Ways) (l : LK) (k : Int) : Prop := k < 0 ∨ ((conW L l).length : Int) ≤ k
theorem none_or (L : Ways) (l : LK) (k : Int) : NoneAt L l k ∨ ∃ (j : Nat) (bs : List Int), k = (j : Int) ∧ (conW L l)[j]? = some bs := by
  by_cases h : NoneAt L l k
  · exact .inl h
  · have h0 : 0 ≤ k ∧ k < ((conW L l).length : Int) := by unfold NoneAt at h; omega
    obtain ⟨x, hx⟩ := some_at (l := conW L l) (k := k.toNat) (by omega)
    exact .inr ⟨k.toNat, x, by omega, hx⟩

section
set_option maxRecDepth 100000
set_option maxHeartbeats 4000000
theorem take_none {base p mw ma : Nat} {L : Ways} {C : List (LK × Bool)} {n lost : Int} (l : LK) (k : Int) (w : World) (h : NetB base p mw ma L C n lost w) (hl : i64 l.1 ∧ i64 l.2) (hk : NoneAt L l k) :
    Calls Try.prog 23 #[.pointer (some ⟨p, 0, none⟩), lkV l, vi k] w fun e w' => e = .returned (.tuple #[.slice none 0 0, .bool false]) ∧ Below w.heap.size w w' := by
  have HB := Lib.hid ((Below.refl w.heap.size w).alloc (Nat.le_refl _) (.cells #[vi l.1, vi l.2] 29))
  have HX := Lib.hid (alloc_at w (.cells #[vi l.1, vi l.2] 29))
  have HN := Lib.hid (h.later HB.out)
  have HK := Lib.hid hk
  clear h hk
  go_enter Try.func23, Try.ntmps23
  go_upto_region 1 with fail
  generalize w.alloc (.cells #[vi l.1, vi l.2] 29) = w0 at *
  have b0 : w0.cell? ⟨w.heap.size, 0, none⟩ = some (vi l.1) := by rw [cell_of HX.out]; rfl
  have b1 : w0.cell? ⟨w.heap.size, 1, none⟩ = some (vi l.2) := by rw [cell_of HX.out]; rfl
  by_cases h0 : k < 0
  · go_wp2_with fail
    go_ret2
    exact ⟨rfl, HB.out⟩
  · have h1 : ((conW L l).length : Int) ≤ k := by
      rcases HK.out with h | h
      · exact absurd h h0
      · exact h
    go_wp2_with (go_at_call 21; refine (len_call l _ HN.out hl).mono ?_; rintro e w1 ⟨rfl, hb1⟩)
    go_ret2
    exact ⟨rfl, HB.out.trans (hb1.mono HB.out.size)⟩

theorem Take_none {base p mw ma : Nat} {L : Ways} {C : List (LK × Bool)} {n lost : Int} (l : LK) (k : Int) (w : World) (h : NetB base p mw ma L C n lost w) (hl : i64 l.1 ∧ i64 l.2) (hk : NoneAt L l k) :
    Calls Try.prog 9 #[.pointer (some ⟨p, 0, none⟩), lkV l, vi k] w fun e w' => e = .returned (.tuple #[.slice none 0 0, .bool false]) ∧ Below w.heap.size w w' := by
  have HB := Lib.hid ((Below.refl w.heap.size w).alloc (Nat.le_refl _) (.cells #[vi l.1, vi l.2] 29))
  have HX := Lib.hid (alloc_at w (.cells #[vi l.1, vi l.2] 29))
  have HN := Lib.hid (h.later HB.out)
  have HK := Lib.hid hk
  clear h hk
  go_enter Try.func9, Try.ntmps9
  go_upto_region 1 with fail
  generalize w.alloc (.cells #[vi l.1, vi l.2] 29) = w0 at *
  have b0 : w0.cell? ⟨w.heap.size, 0, none⟩ = some (vi l.1) := by rw [cell_of HX.out]; rfl
  have b1 : w0.cell? ⟨w.heap.size, 1, none⟩ = some (vi l.2) := by rw [cell_of HX.out]; rfl
  go_upto_region 2 with (go_at_call 23; refine (take_none l k _ HN.out hl HK.out).mono ?_; rintro e w1 ⟨rfl, hb1⟩)
  go_quiet (fail)
  go_wp2
  go_ret2
  exact ⟨rfl, below_drewN (HB.out.trans (hb1.mono HB.out.size)) _⟩

theorem drop_none {base p mw ma : Nat} {L : Ways} {C : List (LK × Bool)} {n lost : Int} (l : LK) (k : Int) (w : World) (h : NetB base p mw ma L C n lost w) (hl : i64 l.1 ∧ i64 l.2) (hk : NoneAt L l k) :
    Calls Try.prog 17 #[.pointer (some ⟨p, 0, none⟩), lkV l, vi k] w fun e w' => e = .returned (.bool false) ∧ Below w.heap.size w w' := by
  have HB := Lib.hid ((Below.refl w.heap.size w).alloc (Nat.le_refl _) (.cells #[vi l.1, vi l.2] 29))
  have HX := Lib.hid (alloc_at w (.cells #[vi l.1, vi l.2] 29))
  have HN := Lib.hid (h.later HB.out)
  have HK := Lib.hid hk
  clear h hk
  go_enter Try.func17, Try.ntmps17
  go_upto_region 1 with fail
  generalize w.alloc (.cells #[vi l.1, vi l.2] 29) = w0 at *
  have b0 : w0.cell? ⟨w.heap.size, 0, none⟩ = some (vi l.1) := by rw [cell_of HX.out]; rfl
  have b1 : w0.cell? ⟨w.heap.size, 1, none⟩ = some (vi l.2) := by rw [cell_of HX.out]; rfl
  go_wp2_with (go_at_call 23; refine (take_none l k _ HN.out hl HK.out).mono ?_; rintro e w1 ⟨rfl, hb1⟩)
  go_ret
  exact ⟨rfl, HB.out.trans (hb1.mono HB.out.size)⟩

theorem twice_none {base p mw ma : Nat} {L : Ways} {C : List (LK × Bool)} {n lost : Int} (l : LK) (k : Int) (w : World) (h : NetB base p mw ma L C n lost w) (hl : i64 l.1 ∧ i64 l.2) (hk : NoneAt L l k) :
    Calls Try.prog 18 #[.pointer (some ⟨p, 0, none⟩), lkV l, vi k] w fun e w' => e = .returned (.bool false) ∧ Below w.heap.size w w' := by
  have HB := Lib.hid ((Below.refl w.heap.size w).alloc (Nat.le_refl _) (.cells #[vi l.1, vi l.2] 29))
  have HX := Lib.hid (alloc_at w (.cells #[vi l.1, vi l.2] 29))
  have HN := Lib.hid (h.later HB.out)
  have HK := Lib.hid hk
  clear h hk
  go_enter Try.func18, Try.ntmps18
  go_upto_region 1 with fail
  generalize w.alloc (.cells #[vi l.1, vi l.2] 29) = w0 at *
  have b0 : w0.cell? ⟨w.heap.size, 0, none⟩ = some (vi l.1) := by rw [cell_of HX.out]; rfl
  have b1 : w0.cell? ⟨w.heap.size, 1, none⟩ = some (vi l.2) := by rw [cell_of HX.out]; rfl
  by_cases h0 : k < 0
  · go_wp2_with fail
    go_ret
    exact ⟨rfl, HB.out⟩
  · have h1 : ((conW L l).length : Int) ≤ k := by
      rcases HK.out with h | h
      · exact absurd h h0
      · exact h
    go_wp2_with (go_at_call 21; refine (len_call l _ HN.out hl).mono ?_; rintro e w1 ⟨rfl, hb1⟩)
    go_ret
    exact ⟨rfl, HB.out.trans (hb1.mono HB.out.size)⟩

/-- What is left where a message was taken off and lost. -/
def LostQ (base p mw ma : Nat) (L : Ways) (C : List (LK × Bool)) (n lost : Int) (l : LK) (k : Nat) (r : Value) (w : World) (e : Ending) (w' : World) : Prop :=
  e = .returned r ∧ (∃ L', NetS base p mw ma L' C (n - 1) (lost + 1) w' ∧ conW L' l = (conW L l).eraseIdx k ∧ ∀ j, j ≠ l → conW L' j = conW L j) ∧ Below base w w' ∧ Stays w w'

theorem drop_call {base p mw ma : Nat} {L : Ways} {C : List (LK × Bool)} {n lost : Int} (l : LK) (k : Nat) (bs : List Int) (w : World) (h : NetS base p mw ma L C n lost w) (hbw : base ≤ w.heap.size) (hn : n ≤ 500) (hlo : 0 ≤ lost ∧ lost < 4611686018427387904) (hl : i64 l.1 ∧ i64 l.2) (hk : (conW L l)[k]? = some bs) :
    Calls Try.prog 17 #[.pointer (some ⟨p, 0, none⟩), lkV l, .int .i64 k] w (LostQ base p mw ma L C n lost l k (.bool true) w) := by
  have HB0 := Lib.hid ((Below.refl w.heap.size w).alloc (Nat.le_refl _) (.cells #[vi l.1, vi l.2] 29))
  have HN0 := Lib.hid (h.later HB0.out)
  have HX0 := Lib.hid (alloc_at w (.cells #[vi l.1, vi l.2] 29))
  have hw0 : (w.alloc (.cells #[vi l.1, vi l.2] 29)).heap.size = w.heap.size + 1 := by simp
  have hwr : IntKind.i64.wrap (lost + 1) = lost + 1 := IntWalk.i64_in _ (by omega)
  have HKk := Lib.hid hk
  clear h hk
  go_enter Try.func17, Try.ntmps17
  go_upto_region 1 with fail
  generalize w.alloc (.cells #[vi l.1, vi l.2] 29) = w0 at *
  have b0 : w0.cell? ⟨w.heap.size, 0, none⟩ = some (vi l.1) := by rw [cell_of HX0.out]; rfl
  have b1 : w0.cell? ⟨w.heap.size, 1, none⟩ = some (vi l.2) := by rw [cell_of HX0.out]; rfl
  go_upto_region 2 with (go_at_call 23; refine (take_call (base := base) l k bs _ HN0.out (by omega) hn hl HKk.out).mono ?_; rintro e w1 ⟨v1, rfl, hmsg, ⟨L', hnet, hc1, hc2⟩, hb1, ht1⟩)
  have HN1 := Lib.hid hnet
  have HB1 := Lib.hid ((HB0.out.mono hbw).trans hb1)
  have HT1 := Lib.hid (((Stays.refl w).later HB0.out).trans ht1)
  have HC1 := Lib.hid hc1
  have HC2 := Lib.hid hc2
  have q3 : w1.cell? ⟨p, 3, none⟩ = some (vi lost) := by rw [cell_of hnet.mem.blk]; rfl
  have z3 : w1.frozen? ⟨p, 3, none⟩ = false := free_of hnet.mem.blk 3
  clear hmsg hnet hc1 hc2 hb1 ht1 b0 b1
  go_wp2_with fail
  go_ret
  have hg9 : w1.grownBy (w1.setCell ⟨p, 3, none⟩ (vi (lost + 1))) (some p) := ⟨rfl, rfl, rfl, by simp, fun k _ hk => heap_setCell_other w1 ⟨p, 3, none⟩ k _ (fun e => hk (by simp [e]))⟩
  exact ⟨rfl, ⟨L', ⟨HN1.out.mem.numbers (lost' := lost + 1) hg9 (by rw [heap_setCell_same w1 p 3 _ _ _ HN1.out.mem.blk]; rfl), HN1.out.ne, HN1.out.cnt⟩, HC1.out, HC2.out⟩, HB1.out.setCell HN1.out.mem.bp _, HT1.out.grown hg9 (vac_net HN1.out.mem.blk)⟩

theorem Take_lost {base p mw ma : Nat} {L : Ways} {C : List (LK × Bool)} {n lost : Int} (l : LK) (k : Nat) (bs : List Int) (w : World) (h : NetS base p mw ma L C n lost w) (hbw : base ≤ w.heap.size) (hn : n ≤ 500) (hlo : 0 ≤ lost ∧ lost < 4611686018427387904) (hl : i64 l.1 ∧ i64 l.2) (hk : (conW L l)[k]? = some bs) (hA : (getM C (pairK l)).getD false = true) :
    Calls Try.prog 9 #[.pointer (some ⟨p, 0, none⟩), lkV l, .int .i64 k] w (LostQ base p mw ma L C n lost l k (.tuple #[.slice none 0 0, .bool false]) w) := by
  have hlp : i64 (pairK l).1 ∧ i64 (pairK l).2 := by
    obtain ⟨⟨h1, h2⟩, h3, h4⟩ := hl
    unfold pairK i64; simp only; omega
  have HB0 := Lib.hid ((Below.refl w.heap.size w).alloc (Nat.le_refl _) (.cells #[vi l.1, vi l.2] 29))
  have HN0 := Lib.hid (h.later HB0.out)
  have HX0 := Lib.hid (alloc_at w (.cells #[vi l.1, vi l.2] 29))
  have hw0 : (w.alloc (.cells #[vi l.1, vi l.2] 29)).heap.size = w.heap.size + 1 := by simp
  have hwr : IntKind.i64.wrap (lost + 1) = lost + 1 := IntWalk.i64_in _ (by omega)
  have HKk := Lib.hid hk
  have HAA := Lib.hid hA
  clear h hk hA
  go_enter Try.func9, Try.ntmps9
  go_upto_region 1 with fail
  generalize w.alloc (.cells #[vi l.1, vi l.2] 29) = w0 at *
  have b0 : w0.cell? ⟨w.heap.size, 0, none⟩ = some (vi l.1) := by rw [cell_of HX0.out]; rfl
  have b1 : w0.cell? ⟨w.heap.size, 1, none⟩ = some (vi l.2) := by rw [cell_of HX0.out]; rfl
  go_upto_region 2 with (go_at_call 23; refine (take_call (base := base) l k bs _ HN0.out (by omega) hn hl HKk.out).mono ?_; rintro e w1 ⟨v1, rfl, hmsg, ⟨L', hnet, hc1, hc2⟩, hb1, ht1⟩)
  have HX1 := Lib.hid (ht1 _ _ _ HX0.out (by decide) (by decide))
  have HN1 := Lib.hid hnet
  have HB1 := Lib.hid ((HB0.out.mono hbw).trans hb1)
  have HT1 := Lib.hid (((Stays.refl w).later HB0.out).trans ht1)
  have HC1 := Lib.hid hc1
  have HC2 := Lib.hid hc2
  have hbs1 := hb1.size
  clear hmsg hnet hc1 hc2 hb1 ht1 b0 b1
  go_cut [29] (fun r wx => r = .bool true ∧ Below w1.heap.size w1 wx)
  case first =>
    have b0 : w1.drew.cell? ⟨w.heap.size, 0, none⟩ = some (vi l.1) := by show w1.cell? _ = _; rw [cell_of HX1.out]; rfl
    have b1 : w1.drew.cell? ⟨w.heap.size, 1, none⟩ = some (vi l.2) := by show w1.cell? _ = _; rw [cell_of HX1.out]; rfl
    have p1 : w1.drew.cell? ⟨p, 1, none⟩ = some (.map (some ma)) := by show w1.cell? _ = _; rw [cell_of HN1.out.mem.blk]; rfl
    have HBd := Lib.hid ((Below.refl w1.heap.size w1).drew)
    go_region_held3 (fun w' : World => w'.cell? ⟨p, 1, none⟩ = some (.map (some ma)) ∧ w'.cell? ⟨w.heap.size, 0, none⟩ = some (vi l.1) ∧ w'.cell? ⟨w.heap.size, 1, none⟩ = some (vi l.2)) (first | exact ⟨p1, b0, b1⟩ | exact ⟨p1', b0', b1'⟩)
      (first | (go_at_call 24; refine (pair_call _ _ _).mono ?_; rintro e w3 ⟨rfl, hb3⟩; have p1' := cell_later hb3 p1; have b0' := cell_later hb3 b0; have b1' := cell_later hb3 b1; have HB3 := Lib.hid (HBd.out.trans hb3); have hlk : (Instr.lookup 54 (.map (some ma)) (lkV (min l.1 l.2, max l.1 l.2)) false).run Try.prog w3 = .ok (.bool true) w3 := (by have h' := lookup_apart (HN1.out.mem.apart.below HB3.out HN1.out.mem.apart.lt) hlp; rw [HAA.out] at h'; exact h'); clear hb3))
    all_goals
      go_wp2
      go_meet
      exact ⟨rfl, HB3.out⟩
  case rest =>
    obtain ⟨wx, rfl⟩ : ∃ wx : World, wx = wc := ⟨_, rfl⟩
    obtain ⟨rfl, hbx⟩ := hcut
    have HNX := Lib.hid (HN1.out.later hbx)
    have HBX := Lib.hid (HB1.out.trans (hbx.mono (by omega)))
    have HTX := Lib.hid (HT1.out.later hbx)
    have q3 : wx.cell? ⟨p, 3, none⟩ = some (vi lost) := by rw [cell_of HNX.out.mem.blk]; rfl
    have z3 : wx.frozen? ⟨p, 3, none⟩ = false := free_of HNX.out.mem.blk 3
    go_wp2_with fail
    go_ret2
    have hg9 : wx.grownBy (wx.setCell ⟨p, 3, none⟩ (vi (lost + 1))) (some p) := ⟨rfl, rfl, rfl, by simp, fun k _ hk => heap_setCell_other wx ⟨p, 3, none⟩ k _ (fun e => hk (by simp [e]))⟩
    exact ⟨rfl, ⟨L', ⟨HNX.out.mem.numbers (lost' := lost + 1) hg9 (by rw [heap_setCell_same wx p 3 _ _ _ HNX.out.mem.blk]; rfl), HNX.out.ne, HNX.out.cnt⟩, HC1.out, HC2.out⟩, HBX.out.setCell HNX.out.mem.bp _, HTX.out.grown hg9 (vac_net HNX.out.mem.blk)⟩
end
end Go.Proofs.Ythpdenmbcjngkaa
