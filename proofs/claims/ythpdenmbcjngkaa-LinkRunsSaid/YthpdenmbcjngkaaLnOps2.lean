/- (*link.Net).Twice of a message that is there; Cut; Heal. -/
import Derived.Test.YthpdenmbcjngkaaLnOps
namespace Go.Proofs.Ythpdenmbcjngkaa
open Go.RowKit Go.Maps Go.MapKept
open Go.ChangeMaps (setBlock)

theorem MapT.off {κ ν : Type} {P : Program} {k : TypeId} {eK : κ → Value} {eV : ν → Value} {w : World} {b p o : Nat} {L : List (κ × ν)} (h : MapT P k eK eV w b L) {v : Value} (hc : w.cell? ⟨p, o, none⟩ = some v) : some p ≠ some b := by
  obtain ⟨es1, c1, ho1⟩ := h.obj
  intro e
  have e' : p = b := by simpa using e
  subst e'
  simp [World.cell?, ho1] at hc

section
set_option maxRecDepth 100000
set_option maxHeartbeats 4000000
def TwiceQ (base p mw ma : Nat) (L : Ways) (C : List (LK × Bool)) (n lost : Int) (l : LK) (bs : List Int) (w : World) (e : Ending) (w' : World) : Prop :=
  e = .returned (.bool true) ∧ (∃ L', NetS base p mw ma L' C (n + 1) lost w' ∧ conW L' l = conW L l ++ [bs] ∧ ∀ k, k ≠ l → conW L' k = conW L k) ∧ Below base w w' ∧ Stays w w'

theorem twice_call {base p mw ma : Nat} {L : Ways} {C : List (LK × Bool)} {n lost : Int} (l : LK) (k : Nat) (bs : List Int) (w : World) (h : NetS base p mw ma L C n lost w) (hbw : base ≤ w.heap.size) (hn : n < 500) (hl : i64 l.1 ∧ i64 l.2) (hk : (conW L l)[k]? = some bs) (hbs : bs.length ≤ 1048576) :
    Calls Try.prog 18 #[.pointer (some ⟨p, 0, none⟩), lkV l, .int .i64 k] w (TwiceQ base p mw ma L C n lost l bs w) := by
  have hkc := (List.getElem?_eq_some_iff.1 hk).1
  have hlen := conW_cur L l
  obtain ⟨x, hx⟩ : ∃ x, curW L l = x := ⟨_, rfl⟩
  rw [hx] at hlen
  have hkx : k < x.2.length := by rw [hlen] at hkc; simpa using hkc
  obtain ⟨m, hmk⟩ := some_at hkx
  have hmb : m.2 = bs := by rw [hlen, List.getElem?_map, hmk] at hk; simpa using hk
  have hlenI : (conW L l).length = x.2.length := by rw [hlen]; simp
  have HB0 := Lib.hid ((Below.refl w.heap.size w).alloc (Nat.le_refl _) (.cells #[vi l.1, vi l.2] 29))
  have HN0 := Lib.hid (h.later HB0.out)
  have HX0 := Lib.hid (alloc_at w (.cells #[vi l.1, vi l.2] 29))
  have hw0 : (w.alloc (.cells #[vi l.1, vi l.2] 29)).heap.size = w.heap.size + 1 := by simp
  have hxs : WayS base w x := by rw [← hx]; exact h.mem.curS l
  obtain ⟨g, c, hxv⟩ : ∃ g c, x.1 = .slice (some ⟨g, 0, none⟩) x.2.length c := by
    rcases hxs.row.2 with ⟨_, h0⟩ | ⟨g, cap, cur, hv, _⟩
    · have h0' : x.2.length = 0 := h0
      omega
    · exact ⟨_, _, hv⟩
  have hxl : x.2.length ≤ 500 := by
    have h1 := h.cnt
    have h2 : (curW L l).2.length ≤ sumW L := by
      unfold curW
      cases hg : getM L l with
      | none => simp [nilW]
      | some y => exact sumW_mem (getM_some hg)
    rw [hx] at h2
    omega
  have HXV := Lib.hid hxv
  have HLI := Lib.hid hlenI
  have HMK := Lib.hid hmk
  have HMB := Lib.hid hmb
  have HX := Lib.hid hx
  have hkI : (k : Int) < (x.2.length : Int) := by omega
  have hk0 : ¬ ((k : Int) < 0) := by omega
  have hnI : ¬ ((500 : Int) ≤ n) := by omega
  have hpl := (Array.getElem?_eq_some_iff.1 h.mem.blk).1
  clear h hk hkc hlen hx hmk hmb hlenI hxs hxv
  go_enter Try.func18, Try.ntmps18
  go_upto_region 1 with fail
  generalize w.alloc (.cells #[vi l.1, vi l.2] 29) = w0 at *
  have b0 : w0.cell? ⟨w.heap.size, 0, none⟩ = some (vi l.1) := by rw [cell_of HX0.out]; rfl
  have b1 : w0.cell? ⟨w.heap.size, 1, none⟩ = some (vi l.2) := by rw [cell_of HX0.out]; rfl
  go_upto_region 3 with (go_at_call 21; refine (len_call l _ HN0.out.mem hl).mono ?_; rw [HLI.out]; rintro e w1 ⟨rfl, hb1⟩; have q2 : w1.cell? ⟨p, 2, none⟩ = some (vi n) := (by rw [cell_of (HN0.out.later hb1).mem.blk]; rfl))
  have HN1 := Lib.hid (HN0.out.later hb1)
  have HX1 := Lib.hid ((hb1.block w.heap.size (by omega)).trans HX0.out)
  have HB1 := Lib.hid (HB0.out.trans (hb1.mono HB0.out.size))
  have hw1 : w.heap.size < w1.heap.size := by have := hb1.size; omega
  clear hb1 b0 b1 q2
  have b0 : w1.drew.cell? ⟨w.heap.size, 0, none⟩ = some (vi l.1) := by show w1.cell? _ = _; rw [cell_of HX1.out]; rfl
  have b1 : w1.drew.cell? ⟨w.heap.size, 1, none⟩ = some (vi l.2) := by show w1.cell? _ = _; rw [cell_of HX1.out]; rfl
  have p0 : w1.drew.cell? ⟨p, 0, none⟩ = some (.map (some mw)) := by show w1.cell? _ = _; rw [cell_of HN1.out.mem.blk]; rfl
  have HN3 := Lib.hid (HN1.out.later ((Below.refl w1.heap.size w1).drew))
  have HB3 := Lib.hid (HB1.out.drew)
  have HT3 := Lib.hid ((((Stays.refl w).later HB1.out)).later ((Below.refl w1.heap.size w1).drew))
  have hlk : (Instr.lookup 53 (.map (some mw)) (lkV l) false).run Try.prog w1.drew = .ok (.slice (some ⟨g, 0, none⟩) x.2.length c) w1.drew := by
    rw [← HXV.out]
    have := lookup_way HN3.out.mem.ways hl
    rwa [HX.out] at this
  have HXS := Lib.hid (show WayS base w1.drew x by rw [← HX.out]; exact HN3.out.mem.curS l)
  have v0 : w1.drew.cell? ⟨g, k, none⟩ = some m.1 := by
    have := World.ownsRow.cells HXS.out.row (g := g) (by rw [HXV.out]; rfl) k m.1 (by simp [HMK.out])
    rw [addr_add] at this
    simpa using this
  have HM := Lib.hid (show OwB base w1.drew m.1 bs by rw [← HMB.out]; exact HXS.out.msgs m (List.mem_of_getElem? HMK.out))
  go_still_tail 11, (by kernel_rfl)
  change wpList _ _ _ _ _ w1.drew
  go_wp2_with (go_at_call 8; refine (send_call (base := base) l m.1 bs _ HN3.out (by show base ≤ w1.heap.size; omega) hn hl HM.out.rd hbs).mono ?_; rintro e w4 ⟨rfl, hL4, hb4, hs4⟩)
  go_ret
  exact ⟨by rfl, hL4, (HB3.out.mono hbw).trans hb4, HT3.out.trans hs4⟩

def CutQ (base p mw ma : Nat) (L : Ways) (C' : List (LK × Bool)) (n lost : Int) (w : World) (e : Ending) (w' : World) : Prop :=
  e = .returned (.tuple #[]) ∧ NetS base p mw ma L C' n lost w' ∧ Below base w w' ∧ Stays w w'

theorem heal_call {base p mw ma : Nat} {L : Ways} {C : List (LK × Bool)} {n lost : Int} (w : World) (h : NetS base p mw ma L C n lost w) (hbw : base ≤ w.heap.size) :
    Calls Try.prog 20 #[.pointer (some ⟨p, 0, none⟩)] w (CutQ base p mw ma L [] n lost w) := by
  have p1 : w.cell? ⟨p, 1, none⟩ = some (.map (some ma)) := by rw [cell_of h.mem.blk]; rfl
  obtain ⟨w1, hrun, hM, hg, hsz⟩ := h.mem.apart.clear (t := 54) Try.underlying54 0
  have HN := Lib.hid h
  have HG := Lib.hid hg
  have HM := Lib.hid hM
  obtain ⟨es2, c2, ho2⟩ := h.mem.apart.obj
  have HV := Lib.hid (vac_map ho2)
  clear h hg hM ho2
  go_enter Try.func20, Try.ntmps20
  go_wp2_with fail
  go_end0
  exact ⟨rfl, ⟨HN.out.mem.cuts HG.out HM.out, HN.out.ne, HN.out.cnt⟩, (Below.refl base w).grown HG.out hbw (fun j hj => by cases hj; exact HN.out.mem.ba), (Stays.refl w).grown HG.out HV.out⟩

theorem cut_call {base p mw ma : Nat} {L : Ways} {C : List (LK × Bool)} {n lost : Int} (l : LK) (w : World) (h : NetS base p mw ma L C n lost w) (hbw : base ≤ w.heap.size) (hl : i64 l.1 ∧ i64 l.2) :
    Calls Try.prog 19 #[.pointer (some ⟨p, 0, none⟩), vi l.1, vi l.2, .bool true] w (CutQ base p mw ma L (putM C (pairK l) true) n lost w) := by
  have hlp : i64 (pairK l).1 ∧ i64 (pairK l).2 := by
    obtain ⟨⟨h1, h2⟩, h3, h4⟩ := hl
    unfold pairK i64; simp only; omega
  obtain ⟨kl, hkl⟩ := linkKey hlp
  have HN := Lib.hid h
  have HK := Lib.hid hkl
  have HBd := Lib.hid ((Below.refl w.heap.size w).drew)
  have p1 : w.drew.cell? ⟨p, 1, none⟩ = some (.map (some ma)) := by show w.cell? _ = _; rw [cell_of h.mem.blk]; rfl
  clear h hkl
  go_enter Try.func19, Try.ntmps19
  go_upto_region 2 with fail
  go_region_held3 (fun w' : World => w'.cell? ⟨p, 1, none⟩ = some (.map (some ma))) (first | exact p1 | exact p1' | exact p1'')
    (first | (go_at_call 24; refine (pair_call _ _ _).mono ?_; rintro e w3 ⟨rfl, hb3⟩; have p1' := cell_later hb3 p1; have HB3 := Lib.hid (HBd.out.trans hb3); have HA3 := Lib.hid (HN.out.mem.apart.below HB3.out HN.out.mem.apart.lt); obtain ⟨w4, hrun4, hM4, hg4⟩ := HA3.out.update (eV := Value.bool) linkKeyed lkV_inj (t := 54) (e := 4) Try.underlying54 (pairK l) HK.out true; replace hrun4 : (Instr.mapUpdate 54 (.map (some ma)) (lkV (min l.1 l.2, max l.1 l.2)) (.bool true)).run Try.prog w3 = .ok () w4 := hrun4; have p1'' := hg4.cell p1' (MapT.off HA3.out p1'); have HM4 := Lib.hid hM4; have HG4 := Lib.hid hg4; clear hM4 hg4 hb3))
  all_goals
    go_wp2
    go_end0
    have hn3 := HN.out.later HB3.out
    obtain ⟨es2, c2, ho2⟩ := HA3.out.obj
    exact ⟨rfl, ⟨hn3.mem.cuts HG4.out HM4.out, hn3.ne, hn3.cnt⟩, (HB3.out.mono hbw).grown HG4.out (Nat.le_trans hbw HB3.out.size) (fun j hj => by cases hj; exact HN.out.mem.ba), ((Stays.refl w).later HB3.out).grown HG4.out (vac_map ho2)⟩

theorem join_call {base p mw ma : Nat} {L : Ways} {C : List (LK × Bool)} {n lost : Int} (l : LK) (w : World) (h : NetS base p mw ma L C n lost w) (hbw : base ≤ w.heap.size) (hl : i64 l.1 ∧ i64 l.2) :
    Calls Try.prog 19 #[.pointer (some ⟨p, 0, none⟩), vi l.1, vi l.2, .bool false] w (CutQ base p mw ma L (delM C (pairK l)) n lost w) := by
  have hlp : i64 (pairK l).1 ∧ i64 (pairK l).2 := by
    obtain ⟨⟨h1, h2⟩, h3, h4⟩ := hl
    unfold pairK i64; simp only; omega
  obtain ⟨kl, hkl⟩ := linkKey hlp
  have HN := Lib.hid h
  have HK := Lib.hid hkl
  have HBd := Lib.hid ((Below.refl w.heap.size w).drew)
  have p1 : w.drew.cell? ⟨p, 1, none⟩ = some (.map (some ma)) := by show w.cell? _ = _; rw [cell_of h.mem.blk]; rfl
  clear h hkl
  go_enter Try.func19, Try.ntmps19
  go_upto_region 3 with fail
  go_region_held3 (fun w' : World => w'.cell? ⟨p, 1, none⟩ = some (.map (some ma))) (first | exact p1 | exact p1' | exact p1'')
    (first | (go_at_call 24; refine (pair_call _ _ _).mono ?_; rintro e w3 ⟨rfl, hb3⟩; have p1' := cell_later hb3 p1; have HB3 := Lib.hid (HBd.out.trans hb3); have HA3 := Lib.hid (HN.out.mem.apart.below HB3.out HN.out.mem.apart.lt); obtain ⟨w4, hrun4, hM4, hg4, hz4⟩ := HA3.out.delete (eV := Value.bool) linkKeyed lkV_inj (t := 54) (e := 4) Try.underlying54 (pairK l) HK.out 0; replace hrun4 : (Builtin.delete_ #[54, 29] 0 #[.map (some ma), lkV (min l.1 l.2, max l.1 l.2)]).run Try.prog w3 = .ok (.tuple #[]) w4 := hrun4; have p1'' := hg4.cell p1' (MapT.off HA3.out p1'); have HM4 := Lib.hid hM4; have HG4 := Lib.hid hg4; clear hM4 hg4 hb3))
  all_goals
    go_wp2
    go_end0
    have hn3 := HN.out.later HB3.out
    obtain ⟨es2, c2, ho2⟩ := HA3.out.obj
    exact ⟨rfl, ⟨hn3.mem.cuts HG4.out HM4.out, hn3.ne, hn3.cnt⟩, (HB3.out.mono hbw).grown HG4.out (Nat.le_trans hbw HB3.out.size) (fun j hj => by cases hj; exact HN.out.mem.ba), ((Stays.refl w).later HB3.out).grown HG4.out (vac_map ho2)⟩
end
end Go.Proofs.Ythpdenmbcjngkaa
