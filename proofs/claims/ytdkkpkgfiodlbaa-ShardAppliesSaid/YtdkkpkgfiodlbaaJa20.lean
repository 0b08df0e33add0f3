/- Texts of one proof, one behind the other: Rn21F, Rn21D. -/
import Derived.Test.YtdkkpkgfiodlbaaJa19
set_option linter.all false
/- Layer 21's reference: Apply, Prepare. Printed by wip/gen/gen_ap21f.py. -/
namespace Go.Proofs.Ytdkkpkgfiodlbaa
open Go.RowKit Go.Maps
attribute [local go_sem] Oper.semAt_some

theorem heap2_al (w : World) (o1 o2 : Obj) : ((w.alloc o1).alloc o2).heap[w.heap.size]? = some o1 ∧ ((w.alloc o1).alloc o2).heap[w.heap.size + 1]? = some o2 ∧ Below w.heap.size w ((w.alloc o1).alloc o2) := by
  refine ⟨?_, heap_top (by simp), ((Below.refl _ _).alloc (Nat.le_refl _) _).alloc (by simp) _⟩
  rw [heap_al, if_neg (by simp)]; exact alloc_at w o1
set_option maxRecDepth 1000000 in
set_option maxHeartbeats 16000000 in
theorem apply3_call (A : World) (x : RSh) (r : Rdy) (en : EndM) (wv rv : Value) (w : World) (hxA : RdSh A x) (hA : ALe A w) (hr : RdyS w ⟨wv, rv, r⟩) (hbg : 0 ≤ x.m.s.bugs ∧ x.m.s.bugs ≤ 63) (hl : x.m.s.ws.length ≤ 1000 ∧ r.writes.length ≤ 1000 ∧ r.reads.length ≤ 1000) :
    Calls Try.prog 16 #[shV x, cmdV ⟨3, r, en⟩ wv rv] w (ApR A w (prep21 x.m r)) := by
  obtain ⟨a1, c1, a2, c2, a3, c3, a4, c4, hxe, hmw, hmd⟩ := hxA.shapes
  have HXA := Lib.hid hxA
  have HHA := Lib.hid hA
  have HA := Lib.hid (ApB.start w x ⟨3, r, en⟩ wv rv)
  clear hxA hA
  have hsc : shC x = #[.bool x.m.s.serial, vi x.m.s.bugs, .slice a1 x.m.s.vs.length c1, .slice a2 x.m.s.ws.length c2, .slice a3 x.m.s.es.length c3, vi x.m.stamps, vi x.m.now, .slice a4 x.m.ds.length c4] := by rw [hxe]; rfl
  have HXE := Lib.hid hxe
  have HSC := Lib.hid hsc
  have HR := Lib.hid hr
  clear hr
  obtain ⟨by_, hby⟩ : ∃ b, b = (rnPrepV x.m.s r).2.1 := ⟨_, rfl⟩
  obtain ⟨err, herr⟩ : ∃ b, b = (rnPrepV x.m.s r).2.2 := ⟨_, rfl⟩
  have HBY := Lib.hid hby
  have HER := Lib.hid herr
  clear hby herr
  unfold shV
  unfold cmdV
  rw [hsc] at HA ⊢
  clear hxe hsc
  unfold cmdC at HA ⊢
  go_enter Try.func16, Try.ntmps16
  go_upto_region 1 with fail
  generalize ((((w.alloc (.cells #[.bool x.m.s.serial, vi x.m.s.bugs, .slice a1 x.m.s.vs.length c1, .slice a2 x.m.s.ws.length c2, .slice a3 x.m.s.es.length c3, vi x.m.stamps, vi x.m.now, .slice a4 x.m.ds.length c4] 54)).alloc (.cells #[vi 3, vi r.txn, vi r.home, vi r.start, wv, rv, vi en.txn, .bool en.commit, vi en.at_] 63)).alloc (.cells #[.bool false, vi 0, .slice none 0 0, .slice none 0 0, .slice none 0 0, vi 0, vi 0, .slice none 0 0] 54)).alloc (.cells #[vi 0, .slice none 0 0, vi 0, vi 0, vi 0, vi 0, .bool false, vi 0] 58)) = w4 at *
  have HS0 := HA.out.st
  rw [HSC.out] at HS0
  have HC0 := HA.out.cmd
  unfold cmdC at HC0
  obtain ⟨X, hX⟩ : ∃ X, X = w.heap.size := ⟨_, rfl⟩
  have HRS := HA.out.rs
  have HRA := HA.out.ra
  rw [← hX] at HS0 HC0 HRS HRA ⊢
  have hS0 := Lib.hid HS0
  have hC0 := Lib.hid HC0
  have hRS := Lib.hid HRS
  have hRA := Lib.hid HRA
  have HXX := Lib.hid hX
  clear hX HS0 HC0 HRS HRA
  have x0 : w4.cell? ⟨X, 0, none⟩ = some (.bool x.m.s.serial) := (by rw [cell_of hS0.out]; rfl)
  have x1 : w4.cell? ⟨X, 1, none⟩ = some (vi x.m.s.bugs) := (by rw [cell_of hS0.out]; rfl)
  have x2 : w4.cell? ⟨X, 2, none⟩ = some (.slice a1 x.m.s.vs.length c1) := (by rw [cell_of hS0.out]; rfl)
  have x3 : w4.cell? ⟨X, 3, none⟩ = some (.slice a2 x.m.s.ws.length c2) := (by rw [cell_of hS0.out]; rfl)
  have x4 : w4.cell? ⟨X, 4, none⟩ = some (.slice a3 x.m.s.es.length c3) := (by rw [cell_of hS0.out]; rfl)
  have x5 : w4.cell? ⟨X, 5, none⟩ = some (vi x.m.stamps) := (by rw [cell_of hS0.out]; rfl)
  have x6 : w4.cell? ⟨X, 6, none⟩ = some (vi x.m.now) := (by rw [cell_of hS0.out]; rfl)
  have x7 : w4.cell? ⟨X, 7, none⟩ = some (.slice a4 x.m.ds.length c4) := (by rw [cell_of hS0.out]; rfl)
  have m0 : w4.cell? ⟨X + 1, 0, none⟩ = some (vi 3) := (by rw [cell_of hC0.out]; rfl)
  have m1 : w4.cell? ⟨X + 1, 1, none⟩ = some (vi r.txn) := (by rw [cell_of hC0.out]; rfl)
  have m2 : w4.cell? ⟨X + 1, 2, none⟩ = some (vi r.home) := (by rw [cell_of hC0.out]; rfl)
  have m3 : w4.cell? ⟨X + 1, 3, none⟩ = some (vi r.start) := (by rw [cell_of hC0.out]; rfl)
  have m4 : w4.cell? ⟨X + 1, 4, none⟩ = some (wv) := (by rw [cell_of hC0.out]; rfl)
  have m5 : w4.cell? ⟨X + 1, 5, none⟩ = some (rv) := (by rw [cell_of hC0.out]; rfl)
  have HST := Lib.hid (st_of HXA.out HXE.out)
  have HBA := Lib.hid (HHA.out.trans (HA.out.below.mono HHA.out.size))
  have h4s : w.heap.size + 4 ≤ w4.heap.size := by have := (Array.getElem?_eq_some_iff.1 HA.out.ra).1; omega
  have H4S := Lib.hid h4s
  have HBW := Lib.hid HA.out.below
  clear h4s hRS hRA
  go_upto_region 19 with fail
  have c7 : Calls Try.prog 39 #[.agg #[.bool x.m.s.serial, vi x.m.s.bugs, .slice a1 x.m.s.vs.length c1, .slice a2 x.m.s.ws.length c2, .slice a3 x.m.s.es.length c3], .agg #[vi r.txn, vi r.home, vi r.start, wv, rv]] w4 (fun e w7 => ∃ (ys : RSt) (d1 d2 d3 : Option Addr) (g1 g2 g3 : Nat), e = .returned (.tuple #[.agg #[.bool ys.serial, vi ys.bugs, .slice d1 ys.vs.length g1, .slice d2 ys.ws.length g2, .slice d3 ys.es.length g3], vi by_, vi err]) ∧ Hid (ys = (rnPrepV x.m.s r).1) ∧ Hid (Below w4.heap.size w4 w7) ∧ Hid (∀ W' : World, CLe A W' → (∀ j, w4.heap.size ≤ j → W'.heap[j]? = w7.heap[j]?) → RdSt W' ⟨.slice d1 ys.vs.length g1, .slice d2 ys.ws.length g2, .slice d3 ys.es.length g3, ys⟩)) := by
    refine (rnPrep_call3 A ⟨.slice a1 x.m.s.vs.length c1, .slice a2 x.m.s.ws.length c2, .slice a3 x.m.s.es.length c3, x.m.s⟩ ⟨wv, rv, r⟩ w4 HST.out HBA.out.le (HR.out.later HBW.out) hbg hl).mono ?_
    rintro e7 w7 ⟨⟨yv, yw, ye, ys⟩, rfl, hs7, hr7, hb7, hk7⟩
    obtain ⟨d1, g1, d2, g2, d3, g3, hy⟩ := rst_shapes hr7
    simp only [RSV.mk.injEq, and_true] at hy
    obtain ⟨rfl, rfl, rfl⟩ := hy
    exact ⟨ys, d1, d2, d3, g1, g2, g3, by rw [HBY.out, HER.out]; rfl, Lib.hid hs7, Lib.hid hb7, Lib.hid hk7⟩
  have HC7 := Lib.hid c7
  clear c7
  go_upto_region 21 with (go_at_call 39; refine HC7.out.mono ?_; rintro e7 w7 ⟨ys, d1, d2, d3, g1, g2, g3, rfl, HS7, HB7, HK7⟩)
  have h9 := heap2_al w7 (.cells #[.bool ys.serial, vi ys.bugs, .slice d1 ys.vs.length g1, .slice d2 ys.ws.length g2, .slice d3 ys.es.length g3] 52) (.cells #[vi err, .slice none 0 0, vi 0, vi by_, vi 0, vi 0, .bool false, vi 0] 58)
  have H9P := Lib.hid h9.1
  have H9Q := Lib.hid h9.2.1
  have H9B := Lib.hid h9.2.2
  have HA9 := Lib.hid ((HA.out.later HB7.out).later h9.2.2)
  clear h9 HA x0 x1 x2 x3 x4 x5 x6 x7 m0 m1 m2 m3 m4 m5
  generalize ((w7.alloc (.cells #[.bool ys.serial, vi ys.bugs, .slice d1 ys.vs.length g1, .slice d2 ys.ws.length g2, .slice d3 ys.es.length g3] 52)).alloc (.cells #[vi err, .slice none 0 0, vi 0, vi by_, vi 0, vi 0, .bool false, vi 0] 58)) = w9 at *
  obtain ⟨P, hP⟩ : ∃ P, P = w7.heap.size := ⟨_, rfl⟩
  rw [← hP] at H9P H9Q ⊢
  have HP := Lib.hid hP
  clear hP
  have hS9 := HA9.out.st
  have hR9 := HA9.out.rs
  have hA9 := HA9.out.ra
  rw [HSC.out, ← HXX.out] at hS9
  rw [← HXX.out] at hR9 hA9
  have HS9 := Lib.hid hS9
  have HR9 := Lib.hid hR9
  have hRA9 := Lib.hid hA9
  clear hS9 hR9 hA9
  have hPX : X + 4 ≤ P := by have h1 := HP.out; have h2 := HXX.out; have h3 := H4S.out; have h4 := HB7.out.size; omega
  by_cases he : err = 60
  · have k0 : True := trivial
    subst he
    obtain ⟨hm, hhm⟩ : ∃ h, h = homeM x.m.s.ws by_ := ⟨_, rfl⟩
    have HHM := Lib.hid hhm
    have c10 : Calls Try.prog 38 #[.agg #[.bool x.m.s.serial, vi x.m.s.bugs, .slice a1 x.m.s.vs.length c1, .slice a2 x.m.s.ws.length c2, .slice a3 x.m.s.es.length c3, vi x.m.stamps, vi x.m.now, .slice a4 x.m.ds.length c4], vi by_] w9 (fun e w10 => e = .returned (vi hm) ∧ Hid (Below w9.heap.size w9 w10)) := by
      have h := home21_call x by_ w9 (HXA.out.ale (HBA.out.trans ((HB7.out.trans (H9B.out.mono HB7.out.size)).mono HBA.out.size)))
      unfold shV at h
      rw [HSC.out, ← hhm] at h
      exact h.mono fun e w' h => ⟨h.1, Lib.hid h.2⟩
    have HC10 := Lib.hid c10
    clear c10 hhm
    have x0 : w9.cell? ⟨X, 0, none⟩ = some (.bool x.m.s.serial) := (by rw [cell_of HS9.out]; rfl)
    have x1 : w9.cell? ⟨X, 1, none⟩ = some (vi x.m.s.bugs) := (by rw [cell_of HS9.out]; rfl)
    have x2 : w9.cell? ⟨X, 2, none⟩ = some (.slice a1 x.m.s.vs.length c1) := (by rw [cell_of HS9.out]; rfl)
    have x3 : w9.cell? ⟨X, 3, none⟩ = some (.slice a2 x.m.s.ws.length c2) := (by rw [cell_of HS9.out]; rfl)
    have x4 : w9.cell? ⟨X, 4, none⟩ = some (.slice a3 x.m.s.es.length c3) := (by rw [cell_of HS9.out]; rfl)
    have x5 : w9.cell? ⟨X, 5, none⟩ = some (vi x.m.stamps) := (by rw [cell_of HS9.out]; rfl)
    have x6 : w9.cell? ⟨X, 6, none⟩ = some (vi x.m.now) := (by rw [cell_of HS9.out]; rfl)
    have x7 : w9.cell? ⟨X, 7, none⟩ = some (.slice a4 x.m.ds.length c4) := (by rw [cell_of HS9.out]; rfl)
    go_upto_region 23 with (go_at_call 38; refine HC10.out.mono ?_; rintro e10 w10 ⟨rfl, HB10⟩; have hq10 := (HB10.out.block _ (Array.getElem?_eq_some_iff.1 H9Q.out).1).trans H9Q.out; have HQ10 := Lib.hid hq10; clear hq10; have t0 : w10.cell? ⟨P + 1, 0, none⟩ = some (vi 60) := (by rw [cell_of HQ10.out]; rfl); have t1 : w10.cell? ⟨P + 1, 1, none⟩ = some (.slice none 0 0) := (by rw [cell_of HQ10.out]; rfl); have t2 : w10.cell? ⟨P + 1, 2, none⟩ = some (vi 0) := (by rw [cell_of HQ10.out]; rfl); have t3 : w10.cell? ⟨P + 1, 3, none⟩ = some (vi by_) := (by rw [cell_of HQ10.out]; rfl); have t4 : w10.cell? ⟨P + 1, 4, none⟩ = some (vi 0) := (by rw [cell_of HQ10.out]; rfl); have t5 : w10.cell? ⟨P + 1, 5, none⟩ = some (vi 0) := (by rw [cell_of HQ10.out]; rfl); have t6 : w10.cell? ⟨P + 1, 6, none⟩ = some (.bool false) := (by rw [cell_of HQ10.out]; rfl); have t7 : w10.cell? ⟨P + 1, 7, none⟩ = some (vi 0) := (by rw [cell_of HQ10.out]; rfl); have tf : w10.frozen? ⟨P + 1, 4, none⟩ = false := free_of HQ10.out 4)
    clear tf x0 x1 x2 x3 x4 x5 x6 x7 t0 t1 t2 t3 t4 t5 t6 t7
    have hk1 := rn_set (o := 4) (vi hm) HQ10.out
    have HQk := Lib.hid (show (w10.setCell ⟨P + 1, 4, none⟩ (vi hm)).heap[P + 1]? = some (.cells #[vi 60, .slice none 0 0, vi 0, vi by_, vi hm, vi 0, .bool false, vi 0] 58) from hk1)
    have ho10 : ∀ j, j ≠ P + 1 → j < w9.heap.size → (w10.setCell ⟨P + 1, 4, none⟩ (vi hm)).heap[j]? = w9.heap[j]? := fun j hj hl => (Below.heap_setCell _ _ _ _ hj).trans (HB10.out.block j hl)
    have hp9 := (Array.getElem?_eq_some_iff.1 H9P.out).1
    have hq9 := (Array.getElem?_eq_some_iff.1 H9Q.out).1
    have HPk := Lib.hid ((ho10 P (by omega) hp9).trans H9P.out)
    have HSk := Lib.hid ((ho10 X (by omega) (by omega)).trans HS9.out)
    have HRk := Lib.hid ((ho10 (X + 1 + 1) (by omega) (by omega)).trans HR9.out)
    have hRAk := Lib.hid ((ho10 (X + 1 + 1 + 1) (by omega) (by omega)).trans hRA9.out)
    have HOk := Lib.hid ho10
    have h9b : Below w.heap.size w7 w9 := H9B.out.mono (show w.heap.size ≤ w7.heap.size by have := HBW.out.size; have := HB7.out.size; omega)
    have h10b : Below w.heap.size w9 w10 := HB10.out.mono (by have := h9b.size; have := HBW.out.size; have := HB7.out.size; omega)
    have h11b : Below w.heap.size w9 (w10.setCell ⟨P + 1, 4, none⟩ (vi hm)) := h10b.setCell (show w.heap.size ≤ P + 1 by have := HXX.out; omega) _
    have HBk := Lib.hid (h9b.trans h11b)
    clear hk1 ho10 h9b h10b h11b
    generalize w10.setCell ⟨P + 1, 4, none⟩ (vi hm) = wk at *
    have p0 : wk.cell? ⟨P, 0, none⟩ = some (.bool ys.serial) := (by rw [cell_of HPk.out]; rfl)
    have p1 : wk.cell? ⟨P, 1, none⟩ = some (vi ys.bugs) := (by rw [cell_of HPk.out]; rfl)
    have p2 : wk.cell? ⟨P, 2, none⟩ = some (.slice d1 ys.vs.length g1) := (by rw [cell_of HPk.out]; rfl)
    have p3 : wk.cell? ⟨P, 3, none⟩ = some (.slice d2 ys.ws.length g2) := (by rw [cell_of HPk.out]; rfl)
    have p4 : wk.cell? ⟨P, 4, none⟩ = some (.slice d3 ys.es.length g3) := (by rw [cell_of HPk.out]; rfl)
    have t0 : wk.cell? ⟨P + 1, 0, none⟩ = some (vi 60) := (by rw [cell_of HQk.out]; rfl)
    have t1 : wk.cell? ⟨P + 1, 1, none⟩ = some (.slice none 0 0) := (by rw [cell_of HQk.out]; rfl)
    have t2 : wk.cell? ⟨P + 1, 2, none⟩ = some (vi 0) := (by rw [cell_of HQk.out]; rfl)
    have t3 : wk.cell? ⟨P + 1, 3, none⟩ = some (vi by_) := (by rw [cell_of HQk.out]; rfl)
    have t4 : wk.cell? ⟨P + 1, 4, none⟩ = some (vi hm) := (by rw [cell_of HQk.out]; rfl)
    have t5 : wk.cell? ⟨P + 1, 5, none⟩ = some (vi 0) := (by rw [cell_of HQk.out]; rfl)
    have t6 : wk.cell? ⟨P + 1, 6, none⟩ = some (.bool false) := (by rw [cell_of HQk.out]; rfl)
    have t7 : wk.cell? ⟨P + 1, 7, none⟩ = some (vi 0) := (by rw [cell_of HQk.out]; rfl)
    have y0 : wk.cell? ⟨X, 0, none⟩ = some (.bool x.m.s.serial) := (by rw [cell_of HSk.out]; rfl)
    have y1 : wk.cell? ⟨X, 1, none⟩ = some (vi x.m.s.bugs) := (by rw [cell_of HSk.out]; rfl)
    have y2 : wk.cell? ⟨X, 2, none⟩ = some (.slice a1 x.m.s.vs.length c1) := (by rw [cell_of HSk.out]; rfl)
    have y3 : wk.cell? ⟨X, 3, none⟩ = some (.slice a2 x.m.s.ws.length c2) := (by rw [cell_of HSk.out]; rfl)
    have y4 : wk.cell? ⟨X, 4, none⟩ = some (.slice a3 x.m.s.es.length c3) := (by rw [cell_of HSk.out]; rfl)
    have y5 : wk.cell? ⟨X, 5, none⟩ = some (vi x.m.stamps) := (by rw [cell_of HSk.out]; rfl)
    have y6 : wk.cell? ⟨X, 6, none⟩ = some (vi x.m.now) := (by rw [cell_of HSk.out]; rfl)
    have y7 : wk.cell? ⟨X, 7, none⟩ = some (.slice a4 x.m.ds.length c4) := (by rw [cell_of HSk.out]; rfl)
    have xf : ∀ j, wk.frozen? ⟨X, j, none⟩ = false := fun j => free_of HSk.out j
    go_upto_region 24 with fail
    have hS8 := rn_set58 (.bool ys.serial) (vi ys.bugs) (.slice d1 ys.vs.length g1) (.slice d2 ys.ws.length g2) (.slice d3 ys.es.length g3) HSk.out
    have HS8 := Lib.hid hS8
    have ho8 : ∀ j, j ≠ X → (((((wk.setCell ⟨X, 0, none⟩ (.bool ys.serial)).setCell ⟨X, 1, none⟩ (vi ys.bugs)).setCell ⟨X, 2, none⟩ (.slice d1 ys.vs.length g1)).setCell ⟨X, 3, none⟩ (.slice d2 ys.ws.length g2)).setCell ⟨X, 4, none⟩ (.slice d3 ys.es.length g3)).heap[j]? = wk.heap[j]? := fun j hj => rn_oth5s hj
    have HO8 := Lib.hid ho8
    have hb8 : Below w.heap.size wk (((((wk.setCell ⟨X, 0, none⟩ (.bool ys.serial)).setCell ⟨X, 1, none⟩ (vi ys.bugs)).setCell ⟨X, 2, none⟩ (.slice d1 ys.vs.length g1)).setCell ⟨X, 3, none⟩ (.slice d2 ys.ws.length g2)).setCell ⟨X, 4, none⟩ (.slice d3 ys.es.length g3)) := rn_below5 (b := X) (.bool ys.serial) (vi ys.bugs) (.slice d1 ys.vs.length g1) (.slice d2 ys.ws.length g2) (.slice d3 ys.es.length g3) (by have := HXX.out; omega)
    have HB8 := Lib.hid hb8
    have hRS := Lib.hid ((ho8 (X + 1 + 1) (by omega)).trans HRk.out)
    have hRA := Lib.hid ((ho8 (X + 1 + 1 + 1) (by omega)).trans hRAk.out)
    have HQ8 := Lib.hid ((ho8 (P + 1) (by omega)).trans HQk.out)
    clear hS8 ho8 hb8 xf p0 p1 p2 p3 p4 t0 t1 t2 t3 t4 t5 t6 t7 y0 y1 y2 y3 y4 y5 y6 y7
    generalize (((((wk.setCell ⟨X, 0, none⟩ (.bool ys.serial)).setCell ⟨X, 1, none⟩ (vi ys.bugs)).setCell ⟨X, 2, none⟩ (.slice d1 ys.vs.length g1)).setCell ⟨X, 3, none⟩ (.slice d2 ys.ws.length g2)).setCell ⟨X, 4, none⟩ (.slice d3 ys.es.length g3)) = w8 at *
    have x0 : w8.cell? ⟨X, 0, none⟩ = some (.bool ys.serial) := (by rw [cell_of HS8.out]; rfl)
    have x1 : w8.cell? ⟨X, 1, none⟩ = some (vi ys.bugs) := (by rw [cell_of HS8.out]; rfl)
    have x2 : w8.cell? ⟨X, 2, none⟩ = some (.slice d1 ys.vs.length g1) := (by rw [cell_of HS8.out]; rfl)
    have x3 : w8.cell? ⟨X, 3, none⟩ = some (.slice d2 ys.ws.length g2) := (by rw [cell_of HS8.out]; rfl)
    have x4 : w8.cell? ⟨X, 4, none⟩ = some (.slice d3 ys.es.length g3) := (by rw [cell_of HS8.out]; rfl)
    have x5 : w8.cell? ⟨X, 5, none⟩ = some (vi x.m.stamps) := (by rw [cell_of HS8.out]; rfl)
    have x6 : w8.cell? ⟨X, 6, none⟩ = some (vi x.m.now) := (by rw [cell_of HS8.out]; rfl)
    have x7 : w8.cell? ⟨X, 7, none⟩ = some (.slice a4 x.m.ds.length c4) := (by rw [cell_of HS8.out]; rfl)
    have t0 : w8.cell? ⟨P + 1, 0, none⟩ = some (vi 60) := (by rw [cell_of HQ8.out]; rfl)
    have t1 : w8.cell? ⟨P + 1, 1, none⟩ = some (.slice none 0 0) := (by rw [cell_of HQ8.out]; rfl)
    have t2 : w8.cell? ⟨P + 1, 2, none⟩ = some (vi 0) := (by rw [cell_of HQ8.out]; rfl)
    have t3 : w8.cell? ⟨P + 1, 3, none⟩ = some (vi by_) := (by rw [cell_of HQ8.out]; rfl)
    have t4 : w8.cell? ⟨P + 1, 4, none⟩ = some (vi hm) := (by rw [cell_of HQ8.out]; rfl)
    have t5 : w8.cell? ⟨P + 1, 5, none⟩ = some (vi 0) := (by rw [cell_of HQ8.out]; rfl)
    have t6 : w8.cell? ⟨P + 1, 6, none⟩ = some (.bool false) := (by rw [cell_of HQ8.out]; rfl)
    have t7 : w8.cell? ⟨P + 1, 7, none⟩ = some (vi 0) := (by rw [cell_of HQ8.out]; rfl)
    have HT := Lib.hid (two_std (W := w8) (b := X + 1 + 1) (N := w.heap.size) (.bool ys.serial) (vi ys.bugs) (.slice d1 ys.vs.length g1) (.slice d2 ys.ws.length g2) (.slice d3 ys.es.length g3) (vi x.m.stamps) (vi x.m.now) (.slice a4 x.m.ds.length c4) (vi 60) (.slice none 0 0) (vi 0) (vi by_) (vi hm) (vi 0) (.bool false) (vi 0) hRS.out hRA.out (by have := HXX.out; omega))
    have q0 : w8.cell? ⟨X + 1 + 1, 0, none⟩ = some (.bool false) := (by rw [cell_of hRS.out]; rfl)
    have q1 : w8.cell? ⟨X + 1 + 1, 1, none⟩ = some (vi 0) := (by rw [cell_of hRS.out]; rfl)
    have q2 : w8.cell? ⟨X + 1 + 1, 2, none⟩ = some (.slice none 0 0) := (by rw [cell_of hRS.out]; rfl)
    have q3 : w8.cell? ⟨X + 1 + 1, 3, none⟩ = some (.slice none 0 0) := (by rw [cell_of hRS.out]; rfl)
    have q4 : w8.cell? ⟨X + 1 + 1, 4, none⟩ = some (.slice none 0 0) := (by rw [cell_of hRS.out]; rfl)
    have q5 : w8.cell? ⟨X + 1 + 1, 5, none⟩ = some (vi 0) := (by rw [cell_of hRS.out]; rfl)
    have q6 : w8.cell? ⟨X + 1 + 1, 6, none⟩ = some (vi 0) := (by rw [cell_of hRS.out]; rfl)
    have q7 : w8.cell? ⟨X + 1 + 1, 7, none⟩ = some (.slice none 0 0) := (by rw [cell_of hRS.out]; rfl)
    have z0 : w8.cell? ⟨X + 1 + 1 + 1, 0, none⟩ = some (vi 0) := (by rw [cell_of hRA.out]; rfl)
    have z1 : w8.cell? ⟨X + 1 + 1 + 1, 1, none⟩ = some (.slice none 0 0) := (by rw [cell_of hRA.out]; rfl)
    have z2 : w8.cell? ⟨X + 1 + 1 + 1, 2, none⟩ = some (vi 0) := (by rw [cell_of hRA.out]; rfl)
    have z3 : w8.cell? ⟨X + 1 + 1 + 1, 3, none⟩ = some (vi 0) := (by rw [cell_of hRA.out]; rfl)
    have z4 : w8.cell? ⟨X + 1 + 1 + 1, 4, none⟩ = some (vi 0) := (by rw [cell_of hRA.out]; rfl)
    have z5 : w8.cell? ⟨X + 1 + 1 + 1, 5, none⟩ = some (vi 0) := (by rw [cell_of hRA.out]; rfl)
    have z6 : w8.cell? ⟨X + 1 + 1 + 1, 6, none⟩ = some (.bool false) := (by rw [cell_of hRA.out]; rfl)
    have z7 : w8.cell? ⟨X + 1 + 1 + 1, 7, none⟩ = some (vi 0) := (by rw [cell_of hRA.out]; rfl)
    have qf : ∀ j, w8.frozen? ⟨X + 1 + 1, j, none⟩ = false := fun j => free_of hRS.out j
    have zf : ∀ j, w8.frozen? ⟨X + 1 + 1 + 1, j, none⟩ = false := fun j => free_of hRA.out j
    go_region
    generalize ((((((((((((((((w8.setCell ⟨X + 1 + 1, 0, none⟩ (.bool ys.serial)).setCell ⟨X + 1 + 1, 1, none⟩ (vi ys.bugs)).setCell ⟨X + 1 + 1, 2, none⟩ (.slice d1 ys.vs.length g1)).setCell ⟨X + 1 + 1, 3, none⟩ (.slice d2 ys.ws.length g2)).setCell ⟨X + 1 + 1, 4, none⟩ (.slice d3 ys.es.length g3)).setCell ⟨X + 1 + 1, 5, none⟩ (vi x.m.stamps)).setCell ⟨X + 1 + 1, 6, none⟩ (vi x.m.now)).setCell ⟨X + 1 + 1, 7, none⟩ (.slice a4 x.m.ds.length c4)).setCell ⟨X + 1 + 1 + 1, 0, none⟩ (vi 60)).setCell ⟨X + 1 + 1 + 1, 1, none⟩ (.slice none 0 0)).setCell ⟨X + 1 + 1 + 1, 2, none⟩ (vi 0)).setCell ⟨X + 1 + 1 + 1, 3, none⟩ (vi by_)).setCell ⟨X + 1 + 1 + 1, 4, none⟩ (vi hm)).setCell ⟨X + 1 + 1 + 1, 5, none⟩ (vi 0)).setCell ⟨X + 1 + 1 + 1, 6, none⟩ (.bool false)).setCell ⟨X + 1 + 1 + 1, 7, none⟩ (vi 0)).drew = wz at *
    have r0 : wz.cell? ⟨X + 1 + 1, 0, none⟩ = some (.bool ys.serial) := (by rw [cell_of HT.out.1]; rfl)
    have r1 : wz.cell? ⟨X + 1 + 1, 1, none⟩ = some (vi ys.bugs) := (by rw [cell_of HT.out.1]; rfl)
    have r2 : wz.cell? ⟨X + 1 + 1, 2, none⟩ = some (.slice d1 ys.vs.length g1) := (by rw [cell_of HT.out.1]; rfl)
    have r3 : wz.cell? ⟨X + 1 + 1, 3, none⟩ = some (.slice d2 ys.ws.length g2) := (by rw [cell_of HT.out.1]; rfl)
    have r4 : wz.cell? ⟨X + 1 + 1, 4, none⟩ = some (.slice d3 ys.es.length g3) := (by rw [cell_of HT.out.1]; rfl)
    have r5 : wz.cell? ⟨X + 1 + 1, 5, none⟩ = some (vi x.m.stamps) := (by rw [cell_of HT.out.1]; rfl)
    have r6 : wz.cell? ⟨X + 1 + 1, 6, none⟩ = some (vi x.m.now) := (by rw [cell_of HT.out.1]; rfl)
    have r7 : wz.cell? ⟨X + 1 + 1, 7, none⟩ = some (.slice a4 x.m.ds.length c4) := (by rw [cell_of HT.out.1]; rfl)
    have s0 : wz.cell? ⟨X + 1 + 1 + 1, 0, none⟩ = some (vi 60) := (by rw [cell_of HT.out.2.1]; rfl)
    have s1 : wz.cell? ⟨X + 1 + 1 + 1, 1, none⟩ = some (.slice none 0 0) := (by rw [cell_of HT.out.2.1]; rfl)
    have s2 : wz.cell? ⟨X + 1 + 1 + 1, 2, none⟩ = some (vi 0) := (by rw [cell_of HT.out.2.1]; rfl)
    have s3 : wz.cell? ⟨X + 1 + 1 + 1, 3, none⟩ = some (vi by_) := (by rw [cell_of HT.out.2.1]; rfl)
    have s4 : wz.cell? ⟨X + 1 + 1 + 1, 4, none⟩ = some (vi hm) := (by rw [cell_of HT.out.2.1]; rfl)
    have s5 : wz.cell? ⟨X + 1 + 1 + 1, 5, none⟩ = some (vi 0) := (by rw [cell_of HT.out.2.1]; rfl)
    have s6 : wz.cell? ⟨X + 1 + 1 + 1, 6, none⟩ = some (.bool false) := (by rw [cell_of HT.out.2.1]; rfl)
    have s7 : wz.cell? ⟨X + 1 + 1 + 1, 7, none⟩ = some (vi 0) := (by rw [cell_of HT.out.2.1]; rfl)
    go_wp2_with fail
    refine bodyPost_ret (v := .tuple #[.agg #[.bool ys.serial, vi ys.bugs, .slice d1 ys.vs.length g1, .slice d2 ys.ws.length g2, .slice d3 ys.es.length g3, vi x.m.stamps, vi x.m.now, .slice a4 x.m.ds.length c4], .agg #[vi 60, .slice none 0 0, vi 0, vi by_, vi hm, vi 0, .bool false, vi 0]]) (by simp [results, Try.results16, go_sem, r0, r1, r2, r3, r4, r5, r6, r7, s0, s1, s2, s3, s4, s5, s6, s7]) rfl ?_
    have hq : prep21 x.m r = (⟨ys, x.m.stamps, x.m.now, x.m.ds⟩, ⟨60, [], 0, by_, hm, zeroE'⟩) := by
      unfold prep21
      rw [← HBY.out, ← HER.out, ← HS7.out]
      rw [if_pos rfl, ← HHM.out]
    rw [hq]
    have hX := HXX.out
    have h4 := H4S.out
    have hP7 := HP.out
    have hw7 := HB7.out.size
    have := ap_ret2 (wf := w7) (y := ⟨.slice d1 ys.vs.length g1, .slice d2 ys.ws.length g2, .slice d3 ys.es.length g3, ys⟩) (q := (⟨ys, x.m.stamps, x.m.now, x.m.ds⟩, ⟨60, [], 0, by_, hm, zeroE'⟩)) HXA.out HHA.out HBW.out H4S.out HB7.out HK7.out (fun j h1 h2 => (HT.out.2.2.1 j (by omega) (by omega)).trans ((HO8.out j (by omega)).trans ((HOk.out j (by omega) (Nat.lt_of_lt_of_le h2 H9B.out.size)).trans (H9B.out.block j h2)))) ((HBk.out.trans HB8.out).trans HT.out.2.2.2) rfl rfl
    have he : shV ⟨.slice d1 ys.vs.length g1, .slice d2 ys.ws.length g2, .slice d3 ys.es.length g3, x.dv, ⟨ys, x.m.stamps, x.m.now, x.m.ds⟩⟩ = .agg #[.bool ys.serial, vi ys.bugs, .slice d1 ys.vs.length g1, .slice d2 ys.ws.length g2, .slice d3 ys.es.length g3, vi x.m.stamps, vi x.m.now, .slice a4 x.m.ds.length c4] := by unfold shV shC; rw [HXE.out]
    rw [he] at this
    exact this
  · have he' := he
    have HPk := H9P
    have HQk := H9Q
    have HSk := HS9
    have HRk := HR9
    have hRAk := hRA9
    have HBk := Lib.hid (H9B.out.mono (show w.heap.size ≤ w7.heap.size by have := HBW.out.size; have := HB7.out.size; omega))
    have k1 : decide (err = 60) = false := decide_eq_false he
    have k2 : (err == 60) = false := by simpa using he
    have p0 : w9.cell? ⟨P, 0, none⟩ = some (.bool ys.serial) := (by rw [cell_of HPk.out]; rfl)
    have p1 : w9.cell? ⟨P, 1, none⟩ = some (vi ys.bugs) := (by rw [cell_of HPk.out]; rfl)
    have p2 : w9.cell? ⟨P, 2, none⟩ = some (.slice d1 ys.vs.length g1) := (by rw [cell_of HPk.out]; rfl)
    have p3 : w9.cell? ⟨P, 3, none⟩ = some (.slice d2 ys.ws.length g2) := (by rw [cell_of HPk.out]; rfl)
    have p4 : w9.cell? ⟨P, 4, none⟩ = some (.slice d3 ys.es.length g3) := (by rw [cell_of HPk.out]; rfl)
    have t0 : w9.cell? ⟨P + 1, 0, none⟩ = some (vi err) := (by rw [cell_of HQk.out]; rfl)
    have t1 : w9.cell? ⟨P + 1, 1, none⟩ = some (.slice none 0 0) := (by rw [cell_of HQk.out]; rfl)
    have t2 : w9.cell? ⟨P + 1, 2, none⟩ = some (vi 0) := (by rw [cell_of HQk.out]; rfl)
    have t3 : w9.cell? ⟨P + 1, 3, none⟩ = some (vi by_) := (by rw [cell_of HQk.out]; rfl)
    have t4 : w9.cell? ⟨P + 1, 4, none⟩ = some (vi 0) := (by rw [cell_of HQk.out]; rfl)
    have t5 : w9.cell? ⟨P + 1, 5, none⟩ = some (vi 0) := (by rw [cell_of HQk.out]; rfl)
    have t6 : w9.cell? ⟨P + 1, 6, none⟩ = some (.bool false) := (by rw [cell_of HQk.out]; rfl)
    have t7 : w9.cell? ⟨P + 1, 7, none⟩ = some (vi 0) := (by rw [cell_of HQk.out]; rfl)
    have y0 : w9.cell? ⟨X, 0, none⟩ = some (.bool x.m.s.serial) := (by rw [cell_of HSk.out]; rfl)
    have y1 : w9.cell? ⟨X, 1, none⟩ = some (vi x.m.s.bugs) := (by rw [cell_of HSk.out]; rfl)
    have y2 : w9.cell? ⟨X, 2, none⟩ = some (.slice a1 x.m.s.vs.length c1) := (by rw [cell_of HSk.out]; rfl)
    have y3 : w9.cell? ⟨X, 3, none⟩ = some (.slice a2 x.m.s.ws.length c2) := (by rw [cell_of HSk.out]; rfl)
    have y4 : w9.cell? ⟨X, 4, none⟩ = some (.slice a3 x.m.s.es.length c3) := (by rw [cell_of HSk.out]; rfl)
    have y5 : w9.cell? ⟨X, 5, none⟩ = some (vi x.m.stamps) := (by rw [cell_of HSk.out]; rfl)
    have y6 : w9.cell? ⟨X, 6, none⟩ = some (vi x.m.now) := (by rw [cell_of HSk.out]; rfl)
    have y7 : w9.cell? ⟨X, 7, none⟩ = some (.slice a4 x.m.ds.length c4) := (by rw [cell_of HSk.out]; rfl)
    have xf : ∀ j, w9.frozen? ⟨X, j, none⟩ = false := fun j => free_of HSk.out j
    go_upto_region 24 with fail
    have hS8 := rn_set58 (.bool ys.serial) (vi ys.bugs) (.slice d1 ys.vs.length g1) (.slice d2 ys.ws.length g2) (.slice d3 ys.es.length g3) HSk.out
    have HS8 := Lib.hid hS8
    have ho8 : ∀ j, j ≠ X → (((((w9.setCell ⟨X, 0, none⟩ (.bool ys.serial)).setCell ⟨X, 1, none⟩ (vi ys.bugs)).setCell ⟨X, 2, none⟩ (.slice d1 ys.vs.length g1)).setCell ⟨X, 3, none⟩ (.slice d2 ys.ws.length g2)).setCell ⟨X, 4, none⟩ (.slice d3 ys.es.length g3)).heap[j]? = w9.heap[j]? := fun j hj => rn_oth5s hj
    have HO8 := Lib.hid ho8
    have hb8 : Below w.heap.size w9 (((((w9.setCell ⟨X, 0, none⟩ (.bool ys.serial)).setCell ⟨X, 1, none⟩ (vi ys.bugs)).setCell ⟨X, 2, none⟩ (.slice d1 ys.vs.length g1)).setCell ⟨X, 3, none⟩ (.slice d2 ys.ws.length g2)).setCell ⟨X, 4, none⟩ (.slice d3 ys.es.length g3)) := rn_below5 (b := X) (.bool ys.serial) (vi ys.bugs) (.slice d1 ys.vs.length g1) (.slice d2 ys.ws.length g2) (.slice d3 ys.es.length g3) (by have := HXX.out; omega)
    have HB8 := Lib.hid hb8
    have hRS := Lib.hid ((ho8 (X + 1 + 1) (by omega)).trans HRk.out)
    have hRA := Lib.hid ((ho8 (X + 1 + 1 + 1) (by omega)).trans hRAk.out)
    have HQ8 := Lib.hid ((ho8 (P + 1) (by omega)).trans HQk.out)
    clear hS8 ho8 hb8 xf p0 p1 p2 p3 p4 t0 t1 t2 t3 t4 t5 t6 t7 y0 y1 y2 y3 y4 y5 y6 y7
    generalize (((((w9.setCell ⟨X, 0, none⟩ (.bool ys.serial)).setCell ⟨X, 1, none⟩ (vi ys.bugs)).setCell ⟨X, 2, none⟩ (.slice d1 ys.vs.length g1)).setCell ⟨X, 3, none⟩ (.slice d2 ys.ws.length g2)).setCell ⟨X, 4, none⟩ (.slice d3 ys.es.length g3)) = w8 at *
    have x0 : w8.cell? ⟨X, 0, none⟩ = some (.bool ys.serial) := (by rw [cell_of HS8.out]; rfl)
    have x1 : w8.cell? ⟨X, 1, none⟩ = some (vi ys.bugs) := (by rw [cell_of HS8.out]; rfl)
    have x2 : w8.cell? ⟨X, 2, none⟩ = some (.slice d1 ys.vs.length g1) := (by rw [cell_of HS8.out]; rfl)
    have x3 : w8.cell? ⟨X, 3, none⟩ = some (.slice d2 ys.ws.length g2) := (by rw [cell_of HS8.out]; rfl)
    have x4 : w8.cell? ⟨X, 4, none⟩ = some (.slice d3 ys.es.length g3) := (by rw [cell_of HS8.out]; rfl)
    have x5 : w8.cell? ⟨X, 5, none⟩ = some (vi x.m.stamps) := (by rw [cell_of HS8.out]; rfl)
    have x6 : w8.cell? ⟨X, 6, none⟩ = some (vi x.m.now) := (by rw [cell_of HS8.out]; rfl)
    have x7 : w8.cell? ⟨X, 7, none⟩ = some (.slice a4 x.m.ds.length c4) := (by rw [cell_of HS8.out]; rfl)
    have t0 : w8.cell? ⟨P + 1, 0, none⟩ = some (vi err) := (by rw [cell_of HQ8.out]; rfl)
    have t1 : w8.cell? ⟨P + 1, 1, none⟩ = some (.slice none 0 0) := (by rw [cell_of HQ8.out]; rfl)
    have t2 : w8.cell? ⟨P + 1, 2, none⟩ = some (vi 0) := (by rw [cell_of HQ8.out]; rfl)
    have t3 : w8.cell? ⟨P + 1, 3, none⟩ = some (vi by_) := (by rw [cell_of HQ8.out]; rfl)
    have t4 : w8.cell? ⟨P + 1, 4, none⟩ = some (vi 0) := (by rw [cell_of HQ8.out]; rfl)
    have t5 : w8.cell? ⟨P + 1, 5, none⟩ = some (vi 0) := (by rw [cell_of HQ8.out]; rfl)
    have t6 : w8.cell? ⟨P + 1, 6, none⟩ = some (.bool false) := (by rw [cell_of HQ8.out]; rfl)
    have t7 : w8.cell? ⟨P + 1, 7, none⟩ = some (vi 0) := (by rw [cell_of HQ8.out]; rfl)
    have HT := Lib.hid (two_std (W := w8) (b := X + 1 + 1) (N := w.heap.size) (.bool ys.serial) (vi ys.bugs) (.slice d1 ys.vs.length g1) (.slice d2 ys.ws.length g2) (.slice d3 ys.es.length g3) (vi x.m.stamps) (vi x.m.now) (.slice a4 x.m.ds.length c4) (vi err) (.slice none 0 0) (vi 0) (vi by_) (vi 0) (vi 0) (.bool false) (vi 0) hRS.out hRA.out (by have := HXX.out; omega))
    have q0 : w8.cell? ⟨X + 1 + 1, 0, none⟩ = some (.bool false) := (by rw [cell_of hRS.out]; rfl)
    have q1 : w8.cell? ⟨X + 1 + 1, 1, none⟩ = some (vi 0) := (by rw [cell_of hRS.out]; rfl)
    have q2 : w8.cell? ⟨X + 1 + 1, 2, none⟩ = some (.slice none 0 0) := (by rw [cell_of hRS.out]; rfl)
    have q3 : w8.cell? ⟨X + 1 + 1, 3, none⟩ = some (.slice none 0 0) := (by rw [cell_of hRS.out]; rfl)
    have q4 : w8.cell? ⟨X + 1 + 1, 4, none⟩ = some (.slice none 0 0) := (by rw [cell_of hRS.out]; rfl)
    have q5 : w8.cell? ⟨X + 1 + 1, 5, none⟩ = some (vi 0) := (by rw [cell_of hRS.out]; rfl)
    have q6 : w8.cell? ⟨X + 1 + 1, 6, none⟩ = some (vi 0) := (by rw [cell_of hRS.out]; rfl)
    have q7 : w8.cell? ⟨X + 1 + 1, 7, none⟩ = some (.slice none 0 0) := (by rw [cell_of hRS.out]; rfl)
    have z0 : w8.cell? ⟨X + 1 + 1 + 1, 0, none⟩ = some (vi 0) := (by rw [cell_of hRA.out]; rfl)
    have z1 : w8.cell? ⟨X + 1 + 1 + 1, 1, none⟩ = some (.slice none 0 0) := (by rw [cell_of hRA.out]; rfl)
    have z2 : w8.cell? ⟨X + 1 + 1 + 1, 2, none⟩ = some (vi 0) := (by rw [cell_of hRA.out]; rfl)
    have z3 : w8.cell? ⟨X + 1 + 1 + 1, 3, none⟩ = some (vi 0) := (by rw [cell_of hRA.out]; rfl)
    have z4 : w8.cell? ⟨X + 1 + 1 + 1, 4, none⟩ = some (vi 0) := (by rw [cell_of hRA.out]; rfl)
    have z5 : w8.cell? ⟨X + 1 + 1 + 1, 5, none⟩ = some (vi 0) := (by rw [cell_of hRA.out]; rfl)
    have z6 : w8.cell? ⟨X + 1 + 1 + 1, 6, none⟩ = some (.bool false) := (by rw [cell_of hRA.out]; rfl)
    have z7 : w8.cell? ⟨X + 1 + 1 + 1, 7, none⟩ = some (vi 0) := (by rw [cell_of hRA.out]; rfl)
    have qf : ∀ j, w8.frozen? ⟨X + 1 + 1, j, none⟩ = false := fun j => free_of hRS.out j
    have zf : ∀ j, w8.frozen? ⟨X + 1 + 1 + 1, j, none⟩ = false := fun j => free_of hRA.out j
    go_region
    generalize ((((((((((((((((w8.setCell ⟨X + 1 + 1, 0, none⟩ (.bool ys.serial)).setCell ⟨X + 1 + 1, 1, none⟩ (vi ys.bugs)).setCell ⟨X + 1 + 1, 2, none⟩ (.slice d1 ys.vs.length g1)).setCell ⟨X + 1 + 1, 3, none⟩ (.slice d2 ys.ws.length g2)).setCell ⟨X + 1 + 1, 4, none⟩ (.slice d3 ys.es.length g3)).setCell ⟨X + 1 + 1, 5, none⟩ (vi x.m.stamps)).setCell ⟨X + 1 + 1, 6, none⟩ (vi x.m.now)).setCell ⟨X + 1 + 1, 7, none⟩ (.slice a4 x.m.ds.length c4)).setCell ⟨X + 1 + 1 + 1, 0, none⟩ (vi err)).setCell ⟨X + 1 + 1 + 1, 1, none⟩ (.slice none 0 0)).setCell ⟨X + 1 + 1 + 1, 2, none⟩ (vi 0)).setCell ⟨X + 1 + 1 + 1, 3, none⟩ (vi by_)).setCell ⟨X + 1 + 1 + 1, 4, none⟩ (vi 0)).setCell ⟨X + 1 + 1 + 1, 5, none⟩ (vi 0)).setCell ⟨X + 1 + 1 + 1, 6, none⟩ (.bool false)).setCell ⟨X + 1 + 1 + 1, 7, none⟩ (vi 0)).drew = wz at *
    have r0 : wz.cell? ⟨X + 1 + 1, 0, none⟩ = some (.bool ys.serial) := (by rw [cell_of HT.out.1]; rfl)
    have r1 : wz.cell? ⟨X + 1 + 1, 1, none⟩ = some (vi ys.bugs) := (by rw [cell_of HT.out.1]; rfl)
    have r2 : wz.cell? ⟨X + 1 + 1, 2, none⟩ = some (.slice d1 ys.vs.length g1) := (by rw [cell_of HT.out.1]; rfl)
    have r3 : wz.cell? ⟨X + 1 + 1, 3, none⟩ = some (.slice d2 ys.ws.length g2) := (by rw [cell_of HT.out.1]; rfl)
    have r4 : wz.cell? ⟨X + 1 + 1, 4, none⟩ = some (.slice d3 ys.es.length g3) := (by rw [cell_of HT.out.1]; rfl)
    have r5 : wz.cell? ⟨X + 1 + 1, 5, none⟩ = some (vi x.m.stamps) := (by rw [cell_of HT.out.1]; rfl)
    have r6 : wz.cell? ⟨X + 1 + 1, 6, none⟩ = some (vi x.m.now) := (by rw [cell_of HT.out.1]; rfl)
    have r7 : wz.cell? ⟨X + 1 + 1, 7, none⟩ = some (.slice a4 x.m.ds.length c4) := (by rw [cell_of HT.out.1]; rfl)
    have s0 : wz.cell? ⟨X + 1 + 1 + 1, 0, none⟩ = some (vi err) := (by rw [cell_of HT.out.2.1]; rfl)
    have s1 : wz.cell? ⟨X + 1 + 1 + 1, 1, none⟩ = some (.slice none 0 0) := (by rw [cell_of HT.out.2.1]; rfl)
    have s2 : wz.cell? ⟨X + 1 + 1 + 1, 2, none⟩ = some (vi 0) := (by rw [cell_of HT.out.2.1]; rfl)
    have s3 : wz.cell? ⟨X + 1 + 1 + 1, 3, none⟩ = some (vi by_) := (by rw [cell_of HT.out.2.1]; rfl)
    have s4 : wz.cell? ⟨X + 1 + 1 + 1, 4, none⟩ = some (vi 0) := (by rw [cell_of HT.out.2.1]; rfl)
    have s5 : wz.cell? ⟨X + 1 + 1 + 1, 5, none⟩ = some (vi 0) := (by rw [cell_of HT.out.2.1]; rfl)
    have s6 : wz.cell? ⟨X + 1 + 1 + 1, 6, none⟩ = some (.bool false) := (by rw [cell_of HT.out.2.1]; rfl)
    have s7 : wz.cell? ⟨X + 1 + 1 + 1, 7, none⟩ = some (vi 0) := (by rw [cell_of HT.out.2.1]; rfl)
    go_wp2_with fail
    refine bodyPost_ret (v := .tuple #[.agg #[.bool ys.serial, vi ys.bugs, .slice d1 ys.vs.length g1, .slice d2 ys.ws.length g2, .slice d3 ys.es.length g3, vi x.m.stamps, vi x.m.now, .slice a4 x.m.ds.length c4], .agg #[vi err, .slice none 0 0, vi 0, vi by_, vi 0, vi 0, .bool false, vi 0]]) (by simp [results, Try.results16, go_sem, r0, r1, r2, r3, r4, r5, r6, r7, s0, s1, s2, s3, s4, s5, s6, s7]) rfl ?_
    have hq : prep21 x.m r = (⟨ys, x.m.stamps, x.m.now, x.m.ds⟩, ⟨err, [], 0, by_, 0, zeroE'⟩) := by
      unfold prep21
      rw [← HBY.out, ← HER.out, ← HS7.out]
      rw [if_neg he]
    rw [hq]
    have hX := HXX.out
    have h4 := H4S.out
    have hP7 := HP.out
    have hw7 := HB7.out.size
    have := ap_ret2 (wf := w7) (y := ⟨.slice d1 ys.vs.length g1, .slice d2 ys.ws.length g2, .slice d3 ys.es.length g3, ys⟩) (q := (⟨ys, x.m.stamps, x.m.now, x.m.ds⟩, ⟨err, [], 0, by_, 0, zeroE'⟩)) HXA.out HHA.out HBW.out H4S.out HB7.out HK7.out (fun j h1 h2 => (HT.out.2.2.1 j (by omega) (by omega)).trans ((HO8.out j (by omega)).trans (H9B.out.block j h2))) ((HBk.out.trans HB8.out).trans HT.out.2.2.2) rfl rfl
    have he : shV ⟨.slice d1 ys.vs.length g1, .slice d2 ys.ws.length g2, .slice d3 ys.es.length g3, x.dv, ⟨ys, x.m.stamps, x.m.now, x.m.ds⟩⟩ = .agg #[.bool ys.serial, vi ys.bugs, .slice d1 ys.vs.length g1, .slice d2 ys.ws.length g2, .slice d3 ys.es.length g3, vi x.m.stamps, vi x.m.now, .slice a4 x.m.ds.length c4] := by unfold shV shC; rw [HXE.out]
    rw [he] at this
    exact this
end Go.Proofs.Ytdkkpkgfiodlbaa

/- Layer 21's reference: Apply, a stamp. Printed by wip/gen/gen_ap21d.py. -/
namespace Go.Proofs.Ytdkkpkgfiodlbaa
open Go.RowKit Go.Maps
attribute [local go_sem] Oper.semAt_some

theorem ap_ret1 {A w w4 wz : World} {x y : RSh} {q : ShM × Ans} (hx : RdSh A x) (hA : ALe A w) (hb : Below w.heap.size w w4) (hz : Below w.heap.size w4 wz) (hv : y.vv = x.vv ∧ y.wv = x.wv ∧ y.ev = x.ev ∧ y.dv = x.dv ∧ y.m.s = x.m.s ∧ y.m.ds = x.m.ds) (hm : y.m = q.1) (h0 : q.2.vals = []) :
    ApR A w q (.returned (.tuple #[shV y, ansV q.2 (.slice none 0 0)])) wz := by
  obtain ⟨vv, wv, ev, dv, m⟩ := y
  obtain ⟨rfl, rfl, rfl, rfl, h5, h6⟩ := hv
  have hbb := hb.trans hz
  refine ⟨_, _, rfl, hm, hbb, fun W' hs _ => ⟨?_, by rw [h0]; exact rdv_nil _⟩⟩
  have hx' : RdSh W' x := hx.le hs
  simp only at h5 h6
  refine ⟨?_, ?_⟩
  · have := hx'.st; unfold RSh.st at this ⊢; simp only [h5]; exact this
  · have := hx'.ds; simp only [h6]; exact this
set_option maxRecDepth 1000000 in
set_option maxHeartbeats 16000000 in
theorem apply1_call (A : World) (x : RSh) (r : Rdy) (en : EndM) (wv rv : Value) (w : World) (hxA : RdSh A x) (hA : ALe A w) (hn : 0 ≤ x.m.now ∧ x.m.now ≤ 1000000) :
    Calls Try.prog 16 #[shV x, cmdV ⟨1, r, en⟩ wv rv] w (ApR A w (stamp21 x.m)) := by
  obtain ⟨a1, c1, a2, c2, a3, c3, a4, c4, hxe, hmw, hmd⟩ := hxA.shapes
  have HXA := Lib.hid hxA
  have HHA := Lib.hid hA
  have HA := Lib.hid (ApB.start w x ⟨1, r, en⟩ wv rv)
  clear hxA hA
  have hsc : shC x = #[.bool x.m.s.serial, vi x.m.s.bugs, .slice a1 x.m.s.vs.length c1, .slice a2 x.m.s.ws.length c2, .slice a3 x.m.s.es.length c3, vi x.m.stamps, vi x.m.now, .slice a4 x.m.ds.length c4] := by rw [hxe]; rfl
  have HXE := Lib.hid hxe
  have HSC := Lib.hid hsc
  have hwn : IntKind.i64.wrap (x.m.now + 1) = x.m.now + 1 := IntWalk.i64_in _ (by omega)
  unfold shV
  unfold cmdV
  rw [hsc] at HA ⊢
  clear hxe hsc
  unfold cmdC at HA ⊢
  go_enter Try.func16, Try.ntmps16
  go_upto_region 1 with fail
  generalize ((((w.alloc (.cells #[.bool x.m.s.serial, vi x.m.s.bugs, .slice a1 x.m.s.vs.length c1, .slice a2 x.m.s.ws.length c2, .slice a3 x.m.s.es.length c3, vi x.m.stamps, vi x.m.now, .slice a4 x.m.ds.length c4] 54)).alloc (.cells #[vi 1, vi r.txn, vi r.home, vi r.start, wv, rv, vi en.txn, .bool en.commit, vi en.at_] 63)).alloc (.cells #[.bool false, vi 0, .slice none 0 0, .slice none 0 0, .slice none 0 0, vi 0, vi 0, .slice none 0 0] 54)).alloc (.cells #[vi 0, .slice none 0 0, vi 0, vi 0, vi 0, vi 0, .bool false, vi 0] 58)) = w4 at *
  have HS0 := HA.out.st
  rw [HSC.out] at HS0
  have HC0 := HA.out.cmd
  unfold cmdC at HC0
  obtain ⟨X, hX⟩ : ∃ X, X = w.heap.size := ⟨_, rfl⟩
  have HRS := HA.out.rs
  have HRA := HA.out.ra
  rw [← hX] at HS0 HC0 HRS HRA ⊢
  have hS0 := Lib.hid HS0
  have hC0 := Lib.hid HC0
  have hRS := Lib.hid HRS
  have hRA := Lib.hid HRA
  have HXX := Lib.hid hX
  clear hX HS0 HC0 HRS HRA
  have x0 : w4.cell? ⟨X, 0, none⟩ = some (.bool x.m.s.serial) := by rw [cell_of hS0.out]; rfl
  have x1 : w4.cell? ⟨X, 1, none⟩ = some (vi x.m.s.bugs) := by rw [cell_of hS0.out]; rfl
  have x2 : w4.cell? ⟨X, 2, none⟩ = some (.slice a1 x.m.s.vs.length c1) := by rw [cell_of hS0.out]; rfl
  have x3 : w4.cell? ⟨X, 3, none⟩ = some (.slice a2 x.m.s.ws.length c2) := by rw [cell_of hS0.out]; rfl
  have x4 : w4.cell? ⟨X, 4, none⟩ = some (.slice a3 x.m.s.es.length c3) := by rw [cell_of hS0.out]; rfl
  have x5 : w4.cell? ⟨X, 5, none⟩ = some (vi x.m.stamps) := by rw [cell_of hS0.out]; rfl
  have x6 : w4.cell? ⟨X, 6, none⟩ = some (vi x.m.now) := by rw [cell_of hS0.out]; rfl
  have x7 : w4.cell? ⟨X, 7, none⟩ = some (.slice a4 x.m.ds.length c4) := by rw [cell_of hS0.out]; rfl
  have m0 : w4.cell? ⟨X + 1, 0, none⟩ = some (vi 1) := by rw [cell_of hC0.out]; rfl
  by_cases hs : x.m.stamps ≤ x.m.now
  · have k1 : decide (x.m.stamps ≤ x.m.now) = true := decide_eq_true hs
    have HT := Lib.hid (two_st (W := w4) (b := X + 1 + 1) (N := w.heap.size) (.bool x.m.s.serial) (vi x.m.s.bugs) (.slice a1 x.m.s.vs.length c1) (.slice a2 x.m.s.ws.length c2) (.slice a3 x.m.s.es.length c3) (vi x.m.stamps) (vi x.m.now) (.slice a4 x.m.ds.length c4) (vi 63) (.slice none 0 0) (vi 0) (vi 0) (vi 0) (vi 0) (.bool false) (vi 0) hRS.out hRA.out (by have := HXX.out; omega))
    have q0 : w4.cell? ⟨X + 1 + 1, 0, none⟩ = some (.bool false) := by rw [cell_of hRS.out]; rfl
    have q1 : w4.cell? ⟨X + 1 + 1, 1, none⟩ = some (vi 0) := by rw [cell_of hRS.out]; rfl
    have q2 : w4.cell? ⟨X + 1 + 1, 2, none⟩ = some (.slice none 0 0) := by rw [cell_of hRS.out]; rfl
    have q3 : w4.cell? ⟨X + 1 + 1, 3, none⟩ = some (.slice none 0 0) := by rw [cell_of hRS.out]; rfl
    have q4 : w4.cell? ⟨X + 1 + 1, 4, none⟩ = some (.slice none 0 0) := by rw [cell_of hRS.out]; rfl
    have q5 : w4.cell? ⟨X + 1 + 1, 5, none⟩ = some (vi 0) := by rw [cell_of hRS.out]; rfl
    have q6 : w4.cell? ⟨X + 1 + 1, 6, none⟩ = some (vi 0) := by rw [cell_of hRS.out]; rfl
    have q7 : w4.cell? ⟨X + 1 + 1, 7, none⟩ = some (.slice none 0 0) := by rw [cell_of hRS.out]; rfl
    have z0 : w4.cell? ⟨X + 1 + 1 + 1, 0, none⟩ = some (vi 0) := by rw [cell_of hRA.out]; rfl
    have z1 : w4.cell? ⟨X + 1 + 1 + 1, 1, none⟩ = some (.slice none 0 0) := by rw [cell_of hRA.out]; rfl
    have z2 : w4.cell? ⟨X + 1 + 1 + 1, 2, none⟩ = some (vi 0) := by rw [cell_of hRA.out]; rfl
    have z3 : w4.cell? ⟨X + 1 + 1 + 1, 3, none⟩ = some (vi 0) := by rw [cell_of hRA.out]; rfl
    have z4 : w4.cell? ⟨X + 1 + 1 + 1, 4, none⟩ = some (vi 0) := by rw [cell_of hRA.out]; rfl
    have z5 : w4.cell? ⟨X + 1 + 1 + 1, 5, none⟩ = some (vi 0) := by rw [cell_of hRA.out]; rfl
    have z6 : w4.cell? ⟨X + 1 + 1 + 1, 6, none⟩ = some (.bool false) := by rw [cell_of hRA.out]; rfl
    have z7 : w4.cell? ⟨X + 1 + 1 + 1, 7, none⟩ = some (vi 0) := by rw [cell_of hRA.out]; rfl
    have qf : ∀ j, w4.frozen? ⟨X + 1 + 1, j, none⟩ = false := fun j => free_of hRS.out j
    have zf : ∀ j, w4.frozen? ⟨X + 1 + 1 + 1, j, none⟩ = false := fun j => free_of hRA.out j
    go_wp2_with fail
    generalize ((((((((((((((((w4.setCell ⟨X + 1 + 1, 0, none⟩ (.bool x.m.s.serial)).setCell ⟨X + 1 + 1, 1, none⟩ (vi x.m.s.bugs)).setCell ⟨X + 1 + 1, 2, none⟩ (.slice a1 x.m.s.vs.length c1)).setCell ⟨X + 1 + 1, 3, none⟩ (.slice a2 x.m.s.ws.length c2)).setCell ⟨X + 1 + 1, 4, none⟩ (.slice a3 x.m.s.es.length c3)).setCell ⟨X + 1 + 1, 5, none⟩ (vi x.m.stamps)).setCell ⟨X + 1 + 1, 6, none⟩ (vi x.m.now)).setCell ⟨X + 1 + 1, 7, none⟩ (.slice a4 x.m.ds.length c4)).setCell ⟨X + 1 + 1 + 1, 0, none⟩ (vi 63)).setCell ⟨X + 1 + 1 + 1, 1, none⟩ (.slice none 0 0)).setCell ⟨X + 1 + 1 + 1, 2, none⟩ (vi 0)).setCell ⟨X + 1 + 1 + 1, 3, none⟩ (vi 0)).setCell ⟨X + 1 + 1 + 1, 4, none⟩ (vi 0)).setCell ⟨X + 1 + 1 + 1, 5, none⟩ (vi 0)).setCell ⟨X + 1 + 1 + 1, 6, none⟩ (.bool false)).setCell ⟨X + 1 + 1 + 1, 7, none⟩ (vi 0)) = wz at *
    have r0 : wz.cell? ⟨X + 1 + 1, 0, none⟩ = some (.bool x.m.s.serial) := by rw [cell_of HT.out.1]; rfl
    have r1 : wz.cell? ⟨X + 1 + 1, 1, none⟩ = some (vi x.m.s.bugs) := by rw [cell_of HT.out.1]; rfl
    have r2 : wz.cell? ⟨X + 1 + 1, 2, none⟩ = some (.slice a1 x.m.s.vs.length c1) := by rw [cell_of HT.out.1]; rfl
    have r3 : wz.cell? ⟨X + 1 + 1, 3, none⟩ = some (.slice a2 x.m.s.ws.length c2) := by rw [cell_of HT.out.1]; rfl
    have r4 : wz.cell? ⟨X + 1 + 1, 4, none⟩ = some (.slice a3 x.m.s.es.length c3) := by rw [cell_of HT.out.1]; rfl
    have r5 : wz.cell? ⟨X + 1 + 1, 5, none⟩ = some (vi x.m.stamps) := by rw [cell_of HT.out.1]; rfl
    have r6 : wz.cell? ⟨X + 1 + 1, 6, none⟩ = some (vi x.m.now) := by rw [cell_of HT.out.1]; rfl
    have r7 : wz.cell? ⟨X + 1 + 1, 7, none⟩ = some (.slice a4 x.m.ds.length c4) := by rw [cell_of HT.out.1]; rfl
    have s0 : wz.cell? ⟨X + 1 + 1 + 1, 0, none⟩ = some (vi 63) := by rw [cell_of HT.out.2.1]; rfl
    have s1 : wz.cell? ⟨X + 1 + 1 + 1, 1, none⟩ = some (.slice none 0 0) := by rw [cell_of HT.out.2.1]; rfl
    have s2 : wz.cell? ⟨X + 1 + 1 + 1, 2, none⟩ = some (vi 0) := by rw [cell_of HT.out.2.1]; rfl
    have s3 : wz.cell? ⟨X + 1 + 1 + 1, 3, none⟩ = some (vi 0) := by rw [cell_of HT.out.2.1]; rfl
    have s4 : wz.cell? ⟨X + 1 + 1 + 1, 4, none⟩ = some (vi 0) := by rw [cell_of HT.out.2.1]; rfl
    have s5 : wz.cell? ⟨X + 1 + 1 + 1, 5, none⟩ = some (vi 0) := by rw [cell_of HT.out.2.1]; rfl
    have s6 : wz.cell? ⟨X + 1 + 1 + 1, 6, none⟩ = some (.bool false) := by rw [cell_of HT.out.2.1]; rfl
    have s7 : wz.cell? ⟨X + 1 + 1 + 1, 7, none⟩ = some (vi 0) := by rw [cell_of HT.out.2.1]; rfl
    refine bodyPost_ret (v := .tuple #[.agg #[.bool x.m.s.serial, vi x.m.s.bugs, .slice a1 x.m.s.vs.length c1, .slice a2 x.m.s.ws.length c2, .slice a3 x.m.s.es.length c3, vi x.m.stamps, vi x.m.now, .slice a4 x.m.ds.length c4], .agg #[vi 63, .slice none 0 0, vi 0, vi 0, vi 0, vi 0, .bool false, vi 0]]) (by simp [results, Try.results16, go_sem, r0, r1, r2, r3, r4, r5, r6, r7, s0, s1, s2, s3, s4, s5, s6, s7]) rfl ?_
    have hq : stamp21 x.m = (x.m, ⟨63, [], 0, 0, 0, zeroE'⟩) := if_pos hs
    rw [hq]
    have := ap_ret1 (y := x) (q := (x.m, ⟨63, [], 0, 0, 0, zeroE'⟩)) HXA.out HHA.out HA.out.below HT.out.2.2.2 ⟨rfl, rfl, rfl, rfl, rfl, rfl⟩ rfl rfl
    unfold shV at this
    rw [HSC.out] at this
    exact this
  · have k1 : decide (x.m.stamps ≤ x.m.now) = false := decide_eq_false hs
    have xf : w4.frozen? ⟨X, 6, none⟩ = false := free_of hS0.out 6
    go_upto_region 6 with fail
    have hN1 : w.heap.size = X := HXX.out.symm
    have hb5 : Below w.heap.size w4 (w4.setCell ⟨X, 6, none⟩ (vi (x.m.now + 1))) := (Below.refl _ _).setCell (show w.heap.size ≤ X by omega) _
    have HB5 := Lib.hid hb5
    have hS5 := rn_set (o := 6) (vi (x.m.now + 1)) hS0.out
    have HS5 := Lib.hid (show (w4.setCell ⟨X, 6, none⟩ (vi (x.m.now + 1))).heap[X]? = some (.cells #[.bool x.m.s.serial, vi x.m.s.bugs, .slice a1 x.m.s.vs.length c1, .slice a2 x.m.s.ws.length c2, .slice a3 x.m.s.es.length c3, vi x.m.stamps, vi (x.m.now + 1), .slice a4 x.m.ds.length c4] 54) from hS5)
    have HRS5 := Lib.hid ((Below.heap_setCell w4 ⟨X, 6, none⟩ (vi (x.m.now + 1)) (X + 1 + 1) (show X + 1 + 1 ≠ X by omega)).trans hRS.out)
    have HRA5 := Lib.hid ((Below.heap_setCell w4 ⟨X, 6, none⟩ (vi (x.m.now + 1)) (X + 1 + 1 + 1) (show X + 1 + 1 + 1 ≠ X by omega)).trans hRA.out)
    clear hb5 hS5 hN1 x0 x1 x2 x3 x4 x5 x6 x7 m0 xf
    generalize w4.setCell ⟨X, 6, none⟩ (vi (x.m.now + 1)) = w5 at *
    have x0 : w5.cell? ⟨X, 0, none⟩ = some (.bool x.m.s.serial) := by rw [cell_of HS5.out]; rfl
    have x1 : w5.cell? ⟨X, 1, none⟩ = some (vi x.m.s.bugs) := by rw [cell_of HS5.out]; rfl
    have x2 : w5.cell? ⟨X, 2, none⟩ = some (.slice a1 x.m.s.vs.length c1) := by rw [cell_of HS5.out]; rfl
    have x3 : w5.cell? ⟨X, 3, none⟩ = some (.slice a2 x.m.s.ws.length c2) := by rw [cell_of HS5.out]; rfl
    have x4 : w5.cell? ⟨X, 4, none⟩ = some (.slice a3 x.m.s.es.length c3) := by rw [cell_of HS5.out]; rfl
    have x5 : w5.cell? ⟨X, 5, none⟩ = some (vi x.m.stamps) := by rw [cell_of HS5.out]; rfl
    have x6 : w5.cell? ⟨X, 6, none⟩ = some (vi (x.m.now + 1)) := by rw [cell_of HS5.out]; rfl
    have x7 : w5.cell? ⟨X, 7, none⟩ = some (.slice a4 x.m.ds.length c4) := by rw [cell_of HS5.out]; rfl
    have HT := Lib.hid (two_std (W := w5) (b := X + 1 + 1) (N := w.heap.size) (.bool x.m.s.serial) (vi x.m.s.bugs) (.slice a1 x.m.s.vs.length c1) (.slice a2 x.m.s.ws.length c2) (.slice a3 x.m.s.es.length c3) (vi x.m.stamps) (vi (x.m.now + 1)) (.slice a4 x.m.ds.length c4) (vi 0) (.slice none 0 0) (vi (x.m.now + 1)) (vi 0) (vi 0) (vi 0) (.bool false) (vi 0) HRS5.out HRA5.out (by have := HXX.out; omega))
    have q0 : w5.cell? ⟨X + 1 + 1, 0, none⟩ = some (.bool false) := by rw [cell_of HRS5.out]; rfl
    have q1 : w5.cell? ⟨X + 1 + 1, 1, none⟩ = some (vi 0) := by rw [cell_of HRS5.out]; rfl
    have q2 : w5.cell? ⟨X + 1 + 1, 2, none⟩ = some (.slice none 0 0) := by rw [cell_of HRS5.out]; rfl
    have q3 : w5.cell? ⟨X + 1 + 1, 3, none⟩ = some (.slice none 0 0) := by rw [cell_of HRS5.out]; rfl
    have q4 : w5.cell? ⟨X + 1 + 1, 4, none⟩ = some (.slice none 0 0) := by rw [cell_of HRS5.out]; rfl
    have q5 : w5.cell? ⟨X + 1 + 1, 5, none⟩ = some (vi 0) := by rw [cell_of HRS5.out]; rfl
    have q6 : w5.cell? ⟨X + 1 + 1, 6, none⟩ = some (vi 0) := by rw [cell_of HRS5.out]; rfl
    have q7 : w5.cell? ⟨X + 1 + 1, 7, none⟩ = some (.slice none 0 0) := by rw [cell_of HRS5.out]; rfl
    have z0 : w5.cell? ⟨X + 1 + 1 + 1, 0, none⟩ = some (vi 0) := by rw [cell_of HRA5.out]; rfl
    have z1 : w5.cell? ⟨X + 1 + 1 + 1, 1, none⟩ = some (.slice none 0 0) := by rw [cell_of HRA5.out]; rfl
    have z2 : w5.cell? ⟨X + 1 + 1 + 1, 2, none⟩ = some (vi 0) := by rw [cell_of HRA5.out]; rfl
    have z3 : w5.cell? ⟨X + 1 + 1 + 1, 3, none⟩ = some (vi 0) := by rw [cell_of HRA5.out]; rfl
    have z4 : w5.cell? ⟨X + 1 + 1 + 1, 4, none⟩ = some (vi 0) := by rw [cell_of HRA5.out]; rfl
    have z5 : w5.cell? ⟨X + 1 + 1 + 1, 5, none⟩ = some (vi 0) := by rw [cell_of HRA5.out]; rfl
    have z6 : w5.cell? ⟨X + 1 + 1 + 1, 6, none⟩ = some (.bool false) := by rw [cell_of HRA5.out]; rfl
    have z7 : w5.cell? ⟨X + 1 + 1 + 1, 7, none⟩ = some (vi 0) := by rw [cell_of HRA5.out]; rfl
    have qf : ∀ j, w5.frozen? ⟨X + 1 + 1, j, none⟩ = false := fun j => free_of HRS5.out j
    have zf : ∀ j, w5.frozen? ⟨X + 1 + 1 + 1, j, none⟩ = false := fun j => free_of HRA5.out j
    go_region
    generalize ((((((((((((((((w5.setCell ⟨X + 1 + 1, 0, none⟩ (.bool x.m.s.serial)).setCell ⟨X + 1 + 1, 1, none⟩ (vi x.m.s.bugs)).setCell ⟨X + 1 + 1, 2, none⟩ (.slice a1 x.m.s.vs.length c1)).setCell ⟨X + 1 + 1, 3, none⟩ (.slice a2 x.m.s.ws.length c2)).setCell ⟨X + 1 + 1, 4, none⟩ (.slice a3 x.m.s.es.length c3)).setCell ⟨X + 1 + 1, 5, none⟩ (vi x.m.stamps)).setCell ⟨X + 1 + 1, 6, none⟩ (vi (x.m.now + 1))).setCell ⟨X + 1 + 1, 7, none⟩ (.slice a4 x.m.ds.length c4)).setCell ⟨X + 1 + 1 + 1, 0, none⟩ (vi 0)).setCell ⟨X + 1 + 1 + 1, 1, none⟩ (.slice none 0 0)).setCell ⟨X + 1 + 1 + 1, 2, none⟩ (vi (x.m.now + 1))).setCell ⟨X + 1 + 1 + 1, 3, none⟩ (vi 0)).setCell ⟨X + 1 + 1 + 1, 4, none⟩ (vi 0)).setCell ⟨X + 1 + 1 + 1, 5, none⟩ (vi 0)).setCell ⟨X + 1 + 1 + 1, 6, none⟩ (.bool false)).setCell ⟨X + 1 + 1 + 1, 7, none⟩ (vi 0)).drew = wz at *
    have r0 : wz.cell? ⟨X + 1 + 1, 0, none⟩ = some (.bool x.m.s.serial) := by rw [cell_of HT.out.1]; rfl
    have r1 : wz.cell? ⟨X + 1 + 1, 1, none⟩ = some (vi x.m.s.bugs) := by rw [cell_of HT.out.1]; rfl
    have r2 : wz.cell? ⟨X + 1 + 1, 2, none⟩ = some (.slice a1 x.m.s.vs.length c1) := by rw [cell_of HT.out.1]; rfl
    have r3 : wz.cell? ⟨X + 1 + 1, 3, none⟩ = some (.slice a2 x.m.s.ws.length c2) := by rw [cell_of HT.out.1]; rfl
    have r4 : wz.cell? ⟨X + 1 + 1, 4, none⟩ = some (.slice a3 x.m.s.es.length c3) := by rw [cell_of HT.out.1]; rfl
    have r5 : wz.cell? ⟨X + 1 + 1, 5, none⟩ = some (vi x.m.stamps) := by rw [cell_of HT.out.1]; rfl
    have r6 : wz.cell? ⟨X + 1 + 1, 6, none⟩ = some (vi (x.m.now + 1)) := by rw [cell_of HT.out.1]; rfl
    have r7 : wz.cell? ⟨X + 1 + 1, 7, none⟩ = some (.slice a4 x.m.ds.length c4) := by rw [cell_of HT.out.1]; rfl
    have s0 : wz.cell? ⟨X + 1 + 1 + 1, 0, none⟩ = some (vi 0) := by rw [cell_of HT.out.2.1]; rfl
    have s1 : wz.cell? ⟨X + 1 + 1 + 1, 1, none⟩ = some (.slice none 0 0) := by rw [cell_of HT.out.2.1]; rfl
    have s2 : wz.cell? ⟨X + 1 + 1 + 1, 2, none⟩ = some (vi (x.m.now + 1)) := by rw [cell_of HT.out.2.1]; rfl
    have s3 : wz.cell? ⟨X + 1 + 1 + 1, 3, none⟩ = some (vi 0) := by rw [cell_of HT.out.2.1]; rfl
    have s4 : wz.cell? ⟨X + 1 + 1 + 1, 4, none⟩ = some (vi 0) := by rw [cell_of HT.out.2.1]; rfl
    have s5 : wz.cell? ⟨X + 1 + 1 + 1, 5, none⟩ = some (vi 0) := by rw [cell_of HT.out.2.1]; rfl
    have s6 : wz.cell? ⟨X + 1 + 1 + 1, 6, none⟩ = some (.bool false) := by rw [cell_of HT.out.2.1]; rfl
    have s7 : wz.cell? ⟨X + 1 + 1 + 1, 7, none⟩ = some (vi 0) := by rw [cell_of HT.out.2.1]; rfl
    go_wp2_with fail
    refine bodyPost_ret (v := .tuple #[.agg #[.bool x.m.s.serial, vi x.m.s.bugs, .slice a1 x.m.s.vs.length c1, .slice a2 x.m.s.ws.length c2, .slice a3 x.m.s.es.length c3, vi x.m.stamps, vi (x.m.now + 1), .slice a4 x.m.ds.length c4], .agg #[vi 0, .slice none 0 0, vi (x.m.now + 1), vi 0, vi 0, vi 0, .bool false, vi 0]]) (by simp [results, Try.results16, go_sem, r0, r1, r2, r3, r4, r5, r6, r7, s0, s1, s2, s3, s4, s5, s6, s7]) rfl ?_
    have hq : stamp21 x.m = (⟨x.m.s, x.m.stamps, x.m.now + 1, x.m.ds⟩, ⟨0, [], x.m.now + 1, 0, 0, zeroE'⟩) := if_neg (by omega)
    rw [hq]
    have := ap_ret1 (y := ⟨x.vv, x.wv, x.ev, x.dv, ⟨x.m.s, x.m.stamps, x.m.now + 1, x.m.ds⟩⟩) (q := (⟨x.m.s, x.m.stamps, x.m.now + 1, x.m.ds⟩, ⟨0, [], x.m.now + 1, 0, 0, zeroE'⟩)) HXA.out HHA.out (HA.out.below.trans HB5.out) HT.out.2.2.2 ⟨rfl, rfl, rfl, rfl, rfl, rfl⟩ rfl rfl
    have he : shV ⟨x.vv, x.wv, x.ev, x.dv, ⟨x.m.s, x.m.stamps, x.m.now + 1, x.m.ds⟩⟩ = .agg #[.bool x.m.s.serial, vi x.m.s.bugs, .slice a1 x.m.s.vs.length c1, .slice a2 x.m.s.ws.length c2, .slice a3 x.m.s.es.length c3, vi x.m.stamps, vi (x.m.now + 1), .slice a4 x.m.ds.length c4] := by unfold shV shC; rw [HXE.out]
    rw [he] at this
    exact this
end Go.Proofs.Ytdkkpkgfiodlbaa
