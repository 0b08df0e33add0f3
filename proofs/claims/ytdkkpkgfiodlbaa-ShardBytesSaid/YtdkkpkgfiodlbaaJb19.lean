/- Texts of one proof, one behind the other: RnPrA, RnSim2. -/
import Derived.Test.YtdkkpkgfiodlbaaJb18
import Derived.Test.YtdkkpkgfiodlbaaJb16
import Derived.Test.YtdkkpkgfiodlbaaJb10
set_option linter.all false
/- Layer 19's reference: Prepare. -/
namespace Go.Proofs.Ytdkkpkgfiodlbaa
open Go.RowKit Go.Maps
attribute [local go_sem] Oper.semAt_some

def firstR (s : RSt) : Bool := s.bugs % 2 == 0
def lookR (s : RSt) : Bool := s.serial && offR s.bugs 4
def rnPrepV (s : RSt) (r : Rdy) : RSt × Int × Int :=
  if s.es.any (fun e => e.txn == r.txn) then (s, 0, 62) else
  if s.ws.any (fun x => x.txn == r.txn) then (s, 0, 0) else
  if r.writes.any (fun o => firstR s && s.vs.any (later3 o.key r.start)) then (s, 0, 61) else
  if r.reads.any (fun k => lookR s && s.vs.any (later3 k r.start)) then (s, 0, 61) else
  if (blkOfP s.ws r (lookR s)).2 && firstR s then (s, (blkOfP s.ws r (lookR s)).1, 60) else (⟨s.serial, s.bugs, s.vs, insR s.ws r, s.es⟩, 0, 0)

set_option maxRecDepth 1000000 in
set_option maxHeartbeats 16000000 in
theorem rnPrep_call3 (A : World) (x : RSV) (rv : RV) (w : World) (hxA : RdSt A x) (hA : CLe A w) (hr : RdyS w rv) (hbg : 0 ≤ x.s.bugs ∧ x.s.bugs ≤ 63) (hl : x.s.ws.length ≤ 1000 ∧ rv.r.writes.length ≤ 1000 ∧ rv.r.reads.length ≤ 1000) :
    Calls Try.prog 39 #[rsV x, rdyV rv] w (PrR A w (rnPrepV x.s rv.r).1 (rnPrepV x.s rv.r).2.1 (rnPrepV x.s rv.r).2.2) := by
  have hx := hxA.le hA
  have HXA := Lib.hid hxA
  have HHA := Lib.hid hA
  clear hxA hA
  obtain ⟨vv, wv, ev, s⟩ := x
  have HV := Lib.hid hx.vs
  have HW := Lib.hid hx.ws
  have HE := Lib.hid hx.es
  obtain ⟨av, nv, cv, hwv, rfl, hmv, -⟩ := (show RdVer3 w vv s.vs from hx.vs).at
  obtain ⟨aw, nw, cw, hww, rfl, hmw, -⟩ := (show RdRdy w wv s.ws from hx.ws).at
  obtain ⟨ae, ne, ce, hwe, rfl, hme, -⟩ := (show RdEn w ev s.es from hx.es).at
  subst hwv hww hwe
  obtain ⟨rw_, rr, r⟩ := rv
  obtain ⟨a1, l1, c1, h1, rfl, hm1, -⟩ := (show RdOps w rw_ r.writes from hr.ws).at
  obtain ⟨a2, l2, c2, h2, rfl, hm2, -⟩ := (show RdInts w rr r.reads from hr.rs).at
  subst h1 h2
  have HX := Lib.hid hx
  have HR := Lib.hid hr
  have HL := Lib.hid hl
  simp only at HV HW HE hbg
  clear hx hr hl
  obtain ⟨w1, hw1⟩ : ∃ W, W = (w.alloc (.cells (rsC ⟨.slice av s.vs.length cv, .slice aw s.ws.length cw, .slice ae s.es.length ce, s⟩) 52)) := ⟨_, rfl⟩
  obtain ⟨w2, hw2⟩ : ∃ W, W = (w1.alloc (.cells (rdyC ⟨.slice a1 r.writes.length c1, .slice a2 r.reads.length c2, r⟩) 61)) := ⟨_, rfl⟩
  obtain ⟨w3, hw3⟩ : ∃ W, W = (w2.alloc (.cells #[.bool false, vi 0, .slice none 0 0, .slice none 0 0, .slice none 0 0] 52)) := ⟨_, rfl⟩
  have hs1 : w1.heap.size = w.heap.size + 1 := by rw [hw1]; simp
  have hs2 : w2.heap.size = w.heap.size + 2 := by rw [hw2]; simp [hs1]
  have hs3 : w3.heap.size = w.heap.size + 3 := by rw [hw3]; simp [hs2]
  have HB := Lib.hid (show Below w.heap.size w w3 from by
    rw [hw3, hw2, hw1]
    exact (((Below.refl _ _).alloc (Nat.le_refl _) _).alloc (by simp) _).alloc (by simp <;> omega) _)
  have HPB := Lib.hid (show PrB ⟨.slice av s.vs.length cv, .slice aw s.ws.length cw, .slice ae s.es.length ce, s⟩ ⟨.slice a1 r.writes.length c1, .slice a2 r.reads.length c2, r⟩ w.heap.size (w.heap.size + 1) (w.heap.size + 1 + 1) w3 from by
    refine ⟨?_, ?_, ?_⟩
    · rw [hw3, Below.heap_alloc _ _ _ (by omega), hw2, Below.heap_alloc _ _ _ (by omega), hw1]; exact alloc_at w _
    · rw [hw3, Below.heap_alloc _ _ _ (by omega), hw2, ← hs1]; exact alloc_at w1 _
    · rw [hw3, show w.heap.size + 1 + 1 = w.heap.size + 2 from rfl, ← hs2]; exact alloc_at w2 _)
  unfold rsV rdyV rsC rdyC
  simp only
  go_enter Try.func39, Try.ntmps39
  go_upto_region 1 with fail
  unfold rsC at hw1
  unfold rdyC at hw2
  simp only at hw1 hw2
  rw [← hw1, ← hw2, ← hw3]
  obtain ⟨X2, hX2⟩ : ∃ X, X = w.heap.size + 1 + 1 := ⟨_, rfl⟩
  obtain ⟨X1, hX1⟩ : ∃ X, X = w.heap.size + 1 := ⟨_, rfl⟩
  obtain ⟨X, hX⟩ : ∃ X, X = w.heap.size := ⟨_, rfl⟩
  rw [← hX2, ← hX1, ← hX]
  rw [← hX2, ← hX1, ← hX] at HPB
  have hb0 : w.heap.size ≤ X := by omega
  have hb1 : w.heap.size ≤ X1 := by omega
  have hb2 : w.heap.size ≤ X2 := by omega
  have HBB := Lib.hid (show w.heap.size ≤ X ∧ w.heap.size ≤ X1 ∧ w.heap.size ≤ X2 ∧ X ≠ X1 ∧ X ≠ X2 ∧ X1 ≠ X2 from ⟨by omega, by omega, by omega, by omega, by omega, by omega⟩)
  clear hX hX1 hX2 hw1 hw2 hw3 hs1 hs2 hs3
  have x4 : w3.cell? ⟨X, 4, none⟩ = some (.slice ae s.es.length ce) := by rw [cell_of HPB.out.st]; rfl
  go_wp2_with fail
  clear x4
  refine wp_loopF 226 (fun m f wr => f 2 = .pointer (some ⟨X, 0, none⟩) ∧ f 3 = .pointer (some ⟨X1, 0, none⟩) ∧ f 4 = .pointer (some ⟨X2, 0, none⟩) ∧ f 32 = .slice ae s.es.length ce ∧ f 33 = .int .i64 s.es.length ∧ ∃ k : Nat, k ≤ s.es.length ∧ m = s.es.length - k ∧ f 34 = .int .i64 k ∧ Hid (∀ o ∈ s.es.take k, (fun e : EndM => e.txn == r.txn) o = false) ∧ Below w3.heap.size w3 wr) _ rfl s.es.length ?start1 ?round1
  case start1 => exact ⟨rfl, rfl, rfl, rfl, rfl, 0, Nat.zero_le _, rfl, rfl, Lib.hid (by simp), Below.refl _ _⟩
  case round1 =>
    rintro gm f wa ⟨f2, f3, f4, f32, f33, k, hk, hgm, f34, HN1, hJ⟩ JJ KK HJ HKK
    have HJJ := Lib.hid HJ
    have HGM := Lib.hid hgm
    have HJ1 := Lib.hid hJ
    have HW1 := Lib.hid (HB.out.trans (hJ.mono HB.out.size))
    have HP1 := Lib.hid (HPB.out.later hJ)
    clear HJ hgm hJ
    rw [fr226, f2, f3, f4, f32, f33, f34]
    clear f2 f3 f4 f32 f33 f34
    by_cases hlt : k < s.es.length
    · have k1 : decide ((k : Int) < s.es.length) = true := decide_eq_true (by omega)
      have k2 : (k : Int) < s.es.length := by omega
      have hwk : IntKind.i64.wrap ((k : Int) + 1) = (k : Int) + 1 := IntWalk.i64_in _ (by omega)
      obtain ⟨o, ho⟩ := some_at hlt
      obtain ⟨g, off, ha, c0, c1', c2'⟩ := HE.out.el ho
      replace c0 := cell_later HW1.out c0
      replace c1' := cell_later HW1.out c1'
      replace c2' := cell_later HW1.out c2'
      subst ha
      have HO := Lib.hid ho
      have r0 : wa.cell? ⟨X1, 0, none⟩ = some (vi r.txn) := cell_at HP1.out.rd rfl
      have r0' := later_alloc r0 (.cells #[vi o.txn, .bool o.commit, vi o.at_] 56)
      have HBn := Lib.hid (HJ1.out.alloc HJ1.out.size (.cells #[vi o.txn, .bool o.commit, vi o.at_] 56))
      clear ho r0
      cases hq : (o.txn == r.txn) with
      | false =>
        go_wp2_with fail
        refine Handed.intro (s.es.length - (k + 1)) (by rw [HGM.out]; omega) (HJJ.out _ _ _ rfl ⟨rfl, rfl, rfl, rfl, rfl, k + 1, by omega, rfl, ?_, Lib.hid (any_take HN1.out HO.out hq), HBn.out⟩)
        show Value.int .i64 _ = _
        go_num
      | true =>
        have hr : rnPrepV s r = (s, 0, 62) := by unfold rnPrepV; rw [any_some HO.out hq]; rfl
        have HVAL := Lib.hid (show s = (rnPrepV s r).1 by rw [hr])
        show Code.wp Try.prog _ _ _ _
        rw [hr]
        go_upto_region 5 with fail
        generalize wa.alloc (.cells #[vi o.txn, .bool o.commit, vi o.at_] 56) = wb at *
        have hX := (HPB.out.later HBn.out).st
        have hX2 := (HPB.out.later HBn.out).rs
        have q0 : ∀ j, wb.frozen? ⟨X2, j, none⟩ = false := fun j => free_of hX2 j
        have p0 : wb.cell? ⟨X2, 0, none⟩ = some (.bool false) := by rw [cell_of hX2]; rfl
        have p1 : wb.cell? ⟨X2, 1, none⟩ = some (vi 0) := by rw [cell_of hX2]; rfl
        have p2 : wb.cell? ⟨X2, 2, none⟩ = some (.slice none 0 0) := by rw [cell_of hX2]; rfl
        have p3 : wb.cell? ⟨X2, 3, none⟩ = some (.slice none 0 0) := by rw [cell_of hX2]; rfl
        have p4 : wb.cell? ⟨X2, 4, none⟩ = some (.slice none 0 0) := by rw [cell_of hX2]; rfl
        have x0 : wb.cell? ⟨X, 0, none⟩ = some (.bool s.serial) := by rw [cell_of hX]; rfl
        have x1 : wb.cell? ⟨X, 1, none⟩ = some (vi s.bugs) := by rw [cell_of hX]; rfl
        have x2 : wb.cell? ⟨X, 2, none⟩ = some (.slice av s.vs.length cv) := by rw [cell_of hX]; rfl
        have x3 : wb.cell? ⟨X, 3, none⟩ = some (.slice aw s.ws.length cw) := by rw [cell_of hX]; rfl
        have x4 : wb.cell? ⟨X, 4, none⟩ = some (.slice (some ⟨g, off, none⟩) s.es.length ce) := by rw [cell_of hX]; rfl
        have HS := Lib.hid (rn_set5 (.bool s.serial) (vi s.bugs) (.slice av s.vs.length cv) (.slice aw s.ws.length cw) (.slice (some ⟨g, off, none⟩) s.es.length ce) hX2)
        have HBF := Lib.hid ((HB.out.trans (HBn.out.mono HB.out.size)).trans (rn_below5 (W := wb) (.bool s.serial) (vi s.bugs) (.slice av s.vs.length cv) (.slice aw s.ws.length cw) (.slice (some ⟨g, off, none⟩) s.es.length ce) hb2))
        clear HJJ HGM
        clear hX hX2
        go_wp2_with fail
        generalize (((((wb.setCell ⟨X2, 0, none⟩ (.bool s.serial)).setCell ⟨X2, 1, none⟩ (vi s.bugs)).setCell ⟨X2, 2, none⟩ (.slice av s.vs.length cv)).setCell ⟨X2, 3, none⟩ (.slice aw s.ws.length cw)).setCell ⟨X2, 4, none⟩ (.slice (some ⟨g, off, none⟩) s.es.length ce)) = wf at *
        have r0 : wf.cell? ⟨X2, 0, none⟩ = some (.bool s.serial) := by rw [cell_of HS.out]; rfl
        have r1 : wf.cell? ⟨X2, 1, none⟩ = some (vi s.bugs) := by rw [cell_of HS.out]; rfl
        have r2 : wf.cell? ⟨X2, 2, none⟩ = some (.slice av s.vs.length cv) := by rw [cell_of HS.out]; rfl
        have r3 : wf.cell? ⟨X2, 3, none⟩ = some (.slice aw s.ws.length cw) := by rw [cell_of HS.out]; rfl
        have r4 : wf.cell? ⟨X2, 4, none⟩ = some (.slice (some ⟨g, off, none⟩) s.es.length ce) := by rw [cell_of HS.out]; rfl
        refine bodyPost_ret (v := .tuple #[rsV ⟨.slice av s.vs.length cv, .slice aw s.ws.length cw, .slice (some ⟨g, off, none⟩) s.es.length ce, s⟩, vi 0, vi 62]) (by simp [results, Try.results39, go_sem, r0, r1, r2, r3, r4, rsV, rsC]) rfl ?_
        try rw [hr]
        exact ⟨_, rfl, rfl, PrR.same HXA.out HHA.out HBF.out⟩
    · have k1 : decide ((k : Int) < s.es.length) = false := decide_eq_false (by omega)
      have HNE := Lib.hid (any_none HN1.out hlt)
      have x3 : wa.cell? ⟨X, 3, none⟩ = some (.slice aw s.ws.length cw) := by rw [cell_of HP1.out.st]; rfl
      clear HJJ HGM
      go_wp2_with fail
      clear x3
      refine wp_loopF 226 (fun m g wr => g 2 = .pointer (some ⟨X, 0, none⟩) ∧ g 3 = .pointer (some ⟨X1, 0, none⟩) ∧ g 4 = .pointer (some ⟨X2, 0, none⟩) ∧ g 46 = .slice aw s.ws.length cw ∧ g 47 = .int .i64 s.ws.length ∧ ∃ k : Nat, k ≤ s.ws.length ∧ m = s.ws.length - k ∧ g 48 = .int .i64 k ∧ Hid (∀ o ∈ s.ws.take k, (fun x : Rdy => x.txn == r.txn) o = false) ∧ Below w3.heap.size w3 wr) _ rfl s.ws.length ?start2 ?round2
      case start2 => exact ⟨rfl, rfl, rfl, rfl, rfl, 0, Nat.zero_le _, rfl, rfl, Lib.hid (by simp), HJ1.out⟩
      case round2 =>
        rintro gm g wb ⟨g2, g3, g4, g46, g47, k, hk, hgm, g48, HN2, hJ⟩ JJ KK HJ HKK
        have HJJ := Lib.hid HJ
        have HGM := Lib.hid hgm
        have HJ2 := Lib.hid hJ
        have HW2 := Lib.hid (HB.out.trans (hJ.mono HB.out.size))
        have HP2 := Lib.hid (HPB.out.later hJ)
        clear HJ hgm hJ
        rw [fr226, g2, g3, g4, g46, g47, g48]
        clear g2 g3 g4 g46 g47 g48
        by_cases hlt2 : k < s.ws.length
        · have k1 : decide ((k : Int) < s.ws.length) = true := decide_eq_true (by omega)
          have k2 : (k : Int) < s.ws.length := by omega
          have hwk : IntKind.i64.wrap ((k : Int) + 1) = (k : Int) + 1 := IntWalk.i64_in _ (by omega)
          obtain ⟨x, ho⟩ := some_at hlt2
          obtain ⟨g', off, rw_, rr, ha, hrs, c0, c1', c2', c3', c4'⟩ := HW.out.el ho
          obtain ⟨b1, l1, e1, rfl, -, -, -⟩ := (show RdOps w rw_ x.writes from hrs.ws).at
          obtain ⟨b2, l2, e2, rfl, -, -, -⟩ := (show RdInts w rr x.reads from hrs.rs).at
          replace c0 := cell_later HW2.out c0
          replace c1' := cell_later HW2.out c1'
          replace c2' := cell_later HW2.out c2'
          replace c3' := cell_later HW2.out c3'
          replace c4' := cell_later HW2.out c4'
          subst ha
          have HO := Lib.hid ho
          have r0 : wb.cell? ⟨X1, 0, none⟩ = some (vi r.txn) := cell_at HP2.out.rd rfl
          have r0' := later_alloc r0 (.cells #[vi x.txn, vi x.home, vi x.start, .slice b1 l1 e1, .slice b2 l2 e2] 61)
          have HBn := Lib.hid (HJ2.out.alloc HJ2.out.size (.cells #[vi x.txn, vi x.home, vi x.start, .slice b1 l1 e1, .slice b2 l2 e2] 61))
          clear ho r0 hrs
          cases hq : (x.txn == r.txn) with
          | false =>
            go_wp2_with fail
            refine Handed.intro (s.ws.length - (k + 1)) (by rw [HGM.out]; omega) (HJJ.out _ _ _ rfl ⟨rfl, rfl, rfl, rfl, rfl, k + 1, by omega, rfl, ?_, Lib.hid (any_take HN2.out HO.out hq), HBn.out⟩)
            show Value.int .i64 _ = _
            go_num
          | true =>
            have hr : rnPrepV s r = (s, 0, 0) := by unfold rnPrepV; rw [HNE.out, any_some HO.out hq]; rfl
            show Code.wp Try.prog _ _ _ _
            rw [hr]
            go_upto_region 11 with fail
            generalize wb.alloc (.cells #[vi x.txn, vi x.home, vi x.start, .slice b1 l1 e1, .slice b2 l2 e2] 61) = wc at *
            have hX := (HPB.out.later HBn.out).st
            have hX2 := (HPB.out.later HBn.out).rs
            have q0 : ∀ j, wc.frozen? ⟨X2, j, none⟩ = false := fun j => free_of hX2 j
            have p0 : wc.cell? ⟨X2, 0, none⟩ = some (.bool false) := by rw [cell_of hX2]; rfl
            have p1 : wc.cell? ⟨X2, 1, none⟩ = some (vi 0) := by rw [cell_of hX2]; rfl
            have p2 : wc.cell? ⟨X2, 2, none⟩ = some (.slice none 0 0) := by rw [cell_of hX2]; rfl
            have p3 : wc.cell? ⟨X2, 3, none⟩ = some (.slice none 0 0) := by rw [cell_of hX2]; rfl
            have p4 : wc.cell? ⟨X2, 4, none⟩ = some (.slice none 0 0) := by rw [cell_of hX2]; rfl
            have x0 : wc.cell? ⟨X, 0, none⟩ = some (.bool s.serial) := by rw [cell_of hX]; rfl
            have x1 : wc.cell? ⟨X, 1, none⟩ = some (vi s.bugs) := by rw [cell_of hX]; rfl
            have x2 : wc.cell? ⟨X, 2, none⟩ = some (.slice av s.vs.length cv) := by rw [cell_of hX]; rfl
            have x3 : wc.cell? ⟨X, 3, none⟩ = some (.slice (some ⟨g', off, none⟩) s.ws.length cw) := by rw [cell_of hX]; rfl
            have x4 : wc.cell? ⟨X, 4, none⟩ = some (.slice ae s.es.length ce) := by rw [cell_of hX]; rfl
            have HS := Lib.hid (rn_set5 (.bool s.serial) (vi s.bugs) (.slice av s.vs.length cv) (.slice (some ⟨g', off, none⟩) s.ws.length cw) (.slice ae s.es.length ce) hX2)
            have HBF := Lib.hid ((HB.out.trans (HBn.out.mono HB.out.size)).trans (rn_below5 (W := wc) (.bool s.serial) (vi s.bugs) (.slice av s.vs.length cv) (.slice (some ⟨g', off, none⟩) s.ws.length cw) (.slice ae s.es.length ce) hb2))
            clear HJJ HGM
            clear hX hX2
            go_wp2_with fail
            generalize (((((wc.setCell ⟨X2, 0, none⟩ (.bool s.serial)).setCell ⟨X2, 1, none⟩ (vi s.bugs)).setCell ⟨X2, 2, none⟩ (.slice av s.vs.length cv)).setCell ⟨X2, 3, none⟩ (.slice (some ⟨g', off, none⟩) s.ws.length cw)).setCell ⟨X2, 4, none⟩ (.slice ae s.es.length ce)) = wf at *
            have r0 : wf.cell? ⟨X2, 0, none⟩ = some (.bool s.serial) := by rw [cell_of HS.out]; rfl
            have r1 : wf.cell? ⟨X2, 1, none⟩ = some (vi s.bugs) := by rw [cell_of HS.out]; rfl
            have r2 : wf.cell? ⟨X2, 2, none⟩ = some (.slice av s.vs.length cv) := by rw [cell_of HS.out]; rfl
            have r3 : wf.cell? ⟨X2, 3, none⟩ = some (.slice (some ⟨g', off, none⟩) s.ws.length cw) := by rw [cell_of HS.out]; rfl
            have r4 : wf.cell? ⟨X2, 4, none⟩ = some (.slice ae s.es.length ce) := by rw [cell_of HS.out]; rfl
            refine bodyPost_ret (v := .tuple #[rsV ⟨.slice av s.vs.length cv, .slice (some ⟨g', off, none⟩) s.ws.length cw, .slice ae s.es.length ce, s⟩, vi 0, vi 0]) (by simp [results, Try.results39, go_sem, r0, r1, r2, r3, r4, rsV, rsC]) rfl ?_
            try rw [hr]
            exact ⟨_, rfl, rfl, PrR.same HXA.out HHA.out HBF.out⟩
        · have k1 : decide ((k : Int) < s.ws.length) = false := decide_eq_false (by omega)
          have HNW := Lib.hid (any_none HN2.out hlt2)
          have x1 : wb.cell? ⟨X, 1, none⟩ = some (vi s.bugs) := by rw [cell_of HP2.out.st]; rfl
          have x0 : wb.cell? ⟨X, 0, none⟩ = some (.bool s.serial) := by rw [cell_of HP2.out.st]; rfl
          have hwf : IntKind.i64.wrap (s.bugs % 2) = s.bugs % 2 := IntWalk.i64_in _ (by omega)
          obtain ⟨q1, hq1⟩ : ∃ q, q = s.bugs.tdiv 4 := ⟨_, rfl⟩
          have hq1b : 0 ≤ q1 ∧ q1 ≤ 63 := by rw [hq1, Int.tdiv_eq_ediv_of_nonneg hbg.1]; omega
          have hwq1 : IntKind.i64.wrap (s.bugs.tdiv 4) = q1 := by rw [← hq1]; exact IntWalk.i64_in _ (by omega)
          have HOFF := Lib.hid (show offR s.bugs 4 = (q1 % 2 == 0) from by unfold offR; rw [← hq1, Int.tmod_eq_emod_of_nonneg hq1b.1])
          have hwq2 : IntKind.i64.wrap (q1 % 2) = q1 % 2 := IntWalk.i64_in _ (by omega)
          clear HJJ HGM hq1
          go_upto_region 14 with fail
          refine wp_cutF 226 (fun h wx => h 2 = .pointer (some ⟨X, 0, none⟩) ∧ h 3 = .pointer (some ⟨X1, 0, none⟩) ∧ h 4 = .pointer (some ⟨X2, 0, none⟩) ∧ h 11 = .bool (firstR s) ∧ h 12 = .bool (lookR s) ∧ wx = wb) ?rest14 ?first14
          case first14 =>
            intro J1 K1 h1 h2
            have H12 := Lib.hid (show ∀ (l : List Value), l.length = 226 → slotsOf l 2 = .pointer (some ⟨X, 0, none⟩) ∧ slotsOf l 3 = .pointer (some ⟨X1, 0, none⟩) ∧ slotsOf l 4 = .pointer (some ⟨X2, 0, none⟩) ∧ slotsOf l 11 = .bool (firstR s) ∧ slotsOf l 12 = .bool (lookR s) → K1 ⟨l.toArray, []⟩ wb from fun l hll hc => h2 _ _ (Met.intro (h1 l wb hll ⟨hc.1, hc.2.1, hc.2.2.1, hc.2.2.2.1, hc.2.2.2.2, rfl⟩)))
            clear h1 h2
            cases hsb : s.serial with
            | false =>
              rw [hsb] at x0
              have HLK := Lib.hid (show Value.bool false = .bool (lookR s) from by unfold lookR; rw [hsb]; rfl)
              clear hsb
              go_wp2_with fail
              exact H12.out _ rfl ⟨rfl, rfl, rfl, rfl, HLK.out⟩
            | true =>
              rw [hsb] at x0
              have HLK := Lib.hid (show Value.bool (q1 % 2 == 0) = .bool (lookR s) from by unfold lookR; rw [hsb, HOFF.out]; rfl)
              clear hsb
              go_wp2_with fail
              exact H12.out _ rfl ⟨rfl, rfl, rfl, rfl, HLK.out⟩
          case rest14 =>
            rintro h wx ⟨h2, h3, h4, h11, h12, rfl⟩
            go_step
            obtain ⟨fb, hfb⟩ : ∃ b, b = firstR s := ⟨_, rfl⟩
            obtain ⟨lb, hlb⟩ : ∃ b, b = lookR s := ⟨_, rfl⟩
            rw [← hfb] at h11
            rw [← hlb] at h12
            rw [fr226, h2, h3, h4, h11, h12]
            have HFB := Lib.hid hfb
            have HLB := Lib.hid hlb
            have r3 : wx.cell? ⟨X1, 3, none⟩ = some (.slice a1 r.writes.length c1) := by rw [cell_of HP2.out.rd]; rfl
            clear h2 h3 h4 h11 h12 hfb hlb x0 x1 hwf hwq1 hwq2 hq1b
            go_wp2_with fail
            clear r3
            refine wp_loopF 226 (fun m j wr => j 2 = .pointer (some ⟨X, 0, none⟩) ∧ j 3 = .pointer (some ⟨X1, 0, none⟩) ∧ j 4 = .pointer (some ⟨X2, 0, none⟩) ∧ j 11 = .bool fb ∧ j 12 = .bool lb ∧ j 73 = .slice a1 r.writes.length c1 ∧ j 74 = .int .i64 r.writes.length ∧ ∃ k : Nat, k ≤ r.writes.length ∧ m = r.writes.length - k ∧ j 75 = .int .i64 k ∧ Hid (∀ o ∈ r.writes.take k, (fun o : GOp => firstR s && s.vs.any (later3 o.key r.start)) o = false) ∧ Below w3.heap.size w3 wr) _ rfl r.writes.length ?start3 ?round3
            case start3 => exact ⟨rfl, rfl, rfl, rfl, rfl, rfl, rfl, 0, Nat.zero_le _, rfl, rfl, Lib.hid (by simp), HJ2.out⟩
            case round3 =>
              rintro gm j wc ⟨j2, j3, j4, j11, j12, j73, j74, k, hk, hgm, j75, HN3, hJ⟩ JJ KK HJ HKK
              have HJJ := Lib.hid HJ
              have HGM := Lib.hid hgm
              have HJ3 := Lib.hid hJ
              have HW3 := Lib.hid (HB.out.trans (hJ.mono HB.out.size))
              have HP3 := Lib.hid (HPB.out.later hJ)
              clear HJ hgm hJ
              rw [fr226, j2, j3, j4, j11, j12, j73, j74, j75]
              clear j2 j3 j4 j11 j12 j73 j74 j75
              by_cases hlt3 : k < r.writes.length
              · have k1 : decide ((k : Int) < r.writes.length) = true := decide_eq_true (by omega)
                have k2 : (k : Int) < r.writes.length := by omega
                have hwk : IntKind.i64.wrap ((k : Int) + 1) = (k : Int) + 1 := IntWalk.i64_in _ (by omega)
                obtain ⟨o, ho⟩ := some_at hlt3
                obtain ⟨og, oo, ha, c0, c1', c2'⟩ := (show RdOps w (.slice a1 r.writes.length c1) r.writes from HR.out.ws).el ho
                replace c0 := cell_later HW3.out c0
                replace c1' := cell_later HW3.out c1'
                replace c2' := cell_later HW3.out c2'
                subst ha
                have HO := Lib.hid ho
                have HBn := Lib.hid (HJ3.out.alloc HJ3.out.size (.cells #[vi o.kind, vi o.key, vi o.val] 104))
                have HOo := Lib.hid (alloc_at wc (.cells #[vi o.kind, vi o.key, vi o.val] 104))
                clear ho
                go_upto_region 18 with fail
                generalize wc.alloc (.cells #[vi o.kind, vi o.key, vi o.val] 104) = wd at *
                generalize wc.heap.size = Ob at *
                clear c0 c1' c2'
                have HPd := Lib.hid (HPB.out.later HBn.out)
                cases fb with
                | false =>
                  have HQ := Lib.hid (show (firstR s && s.vs.any (later3 o.key r.start)) = false from by rw [← HFB.out]; rfl)
                  go_wp2_with fail
                  refine Handed.intro (r.writes.length - (k + 1)) (by rw [HGM.out]; omega) (HJJ.out _ _ _ rfl ⟨rfl, rfl, rfl, rfl, rfl, rfl, rfl, k + 1, by omega, rfl, ?_, Lib.hid (any_take HN3.out HO.out HQ.out), HBn.out⟩)
                  show Value.int .i64 _ = _
                  go_num
                | true =>
                  have hst := HPd.out.st
                  have o1 : wd.cell? ⟨Ob, 1, none⟩ = some (vi o.key) := cell_at HOo.out rfl
                  have r2 : wd.cell? ⟨X1, 2, none⟩ = some (vi r.start) := cell_at HPd.out.rd rfl
                  have z0 : wd.cell? ⟨X, 0, none⟩ = some (.bool s.serial) := by rw [cell_of hst]; rfl
                  have z1 : wd.cell? ⟨X, 1, none⟩ = some (vi s.bugs) := by rw [cell_of hst]; rfl
                  have z2 : wd.cell? ⟨X, 2, none⟩ = some (.slice av s.vs.length cv) := by rw [cell_of hst]; rfl
                  have z3 : wd.cell? ⟨X, 3, none⟩ = some (.slice aw s.ws.length cw) := by rw [cell_of hst]; rfl
                  have z4 : wd.cell? ⟨X, 4, none⟩ = some (.slice ae s.es.length ce) := by rw [cell_of hst]; rfl
                  have hcl := rnLater_call ⟨.slice av s.vs.length cv, .slice aw s.ws.length cw, .slice ae s.es.length ce, s⟩ o.key r.start wd (HX.out.later (HB.out.trans (HBn.out.mono HB.out.size)))
                  unfold rsV rsC at hcl
                  simp only at hcl
                  obtain ⟨b, hb⟩ : ∃ b, s.vs.any (later3 o.key r.start) = b := ⟨_, rfl⟩
                  rw [hb] at hcl
                  have HCL := Lib.hid hcl
                  have HBV := Lib.hid hb
                  clear hcl hb hst
                  cases b with
                  | false =>
                    have HQ := Lib.hid (show (firstR s && s.vs.any (later3 o.key r.start)) = false from by rw [HBV.out, ← HFB.out]; rfl)
                    go_wp2_with (go_at_call 74; refine HCL.out.mono ?_; rintro e w5 ⟨rfl, hb5⟩; have HB5 := Lib.hid (HBn.out.trans (hb5.mono HBn.out.size)); clear hb5)
                    refine Handed.intro (r.writes.length - (k + 1)) (by rw [HGM.out]; omega) (HJJ.out _ _ _ rfl ⟨rfl, rfl, rfl, rfl, rfl, rfl, rfl, k + 1, by omega, rfl, ?_, Lib.hid (any_take HN3.out HO.out HQ.out), HB5.out⟩)
                    show Value.int .i64 _ = _
                    go_num
                  | true =>
                    have hr : rnPrepV s r = (s, 0, 61) := by
                      unfold rnPrepV; rw [HNE.out, HNW.out, any_some (q := (fun o : GOp => firstR s && s.vs.any (later3 o.key r.start))) HO.out (show (firstR s && s.vs.any (later3 o.key r.start)) = true from by rw [HBV.out, ← HFB.out]; rfl)]; rfl
                    show Code.wp Try.prog _ _ _ _
                    rw [hr]
                    go_upto_region 19 with (go_at_call 74; refine HCL.out.mono ?_; rintro e w5 ⟨rfl, hb5⟩; have HB5 := Lib.hid (HBn.out.trans (hb5.mono HBn.out.size)); clear hb5)
                    clear z0 z1 z2 z3 z4 o1 r2
                    have hX := (HPB.out.later HB5.out).st
                    have hX2 := (HPB.out.later HB5.out).rs
                    have q0 : ∀ j, w5.frozen? ⟨X2, j, none⟩ = false := fun j => free_of hX2 j
                    have p0 : w5.cell? ⟨X2, 0, none⟩ = some (.bool false) := by rw [cell_of hX2]; rfl
                    have p1 : w5.cell? ⟨X2, 1, none⟩ = some (vi 0) := by rw [cell_of hX2]; rfl
                    have p2 : w5.cell? ⟨X2, 2, none⟩ = some (.slice none 0 0) := by rw [cell_of hX2]; rfl
                    have p3 : w5.cell? ⟨X2, 3, none⟩ = some (.slice none 0 0) := by rw [cell_of hX2]; rfl
                    have p4 : w5.cell? ⟨X2, 4, none⟩ = some (.slice none 0 0) := by rw [cell_of hX2]; rfl
                    have x0 : w5.cell? ⟨X, 0, none⟩ = some (.bool s.serial) := by rw [cell_of hX]; rfl
                    have x1 : w5.cell? ⟨X, 1, none⟩ = some (vi s.bugs) := by rw [cell_of hX]; rfl
                    have x2 : w5.cell? ⟨X, 2, none⟩ = some (.slice av s.vs.length cv) := by rw [cell_of hX]; rfl
                    have x3 : w5.cell? ⟨X, 3, none⟩ = some (.slice aw s.ws.length cw) := by rw [cell_of hX]; rfl
                    have x4 : w5.cell? ⟨X, 4, none⟩ = some (.slice ae s.es.length ce) := by rw [cell_of hX]; rfl
                    have HS := Lib.hid (rn_set5 (.bool s.serial) (vi s.bugs) (.slice av s.vs.length cv) (.slice aw s.ws.length cw) (.slice ae s.es.length ce) hX2)
                    have HBF := Lib.hid ((HB.out.trans (HB5.out.mono HB.out.size)).trans (rn_below5 (W := w5) (.bool s.serial) (vi s.bugs) (.slice av s.vs.length cv) (.slice aw s.ws.length cw) (.slice ae s.es.length ce) hb2))
                    clear HJJ HGM
                    clear hX hX2
                    go_wp2_with fail
                    generalize (((((w5.setCell ⟨X2, 0, none⟩ (.bool s.serial)).setCell ⟨X2, 1, none⟩ (vi s.bugs)).setCell ⟨X2, 2, none⟩ (.slice av s.vs.length cv)).setCell ⟨X2, 3, none⟩ (.slice aw s.ws.length cw)).setCell ⟨X2, 4, none⟩ (.slice ae s.es.length ce)) = wf at *
                    have r0 : wf.cell? ⟨X2, 0, none⟩ = some (.bool s.serial) := by rw [cell_of HS.out]; rfl
                    have r1 : wf.cell? ⟨X2, 1, none⟩ = some (vi s.bugs) := by rw [cell_of HS.out]; rfl
                    have r2 : wf.cell? ⟨X2, 2, none⟩ = some (.slice av s.vs.length cv) := by rw [cell_of HS.out]; rfl
                    have r3 : wf.cell? ⟨X2, 3, none⟩ = some (.slice aw s.ws.length cw) := by rw [cell_of HS.out]; rfl
                    have r4 : wf.cell? ⟨X2, 4, none⟩ = some (.slice ae s.es.length ce) := by rw [cell_of HS.out]; rfl
                    refine bodyPost_ret (v := .tuple #[rsV ⟨.slice av s.vs.length cv, .slice aw s.ws.length cw, .slice ae s.es.length ce, s⟩, vi 0, vi 61]) (by simp [results, Try.results39, go_sem, r0, r1, r2, r3, r4, rsV, rsC]) rfl ?_
                    try rw [hr]
                    exact ⟨_, rfl, rfl, PrR.same HXA.out HHA.out HBF.out⟩
              · have k1 : decide ((k : Int) < r.writes.length) = false := decide_eq_false (by omega)
                have HNO := Lib.hid (any_none HN3.out hlt3)
                have r4 : wc.cell? ⟨X1, 4, none⟩ = some (.slice a2 r.reads.length c2) := by rw [cell_of HP3.out.rd]; rfl
                clear HJJ HGM
                go_wp2_with fail
                clear r4
                rename_i KB hKB
                have HKB := Lib.hid hKB
                clear hKB
                refine wp_loopF 226 (fun m q wr => q 2 = .pointer (some ⟨X, 0, none⟩) ∧ q 3 = .pointer (some ⟨X1, 0, none⟩) ∧ q 4 = .pointer (some ⟨X2, 0, none⟩) ∧ q 11 = .bool fb ∧ q 12 = .bool lb ∧ q 91 = .slice a2 r.reads.length c2 ∧ q 92 = .int .i64 r.reads.length ∧ ∃ k : Nat, k ≤ r.reads.length ∧ m = r.reads.length - k ∧ q 93 = .int .i64 k ∧ Hid (∀ o ∈ r.reads.take k, (fun k : Int => lookR s && s.vs.any (later3 k r.start)) o = false) ∧ Below w3.heap.size w3 wr) _ rfl r.reads.length ?start4 ?round4
                case start4 => exact ⟨rfl, rfl, rfl, rfl, rfl, rfl, rfl, 0, Nat.zero_le _, rfl, rfl, Lib.hid (by simp), HJ3.out⟩
                case round4 =>
                  rintro gm q wd ⟨q2, q3, q4, q11, q12, q91, q92, k, hk, hgm, q93, HN4, hJ⟩ JJ KK HJ HKK
                  have HJJ := Lib.hid HJ
                  have HGM := Lib.hid hgm
                  have HJ4 := Lib.hid hJ
                  have HW4 := Lib.hid (HB.out.trans (hJ.mono HB.out.size))
                  have HP4 := Lib.hid (HPB.out.later hJ)
                  by_cases hlt4 : k < r.reads.length
                  · clear HJ hgm hJ
                    rw [fr226, q2, q3, q4, q11, q12, q91, q92, q93]
                    clear q2 q3 q4 q11 q12 q91 q92 q93
                    have k1 : decide ((k : Int) < r.reads.length) = true := decide_eq_true (by omega)
                    have k2 : (k : Int) < r.reads.length := by omega
                    have hwk : IntKind.i64.wrap ((k : Int) + 1) = (k : Int) + 1 := IntWalk.i64_in _ (by omega)
                    obtain ⟨o, ho⟩ := some_at hlt4
                    obtain ⟨og, oo, ha, c0, -⟩ := (show RdInts w (.slice a2 r.reads.length c2) r.reads from HR.out.rs).el ho
                    replace c0 := cell_later HW4.out c0
                    subst ha
                    have HO := Lib.hid ho
                    clear ho
                    cases lb with
                    | false =>
                      have HQ := Lib.hid (show (lookR s && s.vs.any (later3 o r.start)) = false from by rw [← HLB.out]; rfl)
                      go_wp2_with fail
                      refine Handed.intro (r.reads.length - (k + 1)) (by rw [HGM.out]; omega) (HJJ.out _ _ _ rfl ⟨rfl, rfl, rfl, rfl, rfl, rfl, rfl, k + 1, by omega, rfl, ?_, Lib.hid (any_take HN4.out HO.out HQ.out), HJ4.out⟩)
                      show Value.int .i64 _ = _
                      go_num
                    | true =>
                      have hst := HP4.out.st
                      have r2 : wd.cell? ⟨X1, 2, none⟩ = some (vi r.start) := cell_at HP4.out.rd rfl
                      have z0 : wd.cell? ⟨X, 0, none⟩ = some (.bool s.serial) := by rw [cell_of hst]; rfl
                      have z1 : wd.cell? ⟨X, 1, none⟩ = some (vi s.bugs) := by rw [cell_of hst]; rfl
                      have z2 : wd.cell? ⟨X, 2, none⟩ = some (.slice av s.vs.length cv) := by rw [cell_of hst]; rfl
                      have z3 : wd.cell? ⟨X, 3, none⟩ = some (.slice aw s.ws.length cw) := by rw [cell_of hst]; rfl
                      have z4 : wd.cell? ⟨X, 4, none⟩ = some (.slice ae s.es.length ce) := by rw [cell_of hst]; rfl
                      have hcl := rnLater_call ⟨.slice av s.vs.length cv, .slice aw s.ws.length cw, .slice ae s.es.length ce, s⟩ o r.start wd (HX.out.later HW4.out)
                      unfold rsV rsC at hcl
                      simp only at hcl
                      obtain ⟨b, hb⟩ : ∃ b, s.vs.any (later3 o r.start) = b := ⟨_, rfl⟩
                      rw [hb] at hcl
                      have HCL := Lib.hid hcl
                      have HBV := Lib.hid hb
                      clear hcl hb hst
                      cases b with
                      | false =>
                        have HQ := Lib.hid (show (lookR s && s.vs.any (later3 o r.start)) = false from by rw [HBV.out, ← HLB.out]; rfl)
                        go_wp2_with (go_at_call 74; refine HCL.out.mono ?_; rintro e w5 ⟨rfl, hb5⟩; have HB5 := Lib.hid (HJ4.out.trans (hb5.mono HJ4.out.size)); clear hb5)
                        refine Handed.intro (r.reads.length - (k + 1)) (by rw [HGM.out]; omega) (HJJ.out _ _ _ rfl ⟨rfl, rfl, rfl, rfl, rfl, rfl, rfl, k + 1, by omega, rfl, ?_, Lib.hid (any_take HN4.out HO.out HQ.out), HB5.out⟩)
                        show Value.int .i64 _ = _
                        go_num
                      | true =>
                        have hr : rnPrepV s r = (s, 0, 61) := by
                          unfold rnPrepV; rw [HNE.out, HNW.out, HNO.out, any_some (q := (fun k : Int => lookR s && s.vs.any (later3 k r.start))) HO.out (show (lookR s && s.vs.any (later3 o r.start)) = true from by rw [HBV.out, ← HLB.out]; rfl)]; rfl
                        show Code.wp Try.prog _ _ _ _
                        rw [hr]
                        go_upto_region 25 with (go_at_call 74; refine HCL.out.mono ?_; rintro e w5 ⟨rfl, hb5⟩; have HB5 := Lib.hid (HJ4.out.trans (hb5.mono HJ4.out.size)); clear hb5)
                        clear z0 z1 z2 z3 z4 r2
                        have hX := (HPB.out.later HB5.out).st
                        have hX2 := (HPB.out.later HB5.out).rs
                        have q0 : ∀ j, w5.frozen? ⟨X2, j, none⟩ = false := fun j => free_of hX2 j
                        have p0 : w5.cell? ⟨X2, 0, none⟩ = some (.bool false) := by rw [cell_of hX2]; rfl
                        have p1 : w5.cell? ⟨X2, 1, none⟩ = some (vi 0) := by rw [cell_of hX2]; rfl
                        have p2 : w5.cell? ⟨X2, 2, none⟩ = some (.slice none 0 0) := by rw [cell_of hX2]; rfl
                        have p3 : w5.cell? ⟨X2, 3, none⟩ = some (.slice none 0 0) := by rw [cell_of hX2]; rfl
                        have p4 : w5.cell? ⟨X2, 4, none⟩ = some (.slice none 0 0) := by rw [cell_of hX2]; rfl
                        have x0 : w5.cell? ⟨X, 0, none⟩ = some (.bool s.serial) := by rw [cell_of hX]; rfl
                        have x1 : w5.cell? ⟨X, 1, none⟩ = some (vi s.bugs) := by rw [cell_of hX]; rfl
                        have x2 : w5.cell? ⟨X, 2, none⟩ = some (.slice av s.vs.length cv) := by rw [cell_of hX]; rfl
                        have x3 : w5.cell? ⟨X, 3, none⟩ = some (.slice aw s.ws.length cw) := by rw [cell_of hX]; rfl
                        have x4 : w5.cell? ⟨X, 4, none⟩ = some (.slice ae s.es.length ce) := by rw [cell_of hX]; rfl
                        have HS := Lib.hid (rn_set5 (.bool s.serial) (vi s.bugs) (.slice av s.vs.length cv) (.slice aw s.ws.length cw) (.slice ae s.es.length ce) hX2)
                        have HBF := Lib.hid ((HB.out.trans (HB5.out.mono HB.out.size)).trans (rn_below5 (W := w5) (.bool s.serial) (vi s.bugs) (.slice av s.vs.length cv) (.slice aw s.ws.length cw) (.slice ae s.es.length ce) hb2))
                        clear HJJ HGM
                        clear hX hX2
                        go_wp2_with fail
                        generalize (((((w5.setCell ⟨X2, 0, none⟩ (.bool s.serial)).setCell ⟨X2, 1, none⟩ (vi s.bugs)).setCell ⟨X2, 2, none⟩ (.slice av s.vs.length cv)).setCell ⟨X2, 3, none⟩ (.slice aw s.ws.length cw)).setCell ⟨X2, 4, none⟩ (.slice ae s.es.length ce)) = wf at *
                        have r0 : wf.cell? ⟨X2, 0, none⟩ = some (.bool s.serial) := by rw [cell_of HS.out]; rfl
                        have r1 : wf.cell? ⟨X2, 1, none⟩ = some (vi s.bugs) := by rw [cell_of HS.out]; rfl
                        have r2 : wf.cell? ⟨X2, 2, none⟩ = some (.slice av s.vs.length cv) := by rw [cell_of HS.out]; rfl
                        have r3 : wf.cell? ⟨X2, 3, none⟩ = some (.slice aw s.ws.length cw) := by rw [cell_of HS.out]; rfl
                        have r4 : wf.cell? ⟨X2, 4, none⟩ = some (.slice ae s.es.length ce) := by rw [cell_of HS.out]; rfl
                        refine bodyPost_ret (v := .tuple #[rsV ⟨.slice av s.vs.length cv, .slice aw s.ws.length cw, .slice ae s.es.length ce, s⟩, vi 0, vi 61]) (by simp [results, Try.results39, go_sem, r0, r1, r2, r3, r4, rsV, rsC]) rfl ?_
                        try rw [hr]
                        exact ⟨_, rfl, rfl, PrR.same HXA.out HHA.out HBF.out⟩
                  · have k1 : decide ((k : Int) < r.reads.length) = false := decide_eq_false (by omega)
                    have HNR := Lib.hid (any_none HN4.out hlt4)
                    have hnex : ∀ y ∈ s.ws, y.txn ≠ r.txn := fun y hy e => by
                      have h1 := HNW.out
                      rw [List.any_eq_false] at h1
                      exact h1 y hy (by simp [e])
                    have hcc : ∀ u, Code.wp Try.prog cPrB (bodyPost Try.prog Try.f39 (PrR A w (rnPrepV s r).1 (rnPrepV s r).2.1 (rnPrepV s r).2.2)) (⟨#[q 0, q 1, q 2, q 3, q 4, q 5, q 6, q 7, q 8, q 9, q 10, q 11, q 12, q 13, q 14, q 15, q 16, q 17, q 18, q 19, q 20, q 21, q 22, q 23, q 24, q 25, q 26, q 27, q 28, q 29, q 30, q 31, q 32, q 33, q 34, q 35, q 36, q 37, q 38, q 39, q 40, q 41, q 42, q 43, q 44, q 45, q 46, q 47, q 48, q 49, q 50, q 51, q 52, q 53, q 54, q 55, q 56, q 57, q 58, q 59, q 60, q 61, q 62, q 63, q 64, q 65, q 66, q 67, q 68, q 69, q 70, q 71, q 72, q 73, q 74, q 75, q 76, q 77, q 78, q 79, q 80, q 81, q 82, q 83, q 84, q 85, q 86, q 87, q 88, q 89, q 90, q 91, q 92, q 93, u, q 95, q 96, q 97, q 98, q 99, q 100, q 101, q 102, q 103, q 104, q 105, q 106, q 107, q 108, q 109, q 110, q 111, q 112, q 113, q 114, q 115, q 116, q 117, q 118, q 119, q 120, q 121, q 122, q 123, q 124, q 125, q 126, q 127, q 128, q 129, q 130, q 131, q 132, q 133, q 134, q 135, q 136, q 137, q 138, q 139, q 140, q 141, q 142, q 143, q 144, q 145, q 146, q 147, q 148, q 149, q 150, q 151, q 152, q 153, q 154, q 155, q 156, q 157, q 158, q 159, q 160, q 161, q 162, q 163, q 164, q 165, q 166, q 167, q 168, q 169, q 170, q 171, q 172, q 173, q 174, q 175, q 176, q 177, q 178, q 179, q 180, q 181, q 182, q 183, q 184, q 185, q 186, q 187, q 188, q 189, q 190, q 191, q 192, q 193, q 194, q 195, q 196, q 197, q 198, q 199, q 200, q 201, q 202, q 203, q 204, q 205, q 206, q 207, q 208, q 209, q 210, q 211, q 212, q 213, q 214, q 215, q 216, q 217, q 218, q 219, q 220, q 221, q 222, q 223, q 224, q 225], []⟩ : Act) wd := fun u => by
                      refine wp_fr 226 _ rfl ?_
                      have hval : rnPrepV s r = if (blkOfP s.ws r (lookR s)).2 && firstR s then (s, (blkOfP s.ws r (lookR s)).1, 60) else (⟨s.serial, s.bugs, s.vs, insR s.ws r, s.es⟩, 0, 0) := by
                        unfold rnPrepV; rw [HNE.out, HNW.out, HNO.out, HNR.out]; rfl
                      have hfun : (fun e w' => if (blkOfP s.ws r (lookR s)).2 && firstR s then PrR A w s (blkOfP s.ws r (lookR s)).1 60 e w' else PrR A w ⟨s.serial, s.bugs, s.vs, insR s.ws r, s.es⟩ 0 0 e w') = PrR A w (rnPrepV s r).1 (rnPrepV s r).2.1 (rnPrepV s r).2.2 := by
                        rw [hval]; funext e w'
                        cases (blkOfP s.ws r (lookR s)).2 && firstR s <;> rfl
                      rw [← hfun, ← HLB.out, ← HFB.out]
                      exact prB A w ⟨.slice av s.vs.length cv, .slice aw s.ws.length cw, .slice ae s.es.length ce, s⟩ ⟨.slice a1 r.writes.length c1, .slice a2 r.reads.length c2, r⟩ X X1 X2 _ lb fb wd HP4.out HXA.out HHA.out HR.out HW4.out HL.out hnex HBB.out q2 q3 q4 q11 q12
                    have HCC := Lib.hid hcc
                    clear hcc
                    rw [fr226, q2, q3, q4, q11, q12, q91, q92, q93]
                    rw [q2, q3, q4, q11, q12, q91, q92, q93] at HCC
                    clear HJ hgm hJ HJJ HGM q2 q3 q4 q11 q12 q91 q92 q93
                    go_wp2_with fail
                    exact HKB.out _ _ (HCC.out _)
theorem rnPrep_call2 (A : World) (x : RSV) (rv : RV) (w : World) (hxA : RdSt A x) (hA : Below A.heap.size A w) (hr : RdyS w rv) (hbg : 0 ≤ x.s.bugs ∧ x.s.bugs ≤ 63) (hl : x.s.ws.length ≤ 1000 ∧ rv.r.writes.length ≤ 1000 ∧ rv.r.reads.length ≤ 1000) :
    Calls Try.prog 39 #[rsV x, rdyV rv] w (PrR2 A w (rnPrepV x.s rv.r).1 (rnPrepV x.s rv.r).2.1 (rnPrepV x.s rv.r).2.2) :=
  (rnPrep_call3 A x rv w hxA (CLe.of_below hA) hr hbg hl).mono fun _ _ h => PrR.old hA h
theorem rnPrep_call (x : RSV) (rv : RV) (w : World) (hx : RdSt w x) (hr : RdyS w rv) (hbg : 0 ≤ x.s.bugs ∧ x.s.bugs ≤ 63) (hl : x.s.ws.length ≤ 1000 ∧ rv.r.writes.length ≤ 1000 ∧ rv.r.reads.length ≤ 1000) :
    Calls Try.prog 39 #[rsV x, rdyV rv] w (PrR2 w w (rnPrepV x.s rv.r).1 (rnPrepV x.s rv.r).2.1 (rnPrepV x.s rv.r).2.2) := rnPrep_call2 w x rv w hx (Below.refl _ _) hr hbg hl
end Go.Proofs.Ytdkkpkgfiodlbaa

/- The store and layer 19's reference side by side: each step keeps them alike, each answer is the same. Names no function. -/
namespace Go.Proofs.Ytdkkpkgfiodlbaa
open Go.RowKit Go.Maps

theorem sorted_ext {α : Type} (f : α → Int) : ∀ {a b : List α}, a.Pairwise (fun x y => f x < f y) → b.Pairwise (fun x y => f x < f y) → (∀ p, p ∈ a ↔ p ∈ b) → a = b
  | [], [], _, _, _ => rfl
  | [], y :: b, _, _, h => by have := (h y).2 List.mem_cons_self; simp at this
  | x :: a, [], _, _, h => by have := (h x).1 List.mem_cons_self; simp at this
  | x :: a, y :: b, ha, hb, h => by
    have ha' := List.pairwise_cons.1 ha
    have hb' := List.pairwise_cons.1 hb
    have hxy : x = y := by
      rcases List.mem_cons.1 ((h x).1 List.mem_cons_self) with e | hx
      · exact e
      · rcases List.mem_cons.1 ((h y).2 List.mem_cons_self) with e | hy
        · exact e.symm
        · have h1 := ha'.1 y hy
          have h2 := hb'.1 x hx
          omega
    subst hxy
    congr 1
    refine sorted_ext f ha'.2 hb'.2 (fun p => ?_)
    constructor
    · intro hp
      rcases List.mem_cons.1 ((h p).1 (List.mem_cons_of_mem _ hp)) with rfl | h1
      · have := ha'.1 p hp; omega
      · exact h1
    · intro hp
      rcases List.mem_cons.1 ((h p).2 (List.mem_cons_of_mem _ hp)) with rfl | h1
      · have := hb'.1 p hp; omega
      · exact h1
theorem sorted_inj {α : Type} (f : α → Int) : ∀ {a : List α}, a.Pairwise (fun x y => f x < f y) → ∀ {p q : α}, p ∈ a → q ∈ a → f p = f q → p = q
  | [], _, p, q, h, _, _ => by cases h
  | x :: a, hs, p, q, hp, hq, he => by
    have h' := List.pairwise_cons.1 hs
    rcases List.mem_cons.1 hp with rfl | hp'
    · rcases List.mem_cons.1 hq with rfl | hq'
      · rfl
      · have := h'.1 q hq'; omega
    · rcases List.mem_cons.1 hq with rfl | hq'
      · have := h'.1 p hp'; omega
      · exact sorted_inj f h'.2 hp' hq' he
theorem srt_last {l : List Ver} (hs : Srt l) {x : Ver} (h : l.getLast? = some x) : x ∈ l ∧ ∀ y ∈ l, y.1 ≤ x.1 := by
  obtain ⟨ys, rfl⟩ := List.getLast?_eq_some_iff.1 h
  refine ⟨by simp, fun y hy => ?_⟩
  rcases List.mem_append.1 hy with hy | hy
  · exact Int.le_of_lt ((List.pairwise_append.1 hs).2.2 y hy x (by simp))
  · rw [List.mem_singleton.1 hy]; exact Int.le_refl _
theorem find_rev2 {α : Type} (p : α → Bool) (l : List α) : l.reverse.find? p = (l.filter p).getLast? := by
  induction l with
  | nil => rfl
  | cons x l ih =>
    rw [List.reverse_cons, List.find?_append, ih, List.filter_cons]
    by_cases hx : p x = true
    · rw [if_pos hx]
      cases h : (l.filter p).getLast? with
      | none =>
        have : l.filter p = [] := by simpa using h
        rw [this]; simp [hx]
      | some y => simp [List.getLast?_cons, h]
    · rw [if_neg hx]; simp [hx]
theorem valAt_eq2 (vs : List Ver) (t : Int) : valAt vs t = (((vs.filter (fun x => decide (x.1 ≤ t))).getLast?).map (·.2)).getD 0 := by
  unfold valAt revL
  rw [find_rev2]
  have h : (vs.zipIdx.map (fun p => (p.2, p.1))).filter (fun p : Nat × Ver => decide (p.2.1 ≤ t)) = (vs.zipIdx.filter (fun p => decide (p.1.1 ≤ t))).map (fun p => (p.2, p.1)) := by
    rw [List.filter_map]; rfl
  rw [h, List.getLast?_map]
  have h2 : vs.filter (fun x => decide (x.1 ≤ t)) = (vs.zipIdx.filter (fun p => decide (p.1.1 ≤ t))).map (·.1) := by
    conv => lhs; rw [← List.zipIdx_map_fst 0 vs]
    rw [List.filter_map]; rfl
  rw [h2, List.getLast?_map]
  cases (vs.zipIdx.filter (fun p => decide (p.1.1 ≤ t))).getLast? <;> rfl
theorem ofV_srt' {vs : List Ver3} (hu : Uniq3 vs) (key : Int) : Srt (ofV vs key) := ofV_srt key vs [] List.Pairwise.nil hu (fun _ _ _ y hy => by cases hy)
theorem ofV_mem' (vs : List Ver3) (key : Int) (p : Ver) : p ∈ ofV vs key ↔ ⟨key, p.1, p.2⟩ ∈ vs := by unfold ofV; rw [ofV_mem]; simp
theorem later_eq {vs : List Ver3} (hu : Uniq3 vs) (key t : Int) : laterB (ofV vs key) t = vs.any (later3 key t) := by
  have hs := ofV_srt' hu key
  unfold laterB
  cases hl : (ofV vs key).getLast? with
  | none =>
    have h0 : ofV vs key = [] := by simpa using hl
    symm
    rw [List.any_eq_false]
    intro v hv hlt
    simp only [later3, Bool.and_eq_true, beq_iff_eq, decide_eq_true_eq] at hlt
    obtain ⟨rfl, -⟩ := hlt
    have : (v.at_, v.val) ∈ ofV vs v.key := (ofV_mem' vs v.key _).2 hv
    rw [h0] at this; cases this
  | some x =>
    obtain ⟨hx, hm⟩ := srt_last hs hl
    have hx3 := (ofV_mem' vs key x).1 hx
    show decide (t < x.1) = _
    by_cases ht : t < x.1
    · rw [decide_eq_true ht]
      exact (List.any_eq_true.2 ⟨_, hx3, by simp [later3, ht]⟩).symm
    · rw [decide_eq_false ht]
      symm
      rw [List.any_eq_false]
      intro v hv hlt
      simp only [later3, Bool.and_eq_true, beq_iff_eq, decide_eq_true_eq] at hlt
      obtain ⟨rfl, h2⟩ := hlt
      have := hm (v.at_, v.val) ((ofV_mem' vs v.key _).2 hv)
      simp only at this; omega
theorem best_spec (key t : Int) : ∀ (vs : List Ver3) (b : Option Ver3),
    (vs.foldl (bestStep key t) b = none ∧ b = none ∧ ∀ z ∈ vs, z.key = key → ¬ z.at_ ≤ t) ∨
    (∃ y, vs.foldl (bestStep key t) b = some y ∧ (b = some y ∨ (y ∈ vs ∧ y.key = key ∧ y.at_ ≤ t)) ∧ (∀ z ∈ vs, z.key = key → z.at_ ≤ t → z.at_ ≤ y.at_) ∧ (∀ b', b = some b' → b'.at_ ≤ y.at_))
  | [], none => .inl ⟨rfl, rfl, fun z hz => by cases hz⟩
  | [], some b => .inr ⟨b, rfl, .inl rfl, (fun z hz => by cases hz), fun b' h => by cases h; exact Int.le_refl _⟩
  | v :: vs, b => by
    rw [List.foldl_cons]
    rcases best_spec key t vs (bestStep key t b v) with ⟨h1, h2, h3⟩ | ⟨y, h1, h2, h3, h4⟩
    · have hb : b = none ∧ (v.key = key → ¬ v.at_ ≤ t) := by
        unfold bestStep at h2
        split at h2
        · cases h2
        · rename_i hn
          subst h2
          refine ⟨rfl, fun hk ht => hn ?_⟩
          simp [hk, ht, newer]
      refine .inl ⟨h1, hb.1, fun z hz => ?_⟩
      rcases List.mem_cons.1 hz with rfl | hz
      · exact hb.2
      · exact h3 z hz
    · refine .inr ⟨y, h1, ?_, fun z hz hk ht => ?_, fun b' hb => ?_⟩
      · rcases h2 with h2 | ⟨h2, hk, ht⟩
        · unfold bestStep at h2
          split at h2
          · rename_i hc
            simp only [Bool.and_eq_true, beq_iff_eq, decide_eq_true_eq] at hc
            cases h2
            exact .inr ⟨List.mem_cons_self, hc.1.1, hc.1.2⟩
          · exact .inl h2
        · exact .inr ⟨List.mem_cons_of_mem _ h2, hk, ht⟩
      · rcases List.mem_cons.1 hz with rfl | hz
        · cases hn : newer b z with
          | true => exact h4 z (by unfold bestStep; simp [hk, ht, hn])
          | false =>
            have hbs : bestStep key t b z = b := by unfold bestStep; simp [hn]
            cases b with
            | none => simp [newer] at hn
            | some b' =>
              have := h4 b' hbs
              simp [newer] at hn; omega
        · exact h3 z hz hk ht
      · subst hb
        cases hc : (v.key == key && decide (v.at_ ≤ t) && newer (some b') v) with
        | true =>
          have h5 := h4 v (by unfold bestStep; rw [hc]; rfl)
          simp only [Bool.and_eq_true, newer, decide_eq_true_eq] at hc
          omega
        | false => exact h4 b' (by unfold bestStep; rw [hc]; rfl)
theorem valAt_best {vs : List Ver3} (hu : Uniq3 vs) (key t : Int) : valAt (ofV vs key) t = ((bestOf vs key t).map (·.val)).getD 0 := by
  have hs := ofV_srt' hu key
  rw [valAt_eq2]
  unfold bestOf
  have hsf : Srt ((ofV vs key).filter (fun x => decide (x.1 ≤ t))) := hs.filter _
  rcases best_spec key t vs none with ⟨h1, -, h3⟩ | ⟨y, h1, h2, h3, -⟩
  · rw [h1]
    have : (ofV vs key).filter (fun x => decide (x.1 ≤ t)) = [] := by
      rw [List.filter_eq_nil_iff]
      intro p hp hpt
      exact h3 _ ((ofV_mem' vs key p).1 hp) rfl (by simpa using hpt)
    rw [this]; rfl
  · rw [h1]
    obtain ⟨hy, hk, ht⟩ : y ∈ vs ∧ y.key = key ∧ y.at_ ≤ t := by
      rcases h2 with h2 | h2
      · cases h2
      · exact h2
    subst hk
    have hym : (y.at_, y.val) ∈ (ofV vs y.key).filter (fun x => decide (x.1 ≤ t)) := List.mem_filter.2 ⟨(ofV_mem' vs y.key _).2 hy, by simpa using ht⟩
    cases hl : ((ofV vs y.key).filter (fun x => decide (x.1 ≤ t))).getLast? with
    | none =>
      have : (ofV vs y.key).filter (fun x => decide (x.1 ≤ t)) = [] := by simpa using hl
      rw [this] at hym; cases hym
    | some x =>
      obtain ⟨hx, hm⟩ := srt_last hsf hl
      have h5 := hm _ hym
      have hx' := List.mem_filter.1 hx
      have h6 := h3 _ ((ofV_mem' vs y.key x).1 hx'.1) rfl (by simpa using hx'.2)
      simp only at h5 h6
      have : x = (y.at_, y.val) := sorted_inj (fun p : Ver => p.1) hsf hx hym (by simp only; omega)
      rw [this]; rfl

/-- The store's state and the reference's, side by side. -/
structure Sim (K : KeysL) (R : RdyL) (E : EndL) (s : RSt) : Prop where
  w : SameW R s.ws
  ws : s.ws.Pairwise (fun x y => x.txn < y.txn)
  e : ∀ t, getM E t = s.es.find? (fun x => x.txn == t)
  u : Uniq3 s.vs
  k : ∀ key, verOf K key = ofV s.vs key
theorem Sim.start (serial : Bool) (bugs : Int) : Sim [] [] [] ⟨serial, bugs, [], [], []⟩ :=
  ⟨⟨fun x hx => (by cases hx), fun x hx => (by cases hx)⟩, List.Pairwise.nil, fun _ => rfl, List.Pairwise.nil, fun _ => rfl⟩
theorem Sim.isE {K : KeysL} {R : RdyL} {E : EndL} {s : RSt} (h : Sim K R E s) (t : Int) : (getM E t).isSome = s.es.any (fun x => x.txn == t) := by
  rw [h.e]
  cases hf : s.es.find? (fun x => x.txn == t) with
  | none =>
    symm
    show _ = false
    rw [List.any_eq_false]
    exact List.find?_eq_none.1 hf
  | some y => exact (List.any_eq_true.2 ⟨y, List.mem_of_find?_eq_some hf, List.find?_some hf⟩).symm
theorem Sim.isW {K : KeysL} {R : RdyL} {E : EndL} {s : RSt} (h : Sim K R E s) (t : Int) : (getM R t).isSome = s.ws.any (fun x => x.txn == t) := by
  cases hg : getM R t with
  | none =>
    symm
    show _ = false
    rw [List.any_eq_false]
    intro r hr e
    obtain ⟨x, hx, h1, h2⟩ := h.w.2 r hr
    exact getM_none.1 hg x hx (by rw [h1]; simpa using e)
  | some y =>
    have h1 := h.w.1 _ (getM_some hg)
    exact (List.any_eq_true.2 ⟨y.r, h1.2, by simpa using h1.1.symm⟩).symm
theorem Sim.wait {K : KeysL} {R : RdyL} {E : EndL} {s : RSt} (h : Sim K R E s) {t : Int} {y : RV} (hg : getM R t = some y) : y.r ∈ s.ws ∧ y.r.txn = t := by
  have h1 := h.w.1 _ (getM_some hg)
  exact ⟨h1.2, h1.1.symm⟩

def insW : List Rdy → Rdy → List Rdy
  | [], r => [r]
  | x :: ws, r => if r.txn < x.txn then r :: x :: ws else x :: insW ws r
theorem ins_done (r : Rdy) : ∀ (ws : List Rdy) (b : List Rdy), ws.foldl (insStep r) (b, true) = (b ++ ws, true)
  | [], b => by simp
  | x :: ws, b => by
    rw [List.foldl_cons]
    have : insStep r (b, true) x = (b ++ [x], true) := rfl
    rw [this, ins_done r ws]; simp
theorem ins_fold (r : Rdy) : ∀ (ws : List Rdy) (b : List Rdy), (if (ws.foldl (insStep r) (b, false)).2 then (ws.foldl (insStep r) (b, false)).1 else (ws.foldl (insStep r) (b, false)).1 ++ [r]) = b ++ insW ws r
  | [], b => by simp [insW]
  | x :: ws, b => by
    rw [List.foldl_cons]
    unfold insW
    by_cases hx : r.txn < x.txn
    · have : insStep r (b, false) x = (b ++ [r] ++ [x], true) := by unfold insStep; simp [hx]
      rw [this, ins_done, if_pos hx]; simp
    · have : insStep r (b, false) x = (b ++ [x], false) := by unfold insStep; simp [hx]
      rw [this, ins_fold r ws, if_neg hx]; simp
theorem insR_eq (ws : List Rdy) (r : Rdy) : insR ws r = insW ws r := by
  have := ins_fold r ws []
  rw [List.nil_append] at this
  exact this
theorem insW_mem (r y : Rdy) : ∀ ws : List Rdy, y ∈ insW ws r ↔ y = r ∨ y ∈ ws
  | [] => by simp [insW]
  | x :: ws => by
    unfold insW
    split
    · simp
    · rw [List.mem_cons, insW_mem r y ws, List.mem_cons]
      constructor
      · rintro (h | h | h)
        · exact .inr (.inl h)
        · exact .inl h
        · exact .inr (.inr h)
      · rintro (h | h | h)
        · exact .inr (.inl h)
        · exact .inl h
        · exact .inr (.inr h)
theorem insW_srt (r : Rdy) : ∀ {ws : List Rdy}, ws.Pairwise (fun x y => x.txn < y.txn) → (∀ y ∈ ws, y.txn ≠ r.txn) → (insW ws r).Pairwise (fun x y => x.txn < y.txn)
  | [], _, _ => List.pairwise_singleton _ _
  | x :: ws, h, hn => by
    have h' := List.pairwise_cons.1 h
    unfold insW
    split
    · rename_i hx
      refine List.pairwise_cons.2 ⟨fun y hy => ?_, h⟩
      rcases List.mem_cons.1 hy with rfl | hy
      · exact hx
      · have := h'.1 y hy; omega
    · rename_i hx
      refine List.pairwise_cons.2 ⟨fun y hy => ?_, insW_srt r h'.2 (fun y hy => hn y (List.mem_cons_of_mem _ hy))⟩
      rcases (insW_mem r y ws).1 hy with rfl | hy
      · have := hn x List.mem_cons_self; omega
      · exact h'.1 y hy
theorem insW_len (r : Rdy) : ∀ ws : List Rdy, (insW ws r).length = ws.length + 1
  | [] => rfl
  | x :: ws => by unfold insW; split <;> simp [insW_len r ws]

theorem off_bit {bugs : Int} (hb : 0 ≤ bugs ∧ bugs ≤ 63) : offB bugs 1 = (bugs % 2 == 0) ∧ offB bugs 2 = offR bugs 2 ∧ offB bugs 4 = offR bugs 4 ∧ offB bugs 32 = offR bugs 32 := by
  obtain ⟨n, rfl⟩ : ∃ n : Nat, bugs = n := ⟨bugs.toNat, by omega⟩
  exact off_eq n (by omega)
theorem any_and {α : Type} (l : List α) (b : Bool) (q : α → Bool) : l.any (fun x => b && q x) = (b && l.any q) := by
  cases b <;> simp
/-- One more is prepared. -/
theorem Sim.prep {K : KeysL} {R : RdyL} {E : EndL} {s : RSt} (h : Sim K R E s) (hb : 0 ≤ s.bugs ∧ s.bugs ≤ 63) {r : Rdy} {by_ err : Int} {R' : RdyL} (hp : PrepM s.serial s.bugs K R E r by_ err R') :
    (rnPrepV s r).2 = (by_, err) ∧ Sim K R' E (rnPrepV s r).1 := by
  obtain ⟨o1, o2, o4, -⟩ := off_bit hb
  have hlW : lostW K s.bugs r = r.writes.any (fun o => firstR s && s.vs.any (later3 o.key r.start)) := by
    unfold lostW firstR
    rw [o1, any_and]
    congr 2
    funext o
    rw [h.k, later_eq h.u]
  have hlook : lookP s.serial s.bugs = lookR s := by unfold lookP lookR; rw [o4]
  have hlR : lostR K s.serial s.bugs r = r.reads.any (fun k => lookR s && s.vs.any (later3 k r.start)) := by
    unfold lostR
    rw [hlook, any_and]
    congr 2
    funext k
    rw [h.k, later_eq h.u]
  unfold PrepM at hp
  rw [hlW, hlR, hlook, h.isE, h.isW] at hp
  unfold rnPrepV
  rcases hp with ⟨h1, rfl, rfl, rfl⟩ | ⟨h1, h2, rfl, rfl, rfl⟩ | ⟨h1, h2, h3, rfl, rfl, rfl⟩ | ⟨h1, h2, h3, h4, id, ok, hblk, h5⟩
  · rw [if_pos h1]; exact ⟨rfl, h⟩
  · rw [if_neg (by rw [h1]; decide), if_pos h2]; exact ⟨rfl, h⟩
  · rw [if_neg (by rw [h1]; decide), if_neg (by rw [h2]; decide)]
    by_cases h6 : r.writes.any (fun o => firstR s && s.vs.any (later3 o.key r.start)) = true
    · rw [if_pos h6]; exact ⟨rfl, h⟩
    · rw [if_neg h6]
      have h7 := h3.resolve_left h6
      rw [if_pos h7]; exact ⟨rfl, h⟩
  · rw [if_neg (by rw [h1]; decide), if_neg (by rw [h2]; decide), if_neg (by rw [h3]; decide), if_neg (by rw [h4]; decide)]
    have hnew : ∀ y ∈ s.ws, y.txn ≠ r.txn := fun y hy e => by
      rw [List.any_eq_false] at h2
      exact h2 y hy (by simpa using e)
    have hl := blk_least h.w hblk
    rw [← blkOfP_least s.ws r (lookR s) hnew] at hl
    rw [hl]
    have o1' : offB s.bugs 1 = firstR s := o1
    rw [o1'] at h5
    rcases h5 with ⟨rfl, h6, rfl, rfl, rfl⟩ | ⟨h6, rfl, rfl, wv, rv, rfl⟩
    · rw [if_pos (by simp [h6])]; exact ⟨rfl, h⟩
    · rw [if_neg (by rcases h6 with h6 | h6 <;> simp [h6])]
      refine ⟨rfl, ⟨?_, ?_, h.e, h.u, h.k⟩⟩
      · rw [insR_eq]
        have hn : getM R r.txn = none := by
          have := h.isW r.txn
          rw [h2] at this
          simpa using this
        have hput : putM R r.txn ⟨wv, rv, r⟩ = R ++ [(r.txn, ⟨wv, rv, r⟩)] := by unfold putM; rw [hn]; rfl
        rw [hput]
        refine ⟨fun x hx => ?_, fun y hy => ?_⟩
        · rcases List.mem_append.1 hx with hx | hx
          · exact ⟨(h.w.1 x hx).1, (insW_mem _ _ _).2 (.inr (h.w.1 x hx).2)⟩
          · rw [List.mem_singleton.1 hx]
            exact ⟨rfl, (insW_mem _ _ _).2 (.inl rfl)⟩
        · rcases (insW_mem _ _ _).1 hy with rfl | hy
          · exact ⟨(y.txn, ⟨wv, rv, y⟩), by simp, rfl, rfl⟩
          · obtain ⟨x, hx, h7⟩ := h.w.2 y hy
            exact ⟨x, List.mem_append_left _ hx, h7⟩
      · rw [insR_eq]; exact insW_srt r h.ws hnew

theorem finAll_none (e : EndM) : ∀ (ws : List Rdy) (vs : List Ver3), (∀ r ∈ ws, r.txn ≠ e.txn) → finAll e vs ws = vs
  | [], _, _ => rfl
  | r :: ws, vs, h => by
    have h1 : (r.txn == e.txn) = false := by simpa using h r List.mem_cons_self
    have e1 : finAll e vs (r :: ws) = finAll e (if r.txn == e.txn then finW3 e vs r.writes else vs) ws := rfl
    rw [e1, h1]
    exact finAll_none e ws vs (fun y hy => h y (List.mem_cons_of_mem _ hy))
theorem finAll_one (e : EndM) : ∀ {ws : List Rdy} (vs : List Ver3), ws.Pairwise (fun x y => x.txn < y.txn) → ∀ {r : Rdy}, r ∈ ws → r.txn = e.txn → finAll e vs ws = finW3 e vs r.writes
  | [], _, _, r, hr, _ => by cases hr
  | x :: ws, vs, h, r, hr, he => by
    have h' := List.pairwise_cons.1 h
    have e1 : finAll e vs (x :: ws) = finAll e (if x.txn == e.txn then finW3 e vs x.writes else vs) ws := rfl
    rw [e1]
    rcases List.mem_cons.1 hr with rfl | hr
    · have h1 : (r.txn == e.txn) = true := by simpa using he
      rw [h1]
      exact finAll_none e ws _ (fun y hy => by have := h'.1 y hy; omega)
    · have h1 : (x.txn == e.txn) = false := by have := h'.1 r hr; rw [beq_eq_false_iff_ne]; omega
      rw [h1]
      exact finAll_one e vs h'.2 hr he
/-- One more is ended. -/
theorem Sim.fin {K : KeysL} {R : RdyL} {E : EndL} {s : RSt} (h : Sim K R E s) {e : EndM} {K' : KeysL} {R' : RdyL} {E' : EndL} (hf : FinM K R E e K' R' E') : Sim K' R' E' (rnFinish s e) := by
  unfold rnFinish
  unfold FinM at hf
  rw [h.isE] at hf
  rcases hf with ⟨h1, rfl, rfl, rfl⟩ | ⟨h1, rfl, rfl, h4⟩
  · rw [if_pos h1]; exact h
  · rw [if_neg (by rw [h1]; decide)]
    have hv : Uniq3 (finAll e s.vs s.ws) ∧ ∀ key, ofV (finAll e s.vs s.ws) key = finV e.at_ key (writesOf R e) (ofV s.vs key) := by
      cases hg : getM R e.txn with
      | none =>
        have hno : ∀ r ∈ s.ws, r.txn ≠ e.txn := fun r hr he => by
          have := h.isW e.txn
          rw [hg] at this
          exact List.any_eq_false.1 this.symm r hr (by simpa using he)
        rw [finAll_none e s.ws s.vs hno]
        refine ⟨h.u, fun key => ?_⟩
        have : writesOf R e = [] := by unfold writesOf; rw [hg]; cases e.commit <;> rfl
        rw [this]; rfl
      | some y =>
        obtain ⟨hy, ht⟩ := h.wait hg
        rw [finAll_one e s.vs h.ws hy ht]
        obtain ⟨a1, a2⟩ := ofV_finW3 e y.r.writes s.vs h.u
        refine ⟨a1, fun key => ?_⟩
        rw [a2]
        unfold writesOf
        rw [hg]
        cases e.commit <;> rfl
    refine ⟨⟨fun x hx => ?_, fun r hr => ?_⟩, h.ws.filter _, fun t => ?_, hv.1, fun key => ?_⟩
    · obtain ⟨h5, h6⟩ := List.mem_filter.1 hx
      obtain ⟨h7, h8⟩ := h.w.1 x h5
      refine ⟨h7, List.mem_filter.2 ⟨h8, ?_⟩⟩
      rw [← h7]; simpa using h6
    · obtain ⟨h5, h6⟩ := List.mem_filter.1 hr
      obtain ⟨x, hx, h7, h8⟩ := h.w.2 r h5
      refine ⟨x, List.mem_filter.2 ⟨hx, ?_⟩, h7, h8⟩
      rw [h7]; simpa using h6
    · rw [getM_put, h.e, List.find?_append]
      by_cases he : e.txn = t
      · rw [if_pos he]
        subst he
        have : s.es.find? (fun x => x.txn == e.txn) = none := List.find?_eq_none.2 (List.any_eq_false.1 h1)
        rw [this]; simp
      · rw [if_neg he]
        have : (e.txn == t) = false := by simpa using he
        simp [this]
    · rw [h4 key, h.k, hv.2]
/-- What is read. -/
theorem Sim.read {K : KeysL} {R : RdyL} {E : EndL} {s : RSt} (h : Sim K R E s) (hb : 0 ≤ s.bugs ∧ s.bugs ≤ 63) {txn key t v by_ err : Int} (hr : ReadM K R s.bugs txn key t v by_ err) : rnReadV s txn key t = (v, by_, err) := by
  obtain ⟨o1, o2, o4, -⟩ := off_bit hb
  obtain ⟨id, ok, hblk, h2⟩ := hr
  have hl := blk_least h.w hblk
  rw [← blkOf_least] at hl
  unfold rnReadV
  rw [hl, ← o2]
  simp only
  rcases h2 with ⟨rfl, h3, rfl, rfl, rfl⟩ | ⟨h3, rfl, rfl, rfl⟩
  · rw [if_pos (by simp [h3])]
  · rw [if_neg (by rcases h3 with h3 | h3 <;> simp [h3]), h.k, valAt_best h.u]
/-- Who waits. -/
theorem Sim.waits {K : KeysL} {R : RdyL} {E : EndL} {s : RSt} (h : Sim K R E s) (hd : R.Pairwise (fun p q => p.1 ≠ q.1)) {l : List Rdy} (hw : WaitsM R l) : l = s.ws := by
  obtain ⟨ks, hp, hs, rfl⟩ := hw
  have hk : ∀ k ∈ ks, ∃ y, getM R k = some y := fun k hk => by
    cases hg : getM R k with
    | some y => exact ⟨y, rfl⟩
    | none =>
      obtain ⟨x, hx, rfl⟩ := List.mem_map.1 (hp.mem_iff.1 hk)
      exact absurd rfl (getM_none.1 hg x hx)
  have hnd : ks.Nodup := hp.nodup_iff.2 (List.pairwise_map.2 hd)
  have hlt : ks.Pairwise (fun x y => x < y) := (hs.and hnd).imp (fun ⟨a, b⟩ => by omega)
  refine sorted_ext (fun r : Rdy => r.txn) ?_ h.ws (fun r => ?_)
  · rw [List.pairwise_map]
    refine List.Pairwise.imp_of_mem (fun {a b} ha hb hab => ?_) hlt
    obtain ⟨y, hy⟩ := hk a ha
    obtain ⟨z, hz⟩ := hk b hb
    rw [hy, hz]
    show y.r.txn < z.r.txn
    rw [(h.wait hy).2, (h.wait hz).2]; exact hab
  · constructor
    · intro hr
      obtain ⟨k, hk1, rfl⟩ := List.mem_map.1 hr
      obtain ⟨y, hy⟩ := hk k hk1
      rw [hy]; exact (h.wait hy).1
    · intro hr
      obtain ⟨x, hx, h1, rfl⟩ := h.w.2 r hr
      refine List.mem_map.2 ⟨x.1, hp.mem_iff.2 (List.mem_map.2 ⟨x, hx, rfl⟩), ?_⟩
      obtain ⟨y, hy⟩ := hk x.1 (hp.mem_iff.2 (List.mem_map.2 ⟨x, hx, rfl⟩))
      obtain ⟨a1, a2⟩ := h.wait hy
      rw [hy]
      exact sorted_inj (fun r : Rdy => r.txn) h.ws a1 (h.w.1 x hx).2 (by show y.r.txn = x.2.r.txn; rw [a2, h1])
end Go.Proofs.Ytdkkpkgfiodlbaa
