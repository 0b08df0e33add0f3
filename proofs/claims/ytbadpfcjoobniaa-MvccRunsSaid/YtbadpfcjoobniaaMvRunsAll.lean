/- Texts of one proof, one behind the other: RnSim, RnPrA, RnSim2, RnOfW, MvRun0, MvRun1, MvRun2, MvSame2, MvRun3, MvRun4, MvRun5, MvHead, MvRun6, MvTwo, MvBig, MvRuns. -/
import Derived.Test.YtbadpfcjoobniaaRnPrB
import Derived.Test.YtbadpfcjoobniaaMvRead
import Derived.Test.YtbadpfcjoobniaaMvPrep3
import Derived.Test.YtbadpfcjoobniaaRnOf
import Derived.Test.YtbadpfcjoobniaaMvWaits
import Derived.Test.YtbadpfcjoobniaaRnPrD
import Derived.Test.YtbadpfcjoobniaaMvReg
import Derived.Test.YtbadpfcjoobniaaMvEnded
import Derived.Test.YtbadpfcjoobniaaMvRow
namespace Go.Proofs.Ytbadpfcjoobniaa
open Go.RowKit Go.Maps

/-- Those who wait in the store are those who wait in the reference's list. -/
def SameW (R : RdyL) (ws : List Rdy) : Prop := (∀ x ∈ R, x.1 = x.2.r.txn ∧ x.2.r ∈ ws) ∧ (∀ r ∈ ws, ∃ x ∈ R, x.1 = r.txn ∧ x.2.r = r)
/-- The least of those who are such, as a list's walk finds it. -/
def leastOf (q : Rdy → Bool) (s : Int × Bool) (r : Rdy) : Int × Bool := if q r && (!s.2 || decide (r.txn < s.1)) then (r.txn, true) else s
theorem least_spec (q : Rdy → Bool) : ∀ (ws : List Rdy) (s : Int × Bool),
    (ws.foldl (leastOf q) s = s ∧ ∀ r ∈ ws, q r = true → s.2 = true ∧ s.1 ≤ r.txn) ∨
    (∃ r ∈ ws, q r = true ∧ ws.foldl (leastOf q) s = (r.txn, true) ∧ (∀ r' ∈ ws, q r' = true → r.txn ≤ r'.txn) ∧ (s.2 = true → r.txn ≤ s.1))
  | [], s => .inl ⟨rfl, fun r hr => by cases hr⟩
  | x :: ws, s => by
    rw [List.foldl_cons]
    have ih := least_spec q ws (leastOf q s x)
    cases hq : q x with
    | false =>
      have e : leastOf q s x = s := by unfold leastOf; rw [hq]; rfl
      rw [e] at ih ⊢
      rcases ih with ⟨h1, h2⟩ | ⟨r, hr, h1, h2, h3, h4⟩
      · refine .inl ⟨h1, fun r hr hqr => ?_⟩
        rcases List.mem_cons.1 hr with rfl | hr
        · rw [hq] at hqr; cases hqr
        · exact h2 r hr hqr
      · refine .inr ⟨r, List.mem_cons_of_mem _ hr, h1, h2, fun r' hr' hq' => ?_, h4⟩
        rcases List.mem_cons.1 hr' with rfl | hr'
        · rw [hq] at hq'; cases hq'
        · exact h3 r' hr' hq'
    | true =>
      by_cases hc : s.2 = true ∧ s.1 ≤ x.txn
      · have e : leastOf q s x = s := by
          unfold leastOf; rw [hq, hc.1, decide_eq_false (by omega : ¬ x.txn < s.1)]; rfl
        rw [e] at ih ⊢
        rcases ih with ⟨h1, h2⟩ | ⟨r, hr, h1, h2, h3, h4⟩
        · refine .inl ⟨h1, fun r hr hqr => ?_⟩
          rcases List.mem_cons.1 hr with rfl | hr
          · exact hc
          · exact h2 r hr hqr
        · refine .inr ⟨r, List.mem_cons_of_mem _ hr, h1, h2, fun r' hr' hq' => ?_, h4⟩
          rcases List.mem_cons.1 hr' with rfl | hr'
          · have := h4 hc.1; omega
          · exact h3 r' hr' hq'
      · have e : leastOf q s x = (x.txn, true) := by
          unfold leastOf
          rw [hq]
          cases h2 : s.2 with
          | false => rfl
          | true =>
            have : ¬ s.1 ≤ x.txn := fun h => hc ⟨h2, h⟩
            rw [decide_eq_true (by omega : x.txn < s.1)]; rfl
        rw [e] at ih ⊢
        have hs : s.2 = true → x.txn ≤ s.1 := fun h => by
          have : ¬ s.1 ≤ x.txn := fun h' => hc ⟨h, h'⟩
          omega
        rcases ih with ⟨h1, h2⟩ | ⟨r, hr, h1, h2, h3, h4⟩
        · refine .inr ⟨x, List.mem_cons_self, hq, h1, fun r' hr' hq' => ?_, hs⟩
          rcases List.mem_cons.1 hr' with rfl | hr'
          · exact Int.le_refl _
          · exact (h2 r' hr' hq').2
        · have hrx : r.txn ≤ x.txn := h4 rfl
          refine .inr ⟨r, List.mem_cons_of_mem _ hr, h1, h2, fun r' hr' hq' => ?_, fun h => Int.le_trans hrx (hs h)⟩
          rcases List.mem_cons.1 hr' with rfl | hr'
          · exact hrx
          · exact h3 r' hr' hq'
/-- The store's answer to 'who is in the way' is the reference's. -/
theorem blk_least {R : RdyL} {ws : List Rdy} (hs : SameW R ws) {but : Int} {q : Rdy → Bool} {id : Int} {ok : Bool} (h : Blk R but q (id, ok)) : ws.foldl (leastOf (fun r => r.txn != but && q r)) (0, false) = (id, ok) := by
  rcases least_spec (fun r => r.txn != but && q r) ws (0, false) with ⟨h1, h2⟩ | ⟨r, hr, hq, h1, h3, -⟩
  · rw [h1]
    rcases h with ⟨h4, -⟩ | ⟨x, hx, hb, hqx, h4, -⟩
    · exact h4.symm
    · obtain ⟨e1, hw⟩ := hs.1 x hx
      have := h2 x.2.r hw (by rw [← e1, hqx]; simp [hb])
      simp at this
  · rw [h1]
    simp only [Bool.and_eq_true, bne_iff_ne] at hq
    obtain ⟨y, hy, ey, er⟩ := hs.2 r hr
    rcases h with ⟨-, h5⟩ | ⟨x, hx, hb, hqx, h4, h5⟩
    · have := h5 y hy (by rw [ey]; exact hq.1)
      rw [er, hq.2] at this; cases this
    · obtain ⟨e1, hw⟩ := hs.1 x hx
      have a1 := h3 x.2.r hw (by rw [← e1, hqx]; simp [hb])
      have a2 := h5 y hy (by rw [ey]; exact hq.1) (by rw [er]; exact hq.2)
      cases h4
      rw [ey] at a2
      have : r.txn = x.1 := by omega
      rw [this]
theorem blkOf_least (ws : List Rdy) (txn key t : Int) : blkOf ws txn key t = ws.foldl (leastOf (fun r => r.txn != txn && (writesB r key && decide (r.start < t)))) (0, false) := by
  unfold blkOf
  congr 1
  funext s r
  unfold blkStep leastOf
  simp only [Bool.and_assoc]
theorem blkOfP_least (ws : List Rdy) (r : Rdy) (look : Bool) (h : ∀ y ∈ ws, y.txn ≠ r.txn) : blkOfP ws r look = ws.foldl (leastOf (fun x => x.txn != r.txn && wayB r look x)) (0, false) := by
  unfold blkOfP
  have : ∀ (l : List Rdy) (s : Int × Bool), (∀ y ∈ l, y.txn ≠ r.txn) → l.foldl (blkStepP r look) s = l.foldl (leastOf (fun x => x.txn != r.txn && wayB r look x)) s := by
    intro l
    induction l with
    | nil => intro s _; rfl
    | cons x l ih =>
      intro s hl
      rw [List.foldl_cons, List.foldl_cons]
      have e : blkStepP r look s x = leastOf (fun x => x.txn != r.txn && wayB r look x) s x := by
        unfold blkStepP leastOf
        have : (x.txn != r.txn) = true := by simpa using hl x List.mem_cons_self
        simp only [this, Bool.true_and]
      rw [e]
      exact ih _ (fun y hy => hl y (List.mem_cons_of_mem _ hy))
  exact this ws _ h
/-- The bugs' bits, as the program and as the reference ask for them. -/
theorem off_eq : ∀ n : Nat, n < 64 → (bits .and .i64 (n : Int) 1 == 0) = ((n : Int) % 2 == 0) ∧ (bits .and .i64 (n : Int) 2 == 0) = offR n 2 ∧ (bits .and .i64 (n : Int) 4 == 0) = offR n 4 ∧ (bits .and .i64 (n : Int) 32 == 0) = offR n 32 := by decide
end Go.Proofs.Ytbadpfcjoobniaa

namespace Go.Proofs.Ytbadpfcjoobniaa
open Go.RowKit Go.Maps
attribute [local go_sem] Oper.semAt_some

def firstR (s : RSt) : Bool := s.bugs % 2 == 0
def lookR (s : RSt) : Bool := s.serial && offR s.bugs 4
def rnPrepV (s : RSt) (r : Rdy) : RSt × Int × Int :=
  if s.es.any (fun e => e.txn == r.txn) then (s, 0, 62) else
  if s.ws.any (fun x => x.txn == r.txn) then (s, 0, 0) else
  if r.writes.any (fun o => firstR s && s.vs.any (later3 o.key r.start)) then (s, 0, 61) else
  if r.reads.any (fun k => lookR s && s.vs.any (later3 k r.start)) then (s, 0, 61) else
  if (blkOfP s.ws r (lookR s)).2 && firstR s then (s, (blkOfP s.ws r (lookR s)).1, 60) else (⟨s.serial, s.bugs, s.vs, insR s.ws r, s.es⟩, 0, 0)

set_option maxRecDepth 1000000 in
set_option maxHeartbeats 16000000 in
theorem rnPrep_call2 (A : World) (x : RSV) (rv : RV) (w : World) (hxA : RdSt A x) (hA : Below A.heap.size A w) (hr : RdyS w rv) (hbg : 0 ≤ x.s.bugs ∧ x.s.bugs ≤ 63) (hl : x.s.ws.length ≤ 1000 ∧ rv.r.writes.length ≤ 1000 ∧ rv.r.reads.length ≤ 1000) :
    Calls Try.prog 18 #[rsV x, rdyV rv] w (PrR A w (rnPrepV x.s rv.r).1 (rnPrepV x.s rv.r).2.1 (rnPrepV x.s rv.r).2.2) := by
  have hx := hxA.later hA
  have HXA := Lib.hid hxA
  have HHA := Lib.hid hA
  clear hxA hA
  obtain ⟨vv, wv, ev, s⟩ := x
  have HV := Lib.hid hx.vs
  have HW := Lib.hid hx.ws
  have HE := Lib.hid hx.es
  obtain ⟨av, nv, cv, hwv, rfl, hmv, -⟩ := (show RdVer3 w vv s.vs from hx.vs).at
  obtain ⟨aw, nw, cw, hww, rfl, hmw, -⟩ := (show RdRdy w wv s.ws from hx.ws).at
  obtain ⟨ae, ne, ce, hwe, rfl, hme, -⟩ := (show RdEn w ev s.es from hx.es).at
  subst hwv hww hwe
  obtain ⟨rw_, rr, r⟩ := rv
  obtain ⟨a1, l1, c1, h1, rfl, hm1, -⟩ := (show RdOps w rw_ r.writes from hr.ws).at
  obtain ⟨a2, l2, c2, h2, rfl, hm2, -⟩ := (show RdInts w rr r.reads from hr.rs).at
  subst h1 h2
  have HX := Lib.hid hx
  have HR := Lib.hid hr
  have HL := Lib.hid hl
  simp only at HV HW HE hbg
  clear hx hr hl
  obtain ⟨w1, hw1⟩ : ∃ W, W = (w.alloc (.cells (rsC ⟨.slice av s.vs.length cv, .slice aw s.ws.length cw, .slice ae s.es.length ce, s⟩) 53)) := ⟨_, rfl⟩
  obtain ⟨w2, hw2⟩ : ∃ W, W = (w1.alloc (.cells (rdyC ⟨.slice a1 r.writes.length c1, .slice a2 r.reads.length c2, r⟩) 58)) := ⟨_, rfl⟩
  obtain ⟨w3, hw3⟩ : ∃ W, W = (w2.alloc (.cells #[.bool false, vi 0, .slice none 0 0, .slice none 0 0, .slice none 0 0] 53)) := ⟨_, rfl⟩
  have hs1 : w1.heap.size = w.heap.size + 1 := by rw [hw1]; simp
  have hs2 : w2.heap.size = w.heap.size + 2 := by rw [hw2]; simp [hs1]
  have hs3 : w3.heap.size = w.heap.size + 3 := by rw [hw3]; simp [hs2]
  have HB := Lib.hid (show Below w.heap.size w w3 from by
    rw [hw3, hw2, hw1]
    exact (((Below.refl _ _).alloc (Nat.le_refl _) _).alloc (by simp) _).alloc (by simp <;> omega) _)
  have HPB := Lib.hid (show PrB ⟨.slice av s.vs.length cv, .slice aw s.ws.length cw, .slice ae s.es.length ce, s⟩ ⟨.slice a1 r.writes.length c1, .slice a2 r.reads.length c2, r⟩ w.heap.size (w.heap.size + 1) (w.heap.size + 1 + 1) w3 from by
    refine ⟨?_, ?_, ?_⟩
    · rw [hw3, Below.heap_alloc _ _ _ (by omega), hw2, Below.heap_alloc _ _ _ (by omega), hw1]; exact alloc_at w _
    · rw [hw3, Below.heap_alloc _ _ _ (by omega), hw2, ← hs1]; exact alloc_at w1 _
    · rw [hw3, show w.heap.size + 1 + 1 = w.heap.size + 2 from rfl, ← hs2]; exact alloc_at w2 _)
  unfold rsV rdyV rsC rdyC
  simp only
  go_enter Try.func18, Try.ntmps18
  go_upto_region 1 with fail
  unfold rsC at hw1
  unfold rdyC at hw2
  simp only at hw1 hw2
  rw [← hw1, ← hw2, ← hw3]
  obtain ⟨X2, hX2⟩ : ∃ X, X = w.heap.size + 1 + 1 := ⟨_, rfl⟩
  obtain ⟨X1, hX1⟩ : ∃ X, X = w.heap.size + 1 := ⟨_, rfl⟩
  obtain ⟨X, hX⟩ : ∃ X, X = w.heap.size := ⟨_, rfl⟩
  rw [← hX2, ← hX1, ← hX]
  rw [← hX2, ← hX1, ← hX] at HPB
  have hb0 : w.heap.size ≤ X := by omega
  have hb1 : w.heap.size ≤ X1 := by omega
  have hb2 : w.heap.size ≤ X2 := by omega
  have HBB := Lib.hid (show w.heap.size ≤ X ∧ w.heap.size ≤ X1 ∧ w.heap.size ≤ X2 ∧ X ≠ X1 ∧ X ≠ X2 ∧ X1 ≠ X2 from ⟨by omega, by omega, by omega, by omega, by omega, by omega⟩)
  clear hX hX1 hX2 hw1 hw2 hw3 hs1 hs2 hs3
  have x4 : w3.cell? ⟨X, 4, none⟩ = some (.slice ae s.es.length ce) := by rw [cell_of HPB.out.st]; rfl
  go_wp2_with fail
  clear x4
  refine wp_loopF 226 (fun m f wr => f 2 = .pointer (some ⟨X, 0, none⟩) ∧ f 3 = .pointer (some ⟨X1, 0, none⟩) ∧ f 4 = .pointer (some ⟨X2, 0, none⟩) ∧ f 32 = .slice ae s.es.length ce ∧ f 33 = .int .i64 s.es.length ∧ ∃ k : Nat, k ≤ s.es.length ∧ m = s.es.length - k ∧ f 34 = .int .i64 k ∧ Hid (∀ o ∈ s.es.take k, (fun e : EndM => e.txn == r.txn) o = false) ∧ Below w3.heap.size w3 wr) _ rfl s.es.length ?start1 ?round1
  case start1 => exact ⟨rfl, rfl, rfl, rfl, rfl, 0, Nat.zero_le _, rfl, rfl, Lib.hid (by simp), Below.refl _ _⟩
  case round1 =>
    rintro gm f wa ⟨f2, f3, f4, f32, f33, k, hk, hgm, f34, HN1, hJ⟩ JJ KK HJ HKK
    have HJJ := Lib.hid HJ
    have HGM := Lib.hid hgm
    have HJ1 := Lib.hid hJ
    have HW1 := Lib.hid (HB.out.trans (hJ.mono HB.out.size))
    have HP1 := Lib.hid (HPB.out.later hJ)
    clear HJ hgm hJ
    rw [fr226, f2, f3, f4, f32, f33, f34]
    clear f2 f3 f4 f32 f33 f34
    by_cases hlt : k < s.es.length
    · have k1 : decide ((k : Int) < s.es.length) = true := decide_eq_true (by omega)
      have k2 : (k : Int) < s.es.length := by omega
      have hwk : IntKind.i64.wrap ((k : Int) + 1) = (k : Int) + 1 := IntWalk.i64_in _ (by omega)
      obtain ⟨o, ho⟩ := some_at hlt
      obtain ⟨g, off, ha, c0, c1', c2'⟩ := HE.out.el ho
      replace c0 := cell_later HW1.out c0
      replace c1' := cell_later HW1.out c1'
      replace c2' := cell_later HW1.out c2'
      subst ha
      have HO := Lib.hid ho
      have r0 : wa.cell? ⟨X1, 0, none⟩ = some (vi r.txn) := cell_at HP1.out.rd rfl
      have r0' := later_alloc r0 (.cells #[vi o.txn, .bool o.commit, vi o.at_] 61)
      have HBn := Lib.hid (HJ1.out.alloc HJ1.out.size (.cells #[vi o.txn, .bool o.commit, vi o.at_] 61))
      clear ho r0
      cases hq : (o.txn == r.txn) with
      | false =>
        go_wp2_with fail
        refine Handed.intro (s.es.length - (k + 1)) (by rw [HGM.out]; omega) (HJJ.out _ _ _ rfl ⟨rfl, rfl, rfl, rfl, rfl, k + 1, by omega, rfl, ?_, Lib.hid (any_take HN1.out HO.out hq), HBn.out⟩)
        show Value.int .i64 _ = _
        go_num
      | true =>
        have hr : rnPrepV s r = (s, 0, 62) := by unfold rnPrepV; rw [any_some HO.out hq]; rfl
        have HVAL := Lib.hid (show s = (rnPrepV s r).1 by rw [hr])
        show Code.wp Try.prog _ _ _ _
        rw [hr]
        go_upto_region 5 with fail
        generalize wa.alloc (.cells #[vi o.txn, .bool o.commit, vi o.at_] 61) = wb at *
        have hX := (HPB.out.later HBn.out).st
        have hX2 := (HPB.out.later HBn.out).rs
        have q0 : ∀ j, wb.frozen? ⟨X2, j, none⟩ = false := fun j => free_of hX2 j
        have p0 : wb.cell? ⟨X2, 0, none⟩ = some (.bool false) := by rw [cell_of hX2]; rfl
        have p1 : wb.cell? ⟨X2, 1, none⟩ = some (vi 0) := by rw [cell_of hX2]; rfl
        have p2 : wb.cell? ⟨X2, 2, none⟩ = some (.slice none 0 0) := by rw [cell_of hX2]; rfl
        have p3 : wb.cell? ⟨X2, 3, none⟩ = some (.slice none 0 0) := by rw [cell_of hX2]; rfl
        have p4 : wb.cell? ⟨X2, 4, none⟩ = some (.slice none 0 0) := by rw [cell_of hX2]; rfl
        have x0 : wb.cell? ⟨X, 0, none⟩ = some (.bool s.serial) := by rw [cell_of hX]; rfl
        have x1 : wb.cell? ⟨X, 1, none⟩ = some (vi s.bugs) := by rw [cell_of hX]; rfl
        have x2 : wb.cell? ⟨X, 2, none⟩ = some (.slice av s.vs.length cv) := by rw [cell_of hX]; rfl
        have x3 : wb.cell? ⟨X, 3, none⟩ = some (.slice aw s.ws.length cw) := by rw [cell_of hX]; rfl
        have x4 : wb.cell? ⟨X, 4, none⟩ = some (.slice (some ⟨g, off, none⟩) s.es.length ce) := by rw [cell_of hX]; rfl
        have HS := Lib.hid (rn_set5 (.bool s.serial) (vi s.bugs) (.slice av s.vs.length cv) (.slice aw s.ws.length cw) (.slice (some ⟨g, off, none⟩) s.es.length ce) hX2)
        have HBF := Lib.hid ((HB.out.trans (HBn.out.mono HB.out.size)).trans (rn_below5 (W := wb) (.bool s.serial) (vi s.bugs) (.slice av s.vs.length cv) (.slice aw s.ws.length cw) (.slice (some ⟨g, off, none⟩) s.es.length ce) hb2))
        clear HJJ HGM
        clear hX hX2
        go_wp2_with fail
        generalize (((((wb.setCell ⟨X2, 0, none⟩ (.bool s.serial)).setCell ⟨X2, 1, none⟩ (vi s.bugs)).setCell ⟨X2, 2, none⟩ (.slice av s.vs.length cv)).setCell ⟨X2, 3, none⟩ (.slice aw s.ws.length cw)).setCell ⟨X2, 4, none⟩ (.slice (some ⟨g, off, none⟩) s.es.length ce)) = wf at *
        have r0 : wf.cell? ⟨X2, 0, none⟩ = some (.bool s.serial) := by rw [cell_of HS.out]; rfl
        have r1 : wf.cell? ⟨X2, 1, none⟩ = some (vi s.bugs) := by rw [cell_of HS.out]; rfl
        have r2 : wf.cell? ⟨X2, 2, none⟩ = some (.slice av s.vs.length cv) := by rw [cell_of HS.out]; rfl
        have r3 : wf.cell? ⟨X2, 3, none⟩ = some (.slice aw s.ws.length cw) := by rw [cell_of HS.out]; rfl
        have r4 : wf.cell? ⟨X2, 4, none⟩ = some (.slice (some ⟨g, off, none⟩) s.es.length ce) := by rw [cell_of HS.out]; rfl
        refine bodyPost_ret (v := .tuple #[rsV ⟨.slice av s.vs.length cv, .slice aw s.ws.length cw, .slice (some ⟨g, off, none⟩) s.es.length ce, s⟩, vi 0, vi 62]) (by simp [results, Try.results18, go_sem, r0, r1, r2, r3, r4, rsV, rsC]) rfl ?_
        try rw [hr]
        exact ⟨_, rfl, rfl, PrR.same HXA.out HHA.out HBF.out⟩
    · have k1 : decide ((k : Int) < s.es.length) = false := decide_eq_false (by omega)
      have HNE := Lib.hid (any_none HN1.out hlt)
      have x3 : wa.cell? ⟨X, 3, none⟩ = some (.slice aw s.ws.length cw) := by rw [cell_of HP1.out.st]; rfl
      clear HJJ HGM
      go_wp2_with fail
      clear x3
      refine wp_loopF 226 (fun m g wr => g 2 = .pointer (some ⟨X, 0, none⟩) ∧ g 3 = .pointer (some ⟨X1, 0, none⟩) ∧ g 4 = .pointer (some ⟨X2, 0, none⟩) ∧ g 46 = .slice aw s.ws.length cw ∧ g 47 = .int .i64 s.ws.length ∧ ∃ k : Nat, k ≤ s.ws.length ∧ m = s.ws.length - k ∧ g 48 = .int .i64 k ∧ Hid (∀ o ∈ s.ws.take k, (fun x : Rdy => x.txn == r.txn) o = false) ∧ Below w3.heap.size w3 wr) _ rfl s.ws.length ?start2 ?round2
      case start2 => exact ⟨rfl, rfl, rfl, rfl, rfl, 0, Nat.zero_le _, rfl, rfl, Lib.hid (by simp), HJ1.out⟩
      case round2 =>
        rintro gm g wb ⟨g2, g3, g4, g46, g47, k, hk, hgm, g48, HN2, hJ⟩ JJ KK HJ HKK
        have HJJ := Lib.hid HJ
        have HGM := Lib.hid hgm
        have HJ2 := Lib.hid hJ
        have HW2 := Lib.hid (HB.out.trans (hJ.mono HB.out.size))
        have HP2 := Lib.hid (HPB.out.later hJ)
        clear HJ hgm hJ
        rw [fr226, g2, g3, g4, g46, g47, g48]
        clear g2 g3 g4 g46 g47 g48
        by_cases hlt2 : k < s.ws.length
        · have k1 : decide ((k : Int) < s.ws.length) = true := decide_eq_true (by omega)
          have k2 : (k : Int) < s.ws.length := by omega
          have hwk : IntKind.i64.wrap ((k : Int) + 1) = (k : Int) + 1 := IntWalk.i64_in _ (by omega)
          obtain ⟨x, ho⟩ := some_at hlt2
          obtain ⟨g', off, rw_, rr, ha, hrs, c0, c1', c2', c3', c4'⟩ := HW.out.el ho
          obtain ⟨b1, l1, e1, rfl, -, -, -⟩ := (show RdOps w rw_ x.writes from hrs.ws).at
          obtain ⟨b2, l2, e2, rfl, -, -, -⟩ := (show RdInts w rr x.reads from hrs.rs).at
          replace c0 := cell_later HW2.out c0
          replace c1' := cell_later HW2.out c1'
          replace c2' := cell_later HW2.out c2'
          replace c3' := cell_later HW2.out c3'
          replace c4' := cell_later HW2.out c4'
          subst ha
          have HO := Lib.hid ho
          have r0 : wb.cell? ⟨X1, 0, none⟩ = some (vi r.txn) := cell_at HP2.out.rd rfl
          have r0' := later_alloc r0 (.cells #[vi x.txn, vi x.home, vi x.start, .slice b1 l1 e1, .slice b2 l2 e2] 58)
          have HBn := Lib.hid (HJ2.out.alloc HJ2.out.size (.cells #[vi x.txn, vi x.home, vi x.start, .slice b1 l1 e1, .slice b2 l2 e2] 58))
          clear ho r0 hrs
          cases hq : (x.txn == r.txn) with
          | false =>
            go_wp2_with fail
            refine Handed.intro (s.ws.length - (k + 1)) (by rw [HGM.out]; omega) (HJJ.out _ _ _ rfl ⟨rfl, rfl, rfl, rfl, rfl, k + 1, by omega, rfl, ?_, Lib.hid (any_take HN2.out HO.out hq), HBn.out⟩)
            show Value.int .i64 _ = _
            go_num
          | true =>
            have hr : rnPrepV s r = (s, 0, 0) := by unfold rnPrepV; rw [HNE.out, any_some HO.out hq]; rfl
            show Code.wp Try.prog _ _ _ _
            rw [hr]
            go_upto_region 11 with fail
            generalize wb.alloc (.cells #[vi x.txn, vi x.home, vi x.start, .slice b1 l1 e1, .slice b2 l2 e2] 58) = wc at *
            have hX := (HPB.out.later HBn.out).st
            have hX2 := (HPB.out.later HBn.out).rs
            have q0 : ∀ j, wc.frozen? ⟨X2, j, none⟩ = false := fun j => free_of hX2 j
            have p0 : wc.cell? ⟨X2, 0, none⟩ = some (.bool false) := by rw [cell_of hX2]; rfl
            have p1 : wc.cell? ⟨X2, 1, none⟩ = some (vi 0) := by rw [cell_of hX2]; rfl
            have p2 : wc.cell? ⟨X2, 2, none⟩ = some (.slice none 0 0) := by rw [cell_of hX2]; rfl
            have p3 : wc.cell? ⟨X2, 3, none⟩ = some (.slice none 0 0) := by rw [cell_of hX2]; rfl
            have p4 : wc.cell? ⟨X2, 4, none⟩ = some (.slice none 0 0) := by rw [cell_of hX2]; rfl
            have x0 : wc.cell? ⟨X, 0, none⟩ = some (.bool s.serial) := by rw [cell_of hX]; rfl
            have x1 : wc.cell? ⟨X, 1, none⟩ = some (vi s.bugs) := by rw [cell_of hX]; rfl
            have x2 : wc.cell? ⟨X, 2, none⟩ = some (.slice av s.vs.length cv) := by rw [cell_of hX]; rfl
            have x3 : wc.cell? ⟨X, 3, none⟩ = some (.slice (some ⟨g', off, none⟩) s.ws.length cw) := by rw [cell_of hX]; rfl
            have x4 : wc.cell? ⟨X, 4, none⟩ = some (.slice ae s.es.length ce) := by rw [cell_of hX]; rfl
            have HS := Lib.hid (rn_set5 (.bool s.serial) (vi s.bugs) (.slice av s.vs.length cv) (.slice (some ⟨g', off, none⟩) s.ws.length cw) (.slice ae s.es.length ce) hX2)
            have HBF := Lib.hid ((HB.out.trans (HBn.out.mono HB.out.size)).trans (rn_below5 (W := wc) (.bool s.serial) (vi s.bugs) (.slice av s.vs.length cv) (.slice (some ⟨g', off, none⟩) s.ws.length cw) (.slice ae s.es.length ce) hb2))
            clear HJJ HGM
            clear hX hX2
            go_wp2_with fail
            generalize (((((wc.setCell ⟨X2, 0, none⟩ (.bool s.serial)).setCell ⟨X2, 1, none⟩ (vi s.bugs)).setCell ⟨X2, 2, none⟩ (.slice av s.vs.length cv)).setCell ⟨X2, 3, none⟩ (.slice (some ⟨g', off, none⟩) s.ws.length cw)).setCell ⟨X2, 4, none⟩ (.slice ae s.es.length ce)) = wf at *
            have r0 : wf.cell? ⟨X2, 0, none⟩ = some (.bool s.serial) := by rw [cell_of HS.out]; rfl
            have r1 : wf.cell? ⟨X2, 1, none⟩ = some (vi s.bugs) := by rw [cell_of HS.out]; rfl
            have r2 : wf.cell? ⟨X2, 2, none⟩ = some (.slice av s.vs.length cv) := by rw [cell_of HS.out]; rfl
            have r3 : wf.cell? ⟨X2, 3, none⟩ = some (.slice (some ⟨g', off, none⟩) s.ws.length cw) := by rw [cell_of HS.out]; rfl
            have r4 : wf.cell? ⟨X2, 4, none⟩ = some (.slice ae s.es.length ce) := by rw [cell_of HS.out]; rfl
            refine bodyPost_ret (v := .tuple #[rsV ⟨.slice av s.vs.length cv, .slice (some ⟨g', off, none⟩) s.ws.length cw, .slice ae s.es.length ce, s⟩, vi 0, vi 0]) (by simp [results, Try.results18, go_sem, r0, r1, r2, r3, r4, rsV, rsC]) rfl ?_
            try rw [hr]
            exact ⟨_, rfl, rfl, PrR.same HXA.out HHA.out HBF.out⟩
        · have k1 : decide ((k : Int) < s.ws.length) = false := decide_eq_false (by omega)
          have HNW := Lib.hid (any_none HN2.out hlt2)
          have x1 : wb.cell? ⟨X, 1, none⟩ = some (vi s.bugs) := by rw [cell_of HP2.out.st]; rfl
          have x0 : wb.cell? ⟨X, 0, none⟩ = some (.bool s.serial) := by rw [cell_of HP2.out.st]; rfl
          have hwf : IntKind.i64.wrap (s.bugs % 2) = s.bugs % 2 := IntWalk.i64_in _ (by omega)
          obtain ⟨q1, hq1⟩ : ∃ q, q = s.bugs.tdiv 4 := ⟨_, rfl⟩
          have hq1b : 0 ≤ q1 ∧ q1 ≤ 63 := by rw [hq1, Int.tdiv_eq_ediv_of_nonneg hbg.1]; omega
          have hwq1 : IntKind.i64.wrap (s.bugs.tdiv 4) = q1 := by rw [← hq1]; exact IntWalk.i64_in _ (by omega)
          have HOFF := Lib.hid (show offR s.bugs 4 = (q1 % 2 == 0) from by unfold offR; rw [← hq1, Int.tmod_eq_emod_of_nonneg hq1b.1])
          have hwq2 : IntKind.i64.wrap (q1 % 2) = q1 % 2 := IntWalk.i64_in _ (by omega)
          clear HJJ HGM hq1
          go_upto_region 14 with fail
          refine wp_cutF 226 (fun h wx => h 2 = .pointer (some ⟨X, 0, none⟩) ∧ h 3 = .pointer (some ⟨X1, 0, none⟩) ∧ h 4 = .pointer (some ⟨X2, 0, none⟩) ∧ h 11 = .bool (firstR s) ∧ h 12 = .bool (lookR s) ∧ wx = wb) ?rest14 ?first14
          case first14 =>
            intro J1 K1 h1 h2
            have H12 := Lib.hid (show ∀ (l : List Value), l.length = 226 → slotsOf l 2 = .pointer (some ⟨X, 0, none⟩) ∧ slotsOf l 3 = .pointer (some ⟨X1, 0, none⟩) ∧ slotsOf l 4 = .pointer (some ⟨X2, 0, none⟩) ∧ slotsOf l 11 = .bool (firstR s) ∧ slotsOf l 12 = .bool (lookR s) → K1 ⟨l.toArray, []⟩ wb from fun l hll hc => h2 _ _ (Met.intro (h1 l wb hll ⟨hc.1, hc.2.1, hc.2.2.1, hc.2.2.2.1, hc.2.2.2.2, rfl⟩)))
            clear h1 h2
            cases hsb : s.serial with
            | false =>
              rw [hsb] at x0
              have HLK := Lib.hid (show Value.bool false = .bool (lookR s) from by unfold lookR; rw [hsb]; rfl)
              clear hsb
              go_wp2_with fail
              exact H12.out _ rfl ⟨rfl, rfl, rfl, rfl, HLK.out⟩
            | true =>
              rw [hsb] at x0
              have HLK := Lib.hid (show Value.bool (q1 % 2 == 0) = .bool (lookR s) from by unfold lookR; rw [hsb, HOFF.out]; rfl)
              clear hsb
              go_wp2_with fail
              exact H12.out _ rfl ⟨rfl, rfl, rfl, rfl, HLK.out⟩
          case rest14 =>
            rintro h wx ⟨h2, h3, h4, h11, h12, rfl⟩
            go_step
            obtain ⟨fb, hfb⟩ : ∃ b, b = firstR s := ⟨_, rfl⟩
            obtain ⟨lb, hlb⟩ : ∃ b, b = lookR s := ⟨_, rfl⟩
            rw [← hfb] at h11
            rw [← hlb] at h12
            rw [fr226, h2, h3, h4, h11, h12]
            have HFB := Lib.hid hfb
            have HLB := Lib.hid hlb
            have r3 : wx.cell? ⟨X1, 3, none⟩ = some (.slice a1 r.writes.length c1) := by rw [cell_of HP2.out.rd]; rfl
            clear h2 h3 h4 h11 h12 hfb hlb x0 x1 hwf hwq1 hwq2 hq1b
            go_wp2_with fail
            clear r3
            refine wp_loopF 226 (fun m j wr => j 2 = .pointer (some ⟨X, 0, none⟩) ∧ j 3 = .pointer (some ⟨X1, 0, none⟩) ∧ j 4 = .pointer (some ⟨X2, 0, none⟩) ∧ j 11 = .bool fb ∧ j 12 = .bool lb ∧ j 73 = .slice a1 r.writes.length c1 ∧ j 74 = .int .i64 r.writes.length ∧ ∃ k : Nat, k ≤ r.writes.length ∧ m = r.writes.length - k ∧ j 75 = .int .i64 k ∧ Hid (∀ o ∈ r.writes.take k, (fun o : GOp => firstR s && s.vs.any (later3 o.key r.start)) o = false) ∧ Below w3.heap.size w3 wr) _ rfl r.writes.length ?start3 ?round3
            case start3 => exact ⟨rfl, rfl, rfl, rfl, rfl, rfl, rfl, 0, Nat.zero_le _, rfl, rfl, Lib.hid (by simp), HJ2.out⟩
            case round3 =>
              rintro gm j wc ⟨j2, j3, j4, j11, j12, j73, j74, k, hk, hgm, j75, HN3, hJ⟩ JJ KK HJ HKK
              have HJJ := Lib.hid HJ
              have HGM := Lib.hid hgm
              have HJ3 := Lib.hid hJ
              have HW3 := Lib.hid (HB.out.trans (hJ.mono HB.out.size))
              have HP3 := Lib.hid (HPB.out.later hJ)
              clear HJ hgm hJ
              rw [fr226, j2, j3, j4, j11, j12, j73, j74, j75]
              clear j2 j3 j4 j11 j12 j73 j74 j75
              by_cases hlt3 : k < r.writes.length
              · have k1 : decide ((k : Int) < r.writes.length) = true := decide_eq_true (by omega)
                have k2 : (k : Int) < r.writes.length := by omega
                have hwk : IntKind.i64.wrap ((k : Int) + 1) = (k : Int) + 1 := IntWalk.i64_in _ (by omega)
                obtain ⟨o, ho⟩ := some_at hlt3
                obtain ⟨og, oo, ha, c0, c1', c2'⟩ := (show RdOps w (.slice a1 r.writes.length c1) r.writes from HR.out.ws).el ho
                replace c0 := cell_later HW3.out c0
                replace c1' := cell_later HW3.out c1'
                replace c2' := cell_later HW3.out c2'
                subst ha
                have HO := Lib.hid ho
                have HBn := Lib.hid (HJ3.out.alloc HJ3.out.size (.cells #[vi o.kind, vi o.key, vi o.val] 55))
                have HOo := Lib.hid (alloc_at wc (.cells #[vi o.kind, vi o.key, vi o.val] 55))
                clear ho
                go_upto_region 18 with fail
                generalize wc.alloc (.cells #[vi o.kind, vi o.key, vi o.val] 55) = wd at *
                generalize wc.heap.size = Ob at *
                clear c0 c1' c2'
                have HPd := Lib.hid (HPB.out.later HBn.out)
                cases fb with
                | false =>
                  have HQ := Lib.hid (show (firstR s && s.vs.any (later3 o.key r.start)) = false from by rw [← HFB.out]; rfl)
                  go_wp2_with fail
                  refine Handed.intro (r.writes.length - (k + 1)) (by rw [HGM.out]; omega) (HJJ.out _ _ _ rfl ⟨rfl, rfl, rfl, rfl, rfl, rfl, rfl, k + 1, by omega, rfl, ?_, Lib.hid (any_take HN3.out HO.out HQ.out), HBn.out⟩)
                  show Value.int .i64 _ = _
                  go_num
                | true =>
                  have hst := HPd.out.st
                  have o1 : wd.cell? ⟨Ob, 1, none⟩ = some (vi o.key) := cell_at HOo.out rfl
                  have r2 : wd.cell? ⟨X1, 2, none⟩ = some (vi r.start) := cell_at HPd.out.rd rfl
                  have z0 : wd.cell? ⟨X, 0, none⟩ = some (.bool s.serial) := by rw [cell_of hst]; rfl
                  have z1 : wd.cell? ⟨X, 1, none⟩ = some (vi s.bugs) := by rw [cell_of hst]; rfl
                  have z2 : wd.cell? ⟨X, 2, none⟩ = some (.slice av s.vs.length cv) := by rw [cell_of hst]; rfl
                  have z3 : wd.cell? ⟨X, 3, none⟩ = some (.slice aw s.ws.length cw) := by rw [cell_of hst]; rfl
                  have z4 : wd.cell? ⟨X, 4, none⟩ = some (.slice ae s.es.length ce) := by rw [cell_of hst]; rfl
                  have hcl := rnLater_call ⟨.slice av s.vs.length cv, .slice aw s.ws.length cw, .slice ae s.es.length ce, s⟩ o.key r.start wd (HX.out.later (HB.out.trans (HBn.out.mono HB.out.size)))
                  unfold rsV rsC at hcl
                  simp only at hcl
                  obtain ⟨b, hb⟩ : ∃ b, s.vs.any (later3 o.key r.start) = b := ⟨_, rfl⟩
                  rw [hb] at hcl
                  have HCL := Lib.hid hcl
                  have HBV := Lib.hid hb
                  clear hcl hb hst
                  cases b with
                  | false =>
                    have HQ := Lib.hid (show (firstR s && s.vs.any (later3 o.key r.start)) = false from by rw [HBV.out, ← HFB.out]; rfl)
                    go_wp2_with (go_at_call 53; refine HCL.out.mono ?_; rintro e w5 ⟨rfl, hb5⟩; have HB5 := Lib.hid (HBn.out.trans (hb5.mono HBn.out.size)); clear hb5)
                    refine Handed.intro (r.writes.length - (k + 1)) (by rw [HGM.out]; omega) (HJJ.out _ _ _ rfl ⟨rfl, rfl, rfl, rfl, rfl, rfl, rfl, k + 1, by omega, rfl, ?_, Lib.hid (any_take HN3.out HO.out HQ.out), HB5.out⟩)
                    show Value.int .i64 _ = _
                    go_num
                  | true =>
                    have hr : rnPrepV s r = (s, 0, 61) := by
                      unfold rnPrepV; rw [HNE.out, HNW.out, any_some (q := (fun o : GOp => firstR s && s.vs.any (later3 o.key r.start))) HO.out (show (firstR s && s.vs.any (later3 o.key r.start)) = true from by rw [HBV.out, ← HFB.out]; rfl)]; rfl
                    show Code.wp Try.prog _ _ _ _
                    rw [hr]
                    go_upto_region 19 with (go_at_call 53; refine HCL.out.mono ?_; rintro e w5 ⟨rfl, hb5⟩; have HB5 := Lib.hid (HBn.out.trans (hb5.mono HBn.out.size)); clear hb5)
                    clear z0 z1 z2 z3 z4 o1 r2
                    have hX := (HPB.out.later HB5.out).st
                    have hX2 := (HPB.out.later HB5.out).rs
                    have q0 : ∀ j, w5.frozen? ⟨X2, j, none⟩ = false := fun j => free_of hX2 j
                    have p0 : w5.cell? ⟨X2, 0, none⟩ = some (.bool false) := by rw [cell_of hX2]; rfl
                    have p1 : w5.cell? ⟨X2, 1, none⟩ = some (vi 0) := by rw [cell_of hX2]; rfl
                    have p2 : w5.cell? ⟨X2, 2, none⟩ = some (.slice none 0 0) := by rw [cell_of hX2]; rfl
                    have p3 : w5.cell? ⟨X2, 3, none⟩ = some (.slice none 0 0) := by rw [cell_of hX2]; rfl
                    have p4 : w5.cell? ⟨X2, 4, none⟩ = some (.slice none 0 0) := by rw [cell_of hX2]; rfl
                    have x0 : w5.cell? ⟨X, 0, none⟩ = some (.bool s.serial) := by rw [cell_of hX]; rfl
                    have x1 : w5.cell? ⟨X, 1, none⟩ = some (vi s.bugs) := by rw [cell_of hX]; rfl
                    have x2 : w5.cell? ⟨X, 2, none⟩ = some (.slice av s.vs.length cv) := by rw [cell_of hX]; rfl
                    have x3 : w5.cell? ⟨X, 3, none⟩ = some (.slice aw s.ws.length cw) := by rw [cell_of hX]; rfl
                    have x4 : w5.cell? ⟨X, 4, none⟩ = some (.slice ae s.es.length ce) := by rw [cell_of hX]; rfl
                    have HS := Lib.hid (rn_set5 (.bool s.serial) (vi s.bugs) (.slice av s.vs.length cv) (.slice aw s.ws.length cw) (.slice ae s.es.length ce) hX2)
                    have HBF := Lib.hid ((HB.out.trans (HB5.out.mono HB.out.size)).trans (rn_below5 (W := w5) (.bool s.serial) (vi s.bugs) (.slice av s.vs.length cv) (.slice aw s.ws.length cw) (.slice ae s.es.length ce) hb2))
                    clear HJJ HGM
                    clear hX hX2
                    go_wp2_with fail
                    generalize (((((w5.setCell ⟨X2, 0, none⟩ (.bool s.serial)).setCell ⟨X2, 1, none⟩ (vi s.bugs)).setCell ⟨X2, 2, none⟩ (.slice av s.vs.length cv)).setCell ⟨X2, 3, none⟩ (.slice aw s.ws.length cw)).setCell ⟨X2, 4, none⟩ (.slice ae s.es.length ce)) = wf at *
                    have r0 : wf.cell? ⟨X2, 0, none⟩ = some (.bool s.serial) := by rw [cell_of HS.out]; rfl
                    have r1 : wf.cell? ⟨X2, 1, none⟩ = some (vi s.bugs) := by rw [cell_of HS.out]; rfl
                    have r2 : wf.cell? ⟨X2, 2, none⟩ = some (.slice av s.vs.length cv) := by rw [cell_of HS.out]; rfl
                    have r3 : wf.cell? ⟨X2, 3, none⟩ = some (.slice aw s.ws.length cw) := by rw [cell_of HS.out]; rfl
                    have r4 : wf.cell? ⟨X2, 4, none⟩ = some (.slice ae s.es.length ce) := by rw [cell_of HS.out]; rfl
                    refine bodyPost_ret (v := .tuple #[rsV ⟨.slice av s.vs.length cv, .slice aw s.ws.length cw, .slice ae s.es.length ce, s⟩, vi 0, vi 61]) (by simp [results, Try.results18, go_sem, r0, r1, r2, r3, r4, rsV, rsC]) rfl ?_
                    try rw [hr]
                    exact ⟨_, rfl, rfl, PrR.same HXA.out HHA.out HBF.out⟩
              · have k1 : decide ((k : Int) < r.writes.length) = false := decide_eq_false (by omega)
                have HNO := Lib.hid (any_none HN3.out hlt3)
                have r4 : wc.cell? ⟨X1, 4, none⟩ = some (.slice a2 r.reads.length c2) := by rw [cell_of HP3.out.rd]; rfl
                clear HJJ HGM
                go_wp2_with fail
                clear r4
                rename_i KB hKB
                have HKB := Lib.hid hKB
                clear hKB
                refine wp_loopF 226 (fun m q wr => q 2 = .pointer (some ⟨X, 0, none⟩) ∧ q 3 = .pointer (some ⟨X1, 0, none⟩) ∧ q 4 = .pointer (some ⟨X2, 0, none⟩) ∧ q 11 = .bool fb ∧ q 12 = .bool lb ∧ q 91 = .slice a2 r.reads.length c2 ∧ q 92 = .int .i64 r.reads.length ∧ ∃ k : Nat, k ≤ r.reads.length ∧ m = r.reads.length - k ∧ q 93 = .int .i64 k ∧ Hid (∀ o ∈ r.reads.take k, (fun k : Int => lookR s && s.vs.any (later3 k r.start)) o = false) ∧ Below w3.heap.size w3 wr) _ rfl r.reads.length ?start4 ?round4
                case start4 => exact ⟨rfl, rfl, rfl, rfl, rfl, rfl, rfl, 0, Nat.zero_le _, rfl, rfl, Lib.hid (by simp), HJ3.out⟩
                case round4 =>
                  rintro gm q wd ⟨q2, q3, q4, q11, q12, q91, q92, k, hk, hgm, q93, HN4, hJ⟩ JJ KK HJ HKK
                  have HJJ := Lib.hid HJ
                  have HGM := Lib.hid hgm
                  have HJ4 := Lib.hid hJ
                  have HW4 := Lib.hid (HB.out.trans (hJ.mono HB.out.size))
                  have HP4 := Lib.hid (HPB.out.later hJ)
                  by_cases hlt4 : k < r.reads.length
                  · clear HJ hgm hJ
                    rw [fr226, q2, q3, q4, q11, q12, q91, q92, q93]
                    clear q2 q3 q4 q11 q12 q91 q92 q93
                    have k1 : decide ((k : Int) < r.reads.length) = true := decide_eq_true (by omega)
                    have k2 : (k : Int) < r.reads.length := by omega
                    have hwk : IntKind.i64.wrap ((k : Int) + 1) = (k : Int) + 1 := IntWalk.i64_in _ (by omega)
                    obtain ⟨o, ho⟩ := some_at hlt4
                    obtain ⟨og, oo, ha, c0, -⟩ := (show RdInts w (.slice a2 r.reads.length c2) r.reads from HR.out.rs).el ho
                    replace c0 := cell_later HW4.out c0
                    subst ha
                    have HO := Lib.hid ho
                    clear ho
                    cases lb with
                    | false =>
                      have HQ := Lib.hid (show (lookR s && s.vs.any (later3 o r.start)) = false from by rw [← HLB.out]; rfl)
                      go_wp2_with fail
                      refine Handed.intro (r.reads.length - (k + 1)) (by rw [HGM.out]; omega) (HJJ.out _ _ _ rfl ⟨rfl, rfl, rfl, rfl, rfl, rfl, rfl, k + 1, by omega, rfl, ?_, Lib.hid (any_take HN4.out HO.out HQ.out), HJ4.out⟩)
                      show Value.int .i64 _ = _
                      go_num
                    | true =>
                      have hst := HP4.out.st
                      have r2 : wd.cell? ⟨X1, 2, none⟩ = some (vi r.start) := cell_at HP4.out.rd rfl
                      have z0 : wd.cell? ⟨X, 0, none⟩ = some (.bool s.serial) := by rw [cell_of hst]; rfl
                      have z1 : wd.cell? ⟨X, 1, none⟩ = some (vi s.bugs) := by rw [cell_of hst]; rfl
                      have z2 : wd.cell? ⟨X, 2, none⟩ = some (.slice av s.vs.length cv) := by rw [cell_of hst]; rfl
                      have z3 : wd.cell? ⟨X, 3, none⟩ = some (.slice aw s.ws.length cw) := by rw [cell_of hst]; rfl
                      have z4 : wd.cell? ⟨X, 4, none⟩ = some (.slice ae s.es.length ce) := by rw [cell_of hst]; rfl
                      have hcl := rnLater_call ⟨.slice av s.vs.length cv, .slice aw s.ws.length cw, .slice ae s.es.length ce, s⟩ o r.start wd (HX.out.later HW4.out)
                      unfold rsV rsC at hcl
                      simp only at hcl
                      obtain ⟨b, hb⟩ : ∃ b, s.vs.any (later3 o r.start) = b := ⟨_, rfl⟩
                      rw [hb] at hcl
                      have HCL := Lib.hid hcl
                      have HBV := Lib.hid hb
                      clear hcl hb hst
                      cases b with
                      | false =>
                        have HQ := Lib.hid (show (lookR s && s.vs.any (later3 o r.start)) = false from by rw [HBV.out, ← HLB.out]; rfl)
                        go_wp2_with (go_at_call 53; refine HCL.out.mono ?_; rintro e w5 ⟨rfl, hb5⟩; have HB5 := Lib.hid (HJ4.out.trans (hb5.mono HJ4.out.size)); clear hb5)
                        refine Handed.intro (r.reads.length - (k + 1)) (by rw [HGM.out]; omega) (HJJ.out _ _ _ rfl ⟨rfl, rfl, rfl, rfl, rfl, rfl, rfl, k + 1, by omega, rfl, ?_, Lib.hid (any_take HN4.out HO.out HQ.out), HB5.out⟩)
                        show Value.int .i64 _ = _
                        go_num
                      | true =>
                        have hr : rnPrepV s r = (s, 0, 61) := by
                          unfold rnPrepV; rw [HNE.out, HNW.out, HNO.out, any_some (q := (fun k : Int => lookR s && s.vs.any (later3 k r.start))) HO.out (show (lookR s && s.vs.any (later3 o r.start)) = true from by rw [HBV.out, ← HLB.out]; rfl)]; rfl
                        show Code.wp Try.prog _ _ _ _
                        rw [hr]
                        go_upto_region 25 with (go_at_call 53; refine HCL.out.mono ?_; rintro e w5 ⟨rfl, hb5⟩; have HB5 := Lib.hid (HJ4.out.trans (hb5.mono HJ4.out.size)); clear hb5)
                        clear z0 z1 z2 z3 z4 r2
                        have hX := (HPB.out.later HB5.out).st
                        have hX2 := (HPB.out.later HB5.out).rs
                        have q0 : ∀ j, w5.frozen? ⟨X2, j, none⟩ = false := fun j => free_of hX2 j
                        have p0 : w5.cell? ⟨X2, 0, none⟩ = some (.bool false) := by rw [cell_of hX2]; rfl
                        have p1 : w5.cell? ⟨X2, 1, none⟩ = some (vi 0) := by rw [cell_of hX2]; rfl
                        have p2 : w5.cell? ⟨X2, 2, none⟩ = some (.slice none 0 0) := by rw [cell_of hX2]; rfl
                        have p3 : w5.cell? ⟨X2, 3, none⟩ = some (.slice none 0 0) := by rw [cell_of hX2]; rfl
                        have p4 : w5.cell? ⟨X2, 4, none⟩ = some (.slice none 0 0) := by rw [cell_of hX2]; rfl
                        have x0 : w5.cell? ⟨X, 0, none⟩ = some (.bool s.serial) := by rw [cell_of hX]; rfl
                        have x1 : w5.cell? ⟨X, 1, none⟩ = some (vi s.bugs) := by rw [cell_of hX]; rfl
                        have x2 : w5.cell? ⟨X, 2, none⟩ = some (.slice av s.vs.length cv) := by rw [cell_of hX]; rfl
                        have x3 : w5.cell? ⟨X, 3, none⟩ = some (.slice aw s.ws.length cw) := by rw [cell_of hX]; rfl
                        have x4 : w5.cell? ⟨X, 4, none⟩ = some (.slice ae s.es.length ce) := by rw [cell_of hX]; rfl
                        have HS := Lib.hid (rn_set5 (.bool s.serial) (vi s.bugs) (.slice av s.vs.length cv) (.slice aw s.ws.length cw) (.slice ae s.es.length ce) hX2)
                        have HBF := Lib.hid ((HB.out.trans (HB5.out.mono HB.out.size)).trans (rn_below5 (W := w5) (.bool s.serial) (vi s.bugs) (.slice av s.vs.length cv) (.slice aw s.ws.length cw) (.slice ae s.es.length ce) hb2))
                        clear HJJ HGM
                        clear hX hX2
                        go_wp2_with fail
                        generalize (((((w5.setCell ⟨X2, 0, none⟩ (.bool s.serial)).setCell ⟨X2, 1, none⟩ (vi s.bugs)).setCell ⟨X2, 2, none⟩ (.slice av s.vs.length cv)).setCell ⟨X2, 3, none⟩ (.slice aw s.ws.length cw)).setCell ⟨X2, 4, none⟩ (.slice ae s.es.length ce)) = wf at *
                        have r0 : wf.cell? ⟨X2, 0, none⟩ = some (.bool s.serial) := by rw [cell_of HS.out]; rfl
                        have r1 : wf.cell? ⟨X2, 1, none⟩ = some (vi s.bugs) := by rw [cell_of HS.out]; rfl
                        have r2 : wf.cell? ⟨X2, 2, none⟩ = some (.slice av s.vs.length cv) := by rw [cell_of HS.out]; rfl
                        have r3 : wf.cell? ⟨X2, 3, none⟩ = some (.slice aw s.ws.length cw) := by rw [cell_of HS.out]; rfl
                        have r4 : wf.cell? ⟨X2, 4, none⟩ = some (.slice ae s.es.length ce) := by rw [cell_of HS.out]; rfl
                        refine bodyPost_ret (v := .tuple #[rsV ⟨.slice av s.vs.length cv, .slice aw s.ws.length cw, .slice ae s.es.length ce, s⟩, vi 0, vi 61]) (by simp [results, Try.results18, go_sem, r0, r1, r2, r3, r4, rsV, rsC]) rfl ?_
                        try rw [hr]
                        exact ⟨_, rfl, rfl, PrR.same HXA.out HHA.out HBF.out⟩
                  · have k1 : decide ((k : Int) < r.reads.length) = false := decide_eq_false (by omega)
                    have HNR := Lib.hid (any_none HN4.out hlt4)
                    have hnex : ∀ y ∈ s.ws, y.txn ≠ r.txn := fun y hy e => by
                      have h1 := HNW.out
                      rw [List.any_eq_false] at h1
                      exact h1 y hy (by simp [e])
                    have hcc : ∀ u, Code.wp Try.prog cPrB (bodyPost Try.prog Try.f18 (PrR A w (rnPrepV s r).1 (rnPrepV s r).2.1 (rnPrepV s r).2.2)) (⟨#[q 0, q 1, q 2, q 3, q 4, q 5, q 6, q 7, q 8, q 9, q 10, q 11, q 12, q 13, q 14, q 15, q 16, q 17, q 18, q 19, q 20, q 21, q 22, q 23, q 24, q 25, q 26, q 27, q 28, q 29, q 30, q 31, q 32, q 33, q 34, q 35, q 36, q 37, q 38, q 39, q 40, q 41, q 42, q 43, q 44, q 45, q 46, q 47, q 48, q 49, q 50, q 51, q 52, q 53, q 54, q 55, q 56, q 57, q 58, q 59, q 60, q 61, q 62, q 63, q 64, q 65, q 66, q 67, q 68, q 69, q 70, q 71, q 72, q 73, q 74, q 75, q 76, q 77, q 78, q 79, q 80, q 81, q 82, q 83, q 84, q 85, q 86, q 87, q 88, q 89, q 90, q 91, q 92, q 93, u, q 95, q 96, q 97, q 98, q 99, q 100, q 101, q 102, q 103, q 104, q 105, q 106, q 107, q 108, q 109, q 110, q 111, q 112, q 113, q 114, q 115, q 116, q 117, q 118, q 119, q 120, q 121, q 122, q 123, q 124, q 125, q 126, q 127, q 128, q 129, q 130, q 131, q 132, q 133, q 134, q 135, q 136, q 137, q 138, q 139, q 140, q 141, q 142, q 143, q 144, q 145, q 146, q 147, q 148, q 149, q 150, q 151, q 152, q 153, q 154, q 155, q 156, q 157, q 158, q 159, q 160, q 161, q 162, q 163, q 164, q 165, q 166, q 167, q 168, q 169, q 170, q 171, q 172, q 173, q 174, q 175, q 176, q 177, q 178, q 179, q 180, q 181, q 182, q 183, q 184, q 185, q 186, q 187, q 188, q 189, q 190, q 191, q 192, q 193, q 194, q 195, q 196, q 197, q 198, q 199, q 200, q 201, q 202, q 203, q 204, q 205, q 206, q 207, q 208, q 209, q 210, q 211, q 212, q 213, q 214, q 215, q 216, q 217, q 218, q 219, q 220, q 221, q 222, q 223, q 224, q 225], []⟩ : Act) wd := fun u => by
                      refine wp_fr 226 _ rfl ?_
                      have hval : rnPrepV s r = if (blkOfP s.ws r (lookR s)).2 && firstR s then (s, (blkOfP s.ws r (lookR s)).1, 60) else (⟨s.serial, s.bugs, s.vs, insR s.ws r, s.es⟩, 0, 0) := by
                        unfold rnPrepV; rw [HNE.out, HNW.out, HNO.out, HNR.out]; rfl
                      have hfun : (fun e w' => if (blkOfP s.ws r (lookR s)).2 && firstR s then PrR A w s (blkOfP s.ws r (lookR s)).1 60 e w' else PrR A w ⟨s.serial, s.bugs, s.vs, insR s.ws r, s.es⟩ 0 0 e w') = PrR A w (rnPrepV s r).1 (rnPrepV s r).2.1 (rnPrepV s r).2.2 := by
                        rw [hval]; funext e w'
                        cases (blkOfP s.ws r (lookR s)).2 && firstR s <;> rfl
                      rw [← hfun, ← HLB.out, ← HFB.out]
                      exact prB A w ⟨.slice av s.vs.length cv, .slice aw s.ws.length cw, .slice ae s.es.length ce, s⟩ ⟨.slice a1 r.writes.length c1, .slice a2 r.reads.length c2, r⟩ X X1 X2 _ lb fb wd HP4.out HXA.out HHA.out HR.out HW4.out HL.out hnex HBB.out q2 q3 q4 q11 q12
                    have HCC := Lib.hid hcc
                    clear hcc
                    rw [fr226, q2, q3, q4, q11, q12, q91, q92, q93]
                    rw [q2, q3, q4, q11, q12, q91, q92, q93] at HCC
                    clear HJ hgm hJ HJJ HGM q2 q3 q4 q11 q12 q91 q92 q93
                    go_wp2_with fail
                    exact HKB.out _ _ (HCC.out _)
theorem rnPrep_call (x : RSV) (rv : RV) (w : World) (hx : RdSt w x) (hr : RdyS w rv) (hbg : 0 ≤ x.s.bugs ∧ x.s.bugs ≤ 63) (hl : x.s.ws.length ≤ 1000 ∧ rv.r.writes.length ≤ 1000 ∧ rv.r.reads.length ≤ 1000) :
    Calls Try.prog 18 #[rsV x, rdyV rv] w (PrR w w (rnPrepV x.s rv.r).1 (rnPrepV x.s rv.r).2.1 (rnPrepV x.s rv.r).2.2) := rnPrep_call2 w x rv w hx (Below.refl _ _) hr hbg hl
end Go.Proofs.Ytbadpfcjoobniaa

namespace Go.Proofs.Ytbadpfcjoobniaa
open Go.RowKit Go.Maps

theorem sorted_ext {α : Type} (f : α → Int) : ∀ {a b : List α}, a.Pairwise (fun x y => f x < f y) → b.Pairwise (fun x y => f x < f y) → (∀ p, p ∈ a ↔ p ∈ b) → a = b
  | [], [], _, _, _ => rfl
  | [], y :: b, _, _, h => by have := (h y).2 List.mem_cons_self; simp at this
  | x :: a, [], _, _, h => by have := (h x).1 List.mem_cons_self; simp at this
  | x :: a, y :: b, ha, hb, h => by
    have ha' := List.pairwise_cons.1 ha
    have hb' := List.pairwise_cons.1 hb
    have hxy : x = y := by
      rcases List.mem_cons.1 ((h x).1 List.mem_cons_self) with e | hx
      · exact e
      · rcases List.mem_cons.1 ((h y).2 List.mem_cons_self) with e | hy
        · exact e.symm
        · have h1 := ha'.1 y hy
          have h2 := hb'.1 x hx
          omega
    subst hxy
    congr 1
    refine sorted_ext f ha'.2 hb'.2 (fun p => ?_)
    constructor
    · intro hp
      rcases List.mem_cons.1 ((h p).1 (List.mem_cons_of_mem _ hp)) with rfl | h1
      · have := ha'.1 p hp; omega
      · exact h1
    · intro hp
      rcases List.mem_cons.1 ((h p).2 (List.mem_cons_of_mem _ hp)) with rfl | h1
      · have := hb'.1 p hp; omega
      · exact h1
theorem sorted_inj {α : Type} (f : α → Int) : ∀ {a : List α}, a.Pairwise (fun x y => f x < f y) → ∀ {p q : α}, p ∈ a → q ∈ a → f p = f q → p = q
  | [], _, p, q, h, _, _ => by cases h
  | x :: a, hs, p, q, hp, hq, he => by
    have h' := List.pairwise_cons.1 hs
    rcases List.mem_cons.1 hp with rfl | hp'
    · rcases List.mem_cons.1 hq with rfl | hq'
      · rfl
      · have := h'.1 q hq'; omega
    · rcases List.mem_cons.1 hq with rfl | hq'
      · have := h'.1 p hp'; omega
      · exact sorted_inj f h'.2 hp' hq' he
theorem srt_last {l : List Ver} (hs : Srt l) {x : Ver} (h : l.getLast? = some x) : x ∈ l ∧ ∀ y ∈ l, y.1 ≤ x.1 := by
  obtain ⟨ys, rfl⟩ := List.getLast?_eq_some_iff.1 h
  refine ⟨by simp, fun y hy => ?_⟩
  rcases List.mem_append.1 hy with hy | hy
  · exact Int.le_of_lt ((List.pairwise_append.1 hs).2.2 y hy x (by simp))
  · rw [List.mem_singleton.1 hy]; exact Int.le_refl _
theorem find_rev2 {α : Type} (p : α → Bool) (l : List α) : l.reverse.find? p = (l.filter p).getLast? := by
  induction l with
  | nil => rfl
  | cons x l ih =>
    rw [List.reverse_cons, List.find?_append, ih, List.filter_cons]
    by_cases hx : p x = true
    · rw [if_pos hx]
      cases h : (l.filter p).getLast? with
      | none =>
        have : l.filter p = [] := by simpa using h
        rw [this]; simp [hx]
      | some y => simp [List.getLast?_cons, h]
    · rw [if_neg hx]; simp [hx]
theorem valAt_eq2 (vs : List Ver) (t : Int) : valAt vs t = (((vs.filter (fun x => decide (x.1 ≤ t))).getLast?).map (·.2)).getD 0 := by
  unfold valAt revL
  rw [find_rev2]
  have h : (vs.zipIdx.map (fun p => (p.2, p.1))).filter (fun p : Nat × Ver => decide (p.2.1 ≤ t)) = (vs.zipIdx.filter (fun p => decide (p.1.1 ≤ t))).map (fun p => (p.2, p.1)) := by
    rw [List.filter_map]; rfl
  rw [h, List.getLast?_map]
  have h2 : vs.filter (fun x => decide (x.1 ≤ t)) = (vs.zipIdx.filter (fun p => decide (p.1.1 ≤ t))).map (·.1) := by
    conv => lhs; rw [← List.zipIdx_map_fst 0 vs]
    rw [List.filter_map]; rfl
  rw [h2, List.getLast?_map]
  cases (vs.zipIdx.filter (fun p => decide (p.1.1 ≤ t))).getLast? <;> rfl
theorem ofV_srt' {vs : List Ver3} (hu : Uniq3 vs) (key : Int) : Srt (ofV vs key) := ofV_srt key vs [] List.Pairwise.nil hu (fun _ _ _ y hy => by cases hy)
theorem ofV_mem' (vs : List Ver3) (key : Int) (p : Ver) : p ∈ ofV vs key ↔ ⟨key, p.1, p.2⟩ ∈ vs := by unfold ofV; rw [ofV_mem]; simp
theorem later_eq {vs : List Ver3} (hu : Uniq3 vs) (key t : Int) : laterB (ofV vs key) t = vs.any (later3 key t) := by
  have hs := ofV_srt' hu key
  unfold laterB
  cases hl : (ofV vs key).getLast? with
  | none =>
    have h0 : ofV vs key = [] := by simpa using hl
    symm
    rw [List.any_eq_false]
    intro v hv hlt
    simp only [later3, Bool.and_eq_true, beq_iff_eq, decide_eq_true_eq] at hlt
    obtain ⟨rfl, -⟩ := hlt
    have : (v.at_, v.val) ∈ ofV vs v.key := (ofV_mem' vs v.key _).2 hv
    rw [h0] at this; cases this
  | some x =>
    obtain ⟨hx, hm⟩ := srt_last hs hl
    have hx3 := (ofV_mem' vs key x).1 hx
    show decide (t < x.1) = _
    by_cases ht : t < x.1
    · rw [decide_eq_true ht]
      exact (List.any_eq_true.2 ⟨_, hx3, by simp [later3, ht]⟩).symm
    · rw [decide_eq_false ht]
      symm
      rw [List.any_eq_false]
      intro v hv hlt
      simp only [later3, Bool.and_eq_true, beq_iff_eq, decide_eq_true_eq] at hlt
      obtain ⟨rfl, h2⟩ := hlt
      have := hm (v.at_, v.val) ((ofV_mem' vs v.key _).2 hv)
      simp only at this; omega
theorem best_spec (key t : Int) : ∀ (vs : List Ver3) (b : Option Ver3),
    (vs.foldl (bestStep key t) b = none ∧ b = none ∧ ∀ z ∈ vs, z.key = key → ¬ z.at_ ≤ t) ∨
    (∃ y, vs.foldl (bestStep key t) b = some y ∧ (b = some y ∨ (y ∈ vs ∧ y.key = key ∧ y.at_ ≤ t)) ∧ (∀ z ∈ vs, z.key = key → z.at_ ≤ t → z.at_ ≤ y.at_) ∧ (∀ b', b = some b' → b'.at_ ≤ y.at_))
  | [], none => .inl ⟨rfl, rfl, fun z hz => by cases hz⟩
  | [], some b => .inr ⟨b, rfl, .inl rfl, (fun z hz => by cases hz), fun b' h => by cases h; exact Int.le_refl _⟩
  | v :: vs, b => by
    rw [List.foldl_cons]
    rcases best_spec key t vs (bestStep key t b v) with ⟨h1, h2, h3⟩ | ⟨y, h1, h2, h3, h4⟩
    · have hb : b = none ∧ (v.key = key → ¬ v.at_ ≤ t) := by
        unfold bestStep at h2
        split at h2
        · cases h2
        · rename_i hn
          subst h2
          refine ⟨rfl, fun hk ht => hn ?_⟩
          simp [hk, ht, newer]
      refine .inl ⟨h1, hb.1, fun z hz => ?_⟩
      rcases List.mem_cons.1 hz with rfl | hz
      · exact hb.2
      · exact h3 z hz
    · refine .inr ⟨y, h1, ?_, fun z hz hk ht => ?_, fun b' hb => ?_⟩
      · rcases h2 with h2 | ⟨h2, hk, ht⟩
        · unfold bestStep at h2
          split at h2
          · rename_i hc
            simp only [Bool.and_eq_true, beq_iff_eq, decide_eq_true_eq] at hc
            cases h2
            exact .inr ⟨List.mem_cons_self, hc.1.1, hc.1.2⟩
          · exact .inl h2
        · exact .inr ⟨List.mem_cons_of_mem _ h2, hk, ht⟩
      · rcases List.mem_cons.1 hz with rfl | hz
        · cases hn : newer b z with
          | true => exact h4 z (by unfold bestStep; simp [hk, ht, hn])
          | false =>
            have hbs : bestStep key t b z = b := by unfold bestStep; simp [hn]
            cases b with
            | none => simp [newer] at hn
            | some b' =>
              have := h4 b' hbs
              simp [newer] at hn; omega
        · exact h3 z hz hk ht
      · subst hb
        cases hc : (v.key == key && decide (v.at_ ≤ t) && newer (some b') v) with
        | true =>
          have h5 := h4 v (by unfold bestStep; rw [hc]; rfl)
          simp only [Bool.and_eq_true, newer, decide_eq_true_eq] at hc
          omega
        | false => exact h4 b' (by unfold bestStep; rw [hc]; rfl)
theorem valAt_best {vs : List Ver3} (hu : Uniq3 vs) (key t : Int) : valAt (ofV vs key) t = ((bestOf vs key t).map (·.val)).getD 0 := by
  have hs := ofV_srt' hu key
  rw [valAt_eq2]
  unfold bestOf
  have hsf : Srt ((ofV vs key).filter (fun x => decide (x.1 ≤ t))) := hs.filter _
  rcases best_spec key t vs none with ⟨h1, -, h3⟩ | ⟨y, h1, h2, h3, -⟩
  · rw [h1]
    have : (ofV vs key).filter (fun x => decide (x.1 ≤ t)) = [] := by
      rw [List.filter_eq_nil_iff]
      intro p hp hpt
      exact h3 _ ((ofV_mem' vs key p).1 hp) rfl (by simpa using hpt)
    rw [this]; rfl
  · rw [h1]
    obtain ⟨hy, hk, ht⟩ : y ∈ vs ∧ y.key = key ∧ y.at_ ≤ t := by
      rcases h2 with h2 | h2
      · cases h2
      · exact h2
    subst hk
    have hym : (y.at_, y.val) ∈ (ofV vs y.key).filter (fun x => decide (x.1 ≤ t)) := List.mem_filter.2 ⟨(ofV_mem' vs y.key _).2 hy, by simpa using ht⟩
    cases hl : ((ofV vs y.key).filter (fun x => decide (x.1 ≤ t))).getLast? with
    | none =>
      have : (ofV vs y.key).filter (fun x => decide (x.1 ≤ t)) = [] := by simpa using hl
      rw [this] at hym; cases hym
    | some x =>
      obtain ⟨hx, hm⟩ := srt_last hsf hl
      have h5 := hm _ hym
      have hx' := List.mem_filter.1 hx
      have h6 := h3 _ ((ofV_mem' vs y.key x).1 hx'.1) rfl (by simpa using hx'.2)
      simp only at h5 h6
      have : x = (y.at_, y.val) := sorted_inj (fun p : Ver => p.1) hsf hx hym (by simp only; omega)
      rw [this]; rfl

/-- The store's state and the reference's, side by side. -/
structure Sim (K : KeysL) (R : RdyL) (E : EndL) (s : RSt) : Prop where
  w : SameW R s.ws
  ws : s.ws.Pairwise (fun x y => x.txn < y.txn)
  e : ∀ t, getM E t = s.es.find? (fun x => x.txn == t)
  u : Uniq3 s.vs
  k : ∀ key, verOf K key = ofV s.vs key
theorem Sim.start (serial : Bool) (bugs : Int) : Sim [] [] [] ⟨serial, bugs, [], [], []⟩ :=
  ⟨⟨fun x hx => (by cases hx), fun x hx => (by cases hx)⟩, List.Pairwise.nil, fun _ => rfl, List.Pairwise.nil, fun _ => rfl⟩
theorem Sim.isE {K : KeysL} {R : RdyL} {E : EndL} {s : RSt} (h : Sim K R E s) (t : Int) : (getM E t).isSome = s.es.any (fun x => x.txn == t) := by
  rw [h.e]
  cases hf : s.es.find? (fun x => x.txn == t) with
  | none =>
    symm
    show _ = false
    rw [List.any_eq_false]
    exact List.find?_eq_none.1 hf
  | some y => exact (List.any_eq_true.2 ⟨y, List.mem_of_find?_eq_some hf, List.find?_some hf⟩).symm
theorem Sim.isW {K : KeysL} {R : RdyL} {E : EndL} {s : RSt} (h : Sim K R E s) (t : Int) : (getM R t).isSome = s.ws.any (fun x => x.txn == t) := by
  cases hg : getM R t with
  | none =>
    symm
    show _ = false
    rw [List.any_eq_false]
    intro r hr e
    obtain ⟨x, hx, h1, h2⟩ := h.w.2 r hr
    exact getM_none.1 hg x hx (by rw [h1]; simpa using e)
  | some y =>
    have h1 := h.w.1 _ (getM_some hg)
    exact (List.any_eq_true.2 ⟨y.r, h1.2, by simpa using h1.1.symm⟩).symm
theorem Sim.wait {K : KeysL} {R : RdyL} {E : EndL} {s : RSt} (h : Sim K R E s) {t : Int} {y : RV} (hg : getM R t = some y) : y.r ∈ s.ws ∧ y.r.txn = t := by
  have h1 := h.w.1 _ (getM_some hg)
  exact ⟨h1.2, h1.1.symm⟩

def insW : List Rdy → Rdy → List Rdy
  | [], r => [r]
  | x :: ws, r => if r.txn < x.txn then r :: x :: ws else x :: insW ws r
theorem ins_done (r : Rdy) : ∀ (ws : List Rdy) (b : List Rdy), ws.foldl (insStep r) (b, true) = (b ++ ws, true)
  | [], b => by simp
  | x :: ws, b => by
    rw [List.foldl_cons]
    have : insStep r (b, true) x = (b ++ [x], true) := rfl
    rw [this, ins_done r ws]; simp
theorem ins_fold (r : Rdy) : ∀ (ws : List Rdy) (b : List Rdy), (if (ws.foldl (insStep r) (b, false)).2 then (ws.foldl (insStep r) (b, false)).1 else (ws.foldl (insStep r) (b, false)).1 ++ [r]) = b ++ insW ws r
  | [], b => by simp [insW]
  | x :: ws, b => by
    rw [List.foldl_cons]
    unfold insW
    by_cases hx : r.txn < x.txn
    · have : insStep r (b, false) x = (b ++ [r] ++ [x], true) := by unfold insStep; simp [hx]
      rw [this, ins_done, if_pos hx]; simp
    · have : insStep r (b, false) x = (b ++ [x], false) := by unfold insStep; simp [hx]
      rw [this, ins_fold r ws, if_neg hx]; simp
theorem insR_eq (ws : List Rdy) (r : Rdy) : insR ws r = insW ws r := by
  have := ins_fold r ws []
  rw [List.nil_append] at this
  exact this
theorem insW_mem (r y : Rdy) : ∀ ws : List Rdy, y ∈ insW ws r ↔ y = r ∨ y ∈ ws
  | [] => by simp [insW]
  | x :: ws => by
    unfold insW
    split
    · simp
    · rw [List.mem_cons, insW_mem r y ws, List.mem_cons]
      constructor
      · rintro (h | h | h)
        · exact .inr (.inl h)
        · exact .inl h
        · exact .inr (.inr h)
      · rintro (h | h | h)
        · exact .inr (.inl h)
        · exact .inl h
        · exact .inr (.inr h)
theorem insW_srt (r : Rdy) : ∀ {ws : List Rdy}, ws.Pairwise (fun x y => x.txn < y.txn) → (∀ y ∈ ws, y.txn ≠ r.txn) → (insW ws r).Pairwise (fun x y => x.txn < y.txn)
  | [], _, _ => List.pairwise_singleton _ _
  | x :: ws, h, hn => by
    have h' := List.pairwise_cons.1 h
    unfold insW
    split
    · rename_i hx
      refine List.pairwise_cons.2 ⟨fun y hy => ?_, h⟩
      rcases List.mem_cons.1 hy with rfl | hy
      · exact hx
      · have := h'.1 y hy; omega
    · rename_i hx
      refine List.pairwise_cons.2 ⟨fun y hy => ?_, insW_srt r h'.2 (fun y hy => hn y (List.mem_cons_of_mem _ hy))⟩
      rcases (insW_mem r y ws).1 hy with rfl | hy
      · have := hn x List.mem_cons_self; omega
      · exact h'.1 y hy
theorem insW_len (r : Rdy) : ∀ ws : List Rdy, (insW ws r).length = ws.length + 1
  | [] => rfl
  | x :: ws => by unfold insW; split <;> simp [insW_len r ws]

theorem off_bit {bugs : Int} (hb : 0 ≤ bugs ∧ bugs ≤ 63) : offB bugs 1 = (bugs % 2 == 0) ∧ offB bugs 2 = offR bugs 2 ∧ offB bugs 4 = offR bugs 4 ∧ offB bugs 32 = offR bugs 32 := by
  obtain ⟨n, rfl⟩ : ∃ n : Nat, bugs = n := ⟨bugs.toNat, by omega⟩
  exact off_eq n (by omega)
theorem any_and {α : Type} (l : List α) (b : Bool) (q : α → Bool) : l.any (fun x => b && q x) = (b && l.any q) := by
  cases b <;> simp
/-- One more is prepared. -/
theorem Sim.prep {K : KeysL} {R : RdyL} {E : EndL} {s : RSt} (h : Sim K R E s) (hb : 0 ≤ s.bugs ∧ s.bugs ≤ 63) {r : Rdy} {by_ err : Int} {R' : RdyL} (hp : PrepM s.serial s.bugs K R E r by_ err R') :
    (rnPrepV s r).2 = (by_, err) ∧ Sim K R' E (rnPrepV s r).1 := by
  obtain ⟨o1, o2, o4, -⟩ := off_bit hb
  have hlW : lostW K s.bugs r = r.writes.any (fun o => firstR s && s.vs.any (later3 o.key r.start)) := by
    unfold lostW firstR
    rw [o1, any_and]
    congr 2
    funext o
    rw [h.k, later_eq h.u]
  have hlook : lookP s.serial s.bugs = lookR s := by unfold lookP lookR; rw [o4]
  have hlR : lostR K s.serial s.bugs r = r.reads.any (fun k => lookR s && s.vs.any (later3 k r.start)) := by
    unfold lostR
    rw [hlook, any_and]
    congr 2
    funext k
    rw [h.k, later_eq h.u]
  unfold PrepM at hp
  rw [hlW, hlR, hlook, h.isE, h.isW] at hp
  unfold rnPrepV
  rcases hp with ⟨h1, rfl, rfl, rfl⟩ | ⟨h1, h2, rfl, rfl, rfl⟩ | ⟨h1, h2, h3, rfl, rfl, rfl⟩ | ⟨h1, h2, h3, h4, id, ok, hblk, h5⟩
  · rw [if_pos h1]; exact ⟨rfl, h⟩
  · rw [if_neg (by rw [h1]; decide), if_pos h2]; exact ⟨rfl, h⟩
  · rw [if_neg (by rw [h1]; decide), if_neg (by rw [h2]; decide)]
    by_cases h6 : r.writes.any (fun o => firstR s && s.vs.any (later3 o.key r.start)) = true
    · rw [if_pos h6]; exact ⟨rfl, h⟩
    · rw [if_neg h6]
      have h7 := h3.resolve_left h6
      rw [if_pos h7]; exact ⟨rfl, h⟩
  · rw [if_neg (by rw [h1]; decide), if_neg (by rw [h2]; decide), if_neg (by rw [h3]; decide), if_neg (by rw [h4]; decide)]
    have hnew : ∀ y ∈ s.ws, y.txn ≠ r.txn := fun y hy e => by
      rw [List.any_eq_false] at h2
      exact h2 y hy (by simpa using e)
    have hl := blk_least h.w hblk
    rw [← blkOfP_least s.ws r (lookR s) hnew] at hl
    rw [hl]
    have o1' : offB s.bugs 1 = firstR s := o1
    rw [o1'] at h5
    rcases h5 with ⟨rfl, h6, rfl, rfl, rfl⟩ | ⟨h6, rfl, rfl, wv, rv, rfl⟩
    · rw [if_pos (by simp [h6])]; exact ⟨rfl, h⟩
    · rw [if_neg (by rcases h6 with h6 | h6 <;> simp [h6])]
      refine ⟨rfl, ⟨?_, ?_, h.e, h.u, h.k⟩⟩
      · rw [insR_eq]
        have hn : getM R r.txn = none := by
          have := h.isW r.txn
          rw [h2] at this
          simpa using this
        have hput : putM R r.txn ⟨wv, rv, r⟩ = R ++ [(r.txn, ⟨wv, rv, r⟩)] := by unfold putM; rw [hn]; rfl
        rw [hput]
        refine ⟨fun x hx => ?_, fun y hy => ?_⟩
        · rcases List.mem_append.1 hx with hx | hx
          · exact ⟨(h.w.1 x hx).1, (insW_mem _ _ _).2 (.inr (h.w.1 x hx).2)⟩
          · rw [List.mem_singleton.1 hx]
            exact ⟨rfl, (insW_mem _ _ _).2 (.inl rfl)⟩
        · rcases (insW_mem _ _ _).1 hy with rfl | hy
          · exact ⟨(y.txn, ⟨wv, rv, y⟩), by simp, rfl, rfl⟩
          · obtain ⟨x, hx, h7⟩ := h.w.2 y hy
            exact ⟨x, List.mem_append_left _ hx, h7⟩
      · rw [insR_eq]; exact insW_srt r h.ws hnew

theorem finAll_none (e : EndM) : ∀ (ws : List Rdy) (vs : List Ver3), (∀ r ∈ ws, r.txn ≠ e.txn) → finAll e vs ws = vs
  | [], _, _ => rfl
  | r :: ws, vs, h => by
    have h1 : (r.txn == e.txn) = false := by simpa using h r List.mem_cons_self
    have e1 : finAll e vs (r :: ws) = finAll e (if r.txn == e.txn then finW3 e vs r.writes else vs) ws := rfl
    rw [e1, h1]
    exact finAll_none e ws vs (fun y hy => h y (List.mem_cons_of_mem _ hy))
theorem finAll_one (e : EndM) : ∀ {ws : List Rdy} (vs : List Ver3), ws.Pairwise (fun x y => x.txn < y.txn) → ∀ {r : Rdy}, r ∈ ws → r.txn = e.txn → finAll e vs ws = finW3 e vs r.writes
  | [], _, _, r, hr, _ => by cases hr
  | x :: ws, vs, h, r, hr, he => by
    have h' := List.pairwise_cons.1 h
    have e1 : finAll e vs (x :: ws) = finAll e (if x.txn == e.txn then finW3 e vs x.writes else vs) ws := rfl
    rw [e1]
    rcases List.mem_cons.1 hr with rfl | hr
    · have h1 : (r.txn == e.txn) = true := by simpa using he
      rw [h1]
      exact finAll_none e ws _ (fun y hy => by have := h'.1 y hy; omega)
    · have h1 : (x.txn == e.txn) = false := by have := h'.1 r hr; rw [beq_eq_false_iff_ne]; omega
      rw [h1]
      exact finAll_one e vs h'.2 hr he
/-- One more is ended. -/
theorem Sim.fin {K : KeysL} {R : RdyL} {E : EndL} {s : RSt} (h : Sim K R E s) {e : EndM} {K' : KeysL} {R' : RdyL} {E' : EndL} (hf : FinM K R E e K' R' E') : Sim K' R' E' (rnFinish s e) := by
  unfold rnFinish
  unfold FinM at hf
  rw [h.isE] at hf
  rcases hf with ⟨h1, rfl, rfl, rfl⟩ | ⟨h1, rfl, rfl, h4⟩
  · rw [if_pos h1]; exact h
  · rw [if_neg (by rw [h1]; decide)]
    have hv : Uniq3 (finAll e s.vs s.ws) ∧ ∀ key, ofV (finAll e s.vs s.ws) key = finV e.at_ key (writesOf R e) (ofV s.vs key) := by
      cases hg : getM R e.txn with
      | none =>
        have hno : ∀ r ∈ s.ws, r.txn ≠ e.txn := fun r hr he => by
          have := h.isW e.txn
          rw [hg] at this
          exact List.any_eq_false.1 this.symm r hr (by simpa using he)
        rw [finAll_none e s.ws s.vs hno]
        refine ⟨h.u, fun key => ?_⟩
        have : writesOf R e = [] := by unfold writesOf; rw [hg]; cases e.commit <;> rfl
        rw [this]; rfl
      | some y =>
        obtain ⟨hy, ht⟩ := h.wait hg
        rw [finAll_one e s.vs h.ws hy ht]
        obtain ⟨a1, a2⟩ := ofV_finW3 e y.r.writes s.vs h.u
        refine ⟨a1, fun key => ?_⟩
        rw [a2]
        unfold writesOf
        rw [hg]
        cases e.commit <;> rfl
    refine ⟨⟨fun x hx => ?_, fun r hr => ?_⟩, h.ws.filter _, fun t => ?_, hv.1, fun key => ?_⟩
    · obtain ⟨h5, h6⟩ := List.mem_filter.1 hx
      obtain ⟨h7, h8⟩ := h.w.1 x h5
      refine ⟨h7, List.mem_filter.2 ⟨h8, ?_⟩⟩
      rw [← h7]; simpa using h6
    · obtain ⟨h5, h6⟩ := List.mem_filter.1 hr
      obtain ⟨x, hx, h7, h8⟩ := h.w.2 r h5
      refine ⟨x, List.mem_filter.2 ⟨hx, ?_⟩, h7, h8⟩
      rw [h7]; simpa using h6
    · rw [getM_put, h.e, List.find?_append]
      by_cases he : e.txn = t
      · rw [if_pos he]
        subst he
        have : s.es.find? (fun x => x.txn == e.txn) = none := List.find?_eq_none.2 (List.any_eq_false.1 h1)
        rw [this]; simp
      · rw [if_neg he]
        have : (e.txn == t) = false := by simpa using he
        simp [this]
    · rw [h4 key, h.k, hv.2]
/-- What is read. -/
theorem Sim.read {K : KeysL} {R : RdyL} {E : EndL} {s : RSt} (h : Sim K R E s) (hb : 0 ≤ s.bugs ∧ s.bugs ≤ 63) {txn key t v by_ err : Int} (hr : ReadM K R s.bugs txn key t v by_ err) : rnReadV s txn key t = (v, by_, err) := by
  obtain ⟨o1, o2, o4, -⟩ := off_bit hb
  obtain ⟨id, ok, hblk, h2⟩ := hr
  have hl := blk_least h.w hblk
  rw [← blkOf_least] at hl
  unfold rnReadV
  rw [hl, ← o2]
  simp only
  rcases h2 with ⟨rfl, h3, rfl, rfl, rfl⟩ | ⟨h3, rfl, rfl, rfl⟩
  · rw [if_pos (by simp [h3])]
  · rw [if_neg (by rcases h3 with h3 | h3 <;> simp [h3]), h.k, valAt_best h.u]
/-- Who waits. -/
theorem Sim.waits {K : KeysL} {R : RdyL} {E : EndL} {s : RSt} (h : Sim K R E s) (hd : R.Pairwise (fun p q => p.1 ≠ q.1)) {l : List Rdy} (hw : WaitsM R l) : l = s.ws := by
  obtain ⟨ks, hp, hs, rfl⟩ := hw
  have hk : ∀ k ∈ ks, ∃ y, getM R k = some y := fun k hk => by
    cases hg : getM R k with
    | some y => exact ⟨y, rfl⟩
    | none =>
      obtain ⟨x, hx, rfl⟩ := List.mem_map.1 (hp.mem_iff.1 hk)
      exact absurd rfl (getM_none.1 hg x hx)
  have hnd : ks.Nodup := hp.nodup_iff.2 (List.pairwise_map.2 hd)
  have hlt : ks.Pairwise (fun x y => x < y) := (hs.and hnd).imp (fun ⟨a, b⟩ => by omega)
  refine sorted_ext (fun r : Rdy => r.txn) ?_ h.ws (fun r => ?_)
  · rw [List.pairwise_map]
    refine List.Pairwise.imp_of_mem (fun {a b} ha hb hab => ?_) hlt
    obtain ⟨y, hy⟩ := hk a ha
    obtain ⟨z, hz⟩ := hk b hb
    rw [hy, hz]
    show y.r.txn < z.r.txn
    rw [(h.wait hy).2, (h.wait hz).2]; exact hab
  · constructor
    · intro hr
      obtain ⟨k, hk1, rfl⟩ := List.mem_map.1 hr
      obtain ⟨y, hy⟩ := hk k hk1
      rw [hy]; exact (h.wait hy).1
    · intro hr
      obtain ⟨x, hx, h1, rfl⟩ := h.w.2 r hr
      refine List.mem_map.2 ⟨x.1, hp.mem_iff.2 (List.mem_map.2 ⟨x, hx, rfl⟩), ?_⟩
      obtain ⟨y, hy⟩ := hk x.1 (hp.mem_iff.2 (List.mem_map.2 ⟨x, hx, rfl⟩))
      obtain ⟨a1, a2⟩ := h.wait hy
      rw [hy]
      exact sorted_inj (fun r : Rdy => r.txn) h.ws a1 (h.w.1 x hx).2 (by show y.r.txn = x.2.r.txn; rw [a2, h1])
end Go.Proofs.Ytbadpfcjoobniaa

namespace Go.Proofs.Ytbadpfcjoobniaa
open Go.RowKit Go.Maps
attribute [local go_sem] Oper.semAt_some

theorem Try.infoP2 : (Try.prog.info? 71).map (fun i => (i.zero, i.size, i.bytes)) = some (some (.agg #[vi 0, vi 0]), 2, 16) := by kernel_rfl
theorem eltP2 : Elt Try.prog 67 71 2 16 (.agg #[vi 0, vi 0]) := by
  obtain ⟨i0, hi, hz0, hz1, hz2⟩ := info_parts Try.infoP2
  exact ⟨Try.underlying67, by decide, rfl, i0, hi, hz0, hz1, hz2⟩
theorem run_dropP {b off n c k : Nat} (hk : k ≤ n) (w : World) : (Instr.slice 67 (.slice (some ⟨b, off, none⟩) n c) (some (.int .i64 k)) none none).run Try.prog w = .ok (sliced (some ⟨b, off, none⟩) k n c 2) w := by
  have hs : ∀ w, (sizeOf 71).run Try.prog w = .ok 2 w := fun w => by
    obtain ⟨i0, hi, _, hz1, _⟩ := info_parts Try.infoP2
    simp [sizeOf, typeInfo, hi, hz1]
  have he : Try.prog.elem 67 = 71 := by kernel_rfl
  rw [run_slice_l w _ _ _ _ (by rw [he]; exact Try.underlying67) .i64 _ (by omega) (by omega), he, hs]
  simp [Result.andThen]
theorem run_takeP {b off n c k : Nat} (hk : k ≤ c) (w : World) : (Instr.slice 67 (.slice (some ⟨b, off, none⟩) n c) none (some (.int .i64 k)) none).run Try.prog w = .ok (.slice (some ⟨b, off, none⟩) k c) w := by
  have hs : ∀ w, (sizeOf 71).run Try.prog w = .ok 2 w := fun w => by
    obtain ⟨i0, hi, _, hz1, _⟩ := info_parts Try.infoP2
    simp [sizeOf, typeInfo, hi, hz1]
  have he : Try.prog.elem 67 = 71 := by kernel_rfl
  rw [run_slice_h w _ _ _ _ (by rw [he]; exact Try.underlying67) .i64 _ (by omega) (by omega), he, hs]
  simp [Result.andThen, sliced, Addr.add]
theorem flat_lenK {α : Type} {enc : α → List Value} {k : Nat} (hk : ∀ x, (enc x).length = k) : ∀ l : List α, (l.flatMap enc).length = l.length * k
  | [] => by simp
  | x :: l => by rw [List.flatMap_cons, List.length_append, flat_lenK hk l, hk, List.length_cons, Nat.add_mul]; omega
/-- The parts of an owned row ahead of a place and from it on, as sources of an append. -/
theorem row_parts {α : Type} {enc : α → List Value} {k : Nat} (hk : ∀ x, (enc x).length = k) {base e g c : Nat} {W : World} {J : List α} (h : W.ownsRow base e k (.slice (some ⟨g, 0, none⟩) J.length c) J.length (J.flatMap enc)) {p : Nat} (hp : p ≤ J.length) :
    ∃ a2 n2 c2, J.length ≤ c ∧ sliced (some ⟨g, 0, none⟩) p J.length c k = .slice a2 n2 c2 ∧ n2 = (J.drop p).length ∧ Src W (.slice (some ⟨g, 0, none⟩) p c) k p ((J.take p).flatMap enc) ∧ Src W (.slice a2 n2 c2) k (J.drop p).length ((J.drop p).flatMap enc) := by
  rcases h.2 with ⟨hv, h0⟩ | ⟨g', cap, cur, hv, hg, hh, hn, hcm, hs, ht⟩
  · cases hv
  · simp only [Value.slice.injEq, Option.some.injEq, Addr.mk.injEq] at hv
    obtain ⟨⟨rfl, -⟩, -, rfl⟩ := hv
    have hc := World.ownsRow.cells h (g := g) rfl
    refine ⟨_, _, _, hn, rfl, by simp, ?_, ?_⟩
    · refine ⟨_, _, rfl, by rw [flat_lenK hk, List.length_take, Nat.min_eq_left hp], (fun h => by cases h), fun ad had j u hu => ?_⟩
      cases had
      refine hc j u ?_
      have e : J.flatMap enc = (J.take p).flatMap enc ++ (J.drop p).flatMap enc := by rw [← List.flatMap_append, List.take_append_drop]
      rw [e, List.getElem?_append_left (List.getElem?_eq_some_iff.1 hu).1]; exact hu
    · refine ⟨if c = p then some ⟨g, 0, none⟩ else (some (⟨g, 0, none⟩ : Addr)).map (·.add (p * k)), c - p, by rw [List.length_drop], by rw [flat_lenK hk], ?_, fun ad had j u hu => ?_⟩
      · intro hnone
        split at hnone
        · exact absurd hnone (by simp)
        · exact absurd hnone (by simp)
      · have hju := (List.getElem?_eq_some_iff.1 hu).1
        rw [flat_lenK hk, List.length_drop] at hju
        have h0 : J.length - p ≠ 0 := fun h0 => by rw [h0, Nat.zero_mul] at hju; omega
        have hne : ¬ c = p := by omega
        rw [if_neg hne] at had
        simp only [Option.map_some, Option.some.injEq] at had
        subst had
        have e : J.flatMap enc = (J.take p).flatMap enc ++ (J.drop p).flatMap enc := by rw [← List.flatMap_append, List.take_append_drop]
        have hl : ((J.take p).flatMap enc).length = p * k := by rw [flat_lenK hk, List.length_take, Nat.min_eq_left hp]
        have := hc (p * k + j) u (by rw [e, List.getElem?_append_right (by omega), hl, show p * k + j - p * k = j by omega]; exact hu)
        rw [addr_add] at this
        rw [addr_add, addr_add]
        simpa using this

abbrev RdP (w : World) (v : Value) (l : List Ver) : Prop := RdS 2 (fun _ cs x => cs = verV x) w v l
theorem RdP.el {w : World} {a : Option Addr} {n c : Nat} {l : List Ver} (h : RdP w (.slice a n c) l) {k : Nat} {x : Ver} (ho : l[k]? = some x) : ∃ b off, a = some ⟨b, off, none⟩ ∧ w.cell? ⟨b, off + k * 2, none⟩ = some (vi x.1) ∧ w.cell? ⟨b, off + k * 2 + 1, none⟩ = some (vi x.2) := by
  obtain ⟨a', len, cap, h1, h2, h3, h4, h5, h6⟩ := h
  simp only [Value.slice.injEq] at h1
  obtain ⟨rfl, -, -⟩ := h1
  obtain ⟨b, off, cs, ha, hl, hc, rfl⟩ := h6 k x ho
  exact ⟨b, off, ha, by simpa using hc 0 _ rfl, by simpa [Nat.add_assoc] using hc 1 _ rfl⟩
/-- A row of times and values of the call's own; it is no nil. -/
def OwP (base : Nat) (w : World) (v : Value) (l : List Ver) : Prop := w.ownsRow base 71 2 v l.length (l.flatMap verV) ∧ v ≠ .slice none 0 0
theorem OwP.later {base : Nat} {A B : World} {v : Value} {l : List Ver} (h : OwP base A v l) (hb : Below A.heap.size A B) : OwP base B v l := ⟨own_below h.1 hb, h.2⟩
theorem OwP.rd {base : Nat} {w : World} {v : Value} {l : List Ver} (h : OwP base w v l) : RdP w v l := own_at (enc := verV) (fun _ => rfl) h.1
theorem OwP.shape {base : Nat} {w : World} {v : Value} {l : List Ver} (h : OwP base w v l) : ∃ g c, v = .slice (some ⟨g, 0, none⟩) l.length c ∧ base ≤ g ∧ g < w.heap.size := by
  rcases h.1.2 with ⟨hv, h0⟩ | ⟨g, cap, cur, hv, hg, hh, hn, hcm, hs, ht⟩
  · exact absurd hv h.2
  · exact ⟨g, cap, hv, hg, (Array.getElem?_eq_some_iff.1 hh).1⟩
theorem ver_one : ∀ x : Ver, ∀ u ∈ verV x, u.oneCell' = true := by intro x u hu; simp [verV] at hu; rcases hu with rfl | rfl <;> rfl

theorem src_lit {w : World} {b n : Nat} {cs : Array Value} {T : TypeId} (h : w.heap[b]? = some (.cells cs T)) (hn : cs.size = n) : Src w (.slice (some ⟨b, 0, none⟩) 1 1) n 1 cs.toList := by
  refine ⟨some ⟨b, 0, none⟩, 1, rfl, by simp [hn], fun h => (by cases h), fun ad had j u hu => ?_⟩
  cases had
  rw [addr_add, cell_of h]
  simpa using hu
theorem notnil_of {v : Value} {b n c : Nat} (h : v = .slice none 0 0 → Value.slice (some ⟨b, 0, none⟩) n c = .slice none 0 0) : v ≠ .slice none 0 0 := fun e => by have := h e; cases this
theorem notnil_tr {v v' : Value} (hv : v ≠ .slice none 0 0) (h : v' = .slice none 0 0 → v = .slice none 0 0) : v' ≠ .slice none 0 0 := fun e => hv (h e)

set_option maxRecDepth 1000000 in
set_option maxHeartbeats 16000000 in
theorem rnOf_call (x : RSV) (key : Int) (w : World) (hx : RdSt w x) (hl : x.s.vs.length ≤ 1000000) :
    Calls Try.prog 24 #[rsV x, vi key] w fun e w' => ∃ v, e = .returned v ∧ OwP w.heap.size w' v (ofV x.s.vs key) ∧ Below w.heap.size w w' := by
  obtain ⟨vv, wv, ev, s⟩ := x
  have HX := Lib.hid hx.vs
  obtain ⟨a, n, c, hwv, rfl, hm, -⟩ := (show RdVer3 w vv s.vs from hx.vs).at
  subst hwv
  simp only at HX hl
  have HB := Lib.hid (((Below.refl w.heap.size w).alloc (Nat.le_refl _) (.cells (rsC ⟨.slice a s.vs.length c, wv, ev, s⟩) 53)).alloc (by simp) (.cells #[] 71))
  have HO := Lib.hid (show OwP w.heap.size ((w.alloc (.cells (rsC ⟨.slice a s.vs.length c, wv, ev, s⟩) 53)).alloc (.cells #[] 71)) (.slice (some ⟨w.heap.size + 1, 0, none⟩) 0 0) [] from ⟨by
    have h := World.ownsRow_lit (base := w.heap.size) (e := 71) (size := 2) (w.alloc (.cells (rsC ⟨.slice a s.vs.length c, wv, ev, s⟩) 53)) #[] 0 (by simp) (by simp [maxLen]) rfl
    simpa using h, by simp⟩)
  have HA := Lib.hid (show ((w.alloc (.cells (rsC ⟨.slice a s.vs.length c, wv, ev, s⟩) 53)).alloc (.cells #[] 71)).heap[w.heap.size]? = some (.cells (rsC ⟨.slice a s.vs.length c, wv, ev, s⟩) 53) from
    (((Below.refl (w.heap.size + 1) (w.alloc (.cells (rsC ⟨.slice a s.vs.length c, wv, ev, s⟩) 53))).alloc (by simp) (.cells #[] 71)).block w.heap.size (by omega)).trans (alloc_at w _))
  clear hx
  unfold rsV rsC at *
  simp only at HB HO HA
  go_enter Try.func24, Try.ntmps24
  go_upto_region 2 with fail
  generalize ((w.alloc (.cells #[.bool s.serial, vi s.bugs, .slice a s.vs.length c, wv, ev] 53)).alloc (.cells #[] 71)) = w1 at *
  have a2 : w1.cell? ⟨w.heap.size, 2, none⟩ = some (.slice a s.vs.length c) := by rw [cell_of HA.out]; rfl
  have hsz1 := HB.out.size
  generalize Value.slice (some ⟨w.heap.size + 1, 0, none⟩) 0 0 = v0 at *
  go_wp2_with fail
  clear a2
  go_loopw [5, 13] (fun v i wr => ∃ (k : Nat) (L : List Ver), k ≤ s.vs.length ∧ i = vi k ∧ Hid (L = (s.vs.take k).foldl (ofStep key) []) ∧ Hid (Below w.heap.size w wr) ∧ Hid (OwP w.heap.size wr v L)) (fun _ i _ => s.vs.length - (intOf i).toNat)
  case atStart => exact ⟨0, [], Nat.zero_le _, rfl, Lib.hid rfl, HB, HO⟩
  case round =>
    obtain ⟨wj, rfl⟩ : ∃ wj : World, wj = wr := ⟨_, rfl⟩
    obtain ⟨k, L, hk, rfl, HL, HJ, HW⟩ := hrel
    clear HB HO HA
    by_cases hlt : k < s.vs.length
    · have k1 : decide ((k : Int) < s.vs.length) = true := decide_eq_true (by omega)
      have k2 : (k : Int) < s.vs.length := by omega
      have hwk : IntKind.i64.wrap ((k : Int) + 1) = (k : Int) + 1 := IntWalk.i64_in _ (by omega)
      have hLl : L.length ≤ 1000000 := by
        have h1 := ofV_len key (s.vs.take k) []
        rw [← HL.out, List.length_take] at h1
        simp only [List.length_nil] at h1
        omega
      obtain ⟨o, ho⟩ := some_at hlt
      obtain ⟨g, off, ha, c0, c1, c2⟩ := (HX.out.later HJ.out).el ho
      subst ha
      have HF := Lib.hid (fold_take (f := ofStep key) (b := []) ho)
      have hsz := HJ.out.size
      have HWA := Lib.hid (HW.out.later ((Below.refl wj.heap.size wj).alloc (Nat.le_refl _) (.cells #[vi o.key, vi o.at_, vi o.val] 121)))
      have HJA := Lib.hid (HJ.out.alloc hsz (.cells #[vi o.key, vi o.at_, vi o.val] 121))
      have hAE := alloc_at wj (.cells #[vi o.key, vi o.at_, vi o.val] 121)
      clear ho
      obtain ⟨gl, cl, rfl, hgl, hgl2⟩ := HW.out.shape
      clear HW
      go_upto_region 5 with fail
      generalize wj.alloc (.cells #[vi o.key, vi o.at_, vi o.val] 121) = wb at *
      generalize hQ : wj.heap.size = Q at *
      have b0 : wb.cell? ⟨Q, 0, none⟩ = some (vi o.key) := by rw [cell_of hAE]; rfl
      clear c0 c1 c2
      have HBO := Lib.hid (show ∀ W, Below wb.heap.size wb W → W.cell? ⟨Q, 1, none⟩ = some (vi o.at_) ∧ W.cell? ⟨Q, 2, none⟩ = some (vi o.val) from fun W hW => by
        have e1 := (hW.block Q (Array.getElem?_eq_some_iff.1 hAE).1).trans hAE
        exact ⟨by rw [cell_of e1]; rfl, by rw [cell_of e1]; rfl⟩)
      clear hAE hQ
      cases hq1 : (o.key != key) with
      | true =>
        have hq2 : (o.key == key) = false := by simpa using hq1
        go_wp2_with fail
        go_roundw
        case rel => exact ⟨k + 1, L, by omega, by go_num, Lib.hid (by rw [HF.out, ← HL.out]; unfold ofStep; rw [hq2]; rfl), HJA, HWA⟩
        case measure => simp only [intOf]; omega
      | false =>
        have hq2 : (o.key == key) = true := by simpa using hq1
        have HFI := Lib.hid (show (s.vs.take (k + 1)).foldl (ofStep key) [] = insAt L o.at_ o.val from by rw [HF.out, ← HL.out]; unfold ofStep; rw [hq2]; rfl)
        clear HF HL
        go_upto_block 2 with fail
        go_cut [8] (fun i wx => i = vi (downV L o.at_ L.length) ∧ Hid (Below wb.heap.size wb wx))
        case first =>
          go_wp2_with fail
          go_loopw [8] (fun i wr => ∃ m : Nat, m ≤ L.length ∧ i = vi m ∧ Hid (Below wb.heap.size wb wr) ∧ Hid (downV L o.at_ m = downV L o.at_ L.length)) (fun i _ => (intOf i).toNat)
          case atStart => exact ⟨L.length, Nat.le_refl _, rfl, Lib.hid (Below.refl _ _), Lib.hid rfl⟩
          case round =>
            obtain ⟨wl, rfl⟩ : ∃ wl : World, wl = wr := ⟨_, rfl⟩
            obtain ⟨m, hm, hi, HBL, HD⟩ := hrel
            rcases m with _ | q
            · obtain rfl : _ = vi 0 := hi
              have z1 : decide ((0 : Int) > 0) = false := rfl
              have z2 : ¬ (0 : Int) < 0 := by omega
              go_wp2_with fail
              go_quiet (fail)
              go_wp2_with fail
              go_meet
              exact ⟨by rw [← HD.out]; rfl, Lib.hid (below_drN HBL.out _)⟩
            · obtain rfl : _ = vi ((q : Int) + 1) := hi
              have z1 : decide ((q : Int) + 1 > 0) = true := decide_eq_true (by omega)
              have z2 : (0 : Int) < (q : Int) + 1 := by omega
              have z3 : IntKind.i64.wrap (q : Int) = (q : Int) := IntWalk.i64_in _ (by omega)
              have z4 : (q : Int) < (L.length : Int) := by omega
              have z5 : (0 : Int) ≤ (q : Int) := by omega
              obtain ⟨y, hy⟩ := some_at (l := L) (k := q) (by omega)
              obtain ⟨_, _, e, c0, -⟩ := (HWA.out.later HBL.out).rd.el hy
              cases e
              rw [Nat.zero_add] at c0
              have b1 := (HBO.out _ HBL.out).1
              have HY := Lib.hid hy
              clear hy
              cases hq : decide (o.at_ < y.1) with
              | true =>
                have hq' : o.at_ < y.1 := of_decide_eq_true hq
                go_wp2_with fail
                go_quiet (fail)
                go_wp2_with fail
                go_roundw
                case rel => exact ⟨q, by omega, by go_num, Lib.hid (below_drN HBL.out _), Lib.hid (by rw [← HD.out]; conv => rhs; unfold downV; rw [HY.out]; simp only [if_pos hq'])⟩
                case measure => simp only [intOf]; omega
              | false =>
                have hq' : ¬ o.at_ < y.1 := of_decide_eq_false hq
                go_wp2_with fail
                go_quiet (fail)
                go_wp2_with fail
                go_meet
                exact ⟨by rw [← HD.out]; unfold downV; rw [HY.out]; simp only [if_neg (show ¬ o.at_ < y.1 by omega)]; rfl, Lib.hid (below_drN HBL.out _)⟩
        case rest =>
          obtain ⟨rfl, HBC⟩ := hcut
          rename_i wc
          have hdle := downV_le L o.at_ L.length
          obtain ⟨d, hd⟩ : ∃ d, downV L o.at_ L.length = d := ⟨_, rfl⟩
          rw [hd] at hdle ⊢
          have HDD := Lib.hid hd
          clear hd
          have HOW := Lib.hid (HWA.out.later HBC.out)
          obtain ⟨a2, n2, c2, hcap, hsl, hn2, hS1, hS2⟩ := row_parts (enc := verV) (k := 2) (fun _ => rfl) HOW.out.1 hdle
          have hdr : ∀ W, (Instr.slice 67 (.slice (some ⟨gl, 0, none⟩) L.length cl) (some (.int .i64 d)) none none).run Try.prog W = .ok (.slice a2 n2 c2) W := fun W => by rw [← hsl]; exact run_dropP hdle W
          have htk : ∀ W, (Instr.slice 67 (.slice (some ⟨gl, 0, none⟩) L.length cl) none (some (.int .i64 d)) none).run Try.prog W = .ok (.slice (some ⟨gl, 0, none⟩) d cl) W := fun W => run_takeP (by omega) W
          have hdl : (L.drop d).length ≤ 1000000 := by rw [List.length_drop]; omega
          have HN2 := Lib.hid hn2
          have HS1 := Lib.hid hS1
          have HS2 := Lib.hid hS2
          clear hsl hn2 hS1 hS2 HWA
          have hN : w.heap.size ≤ wc.heap.size := (HJA.out.trans (HBC.out.mono HJA.out.size)).size
          have HSS := Lib.hid (show ∀ W, Below wc.heap.size wc W → W.cell? ⟨Q, 1, none⟩ = some (vi o.at_) ∧ W.cell? ⟨Q, 2, none⟩ = some (vi o.val) from fun W hW => HBO.out W (HBC.out.trans (hW.mono HBC.out.size)))
          have HBd := Lib.hid (Below.refl wc.heap.size wc)
          have HB0 := Lib.hid (show Below wc.heap.size wc wc.drew from below_dr HBd.out)
          have HBA := Lib.hid (show Below wc.heap.size wc (wc.alloc (.cells #[] 71)).drew from below_dr (below_al (o := (.cells #[] 71)) HBd.out))
          have HBB := Lib.hid (show Below wc.heap.size wc (wc.alloc (.cells #[vi o.at_, vi o.val] 71)).drew from below_dr (below_al (o := (.cells #[vi o.at_, vi o.val] 71)) HBd.out))
          have HBAB := Lib.hid (show Below wc.heap.size wc ((wc.alloc (.cells #[] 71)).alloc (.cells #[vi o.at_, vi o.val] 71)).drew from below_dr (below_al (o := (.cells #[vi o.at_, vi o.val] 71)) (below_al (o := (.cells #[] 71)) HBd.out)))
          have HBBA := Lib.hid (show Below wc.heap.size wc ((wc.alloc (.cells #[vi o.at_, vi o.val] 71)).alloc (.cells #[] 71)).drew from below_dr (below_al (o := (.cells #[] 71)) (below_al (o := (.cells #[vi o.at_, vi o.val] 71)) HBd.out)))
          have HLA := Lib.hid (show (wc.alloc (.cells #[] 71)).drew.ownsRow wc.heap.size 71 2 (.slice (some ⟨wc.heap.size, 0, none⟩) 0 0) 0 [] from lit_own (heap_dd (heap_top (w := wc) (o := (.cells #[] 71)) (b := wc.heap.size) (by first | rfl | simp))) (by omega))
          have HTA := Lib.hid (HS1.out.below HBA.out)
          have HZA := Lib.hid HBA.out.size
          have HGA := Lib.hid (show ∀ w5 : World, (wc.alloc (.cells #[] 71)).drew.grownBy w5 (Value.slice (some ⟨wc.heap.size, 0, none⟩) 0 0).ownBlock → Below wc.heap.size wc w5 from fun w5 h => below_gr HBA.out h (by omega))
          have HLAB := Lib.hid (show ((wc.alloc (.cells #[] 71)).alloc (.cells #[vi o.at_, vi o.val] 71)).drew.ownsRow wc.heap.size 71 2 (.slice (some ⟨wc.heap.size, 0, none⟩) 0 0) 0 [] from lit_own (heap_dd (heap_un (o := (.cells #[vi o.at_, vi o.val] 71)) (heap_top (w := wc) (o := (.cells #[] 71)) (b := wc.heap.size) (by first | rfl | simp)))) (by omega))
          have HTAB := Lib.hid (HS1.out.below HBAB.out)
          have HZAB := Lib.hid HBAB.out.size
          have HGAB := Lib.hid (show ∀ w5 : World, ((wc.alloc (.cells #[] 71)).alloc (.cells #[vi o.at_, vi o.val] 71)).drew.grownBy w5 (Value.slice (some ⟨wc.heap.size, 0, none⟩) 0 0).ownBlock → Below wc.heap.size wc w5 from fun w5 h => below_gr HBAB.out h (by omega))
          have HLBA := Lib.hid (show ((wc.alloc (.cells #[vi o.at_, vi o.val] 71)).alloc (.cells #[] 71)).drew.ownsRow wc.heap.size 71 2 (.slice (some ⟨(wc.heap.size + 1), 0, none⟩) 0 0) 0 [] from lit_own (heap_dd (heap_top (w := (wc.alloc (.cells #[vi o.at_, vi o.val] 71))) (o := (.cells #[] 71)) (b := (wc.heap.size + 1)) (by first | rfl | simp))) (by omega))
          have HTBA := Lib.hid (HS1.out.below HBBA.out)
          have HZBA := Lib.hid HBBA.out.size
          have HGBA := Lib.hid (show ∀ w5 : World, ((wc.alloc (.cells #[vi o.at_, vi o.val] 71)).alloc (.cells #[] 71)).drew.grownBy w5 (Value.slice (some ⟨(wc.heap.size + 1), 0, none⟩) 0 0).ownBlock → Below wc.heap.size wc w5 from fun w5 h => below_gr HBBA.out h (by omega))
          have HCAB := Lib.hid (show ∀ w5 : World, ((wc.alloc (.cells #[] 71)).alloc (.cells #[vi o.at_, vi o.val] 71)).drew.grownBy w5 (Value.slice (some ⟨wc.heap.size, 0, none⟩) 0 0).ownBlock → Src w5 (.slice (some ⟨(wc.heap.size + 1), 0, none⟩) 1 1) 2 1 (verV (o.at_, o.val)) from fun w5 h => src_lit (heap_gr h (by omega) (heap_dd (heap_top (w := (wc.alloc (.cells #[] 71))) (o := (.cells #[vi o.at_, vi o.val] 71)) (b := (wc.heap.size + 1)) (by first | rfl | simp)))) rfl)
          have HCBA := Lib.hid (show ∀ w5 : World, ((wc.alloc (.cells #[vi o.at_, vi o.val] 71)).alloc (.cells #[] 71)).drew.grownBy w5 (Value.slice (some ⟨(wc.heap.size + 1), 0, none⟩) 0 0).ownBlock → Src w5 (.slice (some ⟨wc.heap.size, 0, none⟩) 1 1) 2 1 (verV (o.at_, o.val)) from fun w5 h => src_lit (heap_gr h (by omega) (heap_dd (heap_un (o := (.cells #[] 71)) (heap_top (w := wc) (o := (.cells #[vi o.at_, vi o.val] 71)) (b := wc.heap.size) (by first | rfl | simp))))) rfl)
          go_wp2_with fail
          go_region_held3 (fun W : World => W.cell? ⟨Q, 1, none⟩ = some (vi o.at_) ∧ W.cell? ⟨Q, 2, none⟩ = some (vi o.val))
            (first | with_reducible exact HSS.out _ HB0.out | with_reducible exact HSS.out _ HBA.out | with_reducible exact HSS.out _ HBB.out | with_reducible exact HSS.out _ HBAB.out | with_reducible exact HSS.out _ HBBA.out | with_reducible exact HSS.out _ HB5.out | with_reducible exact HSS.out _ HB5b.out | with_reducible exact HSS.out _ HB7.out | with_reducible exact HSS.out _ HB9.out)
            (first
              | (refine step_append_src rfl _ _ 67 rfl eltP2 wc.heap.size 0 [] HLA.out rfl d _ HTA.out rfl (one_of ver_one _) (by omega) (by omega) HZA.out ?_; intro v5 w5 ho5 hg5 hz5; rw [Nat.zero_add, List.nil_append] at ho5; obtain ⟨a5, c5, rfl⟩ := own_shape ho5; have HO5a := Lib.hid ho5; have HN5 := Lib.hid (notnil_of hz5); have HB5 := Lib.hid (HGA.out _ hg5); have HB5b := Lib.hid (below_al (o := (.cells #[vi o.at_, vi o.val] 71)) HB5.out); have HZ5 := Lib.hid HB5b.out.size; clear ho5 hg5 hz5)
              | (refine step_append_src rfl _ _ 67 rfl eltP2 wc.heap.size 0 [] HLAB.out rfl d _ HTAB.out rfl (one_of ver_one _) (by omega) (by omega) HZAB.out ?_; intro v5 w5 ho5 hg5 hz5; rw [Nat.zero_add, List.nil_append] at ho5; obtain ⟨a5, c5, rfl⟩ := own_shape ho5; have HO5b := Lib.hid ho5; have HN5 := Lib.hid (notnil_of hz5); have HB5 := Lib.hid (HGAB.out _ hg5); have HSN5 := Lib.hid (HCAB.out _ hg5); have HZ5 := Lib.hid HB5.out.size; clear ho5 hg5 hz5)
              | (refine step_append_src rfl _ _ 67 rfl eltP2 wc.heap.size 0 [] HLBA.out rfl d _ HTBA.out rfl (one_of ver_one _) (by omega) (by omega) HZBA.out ?_; intro v5 w5 ho5 hg5 hz5; rw [Nat.zero_add, List.nil_append] at ho5; obtain ⟨a5, c5, rfl⟩ := own_shape ho5; have HO5b := Lib.hid ho5; have HN5 := Lib.hid (notnil_of hz5); have HB5 := Lib.hid (HGBA.out _ hg5); have HSN5 := Lib.hid (HCBA.out _ hg5); have HZ5 := Lib.hid HB5.out.size; clear ho5 hg5 hz5)
              | (refine step_append_src rfl _ _ 67 rfl eltP2 wc.heap.size d _ (HO5a.out.alloc _) rfl 1 (verV (o.at_, o.val)) (src_new (cs := #[vi o.at_, vi o.val]) rfl rfl) rfl (ver_one (o.at_, o.val)) (by omega) (by omega) HZ5.out ?_; intro v7 w7 ho7 hg7 hz7; obtain ⟨a7, c7, rfl⟩ := own_shape ho7; have HO7 := Lib.hid ho7; have HN7 := Lib.hid (notnil_tr HN5.out hz7); have HB7 := Lib.hid (HB5b.out.grown hg7 HB5b.out.size (fun k hk => (HO5a.out.lt k hk).1)); have HT7 := Lib.hid (HS2.out.below HB7.out); have HZ7 := Lib.hid HB7.out.size; clear ho7 hg7 hz7)
              | (refine step_append_src rfl _ _ 67 rfl eltP2 wc.heap.size d _ HO5b.out rfl 1 (verV (o.at_, o.val)) HSN5.out rfl (ver_one (o.at_, o.val)) (by omega) (by omega) HZ5.out ?_; intro v7 w7 ho7 hg7 hz7; obtain ⟨a7, c7, rfl⟩ := own_shape ho7; have HO7 := Lib.hid ho7; have HN7 := Lib.hid (notnil_tr HN5.out hz7); have HB7 := Lib.hid (HB5.out.grown hg7 HB5.out.size (fun k hk => (HO5b.out.lt k hk).1)); have HT7 := Lib.hid (HS2.out.below HB7.out); have HZ7 := Lib.hid HB7.out.size; clear ho7 hg7 hz7)
              | (refine step_append_src rfl _ _ 67 rfl eltP2 wc.heap.size (d + 1) _ HO7.out rfl (L.drop d).length _ HT7.out rfl (one_of ver_one _) (by omega) (by omega) HZ7.out ?_; intro v9 w9 ho9 hg9 hz9; have HO9 := Lib.hid ho9; have HN9 := Lib.hid (notnil_tr HN7.out hz9); have HB9 := Lib.hid (HB7.out.grown hg9 HB7.out.size (fun k hk => (HO7.out.lt k hk).1)); clear ho9 hg9 hz9))
          all_goals
            go_wp2_with fail
            go_roundw
            case rel =>
              refine ⟨k + 1, insAt L o.at_ o.val, by omega, by go_num, Lib.hid HFI.out.symm, Lib.hid (HJA.out.trans ((HBC.out.trans (HB9.out.mono HBC.out.size)).mono HJA.out.size)), Lib.hid ⟨?_, HN9.out⟩⟩
              have h9 := own_mono HO9.out hN
              have e1 : (insAt L o.at_ o.val).length = d + 1 + (L.drop d).length := by unfold insAt; rw [HDD.out]; simp; omega
              have e2 : (insAt L o.at_ o.val).flatMap verV = (L.take d).flatMap verV ++ verV (o.at_, o.val) ++ (L.drop d).flatMap verV := by unfold insAt; rw [HDD.out]; simp
              rw [e1, e2]; exact h9
            case measure => simp only [intOf]; omega
    · have k1 : decide ((k : Int) < s.vs.length) = false := decide_eq_false (by omega)
      go_wp2_with fail
      go_ret
      refine ⟨_, rfl, ?_, HJ.out⟩
      have : ofV s.vs key = L := by rw [HL.out, fold_all hlt]; rfl
      rw [this]; exact HW.out
end Go.Proofs.Ytbadpfcjoobniaa

namespace Go.Proofs.Ytbadpfcjoobniaa.mvccRuns
open Go.RowKit Go.Maps

/-- One who waits is small. -/
structure Sm (r : Rdy) : Prop where
  ws : r.writes.length ≤ 20
  rs : r.reads.length ≤ 20
  key : ∀ o ∈ r.writes, i64 o.key
/-- n steps are over. -/
structure RunI (b p mk mr me X : Nat) (serial : Bool) (bugs : Int) (n : Nat) (K : KeysL) (R : RdyL) (E : EndL) (x : RSV) (W : World) : Prop where
  st : MvS b p mk mr me serial bugs K R E W
  sim : Sim K R E x.s
  box : W.heap[X]? = some (.cells (rsC x) 53)
  rd : RdSt W x
  ser : x.s.serial = serial
  bg : x.s.bugs = bugs
  rlen : R.length ≤ n
  wlen : x.s.ws.length ≤ n
  vlen : x.s.vs.length ≤ 20 * n
  elen : x.s.es.length ≤ n
  small : ∀ r ∈ x.s.ws, Sm r
  once : x.s.es.Pairwise (fun a c => a.txn ≠ c.txn)
  bx : b ≤ X
def RunE (b p mk mr me X : Nat) (serial : Bool) (bugs : Int) (n : Nat) (W : World) : Prop := ∃ K R E x, RunI b p mk mr me X serial bugs n K R E x W
section
variable {b p mk mr me X : Nat} {serial : Bool} {bugs : Int} {n : Nat} {K : KeysL} {R : RdyL} {E : EndL} {x : RSV} {A B : World}
theorem RunI.later (h : RunI b p mk mr me X serial bugs n K R E x A) (hb : Below A.heap.size A B) : RunI b p mk mr me X serial bugs n K R E x B :=
  ⟨h.st.later hb, h.sim, (hb.block X (Array.getElem?_eq_some_iff.1 h.box).1).trans h.box, h.rd.later hb, h.ser, h.bg, h.rlen, h.wlen, h.vlen, h.elen, h.small, h.once, h.bx⟩
theorem RunI.more (h : RunI b p mk mr me X serial bugs n K R E x A) : RunI b p mk mr me X serial bugs (n + 1) K R E x A :=
  ⟨h.st, h.sim, h.box, h.rd, h.ser, h.bg, by have := h.rlen; omega, by have := h.wlen; omega, by have := h.vlen; omega, by have := h.elen; omega, h.small, h.once, h.bx⟩
theorem RunI.smallR (h : RunI b p mk mr me X serial bugs n K R E x A) : ∀ y ∈ R, Sm y.2.r := fun y hy => h.small _ (h.sim.w.1 y hy).2
theorem RunI.srt (h : RunI b p mk mr me X serial bugs n K R E x A) (key : Int) : Srt (verOf K key) := by rw [h.sim.k]; exact ofV_srt' h.sim.u key
theorem RunI.vers (h : RunI b p mk mr me X serial bugs n K R E x A) (key : Int) : (verOf K key).length ≤ 20 * n := by
  rw [h.sim.k]
  have := ofV_len key x.s.vs []
  have h2 := h.vlen
  simp only [List.length_nil] at this
  unfold ofV; omega
theorem RdSt.solid (h : RdSt A x) (hs : Solid A B) : RdSt B x :=
  ⟨RdS.solid h.vs hs fun _ _ h => h, RdS.solid h.ws hs fun _ _ ⟨wv, rv, h1, h2⟩ => ⟨wv, rv, h1, h2.solid hs⟩, RdS.solid h.es hs fun _ _ h => h⟩
theorem RunI.p_ne (h : RunI b p mk mr me X serial bugs n K R E x A) : p ≠ X := fun e => by
  have h1 := h.st.blk
  have h2 := h.box
  rw [← e, h1] at h2
  simp at h2
theorem RunI.solid_box (h : RunI b p mk mr me X serial bugs n K R E x A) (hs : Solid A B) : B.heap[X]? = some (.cells (rsC x) 53) := hs _ _ _ _ h.box

/-- Cells that are neither whole numbers nor truth values turn in one box alone. -/
structure TurnX (X : Nat) (A B : World) : Prop where
  other : ∀ j, j ≠ X → B.heap[j]? = A.heap[j]?
  from_ : ∃ (c : Bool) (m : Int) (a1 a2 a3 : Option Addr) (l1 l2 l3 k1 k2 k3 : Nat) (v2 v3 v4 : Value) (T : TypeId), A.heap[X]? = some (.cells #[.bool c, vi m, .slice a1 l1 k1, .slice a2 l2 k2, .slice a3 l3 k3] T) ∧ B.heap[X]? = some (.cells #[.bool c, vi m, v2, v3, v4] T)
theorem TurnX.plain (h : TurnX X A B) {g o : Nat} {v : Value} (hc : A.cell? ⟨g, o, none⟩ = some v) (hv : (∃ k, v = vi k) ∨ ∃ t, v = .bool t) : B.cell? ⟨g, o, none⟩ = some v := by
  by_cases hg : g = X
  · subst hg
    obtain ⟨c, m, a1, a2, a3, l1, l2, l3, k1, k2, k3, v2, v3, v4, T, hA, hB⟩ := h.from_
    rw [cell_of hA] at hc
    rw [cell_of hB]
    match o, hc with
    | 0, hc => exact hc
    | 1, hc => exact hc
    | 2, hc => rcases hv with ⟨k, rfl⟩ | ⟨t, rfl⟩ <;> simp at hc
    | 3, hc => rcases hv with ⟨k, rfl⟩ | ⟨t, rfl⟩ <;> simp at hc
    | 4, hc => rcases hv with ⟨k, rfl⟩ | ⟨t, rfl⟩ <;> simp at hc
    | o + 5, hc => simp at hc
  · unfold World.cell? at hc ⊢
    rw [h.other g hg]; exact hc
theorem TurnX.two (h : TurnX X A B) {g o : Nat} {k l : Int} (h1 : A.cell? ⟨g, o, none⟩ = some (vi k)) (h2 : A.cell? ⟨g, o + 1, none⟩ = some (vi l)) : g ≠ X := fun hg => by
  subst hg
  obtain ⟨c, m, a1, a2, a3, l1, l2, l3, k1, k2, k3, v2, v3, v4, T, hA, hB⟩ := h.from_
  rw [cell_of hA] at h1 h2
  match o, h1, h2 with
  | 0, h1, _ => simp at h1
  | 1, _, h2 => simp at h2
  | 2, h1, _ => simp at h1
  | 3, h1, _ => simp at h1
  | 4, h1, _ => simp at h1
  | o + 5, h1, _ => simp at h1
theorem TurnX.row {α : Type} {m : Nat} {F : World → List Value → α → Prop} {v : Value} {l : List α} (h : TurnX X A B) (hr : RdS m F A v l) (hF : ∀ cs y, F A cs y → (∀ u ∈ cs, (∃ k, u = vi k) ∨ ∃ t, u = .bool t) ∧ F B cs y) : RdS m F B v l := by
  obtain ⟨a, len, cap, h1, h2, h3, h4, h5, h6⟩ := hr
  refine ⟨a, len, cap, h1, h2, h3, h4, h5, fun j y hj => ?_⟩
  obtain ⟨g, off, cs, ha, hl, hc, he⟩ := h6 j y hj
  obtain ⟨hp, hB⟩ := hF cs y he
  exact ⟨g, off, cs, ha, hl, fun i u hu => h.plain (hc i u hu) (hp u (List.mem_of_getElem? hu)), hB⟩
theorem TurnX.ops (h : TurnX X A B) {v : Value} {l : List GOp} (hr : RdOps A v l) : RdOps B v l := h.row hr fun cs y he => ⟨fun u hu => by
  have he' : cs = opV y := he
  rw [he'] at hu
  simp [opV] at hu
  rcases hu with rfl | rfl | rfl <;> exact .inl ⟨_, rfl⟩, he⟩
theorem TurnX.ints (h : TurnX X A B) {v : Value} {l : List Int} (hr : RdInts A v l) : RdInts B v l := h.row hr fun cs y he => ⟨fun u hu => by
  rw [he.1] at hu
  simp at hu
  exact .inl ⟨_, hu⟩, he⟩
theorem TurnX.rdy (h : TurnX X A B) {y : RV} (hr : RdyS A y) : RdyS B y := ⟨h.ops hr.ws, h.ints hr.rs⟩
theorem TurnX.ver (h : TurnX X A B) {v : Value} {l : List Ver} (hr : RdVer A v l) : RdVer B v l := h.row hr fun cs y he => ⟨fun u hu => by
  rw [he.1] at hu
  simp [verV] at hu
  rcases hu with rfl | rfl <;> exact .inl ⟨_, rfl⟩, he⟩
theorem TurnX.rdst (h : TurnX X A B) {y : RSV} (hr : RdSt A y) : RdSt B y := by
  refine ⟨h.row hr.vs fun cs z he => ⟨fun u hu => ?_, he⟩, ?_, h.row hr.es fun cs z he => ⟨fun u hu => ?_, he⟩⟩
  · have he' : cs = ver3V z := he
    rw [he'] at hu
    simp [ver3V] at hu
    rcases hu with rfl | rfl | rfl <;> exact .inl ⟨_, rfl⟩
  · obtain ⟨a, len, cap, h1, h2, h3, h4, h5, h6⟩ := hr.ws
    refine ⟨a, len, cap, h1, h2, h3, h4, h5, fun j z hj => ?_⟩
    obtain ⟨g, off, cs, ha, hl, hc, wv, rv, rfl, hz⟩ := h6 j z hj
    have c0 := hc 0 _ rfl
    have c1 := hc 1 _ rfl
    have hg := h.two (g := g) (o := off + (j * 5 + 0)) c0 (by rw [Nat.add_assoc, Nat.add_assoc]; exact c1)
    refine ⟨g, off, _, ha, hl, fun i u hu => ?_, wv, rv, rfl, h.rdy hz⟩
    have := hc i u hu
    unfold World.cell? at this ⊢
    rw [h.other g hg]; exact this
  · have he' : cs = [vi z.txn, .bool z.commit, vi z.at_] := he
    rw [he'] at hu
    simp at hu
    rcases hu with rfl | rfl | rfl
    · exact .inl ⟨_, rfl⟩
    · exact .inr ⟨_, rfl⟩
    · exact .inl ⟨_, rfl⟩
theorem TurnX.mvs (h : TurnX X A B) (hp : p ≠ X) (hst : MvS b p mk mr me serial bugs K R E A) : MvS b p mk mr me serial bugs K R E B := by
  obtain ⟨c, m, a1, a2, a3, l1, l2, l3, k1, k2, k3, v2, v3, v4, T, hA, hB⟩ := h.from_
  have hm : ∀ k, (∃ es c, A.heap[k]? = some (.map es c)) → k ≠ X := fun k ⟨es, c, hk⟩ e => by rw [e, hA] at hk; cases hk
  exact ⟨(h.other p hp).trans hst.blk, hst.keys.frame (h.other _ (hm _ hst.keys.obj)), hst.ready.frame (h.other _ (hm _ hst.ready.obj)), hst.ends.frame (h.other _ (hm _ hst.ends.obj)), fun y hy => h.ver (hst.krow y hy), fun y hy => h.rdy (hst.rrow y hy), hst.bp, hst.bk, hst.br, hst.be, hst.kr, hst.ke, hst.re⟩
/-- The reference's box is written. -/
theorem set_box {y : RSV} (hA : A.heap[X]? = some (.cells (rsC x) 53)) (hx : RdSt A x) (h1 : y.s.serial = x.s.serial) (h2 : y.s.bugs = x.s.bugs) :
    TurnX X A (((((A.setCell ⟨X, 0, none⟩ (.bool y.s.serial)).setCell ⟨X, 1, none⟩ (vi y.s.bugs)).setCell ⟨X, 2, none⟩ y.vv).setCell ⟨X, 3, none⟩ y.wv).setCell ⟨X, 4, none⟩ y.ev) ∧
    (((((A.setCell ⟨X, 0, none⟩ (.bool y.s.serial)).setCell ⟨X, 1, none⟩ (vi y.s.bugs)).setCell ⟨X, 2, none⟩ y.vv).setCell ⟨X, 3, none⟩ y.wv).setCell ⟨X, 4, none⟩ y.ev).heap[X]? = some (.cells (rsC y) 53) := by
  have hB := rn_set5 (.bool y.s.serial) (vi y.s.bugs) y.vv y.wv y.ev hA
  refine ⟨⟨fun j hj => ?_, ?_⟩, hB⟩
  · rw [Below.heap_setCell _ _ _ _ hj, Below.heap_setCell _ _ _ _ hj, Below.heap_setCell _ _ _ _ hj, Below.heap_setCell _ _ _ _ hj, Below.heap_setCell _ _ _ _ hj]
  · obtain ⟨a1, l1, k1, e1, -⟩ := hx.vs
    obtain ⟨a2, l2, k2, e2, -⟩ := hx.ws
    obtain ⟨a3, l3, k3, e3, -⟩ := hx.es
    refine ⟨x.s.serial, x.s.bugs, a1, a2, a3, l1, l2, l3, k1, k2, k3, y.vv, y.wv, y.ev, 53, ?_, ?_⟩
    · rw [hA]; unfold rsC; rw [e1, e2, e3]
    · rw [hB, h1, h2]
/-- One block that is none of the store's is written. -/
theorem MvS.wrote {N : Nat} {r : Option Nat} {R' : RdyL} {C D : World} (hA : MvS b p mk mr me serial bugs K R E A) (hC : MvS b p mk mr me serial bugs K R' E C) (hAC : Solid A C) (hsz : A.heap.size ≤ C.heap.size) (hR : ∀ y ∈ R', y ∈ R ∨ OwnR N C y.2)
    (hg : C.grownBy D r) (hr : ∀ k, r = some k → A.heap.size ≤ k ∧ k < N) : MvS b p mk mr me serial bugs K R' E D ∧ Solid A D := by
  have hD : ∀ j, j < A.heap.size → D.heap[j]? = C.heap[j]? := fun j hj => hg.block j (by omega) (fun e => by have := (hr j e.symm).1; omega)
  have hs : Solid A D := fun j cs T fz hj => (hD j (Array.getElem?_eq_some_iff.1 hj).1).trans (hAC j cs T fz hj)
  have hlt := (Array.getElem?_eq_some_iff.1 hA.blk).1
  refine ⟨⟨(hD p hlt).trans hC.blk, hC.keys.frame (hD _ hA.keys.lt), hC.ready.frame (hD _ hA.ready.lt), hC.ends.frame (hD _ hA.ends.lt), fun y hy => (hA.krow y hy).solid hs, fun y hy => ?_, hA.bp, hA.bk, hA.br, hA.be, hA.kr, hA.ke, hA.re⟩, hs⟩
  rcases hR y hy with h | h
  · exact (hA.rrow y h).solid hs
  · have hk : ∀ {e n m : Nat} {v : Value} {xs : List Value}, C.ownsRow N e n v m xs → D.ownsRow N e n v m xs := fun {e n m v xs} ho => ho.kept hg (by
      cases hv : v.ownBlock with
      | none => exact .inl rfl
      | some k => exact .inr (fun e => by have h1 := (ho.lt k hv).1; have h2 := (hr k e.symm).2; omega))
    refine rdy_own (hk h.1) (hk h.2) (fun z hz => ?_)
    obtain ⟨_, _, _, _, _, _, hc⟩ := (hC.rrow y hy).rs.at
    obtain ⟨i, hi⟩ := List.mem_iff_getElem?.1 hz
    obtain ⟨_, _, _, _, h4⟩ := hc i z hi
    exact h4
end
end Go.Proofs.Ytbadpfcjoobniaa.mvccRuns

namespace Go.Proofs.Ytbadpfcjoobniaa.mvccRuns
open Go.RowKit Go.Maps
attribute [local go_sem] Oper.semAt_some

/-- What is known where a step begins. -/
structure Stp (b p mk mr me X bx : Nat) (serial : Bool) (bugs : Int) (n : Nat) (K : KeysL) (R : RdyL) (E : EndL) (x : RSV) (o : Op19) (wv rv : Value) (w0 W : World) : Prop where
  run : RunI b p mk mr me X serial bugs n K R E x W
  start : w0.heap.size = b
  below : Below b w0 W
  rows : RdyS w0 ⟨wv, rv, o.r⟩
  box : W.heap[bx]? = some (.cells (op19A o wv rv) 33)
  ri : RdyI o.r
  ei : EndI o.e
  sm : o.r.writes.length ≤ 20 ∧ o.r.reads.length ≤ 20
  few : n ≤ 60
  bug : 0 ≤ bugs ∧ bugs ≤ 63
def ExitR (b p mk mr me X : Nat) (serial : Bool) (bugs : Int) (n : Nat) (s0 s1 s2 s9 : Value) (wj : World) (K : Act → World → Prop) : Prop :=
  ∀ (l : List Value) (w' : World), l.length = 357 → slotsOf l 0 = s0 → slotsOf l 1 = s1 → slotsOf l 2 = s2 → slotsOf l 7 = .pointer (some ⟨p, 0, none⟩) → slotsOf l 8 = .pointer (some ⟨X, 0, none⟩) → slotsOf l 9 = s9 →
    RunE b p mk mr me X serial bugs (n + 1) w' → Below b wj w' → K ⟨l.toArray, []⟩ w'
noncomputable def cSw : Code := (Try.f6.body.bind (blockOf 2)).getD .skip
theorem rnRead_eq (x : RSV) (txn key t v by_ err : Int) (w : World) (hx : RdSt w x) (hbg : 0 ≤ x.s.bugs ∧ x.s.bugs ≤ 63) (h : rnReadV x.s txn key t = (v, by_, err)) :
    Calls Try.prog 22 #[rsV x, vi txn, vi key, vi t] w fun e w' => e = .returned (.tuple #[vi v, vi by_, vi err]) ∧ Below w.heap.size w w' :=
  (rnRead_call x txn key t w hx hbg).mono fun e w' hq => by unfold RnReadQ at hq; rw [h] at hq; exact hq
theorem RunI.shapes {b p mk mr me X : Nat} {serial : Bool} {bugs : Int} {n : Nat} {K : KeysL} {R : RdyL} {E : EndL} {x : RSV} {A : World} (h : RunI b p mk mr me X serial bugs n K R E x A) :
    ∃ a1 c1 a2 c2 a3 c3, x = ⟨.slice a1 x.s.vs.length c1, .slice a2 x.s.ws.length c2, .slice a3 x.s.es.length c3, x.s⟩ ∧ x.s.vs.length ≤ 9223372036854775807 ∧ x.s.ws.length ≤ 9223372036854775807 ∧ x.s.es.length ≤ 9223372036854775807 := by
  obtain ⟨vv, wv, ev, s⟩ := x
  obtain ⟨a1, n1, c1, h1, rfl, hm1, -⟩ := (show RdVer3 A vv s.vs from h.rd.vs).at
  obtain ⟨a2, n2, c2, h2, rfl, hm2, -⟩ := (show RdRdy A wv s.ws from h.rd.ws).at
  obtain ⟨a3, n3, c3, h3, rfl, hm3, -⟩ := (show RdEn A ev s.es from h.rd.es).at
  subst h1 h2 h3
  exact ⟨a1, c1, a2, c2, a3, c3, rfl, hm1, hm2, hm3⟩

set_option maxRecDepth 1000000 in
set_option maxHeartbeats 16000000 in
theorem sw3 {b p mk mr me X bx : Nat} {serial : Bool} {bugs : Int} {n : Nat} {K : KeysL} {R : RdyL} {E : EndL} {x : RSV} {o : Op19} {wv rv : Value} {w0 : World} (wj : World) (f : Nat → Value) (KX : Act → World → Prop) (s0 s1 s2 s9 : Value)
    (hs0 : f 0 = s0) (hs1 : f 1 = s1) (hs2 : f 2 = s2) (e7 : f 7 = .pointer (some ⟨p, 0, none⟩)) (e8 : f 8 = .pointer (some ⟨X, 0, none⟩)) (hs9 : f 9 = s9) (e10 : f 10 = .pointer (some ⟨bx, 0, none⟩)) (e74 : f 74 = vi o.k)
    (hS : Stp b p mk mr me X bx serial bugs n K R E x o wv rv w0 wj) (hE : ExitR b p mk mr me X serial bugs n s0 s1 s2 s9 wj KX) (h0 : o.k ≠ 0) (h1 : o.k ≠ 1) (h2 : o.k ≠ 2) : Code.wp Try.prog cSw (OnlyN KX) (frN 357 f) wj := by
  have HEX := Lib.hid hE
  have HI := Lib.hid hS.run
  have k0 : (o.k == 0) = false := by simpa using h0
  have k1 : (o.k == 1) = false := by simpa using h1
  have k2 : (o.k == 2) = false := by simpa using h2
  rw [fr357, hs0, hs1, hs2, e7, e8, hs9, e10, e74]
  clear hE hS hs0 hs1 hs2 e7 e8 hs9 e10 e74 h0 h1 h2
  conv => arg 2; whnf
  go_wp2_with fail
  exact HEX.out _ _ rfl rfl rfl rfl rfl rfl rfl ⟨_, _, _, _, HI.out.more⟩ (Below.refl _ _)

set_option maxRecDepth 1000000 in
set_option maxHeartbeats 16000000 in
theorem sw2 {b p mk mr me X bx : Nat} {serial : Bool} {bugs : Int} {n : Nat} {K : KeysL} {R : RdyL} {E : EndL} {x : RSV} {o : Op19} {wv rv : Value} {w0 : World} (wj : World) (f : Nat → Value) (KX : Act → World → Prop) (s0 s1 s2 s9 : Value)
    (hs0 : f 0 = s0) (hs1 : f 1 = s1) (hs2 : f 2 = s2) (e7 : f 7 = .pointer (some ⟨p, 0, none⟩)) (e8 : f 8 = .pointer (some ⟨X, 0, none⟩)) (hs9 : f 9 = s9) (e10 : f 10 = .pointer (some ⟨bx, 0, none⟩)) (e74 : f 74 = vi 2)
    (hS : Stp b p mk mr me X bx serial bugs n K R E x o wv rv w0 wj) (hE : ExitR b p mk mr me X serial bugs n s0 s1 s2 s9 wj KX) : Code.wp Try.prog cSw (OnlyN KX) (frN 357 f) wj := by
  have HEX := Lib.hid hE
  have HI := Lib.hid hS.run
  have hbg := hS.bug
  have hkey := hS.ri.home
  have hRl : R.length ≤ 1048576 := by have := hS.run.rlen; have := hS.few; omega
  have HX := Lib.hid hS.box
  obtain ⟨a1, c1, a2, c2, a3, c3, hx, hm1, hm2, hm3⟩ := hS.run.shapes
  have HSZ := Lib.hid (show b ≤ wj.heap.size from by have := hS.below.size; have := hS.start; omega)
  obtain ⟨ow, onw, ocw, hwv, -, -, -⟩ := hS.rows.ws.at
  obtain ⟨or, onr, ocr, hrv, -, -, -⟩ := hS.rows.rs.at
  simp only at hwv hrv
  subst hwv hrv
  have f1 : wj.cell? ⟨bx, 1, none⟩ = some (vi o.r.txn) := by rw [cell_of HX.out]; rfl
  have f2 : wj.cell? ⟨bx, 2, none⟩ = some (vi o.r.home) := by rw [cell_of HX.out]; rfl
  have f3 : wj.cell? ⟨bx, 3, none⟩ = some (vi o.r.start) := by rw [cell_of HX.out]; rfl
  have hbl := (Array.getElem?_eq_some_iff.1 HX.out).1
  rw [fr357, hs0, hs1, hs2, e7, e8, hs9, e10, e74]
  clear hE hS hs0 hs1 hs2 e7 e8 hs9 e10 e74
  conv => arg 2; whnf
  go_upto_region 39 with (go_at_call 15; refine (read_call _ _ _ _ HI.out.st hRl hkey).mono ?_; rintro e w5 ⟨v, by_, err, rfl, hR, hb5⟩)
  have HI5 := Lib.hid (HI.out.later hb5)
  have hbg5 : 0 ≤ x.s.bugs ∧ x.s.bugs ≤ 63 := by rw [HI.out.bg]; exact hbg
  have hrv5 := HI.out.sim.read hbg5 (by rw [HI.out.bg]; exact hR)
  have HRV := Lib.hid hrv5
  have HX5 := Lib.hid ((hb5.block bx hbl).trans HX.out)
  have HB5 := Lib.hid hb5
  clear hR hrv5 hb5 f1 f2 f3
  have g1 : w5.cell? ⟨bx, 1, none⟩ = some (vi o.r.txn) := by rw [cell_of HX5.out]; rfl
  have g2 : w5.cell? ⟨bx, 2, none⟩ = some (vi o.r.home) := by rw [cell_of HX5.out]; rfl
  have g3 : w5.cell? ⟨bx, 3, none⟩ = some (vi o.r.start) := by rw [cell_of HX5.out]; rfl
  have q0 : w5.cell? ⟨X, 0, none⟩ = some (.bool x.s.serial) := by rw [cell_of HI5.out.box]; rfl
  have q1 : w5.cell? ⟨X, 1, none⟩ = some (vi x.s.bugs) := by rw [cell_of HI5.out.box]; rfl
  have q2 : w5.cell? ⟨X, 2, none⟩ = some (.slice a1 x.s.vs.length c1) := by rw [cell_of HI5.out.box, hx]; rfl
  have q3 : w5.cell? ⟨X, 3, none⟩ = some (.slice a2 x.s.ws.length c2) := by rw [cell_of HI5.out.box, hx]; rfl
  have q4 : w5.cell? ⟨X, 4, none⟩ = some (.slice a3 x.s.es.length c3) := by rw [cell_of HI5.out.box, hx]; rfl
  have hxe : rsV x = .agg #[.bool x.s.serial, vi x.s.bugs, .slice a1 x.s.vs.length c1, .slice a2 x.s.ws.length c2, .slice a3 x.s.es.length c3] := by rw [hx]; rfl
  have hc := rnRead_eq x o.r.txn o.r.home o.r.start v by_ err w5 HI5.out.rd hbg5 HRV.out
  rw [hxe] at hc
  have HC := Lib.hid hc
  clear hc hxe hx
  go_wp2_with (go_at_call 22; refine HC.out.mono ?_; rintro e w6 ⟨rfl, hb6⟩)
  exact HEX.out _ _ rfl rfl rfl rfl rfl rfl rfl ⟨_, _, _, _, (HI5.out.later hb6).more⟩ ((HB5.out.trans (hb6.mono HB5.out.size)).mono HSZ.out)
end Go.Proofs.Ytbadpfcjoobniaa.mvccRuns

namespace Go.Proofs.Ytbadpfcjoobniaa.mvccRuns
open Go.RowKit Go.Maps
attribute [local go_sem] Oper.semAt_some

theorem RdSt.shapes {A : World} {x : RSV} (h : RdSt A x) : ∃ a1 c1 a2 c2 a3 c3, x = ⟨.slice a1 x.s.vs.length c1, .slice a2 x.s.ws.length c2, .slice a3 x.s.es.length c3, x.s⟩ := by
  obtain ⟨vv, wv, ev, s⟩ := x
  obtain ⟨a1, n1, c1, h1, rfl, hm1, -⟩ := (show RdVer3 A vv s.vs from h.vs).at
  obtain ⟨a2, n2, c2, h2, rfl, hm2, -⟩ := (show RdRdy A wv s.ws from h.ws).at
  obtain ⟨a3, n3, c3, h3, rfl, hm3, -⟩ := (show RdEn A ev s.es from h.es).at
  subst h1 h2 h3
  exact ⟨a1, c1, a2, c2, a3, c3, rfl⟩
theorem fin_len {e : EndM} {vs : List Ver3} {ws : List Rdy} (hws : ws.Pairwise (fun x y => x.txn < y.txn)) (hs : ∀ r ∈ ws, Sm r) : (finAll e vs ws).length ≤ vs.length + 20 := by
  by_cases h : ∃ r ∈ ws, r.txn = e.txn
  · obtain ⟨r, hr, he⟩ := h
    rw [finAll_one e vs hws hr he]
    exact Nat.le_trans (finW3_len e r.writes vs) (by have := (hs r hr).ws; omega)
  · rw [finAll_none e ws vs (fun r hr he => h ⟨r, hr, he⟩)]; omega
theorem fin_ok {s : RSt} {e : EndM} {n : Nat} (hws : s.ws.Pairwise (fun x y => x.txn < y.txn)) (h1 : s.ws.length ≤ n) (h2 : s.vs.length ≤ 20 * n) (h3 : s.es.length ≤ n) (hs : ∀ r ∈ s.ws, Sm r) (ho : s.es.Pairwise (fun a c => a.txn ≠ c.txn)) :
    (rnFinish s e).serial = s.serial ∧ (rnFinish s e).bugs = s.bugs ∧ (rnFinish s e).ws.length ≤ n + 1 ∧ (rnFinish s e).vs.length ≤ 20 * (n + 1) ∧ (rnFinish s e).es.length ≤ n + 1 ∧ (∀ r ∈ (rnFinish s e).ws, Sm r) ∧ (rnFinish s e).es.Pairwise (fun a c => a.txn ≠ c.txn) := by
  unfold rnFinish
  split
  · exact ⟨rfl, rfl, by omega, by omega, by omega, hs, ho⟩
  · rename_i hn
    refine ⟨rfl, rfl, ?_, ?_, ?_, ?_, ?_⟩
    · exact Nat.le_trans (List.length_filter_le _ _) (by omega)
    · exact Nat.le_trans (fin_len hws hs) (by omega)
    · simp; exact h3
    · exact fun r hr => hs r (List.mem_filter.1 hr).1
    · refine List.pairwise_append.2 ⟨ho, List.pairwise_singleton _ _, fun a ha c hc => ?_⟩
      rw [List.mem_singleton.1 hc]
      intro he
      exact hn (List.any_eq_true.2 ⟨a, ha, by simpa using he⟩)
theorem fin_R {K K' : KeysL} {R R' : RdyL} {E E' : EndL} {e : EndM} (h : FinM K R E e K' R' E') : R'.length ≤ R.length ∧ ∃ en, getM E' e.txn = some en := by
  rcases h with ⟨h1, rfl, rfl, rfl⟩ | ⟨h1, rfl, rfl, -⟩
  · refine ⟨Nat.le_refl _, ?_⟩
    cases hg : getM E' e.txn with
    | some en => exact ⟨en, rfl⟩
    | none => rw [hg] at h1; cases h1
  · exact ⟨List.length_filter_le _ _, e, by rw [getM_put, if_pos rfl]⟩
theorem once_eq {es : List EndM} (ho : es.Pairwise (fun a c => a.txn ≠ c.txn)) {t : Int} {en y : EndM} (hf : es.find? (fun x => x.txn == t) = some en) (hy : y ∈ es) (ht : y.txn = t) : y = en := by
  have h1 := List.mem_of_find?_eq_some hf
  have h2 := List.find?_some hf
  simp only [beq_iff_eq] at h2
  obtain ⟨i, hi⟩ := List.mem_iff_getElem?.1 hy
  obtain ⟨j, hj⟩ := List.mem_iff_getElem?.1 h1
  obtain ⟨i1, i2⟩ := List.getElem?_eq_some_iff.1 hi
  obtain ⟨j1, j2⟩ := List.getElem?_eq_some_iff.1 hj
  rcases Nat.lt_trichotomy i j with h3 | h3 | h3
  · exact absurd (by rw [i2, j2, h2, ht]) (List.pairwise_iff_getElem.1 ho i j i1 j1 h3)
  · subst h3; rw [hi] at hj; exact Option.some.inj hj
  · exact absurd (by rw [i2, j2, h2, ht]) (List.pairwise_iff_getElem.1 ho j i j1 i1 h3)

set_option maxRecDepth 1000000 in
set_option maxHeartbeats 16000000 in
theorem sw1 {b p mk mr me X bx : Nat} {serial : Bool} {bugs : Int} {n : Nat} {K : KeysL} {R : RdyL} {E : EndL} {x : RSV} {o : Op19} {wv rv : Value} {w0 : World} (wj : World) (f : Nat → Value) (KX : Act → World → Prop) (s0 s1 s2 s9 : Value)
    (hs0 : f 0 = s0) (hs1 : f 1 = s1) (hs2 : f 2 = s2) (e7 : f 7 = .pointer (some ⟨p, 0, none⟩)) (e8 : f 8 = .pointer (some ⟨X, 0, none⟩)) (hs9 : f 9 = s9) (e10 : f 10 = .pointer (some ⟨bx, 0, none⟩)) (e74 : f 74 = vi 1)
    (hS : Stp b p mk mr me X bx serial bugs n K R E x o wv rv w0 wj) (hE : ExitR b p mk mr me X serial bugs n s0 s1 s2 s9 wj KX) : Code.wp Try.prog cSw (OnlyN KX) (frN 357 f) wj := by
  have HEX := Lib.hid hE
  have HI := Lib.hid hS.run
  have HEI := Lib.hid hS.ei
  have hfew := hS.few
  have HX := Lib.hid hS.box
  have HSZ := Lib.hid (show b ≤ wj.heap.size from by have := hS.below.size; have := hS.start; omega)
  have HSM := Lib.hid hS.run.smallR
  have HVL := Lib.hid hS.run.vers
  have hbx : bx ≠ X := fun e => by
    have h1 := hS.box
    rw [e, hS.run.box] at h1
    simp [rsC, op19A] at h1
  have HBX := Lib.hid hbx
  clear hbx
  obtain ⟨ow, onw, ocw, hwv, -, -, -⟩ := hS.rows.ws.at
  obtain ⟨or, onr, ocr, hrv, -, -, -⟩ := hS.rows.rs.at
  simp only at hwv hrv
  subst hwv hrv
  have f6 : wj.cell? ⟨bx, 6, none⟩ = some (vi o.e.txn) := by rw [cell_of HX.out]; rfl
  have f7 : wj.cell? ⟨bx, 7, none⟩ = some (.bool o.e.commit) := by rw [cell_of HX.out]; rfl
  have f8 : wj.cell? ⟨bx, 8, none⟩ = some (vi o.e.at_) := by rw [cell_of HX.out]; rfl
  have hfin := finish_call o.e wj HI.out.st HEI.out.txn HEI.out.at_ HI.out.srt (fun key => Nat.le_trans (HVL.out key) (by omega)) (fun y hy => ⟨Nat.le_trans (HSM.out y hy).ws (by omega), (HSM.out y hy).key⟩)
  have HFIN := Lib.hid hfin
  rw [fr357, hs0, hs1, hs2, e7, e8, hs9, e10, e74]
  clear hE hS hs0 hs1 hs2 e7 e8 hs9 e10 e74 hfin
  conv => arg 2; whnf
  go_upto_region 27 with (go_at_call 14; refine HFIN.out.mono ?_; rintro e w5 ⟨K', R', E', rfl, hF, hM, hT⟩)
  have hsol := hT.solid HI.out.st.maps
  have HSO := Lib.hid hsol
  have HX5 := Lib.hid (hsol _ _ _ _ HX.out)
  have HY5 := Lib.hid (hsol _ _ _ _ HI.out.box)
  have hRD5 := RdSt.solid HI.out.rd hsol
  have HRD5 := Lib.hid hRD5
  have HM5 := Lib.hid hM
  have HT5 := Lib.hid hT
  have HF5 := Lib.hid hF
  have HSIM := Lib.hid (HI.out.sim.fin hF)
  obtain ⟨hRl, en, hen⟩ := fin_R hF
  have HRl := Lib.hid hRl
  have HEN := Lib.hid hen
  have hbB : Below b wj w5 := ⟨hT.os, hT.tape, hT.output, hT.size, fun j hj => hT.block j (Nat.lt_of_lt_of_le hj HSZ.out) (fun hm => by
    simp at hm
    have := HI.out.st.bk
    have := HI.out.st.br
    have := HI.out.st.be
    rcases hm with rfl | rfl | rfl <;> omega)⟩
  have HB5 := Lib.hid hbB
  obtain ⟨a1, c1, a2, c2, a3, c3, hx⟩ := RdSt.shapes hRD5
  clear hsol hRD5 hM hT hF hRl hen hbB f6 f7 f8
  have q0 : w5.cell? ⟨X, 0, none⟩ = some (.bool x.s.serial) := by rw [cell_of HY5.out]; rfl
  have q1 : w5.cell? ⟨X, 1, none⟩ = some (vi x.s.bugs) := by rw [cell_of HY5.out]; rfl
  have q2 : w5.cell? ⟨X, 2, none⟩ = some (.slice a1 x.s.vs.length c1) := by rw [cell_of HY5.out, hx]; rfl
  have q3 : w5.cell? ⟨X, 3, none⟩ = some (.slice a2 x.s.ws.length c2) := by rw [cell_of HY5.out, hx]; rfl
  have q4 : w5.cell? ⟨X, 4, none⟩ = some (.slice a3 x.s.es.length c3) := by rw [cell_of HY5.out, hx]; rfl
  have f6 : w5.cell? ⟨bx, 6, none⟩ = some (vi o.e.txn) := by rw [cell_of HX5.out]; rfl
  have f7 : w5.cell? ⟨bx, 7, none⟩ = some (.bool o.e.commit) := by rw [cell_of HX5.out]; rfl
  have f8 : w5.cell? ⟨bx, 8, none⟩ = some (vi o.e.at_) := by rw [cell_of HX5.out]; rfl
  have hxe : rsV x = .agg #[.bool x.s.serial, vi x.s.bugs, .slice a1 x.s.vs.length c1, .slice a2 x.s.ws.length c2, .slice a3 x.s.es.length c3] := by rw [hx]; rfl
  have hc := rnFinish_call x o.e w5 HRD5.out (by have := HI.out.vlen; omega) (by have := HI.out.wlen; omega) (by have := HI.out.elen; omega) (fun r hr => by have := (HI.out.small r hr).ws; omega)
  rw [hxe] at hc
  have HC := Lib.hid hc
  clear hc hxe hx
  have HFZ := Lib.hid (show ∀ w6, Below w5.heap.size w5 w6 → ∀ j, w6.frozen? ⟨X, j, none⟩ = false from fun w6 h j => free_of ((h.block X (Array.getElem?_eq_some_iff.1 HY5.out).1).trans HY5.out) j)
  go_upto_region 28 with (go_at_call 20; refine HC.out.mono ?_; rintro e w6 ⟨y, rfl, hys, hrd6, hb6⟩; have z0 := HFZ.out _ hb6; obtain ⟨d1, g1, d2, g2, d3, g3, hy⟩ := RdSt.shapes hrd6; have HY := Lib.hid hy; rw [show rsV y = .agg #[.bool y.s.serial, vi y.s.bugs, .slice d1 y.s.vs.length g1, .slice d2 y.s.ws.length g2, .slice d3 y.s.es.length g3] from by rw [hy]; rfl]; have HYS := Lib.hid hys; have HRD6 := Lib.hid hrd6; have HB6 := Lib.hid hb6; have u0 := cell_later hb6 q0; have u1 := cell_later hb6 q1; have u2 := cell_later hb6 q2; have u3 := cell_later hb6 q3; have u4 := cell_later hb6 q4; clear hys hrd6 hb6 hy)
  have hvv : y.vv = .slice d1 y.s.vs.length g1 := congrArg RSV.vv HY.out
  have hvw : y.wv = .slice d2 y.s.ws.length g2 := congrArg RSV.wv HY.out
  have hve : y.ev = .slice d3 y.s.es.length g3 := congrArg RSV.ev HY.out
  have hok := fin_ok (e := o.e) HI.out.sim.ws HI.out.wlen HI.out.vlen HI.out.elen HI.out.small HI.out.once
  rw [← HYS.out] at hok
  obtain ⟨k1, k2, k3, k4, k5, k6, k7⟩ := hok
  have hX6 := (HB6.out.block X (Array.getElem?_eq_some_iff.1 HY5.out).1).trans HY5.out
  have hsb := set_box (y := y) hX6 (HRD5.out.later HB6.out) k1 k2
  rw [hvv, hvw, hve] at hsb
  have hb7 := rn_below5 (W := w6) (b := X) (.bool y.s.serial) (vi y.s.bugs) (.slice d1 y.s.vs.length g1) (.slice d2 y.s.ws.length g2) (.slice d3 y.s.es.length g3) HI.out.bx
  clear z0 u0 u1 u2 u3 u4 q0 q1 q2 q3 q4 f6 f7 f8 hX6
  generalize (((((w6.setCell ⟨X, 0, none⟩ (.bool y.s.serial)).setCell ⟨X, 1, none⟩ (vi y.s.bugs)).setCell ⟨X, 2, none⟩ (.slice d1 y.s.vs.length g1)).setCell ⟨X, 3, none⟩ (.slice d2 y.s.ws.length g2)).setCell ⟨X, 4, none⟩ (.slice d3 y.s.es.length g3)) = w7 at *
  have HT7 := Lib.hid hsb.1
  have HX6 := (HB6.out.block bx (Array.getElem?_eq_some_iff.1 HX5.out).1).trans HX5.out
  have HX7 := Lib.hid ((hsb.1.other bx HBX.out).trans HX6)
  have hbj : Below b wj w6 := HB5.out.trans (HB6.out.mono (Nat.le_trans HSZ.out HB5.out.size))
  have HB7 := Lib.hid (hbj.trans hb7)
  have hrun : RunI b p mk mr me X serial bugs (n + 1) K' R' E' y w7 :=
    ⟨hsb.1.mvs HI.out.p_ne (HM5.out.later HB6.out), by rw [HYS.out]; exact HSIM.out, hsb.2, hsb.1.rdst HRD6.out, k1.trans HI.out.ser, k2.trans HI.out.bg, by have := HRl.out; have := HI.out.rlen; omega, k3, k4, k5, k6, k7, HI.out.bx⟩
  have HR7 := Lib.hid hrun
  have hec : Calls Try.prog 21 #[.pointer (some ⟨p, 0, none⟩), vi o.e.txn] w7 fun e w' => e = .returned (.tuple #[.agg #[vi en.txn, .bool en.commit, vi en.at_], .bool true]) ∧ Below w7.heap.size w7 w' :=
    (ended_call o.e.txn w7 hrun.st HEI.out.txn).mono fun e w' hq => by rw [HEN.out] at hq; exact hq
  have HEC := Lib.hid hec
  have f6 : w7.cell? ⟨bx, 6, none⟩ = some (vi o.e.txn) := by rw [cell_of HX7.out]; rfl
  have HVE := Lib.hid hve
  clear hvv hvw hve k1 k2 k3 k4 k5 k6 k7 hsb hb7 HX6 hbj hrun hec
  go_upto_region 31 with (go_at_call 21; refine HEC.out.mono ?_; rintro e w8 ⟨rfl, hb8⟩; have HB8 := Lib.hid hb8; clear hb8)
  have HB9 := Lib.hid (HB8.out.alloc HB8.out.size (.cells #[vi en.txn, .bool en.commit, vi en.at_] 31))
  have hA9 := alloc_at w8 (.cells #[vi en.txn, .bool en.commit, vi en.at_] 31)
  clear f6
  generalize w8.alloc (.cells #[vi en.txn, .bool en.commit, vi en.at_] 31) = w9 at *
  generalize w8.heap.size = Z at *
  have HA9 := Lib.hid hA9
  have hZl := (Array.getElem?_eq_some_iff.1 hA9).1
  have HR9 := Lib.hid (HR7.out.later HB9.out)
  have HX9 := Lib.hid ((HB9.out.block bx (Array.getElem?_eq_some_iff.1 HX7.out).1).trans HX7.out)
  have x4 : w9.cell? ⟨X, 4, none⟩ = some (.slice d3 y.s.es.length g3) := by rw [cell_of HR9.out.box, ← HVE.out]; rfl
  have hbx9 := (Array.getElem?_eq_some_iff.1 HX9.out).1
  have hel : y.s.es.length ≤ n + 1 := HR9.out.elen
  have HFIND := Lib.hid (show y.s.es.find? (fun x => x.txn == o.e.txn) = some en from by rw [← HR9.out.sim.e, HEN.out])
  clear hA9
  go_wp2_with fail
  refine wp_loopF 357 (fun m g wr => g 0 = s0 ∧ g 1 = s1 ∧ g 2 = s2 ∧ g 7 = .pointer (some ⟨p, 0, none⟩) ∧ g 8 = .pointer (some ⟨X, 0, none⟩) ∧ g 9 = s9 ∧ g 10 = .pointer (some ⟨bx, 0, none⟩) ∧ g 18 = .pointer (some ⟨Z, 0, none⟩) ∧ g 155 = .slice d3 y.s.es.length g3 ∧ g 156 = .int .i64 y.s.es.length ∧
    ∃ j : Nat, j ≤ y.s.es.length ∧ m = y.s.es.length - j ∧ g 157 = .int .i64 j ∧ Below w9.heap.size w9 wr) _ rfl y.s.es.length ?start ?round
  case start => exact ⟨rfl, rfl, rfl, rfl, rfl, rfl, rfl, rfl, rfl, rfl, 0, Nat.zero_le _, rfl, rfl, Below.refl _ _⟩
  case round =>
    rintro gm h wr ⟨h0, h1, h2, h7, h8, h9, h10, h18, h155, h156, j, hj, hgm, h157, hbr⟩ JJ KK HJ HK
    have HBR := Lib.hid hbr
    have HJJ := Lib.hid HJ
    have HGM := Lib.hid hgm
    rw [fr357, h0, h1, h2, h7, h8, h9, h10, h18, h155, h156, h157]
    clear hbr HJ hgm h0 h1 h2 h7 h8 h9 h10 h18 h155 h156 h157 x4
    by_cases hjl : j < y.s.es.length
    · have hjI : (j : Int) < (y.s.es.length : Int) := by omega
      obtain ⟨q, hq⟩ := some_at hjl
      have hre : RdEn wr (.slice d3 y.s.es.length g3) y.s.es := by rw [← HVE.out]; exact (HR9.out.later HBR.out).rd.es
      obtain ⟨gq, oq, rfl, c0, c1, c2⟩ := hre.el hq
      have hsr := HBR.out.size
      have HB10 := Lib.hid (HBR.out.alloc hsr (.cells #[vi q.txn, .bool q.commit, vi q.at_] 61))
      have hA10 := alloc_at wr (.cells #[vi q.txn, .bool q.commit, vi q.at_] 61)
      have HQ := Lib.hid (List.mem_of_getElem? hq)
      clear hre hq
      go_upto_region 34 with fail
      generalize wr.alloc (.cells #[vi q.txn, .bool q.commit, vi q.at_] 61) = w10 at *
      have d0 : w10.cell? ⟨wr.heap.size, 0, none⟩ = some (vi q.txn) := by rw [cell_of hA10]; rfl
      have d1 : w10.cell? ⟨wr.heap.size, 1, none⟩ = some (.bool q.commit) := by rw [cell_of hA10]; rfl
      have d2 : w10.cell? ⟨wr.heap.size, 2, none⟩ = some (vi q.at_) := by rw [cell_of hA10]; rfl
      have hX10 := (HB10.out.block bx hbx9).trans HX9.out
      have hZ10 := (HB10.out.block Z hZl).trans HA9.out
      have f6 : w10.cell? ⟨bx, 6, none⟩ = some (vi o.e.txn) := by rw [cell_of hX10]; rfl
      have z0 : w10.cell? ⟨Z, 0, none⟩ = some (vi en.txn) := by rw [cell_of hZ10]; rfl
      have z1 : w10.cell? ⟨Z, 1, none⟩ = some (.bool en.commit) := by rw [cell_of hZ10]; rfl
      have z2 : w10.cell? ⟨Z, 2, none⟩ = some (vi en.at_) := by rw [cell_of hZ10]; rfl
      clear hA10 hX10 hZ10 c0 c1 c2
      cases ht : (q.txn == o.e.txn) with
      | false =>
        go_wp2_with fail
        refine Handed.intro (y.s.es.length - (j + 1)) (by rw [HGM.out]; omega) (HJJ.out _ _ _ rfl ⟨rfl, rfl, rfl, rfl, rfl, rfl, rfl, rfl, rfl, rfl, j + 1, by omega, rfl, ?_, HB10.out⟩)
        show Value.int .i64 _ = _
        go_num
      | true =>
        obtain rfl := once_eq HR9.out.once HFIND.out HQ.out (by simpa using ht)
        go_wp2_with fail
        refine Handed.intro (y.s.es.length - (j + 1)) (by rw [HGM.out]; omega) (HJJ.out _ _ _ rfl ⟨rfl, rfl, rfl, rfl, rfl, rfl, rfl, rfl, rfl, rfl, j + 1, by omega, rfl, ?_, HB10.out⟩)
        show Value.int .i64 _ = _
        go_num
    · have hjI : ¬ ((j : Int) < (y.s.es.length : Int)) := by omega
      go_wp2_with fail
      have hb9 : Below wj.heap.size w7 w9 := HB9.out.mono HB7.out.size
      have hbr9 : Below wj.heap.size w9 wr := HBR.out.mono (Nat.le_trans HB7.out.size HB9.out.size)
      exact HEX.out _ _ rfl rfl rfl rfl rfl rfl rfl ⟨_, _, _, _, HR9.out.later HBR.out⟩ (HB7.out.trans ((hb9.trans hbr9).mono HSZ.out))
end Go.Proofs.Ytbadpfcjoobniaa.mvccRuns

namespace Go.Proofs.Ytbadpfcjoobniaa
open Go.RowKit Go.Maps

set_option maxRecDepth 100000 in
set_option maxHeartbeats 8000000 in
theorem ready_call (x : RV) (w : World) (hv : ∃ a c a' c', x.wv = .slice a x.r.writes.length c ∧ x.rv = .slice a' x.r.reads.length c') :
    Calls Try.prog 19 #[rdyV x] w fun e w' => e = .returned (rdyV x) ∧ Below w.heap.size w w' := by
  obtain ⟨wv, rv, r⟩ := x
  obtain ⟨a, c, a', c', h1, h2⟩ := hv
  simp only at h1 h2
  subst h1 h2
  unfold rdyV rdyC
  go_enter Try.func19, Try.ntmps19
  go_wp2_with fail
  refine bodyPost_ret (v := rdyV ⟨.slice a r.writes.length c, .slice a' r.reads.length c', r⟩) (by simp [results, Try.results19, go_sem, rdyV, rdyC]) rfl ⟨rfl, ?_⟩
  exact ((Below.refl _ _).alloc (Nat.le_refl _) _).alloc (by simp) _

set_option maxRecDepth 100000 in
set_option maxHeartbeats 8000000 in
theorem same_call (x y : RV) (w : World) (hx : RdyS w x) (hy : RdyS w y) (he : x.r = y.r) :
    Calls Try.prog 23 #[rdyV x, rdyV y] w fun e w' => e = .returned (.bool true) ∧ Below w.heap.size w w' := by
  obtain ⟨wv, rv, r⟩ := x
  obtain ⟨wv', rv', r'⟩ := y
  simp only at he
  subst he
  obtain ⟨aw, nw, cw, hwv, rfl, hmw, -⟩ := (show RdOps w wv r.writes from hx.ws).at
  obtain ⟨ar, nr, cr, hrv, rfl, hmr, -⟩ := (show RdInts w rv r.reads from hx.rs).at
  obtain ⟨aw', nw, cw', hwv', rfl, -, -⟩ := (show RdOps w wv' r.writes from hy.ws).at
  obtain ⟨ar', nr, cr', hrv', rfl, -, -⟩ := (show RdInts w rv' r.reads from hy.rs).at
  subst hwv hrv hwv' hrv'
  have HX := Lib.hid hx
  have HY := Lib.hid hy
  clear hx hy
  have HB := Lib.hid (show Below w.heap.size w ((w.alloc (.cells (rdyC ⟨.slice aw r.writes.length cw, .slice ar r.reads.length cr, r⟩) 29)).alloc (.cells (rdyC ⟨.slice aw' r.writes.length cw', .slice ar' r.reads.length cr', r⟩) 58)) from ((Below.refl _ _).alloc (Nat.le_refl _) _).alloc (by simp) _)
  have HA : ((w.alloc (.cells (rdyC ⟨.slice aw r.writes.length cw, .slice ar r.reads.length cr, r⟩) 29)).alloc (.cells (rdyC ⟨.slice aw' r.writes.length cw', .slice ar' r.reads.length cr', r⟩) 58)).heap[w.heap.size]? = some (.cells (rdyC ⟨.slice aw r.writes.length cw, .slice ar r.reads.length cr, r⟩) 29) := (Below.heap_alloc _ _ _ (by simp)).trans (alloc_at w _)
  have HC : ((w.alloc (.cells (rdyC ⟨.slice aw r.writes.length cw, .slice ar r.reads.length cr, r⟩) 29)).alloc (.cells (rdyC ⟨.slice aw' r.writes.length cw', .slice ar' r.reads.length cr', r⟩) 58)).heap[w.heap.size + 1]? = some (.cells (rdyC ⟨.slice aw' r.writes.length cw', .slice ar' r.reads.length cr', r⟩) 58) := by
    have := alloc_at (w.alloc (.cells (rdyC ⟨.slice aw r.writes.length cw, .slice ar r.reads.length cr, r⟩) 29)) (.cells (rdyC ⟨.slice aw' r.writes.length cw', .slice ar' r.reads.length cr', r⟩) 58)
    simpa using this
  have HA := Lib.hid HA
  have HC := Lib.hid HC
  unfold rdyV rdyC at *
  simp only at HA HC HB
  go_enter Try.func23, Try.ntmps23
  go_upto_region 1 with fail
  generalize ((w.alloc (.cells #[vi r.txn, vi r.home, vi r.start, .slice aw r.writes.length cw, .slice ar r.reads.length cr] 29)).alloc (.cells #[vi r.txn, vi r.home, vi r.start, .slice aw' r.writes.length cw', .slice ar' r.reads.length cr'] 58)) = w1 at *
  obtain ⟨X, hX⟩ : ∃ X, X = w.heap.size := ⟨_, rfl⟩
  rw [← hX] at HA HC ⊢
  have HXE := Lib.hid hX
  have hXl : X + 1 < w1.heap.size := (Array.getElem?_eq_some_iff.1 HC.out).1
  clear hX
  have HCX := Lib.hid (show ∀ W, Below w1.heap.size w1 W → W.heap[X]? = some (.cells #[vi r.txn, vi r.home, vi r.start, .slice aw r.writes.length cw, .slice ar r.reads.length cr] 29) ∧ W.heap[X + 1]? = some (.cells #[vi r.txn, vi r.home, vi r.start, .slice aw' r.writes.length cw', .slice ar' r.reads.length cr'] 58) from
    fun W hW => ⟨(hW.block X (by omega)).trans HA.out, (hW.block (X + 1) hXl).trans HC.out⟩)
  have a0 : w1.cell? ⟨X, 0, none⟩ = some (vi r.txn) := by rw [cell_of HA.out]; rfl
  have a1 : w1.cell? ⟨X, 1, none⟩ = some (vi r.home) := by rw [cell_of HA.out]; rfl
  have a2 : w1.cell? ⟨X, 2, none⟩ = some (vi r.start) := by rw [cell_of HA.out]; rfl
  have a3 : w1.cell? ⟨X, 3, none⟩ = some (.slice aw r.writes.length cw) := by rw [cell_of HA.out]; rfl
  have a4 : w1.cell? ⟨X, 4, none⟩ = some (.slice ar r.reads.length cr) := by rw [cell_of HA.out]; rfl
  have b0 : w1.cell? ⟨X + 1, 0, none⟩ = some (vi r.txn) := by rw [cell_of HC.out]; rfl
  have b1 : w1.cell? ⟨X + 1, 1, none⟩ = some (vi r.home) := by rw [cell_of HC.out]; rfl
  have b2 : w1.cell? ⟨X + 1, 2, none⟩ = some (vi r.start) := by rw [cell_of HC.out]; rfl
  have b3 : w1.cell? ⟨X + 1, 3, none⟩ = some (.slice aw' r.writes.length cw') := by rw [cell_of HC.out]; rfl
  have b4 : w1.cell? ⟨X + 1, 4, none⟩ = some (.slice ar' r.reads.length cr') := by rw [cell_of HC.out]; rfl
  go_wp2_with fail
  go_loopw [47] (fun i wr => ∃ k : Nat, k ≤ r.writes.length ∧ i = vi k ∧ Hid (Below w1.heap.size w1 wr)) (fun i _ => r.writes.length - (intOf i).toNat)
  case atStart => exact ⟨0, Nat.zero_le _, rfl, Lib.hid (Below.refl _ _)⟩
  case round =>
    obtain ⟨wj, rfl⟩ : ∃ wj : World, wj = wr := ⟨_, rfl⟩
    obtain ⟨k, hk, rfl, HJ⟩ := hrel
    clear a0 a1 a2 a3 a4 b0 b1 b2 b3 b4
    by_cases hlt : k < r.writes.length
    · have k1 : decide ((k : Int) < r.writes.length) = true := decide_eq_true (by omega)
      have k2 : (k : Int) < r.writes.length := by omega
      have hwk : IntKind.i64.wrap ((k : Int) + 1) = (k : Int) + 1 := IntWalk.i64_in _ (by omega)
      have a3 : wj.cell? ⟨X, 3, none⟩ = some (.slice aw r.writes.length cw) := by rw [cell_of (HCX.out wj HJ.out).1]; rfl
      have b3 : wj.cell? ⟨X + 1, 3, none⟩ = some (.slice aw' r.writes.length cw') := by rw [cell_of (HCX.out wj HJ.out).2]; rfl
      obtain ⟨o, ho⟩ := some_at hlt
      have HWJ := Lib.hid (HB.out.trans (HJ.out.mono (by have := HB.out.size; omega)))
      obtain ⟨_, _, _, he, _, _, hc⟩ := (show RdOps wj (.slice aw r.writes.length cw) r.writes from (HX.out.later HWJ.out).ws).at
      obtain ⟨g, off, ha, c0, c1, c2⟩ := hc k o ho
      simp only [Value.slice.injEq] at he
      obtain ⟨rfl, -, -⟩ := he
      subst ha
      obtain ⟨_, _, _, he, _, _, hc'⟩ := (show RdOps wj (.slice aw' r.writes.length cw') r.writes from (HY.out.later HWJ.out).ws).at
      obtain ⟨g', off', ha, d0, d1, d2⟩ := hc' k o ho
      simp only [Value.slice.injEq] at he
      obtain ⟨rfl, -, -⟩ := he
      subst ha
      clear hc hc' ho
      go_wp2_with fail
      go_quiet (fail)
      go_wp2_with fail
      exact ⟨⟨k + 1, by omega, by go_num, Lib.hid (HJ.out.trans ⟨rfl, rfl, rfl, Nat.le_refl _, fun _ _ => rfl⟩)⟩, by simp only [intOf]; omega⟩
    · have k1 : decide ((k : Int) < r.writes.length) = false := decide_eq_false (by omega)
      have a4 : wj.cell? ⟨X, 4, none⟩ = some (.slice ar r.reads.length cr) := by rw [cell_of (HCX.out wj HJ.out).1]; rfl
      go_wp2_with fail
      go_loopw [65] (fun i wr => ∃ k : Nat, k ≤ r.reads.length ∧ i = vi k ∧ Hid (Below w1.heap.size w1 wr)) (fun i _ => r.reads.length - (intOf i).toNat)
      case atStart => exact ⟨0, Nat.zero_le _, rfl, Lib.hid HJ.out⟩
      case round =>
        obtain ⟨wq, rfl⟩ : ∃ wq : World, wq = wr := ⟨_, rfl⟩
        obtain ⟨q, hq, rfl, HQ⟩ := hrel
        clear a4
        have HWQ := Lib.hid (HB.out.trans (HQ.out.mono (by have := HB.out.size; omega)))
        by_cases hlt2 : q < r.reads.length
        · have k1 : decide ((q : Int) < r.reads.length) = true := decide_eq_true (by omega)
          have k2 : (q : Int) < r.reads.length := by omega
          have hwk : IntKind.i64.wrap ((q : Int) + 1) = (q : Int) + 1 := IntWalk.i64_in _ (by omega)
          have a4 : wq.cell? ⟨X, 4, none⟩ = some (.slice ar r.reads.length cr) := by rw [cell_of (HCX.out wq HQ.out).1]; rfl
          have b4 : wq.cell? ⟨X + 1, 4, none⟩ = some (.slice ar' r.reads.length cr') := by rw [cell_of (HCX.out wq HQ.out).2]; rfl
          obtain ⟨o, ho⟩ := some_at hlt2
          obtain ⟨_, _, _, he, _, _, hc⟩ := (show RdInts wq (.slice ar r.reads.length cr) r.reads from (HX.out.later HWQ.out).rs).at
          obtain ⟨g, off, ha, c0, -⟩ := hc q o ho
          simp only [Value.slice.injEq] at he
          obtain ⟨rfl, -, -⟩ := he
          subst ha
          obtain ⟨_, _, _, he, _, _, hc'⟩ := (show RdInts wq (.slice ar' r.reads.length cr') r.reads from (HY.out.later HWQ.out).rs).at
          obtain ⟨g', off', ha, d0, -⟩ := hc' q o ho
          simp only [Value.slice.injEq] at he
          obtain ⟨rfl, -, -⟩ := he
          subst ha
          clear hc hc' ho
          go_wp2_with fail
          go_quiet (fail)
          go_wp2_with fail
          exact ⟨⟨q + 1, by omega, by go_num, Lib.hid (HQ.out.trans ⟨rfl, rfl, rfl, Nat.le_refl _, fun _ _ => rfl⟩)⟩, by simp only [intOf]; omega⟩
        · have k1 : decide ((q : Int) < r.reads.length) = false := decide_eq_false (by omega)
          go_wp2_with fail
          go_ret
          exact ⟨rfl, HWQ.out⟩
end Go.Proofs.Ytbadpfcjoobniaa

namespace Go.Proofs.Ytbadpfcjoobniaa.mvccRuns
open Go.RowKit Go.Maps
attribute [local go_sem] Oper.semAt_some

theorem prep_ok {s : RSt} {r : Rdy} {n : Nat} (h1 : s.ws.length ≤ n) (hs : ∀ q ∈ s.ws, Sm q) (hr : Sm r) :
    (rnPrepV s r).1.serial = s.serial ∧ (rnPrepV s r).1.bugs = s.bugs ∧ (rnPrepV s r).1.ws.length ≤ n + 1 ∧ (rnPrepV s r).1.vs = s.vs ∧ (rnPrepV s r).1.es = s.es ∧ (∀ q ∈ (rnPrepV s r).1.ws, Sm q) := by
  unfold rnPrepV
  repeat' split
  all_goals first
    | exact ⟨rfl, rfl, Nat.le_succ_of_le h1, rfl, rfl, hs⟩
    | (refine ⟨rfl, rfl, ?_, rfl, rfl, fun q hq => ?_⟩
       · show (insR s.ws r).length ≤ n + 1
         rw [insR_eq, insW_len]; omega
       · have hq' : q ∈ insR s.ws r := hq
         rw [insR_eq] at hq'
         rcases (insW_mem r q s.ws).1 hq' with rfl | h
         · exact hr
         · exact hs q h)
theorem prep_R {K : KeysL} {R R' : RdyL} {E : EndL} {serial : Bool} {bugs by_ err : Int} {r : Rdy} (h : PrepM serial bugs K R E r by_ err R') : R'.length ≤ R.length + 1 := by
  rcases h with ⟨_, _, _, rfl⟩ | ⟨_, _, _, _, rfl⟩ | ⟨_, _, _, _, _, rfl⟩ | ⟨_, _, _, _, id, ok, _, h2⟩
  · omega
  · omega
  · omega
  · rcases h2 with ⟨_, _, _, _, rfl⟩ | ⟨_, _, _, wv, rv, rfl⟩
    · omega
    · rw [putM_length]; split <;> omega
theorem rn_oth5 {W : World} {b j : Nat} {v0 v1 v2 v3 v4 : Value} (hj : j ≠ b) : (((((W.setCell ⟨b, 0, none⟩ v0).setCell ⟨b, 1, none⟩ v1).setCell ⟨b, 2, none⟩ v2).setCell ⟨b, 3, none⟩ v3).setCell ⟨b, 4, none⟩ v4).heap[j]? = W.heap[j]? := by
  rw [Below.heap_setCell _ _ _ _ hj, Below.heap_setCell _ _ _ _ hj, Below.heap_setCell _ _ _ _ hj, Below.heap_setCell _ _ _ _ hj, Below.heap_setCell _ _ _ _ hj]
theorem below_tr {wS W w7 : World} (h : Below wS.heap.size wS W) (k : Below W.heap.size W w7) : Below wS.heap.size wS w7 := h.trans (k.mono h.size)
theorem box20 {wS W : World} {b : Nat} {y : RSV} {d1 d2 d3 : Option Addr} {g1 g2 g3 : Nat} (hZ : W.heap[b]? = some (.cells #[.bool false, vi 0, .slice none 0 0, .slice none 0 0, .slice none 0 0] 53)) (hb : Below wS.heap.size wS W) (hge : wS.heap.size ≤ b)
    (hy : y = ⟨.slice d1 y.s.vs.length g1, .slice d2 y.s.ws.length g2, .slice d3 y.s.es.length g3, y.s⟩) (hrd : ∀ W' : World, (∀ j, j ≠ b → W'.heap[j]? = W.heap[j]?) → RdSt W' y) :
    (((((W.setCell ⟨b, 0, none⟩ (.bool y.s.serial)).setCell ⟨b, 1, none⟩ (vi y.s.bugs)).setCell ⟨b, 2, none⟩ (.slice d1 y.s.vs.length g1)).setCell ⟨b, 3, none⟩ (.slice d2 y.s.ws.length g2)).setCell ⟨b, 4, none⟩ (.slice d3 y.s.es.length g3)).heap[b]? = some (.cells (rsC y) 53) ∧
    RdSt (((((W.setCell ⟨b, 0, none⟩ (.bool y.s.serial)).setCell ⟨b, 1, none⟩ (vi y.s.bugs)).setCell ⟨b, 2, none⟩ (.slice d1 y.s.vs.length g1)).setCell ⟨b, 3, none⟩ (.slice d2 y.s.ws.length g2)).setCell ⟨b, 4, none⟩ (.slice d3 y.s.es.length g3)) y ∧
    Below wS.heap.size wS (((((W.setCell ⟨b, 0, none⟩ (.bool y.s.serial)).setCell ⟨b, 1, none⟩ (vi y.s.bugs)).setCell ⟨b, 2, none⟩ (.slice d1 y.s.vs.length g1)).setCell ⟨b, 3, none⟩ (.slice d2 y.s.ws.length g2)).setCell ⟨b, 4, none⟩ (.slice d3 y.s.es.length g3)) ∧ wS.heap.size ≤ b := by
  refine ⟨?_, hrd _ (fun j hj => rn_oth5 hj), hb.trans (rn_below5 _ _ _ _ _ hge), hge⟩
  rw [rn_set5 (.bool y.s.serial) (vi y.s.bugs) (.slice d1 y.s.vs.length g1) (.slice d2 y.s.ws.length g2) (.slice d3 y.s.es.length g3) hZ]
  conv => rhs; rw [hy]
  rfl
theorem boxAC {wS w7 w8 : World} {y : RSV} {d1 d2 d3 : Option Addr} {g1 g2 g3 : Nat} (h7 : w7.heap[wS.heap.size]? = some (.cells #[.bool false, vi 0, .slice none 0 0, .slice none 0 0, .slice none 0 0] 53)) (hb7 : Below wS.heap.size wS w7) (hb8 : Below w7.heap.size w7 w8) (hy : y = ⟨.slice d1 y.s.vs.length g1, .slice d2 y.s.ws.length g2, .slice d3 y.s.es.length g3, y.s⟩) (hk : ∀ W' : World, (∀ j, (j < wS.heap.size ∨ w7.heap.size ≤ j) → W'.heap[j]? = w8.heap[j]?) → RdSt W' y) : (((((w8.setCell ⟨wS.heap.size, 0, none⟩ (.bool y.s.serial)).setCell ⟨wS.heap.size, 1, none⟩ (vi y.s.bugs)).setCell ⟨wS.heap.size, 2, none⟩ (.slice d1 y.s.vs.length g1)).setCell ⟨wS.heap.size, 3, none⟩ (.slice d2 y.s.ws.length g2)).setCell ⟨wS.heap.size, 4, none⟩ (.slice d3 y.s.es.length g3)).heap[wS.heap.size]? = some (.cells (rsC y) 53) ∧ RdSt (((((w8.setCell ⟨wS.heap.size, 0, none⟩ (.bool y.s.serial)).setCell ⟨wS.heap.size, 1, none⟩ (vi y.s.bugs)).setCell ⟨wS.heap.size, 2, none⟩ (.slice d1 y.s.vs.length g1)).setCell ⟨wS.heap.size, 3, none⟩ (.slice d2 y.s.ws.length g2)).setCell ⟨wS.heap.size, 4, none⟩ (.slice d3 y.s.es.length g3)) y ∧ Below wS.heap.size wS (((((w8.setCell ⟨wS.heap.size, 0, none⟩ (.bool y.s.serial)).setCell ⟨wS.heap.size, 1, none⟩ (vi y.s.bugs)).setCell ⟨wS.heap.size, 2, none⟩ (.slice d1 y.s.vs.length g1)).setCell ⟨wS.heap.size, 3, none⟩ (.slice d2 y.s.ws.length g2)).setCell ⟨wS.heap.size, 4, none⟩ (.slice d3 y.s.es.length g3)) ∧ wS.heap.size ≤ wS.heap.size := by
  have hlt := (Array.getElem?_eq_some_iff.1 h7).1
  exact box20 ((hb8.block _ hlt).trans h7) (below_tr hb7 hb8) (Nat.le_refl _) hy (fun W' hW => hk W' (fun j hj => hW j (by omega)))
theorem boxA {wS w8 : World} {y : RSV} {d1 d2 d3 : Option Addr} {g1 g2 g3 : Nat} (hb8 : Below wS.heap.size wS w8) (hy : y = ⟨.slice d1 y.s.vs.length g1, .slice d2 y.s.ws.length g2, .slice d3 y.s.es.length g3, y.s⟩) (hr : RdSt w8 y) :
    (w8.alloc (.cells #[.bool y.s.serial, vi y.s.bugs, .slice d1 y.s.vs.length g1, .slice d2 y.s.ws.length g2, .slice d3 y.s.es.length g3] 53)).heap[w8.heap.size]? = some (.cells (rsC y) 53) ∧ RdSt (w8.alloc (.cells #[.bool y.s.serial, vi y.s.bugs, .slice d1 y.s.vs.length g1, .slice d2 y.s.ws.length g2, .slice d3 y.s.es.length g3] 53)) y ∧ Below wS.heap.size wS (w8.alloc (.cells #[.bool y.s.serial, vi y.s.bugs, .slice d1 y.s.vs.length g1, .slice d2 y.s.ws.length g2, .slice d3 y.s.es.length g3] 53)) ∧ wS.heap.size ≤ w8.heap.size := by
  refine ⟨?_, hr.later ((Below.refl _ _).alloc (Nat.le_refl _) _), below_al hb8, hb8.size⟩
  rw [alloc_at]
  conv => rhs; rw [hy]
  rfl
theorem boxAB {wS w7 w8 : World} {y : RSV} {d1 d2 d3 : Option Addr} {g1 g2 g3 : Nat} (hb7 : Below wS.heap.size wS w7) (hB : Below wS.heap.size wS w8) (hb8 : Below (w7.alloc (.cells #[.bool false, vi 0, .slice none 0 0, .slice none 0 0, .slice none 0 0] 53)).heap.size (w7.alloc (.cells #[.bool false, vi 0, .slice none 0 0, .slice none 0 0, .slice none 0 0] 53)) w8) (hy : y = ⟨.slice d1 y.s.vs.length g1, .slice d2 y.s.ws.length g2, .slice d3 y.s.es.length g3, y.s⟩) (hk : ∀ W' : World, (∀ j, (j < wS.heap.size ∨ (w7.alloc (.cells #[.bool false, vi 0, .slice none 0 0, .slice none 0 0, .slice none 0 0] 53)).heap.size ≤ j) → W'.heap[j]? = w8.heap[j]?) → RdSt W' y) : (((((w8.setCell ⟨w7.heap.size, 0, none⟩ (.bool y.s.serial)).setCell ⟨w7.heap.size, 1, none⟩ (vi y.s.bugs)).setCell ⟨w7.heap.size, 2, none⟩ (.slice d1 y.s.vs.length g1)).setCell ⟨w7.heap.size, 3, none⟩ (.slice d2 y.s.ws.length g2)).setCell ⟨w7.heap.size, 4, none⟩ (.slice d3 y.s.es.length g3)).heap[w7.heap.size]? = some (.cells (rsC y) 53) ∧ RdSt (((((w8.setCell ⟨w7.heap.size, 0, none⟩ (.bool y.s.serial)).setCell ⟨w7.heap.size, 1, none⟩ (vi y.s.bugs)).setCell ⟨w7.heap.size, 2, none⟩ (.slice d1 y.s.vs.length g1)).setCell ⟨w7.heap.size, 3, none⟩ (.slice d2 y.s.ws.length g2)).setCell ⟨w7.heap.size, 4, none⟩ (.slice d3 y.s.es.length g3)) y ∧ Below wS.heap.size wS (((((w8.setCell ⟨w7.heap.size, 0, none⟩ (.bool y.s.serial)).setCell ⟨w7.heap.size, 1, none⟩ (vi y.s.bugs)).setCell ⟨w7.heap.size, 2, none⟩ (.slice d1 y.s.vs.length g1)).setCell ⟨w7.heap.size, 3, none⟩ (.slice d2 y.s.ws.length g2)).setCell ⟨w7.heap.size, 4, none⟩ (.slice d3 y.s.es.length g3)) ∧ wS.heap.size ≤ w7.heap.size := by
  have hz := hb7.size
  refine box20 ((hb8.block _ (by simp)).trans (heap_top rfl)) hB hz hy (fun W' hW => hk W' (fun j hj => hW j ?_))
  rw [size_al] at hj; omega
theorem zs_cells {W : World} {b : Nat} (h : W.heap[b]? = some (.cells #[.bool false, vi 0, .slice none 0 0, .slice none 0 0, .slice none 0 0] 53)) : W.cell? ⟨b, 0, none⟩ = some (.bool false) ∧ W.cell? ⟨b, 1, none⟩ = some (vi 0) ∧ W.cell? ⟨b, 2, none⟩ = some (.slice none 0 0) ∧ W.cell? ⟨b, 3, none⟩ = some (.slice none 0 0) ∧ W.cell? ⟨b, 4, none⟩ = some (.slice none 0 0) ∧ ∀ j, W.frozen? ⟨b, j, none⟩ = false :=
  ⟨by rw [cell_of h]; rfl, by rw [cell_of h]; rfl, by rw [cell_of h]; rfl, by rw [cell_of h]; rfl, by rw [cell_of h]; rfl, fun j => free_of h j⟩
theorem heapAC {wS w7 w8 : World} {o : Obj} (h7 : w7.heap[wS.heap.size]? = some o) (hb8 : Below w7.heap.size w7 w8) : w8.heap[wS.heap.size]? = some o := (hb8.block _ (Array.getElem?_eq_some_iff.1 h7).1).trans h7
theorem heapAB {w7 w8 : World} {o : Obj} (hb8 : Below (w7.alloc o).heap.size (w7.alloc o) w8) : w8.heap[w7.heap.size]? = some o := (hb8.block _ (by simp)).trans (heap_top rfl)
noncomputable def cMv20 : Code := (Try.f6.body.bind (regionOf 20)).getD .skip

set_option maxRecDepth 1000000 in
set_option maxHeartbeats 16000000 in
theorem reg20 {X bx : Nat} {a1 a2 a3 ow or_ : Option Addr} {c1 c2 c3 cw cr : Nat} {s : RSt} {o : Op19} (wS : World) (f : Nat → Value) (KX : Act → World → Prop) (by_ err : Int)
    (hX : wS.heap[X]? = some (.cells #[.bool s.serial, vi s.bugs, .slice a1 s.vs.length c1, .slice a2 s.ws.length c2, .slice a3 s.es.length c3] 53)) (hx : RdSt wS ⟨.slice a1 s.vs.length c1, .slice a2 s.ws.length c2, .slice a3 s.es.length c3, s⟩)
    (hB : wS.heap[bx]? = some (.cells (op19A o (.slice ow o.r.writes.length cw) (.slice or_ o.r.reads.length cr)) 33)) (hr : RdyS wS ⟨.slice ow o.r.writes.length cw, .slice or_ o.r.reads.length cr, o.r⟩)
    (hbg : 0 ≤ s.bugs ∧ s.bugs ≤ 63) (hl : s.ws.length ≤ 1000 ∧ o.r.writes.length ≤ 1000 ∧ o.r.reads.length ≤ 1000) (hv : (rnPrepV s o.r).2 = (by_, err))
    (e8 : f 8 = .pointer (some ⟨X, 0, none⟩)) (e10 : f 10 = .pointer (some ⟨bx, 0, none⟩))
    (hK : ∀ (l : List Value) (wx : World) (b15 : Nat) (y : RSV), l.length = 357 → slotsOf l 0 = f 0 ∧ slotsOf l 1 = f 1 ∧ slotsOf l 2 = f 2 ∧ slotsOf l 7 = f 7 ∧ slotsOf l 8 = .pointer (some ⟨X, 0, none⟩) ∧ slotsOf l 9 = f 9 ∧ slotsOf l 10 = .pointer (some ⟨bx, 0, none⟩) ∧ slotsOf l 12 = f 12 ∧ slotsOf l 13 = f 13 ∧ slotsOf l 15 = .pointer (some ⟨b15, 0, none⟩) ∧ slotsOf l 16 = vi by_ ∧ slotsOf l 17 = vi err →
      (wx.heap[b15]? = some (.cells (rsC y) 53) ∧ y.s = (rnPrepV s o.r).1 ∧ RdSt wx y ∧ Below wS.heap.size wS wx ∧ wS.heap.size ≤ b15) → KX ⟨l.toArray, []⟩ wx) :
    Code.wp Try.prog cMv20 (OnlyN KX) (frN 357 f) wS := by
  have FIN := Lib.hid hK
  have HSS := Lib.hid (show ∀ W, Below wS.heap.size wS W → (W.cell? ⟨X, 0, none⟩ = some (.bool s.serial) ∧ W.cell? ⟨X, 1, none⟩ = some (vi s.bugs) ∧ W.cell? ⟨X, 2, none⟩ = some (.slice a1 s.vs.length c1) ∧ W.cell? ⟨X, 3, none⟩ = some (.slice a2 s.ws.length c2) ∧ W.cell? ⟨X, 4, none⟩ = some (.slice a3 s.es.length c3) ∧
      W.cell? ⟨bx, 1, none⟩ = some (vi o.r.txn) ∧ W.cell? ⟨bx, 2, none⟩ = some (vi o.r.home) ∧ W.cell? ⟨bx, 3, none⟩ = some (vi o.r.start) ∧ W.cell? ⟨bx, 4, none⟩ = some (.slice ow o.r.writes.length cw) ∧ W.cell? ⟨bx, 5, none⟩ = some (.slice or_ o.r.reads.length cr)) from fun W hW => by
    have k1 := (hW.block X (Array.getElem?_eq_some_iff.1 hX).1).trans hX
    have k2 := (hW.block bx (Array.getElem?_eq_some_iff.1 hB).1).trans hB
    exact ⟨by rw [cell_of k1]; rfl, by rw [cell_of k1]; rfl, by rw [cell_of k1]; rfl, by rw [cell_of k1]; rfl, by rw [cell_of k1]; rfl, by rw [cell_of k2]; rfl, by rw [cell_of k2]; rfl, by rw [cell_of k2]; rfl, by rw [cell_of k2]; rfl, by rw [cell_of k2]; rfl⟩)
  have HB0 := Lib.hid (show Below wS.heap.size wS wS.drew from below_dr (Below.refl _ _))
  have HBC := Lib.hid (show Below wS.heap.size wS (wS.alloc (.cells #[.bool false, vi 0, .slice none 0 0, .slice none 0 0, .slice none 0 0] 53)).drew from below_dr (below_al (o := (.cells #[.bool false, vi 0, .slice none 0 0, .slice none 0 0, .slice none 0 0] 53)) (Below.refl _ _)))
  have HCH := Lib.hid (show ∀ w7, Below (wS.alloc (.cells #[.bool false, vi 0, .slice none 0 0, .slice none 0 0, .slice none 0 0] 53)).drew.heap.size (wS.alloc (.cells #[.bool false, vi 0, .slice none 0 0, .slice none 0 0, .slice none 0 0] 53)).drew w7 → w7.heap[wS.heap.size]? = some (.cells #[.bool false, vi 0, .slice none 0 0, .slice none 0 0, .slice none 0 0] 53) from fun w7 h =>
    (h.block wS.heap.size (by show wS.heap.size < (wS.alloc _).heap.size; simp)).trans (heap_dd (heap_top rfl)))
  have HPR := Lib.hid (show ∀ W, Below wS.heap.size wS W → Calls Try.prog 18 #[.agg #[.bool s.serial, vi s.bugs, .slice a1 s.vs.length c1, .slice a2 s.ws.length c2, .slice a3 s.es.length c3], rdyV ⟨.slice ow o.r.writes.length cw, .slice or_ o.r.reads.length cr, o.r⟩] W
      (fun e w8 => ∃ y d1 g1 d2 g2 d3 g3, e = .returned (.tuple #[.agg #[.bool y.s.serial, vi y.s.bugs, .slice d1 y.s.vs.length g1, .slice d2 y.s.ws.length g2, .slice d3 y.s.es.length g3], vi by_, vi err]) ∧ y = ⟨.slice d1 y.s.vs.length g1, .slice d2 y.s.ws.length g2, .slice d3 y.s.es.length g3, y.s⟩ ∧ y.s = (rnPrepV s o.r).1 ∧ RdSt w8 y ∧ Below W.heap.size W w8 ∧
        ∀ W' : World, (∀ j, (j < wS.heap.size ∨ W.heap.size ≤ j) → W'.heap[j]? = w8.heap[j]?) → RdSt W' y) from fun W hW =>
    (rnPrep_call2 wS ⟨.slice a1 s.vs.length c1, .slice a2 s.ws.length c2, .slice a3 s.es.length c3, s⟩ ⟨.slice ow o.r.writes.length cw, .slice or_ o.r.reads.length cr, o.r⟩ W hx hW (hr.later hW) hbg hl).mono fun e w8 ⟨y, he, hys, hrd, hb, hk⟩ => by
      obtain ⟨d1, g1, d2, g2, d3, g3, hy⟩ := RdSt.shapes hrd
      refine ⟨y, d1, g1, d2, g2, d3, g3, ?_, hy, hys, hrd, hb, hk⟩
      rw [he]
      have e1 : (rnPrepV s o.r).2.1 = by_ := by rw [hv]
      have e2 : (rnPrepV s o.r).2.2 = err := by rw [hv]
      have e3 : rsV y = .agg #[.bool y.s.serial, vi y.s.bugs, .slice d1 y.s.vs.length g1, .slice d2 y.s.ws.length g2, .slice d3 y.s.es.length g3] := by rw [hy]; rfl
      rw [e3]
      simp only
      rw [e1, e2])
  rw [fr357, e8, e10]
  clear hK e8 e10 hX hB hx hr hv hl hbg
  conv => arg 2; whnf
  go_region_held3 (fun W : World => (W.cell? ⟨X, 0, none⟩ = some (.bool s.serial) ∧ W.cell? ⟨X, 1, none⟩ = some (vi s.bugs) ∧ W.cell? ⟨X, 2, none⟩ = some (.slice a1 s.vs.length c1) ∧ W.cell? ⟨X, 3, none⟩ = some (.slice a2 s.ws.length c2) ∧ W.cell? ⟨X, 4, none⟩ = some (.slice a3 s.es.length c3) ∧
      W.cell? ⟨bx, 1, none⟩ = some (vi o.r.txn) ∧ W.cell? ⟨bx, 2, none⟩ = some (vi o.r.home) ∧ W.cell? ⟨bx, 3, none⟩ = some (vi o.r.start) ∧ W.cell? ⟨bx, 4, none⟩ = some (.slice ow o.r.writes.length cw) ∧ W.cell? ⟨bx, 5, none⟩ = some (.slice or_ o.r.reads.length cr)))
    (first | with_reducible exact HSS.out _ HB0.out | with_reducible exact HSS.out _ HBC.out | with_reducible exact HSS.out _ HB7.out | with_reducible exact HSS.out _ HB7c.out | with_reducible exact HSS.out _ HB8.out | with_reducible exact HSS.out _ HB8c.out | with_reducible exact HSS.out _ HQ.out.2.2.1)
    (first
      | (go_at_call 19; refine (ready_call ⟨.slice ow o.r.writes.length cw, .slice or_ o.r.reads.length cr, o.r⟩ wS.drew ⟨_, _, _, _, rfl, rfl⟩).mono ?_; rintro e w7 ⟨rfl, hb7⟩; have HB7 := Lib.hid (below_tr HB0.out hb7); have HB7c := Lib.hid (below_al (o := (.cells #[.bool false, vi 0, .slice none 0 0, .slice none 0 0, .slice none 0 0] 53)) HB7.out); clear hb7)
      | (go_at_call 19; refine (ready_call ⟨.slice ow o.r.writes.length cw, .slice or_ o.r.reads.length cr, o.r⟩ (wS.alloc (.cells #[.bool false, vi 0, .slice none 0 0, .slice none 0 0, .slice none 0 0] 53)).drew ⟨_, _, _, _, rfl, rfl⟩).mono ?_; rintro e w7 ⟨rfl, hb7⟩; have HB7 := Lib.hid (below_tr HBC.out hb7); have HC7 := Lib.hid (HCH.out _ hb7); clear hb7)
      | (go_at_call 18; have hc7 := HC7.out; refine (HPR.out w7 HB7.out).mono ?_; rintro e w8 ⟨y, d1, g1, d2, g2, d3, g3, rfl, hy, hys, hrd, hb8, hkp⟩; have HB8 := Lib.hid (below_tr HB7.out hb8); have HYS := Lib.hid hys; have HQ := Lib.hid (boxAC hc7 HB7.out hb8 hy hkp); obtain ⟨z0, z1, z2, z3, z4, zf⟩ := zs_cells (heapAC hc7 hb8); clear hy hys hrd hb8 hkp hc7)
      | (go_at_call 18; refine (HPR.out w7 HB7.out).mono ?_; rintro e w8 ⟨y, d1, g1, d2, g2, d3, g3, rfl, hy, hys, hrd, hb8, hkp⟩; have HB8 := Lib.hid (below_tr HB7.out hb8); have HB8c := Lib.hid (below_al (o := (.cells #[.bool false, vi 0, .slice none 0 0, .slice none 0 0, .slice none 0 0] 53)) HB8.out); have HYS := Lib.hid hys; have HQ := Lib.hid (boxA HB8.out hy hrd); clear hy hys hrd hb8 hkp)
      | (go_at_call 18; refine (HPR.out (w7.alloc (.cells #[.bool false, vi 0, .slice none 0 0, .slice none 0 0, .slice none 0 0] 53)) HB7c.out).mono ?_; rintro e w8 ⟨y, d1, g1, d2, g2, d3, g3, rfl, hy, hys, hrd, hb8, hkp⟩; have HB8 := Lib.hid (below_tr HB7c.out hb8); have HYS := Lib.hid hys; have HQ := Lib.hid (boxAB HB7.out HB8.out hb8 hy hkp); obtain ⟨z0, z1, z2, z3, z4, zf⟩ := zs_cells (heapAB hb8); clear hy hys hrd hb8 hkp))
  all_goals exact FIN.out _ _ _ y rfl ⟨rfl, rfl, rfl, rfl, rfl, rfl, rfl, rfl, rfl, rfl, rfl, rfl⟩ ⟨HQ.out.1, HYS.out, HQ.out.2.1, HQ.out.2.2.1, HQ.out.2.2.2⟩
end Go.Proofs.Ytbadpfcjoobniaa.mvccRuns

namespace Go.Proofs.Ytbadpfcjoobniaa.mvccRuns
open Go.RowKit Go.Maps
attribute [local go_sem] Oper.semAt_some

theorem row_cell {W : World} {N e n m g c : Nat} {cs : List Value} (h : W.ownsRow N e n (.slice (some ⟨g, 0, none⟩) m c) m cs) {j : Nat} (hj : j < cs.length) : (∃ u, W.cell? ⟨g, j, none⟩ = some u) ∧ W.frozen? ⟨g, j, none⟩ = false := by
  rcases h.2 with ⟨hv, _⟩ | ⟨g', cap, cur, hv, hg, hh, r⟩
  · cases hv
  · simp only [Value.slice.injEq, Option.some.injEq, Addr.mk.injEq] at hv
    obtain ⟨⟨rfl, -⟩, -, -⟩ := hv
    refine ⟨⟨cs[j], ?_⟩, free_of hh j⟩
    have h1 := World.ownsRow.cells h (g := g) rfl j cs[j] (List.getElem?_eq_getElem hj)
    rw [addr_add, Nat.zero_add] at h1
    exact h1

set_option maxRecDepth 1000000 in
set_option maxHeartbeats 16000000 in
theorem sw0 {b p mk mr me X bx : Nat} {serial : Bool} {bugs : Int} {n : Nat} {K : KeysL} {R : RdyL} {E : EndL} {x : RSV} {o : Op19} {wv rv : Value} {w0 : World} (wj : World) (f : Nat → Value) (KX : Act → World → Prop) (s0 s1 s2 s9 : Value)
    (hs0 : f 0 = s0) (hs1 : f 1 = s1) (hs2 : f 2 = s2) (e7 : f 7 = .pointer (some ⟨p, 0, none⟩)) (e8 : f 8 = .pointer (some ⟨X, 0, none⟩)) (hs9 : f 9 = s9) (e10 : f 10 = .pointer (some ⟨bx, 0, none⟩)) (e74 : f 74 = vi 0)
    (hS : Stp b p mk mr me X bx serial bugs n K R E x o wv rv w0 wj) (hE : ExitR b p mk mr me X serial bugs n s0 s1 s2 s9 wj KX) : Code.wp Try.prog cSw (OnlyN KX) (frN 357 f) wj := by
  have HEX := Lib.hid hE
  have HI := Lib.hid hS.run
  have HRI := Lib.hid hS.ri
  have hbug := hS.bug
  have hfew := hS.few
  have hRl : R.length ≤ 1048576 := by have := hS.run.rlen; omega
  have HX := Lib.hid hS.box
  have HSZ := Lib.hid (show b ≤ wj.heap.size from by have := hS.below.size; have := hS.start; omega)
  have hbw : Below w0.heap.size w0 wj := by rw [hS.start]; exact hS.below
  have HRW := Lib.hid (hS.rows.later hbw)
  have hsm := hS.sm
  obtain ⟨vv, wv', ev, s⟩ := x
  obtain ⟨a1, c1, a2, c2, a3, c3, hx, -, -, -⟩ := hS.run.shapes
  simp only [RSV.mk.injEq, and_true] at hx
  obtain ⟨rfl, rfl, rfl⟩ := hx
  obtain ⟨ow, onw, cw, hwv, rfl, -, -⟩ := (show RdOps w0 wv o.r.writes from hS.rows.ws).at
  obtain ⟨or_, onr, cr, hrv, rfl, -, -⟩ := (show RdInts w0 rv o.r.reads from hS.rows.rs).at
  subst hwv hrv
  have HBX := Lib.hid (Array.getElem?_eq_some_iff.1 hS.box).1
  rw [fr357, hs0, hs1, hs2, e7, e8, hs9, e10, e74]
  clear hE hS hs0 hs1 hs2 e7 e8 hs9 e10 e74 hbw
  conv => arg 2; whnf
  go_upto_region 13 with fail
  refine wp_cutF 357 (fun q wx => q 0 = s0 ∧ q 1 = s1 ∧ q 2 = s2 ∧ q 7 = .pointer (some ⟨p, 0, none⟩) ∧ q 8 = .pointer (some ⟨X, 0, none⟩) ∧ q 9 = s9 ∧ q 10 = .pointer (some ⟨bx, 0, none⟩) ∧ ∃ (bC : Nat) (mwv mrv : Value), q 11 = .pointer (some ⟨bC, 0, none⟩) ∧ wx.heap[bC]? = some (.cells #[vi o.r.txn, vi o.r.home, vi o.r.start, mwv, mrv] 29) ∧
      wx.ownsRow wj.heap.size 55 3 mwv o.r.writes.length (o.r.writes.flatMap opV) ∧ wx.ownsRow wj.heap.size 3 1 mrv o.r.reads.length (o.r.reads.flatMap viC) ∧ Below wj.heap.size wj wx ∧ wj.heap.size ≤ bC) ?rest ?first
  case first =>
    intro J1 K1 h1 h2
    refine wp_onlyN (K := K1) ?_ (fun _ _ h => h)
    refine wp_fr 357 _ rfl ?_
    show Code.wp Try.prog cMv13 _ _ _
    refine mvReg o.k o.r o.e ow cw or_ cr bx _ wj HX.out HRW.out ⟨by omega, by omega⟩ rfl K1 ?_
    intro l wx bC mwv mrv hll hc hf
    obtain ⟨t0, t1, t2, t7, t8, t9, t10, t11, -⟩ := hc
    exact h2 _ _ (Met.intro (h1 l _ hll ⟨t0.trans rfl, t1.trans rfl, t2.trans rfl, t7.trans rfl, t8.trans rfl, t9.trans rfl, t10, bC, mwv, mrv, t11, hf⟩))
  case rest =>
    rintro q wx ⟨q0, q1, q2, q7, q8, q9, q10, bC, mwv, mrv, q11, hC, hmw, hmr, hbx, hbc⟩
    go_step
    obtain ⟨am, cm, hm1⟩ := own_shape hmw
    obtain ⟨an, cn, hm2⟩ := own_shape hmr
    subst hm1 hm2
    have HIx := Lib.hid (HI.out.later hbx)
    have HMW := Lib.hid hmw
    have HBx := Lib.hid hbx
    have HC := Lib.hid hC
    have hpc := prep_call2 ⟨.slice am o.r.writes.length cm, .slice an o.r.reads.length cn, o.r⟩ wx HIx.out.st hRl (rdy_own hmw hmr HRI.out.rs) HRI.out.txn (fun y hy => (HRI.out.ws y hy).2.1) (by simp only; omega) (by simp only; omega)
    have HPC := Lib.hid hpc
    have k0 : wx.cell? ⟨bC, 0, none⟩ = some (vi o.r.txn) := by rw [cell_of hC]; rfl
    have k1 : wx.cell? ⟨bC, 1, none⟩ = some (vi o.r.home) := by rw [cell_of hC]; rfl
    have k2 : wx.cell? ⟨bC, 2, none⟩ = some (vi o.r.start) := by rw [cell_of hC]; rfl
    have k3 : wx.cell? ⟨bC, 3, none⟩ = some (.slice am o.r.writes.length cm) := by rw [cell_of hC]; rfl
    have k4 : wx.cell? ⟨bC, 4, none⟩ = some (.slice an o.r.reads.length cn) := by rw [cell_of hC]; rfl
    rw [fr357, q0, q1, q2, q7, q8, q9, q10, q11]
    clear q0 q1 q2 q7 q8 q9 q10 q11 hC hmw hmr hbx hpc
    go_upto_region 15 with (go_at_call 12; refine HPC.out.mono ?_; rintro e w5 ⟨by_, err, R', rfl, hP, hM, hg, hown⟩)
    have hsol : Solid wx w5 := by
      obtain ⟨es, c, ho⟩ := HIx.out.st.ready.obj
      exact (Solid.refl wx).map ho hg
    have HSOL := Lib.hid hsol
    have HP5 := Lib.hid hP
    have HM5 := Lib.hid hM
    have HG5 := Lib.hid hg
    have HOW5 := Lib.hid hown
    have HC5 := Lib.hid (hsol _ _ _ _ HC.out)
    have HR5 := Lib.hid (own_solid HMW.out hsol)
    have HNE := Lib.hid (own_ne HR5.out HC5.out (by decide))
    have HBL := Lib.hid (Array.getElem?_eq_some_iff.1 HC5.out).1
    have k3' : w5.cell? ⟨bC, 3, none⟩ = some (.slice am o.r.writes.length cm) := by rw [cell_of HC5.out]; rfl
    clear k0 k1 k2 k3 k4 hsol hP hM hg hown
    go_wp2_with fail
    refine wp_loopF 357 (fun m g wr => g 0 = s0 ∧ g 1 = s1 ∧ g 2 = s2 ∧ g 7 = .pointer (some ⟨p, 0, none⟩) ∧ g 8 = .pointer (some ⟨X, 0, none⟩) ∧ g 9 = s9 ∧ g 10 = .pointer (some ⟨bx, 0, none⟩) ∧ g 11 = .pointer (some ⟨bC, 0, none⟩) ∧ g 12 = vi by_ ∧ g 13 = vi err ∧ g 105 = .int .i64 o.r.writes.length ∧
      ∃ (k : Nat) (cs : List Value), k ≤ o.r.writes.length ∧ m = o.r.writes.length - k ∧ g 106 = .int .i64 k ∧ wr.ownsRow wj.heap.size 55 3 (.slice am o.r.writes.length cm) o.r.writes.length cs ∧ w5.grownBy wr (Value.slice am o.r.writes.length cm).ownBlock) _ rfl o.r.writes.length ?start ?round
    case start => exact ⟨rfl, rfl, rfl, rfl, rfl, rfl, rfl, rfl, rfl, rfl, rfl, 0, _, Nat.zero_le _, rfl, rfl, HR5.out, ⟨rfl, rfl, rfl, Nat.le_refl _, fun _ _ _ => rfl⟩⟩
    case round =>
      rintro gm h wr ⟨h0, h1, h2, h7, h8, h9, h10, h11, h12, h13, h105, k, cs, hk, hgm, h106, how, hgr⟩ JJ KK HJ HK
      have HJJ := Lib.hid HJ
      have HGM := Lib.hid hgm
      have HOW := Lib.hid how
      have HGR := Lib.hid hgr
      rw [fr357, h0, h1, h2, h7, h8, h9, h10, h11, h12, h13, h105, h106]
      clear HJ hgm h0 h1 h2 h7 h8 h9 h10 h11 h12 h13 h105 h106 k3' hgr
      by_cases hkl : k < o.r.writes.length
      · have hkI : (k : Int) < (o.r.writes.length : Int) := by omega
        obtain ⟨g, c', hgc⟩ := own_some how (by omega)
        simp only [Value.slice.injEq, true_and] at hgc
        obtain ⟨rfl, rfl⟩ := hgc
        have hcl : cs.length = o.r.writes.length * 3 := how.1
        obtain ⟨⟨u, hu⟩, hfz⟩ := row_cell how (j := k * 3 + 2) (by omega)
        have hst := World.ownsRow.stored how (k * 3 + 2) (vi (-1))
        have HST := Lib.hid hst
        have hbr := (HGR.out.block bC HBL.out HNE.out).trans HC5.out
        have k3'' : wr.cell? ⟨bC, 3, none⟩ = some (.slice (some ⟨g, 0, none⟩) o.r.writes.length cm) := by rw [cell_of hbr]; rfl
        clear hst hbr how hcl
        go_wp2_with fail
        refine Handed.intro (o.r.writes.length - (k + 1)) (by rw [HGM.out]; omega) (HJJ.out _ _ _ rfl ⟨rfl, rfl, rfl, rfl, rfl, rfl, rfl, rfl, rfl, rfl, rfl, k + 1, _, by omega, rfl, ?_, HST.out.1, ?_⟩)
        · show Value.int .i64 _ = _
          go_num
        · exact ⟨HST.out.2.os.trans HGR.out.os, HST.out.2.tape.trans HGR.out.tape, HST.out.2.output.trans HGR.out.output, Nat.le_trans HGR.out.size HST.out.2.size, fun j hj hr => (HST.out.2.block j (Nat.lt_of_lt_of_le hj HGR.out.size) hr).trans (HGR.out.block j hj hr)⟩
      · have hkI : ¬ ((k : Int) < (o.r.writes.length : Int)) := by omega
        clear how
        have hsz5 : wj.heap.size ≤ w5.heap.size := Nat.le_trans HBx.out.size HG5.out.size
        have hwr := MvS.wrote (A := wj) HI.out.st HM5.out ((Solid.below HBx.out).trans HSOL.out) hsz5 HOW5.out HGR.out (fun j hj => HMW.out.lt j hj)
        have HMR := Lib.hid hwr.1
        have HSR := Lib.hid hwr.2
        have hRD := RdSt.solid HI.out.rd hwr.2
        have HRD := Lib.hid hRD
        have HXr := Lib.hid (hwr.2 _ _ _ _ HI.out.box)
        have HBXr := Lib.hid (hwr.2 _ _ _ _ HX.out)
        have HRR := Lib.hid (HRW.out.solid hwr.2)
        have HBR : Below b wj wr := ((HBx.out.mono HSZ.out).grown HG5.out (Nat.le_trans HSZ.out HBx.out.size) (fun j hj => by cases hj; exact HI.out.st.br)).grown HGR.out (Nat.le_trans HSZ.out hsz5) (fun j hj => Nat.le_trans HSZ.out (HMW.out.lt j hj).1)
        have HBRH := Lib.hid HBR
        have hbg : 0 ≤ s.bugs ∧ s.bugs ≤ 63 := by have := HI.out.bg; simp only at this; rw [this]; exact hbug
        have hprep := HI.out.sim.prep (r := o.r) (by_ := by_) (err := err) (R' := R') hbg (by have h1 := HI.out.bg; have h2 := HI.out.ser; rw [h1, h2]; exact HP5.out)
        have HPREP := Lib.hid hprep
        have hok := prep_ok (s := s) (r := o.r) HI.out.wlen HI.out.small ⟨hsm.1, hsm.2, fun y hy => (HRI.out.ws y hy).2.1⟩
        have HOK := Lib.hid hok
        clear hwr hRD hprep hok HBR
        go_upto_region 20 with fail
        refine wp_cutF 357 (fun q wx => q 0 = s0 ∧ q 1 = s1 ∧ q 2 = s2 ∧ q 7 = .pointer (some ⟨p, 0, none⟩) ∧ q 8 = .pointer (some ⟨X, 0, none⟩) ∧ q 9 = s9 ∧ q 10 = .pointer (some ⟨bx, 0, none⟩) ∧ q 12 = vi by_ ∧ q 13 = vi err ∧ ∃ (b15 : Nat) (y : RSV), q 15 = .pointer (some ⟨b15, 0, none⟩) ∧ q 16 = vi by_ ∧ q 17 = vi err ∧
          wx.heap[b15]? = some (.cells (rsC y) 53) ∧ y.s = (rnPrepV s o.r).1 ∧ RdSt wx y ∧ Below wr.heap.size wr wx ∧ wr.heap.size ≤ b15) ?rest2 ?first2
        case first2 =>
          intro J1 K1 h1 h2
          refine wp_onlyN (K := K1) ?_ (fun _ _ h => h)
          refine wp_fr 357 _ rfl ?_
          show Code.wp Try.prog cMv20 _ _ _
          refine reg20 (s := s) wr _ K1 by_ err HXr.out HRD.out HBXr.out HRR.out hbg ⟨Nat.le_trans HI.out.wlen (by omega), by omega, by omega⟩ HPREP.out.1 rfl rfl ?_
          intro l wx b15 y hll hc hf
          obtain ⟨t0, t1, t2, t7, t8, t9, t10, t12, t13, t15, t16, t17⟩ := hc
          exact h2 _ _ (Met.intro (h1 l _ hll ⟨t0.trans rfl, t1.trans rfl, t2.trans rfl, t7.trans rfl, t8, t9.trans rfl, t10, t12.trans rfl, t13.trans rfl, b15, y, t15, t16, t17, hf⟩))
        case rest2 =>
          rintro q w9 ⟨q0, q1, q2, q7, q8, q9, q10, q12, q13, b15, y, q15, q16, q17, hY, hys, hrd9, hb9, hge⟩
          go_step
          obtain ⟨d1, g1, d2, g2, d3, g3, hy⟩ := RdSt.shapes hrd9
          obtain ⟨z1, z2, z3, z4, z5, z6⟩ := HOK.out
          rw [← hys] at z1 z2 z3 z4 z5 z6
          have hX9 := (hb9.block X (Array.getElem?_eq_some_iff.1 HXr.out).1).trans HXr.out
          have hvv : y.vv = .slice d1 y.s.vs.length g1 := congrArg RSV.vv hy
          have hvw : y.wv = .slice d2 y.s.ws.length g2 := congrArg RSV.wv hy
          have hve : y.ev = .slice d3 y.s.es.length g3 := congrArg RSV.ev hy
          have hsb := set_box (y := y) hX9 (HRD.out.later hb9) z1 z2
          rw [hvv, hvw, hve] at hsb
          have hb10 := rn_below5 (W := w9) (b := X) (.bool y.s.serial) (vi y.s.bugs) (.slice d1 y.s.vs.length g1) (.slice d2 y.s.ws.length g2) (.slice d3 y.s.es.length g3) HI.out.bx
          have r0 : w9.cell? ⟨b15, 0, none⟩ = some (.bool y.s.serial) := by rw [cell_of hY]; rfl
          have r1 : w9.cell? ⟨b15, 1, none⟩ = some (vi y.s.bugs) := by rw [cell_of hY]; rfl
          have r2 : w9.cell? ⟨b15, 2, none⟩ = some (.slice d1 y.s.vs.length g1) := by rw [cell_of hY, ← hvv]; rfl
          have r3 : w9.cell? ⟨b15, 3, none⟩ = some (.slice d2 y.s.ws.length g2) := by rw [cell_of hY, ← hvw]; rfl
          have r4 : w9.cell? ⟨b15, 4, none⟩ = some (.slice d3 y.s.es.length g3) := by rw [cell_of hY, ← hve]; rfl
          have x0 : w9.cell? ⟨X, 0, none⟩ = some (.bool s.serial) := by rw [cell_of hX9]; rfl
          have x1 : w9.cell? ⟨X, 1, none⟩ = some (vi s.bugs) := by rw [cell_of hX9]; rfl
          have x2 : w9.cell? ⟨X, 2, none⟩ = some (.slice a1 s.vs.length c1) := by rw [cell_of hX9]; rfl
          have x3 : w9.cell? ⟨X, 3, none⟩ = some (.slice a2 s.ws.length c2) := by rw [cell_of hX9]; rfl
          have x4 : w9.cell? ⟨X, 4, none⟩ = some (.slice a3 s.es.length c3) := by rw [cell_of hX9]; rfl
          have xf : ∀ j, w9.frozen? ⟨X, j, none⟩ = false := fun j => free_of hX9 j
          have hb9' : Below b wj w9 := HBRH.out.trans (hb9.mono (Nat.le_trans HSZ.out (by have := HBRH.out.size; omega)))
          have HSB := Lib.hid hsb
          have HFIN := Lib.hid (show RunI b p mk mr me X serial bugs (n + 1) K R' E y _ from
            ⟨hsb.1.mvs HI.out.p_ne (HMR.out.later hb9), by rw [hys]; exact HPREP.out.2, hsb.2, hsb.1.rdst hrd9, z1.trans HI.out.ser, z2.trans HI.out.bg, by have := prep_R HP5.out; have := HI.out.rlen; omega, z3, by have := HI.out.vlen; simp only at this; rw [z4]; omega, by have := HI.out.elen; simp only at this; rw [z5]; omega, z6, by have := HI.out.once; simp only at this; rw [z5]; exact this, HI.out.bx⟩)
          have HBF := Lib.hid (hb9'.trans hb10)
          rw [fr357, q0, q1, q2, q7, q8, q9, q10, q12, q13, q15, q16, q17]
          clear q0 q1 q2 q7 q8 q9 q10 q12 q13 q15 q16 q17 hY hX9 hrd9 hvv hvw hve z1 z2 z3 z4 z5 z6 hy hb9 hb10 hb9' hsb hys HSB
          go_upto_region 22 with fail
          clear r0 r1 r2 r3 r4 x0 x1 x2 x3 x4 xf
          generalize (((((w9.setCell ⟨X, 0, none⟩ (.bool y.s.serial)).setCell ⟨X, 1, none⟩ (vi y.s.bugs)).setCell ⟨X, 2, none⟩ (.slice d1 y.s.vs.length g1)).setCell ⟨X, 3, none⟩ (.slice d2 y.s.ws.length g2)).setCell ⟨X, 4, none⟩ (.slice d3 y.s.es.length g3)) = w10 at *
          go_wp2_with fail
          exact HEX.out _ _ rfl rfl rfl rfl rfl rfl rfl ⟨_, _, _, _, HFIN.out⟩ HBF.out
end Go.Proofs.Ytbadpfcjoobniaa.mvccRuns

namespace Go.Proofs.Ytbadpfcjoobniaa.mvccRuns
open Go.RowKit Go.Maps
attribute [local go_sem] Oper.semAt_some

def ExitT (p X : Nat) (s0 s1 s2 s9 : Value) (wj : World) (K : Act → World → Prop) : Prop :=
  ∀ (l : List Value) (w' : World), l.length = 357 → slotsOf l 0 = s0 → slotsOf l 1 = s1 → slotsOf l 2 = s2 → slotsOf l 7 = .pointer (some ⟨p, 0, none⟩) → slotsOf l 8 = .pointer (some ⟨X, 0, none⟩) → slotsOf l 9 = s9 → Below wj.heap.size wj w' → K ⟨l.toArray, []⟩ w'
noncomputable def cTail : Code := (Try.f6.body.bind (afterBlock 2)).getD .skip
theorem owr_el {b : Nat} {w : World} {a : Option Addr} {n c : Nat} {L : List RV} (h : OwR b w (.slice a n c) L) {j : Nat} {x : RV} (hj : L[j]? = some x) : ∃ g off, a = some ⟨g, off, none⟩ ∧ RdyS w x ∧ w.cell? ⟨g, off + j * 5, none⟩ = some (vi x.r.txn) ∧ w.cell? ⟨g, off + j * 5 + 1, none⟩ = some (vi x.r.home) ∧ w.cell? ⟨g, off + j * 5 + 2, none⟩ = some (vi x.r.start) ∧ w.cell? ⟨g, off + j * 5 + 3, none⟩ = some x.wv ∧ w.cell? ⟨g, off + j * 5 + 4, none⟩ = some x.rv := by
  obtain ⟨a', len, cap, h1, h2, h3, h4, h5, h6⟩ := own_rds (enc := rdyL) (E := fun _ cs x => cs = rdyL x) (fun _ => rfl) h.row (fun _ _ => rfl)
  simp only [Value.slice.injEq] at h1
  obtain ⟨rfl, -, -⟩ := h1
  obtain ⟨g, off, cs, ha, hl, hc, rfl⟩ := h6 j x hj
  exact ⟨g, off, ha, h.rdy x (List.mem_of_getElem? hj), by simpa [rdyL] using hc 0 _ rfl, by simpa [Nat.add_assoc] using hc 1 _ rfl, by simpa [Nat.add_assoc] using hc 2 _ rfl, by simpa [Nat.add_assoc] using hc 3 _ rfl, by simpa [Nat.add_assoc] using hc 4 _ rfl⟩

set_option maxRecDepth 1000000 in
set_option maxHeartbeats 16000000 in
theorem tail {b p mk mr me X : Nat} {serial : Bool} {bugs : Int} {n : Nat} {K : KeysL} {R : RdyL} {E : EndL} {x : RSV} (wj : World) (f : Nat → Value) (KX : Act → World → Prop) (s0 s1 s2 s9 : Value)
    (hs0 : f 0 = s0) (hs1 : f 1 = s1) (hs2 : f 2 = s2) (e7 : f 7 = .pointer (some ⟨p, 0, none⟩)) (e8 : f 8 = .pointer (some ⟨X, 0, none⟩)) (hs9 : f 9 = s9)
    (hI : RunI b p mk mr me X serial bugs n K R E x wj) (hn : n ≤ 61) (hE : ExitT p X s0 s1 s2 s9 wj KX) : Code.wp Try.prog cTail (OnlyN KX) (frN 357 f) wj := by
  have HEX := Lib.hid hE
  have HI := Lib.hid hI
  have hRl : R.length ≤ 1048576 := by have := hI.rlen; omega
  have hW : ∀ y ∈ R, y.2.r.writes.length ≤ 1048576 ∧ y.2.r.reads.length ≤ 1048576 := fun y hy => ⟨Nat.le_trans (hI.smallR y hy).ws (by omega), Nat.le_trans (hI.smallR y hy).rs (by omega)⟩
  have hwl := hI.wlen
  obtain ⟨vv, wv', ev, s⟩ := x
  obtain ⟨a1, c1, a2, c2, a3, c3, hx, -, hm2, -⟩ := hI.shapes
  simp only [RSV.mk.injEq, and_true] at hx
  obtain ⟨rfl, rfl, rfl⟩ := hx
  have hwc : Calls Try.prog 13 #[.pointer (some ⟨p, 0, none⟩)] wj fun e w' => ∃ (a : Option Addr) (c : Nat) (L : List RV), e = .returned (.slice a s.ws.length c) ∧ OwR wj.heap.size w' (.slice a s.ws.length c) L ∧ L.map (·.r) = s.ws ∧ Below wj.heap.size wj w' :=
    (waits_call wj hI.st hRl hW).mono fun e w' ⟨v, L, he, ho, hw, hb⟩ => by
      have hq := hI.sim.waits hI.st.ready.pairwise hw
      obtain ⟨a, c, hv⟩ := own_shape ho.row
      have hl : L.length = s.ws.length := by rw [← hq]; simp
      rw [hl] at hv
      subst hv
      exact ⟨a, c, L, he, ho, hq, hb⟩
  have HWC := Lib.hid hwc
  simp only at hwl
  rw [fr357, hs0, hs1, hs2, e7, e8, hs9]
  clear hE hI hs0 hs1 hs2 e7 e8 hs9 hwc hW hRl
  conv => arg 2; whnf
  go_upto_region 43 with (go_at_call 13; refine HWC.out.mono ?_; rintro e w5 ⟨av, cv, L, rfl, ho, hL, hb5⟩)
  have HO := Lib.hid ho
  have HL := Lib.hid hL
  have HB5 := Lib.hid hb5
  have HI5 := Lib.hid (HI.out.later hb5)
  have x3 : w5.cell? ⟨X, 3, none⟩ = some (.slice a2 s.ws.length c2) := by rw [cell_of HI5.out.box]; rfl
  clear ho hL hb5
  go_wp2_with fail
  refine wp_loopF 357 (fun m g wr => g 0 = s0 ∧ g 1 = s1 ∧ g 2 = s2 ∧ g 7 = .pointer (some ⟨p, 0, none⟩) ∧ g 8 = .pointer (some ⟨X, 0, none⟩) ∧ g 9 = s9 ∧ g 28 = .slice av s.ws.length cv ∧ g 227 = .int .i64 s.ws.length ∧
    ∃ j : Nat, j ≤ s.ws.length ∧ m = s.ws.length - j ∧ g 228 = .int .i64 j ∧ Below w5.heap.size w5 wr) _ rfl s.ws.length ?start ?round
  case start => exact ⟨rfl, rfl, rfl, rfl, rfl, rfl, rfl, rfl, 0, Nat.zero_le _, rfl, rfl, Below.refl _ _⟩
  case round =>
    rintro gm h wr ⟨h0, h1, h2, h7, h8, h9, h28, h227, j, hj, hgm, h228, hbr⟩ JJ KK HJ HK
    have HBR := Lib.hid hbr
    have HJJ := Lib.hid HJ
    have HGM := Lib.hid hgm
    rw [fr357, h0, h1, h2, h7, h8, h9, h28, h227, h228]
    clear hbr HJ hgm h0 h1 h2 h7 h8 h9 h28 h227 h228 x3
    by_cases hjl : j < s.ws.length
    · have hjI : (j : Int) < (s.ws.length : Int) := by omega
      have hLl : L.length = s.ws.length := by rw [← HL.out]; simp
      obtain ⟨q, hq⟩ := some_at (l := L) (k := j) (by omega)
      have hq2 : s.ws[j]? = some q.r := by rw [← HL.out, List.getElem?_map, hq]; rfl
      obtain ⟨gq, oq, rfl, hqr, c0, c1', c2', c3', c4⟩ := owr_el (HO.out.later HBR.out) hq
      have hIr := HI5.out.later HBR.out
      obtain ⟨gy, oy, ywv, yrv, rfl, hyr, y0, y1, y2, y3, y4⟩ := (show RdRdy wr (.slice a2 s.ws.length c2) s.ws from hIr.rd.ws).el hq2
      have x3 : wr.cell? ⟨X, 3, none⟩ = some (.slice (some ⟨gy, oy, none⟩) s.ws.length c2) := by rw [cell_of hIr.box]; rfl
      have hsr := HBR.out.size
      obtain ⟨qwv, qrv, qr⟩ := q
      simp only at c0 c1' c2' c3' c4 hq2 hyr y0 y1 y2
      obtain ⟨z1, n1, k1, hz1, rfl, -, -⟩ := (show RdOps wr qwv qr.writes from hqr.ws).at
      obtain ⟨z2, n2, k2, hz2, rfl, -, -⟩ := (show RdInts wr qrv qr.reads from hqr.rs).at
      obtain ⟨z3, n3, k3, hz3, rfl, -, -⟩ := (show RdOps wr ywv qr.writes from hyr.ws).at
      obtain ⟨z4, n4, k4, hz4, rfl, -, -⟩ := (show RdInts wr yrv qr.reads from hyr.rs).at
      subst hz1 hz2 hz3 hz4
      have hsc : Calls Try.prog 23 #[.agg #[vi qr.txn, vi qr.home, vi qr.start, .slice z1 qr.writes.length k1, .slice z2 qr.reads.length k2], .agg #[vi qr.txn, vi qr.home, vi qr.start, .slice z3 qr.writes.length k3, .slice z4 qr.reads.length k4]] wr.drew fun e w' => e = .returned (.bool true) ∧ Below wr.drew.heap.size wr.drew w' :=
        same_call ⟨.slice z1 qr.writes.length k1, .slice z2 qr.reads.length k2, qr⟩ ⟨.slice z3 qr.writes.length k3, .slice z4 qr.reads.length k4, qr⟩ wr.drew (hqr.later (Below.refl _ _).drew) (hyr.later (Below.refl _ _).drew) rfl
      have HSC := Lib.hid hsc
      have HBD := Lib.hid (show Below w5.heap.size w5 wr.drew from HBR.out.drew)
      clear hq hq2 hqr hyr hIr hsc hLl
      go_upto_region 48 with fail
      go_still_tail 9, (by kernel_rfl)
      change wpList _ _ _ _ _ wr.drew
      generalize wr.drew = w2 at *
      go_wp2_with (go_at_call 23; refine HSC.out.mono ?_; rintro e w6 ⟨rfl, hb6⟩)
      refine Handed.intro (s.ws.length - (j + 1)) (by rw [HGM.out]; omega) (HJJ.out _ _ _ rfl ⟨rfl, rfl, rfl, rfl, rfl, rfl, rfl, rfl, j + 1, by omega, rfl, ?_, HBD.out.trans (hb6.mono HBD.out.size)⟩)
      show Value.int .i64 _ = _
      go_num
    · have hjI : ¬ ((j : Int) < (s.ws.length : Int)) := by omega
      go_wp2_with fail
      exact HEX.out _ _ rfl rfl rfl rfl rfl rfl rfl (HB5.out.trans (HBR.out.mono HB5.out.size))
end Go.Proofs.Ytbadpfcjoobniaa.mvccRuns

namespace Go.Proofs.Ytbadpfcjoobniaa
open Go.RowKit Go.Shelf Go.Maps

section
set_option maxRecDepth 100000
set_option maxHeartbeats 1000000
theorem nil_read (txn key t : Int) (w : World) : Calls Try.prog 15 #[.pointer none, vi txn, vi key, vi t] w fun e w' => e = .returned (.tuple #[vi 0, vi 0, vi 1]) ∧ Below w.heap.size w w' := by
  go_enter Try.func15, Try.ntmps15
  go_wp2_with fail
  refine bodyPost_ret (v := .tuple #[vi 0, vi 0, vi 1]) (by simp [results, Try.results15, go_sem]) rfl ⟨rfl, ?_⟩
  exact (((((Below.refl _ _).alloc (Nat.le_refl _) _).alloc (by simp) _).alloc (by simp <;> omega) _).alloc (by simp <;> omega) _).alloc (by simp <;> omega) _
theorem nil_finish (x : EndM) (w : World) : Calls Try.prog 14 #[.pointer none, endV x] w fun e w' => e = .returned (vi 1) ∧ Below w.heap.size w w' := by
  unfold endV
  go_enter Try.func14, Try.ntmps14
  go_wp2_with fail
  go_ret
  exact ⟨rfl, (Below.refl _ _).alloc (Nat.le_refl _) _⟩
theorem nil_ended (txn : Int) (w : World) : Calls Try.prog 21 #[.pointer none, vi txn] w fun e w' => e = .returned (.tuple #[endV ⟨0, false, 0⟩, .bool false]) ∧ Below w.heap.size w w' := by
  go_enter Try.func21, Try.ntmps21
  go_wp2_with fail
  refine bodyPost_ret (v := .tuple #[endV ⟨0, false, 0⟩, .bool false]) (by simp [results, Try.results21, go_sem, endV]) rfl ⟨rfl, (Below.refl _ _).alloc (Nat.le_refl _) _⟩
end

theorem off_1 : offB 0 1 = true := by decide
theorem off_2 : offB 0 2 = true := by decide
theorem off_4 : offB 0 4 = true := by decide
abbrev hR1 : Rdy := ⟨1, 0, 5, [⟨2, 0, 8⟩], []⟩
theorem head_p1 {by_ err : Int} {R' : RdyL} (h : PrepM true 0 [] [] [] hR1 by_ err R') : by_ = 0 ∧ err = 0 ∧ ∃ wv rv, R' = [(1, ⟨wv, rv, hR1⟩)] := by
  rcases h with ⟨h, _⟩ | ⟨_, h, _⟩ | ⟨_, _, h, _⟩ | ⟨_, _, _, _, id, ok, hb, h⟩
  · cases h
  · cases h
  · rcases h with h | h <;> simp [lostW, lostR, lookP, laterB, verOf, curK, nilK, getM] at h
  · rcases hb with ⟨hb, _⟩ | ⟨x, hx, _⟩
    · cases hb
      rcases h with ⟨h, _⟩ | ⟨_, rfl, rfl, wv, rv, rfl⟩
      · cases h
      · exact ⟨rfl, rfl, wv, rv, rfl⟩
    · cases hx
theorem head_r1 {wv rv : Value} {v by_ err : Int} (h : ReadM [] [(1, ⟨wv, rv, hR1⟩)] 0 9 0 9 v by_ err) : err = 60 ∧ by_ = 1 := by
  obtain ⟨id, ok, hb, h⟩ := h
  have hq : (writesB hR1 0 && decide ((5 : Int) < 9)) = true := by decide
  rcases hb with ⟨hb, hn⟩ | ⟨x, hx, hne, hq2, he, hmin⟩
  · have := hn _ (List.mem_singleton.2 rfl) (show (1 : Int) ≠ 9 by decide)
    have h2 : (writesB hR1 0 && decide ((5 : Int) < 9)) = false := this
    rw [hq] at h2; cases h2
  · simp at hx; subst hx
    cases he
    rcases h with ⟨_, _, _, rfl, rfl⟩ | ⟨h, _⟩
    · exact ⟨rfl, rfl⟩
    · rcases h with h | h
      · cases h
      · rw [off_2] at h; cases h
theorem head_r2 {wv rv : Value} {v by_ err : Int} (h : ReadM [] [(1, ⟨wv, rv, hR1⟩)] 0 9 0 5 v by_ err) : err = 0 ∧ v = 0 := by
  obtain ⟨id, ok, hb, h⟩ := h
  have hq : (writesB hR1 0 && decide ((5 : Int) < 5)) = false := by decide
  rcases hb with ⟨hb, hn⟩ | ⟨x, hx, hne, hq2, he, hmin⟩
  · cases hb
    rcases h with ⟨h, _⟩ | ⟨_, rfl, _, rfl⟩
    · cases h
    · exact ⟨rfl, rfl⟩
  · simp at hx; subst hx
    have h2 : (writesB hR1 0 && decide ((5 : Int) < 5)) = true := hq2
    rw [hq] at h2; cases h2
theorem head_f {wv rv : Value} {K' : KeysL} {R' : RdyL} {E' : EndL} (h : FinM [] [(1, ⟨wv, rv, hR1⟩)] [] ⟨1, true, 7⟩ K' R' E') : R' = [] ∧ E' = [(1, ⟨1, true, 7⟩)] ∧ verOf K' 0 = [(7, 8)] ∧ (∀ key, Srt (verOf K' key)) ∧ ∀ key, (verOf K' key).length ≤ 1 := by
  rcases h with ⟨h, _⟩ | ⟨_, rfl, rfl, hk⟩
  · cases h
  · have hk' : ∀ key, verOf K' key = finV 7 key [⟨2, 0, 8⟩] [] := hk
    refine ⟨rfl, rfl, by rw [hk' 0]; rfl, fun key => by rw [hk' key]; exact finV_srt _ _ _ _ List.Pairwise.nil, fun key => ?_⟩
    rw [hk' key]
    exact finV_len _ _ _ _
theorem head_r3 {K' : KeysL} (hK : verOf K' 0 = [(7, 8)]) {v by_ err : Int} (h : ReadM K' [] 0 9 0 7 v by_ err) : err = 0 ∧ v = 8 := by
  obtain ⟨id, ok, hb, h⟩ := h
  rcases hb with ⟨hb, hn⟩ | ⟨x, hx, _⟩
  · cases hb
    rcases h with ⟨h, _⟩ | ⟨_, rfl, _, rfl⟩
    · cases h
    · exact ⟨rfl, by rw [hK]; rfl⟩
  · cases hx
theorem head_p2 {K' : KeysL} (hK : verOf K' 0 = [(7, 8)]) {by_ err : Int} {R' : RdyL} (h : PrepM true 0 K' [] [(1, ⟨1, true, 7⟩)] ⟨2, 0, 6, [⟨2, 0, 9⟩], []⟩ by_ err R') : err = 61 := by
  have hl : lostW K' 0 ⟨2, 0, 6, [⟨2, 0, 9⟩], []⟩ = true := by
    unfold lostW
    rw [off_1]
    simp [hK, laterB]
  rcases h with ⟨h, _⟩ | ⟨_, h, _⟩ | ⟨_, _, h, _, rfl, _⟩ | ⟨_, _, h, _⟩
  · simp [getM] at h
  · cases h
  · rfl
  · rw [hl] at h; cases h

theorem Turns.toBelow {bs : List Nat} {base : Nat} {a b : World} (h : Turns bs a b) (hs : base ≤ a.heap.size) (hb : ∀ k ∈ bs, base ≤ k) : Below base a b :=
  ⟨h.os, h.tape, h.output, h.size, fun k hk => h.block k (by omega) (fun hm => by have := hb k hm; omega)⟩
theorem MvS.bases {base p mk mr me : Nat} {serial : Bool} {bugs : Int} {K : KeysL} {R : RdyL} {E : EndL} {W : World} (h : MvS base p mk mr me serial bugs K R E W) : ∀ k ∈ [mk, mr, me], base ≤ k := by
  intro k hk
  simp at hk
  rcases hk with rfl | rfl | rfl
  · exact h.bk
  · exact h.br
  · exact h.be

theorem rdI_nil (w : World) : RdInts w (.slice none 0 0) [] := ⟨none, 0, 0, rfl, rfl, by simp, Nat.le_refl _, fun _ => ⟨rfl, rfl⟩, fun j x hj => by simp at hj⟩

set_option maxRecDepth 100000 in
set_option maxHeartbeats 4000000 in
theorem head_call (w : World) : Calls Try.prog 9 #[] w fun e w' => e = .returned (.bool true) ∧ Below w.heap.size w w' := by
  go_enter Try.func9, Try.ntmps9
  go_wp2_with fail
  refine (new_call true 0 w).mono ?_
  rintro e w1 ⟨p, mk, mr, me, rfl, hm1, hb1⟩
  have HM1 := Lib.hid hm1
  have HB1 := Lib.hid hb1
  clear hm1 hb1
  dsimp only
  go_wp2_with fail
  refine (w_call 0 8 w1).mono ?_
  rintro e w2 ⟨rfl, rfl⟩
  have HW2 := Lib.hid (w_rd 0 8 w1)
  have HB2 := Lib.hid (HB1.out.alloc HB1.out.size (.cells #[vi 2, vi 0, vi 8] 55))
  have HM2 := Lib.hid (HM1.out.later ((Below.refl w1.heap.size w1).alloc (Nat.le_refl _) (.cells #[vi 2, vi 0, vi 8] 55)))
  generalize w1.alloc (.cells #[vi 2, vi 0, vi 8] 55) = w2 at *
  dsimp only
  go_wp2_with fail
  refine (prep_call ⟨.slice (some ⟨w1.heap.size, 0, none⟩) 1 1, .slice none 0 0, hR1⟩ w2 HM2.out (by simp) ⟨HW2.out, rdI_nil _⟩ (show i64 1 by unfold i64; omega) (by intro o ho; simp at ho; subst ho; exact (show i64 0 by unfold i64; omega)) (by simp) (by simp)).mono ?_
  rintro e w3 ⟨by1, er1, R1, rfl, hp, hm3, hg3⟩
  obtain ⟨rfl, rfl, wv, rv, rfl⟩ := head_p1 hp
  have HM3 := Lib.hid hm3
  have HB3 := Lib.hid (HB2.out.grown hg3 HB2.out.size (fun j hj => by cases hj; exact hm3.br))
  clear hp hm3 hg3 HW2 HM2 HM1
  dsimp only
  go_wp2_with fail
  refine (read_call 9 0 9 w3 HM3.out (by simp) (show i64 0 by unfold i64; omega)).mono ?_
  rintro e w4 ⟨v1, by2, er2, rfl, hr, hb4⟩
  obtain ⟨rfl, rfl⟩ := head_r1 hr
  have HM4 := Lib.hid (HM3.out.later hb4)
  have HB4 := Lib.hid (HB3.out.trans (hb4.mono HB3.out.size))
  clear hr hb4
  dsimp only
  go_wp2_with fail
  refine (read_call 9 0 5 w4 HM4.out (by simp) (show i64 0 by unfold i64; omega)).mono ?_
  rintro e w5 ⟨v2, by3, er3, rfl, hr, hb5⟩
  obtain ⟨rfl, rfl⟩ := head_r2 hr
  have HM5 := Lib.hid (HM4.out.later hb5)
  have HB5 := Lib.hid (HB4.out.trans (hb5.mono HB4.out.size))
  clear hr hb5
  dsimp only
  go_wp2_with fail
  refine (finish_call ⟨1, true, 7⟩ w5 HM5.out (show i64 1 by unfold i64; omega) (show i64 7 by unfold i64; omega) (fun _ => List.Pairwise.nil) (fun _ => by simp [verOf, curK, getM, nilK]) (by intro y hy; simp at hy; subst hy; exact ⟨by simp, by intro o ho; simp at ho; subst ho; exact (show i64 0 by unfold i64; omega)⟩)).mono ?_
  rintro e w6 ⟨K2, R2, E2, rfl, hf, hm6, ht6⟩
  obtain ⟨rfl, rfl, hk2, hs2, hl2⟩ := head_f hf
  have HM6 := Lib.hid hm6
  have HK2 := Lib.hid hk2
  have HB6 := Lib.hid (HB5.out.trans (ht6.toBelow HB5.out.size hm6.bases))
  clear hf hm6 ht6 hk2 hs2 hl2
  dsimp only
  go_wp2_with fail
  refine (read_call 9 0 7 w6 HM6.out (by simp) (show i64 0 by unfold i64; omega)).mono ?_
  rintro e w7 ⟨v3, by4, er4, rfl, hr, hb7⟩
  obtain ⟨rfl, rfl⟩ := head_r3 HK2.out hr
  have HM7 := Lib.hid (HM6.out.later hb7)
  have HB7 := Lib.hid (HB6.out.trans (hb7.mono HB6.out.size))
  clear hr hb7
  dsimp only
  go_wp2_with fail
  refine (w_call 0 9 w7).mono ?_
  rintro e w8 ⟨rfl, rfl⟩
  have HW8 := Lib.hid (w_rd 0 9 w7)
  have HB8 := Lib.hid (HB7.out.alloc HB7.out.size (.cells #[vi 2, vi 0, vi 9] 55))
  have HM8 := Lib.hid (HM7.out.later ((Below.refl w7.heap.size w7).alloc (Nat.le_refl _) (.cells #[vi 2, vi 0, vi 9] 55)))
  generalize w7.alloc (.cells #[vi 2, vi 0, vi 9] 55) = w8 at *
  dsimp only
  go_wp2_with fail
  refine (prep_call ⟨.slice (some ⟨w7.heap.size, 0, none⟩) 1 1, .slice none 0 0, ⟨2, 0, 6, [⟨2, 0, 9⟩], []⟩⟩ w8 HM8.out (by simp) ⟨HW8.out, rdI_nil _⟩ (show i64 2 by unfold i64; omega) (by intro o ho; simp at ho; subst ho; exact (show i64 0 by unfold i64; omega)) (by simp) (by simp)).mono ?_
  rintro e w9 ⟨by5, er5, R5, rfl, hp, hm9, hg9⟩
  have h61 := head_p2 HK2.out hp
  subst h61
  have HB9 := Lib.hid (HB8.out.grown hg9 HB8.out.size (fun j hj => by cases hj; exact hm9.br))
  clear hp hm9 hg9
  dsimp only
  go_wp2_with fail
  go_ret
  exact ⟨rfl, HB9.out⟩
end Go.Proofs.Ytbadpfcjoobniaa

namespace Go.Proofs.Ytbadpfcjoobniaa.mvccRuns
open Go.RowKit Go.Maps
attribute [local go_sem] Oper.semAt_some

noncomputable def cRest : Code := (Try.f6.body.bind (afterBlock 0)).getD .skip
theorem any_next7 {α : Type} {q : α → Bool} {l : List α} {k : Nat} {x : α} (h : l[k]? = some x) : (l.take (k + 1)).any q = ((l.take k).any q || q x) := by
  rw [List.take_add_one, h, List.any_append]; simp

set_option maxRecDepth 1000000 in
set_option maxHeartbeats 16000000 in
theorem rest {b p mk mr me X : Nat} {serial : Bool} {bugs : Int} {n : Nat} {K : KeysL} {R : RdyL} {E : EndL} {x : RSV} (w0 wj : World) (f : Nat → Value)
    (e7 : f 7 = .pointer (some ⟨p, 0, none⟩)) (e8 : f 8 = .pointer (some ⟨X, 0, none⟩)) (hI : RunI b p mk mr me X serial bugs n K R E x wj) (hn : n ≤ 60) (h0 : Below w0.heap.size w0 wj) :
    Code.wp Try.prog cRest (bodyPost Try.prog Try.f6 (fun e w' => e = .returned (.bool true) ∧ Below w0.heap.size w0 w')) (frN 357 f) wj := by
  have HI := Lib.hid hI
  have H0 := Lib.hid h0
  obtain ⟨vv, wv', ev, s⟩ := x
  obtain ⟨a1, c1, a2, c2, a3, c3, hx, -, -, hm3⟩ := hI.shapes
  simp only [RSV.mk.injEq, and_true] at hx
  obtain ⟨rfl, rfl, rfl⟩ := hx
  have HVL := Lib.hid hI.vers
  have hvl : s.vs.length ≤ 20 * n := hI.vlen
  have hel : s.es.length ≤ n := hI.elen
  rw [fr357, e7, e8]
  clear hI h0 e7 e8
  conv => arg 2; whnf
  go_wp2_with fail
  refine wp_loopF 357 (fun m g wr => g 7 = .pointer (some ⟨p, 0, none⟩) ∧ g 8 = .pointer (some ⟨X, 0, none⟩) ∧ ∃ key : Nat, key ≤ 6 ∧ m = 6 - key ∧ g 30 = .int .i64 key ∧ Below wj.heap.size wj wr) _ rfl 6 ?start ?round
  case start => exact ⟨rfl, rfl, 0, by omega, rfl, rfl, Below.refl _ _⟩
  case round =>
    rintro gm g wr ⟨g7, g8, key, hkey, hgm, g30, hbr⟩ JJ KK HJ HK
    have HBR := Lib.hid hbr
    have HJJ := Lib.hid HJ
    have HGM := Lib.hid hgm
    have HIr := Lib.hid (HI.out.later hbr)
    have hsr := hbr.size
    rw [fr357, g7, g8, g30]
    clear hbr HJ hgm g7 g8 g30
    by_cases hk6 : key < 6
    · have hkI : (key : Int) < 6 := by omega
      have hk64 : i64 (key : Int) := ⟨by omega, by omega⟩
      have hvc : Calls Try.prog 17 #[.pointer (some ⟨p, 0, none⟩), vi key] wr fun e w' => ∃ a c, e = .returned (.slice a (ofV s.vs key).length c) ∧ OwV wr.heap.size w' (.slice a (ofV s.vs key).length c) (ofV s.vs key) ∧ Below wr.heap.size wr w' :=
        (versions_call (key : Int) wr HIr.out.st hk64 (Nat.le_trans (HVL.out key) (by omega))).mono fun e w' ⟨v, he, ho, hb⟩ => by
          rw [HIr.out.sim.k] at ho
          obtain ⟨a, c, hv⟩ := own_shape ho
          subst hv
          exact ⟨a, c, he, ho, hb⟩
      have HVC := Lib.hid hvc
      clear hvc
      go_upto_region 55 with (go_at_call 17; refine HVC.out.mono ?_; rintro e w5 ⟨av, cv, rfl, hov, hb5⟩)
      have HOV := Lib.hid hov
      have HB5 := Lib.hid hb5
      have HI5 := Lib.hid (HIr.out.later hb5)
      have x0 : w5.cell? ⟨X, 0, none⟩ = some (.bool s.serial) := by rw [cell_of HI5.out.box]; rfl
      have x1 : w5.cell? ⟨X, 1, none⟩ = some (vi s.bugs) := by rw [cell_of HI5.out.box]; rfl
      have x2 : w5.cell? ⟨X, 2, none⟩ = some (.slice a1 s.vs.length c1) := by rw [cell_of HI5.out.box]; rfl
      have x3 : w5.cell? ⟨X, 3, none⟩ = some (.slice a2 s.ws.length c2) := by rw [cell_of HI5.out.box]; rfl
      have x4 : w5.cell? ⟨X, 4, none⟩ = some (.slice a3 s.es.length c3) := by rw [cell_of HI5.out.box]; rfl
      have hoc : Calls Try.prog 24 #[.agg #[.bool s.serial, vi s.bugs, .slice a1 s.vs.length c1, .slice a2 s.ws.length c2, .slice a3 s.es.length c3], vi key] w5 fun e w' => ∃ a c, e = .returned (.slice a (ofV s.vs key).length c) ∧ OwP w5.heap.size w' (.slice a (ofV s.vs key).length c) (ofV s.vs key) ∧ Below w5.heap.size w5 w' :=
        (rnOf_call ⟨.slice a1 s.vs.length c1, .slice a2 s.ws.length c2, .slice a3 s.es.length c3, s⟩ (key : Int) w5 HI5.out.rd (by simp only; omega)).mono fun e w' ⟨v, he, ho, hb⟩ => by
          obtain ⟨gg, c, hv, -, -⟩ := ho.shape
          subst hv
          exact ⟨_, c, he, ho, hb⟩
      have HOC := Lib.hid hoc
      clear hov hb5 hoc
      go_upto_region 56 with (go_at_call 24; refine HOC.out.mono ?_; rintro e w6 ⟨ap, cp, rfl, hop, hb6⟩)
      have HOP := Lib.hid hop
      have HB6 := Lib.hid hb6
      have HOV6 := Lib.hid (show RdP w6 (.slice av (ofV s.vs key).length cv) (ofV s.vs key) from own_at (enc := verV) (fun _ => rfl) (own_below HOV.out hb6))
      have HOP6 := Lib.hid (show RdP w6 (.slice ap (ofV s.vs key).length cp) (ofV s.vs key) from hop.rd)
      have hll : (ofV s.vs key).length ≤ 1000000 := by
        have := ofV_len (key : Int) s.vs []
        simp only [List.length_nil] at this
        unfold ofV; omega
      clear hop hb6 x0 x1 x2 x3 x4
      generalize hl : ofV s.vs key = l at *
      have HLL := Lib.hid hl
      clear hl
      go_wp2_with fail
      refine wp_loopF 357 (fun m g wq => g 7 = .pointer (some ⟨p, 0, none⟩) ∧ g 8 = .pointer (some ⟨X, 0, none⟩) ∧ g 30 = .int .i64 key ∧ g 31 = .slice av l.length cv ∧ g 32 = .slice ap l.length cp ∧ g 259 = .int .i64 l.length ∧ ∃ j : Nat, j ≤ l.length ∧ m = l.length - j ∧ g 260 = .int .i64 j ∧ Below w6.heap.size w6 wq) _ rfl l.length ?start2 ?round2
      case start2 => exact ⟨rfl, rfl, rfl, rfl, rfl, rfl, 0, Nat.zero_le _, rfl, rfl, Below.refl _ _⟩
      case round2 =>
        rintro gm2 h wq ⟨h7, h8, h30, h31, h32, h259, j, hj, hgm2, h260, hbq⟩ JJ2 KK2 HJ2 HK2
        have HBQ := Lib.hid hbq
        have HJJ2 := Lib.hid HJ2
        have HGM2 := Lib.hid hgm2
        rw [fr357, h7, h8, h30, h31, h32, h259, h260]
        clear hbq HJ2 hgm2 h7 h8 h30 h31 h32 h259 h260
        by_cases hjl : j < l.length
        · have hjI : (j : Int) < (l.length : Int) := by omega
          obtain ⟨y, hy⟩ := some_at hjl
          obtain ⟨g1, o1, rfl, k0, k1⟩ := RdP.el (show RdP wq (.slice av l.length cv) l from RdS.below HOV6.out HBQ.out (fun _ _ h => h)) hy
          obtain ⟨g2, o2, rfl, k2, k3⟩ := RdP.el (show RdP wq (.slice ap l.length cp) l from RdS.below HOP6.out HBQ.out (fun _ _ h => h)) hy
          clear hy
          go_wp2_with fail
          go_quiet (fail)
          go_wp2_with fail
          refine Handed.intro (l.length - (j + 1)) (by rw [HGM2.out]; omega) (HJJ2.out _ _ _ rfl ⟨rfl, rfl, rfl, rfl, rfl, rfl, j + 1, by omega, rfl, ?_, below_drN HBQ.out _⟩)
          show Value.int .i64 _ = _
          go_num
        · have hjI : ¬ ((j : Int) < (l.length : Int)) := by omega
          go_wp2_with fail
          refine Handed.intro (6 - (key + 1)) (by rw [HGM.out]; omega) (HJJ.out _ _ _ rfl ⟨rfl, rfl, key + 1, by omega, rfl, ?_, ?_⟩)
          · show Value.int .i64 _ = _
            go_num
          · exact HBR.out.trans ((HB5.out.trans ((HB6.out.trans (HBQ.out.mono HB6.out.size)).mono HB5.out.size)).mono hsr)
    · have hkI : ¬ ((key : Int) < 6) := by omega
      obtain ⟨A, hA⟩ : ∃ A, s.es.any (fun x => x.txn == -77) = A := ⟨_, rfl⟩
      have hec : Calls Try.prog 21 #[.pointer (some ⟨p, 0, none⟩), vi (-77)] wr fun e w' => ∃ en : EndM, e = .returned (.tuple #[.agg #[vi en.txn, .bool en.commit, vi en.at_], .bool A]) ∧ Below wr.heap.size wr w' :=
        (ended_call (-77) wr HIr.out.st ⟨by omega, by omega⟩).mono fun e w' ⟨he, hb⟩ => ⟨(getM E (-77)).getD ⟨0, false, 0⟩, by rw [he, HIr.out.sim.isE, ← hA]; rfl, hb⟩
      have HEC := Lib.hid hec
      have HA := Lib.hid hA
      clear hec hA
      go_upto_region 66 with (go_at_call 21; refine HEC.out.mono ?_; rintro e w5 ⟨en, rfl, hb5⟩)
      have HB5 := Lib.hid ((HBR.out.trans (hb5.mono hsr)).alloc (Nat.le_trans hsr hb5.size) (.cells #[vi en.txn, .bool en.commit, vi en.at_] 31))
      clear hb5
      generalize w5.alloc (.cells #[vi en.txn, .bool en.commit, vi en.at_] 31) = w6 at *
      have hnp := nil_prepare ⟨.slice none 0 0, .slice none 0 0, ⟨0, 0, 0, [], []⟩⟩
      unfold rdyV rdyC at hnp
      simp only at hnp
      have HNP := Lib.hid hnp
      clear hnp
      go_upto_region 67 with (go_at_call 12; refine (HNP.out _).mono ?_; rintro e w7 ⟨rfl, hb7⟩)
      have HB7 := Lib.hid (HB5.out.trans (hb7.mono HB5.out.size))
      clear hb7
      go_upto_region 68 with (go_at_call 15; refine (nil_read _ _ _ _).mono ?_; rintro e w8 ⟨rfl, hb8⟩)
      have HB8 := Lib.hid (HB7.out.trans (hb8.mono HB7.out.size))
      have hne := nil_ended 0
      unfold endV at hne
      simp only at hne
      have HNE := Lib.hid hne
      clear hb8 hne
      go_upto_region 69 with (go_at_call 21; refine (HNE.out _).mono ?_; rintro e w9 ⟨rfl, hb9⟩)
      have HB9 := Lib.hid ((HB8.out.trans (hb9.mono HB8.out.size)).alloc (Nat.le_trans HB8.out.size hb9.size) (.cells #[vi 0, .bool false, vi 0] 31))
      clear hb9
      generalize w9.alloc (.cells #[vi 0, .bool false, vi 0] 31) = w10 at *
      have HI10 := Lib.hid (HI.out.later HB9.out)
      have x4 : w10.cell? ⟨X, 4, none⟩ = some (.slice a3 s.es.length c3) := by rw [cell_of HI10.out.box]; rfl
      go_wp2_with fail
      refine wp_loopF 357 (fun m g wq => g 35 = .bool A ∧ g 36 = .pointer none ∧ g 38 = vi 1 ∧ g 41 = vi 1 ∧ g 43 = .bool false ∧ g 311 = .slice a3 s.es.length c3 ∧ g 312 = .int .i64 s.es.length ∧ ∃ j : Nat, j ≤ s.es.length ∧ m = s.es.length - j ∧ g 313 = .int .i64 j ∧ g 44 = .bool ((s.es.take j).any (fun x => x.txn == -77)) ∧ Below w10.heap.size w10 wq) _ rfl s.es.length ?start3 ?round3
      case start3 => exact ⟨rfl, rfl, rfl, rfl, rfl, rfl, rfl, 0, Nat.zero_le _, rfl, rfl, rfl, Below.refl _ _⟩
      case round3 =>
        rintro gm3 h wq ⟨h35, h36, h38, h41, h43, h311, h312, j, hj, hgm3, h313, h44, hbq⟩ JJ3 KK3 HJ3 HK3
        have HBQ := Lib.hid hbq
        have HJJ3 := Lib.hid HJ3
        have HGM3 := Lib.hid hgm3
        rw [fr357, h35, h36, h38, h41, h43, h311, h312, h313, h44]
        clear hbq HJ3 hgm3 h35 h36 h38 h41 h43 h311 h312 h313 h44 x4
        by_cases hjl : j < s.es.length
        · have hjI : (j : Int) < (s.es.length : Int) := by omega
          obtain ⟨y, hy⟩ := some_at hjl
          obtain ⟨g1, o1, rfl, k0, k1, k2⟩ := (show RdEn wq (.slice a3 s.es.length c3) s.es from (HI10.out.later HBQ.out).rd.es).el hy
          have HC := Lib.hid (any_next7 (q := fun x : EndM => x.txn == -77) hy)
          obtain ⟨B, hB⟩ : ∃ B, (s.es.take j).any (fun x => x.txn == -77) = B := ⟨_, rfl⟩
          rw [hB] at HC ⊢
          have HBA := Lib.hid (HBQ.out.alloc HBQ.out.size (.cells #[vi y.txn, .bool y.commit, vi y.at_] 61))
          have hAE := alloc_at wq (.cells #[vi y.txn, .bool y.commit, vi y.at_] 61)
          clear hB hy
          go_upto_region 73 with fail
          generalize wq.alloc (.cells #[vi y.txn, .bool y.commit, vi y.at_] 61) = wz at *
          have z0 : wz.cell? ⟨wq.heap.size, 0, none⟩ = some (vi y.txn) := by rw [cell_of hAE]; rfl
          clear hAE k0 k1 k2
          cases B with
          | true =>
            go_wp2_with fail
            refine Handed.intro (s.es.length - (j + 1)) (by rw [HGM3.out]; omega) (HJJ3.out _ _ _ rfl ⟨rfl, rfl, rfl, rfl, rfl, rfl, rfl, j + 1, by omega, rfl, ?_, ?_, HBA.out⟩)
            · show Value.int .i64 _ = _
              go_num
            · rw [HC.out, Bool.true_or]; rfl
          | false =>
            go_wp2_with fail
            refine Handed.intro (s.es.length - (j + 1)) (by rw [HGM3.out]; omega) (HJJ3.out _ _ _ rfl ⟨rfl, rfl, rfl, rfl, rfl, rfl, rfl, j + 1, by omega, rfl, ?_, ?_, HBA.out⟩)
            · show Value.int .i64 _ = _
              go_num
            · rw [HC.out, Bool.false_or]; rfl
        · have hjI : ¬ ((j : Int) < (s.es.length : Int)) := by omega
          have hAA : (s.es.take j).any (fun x => x.txn == -77) = A := by rw [List.take_of_length_le (by omega)]; exact HA.out
          rw [hAA]
          clear hAA
          have hnf := nil_finish ⟨0, false, 0⟩
          unfold endV at hnf
          simp only at hnf
          have HNF := Lib.hid hnf
          have HBQ0 := Lib.hid (H0.out.trans ((HB9.out.trans (HBQ.out.mono HB9.out.size)).mono H0.out.size))
          clear hnf
          have fin : ∀ (wa wb wc : World), Below wq.heap.size wq wa → Below wa.heap.size wa wb → Below wb.heap.size wb wc → Below w0.heap.size w0 wc := fun wa wb wc h1 h2 h3 => HBQ0.out.trans ((h1.trans ((h2.trans (h3.mono h2.size)).mono h1.size)).mono HBQ0.out.size)
          have FIN := Lib.hid fin
          clear fin
          cases A
          all_goals
            go_wp2_with (first
              | (go_at_call 14; refine (HNF.out _).mono ?_; rintro e wa ⟨rfl, hba⟩)
              | (go_at_call 13; refine (nil_waits _).mono ?_; rintro e wb ⟨rfl, hbb⟩)
              | (go_at_call 17; refine (nil_versions _ _).mono ?_; rintro e wc ⟨rfl, hbc⟩))
            go_ret
            exact ⟨by rfl, FIN.out _ _ _ hba hbb hbc⟩
end Go.Proofs.Ytbadpfcjoobniaa.mvccRuns

namespace Go.Proofs.Ytbadpfcjoobniaa
open Go.RowKit Go.Maps

/-- All versions of one key behind writes at one time, where there were none. -/
theorem finV_nil (t key : Int) : ∀ (ops : List GOp) (vs : List Ver), (vs = [] ∨ ∃ v, vs = [(t, v)]) → (finV t key ops vs = [] ∧ vs = [] ∧ ∀ o ∈ ops, o.key ≠ key) ∨ ∃ v, finV t key ops vs = [(t, v)]
  | [], vs, h => by
    rcases h with rfl | ⟨v, rfl⟩
    · exact .inl ⟨rfl, rfl, fun o ho => by cases ho⟩
    · exact .inr ⟨v, rfl⟩
  | o :: ops, vs, h => by
    have key1 : ∀ v, finV t key (o :: ops) v = finV t key ops (if o.key = key then insV v t o.val else v) := fun v => rfl
    rw [key1]
    by_cases ho : o.key = key
    · rw [if_pos ho]
      have hi : insV vs t o.val = [(t, o.val)] := by
        rcases h with rfl | ⟨v, rfl⟩
        · rfl
        · simp [insV]
      rw [hi]
      rcases finV_nil t key ops [(t, o.val)] (.inr ⟨_, rfl⟩) with ⟨_, h2, _⟩ | h2
      · cases h2
      · exact .inr h2
    · rw [if_neg ho]
      rcases finV_nil t key ops vs h with ⟨h1, h2, h3⟩ | h1
      · refine .inl ⟨h1, h2, fun x hx => ?_⟩
        rcases List.mem_cons.1 hx with rfl | hx
        · exact ho
        · exact h3 x hx
      · exact .inr h1
theorem finV_has {t key : Int} {ops : List GOp} (h : ∃ o ∈ ops, o.key = key) : ∃ v, finV t key ops [] = [(t, v)] := by
  rcases finV_nil t key ops [] (.inl rfl) with ⟨_, _, h3⟩ | h1
  · obtain ⟨o, ho, hk⟩ := h
    exact absurd hk (h3 o ho)
  · exact h1

/-- In each other's way. -/
structure Cross (serial : Bool) (a b : Rdy) : Prop where
  ta : a.txn = 1
  tb : b.txn = 2
  ab : wayB a (lookP serial 0) b = true
  ba : wayB b (lookP serial 0) a = true
  la : ∀ (t : Int) (K : KeysL), 10 < t → KFin [] K t a.writes → lostW K 0 b = true ∨ lostR K serial 0 b = true
  lb : ∀ (t : Int) (K : KeysL), 10 < t → KFin [] K t b.writes → lostW K 0 a = true ∨ lostR K serial 0 a = true

def pickR (a b : Rdy) (c : Int) : Rdy := if c = 1 then a else b
/-- What the store holds: nobody is done, and one waits at most; or one is done. -/
def TwoI (a b : Rdy) (d : Int) (K : KeysL) (R : RdyL) (E : EndL) : Prop :=
  (d = 0 ∧ K = [] ∧ E = [] ∧ (R = [] ∨ ∃ c wv rv, (c = 1 ∨ c = 2) ∧ R = [(c, ⟨wv, rv, pickR a b c⟩)])) ∨
  (d = 1 ∧ R = [] ∧ ∃ c t, (c = 1 ∨ c = 2) ∧ E = [(c, ⟨c, true, t⟩)] ∧ 10 < t ∧ KFin [] K t (pickR a b c).writes)

theorem two_prep {serial : Bool} {a b : Rdy} (hc : Cross serial a b) {d : Int} {K : KeysL} {R : RdyL} {E : EndL} (h : TwoI a b d K R E) {c by_ err : Int} (hcc : c = 1 ∨ c = 2) {R' : RdyL} (hp : PrepM serial 0 K R E (pickR a b c) by_ err R') : TwoI a b d K R' E := by
  have ht : (pickR a b c).txn = c := by rcases hcc with rfl | rfl; exact hc.ta; exact hc.tb
  rcases h with ⟨rfl, rfl, rfl, hR⟩ | ⟨rfl, rfl, c2, t, hc2, rfl, htt, hk⟩
  · rcases hp with ⟨h, _⟩ | ⟨_, _, _, _, rfl⟩ | ⟨_, _, _, _, _, rfl⟩ | ⟨_, hn, _, _, id, ok, hb, h⟩
    · cases h
    · exact .inl ⟨rfl, rfl, rfl, hR⟩
    · exact .inl ⟨rfl, rfl, rfl, hR⟩
    · rcases h with ⟨_, _, _, _, rfl⟩ | ⟨hno, _, _, wv, rv, rfl⟩
      · exact .inl ⟨rfl, rfl, rfl, hR⟩
      · rcases hR with rfl | ⟨c2, wv2, rv2, hc2, rfl⟩
        · exact .inl ⟨rfl, rfl, rfl, .inr ⟨c, wv, rv, hcc, by rw [ht]; rfl⟩⟩
        · exfalso
          have hne : c2 ≠ c := by
            rintro rfl
            rw [ht] at hn
            simp [getM] at hn
          have hway : wayB (pickR a b c) (lookP serial 0) (pickR a b c2) = true := by
            rcases hcc with rfl | rfl <;> rcases hc2 with rfl | rfl
            · exact absurd rfl hne
            · exact hc.ab
            · exact hc.ba
            · exact absurd rfl hne
          rcases hno with hno | hno
          · subst hno
            rcases hb with ⟨_, hb⟩ | ⟨x, _, _, _, hb, _⟩
            · have := hb _ (List.mem_singleton.2 rfl) (by rw [ht]; exact hne)
              have h2 : wayB (pickR a b c) (lookP serial 0) (pickR a b c2) = false := this
              rw [hway] at h2; cases h2
            · cases hb
          · rw [off_1] at hno; cases hno
  · have hlost : c ≠ c2 → lostW K 0 (pickR a b c) = true ∨ lostR K serial 0 (pickR a b c) = true := fun hne => by
      rcases hcc with rfl | rfl <;> rcases hc2 with rfl | rfl
      · exact absurd rfl hne
      · exact hc.lb t K htt hk
      · exact hc.la t K htt hk
      · exact absurd rfl hne
    have keep : TwoI a b 1 K [] [(c2, ⟨c2, true, t⟩)] := .inr ⟨rfl, rfl, c2, t, hc2, rfl, htt, hk⟩
    rcases hp with ⟨_, _, _, rfl⟩ | ⟨_, _, _, _, rfl⟩ | ⟨_, _, _, _, _, rfl⟩ | ⟨he, _, h1, h2, _⟩
    · exact keep
    · exact keep
    · exact keep
    · exfalso
      have hne : c ≠ c2 := by
        rintro rfl
        rw [ht] at he
        simp [getM] at he
      rcases hlost hne with h | h
      · rw [h] at h1; cases h1
      · rw [h] at h2; cases h2
theorem two_fin {a b : Rdy} {K : KeysL} {R : RdyL} {E : EndL} {c t : Int} {wv rv : Value} (hcc : c = 1 ∨ c = 2) (ht : 10 < t) (h : FinM [] [(c, ⟨wv, rv, pickR a b c⟩)] [] ⟨c, true, t⟩ K R E) : TwoI a b 1 K R E := by
  rcases h with ⟨h, _⟩ | ⟨_, rfl, rfl, hk⟩
  · cases h
  · refine .inr ⟨rfl, by simp [delM], c, t, hcc, rfl, ht, ?_⟩
    have : writesOf [(c, (⟨wv, rv, pickR a b c⟩ : RV))] ⟨c, true, t⟩ = (pickR a b c).writes := by simp [writesOf, getM]
    rw [this] at hk
    exact hk
/-- Who waits, where one waits at most. -/
theorem waits_one {c : Int} {y : RV} {l : List Rdy} (h : WaitsM [(c, y)] l) : l = [y.r] := by
  obtain ⟨ks, hp, _, rfl⟩ := h
  have : ks = [c] := List.perm_singleton.1 (by simpa using hp)
  subst this
  simp [getM]
theorem waits_none {l : List Rdy} (h : WaitsM [] l) : l = [] := by
  obtain ⟨ks, hp, _, rfl⟩ := h
  have : ks = [] := List.perm_nil.1 (by simpa using hp)
  subst this; rfl
theorem two_mem {a b : Rdy} {d : Int} {K : KeysL} {R : RdyL} {E : EndL} (h : TwoI a b d K R E) {y : Int × RV} (hy : y ∈ R) : ∃ c, (c = 1 ∨ c = 2) ∧ y.1 = c ∧ y.2.r = pickR a b c := by
  rcases h with ⟨_, _, _, hR⟩ | ⟨_, rfl, _⟩
  · rcases hR with rfl | ⟨c, wv, rv, hc, rfl⟩
    · cases hy
    · simp at hy; subst hy; exact ⟨c, hc, rfl, rfl⟩
  · cases hy
theorem two_srt {a b : Rdy} {d : Int} {K : KeysL} {R : RdyL} {E : EndL} (h : TwoI a b d K R E) : ∀ key, Srt (verOf K key) := fun key => by
  rcases h with ⟨_, rfl, _⟩ | ⟨_, _, c, t, _, _, _, hk⟩
  · exact List.Pairwise.nil
  · rw [hk key]; exact finV_srt _ _ _ _ List.Pairwise.nil
theorem two_len {a b : Rdy} {d : Int} {K : KeysL} {R : RdyL} {E : EndL} (h : TwoI a b d K R E) (key : Int) : (verOf K key).length ≤ 1 ∧ (d = 0 → (verOf K key).length = 0) ∧ (d = 1 → (∃ o ∈ a.writes, o.key = key) → (∃ o ∈ b.writes, o.key = key) → (verOf K key).length = 1) ∧ R.length ≤ 1 ∧ (d = 0 ∨ d = 1) := by
  rcases h with ⟨rfl, rfl, _, hR⟩ | ⟨rfl, rfl, c, t, hc, _, _, hk⟩
  · refine ⟨by simp [verOf, curK, getM, nilK], fun _ => by simp [verOf, curK, getM, nilK], (fun h => absurd h (by decide)), ?_, .inl rfl⟩
    rcases hR with rfl | ⟨c, wv, rv, _, rfl⟩ <;> simp
  · rw [hk key]
    have h0 : verOf ([] : KeysL) key = [] := rfl
    rw [h0]
    refine ⟨?_, (fun h => absurd h (by decide)), fun _ h1 h2 => ?_, by simp, .inr rfl⟩
    · rcases finV_nil t key (pickR a b c).writes [] (.inl rfl) with ⟨h, _⟩ | ⟨v, h⟩ <;> rw [h] <;> simp
    · obtain ⟨v, h⟩ := finV_has (t := t) (show ∃ o ∈ (pickR a b c).writes, o.key = key by rcases hc with rfl | rfl; exact h1; exact h2)
      rw [h]; rfl

theorem later_one {K : KeysL} {t key : Int} {ops : List GOp} (hk : KFin [] K t ops) (ht : 10 < t) (ho : ∃ o ∈ ops, o.key = key) : laterB (verOf K key) 10 = true := by
  rw [hk key]
  have h0 : verOf ([] : KeysL) key = [] := rfl
  rw [h0]
  obtain ⟨v, h⟩ := finV_has (t := t) ho
  rw [h]
  simp [laterB]; exact ht
/-- Two that write one key. -/
theorem cross_first (serial : Bool) (a b : Rdy) (key : Int) (h1 : a.txn = 1) (h2 : b.txn = 2) (sa : a.start = 10) (sb : b.start = 10) (wa : ∃ o ∈ a.writes, o.key = key) (wb : ∃ o ∈ b.writes, o.key = key) : Cross serial a b := by
  have wri : ∀ x : Rdy, (∃ o ∈ x.writes, o.key = key) → writesB x key = true := fun x ⟨o, ho, hk⟩ => by
    unfold writesB; rw [List.any_eq_true]; exact ⟨o, ho, by simp [keyB, hk]⟩
  have way : ∀ (x y : Rdy) (look : Bool), (∃ o ∈ x.writes, o.key = key) → (∃ o ∈ y.writes, o.key = key) → wayB x look y = true := fun x y look ⟨o, ho, hk⟩ hy => by
    unfold wayB
    rw [Bool.or_eq_true, List.any_eq_true]
    exact .inl ⟨o, ho, by unfold wayO; rw [hk, wri y hy]; rfl⟩
  have lost : ∀ (x y : Rdy) (t : Int) (K : KeysL), y.start = 10 → (∃ o ∈ x.writes, o.key = key) → (∃ o ∈ y.writes, o.key = key) → 10 < t → KFin [] K t x.writes → lostW K 0 y = true := fun x y t K hs hx ⟨o, ho, hk⟩ ht hf => by
    unfold lostW
    rw [off_1, Bool.true_and, List.any_eq_true]
    exact ⟨o, ho, by rw [hk, hs]; exact later_one hf ht hx⟩
  exact ⟨h1, h2, way a b _ wa wb, way b a _ wb wa, fun t K ht hk => .inl (lost a b t K sb wa wb ht hk), fun t K ht hk => .inl (lost b a t K sa wb wa ht hk)⟩
/-- Two, each of whom has read what the other one writes, at Serial. -/
theorem cross_serial (a b : Rdy) (k1 k2 : Int) (h1 : a.txn = 1) (h2 : b.txn = 2) (sa : a.start = 10) (sb : b.start = 10) (ra : k1 ∈ a.reads) (wa : ∃ o ∈ a.writes, o.key = k2) (rb : k2 ∈ b.reads) (wb : ∃ o ∈ b.writes, o.key = k1) : Cross true a b := by
  have hl : lookP true 0 = true := by unfold lookP; rw [off_4]; rfl
  have way : ∀ (x y : Rdy) (k : Int), (∃ o ∈ x.writes, o.key = k) → k ∈ y.reads → wayB x true y = true := fun x y k ⟨o, ho, hk⟩ hy => by
    unfold wayB
    rw [Bool.or_eq_true, List.any_eq_true]
    refine .inl ⟨o, ho, ?_⟩
    unfold wayO
    rw [Bool.or_eq_true]
    exact .inr (by rw [Bool.true_and, List.any_eq_true]; exact ⟨k, hy, by simp [hk]⟩)
  have lost : ∀ (x y : Rdy) (k t : Int) (K : KeysL), y.start = 10 → (∃ o ∈ x.writes, o.key = k) → k ∈ y.reads → 10 < t → KFin [] K t x.writes → lostR K true 0 y = true := fun x y k t K hs hx hy ht hf => by
    unfold lostR
    rw [hl, Bool.true_and, List.any_eq_true]
    exact ⟨k, hy, by rw [hs]; exact later_one hf ht hx⟩
  exact ⟨h1, h2, by rw [hl]; exact way a b k2 wa rb, by rw [hl]; exact way b a k1 wb ra, fun t K ht hk => .inr (lost a b k2 t K sb wa rb ht hk), fun t K ht hk => .inr (lost b a k1 t K sa wb ra ht hk)⟩
end Go.Proofs.Ytbadpfcjoobniaa

namespace Go.Proofs.Ytbadpfcjoobniaa
open Go.RowKit Go.Maps

def bigB (r : Rdy) : Bool := decide (20 < r.writes.length) || decide (20 < r.reads.length)
set_option maxRecDepth 100000 in
set_option maxHeartbeats 1000000 in
theorem big_call (k t at_ : Int) (c : Bool) (aw ar : Option Addr) (cw cr : Nat) (r : Rdy) (w : World) (hw : r.writes.length ≤ 9223372036854775807) (hr : r.reads.length ≤ 9223372036854775807) :
    Calls Try.prog 11 #[.agg #[vi k, vi r.txn, vi r.home, vi r.start, .slice aw r.writes.length cw, .slice ar r.reads.length cr, vi t, .bool c, vi at_]] w fun e w' => e = .returned (.bool (bigB r)) ∧ Below w.heap.size w w' := by
  by_cases h1 : 20 < r.writes.length
  · have h1' : (20 : Int) < (r.writes.length : Int) := by omega
    have HB := Lib.hid (show bigB r = true by simp [bigB, h1])
    clear h1
    go_enter Try.func11, Try.ntmps11
    go_wp2_with fail
    go_ret
    exact ⟨by rw [HB.out]; rfl, (Below.refl _ _).alloc (Nat.le_refl _) _⟩
  · have h1' : ¬ (20 : Int) < (r.writes.length : Int) := by omega
    by_cases h2 : 20 < r.reads.length
    · have h2' : (20 : Int) < (r.reads.length : Int) := by omega
      have HB := Lib.hid (show bigB r = true by simp [bigB, h2])
      clear h1 h2
      go_enter Try.func11, Try.ntmps11
      go_wp2_with fail
      go_ret
      exact ⟨by rw [HB.out]; rfl, (Below.refl _ _).alloc (Nat.le_refl _) _⟩
    · have h2' : ¬ (20 : Int) < (r.reads.length : Int) := by omega
      have HB := Lib.hid (show bigB r = false by simp [bigB, h1, h2])
      clear h1 h2
      go_enter Try.func11, Try.ntmps11
      go_wp2_with fail
      go_ret
      exact ⟨by rw [HB.out]; rfl, (Below.refl _ _).alloc (Nat.le_refl _) _⟩
theorem bigB_false {r : Rdy} (h : bigB r = false) : r.writes.length ≤ 20 ∧ r.reads.length ≤ 20 := by
  unfold bigB at h
  rw [Bool.or_eq_false_iff] at h
  simp at h; exact h
end Go.Proofs.Ytbadpfcjoobniaa

namespace Go.Proofs.Ytbadpfcjoobniaa.mvccRuns
open Go.RowKit Go.Maps
attribute [local go_sem] Oper.semAt_some

theorem and63 (x : Int) : ∃ y, bits .and .i64 x 63 = y ∧ 0 ≤ y ∧ y ≤ 63 := by
  have : ∃ m : Nat, m ≤ 63 ∧ bits .and .i64 x 63 = IntKind.i64.wrap (m : Int) := ⟨(BitVec.ofInt 64 x &&& BitVec.ofInt 64 63).toNat, by rw [BitVec.toNat_and]; exact Nat.le_trans Nat.and_le_right (by decide), rfl⟩
  obtain ⟨m, h1, h2⟩ := this
  refine ⟨m, ?_, by omega, by omega⟩
  rw [h2, IntKind.wrap_i64]; omega

set_option maxRecDepth 1000000 in
set_option maxHeartbeats 16000000 in
theorem walk (sb : Bool) (bg : Int) (v : Value) (ops : List Op19) (w : World) (hv : RdOps19 w v ops) :
    Calls Try.prog 6 #[.bool sb, vi bg, v] w fun e w' => e = .returned (.bool true) ∧ Below w.heap.size w w' := by
  have HV := Lib.hid hv
  obtain ⟨a, len, cap, rfl, rfl, hxm, -⟩ := hv.at
  clear hv
  obtain ⟨bugs, hbits, hb0, hb63⟩ := and63 bg
  go_enter Try.func6, Try.ntmps6
  go_upto_region 4 with (go_at_call 9; refine (head_call _).mono ?_; rintro e w1 ⟨rfl, hb1⟩; have HB1 := Lib.hid hb1; clear hb1)
  try rw [hbits]
  go_upto_region 5 with (go_at_call 10; refine (new_call _ _ _).mono ?_; rintro e w2 ⟨p, mk, mr, me, rfl, hst, hb2⟩)
  have HST := Lib.hid hst
  have HB2 := Lib.hid hb2
  clear hst hb2
  go_upto_block 0 with fail
  have hA3 := alloc_at w2 (.cells #[.bool sb, vi bugs, .slice none 0 0, .slice none 0 0, .slice none 0 0] 53)
  have HB3 := Lib.hid (HB2.out.alloc HB2.out.size (.cells #[.bool sb, vi bugs, .slice none 0 0, .slice none 0 0, .slice none 0 0] 53))
  have HI3 := Lib.hid (show RunI w1.heap.size p mk mr me w2.heap.size sb bugs 0 [] [] [] ⟨.slice none 0 0, .slice none 0 0, .slice none 0 0, ⟨sb, bugs, [], [], []⟩⟩ (w2.alloc (.cells #[.bool sb, vi bugs, .slice none 0 0, .slice none 0 0, .slice none 0 0] 53)) from
    ⟨HST.out.later ((Below.refl w2.heap.size w2).alloc (Nat.le_refl _) _), Sim.start sb bugs, hA3, ⟨⟨none, 0, 0, rfl, rfl, by simp, Nat.le_refl _, fun _ => ⟨rfl, rfl⟩, fun j x hj => by simp at hj⟩, ⟨none, 0, 0, rfl, rfl, by simp, Nat.le_refl _, fun _ => ⟨rfl, rfl⟩, fun j x hj => by simp at hj⟩, ⟨none, 0, 0, rfl, rfl, by simp, Nat.le_refl _, fun _ => ⟨rfl, rfl⟩, fun j x hj => by simp at hj⟩⟩, rfl, rfl, by simp, by simp, by simp, by simp, (fun r hr => by cases hr), List.Pairwise.nil, HB2.out.size⟩)
  clear hA3
  generalize w2.alloc (.cells #[.bool sb, vi bugs, .slice none 0 0, .slice none 0 0, .slice none 0 0] 53) = w3 at *
  generalize w2.heap.size = X at *
  refine wp_cutF 357 (fun q wx => q 7 = .pointer (some ⟨p, 0, none⟩) ∧ q 8 = .pointer (some ⟨X, 0, none⟩) ∧ ∃ n : Nat, n ≤ 60 ∧ RunE w1.heap.size p mk mr me X sb bugs n wx ∧ Below w1.heap.size w1 wx) ?rest ?first
  case rest =>
    rintro q wx ⟨q7, q8, n, hn, ⟨K, R, E, x, hI⟩, hbx⟩
    go_step
    show Code.wp Try.prog cRest _ _ _
    exact rest w wx q q7 q8 hI hn (HB1.out.trans (hbx.mono HB1.out.size))
  case first =>
    intro J1 K1 h1 h2
    have H1 := Lib.hid h1
    have H2 := Lib.hid h2
    clear h1 h2
    go_wp2_with fail
    refine wp_loopF 357 (fun m g wr => g 0 = .bool sb ∧ g 1 = vi bugs ∧ g 2 = .slice a ops.length cap ∧ g 7 = .pointer (some ⟨p, 0, none⟩) ∧ g 8 = .pointer (some ⟨X, 0, none⟩) ∧ ∃ i : Nat, i ≤ ops.length ∧ i ≤ 60 ∧ m = 61 - i ∧ g 9 = .int .i64 i ∧ RunE w1.heap.size p mk mr me X sb bugs i wr ∧ Below w1.heap.size w1 wr) _ rfl 61 ?start ?round
    case start => exact ⟨rfl, rfl, rfl, rfl, rfl, 0, Nat.zero_le _, by omega, rfl, rfl, ⟨_, _, _, _, HI3.out⟩, HB3.out⟩
    case round =>
      rintro gm g wk ⟨g0, g1, g2, g7, g8, i, hi, hi2, hgm, g9, ⟨K, R, E, x, hI⟩, hb⟩ JJ KK HJ HK
      have HI := Lib.hid hI
      have HB := Lib.hid hb
      have HJJ := Lib.hid HJ
      have HGM := Lib.hid hgm
      have hwk := hb.size
      rw [fr357, g0, g1, g2, g7, g8, g9]
      clear hI hb HJ hgm g0 g1 g2 g7 g8 g9
      by_cases hlt : i < ops.length
      case neg =>
        have hltI : ¬ ((i : Int) < (ops.length : Int)) := by omega
        go_wp2_with fail
        exact H2.out _ _ (Met.intro (H1.out _ _ rfl ⟨rfl, rfl, i, hi2, ⟨_, _, _, _, HI.out⟩, HB.out⟩))
      have hltI : (i : Int) < (ops.length : Int) := by omega
      by_cases hl2 : i < 60
      case neg =>
        have hl2I : ¬ ((i : Int) < 60) := by omega
        go_wp2_with fail
        exact H2.out _ _ (Met.intro (H1.out _ _ rfl ⟨rfl, rfl, i, hi2, ⟨_, _, _, _, HI.out⟩, HB.out⟩))
      have hl2I : (i : Int) < 60 := by omega
      obtain ⟨o, ho⟩ := some_at hlt
      obtain ⟨_, _, _, e5, -, -, hcl⟩ := HV.out.at
      cases e5
      obtain ⟨b, off, wv, rv, rfl, hrs, hri, hei, hc⟩ := hcl i o ho
      have HBw := Lib.hid (HB1.out.trans (HB.out.mono HB1.out.size))
      obtain ⟨ow, onw, cw, hwv, hnw, hmw, -⟩ := (show RdOps w wv o.r.writes from hrs.ws).at
      obtain ⟨or_, onr, cr, hrv, hnr, hmr, -⟩ := (show RdInts w rv o.r.reads from hrs.rs).at
      subst hnw hnr hwv hrv
      have k0 := cell_later HBw.out (show w.cell? ⟨b, off + i * 9, none⟩ = some (vi o.k) by simpa using hc 0 _ rfl)
      have k1 := cell_later HBw.out (show w.cell? ⟨b, off + i * 9 + 1, none⟩ = some (vi o.r.txn) by simpa [Nat.add_assoc] using hc 1 _ rfl)
      have k2 := cell_later HBw.out (show w.cell? ⟨b, off + i * 9 + 2, none⟩ = some (vi o.r.home) by simpa [Nat.add_assoc] using hc 2 _ rfl)
      have k3 := cell_later HBw.out (show w.cell? ⟨b, off + i * 9 + 3, none⟩ = some (vi o.r.start) by simpa [Nat.add_assoc] using hc 3 _ rfl)
      have k4 := cell_later HBw.out (show w.cell? ⟨b, off + i * 9 + 4, none⟩ = some (.slice ow o.r.writes.length cw) by simpa [Nat.add_assoc] using hc 4 _ rfl)
      have k5 := cell_later HBw.out (show w.cell? ⟨b, off + i * 9 + 5, none⟩ = some (.slice or_ o.r.reads.length cr) by simpa [Nat.add_assoc] using hc 5 _ rfl)
      have k6 := cell_later HBw.out (show w.cell? ⟨b, off + i * 9 + 6, none⟩ = some (vi o.e.txn) by simpa [Nat.add_assoc] using hc 6 _ rfl)
      have k7 := cell_later HBw.out (show w.cell? ⟨b, off + i * 9 + 7, none⟩ = some (.bool o.e.commit) by simpa [Nat.add_assoc] using hc 7 _ rfl)
      have k8 := cell_later HBw.out (show w.cell? ⟨b, off + i * 9 + 8, none⟩ = some (vi o.e.at_) by simpa [Nat.add_assoc] using hc 8 _ rfl)
      have HRS := Lib.hid (show RdyS w1 _ from hrs.later HB1.out)
      have HRI := Lib.hid hri
      have HEI := Lib.hid hei
      have HX0 := Lib.hid (alloc_at wk (.cells (op19A o (.slice ow o.r.writes.length cw) (.slice or_ o.r.reads.length cr)) 33))
      have HBa := Lib.hid ((Below.refl wk.heap.size wk).alloc (Nat.le_refl _) (.cells (op19A o (.slice ow o.r.writes.length cw) (.slice or_ o.r.reads.length cr)) 33))
      clear hcl hc hrs hri hei ho
      unfold op19A at HX0 HBa
      go_upto_region 10 with fail
      clear k0 k1 k2 k3 k4 k5 k6 k7 k8
      generalize wk.alloc (.cells #[vi o.k, vi o.r.txn, vi o.r.home, vi o.r.start, .slice ow o.r.writes.length cw, .slice or_ o.r.reads.length cr, vi o.e.txn, .bool o.e.commit, vi o.e.at_] 33) = w5 at *
      have HI5 := Lib.hid (HI.out.later HBa.out)
      have HB5 := Lib.hid (HB.out.trans (HBa.out.mono hwk))
      generalize wk.heap.size = bx at *
      have f0 : w5.cell? ⟨bx, 0, none⟩ = some (vi o.k) := by rw [cell_of HX0.out]; rfl
      have f1 : w5.cell? ⟨bx, 1, none⟩ = some (vi o.r.txn) := by rw [cell_of HX0.out]; rfl
      have f2 : w5.cell? ⟨bx, 2, none⟩ = some (vi o.r.home) := by rw [cell_of HX0.out]; rfl
      have f3 : w5.cell? ⟨bx, 3, none⟩ = some (vi o.r.start) := by rw [cell_of HX0.out]; rfl
      have f4 : w5.cell? ⟨bx, 4, none⟩ = some (.slice ow o.r.writes.length cw) := by rw [cell_of HX0.out]; rfl
      have f5 : w5.cell? ⟨bx, 5, none⟩ = some (.slice or_ o.r.reads.length cr) := by rw [cell_of HX0.out]; rfl
      have f6 : w5.cell? ⟨bx, 6, none⟩ = some (vi o.e.txn) := by rw [cell_of HX0.out]; rfl
      have f7 : w5.cell? ⟨bx, 7, none⟩ = some (.bool o.e.commit) := by rw [cell_of HX0.out]; rfl
      have f8 : w5.cell? ⟨bx, 8, none⟩ = some (vi o.e.at_) := by rw [cell_of HX0.out]; rfl
      have hbl := (Array.getElem?_eq_some_iff.1 HX0.out).1
      cases hbig : bigB o.r with
      | true =>
        have HBIG := Lib.hid hbig
        clear hbig
        go_wp2_with (go_at_call 11; refine (big_call o.k o.e.txn o.e.at_ o.e.commit ow or_ cw cr o.r w5 hmw hmr).mono ?_; rintro e w6 ⟨rfl, hb6⟩; rw [HBIG.out])
        refine Handed.intro (61 - (i + 1)) (by rw [HGM.out]; omega) (HJJ.out _ _ _ rfl ⟨rfl, rfl, rfl, rfl, rfl, i + 1, by omega, by omega, rfl, ?_, ⟨_, _, _, _, (HI5.out.later hb6).more⟩, HB5.out.trans (hb6.mono HB5.out.size)⟩)
        show Value.int .i64 _ = _
        go_num
      | false =>
        have hsm : o.r.writes.length ≤ 20 ∧ o.r.reads.length ≤ 20 := by
          unfold bigB at hbig
          simp only [Bool.or_eq_false_iff, decide_eq_false_iff_not] at hbig
          omega
        have HBIG := Lib.hid hbig
        clear hbig
        go_upto_region 11 with (go_at_call 11; refine (big_call o.k o.e.txn o.e.at_ o.e.commit ow or_ cw cr o.r w5 hmw hmr).mono ?_; rintro e w6 ⟨rfl, hb6⟩; rw [HBIG.out])
        have HI6 := Lib.hid (HI5.out.later hb6)
        have HB6 := Lib.hid (HB5.out.trans (hb6.mono HB5.out.size))
        have HX6 := Lib.hid ((hb6.block bx hbl).trans HX0.out)
        have f0' : w6.cell? ⟨bx, 0, none⟩ = some (vi o.k) := by rw [cell_of HX6.out]; rfl
        clear f0 f1 f2 f3 f4 f5 f6 f7 f8 hb6 hbl
        go_upto_block 2 with fail
        clear f0'
        refine wp_cutF 357 (fun q wx => q 0 = .bool sb ∧ q 1 = vi bugs ∧ q 2 = .slice (some ⟨b, off, none⟩) ops.length cap ∧ q 7 = .pointer (some ⟨p, 0, none⟩) ∧ q 8 = .pointer (some ⟨X, 0, none⟩) ∧ q 9 = .int .i64 i ∧ RunE w1.heap.size p mk mr me X sb bugs (i + 1) wx ∧ Below w1.heap.size w1 wx) ?rest2 ?first2
        case first2 =>
          intro J2 K2 h1 h2
          refine wp_onlyN (K := K2) ?_ (fun _ _ h => h)
          refine wp_fr 357 _ rfl ?_
          show Code.wp Try.prog cSw _ _ _
          have hS : Stp w1.heap.size p mk mr me X bx sb bugs i K R E x o (.slice ow o.r.writes.length cw) (.slice or_ o.r.reads.length cr) w1 w6 := ⟨HI6.out, rfl, HB6.out, HRS.out, HX6.out, HRI.out, HEI.out, hsm, hi2, hb0, hb63⟩
          have hE : ExitR w1.heap.size p mk mr me X sb bugs i (.bool sb) (vi bugs) (.slice (some ⟨b, off, none⟩) ops.length cap) (.int .i64 i) w6 K2 := by
            intro l w' hl e0 e1 e2 e7 e8 e9 hI' hB'
            exact h2 _ _ (Met.intro (h1 l w' hl ⟨e0, e1, e2, e7, e8, e9, hI', HB6.out.trans hB'⟩))
          by_cases c0 : o.k = 0
          · exact sw0 w6 _ K2 _ _ _ _ rfl rfl rfl rfl rfl rfl rfl (by show vi o.k = vi 0; rw [c0]) hS hE
          · by_cases c1 : o.k = 1
            · exact sw1 w6 _ K2 _ _ _ _ rfl rfl rfl rfl rfl rfl rfl (by show vi o.k = vi 1; rw [c1]) hS hE
            · by_cases c2 : o.k = 2
              · exact sw2 w6 _ K2 _ _ _ _ rfl rfl rfl rfl rfl rfl rfl (by show vi o.k = vi 2; rw [c2]) hS hE
              · exact sw3 w6 _ K2 _ _ _ _ rfl rfl rfl rfl rfl rfl rfl rfl hS hE c0 c1 c2
        case rest2 =>
          rintro q wx ⟨q0, q1, q2, q7, q8, q9, ⟨K', R', E', x', hI'⟩, hbx⟩
          go_step
          show Code.wp Try.prog cTail _ _ _
          refine wp_onlyN (tail wx q _ _ _ _ _ q0 q1 q2 q7 q8 q9 hI' (by omega) ?_) (fun _ _ h => h)
          intro l w' hl e0 e1 e2 e7 e8 e9 hB'
          have HIX := Lib.hid (hI'.later hB')
          have HBX := Lib.hid (hbx.trans (hB'.mono hbx.size))
          rw [frN_of 357 l hl, fr357, e0, e1, e2, e7, e8, e9]
          clear hI' hB' hbx q0 q1 q2 q7 q8 q9 e0 e1 e2 e7 e8 e9
          go_wp2_with fail
          refine Handed.intro (61 - (i + 1)) (by rw [HGM.out]; omega) (HJJ.out _ _ _ rfl ⟨rfl, rfl, rfl, rfl, rfl, i + 1, by omega, by omega, rfl, ?_, ⟨_, _, _, _, HIX.out⟩, HBX.out⟩)
          show Value.int .i64 _ = _
          go_num
end Go.Proofs.Ytbadpfcjoobniaa.mvccRuns
