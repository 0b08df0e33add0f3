/- Texts of one proof, one behind the other: RnRead. -/
import Derived.Test.YtdkkpkgfiodlbaaJb13
set_option linter.all false
/- Layer 19's reference: Read. -/
namespace Go.Proofs.Ytdkkpkgfiodlbaa
open Go.RowKit Go.Maps
/-- One who waits, looked at: who is in the way so far. -/
def blkStep (txn key t : Int) (s : Int × Bool) (r : Rdy) : Int × Bool :=
  if r.txn != txn && writesB r key && decide (r.start < t) && (!s.2 || decide (r.txn < s.1)) then (r.txn, true) else s
def blkOf (ws : List Rdy) (txn key t : Int) : Int × Bool := ws.foldl (blkStep txn key t) (0, false)
theorem below_drN {b : Nat} {A B : World} (h : Below b A B) (n : Nat) : Below b A (B.drewN n) := h.trans ⟨rfl, rfl, rfl, Nat.le_refl _, fun _ _ => rfl⟩
theorem fold_take {α β : Type} {f : β → α → β} {b : β} {l : List α} {k : Nat} {x : α} (h : l[k]? = some x) : (l.take (k + 1)).foldl f b = f ((l.take k).foldl f b) x := by
  rw [take_at h, List.foldl_append]; rfl
theorem fold_all {α β : Type} {f : β → α → β} {b : β} {l : List α} {k : Nat} (h : ¬ k < l.length) : (l.take k).foldl f b = l.foldl f b := by
  rw [List.take_of_length_le (by omega)]
/-- The newest version that is not behind a time, so far. -/
def newer (b : Option Ver3) (v : Ver3) : Bool := match b with | none => true | some y => decide (y.at_ < v.at_)
def bestStep (key t : Int) (b : Option Ver3) (v : Ver3) : Option Ver3 :=
  if v.key == key && decide (v.at_ ≤ t) && newer b v then some v else b
def bestOf (vs : List Ver3) (key t : Int) : Option Ver3 := vs.foldl (bestStep key t) none
/-- A place in a list, or none (-1), as the reference keeps it. -/
def PlaceOf (vs : List Ver3) (n : Int) (b : Option Ver3) : Prop := (n = -1 ∧ b = none) ∨ (∃ (j : Nat) (y : Ver3), n = j ∧ vs[j]? = some y ∧ b = some y)
def offR (bugs m : Int) : Bool := (bugs.tdiv m).tmod 2 == 0
def rnReadV (s : RSt) (txn key t : Int) : Int × Int × Int :=
  match blkOf s.ws txn key t with
  | (by_, locked) => if locked && offR s.bugs 2 then (0, by_, 60) else (((bestOf s.vs key t).map (·.val)).getD 0, 0, 0)
def RnReadQ (s : RSt) (txn key t : Int) (w : World) (e : Ending) (w' : World) : Prop :=
  e = .returned (.tuple #[vi (rnReadV s txn key t).1, vi (rnReadV s txn key t).2.1, vi (rnReadV s txn key t).2.2]) ∧ Below w.heap.size w w'

set_option maxRecDepth 100000 in
set_option maxHeartbeats 16000000 in
theorem rnRead_call (x : RSV) (txn key t : Int) (w : World) (hx : RdSt w x) (hbg : 0 ≤ x.s.bugs ∧ x.s.bugs ≤ 63) :
    Calls Try.prog 37 #[rsV x, vi txn, vi key, vi t] w (RnReadQ x.s txn key t w) := by
  obtain ⟨vv, wv, ev, s⟩ := x
  have HV := Lib.hid hx.vs
  have HW := Lib.hid hx.ws
  obtain ⟨av, nv, cv, hwv, rfl, hmv, -⟩ := (show RdVer3 w vv s.vs from hx.vs).at
  obtain ⟨aw, nw, cw, hww, rfl, hmw, -⟩ := (show RdRdy w wv s.ws from hx.ws).at
  subst hwv hww
  simp only at HV HW hbg
  have HB := Lib.hid ((Below.refl w.heap.size w).alloc (Nat.le_refl _) (.cells (rsC ⟨.slice av s.vs.length cv, .slice aw s.ws.length cw, ev, s⟩) 52))
  have HA := alloc_at w (.cells (rsC ⟨.slice av s.vs.length cv, .slice aw s.ws.length cw, ev, s⟩) 52)
  clear hx
  unfold rsV rsC at *
  simp only at HB HA
  go_enter Try.func37, Try.ntmps37
  go_upto_region 3 with fail
  generalize hw1 : (w.alloc (.cells #[.bool s.serial, vi s.bugs, .slice av s.vs.length cv, .slice aw s.ws.length cw, ev] 52)) = w1 at *
  have HBW := Lib.hid HB.out
  obtain ⟨X, hX⟩ : ∃ X, X = w.heap.size := ⟨_, rfl⟩
  rw [← hX] at HA HB ⊢
  have hXl : X < w1.heap.size := (Array.getElem?_eq_some_iff.1 HA).1
  have HK := Lib.hid (show ∀ W, Below w1.heap.size w1 W → W.heap[X]? = some (.cells #[.bool s.serial, vi s.bugs, .slice av s.vs.length cv, .slice aw s.ws.length cw, ev] 52) from fun W hW => (hW.block X hXl).trans HA)
  have a3 : w1.cell? ⟨X, 3, none⟩ = some (.slice aw s.ws.length cw) := by rw [cell_of HA]; rfl
  clear HA hw1
  have hsw1 := HB.out.size
  have HX := Lib.hid hX
  clear hX
  go_wp2_with fail
  go_loopw [11, 12, 21] (fun b l i wr => ∃ k : Nat, k ≤ s.ws.length ∧ i = vi k ∧ b = vi ((s.ws.take k).foldl (blkStep txn key t) (0, false)).1 ∧ l = .bool ((s.ws.take k).foldl (blkStep txn key t) (0, false)).2 ∧ Hid (Below w1.heap.size w1 wr)) (fun _ _ i _ => s.ws.length - (intOf i).toNat)
  case atStart => exact ⟨0, Nat.zero_le _, rfl, rfl, rfl, Lib.hid (Below.refl _ _)⟩
  case round =>
    obtain ⟨wj, rfl⟩ : ∃ wj : World, wj = wr := ⟨_, rfl⟩
    obtain ⟨k, hk, rfl, rfl, rfl, HJ⟩ := hrel
    clear a3
    by_cases hlt : k < s.ws.length
    · have k1 : decide ((k : Int) < s.ws.length) = true := decide_eq_true (by omega)
      have k2 : (k : Int) < s.ws.length := by omega
      have hwk : IntKind.i64.wrap ((k : Int) + 1) = (k : Int) + 1 := IntWalk.i64_in _ (by omega)
      obtain ⟨r, hr⟩ := some_at hlt
      have HF := Lib.hid (fold_take (f := blkStep txn key t) (b := (0, false)) hr)
      have HWJ := Lib.hid (HBW.out.trans (HJ.out.mono hsw1))
      obtain ⟨g, off, rw_, rr, ha, hrs, c0, c1, c2, c3, c4⟩ := (HW.out.later HWJ.out).el hr
      subst ha
      have hsz := HJ.out.size
      obtain ⟨a1, l1, e1, rfl, -, -, -⟩ := (show RdOps wj rw_ r.writes from hrs.ws).at
      obtain ⟨a2, l2, e2, rfl, -, -, -⟩ := (show RdInts wj rr r.reads from hrs.rs).at
      have HRS := Lib.hid hrs
      obtain ⟨s0, hs0⟩ : ∃ b, b = (s.ws.take k).foldl (blkStep txn key t) (0, false) := ⟨_, rfl⟩
      rw [← hs0] at HF ⊢
      obtain ⟨by_, lk⟩ := s0
      have next : ∀ (W : World) (s' : Int × Bool), Below w1.heap.size w1 W → blkStep txn key t (by_, lk) r = s' → ∃ k_1 : Nat, k_1 ≤ s.ws.length ∧ vi ((k : Int) + 1) = vi k_1 ∧ vi s'.1 = vi ((s.ws.take k_1).foldl (blkStep txn key t) (0, false)).1 ∧ Value.bool s'.2 = .bool ((s.ws.take k_1).foldl (blkStep txn key t) (0, false)).2 ∧ Hid (Below w1.heap.size w1 W) := fun W s' hW hs' =>
        ⟨k + 1, by omega, by go_num, by rw [HF.out, hs'], by rw [HF.out, hs'], Lib.hid hW⟩
      have NEXT := Lib.hid next
      have hm : s.ws.length - (intOf (vi ((k : Int) + 1))).toNat < s.ws.length - (intOf (vi k)).toNat := by simp only [intOf]; omega
      have HM := Lib.hid hm
      clear next hm hs0 hrs
      clear hr
      go_upto_region 6 with fail
      have HBA := Lib.hid (HJ.out.alloc hsz (.cells #[vi r.txn, vi r.home, vi r.start, Value.slice a1 l1 e1, Value.slice a2 l2 e2] 61))
      have HRW := Lib.hid (HRS.out.later ((Below.refl _ _).alloc (Nat.le_refl _) (.cells #[vi r.txn, vi r.home, vi r.start, Value.slice a1 l1 e1, Value.slice a2 l2 e2] 61)))
      have hA := alloc_at wj (.cells #[vi r.txn, vi r.home, vi r.start, Value.slice a1 l1 e1, Value.slice a2 l2 e2] 61)
      obtain ⟨wa, hwa⟩ : ∃ W, W = wj.alloc (.cells #[vi r.txn, vi r.home, vi r.start, Value.slice a1 l1 e1, Value.slice a2 l2 e2] 61) := ⟨_, rfl⟩
      rw [← hwa] at HBA HRW hA ⊢
      have n0 : wa.cell? ⟨wj.heap.size, 0, none⟩ = some (vi r.txn) := by rw [cell_of hA]; rfl
      have n1 : wa.cell? ⟨wj.heap.size, 1, none⟩ = some (vi r.home) := by rw [cell_of hA]; rfl
      have n2 : wa.cell? ⟨wj.heap.size, 2, none⟩ = some (vi r.start) := by rw [cell_of hA]; rfl
      have n3 : wa.cell? ⟨wj.heap.size, 3, none⟩ = some (.slice a1 l1 e1) := by rw [cell_of hA]; rfl
      have n4 : wa.cell? ⟨wj.heap.size, 4, none⟩ = some (.slice a2 l2 e2) := by rw [cell_of hA]; rfl
      have hc := rnWrites_call ⟨Value.slice a1 l1 e1, Value.slice a2 l2 e2, r⟩ key wa HRW.out
      unfold rdyV rdyC at hc
      simp only at hc
      obtain ⟨b, hb⟩ : ∃ b, writesB r key = b := ⟨_, rfl⟩
      rw [hb] at hc
      have HC := Lib.hid hc
      have HBB := Lib.hid hb
      clear hc hb hwa hA
      cases hq1 : (r.txn != txn) with
      | false =>
        go_wp2_with fail
        exact ⟨NEXT.out _ (by_, lk) HBA.out (by unfold blkStep; rw [hq1]; rfl), HM.out⟩
      | true =>
        cases b with
        | false =>
          go_wp2_with (go_at_call 73; refine HC.out.mono ?_; rintro e w2 ⟨rfl, hb2⟩; have m2 := cell_later hb2 n2; have m0 := cell_later hb2 n0; have HB2 := Lib.hid (HBA.out.trans (hb2.mono HBA.out.size)); clear hb2)
          exact ⟨NEXT.out _ (by_, lk) HB2.out (by unfold blkStep; rw [hq1, HBB.out]; rfl), HM.out⟩
        | true =>
          cases hq2 : decide (r.start < t) with
          | false =>
            go_wp2_with (go_at_call 73; refine HC.out.mono ?_; rintro e w2 ⟨rfl, hb2⟩; have m2 := cell_later hb2 n2; have m0 := cell_later hb2 n0; have HB2 := Lib.hid (HBA.out.trans (hb2.mono HBA.out.size)); clear hb2)
            exact ⟨NEXT.out _ (by_, lk) HB2.out (by unfold blkStep; rw [hq1, HBB.out, hq2]; rfl), HM.out⟩
          | true =>
            cases lk with
            | false =>
              go_wp2_with (go_at_call 73; refine HC.out.mono ?_; rintro e w2 ⟨rfl, hb2⟩; have m2 := cell_later hb2 n2; have m0 := cell_later hb2 n0; have HB2 := Lib.hid (HBA.out.trans (hb2.mono HBA.out.size)); clear hb2)
              exact ⟨NEXT.out _ (r.txn, true) HB2.out (by unfold blkStep; rw [hq1, HBB.out, hq2]; rfl), HM.out⟩
            | true =>
              cases hq3 : decide (r.txn < by_) with
              | false =>
                go_wp2_with (go_at_call 73; refine HC.out.mono ?_; rintro e w2 ⟨rfl, hb2⟩; have m2 := cell_later hb2 n2; have m0 := cell_later hb2 n0; have HB2 := Lib.hid (HBA.out.trans (hb2.mono HBA.out.size)); clear hb2)
                exact ⟨NEXT.out _ (by_, true) HB2.out (by unfold blkStep; simp only [hq1, HBB.out, hq2, hq3]; rfl), HM.out⟩
              | true =>
                go_wp2_with (go_at_call 73; refine HC.out.mono ?_; rintro e w2 ⟨rfl, hb2⟩; have m2 := cell_later hb2 n2; have m0 := cell_later hb2 n0; have HB2 := Lib.hid (HBA.out.trans (hb2.mono HBA.out.size)); clear hb2)
                exact ⟨NEXT.out _ (r.txn, true) HB2.out (by unfold blkStep; simp only [hq1, HBB.out, hq2, hq3]; rfl), HM.out⟩
    · have k1 : decide ((k : Int) < s.ws.length) = false := decide_eq_false (by omega)
      rw [fold_all hlt]
      have hbo : s.ws.foldl (blkStep txn key t) (0, false) = blkOf s.ws txn key t := rfl
      rw [hbo]
      obtain ⟨b0, hb0⟩ : ∃ b, blkOf s.ws txn key t = b := ⟨_, rfl⟩
      rw [hb0]
      have HB0 := Lib.hid hb0
      obtain ⟨by_, lk⟩ := b0
      have d1 : wj.cell? ⟨X, 1, none⟩ = some (vi s.bugs) := by rw [cell_of (HK.out wj HJ.out)]; rfl
      have d2 : wj.cell? ⟨X, 2, none⟩ = some (.slice av s.vs.length cv) := by rw [cell_of (HK.out wj HJ.out)]; rfl
      obtain ⟨q1, hq1⟩ : ∃ q, q = s.bugs.tdiv 2 := ⟨_, rfl⟩
      have hq1b : 0 ≤ q1 ∧ q1 ≤ 63 := by rw [hq1, Int.tdiv_eq_ediv_of_nonneg hbg.1]; omega
      have hwq1 : IntKind.i64.wrap (s.bugs.tdiv 2) = q1 := by rw [← hq1]; exact IntWalk.i64_in _ (by omega)
      have hoff : offR s.bugs 2 = (q1 % 2 == 0) := by unfold offR; rw [← hq1, Int.tmod_eq_emod_of_nonneg hq1b.1]
      have hwq2 : IntKind.i64.wrap (q1 % 2) = q1 % 2 := IntWalk.i64_in _ (by omega)
      have HOFF := Lib.hid hoff
      clear hq1 hoff
      have HBJ := Lib.hid (HBW.out.trans (HJ.out.mono hsw1))
      have fin : ∀ (W : World) (bv : Option Ver3), bestOf s.vs key t = bv → (lk && offR s.bugs 2) = false → rnReadV s txn key t = ((bv.map (·.val)).getD 0, 0, 0) := fun W bv hbv hl => by
        unfold rnReadV; rw [HB0.out]; simp only [hl, hbv]; rfl
      have FIN := Lib.hid fin
      clear fin hb0
      by_cases hz : lk = true ∧ (q1 % 2 == 0) = true
      · obtain ⟨rfl, hz⟩ := hz
        go_wp2_with fail
        refine bodyPost_ret (v := .tuple #[vi 0, vi by_, vi 60]) (by simp [results, Try.results37, go_sem]) rfl ⟨?_, HBJ.out⟩
        have : rnReadV s txn key t = (0, by_, 60) := by unfold rnReadV; rw [HB0.out]; simp only [HOFF.out, hz]; rfl
        rw [this]
      · have hoz : (lk && offR s.bugs 2) = false := by
          rw [HOFF.out]
          cases lk with
          | false => rfl
          | true =>
            cases hq : (q1 % 2 == 0) with
            | false => rfl
            | true => exact absurd ⟨rfl, hq⟩ hz
        have HOZ := Lib.hid hoz
        clear hoz
        have hzz : lk = false ∨ (lk = true ∧ (q1 % 2 == 0) = false) := by
          cases lk with
          | false => exact .inl rfl
          | true => exact .inr ⟨rfl, by
              cases hq : (q1 % 2 == 0) with
              | false => rfl
              | true => exact absurd ⟨rfl, hq⟩ hz⟩
        clear hz
        rcases hzz with rfl | ⟨rfl, hz2⟩
        all_goals
          go_wp2_with fail
          clear d1 d2
          go_loopw [15, 65] (fun b i wr => ∃ (k : Nat) (n : Int), k ≤ s.vs.length ∧ i = vi k ∧ b = vi n ∧ Hid (PlaceOf s.vs n ((s.vs.take k).foldl (bestStep key t) none)) ∧ Hid (Below w1.heap.size w1 wr)) (fun _ i _ => s.vs.length - (intOf i).toNat)
          case atStart => exact ⟨0, -1, Nat.zero_le _, rfl, rfl, Lib.hid (.inl ⟨rfl, rfl⟩), HJ⟩
          case round =>
            obtain ⟨wq, rfl⟩ : ∃ wq : World, wq = wr := ⟨_, rfl⟩
            obtain ⟨q, n, hq, rfl, rfl, HP, HQ⟩ := hrel
            by_cases hlt2 : q < s.vs.length
            · have z1 : decide ((q : Int) < s.vs.length) = true := decide_eq_true (by omega)
              have z2 : (q : Int) < s.vs.length := by omega
              have hwk : IntKind.i64.wrap ((q : Int) + 1) = (q : Int) + 1 := IntWalk.i64_in _ (by omega)
              obtain ⟨v, hv⟩ := some_at hlt2
              have HF := Lib.hid (fold_take (f := bestStep key t) (b := none) hv)
              have HWQ := Lib.hid (HBW.out.trans (HQ.out.mono hsw1))
              obtain ⟨g, off, ha, c0, c1, c2⟩ := (HV.out.later HWQ.out).el hv
              subst ha
              have hsz := HQ.out.size
              have HVV := Lib.hid hv
              clear hv
              obtain ⟨bo, hbo⟩ : ∃ b, b = (s.vs.take q).foldl (bestStep key t) none := ⟨_, rfl⟩
              rw [← hbo] at HF HP
              have next : ∀ (W : World) (m : Int) (s' : Option Ver3), Below w1.heap.size w1 W → bestStep key t bo v = s' → PlaceOf s.vs m s' → ∃ (k_1 : Nat) (n : Int), k_1 ≤ s.vs.length ∧ vi ((q : Int) + 1) = vi k_1 ∧ vi m = vi n ∧ Hid (PlaceOf s.vs n ((s.vs.take k_1).foldl (bestStep key t) none)) ∧ Hid (Below w1.heap.size w1 W) := fun W m s' hW hs' hm =>
                ⟨q + 1, m, by omega, by go_num, rfl, Lib.hid (by rw [HF.out, hs']; exact hm), Lib.hid hW⟩
              have NEXT := Lib.hid next
              have hm : s.vs.length - (intOf (vi ((q : Int) + 1))).toNat < s.vs.length - (intOf (vi q)).toNat := by simp only [intOf]; omega
              have HM := Lib.hid hm
              clear next hm hbo
              have d2 : wq.cell? ⟨X, 2, none⟩ = some (.slice (some ⟨g, off, none⟩) s.vs.length cv) := by rw [cell_of (HK.out wq HQ.out)]; rfl
              have HBV := Lib.hid (HQ.out.alloc hsz (.cells #[vi v.key, vi v.at_, vi v.val] 151))
              have hPv : PlaceOf s.vs q (some v) := .inr ⟨q, v, rfl, HVV.out, rfl⟩
              have HPV := Lib.hid hPv
              have ht1 : ∀ b1 b2 b3, (v.key == key) = b1 → decide (v.at_ ≤ t) = b2 → newer bo v = b3 → bestStep key t bo v = if b1 && b2 && b3 then some v else bo := fun b1 b2 b3 h1 h2 h3 => by unfold bestStep; rw [h1, h2, h3]
              have HT := Lib.hid ht1
              clear hPv ht1
              cases hq1 : (v.key == key) with
              | false =>
                go_wp2_with fail
                go_quiet (fail)
                go_wp2_with fail
                exact ⟨NEXT.out _ n bo (below_drN HBV.out _) (HT.out _ _ _ hq1 rfl rfl) HP.out, HM.out⟩
              | true =>
                cases hq2 : decide (v.at_ ≤ t) with
                | false =>
                  go_wp2_with fail
                  go_quiet (fail)
                  go_wp2_with fail
                  exact ⟨NEXT.out _ n bo (below_drN HBV.out _) (HT.out _ _ _ hq1 hq2 rfl) HP.out, HM.out⟩
                | true =>
                  rcases HP.out with ⟨rfl, rfl⟩ | ⟨j, y, rfl, hy, rfl⟩
                  · go_wp2_with fail
                    go_quiet (fail)
                    go_wp2_with fail
                    exact ⟨NEXT.out _ q (some v) (below_drN HBV.out _) (HT.out _ _ _ hq1 hq2 rfl) HPV.out, HM.out⟩
                  · have hjl : j < s.vs.length := (List.getElem?_eq_some_iff.1 hy).1
                    have hjz : (j : Int) < s.vs.length := by omega
                    have hj0 : decide ((j : Int) < 0) = false := decide_eq_false (by omega)
                    have hj1 : (0 : Int) ≤ (j : Int) := by omega
                    obtain ⟨g', off', ha, y0, y1, y2⟩ := (HV.out.later HWQ.out).el hy
                    simp only [Option.some.injEq, Addr.mk.injEq, and_true] at ha
                    obtain ⟨rfl, rfl⟩ := ha
                    have y1' := cell_later ((Below.refl _ wq).alloc (Nat.le_refl _) (.cells #[vi v.key, vi v.at_, vi v.val] 151)) y1
                    have d2' := cell_later ((Below.refl _ wq).alloc (Nat.le_refl _) (.cells #[vi v.key, vi v.at_, vi v.val] 151)) d2
                    clear hy
                    cases hq3 : decide (y.at_ < v.at_) with
                    | false =>
                      go_wp2_with fail
                      go_quiet (fail)
                      go_wp2_with fail
                      exact ⟨NEXT.out _ j (some y) (below_drN HBV.out _) (HT.out _ _ _ hq1 hq2 hq3) HP.out, HM.out⟩
                    | true =>
                      go_wp2_with fail
                      go_quiet (fail)
                      go_wp2_with fail
                      exact ⟨NEXT.out _ q (some v) (below_drN HBV.out _) (HT.out _ _ _ hq1 hq2 hq3) HPV.out, HM.out⟩
            · have z1 : decide ((q : Int) < s.vs.length) = false := decide_eq_false (by omega)
              rw [fold_all hlt2] at HP
              have hbo : s.vs.foldl (bestStep key t) none = bestOf s.vs key t := rfl
              rw [hbo] at HP
              have HWQ := Lib.hid (HBW.out.trans (HQ.out.mono hsw1))
              rcases HP.out with ⟨rfl, hbn⟩ | ⟨j, y, rfl, hy, hby⟩
              · have hr := FIN.out wq none hbn HOZ.out
                go_wp2_with fail
                refine bodyPost_ret (v := .tuple #[vi 0, vi 0, vi 0]) (by simp [results, Try.results37, go_sem]) rfl ⟨?_, HWQ.out⟩
                rw [hr]; rfl
              · have hr := FIN.out wq (some y) hby HOZ.out
                have hjl : j < s.vs.length := (List.getElem?_eq_some_iff.1 hy).1
                have hjz : (j : Int) < s.vs.length := by omega
                have hj0 : decide ((j : Int) < 0) = false := decide_eq_false (by omega)
                obtain ⟨g, off, ha, c0, c1, c2⟩ := (HV.out.later HWQ.out).el hy
                subst ha
                have d2 : wq.cell? ⟨X, 2, none⟩ = some (.slice (some ⟨g, off, none⟩) s.vs.length cv) := by rw [cell_of (HK.out wq HQ.out)]; rfl
                clear hy hby
                go_wp2_with fail
                refine bodyPost_ret (v := .tuple #[vi y.val, vi 0, vi 0]) (by simp [results, Try.results37, go_sem]) rfl ⟨?_, HWQ.out⟩
                rw [hr]; rfl
end Go.Proofs.Ytdkkpkgfiodlbaa
