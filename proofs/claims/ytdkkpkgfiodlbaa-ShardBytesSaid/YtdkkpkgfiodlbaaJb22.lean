/- Texts of one proof, one behind the other: Rn21S, SbLaw. -/
import Derived.Test.YtdkkpkgfiodlbaaJb21
import Derived.Test.YtdkkpkgfiodlbaaJb13
import Derived.Test.YtdkkpkgfiodlbaaJb20
set_option linter.all false
/- Layer 21's law: same, at two answers that are the same. -/
namespace Go.Proofs.Ytdkkpkgfiodlbaa
open Go.RowKit Go.Maps
attribute [local go_sem] Oper.semAt_some

set_option maxRecDepth 1000000 in
set_option maxHeartbeats 8000000 in
theorem same21_call (a : Ans) (vv ww : Value) (w : World) (hv : RdV w vv a.vals) (hw : RdV w ww a.vals) (hl : a.vals.length ≤ 1000) :
    Calls Try.prog 18 #[ansV a vv, ansV a ww] w fun e w' => e = .returned (.bool true) ∧ Below w.heap.size w w' := by
  obtain ⟨a1, n1, c1, hv1, hn1, -⟩ := id hv
  obtain ⟨a2, n2, c2, hv2, hn2, -⟩ := id hw
  subst hv1 hv2 hn1 hn2
  have HV := Lib.hid hv
  have HW := Lib.hid hw
  clear hv hw
  unfold ansV ansC
  have h2 := heap2_al w (.cells #[vi a.err, .slice a1 a.vals.length c1, vi a.at_, vi a.by_, vi a.home, vi a.e.txn, .bool a.e.commit, vi a.e.at_] 37) (.cells #[vi a.err, .slice a2 a.vals.length c2, vi a.at_, vi a.by_, vi a.home, vi a.e.txn, .bool a.e.commit, vi a.e.at_] 58)
  have HX := Lib.hid h2.1
  have HY := Lib.hid h2.2.1
  have HB := Lib.hid h2.2.2
  clear h2
  go_enter Try.func18, Try.ntmps18
  go_upto_region 1 with fail
  generalize ((w.alloc (.cells #[vi a.err, .slice a1 a.vals.length c1, vi a.at_, vi a.by_, vi a.home, vi a.e.txn, .bool a.e.commit, vi a.e.at_] 37)).alloc (.cells #[vi a.err, .slice a2 a.vals.length c2, vi a.at_, vi a.by_, vi a.home, vi a.e.txn, .bool a.e.commit, vi a.e.at_] 58)) = w2 at *
  obtain ⟨X, hX⟩ : ∃ X, X = w.heap.size := ⟨_, rfl⟩
  rw [← hX] at HX HY ⊢
  clear hX
  have x0 : w2.cell? ⟨X, 0, none⟩ = some (vi a.err) := (by rw [cell_of HX.out]; rfl)
  have x1 : w2.cell? ⟨X, 1, none⟩ = some (.slice a1 a.vals.length c1) := (by rw [cell_of HX.out]; rfl)
  have x2 : w2.cell? ⟨X, 2, none⟩ = some (vi a.at_) := (by rw [cell_of HX.out]; rfl)
  have x3 : w2.cell? ⟨X, 3, none⟩ = some (vi a.by_) := (by rw [cell_of HX.out]; rfl)
  have x4 : w2.cell? ⟨X, 4, none⟩ = some (vi a.home) := (by rw [cell_of HX.out]; rfl)
  have x5 : w2.cell? ⟨X, 5, none⟩ = some (vi a.e.txn) := (by rw [cell_of HX.out]; rfl)
  have x6 : w2.cell? ⟨X, 6, none⟩ = some (.bool a.e.commit) := (by rw [cell_of HX.out]; rfl)
  have x7 : w2.cell? ⟨X, 7, none⟩ = some (vi a.e.at_) := (by rw [cell_of HX.out]; rfl)
  have y0 : w2.cell? ⟨X + 1, 0, none⟩ = some (vi a.err) := (by rw [cell_of HY.out]; rfl)
  have y1 : w2.cell? ⟨X + 1, 1, none⟩ = some (.slice a2 a.vals.length c2) := (by rw [cell_of HY.out]; rfl)
  have y2 : w2.cell? ⟨X + 1, 2, none⟩ = some (vi a.at_) := (by rw [cell_of HY.out]; rfl)
  have y3 : w2.cell? ⟨X + 1, 3, none⟩ = some (vi a.by_) := (by rw [cell_of HY.out]; rfl)
  have y4 : w2.cell? ⟨X + 1, 4, none⟩ = some (vi a.home) := (by rw [cell_of HY.out]; rfl)
  have y5 : w2.cell? ⟨X + 1, 5, none⟩ = some (vi a.e.txn) := (by rw [cell_of HY.out]; rfl)
  have y6 : w2.cell? ⟨X + 1, 6, none⟩ = some (.bool a.e.commit) := (by rw [cell_of HY.out]; rfl)
  have y7 : w2.cell? ⟨X + 1, 7, none⟩ = some (vi a.e.at_) := (by rw [cell_of HY.out]; rfl)
  go_wp2_with fail
  clear x0 x1 x2 x3 x4 x5 x6 x7 y0 y1 y2 y3 y4 y5 y6 y7
  have hw2 : w.heap.size ≤ w2.heap.size := HB.out.size
  go_loopw [51] (fun i wr => ∃ k : Nat, k ≤ a.vals.length ∧ i = vi k ∧ Hid (Below w2.heap.size w2 wr)) (fun i _ => a.vals.length - (intOf i).toNat)
  case atStart => exact ⟨0, Nat.zero_le _, rfl, Lib.hid (Below.refl _ _)⟩
  case round =>
    obtain ⟨wj, rfl⟩ : ∃ wj : World, wj = wr := ⟨_, rfl⟩
    obtain ⟨k, hk, rfl, HJ⟩ := hrel
    have HWJ := Lib.hid (HB.out.trans (HJ.out.mono hw2))
    by_cases hlt : k < a.vals.length
    · have k1 : decide ((k : Int) < a.vals.length) = true := decide_eq_true (by omega)
      have k2 : (k : Int) < a.vals.length := by omega
      have k3 : (0 : Int) ≤ (k : Int) := by omega
      have hwk : IntKind.i64.wrap ((k : Int) + 1) = (k : Int) + 1 := IntWalk.i64_in _ (by omega)
      obtain ⟨o, ho⟩ := some_at hlt
      obtain ⟨g, off, ha, c0⟩ := (HV.out.later HWJ.out).el ho
      obtain ⟨g', off', ha', c0'⟩ := (HW.out.later HWJ.out).el ho
      subst ha ha'
      have x1 : wj.cell? ⟨X, 1, none⟩ = some (.slice (some ⟨g, off, none⟩) a.vals.length c1) := by rw [cell_of ((HJ.out.block _ (Array.getElem?_eq_some_iff.1 HX.out).1).trans HX.out)]; rfl
      have y1 : wj.cell? ⟨X + 1, 1, none⟩ = some (.slice (some ⟨g', off', none⟩) a.vals.length c2) := by rw [cell_of ((HJ.out.block _ (Array.getElem?_eq_some_iff.1 HY.out).1).trans HY.out)]; rfl
      go_upto_region 6 with fail
      go_quiet (fail)
      all_goals go_wp2_with fail
      all_goals exact ⟨⟨k + 1, by omega, by go_num, Lib.hid (below_drewN HJ.out _)⟩, by simp only [intOf]; omega⟩
    · have k1 : decide ((k : Int) < a.vals.length) = false := decide_eq_false (by omega)
      go_wp2_with fail
      go_ret
      exact ⟨rfl, HWJ.out⟩
end Go.Proofs.Ytdkkpkgfiodlbaa

/- The walk of ShardBytes. Printed by wip/gen/gen_sblaw.py. -/
namespace Go.Proofs.Ytdkkpkgfiodlbaa
open Go.RowKit Go.Maps

theorem same_yes {v v' : Value} {a : List Nat} (w : World) (h : Src w v 1 a.length (a.map u8)) (h' : Src w v' 1 a.length (a.map u8)) (ha : ∀ x ∈ a, x < 256) :
    Calls Try.prog 21 #[v, v'] w fun e w' => e = .returned (.bool true) ∧ w = w' :=
  (sameB_call w h h' ha ha).mono fun e w' he => ⟨by rw [he.1, beq_self_eq_true], he.2⟩
theorem bt_lt (L : List Bool) : ∀ b ∈ btBytes L, b < 256 := by
  intro b hb
  obtain ⟨j, _, rfl⟩ := List.mem_map.1 hb
  exact btByte_lt _ _
theorem cmd_rows {b W : _} {wv rv : Value} {r : Rdy} (h : OwOps b W wv r.writes) (k : OwI b W rv r.reads) (hi : ∀ x ∈ r.reads, i64 x) : RdyS W ⟨wv, rv, r⟩ :=
  ⟨own_rds (enc := opV) (E := EOp) (fun _ => rfl) h (fun _ _ => rfl), own_rds (enc := viC) (fun _ => rfl) k (fun x hx => ⟨rfl, hi x hx⟩)⟩
theorem rdv_of_rd {w : World} {v : Value} {l : List Int} (h : RdInts w v l) : RdV w v l := by
  obtain ⟨a, len, cap, h1, h2, h3, h4, h5, h6⟩ := h
  refine ⟨a, len, cap, h1, h2, h3, h4, h5, fun j x hj => ?_⟩
  obtain ⟨b, off, cs, ha, hl, hc, he⟩ := h6 j x hj
  exact ⟨b, off, cs, ha, hl, hc, he.1⟩
set_option maxRecDepth 1000000 in
set_option maxHeartbeats 2500000 in
theorem shardBytes.walk (v0 v1 v2 : Value) (c : Cmd21) (a : Ans) (bs : List Nat) (w : World) (r0 : CmdVI w v0 c) (r1 : AnsVI w v1 a) (r2 : RdB21 w v2 bs) :
    Calls Try.prog 6 #[v0, v1, v2] w fun e w' => e = .returned (.bool true) ∧ Below w.heap.size w w' := by
  obtain ⟨wv, rv, rfl, hrd, hri, hei, hk64⟩ := r0
  obtain ⟨vv, rfl, hrv, haj⟩ := r1
  obtain ⟨hsb, hb256, hbm⟩ := r2
  obtain ⟨aw, cw, ar, cr, hw0, hr0, lw0, lr0⟩ := rdv_slices21 hrd
  simp only at hw0 hr0 lw0 lr0
  subst hw0 hr0
  obtain ⟨av, nv, cv, hvv, rfl, hmv, -⟩ := hrv.at
  subst hvv
  obtain ⟨ab, cb, rfl, -, -, -⟩ := id hsb
  have HRD := Lib.hid hrd
  have HRI := Lib.hid hri
  have HEI := Lib.hid hei
  have HK64 := Lib.hid hk64
  have HRV := Lib.hid hrv
  have HAJ := Lib.hid haj
  have HSB := Lib.hid hsb
  have H256 := Lib.hid hb256
  clear hrd hri hei hk64 hrv haj hsb hb256
  have h2 := heap2_al w (.cells #[vi c.k, vi c.r.txn, vi c.r.home, vi c.r.start, .slice aw c.r.writes.length cw, .slice ar c.r.reads.length cr, vi c.e.txn, .bool c.e.commit, vi c.e.at_] 33) (.cells #[vi a.err, .slice av a.vals.length cv, vi a.at_, vi a.by_, vi a.home, vi a.e.txn, .bool a.e.commit, vi a.e.at_] 37)
  have HX := Lib.hid h2.1
  have HY := Lib.hid h2.2.1
  have HB0 := Lib.hid h2.2.2
  clear h2
  unfold cmdV cmdC ansV ansC
  go_enter Try.func6, Try.ntmps6
  go_upto_region 1 with fail
  generalize ((w.alloc (.cells #[vi c.k, vi c.r.txn, vi c.r.home, vi c.r.start, .slice aw c.r.writes.length cw, .slice ar c.r.reads.length cr, vi c.e.txn, .bool c.e.commit, vi c.e.at_] 33)).alloc (.cells #[vi a.err, .slice av a.vals.length cv, vi a.at_, vi a.by_, vi a.home, vi a.e.txn, .bool a.e.commit, vi a.e.at_] 37)) = w0 at *
  obtain ⟨X, hX⟩ : ∃ X, X = w.heap.size := ⟨_, rfl⟩
  rw [← hX] at HX HY ⊢
  have HXE := Lib.hid hX
  clear hX
  go_wp2_with fail
  refine (head21_call w0).mono ?_
  rintro e w1 ⟨rfl, hb1⟩
  have HB1 := Lib.hid (HB0.out.trans (hb1.mono HB0.out.size))
  have HX1 := Lib.hid ((hb1.block X (Array.getElem?_eq_some_iff.1 HX.out).1).trans HX.out)
  have HY1 := Lib.hid ((hb1.block (X + 1) (Array.getElem?_eq_some_iff.1 HY.out).1).trans HY.out)
  clear hb1 HX HY HB0
  dsimp only
  have x0 : w1.cell? ⟨X, 0, none⟩ = some (vi c.k) := by rw [Bt.cell_of HX1.out]; rfl
  have x1 : w1.cell? ⟨X, 1, none⟩ = some (vi c.r.txn) := by rw [Bt.cell_of HX1.out]; rfl
  have x2 : w1.cell? ⟨X, 2, none⟩ = some (vi c.r.home) := by rw [Bt.cell_of HX1.out]; rfl
  have x3 : w1.cell? ⟨X, 3, none⟩ = some (vi c.r.start) := by rw [Bt.cell_of HX1.out]; rfl
  have x4 : w1.cell? ⟨X, 4, none⟩ = some (.slice aw c.r.writes.length cw) := by rw [Bt.cell_of HX1.out]; rfl
  have x5 : w1.cell? ⟨X, 5, none⟩ = some (.slice ar c.r.reads.length cr) := by rw [Bt.cell_of HX1.out]; rfl
  have x6 : w1.cell? ⟨X, 6, none⟩ = some (vi c.e.txn) := by rw [Bt.cell_of HX1.out]; rfl
  have x7 : w1.cell? ⟨X, 7, none⟩ = some (.bool c.e.commit) := by rw [Bt.cell_of HX1.out]; rfl
  have x8 : w1.cell? ⟨X, 8, none⟩ = some (vi c.e.at_) := by rw [Bt.cell_of HX1.out]; rfl
  go_wp2_with fail
  refine (big21_call c.k c.e.txn c.e.at_ c.e.commit aw ar cw cr c.r w1 lw0 lr0).mono ?_
  rintro e3 w2 ⟨rfl, hb2⟩
  have HB2 := Lib.hid (HB1.out.trans (hb2.mono HB1.out.size))
  have HX2 := Lib.hid ((hb2.block X (Array.getElem?_eq_some_iff.1 HX1.out).1).trans HX1.out)
  have HY2 := Lib.hid ((hb2.block (X + 1) (Array.getElem?_eq_some_iff.1 HY1.out).1).trans HY1.out)
  clear hb2 HX1 HY1 HB1 x0 x1 x2 x3 x4 x5 x6 x7 x8
  dsimp only
  cases hbig : bigC c.r with
  | true =>
    go_wp2_with fail
    go_ret
    exact ⟨rfl, HB2.out⟩
  | false =>
  have HCI := Lib.hid (show CmdI c from ⟨HK64.out, HRI.out, HEI.out, (bigC_false hbig).1, (bigC_false hbig).2⟩)
  clear hbig
  have y1 : w2.cell? ⟨X + 1, 1, none⟩ = some (.slice av a.vals.length cv) := by rw [Bt.cell_of HY2.out]; rfl
  by_cases h50 : 50 < a.vals.length
  · have g1 : decide ((50 : Int) < a.vals.length) = true := decide_eq_true (by omega)
    go_wp2_with fail
    go_ret
    exact ⟨rfl, HB2.out⟩
  have g1 : decide ((50 : Int) < a.vals.length) = false := decide_eq_false (by omega)
  by_cases h2000 : 2000 < bs.length
  · have g2 : decide ((2000 : Int) < bs.length) = true := decide_eq_true (by omega)
    go_wp2_with fail
    go_ret
    exact ⟨rfl, HB2.out⟩
  have g2 : decide ((2000 : Int) < bs.length) = false := decide_eq_false (by omega)
  have HT := Lib.hid (show (ansL a).length ≤ 900000 from by
    have l1 := intL_length HAJ.out.err
    have l2 := numL_length a.vals.length (by omega)
    have l3 := intsBL_length a.vals HAJ.out.vals
    have l4 := intL_length HAJ.out.at_
    have l5 := intL_length HAJ.out.by_
    have l6 := intL_length HAJ.out.home
    have l7 := endBL_length HAJ.out.e
    simp only [ansL, List.length_append]; omega)
  have HTC := Lib.hid (show (cmdL c).length ≤ 900000 from by have := cmdL_length HCI.out; omega)
  go_upto_region 5 with fail
  clear y1 g1 g2
  have x0 : w2.cell? ⟨X, 0, none⟩ = some (vi c.k) := by rw [Bt.cell_of HX2.out]; rfl
  have x1 : w2.cell? ⟨X, 1, none⟩ = some (vi c.r.txn) := by rw [Bt.cell_of HX2.out]; rfl
  have x2 : w2.cell? ⟨X, 2, none⟩ = some (vi c.r.home) := by rw [Bt.cell_of HX2.out]; rfl
  have x3 : w2.cell? ⟨X, 3, none⟩ = some (vi c.r.start) := by rw [Bt.cell_of HX2.out]; rfl
  have x4 : w2.cell? ⟨X, 4, none⟩ = some (.slice aw c.r.writes.length cw) := by rw [Bt.cell_of HX2.out]; rfl
  have x5 : w2.cell? ⟨X, 5, none⟩ = some (.slice ar c.r.reads.length cr) := by rw [Bt.cell_of HX2.out]; rfl
  have x6 : w2.cell? ⟨X, 6, none⟩ = some (vi c.e.txn) := by rw [Bt.cell_of HX2.out]; rfl
  have x7 : w2.cell? ⟨X, 7, none⟩ = some (.bool c.e.commit) := by rw [Bt.cell_of HX2.out]; rfl
  have x8 : w2.cell? ⟨X, 8, none⟩ = some (vi c.e.at_) := by rw [Bt.cell_of HX2.out]; rfl
  go_upto_region 6 with (go_at_call 12; refine (cmdBytes_call2 c (.slice aw c.r.writes.length cw) (.slice ar c.r.reads.length cr) w2 (HRD.out.later HB2.out) HCI.out.j HTC.out).mono ?_; rintro e4 w3 ⟨vx, rfl, hox, hb3⟩; have HOX := Lib.hid hox; have HB3 := Lib.hid (HB2.out.trans (hb3.mono HB2.out.size)); have HX3 := Lib.hid ((hb3.block X (Array.getElem?_eq_some_iff.1 HX2.out).1).trans HX2.out); have HY3 := Lib.hid ((hb3.block (X + 1) (Array.getElem?_eq_some_iff.1 HY2.out).1).trans HY2.out); clear hox hb3)
  clear HX2 HY2 HB2 x0 x1 x2 x3 x4 x5 x6 x7 x8
  have x0 : w3.cell? ⟨X, 0, none⟩ = some (vi c.k) := by rw [Bt.cell_of HX3.out]; rfl
  have x1 : w3.cell? ⟨X, 1, none⟩ = some (vi c.r.txn) := by rw [Bt.cell_of HX3.out]; rfl
  have x2 : w3.cell? ⟨X, 2, none⟩ = some (vi c.r.home) := by rw [Bt.cell_of HX3.out]; rfl
  have x3 : w3.cell? ⟨X, 3, none⟩ = some (vi c.r.start) := by rw [Bt.cell_of HX3.out]; rfl
  have x4 : w3.cell? ⟨X, 4, none⟩ = some (.slice aw c.r.writes.length cw) := by rw [Bt.cell_of HX3.out]; rfl
  have x5 : w3.cell? ⟨X, 5, none⟩ = some (.slice ar c.r.reads.length cr) := by rw [Bt.cell_of HX3.out]; rfl
  have x6 : w3.cell? ⟨X, 6, none⟩ = some (vi c.e.txn) := by rw [Bt.cell_of HX3.out]; rfl
  have x7 : w3.cell? ⟨X, 7, none⟩ = some (.bool c.e.commit) := by rw [Bt.cell_of HX3.out]; rfl
  have x8 : w3.cell? ⟨X, 8, none⟩ = some (vi c.e.at_) := by rw [Bt.cell_of HX3.out]; rfl
  go_upto_region 8 with (first
    | (go_at_call 21; refine (same_yes w5 HSX5.out HSX6.out (bt_lt _)).mono ?_; rintro e7 w6 ⟨rfl, rfl⟩)
    | (go_at_call 22; refine (cmdBytes21_call (killC c) wv4 (.slice ar c.r.reads.length cr) w4 HR4.out (CmdI.bok HCI.out).j (by rw [killC_bits]; exact HTC.out)).mono ?_; rintro e6 w5 ⟨vy, rfl, hoy, hb5⟩; have HB5 := Lib.hid (HB4.out.trans (hb5.mono HB4.out.size)); have HSX5 := Lib.hid (show Src w5 vx 1 (btBytes (cmdL c)).length ((btBytes (cmdL c)).map u8) from own_src (own_below HOX4.out hb5)); have HSX6 := Lib.hid (show Src w5 vy 1 (btBytes (cmdL c)).length ((btBytes (cmdL c)).map u8) from by rw [killC_bits] at hoy; exact own_src hoy); have HX5 := Lib.hid ((hb5.block X (Array.getElem?_eq_some_iff.1 HX4.out).1).trans HX4.out); have HY5 := Lib.hid ((hb5.block (X + 1) (Array.getElem?_eq_some_iff.1 HY4.out).1).trans HY4.out); clear hoy hb5)
    | (go_at_call 17; refine (plain_call c (.slice aw c.r.writes.length cw) (.slice ar c.r.reads.length cr) w3 (HRD.out.later HB3.out) (by have := HCI.out.lw; omega)).mono ?_; rintro e5 w4 ⟨wv4, rfl, hr4, hb4⟩; have HR4 := Lib.hid hr4; have HB4 := Lib.hid (HB3.out.trans (hb4.mono HB3.out.size)); have HOX4 := Lib.hid (own_below HOX.out hb4); have HX4 := Lib.hid ((hb4.block X (Array.getElem?_eq_some_iff.1 HX3.out).1).trans HX3.out); have HY4 := Lib.hid ((hb4.block (X + 1) (Array.getElem?_eq_some_iff.1 HY3.out).1).trans HY3.out); clear hr4 hb4))
  clear HX3 HY3 HB3 HOX4 HX4 HY4 HB4 HOX HSX6 HR4 x0 x1 x2 x3 x4 x5 x6 x7 x8
  go_wp2_with fail
  refine (shRead_call (bs := btBytes (cmdL c)) w5 HSX5.out (bt_lt _) (by rw [btBytes_length]; have := HTC.out; omega)).mono ?_
  rintro e8 w6 ⟨d, dwv, drv, err, rfl, hcr⟩
  obtain ⟨dw, ew, hdw⟩ := Bt.own_shape (show World.ownsRow _ _ _ _ dwv d.r.writes.length _ from hcr.ws)
  obtain ⟨dr, er, hdr⟩ := Bt.own_shape (show World.ownsRow _ _ _ _ drv d.r.reads.length _ from hcr.rs)
  subst hdw hdr
  have hall := hcr.all (killC c) _ HCI.out.bok (bitsOf_btBytes (cmdL c)).choose_spec.1 (by rw [killC_bits]; exact (bitsOf_btBytes (cmdL c)).choose_spec.2)
  have hf6 := (Below.refl w6.heap.size w6).alloc (Nat.le_refl _) (.cells #[vi d.k, vi d.r.txn, vi d.r.home, vi d.r.start, .slice dw d.r.writes.length ew, .slice dr d.r.reads.length er, vi d.e.txn, .bool d.e.commit, vi d.e.at_] 33)
  have HB7 := Lib.hid ((HB5.out.trans (hcr.bel.mono HB5.out.size)).trans (hf6.mono (Nat.le_trans HB5.out.size hcr.bel.size)))
  have HBR7 := Lib.hid (hcr.bel.trans (hf6.mono hcr.bel.size))
  have HD7 := Lib.hid (alloc_at w6 (.cells #[vi d.k, vi d.r.txn, vi d.r.home, vi d.r.start, .slice dw d.r.writes.length ew, .slice dr d.r.reads.length er, vi d.e.txn, .bool d.e.commit, vi d.e.at_] 33))
  have HX7 := Lib.hid ((HBR7.out.block X (Array.getElem?_eq_some_iff.1 HX5.out).1).trans HX5.out)
  have HY7 := Lib.hid ((HBR7.out.block (X + 1) (Array.getElem?_eq_some_iff.1 HY5.out).1).trans HY5.out)
  have HSX7 := Lib.hid (HSX5.out.below HBR7.out)
  have HRD7 := Lib.hid (show (∀ x ∈ d.r.reads, i64 x) → RdyS _ ⟨.slice dw d.r.writes.length ew, .slice dr d.r.reads.length er, d.r⟩ from cmd_rows (own_below hcr.ws hf6) (own_below hcr.rs hf6))
  have HALL := Lib.hid hall
  clear hall hcr hf6 HX5 HY5 HB5 HSX5 HBR7
  unfold cmdV cmdC
  dsimp only
  go_upto_region 9 with fail
  generalize w6.alloc (.cells #[vi d.k, vi d.r.txn, vi d.r.home, vi d.r.start, .slice dw d.r.writes.length ew, .slice dr d.r.reads.length er, vi d.e.txn, .bool d.e.commit, vi d.e.at_] 33) = w7 at *
  obtain ⟨Z, hZ⟩ : ∃ Z, Z = w6.heap.size := ⟨_, rfl⟩
  rw [← hZ] at HD7 ⊢
  clear hZ
  have x0 : w7.cell? ⟨X, 0, none⟩ = some (vi c.k) := by rw [Bt.cell_of HX7.out]; rfl
  go_cut [76] from 47 to 76 (fun g wx => g = .bool false ∧ Below w7.heap.size w7 wx)
  case first =>
    by_cases hk : 1 ≤ c.k ∧ c.k ≤ 5
    · obtain ⟨herr, hd⟩ := HALL.out.1 hk
      subst herr
      have HDE := Lib.hid hd
      clear hd
      have k1 : decide ((1 : Int) ≤ c.k) = true := decide_eq_true hk.1
      have k2 : decide (c.k ≤ 5) = true := decide_eq_true hk.2
      have z0 : w7.cell? ⟨Z, 0, none⟩ = some (vi d.k) := by rw [Bt.cell_of HD7.out]; rfl
      have z1 : w7.cell? ⟨Z, 1, none⟩ = some (vi d.r.txn) := by rw [Bt.cell_of HD7.out]; rfl
      have z2 : w7.cell? ⟨Z, 2, none⟩ = some (vi d.r.home) := by rw [Bt.cell_of HD7.out]; rfl
      have z3 : w7.cell? ⟨Z, 3, none⟩ = some (vi d.r.start) := by rw [Bt.cell_of HD7.out]; rfl
      have z4 : w7.cell? ⟨Z, 4, none⟩ = some (.slice dw d.r.writes.length ew) := by rw [Bt.cell_of HD7.out]; rfl
      have z5 : w7.cell? ⟨Z, 5, none⟩ = some (.slice dr d.r.reads.length er) := by rw [Bt.cell_of HD7.out]; rfl
      have z6 : w7.cell? ⟨Z, 6, none⟩ = some (vi d.e.txn) := by rw [Bt.cell_of HD7.out]; rfl
      have z7 : w7.cell? ⟨Z, 7, none⟩ = some (.bool d.e.commit) := by rw [Bt.cell_of HD7.out]; rfl
      have z8 : w7.cell? ⟨Z, 8, none⟩ = some (vi d.e.at_) := by rw [Bt.cell_of HD7.out]; rfl
      go_wp2_with (first
        | (go_at_call 21; refine (same_yes y8 HSD.out HSX8.out (bt_lt _)).mono ?_; rintro e9 y9 ⟨rfl, rfl⟩)
        | (go_at_call 12; refine (cmdBytes_call2 d (.slice dw d.r.writes.length ew) (.slice dr d.r.reads.length er) w7 (HRD7.out (by rw [HDE.out]; exact (CmdI.bok HCI.out).r.rs.2)) (by rw [HDE.out]; exact (CmdI.bok HCI.out).j) (by rw [HDE.out, killC_bits]; exact HTC.out)).mono ?_; rintro e8 y8 ⟨vd, rfl, hod, hb8⟩; have HSD := Lib.hid (show Src y8 vd 1 (btBytes (cmdL c)).length ((btBytes (cmdL c)).map u8) from by rw [HDE.out, killC_bits] at hod; exact own_src hod); have HSX8 := Lib.hid (HSX7.out.below hb8); have HB8 := Lib.hid hb8; clear hod hb8))
      go_meet
      exact ⟨rfl, HB8.out⟩
    · have herr := HALL.out.2 hk
      subst herr
      by_cases hk1 : c.k < 1
      · have k1 : decide ((1 : Int) ≤ c.k) = false := decide_eq_false (by omega)
        go_wp2_with fail
        go_meet
        exact ⟨rfl, Below.refl _ _⟩
      · have k1 : decide ((1 : Int) ≤ c.k) = true := decide_eq_true (by omega)
        have k2 : decide (c.k ≤ 5) = false := decide_eq_false (by omega)
        go_wp2_with fail
        go_meet
        exact ⟨rfl, Below.refl _ _⟩
  case rest =>
    obtain ⟨wc0, rfl⟩ : ∃ wc0 : World, wc0 = wc := ⟨_, rfl⟩
    obtain ⟨rfl, hbc⟩ := hcut
    have HB8 := Lib.hid (HB7.out.trans (hbc.mono HB7.out.size))
    have HY8 := Lib.hid ((hbc.block (X + 1) (Array.getElem?_eq_some_iff.1 HY7.out).1).trans HY7.out)
    clear hbc HB7 HX7 HY7 HSX7 HRD7 HD7 HALL x0
    have y0 : wc0.cell? ⟨X + 1, 0, none⟩ = some (vi a.err) := by rw [Bt.cell_of HY8.out]; rfl
    have y1 : wc0.cell? ⟨X + 1, 1, none⟩ = some (.slice av a.vals.length cv) := by rw [Bt.cell_of HY8.out]; rfl
    have y2 : wc0.cell? ⟨X + 1, 2, none⟩ = some (vi a.at_) := by rw [Bt.cell_of HY8.out]; rfl
    have y3 : wc0.cell? ⟨X + 1, 3, none⟩ = some (vi a.by_) := by rw [Bt.cell_of HY8.out]; rfl
    have y4 : wc0.cell? ⟨X + 1, 4, none⟩ = some (vi a.home) := by rw [Bt.cell_of HY8.out]; rfl
    have y5 : wc0.cell? ⟨X + 1, 5, none⟩ = some (vi a.e.txn) := by rw [Bt.cell_of HY8.out]; rfl
    have y6 : wc0.cell? ⟨X + 1, 6, none⟩ = some (.bool a.e.commit) := by rw [Bt.cell_of HY8.out]; rfl
    have y7 : wc0.cell? ⟨X + 1, 7, none⟩ = some (vi a.e.at_) := by rw [Bt.cell_of HY8.out]; rfl
    have hf := (Below.refl wc0.heap.size wc0).alloc (Nat.le_refl _) (.cells #[vi a.err, .slice av a.vals.length cv, vi a.at_, vi a.by_, vi a.home, vi a.e.txn, .bool a.e.commit, vi a.e.at_] 58)
    have HB9 := Lib.hid (HB8.out.trans (hf.mono HB8.out.size))
    have HR9 := Lib.hid (alloc_at wc0 (.cells #[vi a.err, .slice av a.vals.length cv, vi a.at_, vi a.by_, vi a.home, vi a.e.txn, .bool a.e.commit, vi a.e.at_] 58))
    have HY9 := Lib.hid ((hf.block (X + 1) (Array.getElem?_eq_some_iff.1 HY8.out).1).trans HY8.out)
    clear hf
    go_upto_region 12 with fail
    clear y0 y1 y2 y3 y4 y5 y6 y7
    generalize wc0.alloc (.cells #[vi a.err, .slice av a.vals.length cv, vi a.at_, vi a.by_, vi a.home, vi a.e.txn, .bool a.e.commit, vi a.e.at_] 58) = w9 at *
    obtain ⟨U, hU⟩ : ∃ U, U = wc0.heap.size := ⟨_, rfl⟩
    rw [← hU] at HR9 ⊢
    clear hU HB8 HY8
    have y0 : w9.cell? ⟨X + 1, 0, none⟩ = some (vi a.err) := by rw [Bt.cell_of HY9.out]; rfl
    have y1 : w9.cell? ⟨X + 1, 1, none⟩ = some (.slice av a.vals.length cv) := by rw [Bt.cell_of HY9.out]; rfl
    have y2 : w9.cell? ⟨X + 1, 2, none⟩ = some (vi a.at_) := by rw [Bt.cell_of HY9.out]; rfl
    have y3 : w9.cell? ⟨X + 1, 3, none⟩ = some (vi a.by_) := by rw [Bt.cell_of HY9.out]; rfl
    have y4 : w9.cell? ⟨X + 1, 4, none⟩ = some (vi a.home) := by rw [Bt.cell_of HY9.out]; rfl
    have y5 : w9.cell? ⟨X + 1, 5, none⟩ = some (vi a.e.txn) := by rw [Bt.cell_of HY9.out]; rfl
    have y6 : w9.cell? ⟨X + 1, 6, none⟩ = some (.bool a.e.commit) := by rw [Bt.cell_of HY9.out]; rfl
    have y7 : w9.cell? ⟨X + 1, 7, none⟩ = some (vi a.e.at_) := by rw [Bt.cell_of HY9.out]; rfl
    go_upto_region 13 with (go_at_call 24; refine (ansBytes_call2 a (.slice av a.vals.length cv) w9 (HRV.out.later HB9.out) HAJ.out HT.out).mono ?_; rintro e10 w10 ⟨vy, rfl, hoy, hb10⟩; have HOY := Lib.hid hoy; have HB10 := Lib.hid (HB9.out.trans (hb10.mono HB9.out.size)); have HR10 := Lib.hid ((hb10.block U (Array.getElem?_eq_some_iff.1 HR9.out).1).trans HR9.out); clear hoy hb10)
    clear y0 y1 y2 y3 y4 y5 y6 y7 HB9 HY9 HR9
    have HSY := Lib.hid (show Src w10 vy 1 (btBytes (ansL a)).length ((btBytes (ansL a)).map u8) from own_src HOY.out)
    go_wp2_with fail
    refine (readAnswer_call (bs := btBytes (ansL a)) w10 HSY.out (bt_lt _) (by rw [btBytes_length]; have := HT.out; omega)).mono ?_
    rintro e11 w11 ⟨f, fvv, err, rfl, hfr⟩
    obtain ⟨fv, gv, hfv⟩ := Bt.own_shape (show World.ownsRow _ _ _ _ fvv f.vals.length _ from hfr.vs)
    subst hfv
    obtain ⟨herr, hfa⟩ := hfr.all a _ ⟨HAJ.out.err, ⟨by omega, HAJ.out.vals⟩, HAJ.out.at_, HAJ.out.by_, HAJ.out.home, HAJ.out.e⟩ (bitsOf_btBytes (ansL a)).choose_spec.1 (bitsOf_btBytes (ansL a)).choose_spec.2
    subst herr hfa
    have hf := (Below.refl w11.heap.size w11).alloc (Nat.le_refl _) (.cells #[vi f.err, .slice fv f.vals.length gv, vi f.at_, vi f.by_, vi f.home, vi f.e.txn, .bool f.e.commit, vi f.e.at_] 37)
    have HB12 := Lib.hid ((HB10.out.trans (hfr.bel.mono HB10.out.size)).trans (hf.mono (Nat.le_trans HB10.out.size hfr.bel.size)))
    have hbr := hfr.bel.trans (hf.mono hfr.bel.size)
    have HF12 := Lib.hid (alloc_at w11 (.cells #[vi f.err, .slice fv f.vals.length gv, vi f.at_, vi f.by_, vi f.home, vi f.e.txn, .bool f.e.commit, vi f.e.at_] 37))
    have HR12 := Lib.hid ((hbr.block U (Array.getElem?_eq_some_iff.1 HR10.out).1).trans HR10.out)
    have HSY12 := Lib.hid (HSY.out.below hbr)
    have HFV12 := Lib.hid (show RdV _ (.slice fv f.vals.length gv) f.vals from own_rds (enc := viC) (E := fun _ cs x => cs = viC x) (fun _ => rfl) (own_below hfr.vs hf) (fun _ _ => rfl))
    clear hfr hf hbr HSY HB10 HR10 HOY
    unfold ansV ansC
    dsimp only
    go_upto_region 14 with fail
    generalize w11.alloc (.cells #[vi f.err, .slice fv f.vals.length gv, vi f.at_, vi f.by_, vi f.home, vi f.e.txn, .bool f.e.commit, vi f.e.at_] 37) = w12 at *
    obtain ⟨V, hV⟩ : ∃ V, V = w11.heap.size := ⟨_, rfl⟩
    rw [← hV] at HF12 ⊢
    clear hV
    have r0 : w12.cell? ⟨U, 0, none⟩ = some (vi f.err) := by rw [Bt.cell_of HR12.out]; rfl
    have r1 : w12.cell? ⟨U, 1, none⟩ = some (.slice av f.vals.length cv) := by rw [Bt.cell_of HR12.out]; rfl
    have r2 : w12.cell? ⟨U, 2, none⟩ = some (vi f.at_) := by rw [Bt.cell_of HR12.out]; rfl
    have r3 : w12.cell? ⟨U, 3, none⟩ = some (vi f.by_) := by rw [Bt.cell_of HR12.out]; rfl
    have r4 : w12.cell? ⟨U, 4, none⟩ = some (vi f.home) := by rw [Bt.cell_of HR12.out]; rfl
    have r5 : w12.cell? ⟨U, 5, none⟩ = some (vi f.e.txn) := by rw [Bt.cell_of HR12.out]; rfl
    have r6 : w12.cell? ⟨U, 6, none⟩ = some (.bool f.e.commit) := by rw [Bt.cell_of HR12.out]; rfl
    have r7 : w12.cell? ⟨U, 7, none⟩ = some (vi f.e.at_) := by rw [Bt.cell_of HR12.out]; rfl
    go_upto_region 16 with (first
      | (go_at_call 18; refine (same21_call f (.slice fv f.vals.length gv) (.slice av f.vals.length cv) y13 (HFV12.out.later HB13.out) (rdv_of_rd (HRV.out.later HB13W.out)) (by omega)).mono ?_; rintro e14 w14 ⟨rfl, hb14⟩; have HB14 := Lib.hid (HB13W.out.trans (hb14.mono HB13W.out.size)); clear hb14)
      | (go_at_call 21; refine (same_yes y13 HSY13.out HSZ13.out (bt_lt _)).mono ?_; rintro e13 w13 ⟨rfl, rfl⟩; have p0 : y13.cell? ⟨V, 0, none⟩ = some (vi f.err) := (by rw [Bt.cell_of ((HB13.out.block V (Array.getElem?_eq_some_iff.1 HF12.out).1).trans HF12.out)]; rfl); have p1 : y13.cell? ⟨V, 1, none⟩ = some (.slice fv f.vals.length gv) := (by rw [Bt.cell_of ((HB13.out.block V (Array.getElem?_eq_some_iff.1 HF12.out).1).trans HF12.out)]; rfl); have p2 : y13.cell? ⟨V, 2, none⟩ = some (vi f.at_) := (by rw [Bt.cell_of ((HB13.out.block V (Array.getElem?_eq_some_iff.1 HF12.out).1).trans HF12.out)]; rfl); have p3 : y13.cell? ⟨V, 3, none⟩ = some (vi f.by_) := (by rw [Bt.cell_of ((HB13.out.block V (Array.getElem?_eq_some_iff.1 HF12.out).1).trans HF12.out)]; rfl); have p4 : y13.cell? ⟨V, 4, none⟩ = some (vi f.home) := (by rw [Bt.cell_of ((HB13.out.block V (Array.getElem?_eq_some_iff.1 HF12.out).1).trans HF12.out)]; rfl); have p5 : y13.cell? ⟨V, 5, none⟩ = some (vi f.e.txn) := (by rw [Bt.cell_of ((HB13.out.block V (Array.getElem?_eq_some_iff.1 HF12.out).1).trans HF12.out)]; rfl); have p6 : y13.cell? ⟨V, 6, none⟩ = some (.bool f.e.commit) := (by rw [Bt.cell_of ((HB13.out.block V (Array.getElem?_eq_some_iff.1 HF12.out).1).trans HF12.out)]; rfl); have p7 : y13.cell? ⟨V, 7, none⟩ = some (vi f.e.at_) := (by rw [Bt.cell_of ((HB13.out.block V (Array.getElem?_eq_some_iff.1 HF12.out).1).trans HF12.out)]; rfl); have s0 : y13.cell? ⟨U, 0, none⟩ = some (vi f.err) := (by rw [Bt.cell_of ((HB13.out.block U (Array.getElem?_eq_some_iff.1 HR12.out).1).trans HR12.out)]; rfl); have s1 : y13.cell? ⟨U, 1, none⟩ = some (.slice av f.vals.length cv) := (by rw [Bt.cell_of ((HB13.out.block U (Array.getElem?_eq_some_iff.1 HR12.out).1).trans HR12.out)]; rfl); have s2 : y13.cell? ⟨U, 2, none⟩ = some (vi f.at_) := (by rw [Bt.cell_of ((HB13.out.block U (Array.getElem?_eq_some_iff.1 HR12.out).1).trans HR12.out)]; rfl); have s3 : y13.cell? ⟨U, 3, none⟩ = some (vi f.by_) := (by rw [Bt.cell_of ((HB13.out.block U (Array.getElem?_eq_some_iff.1 HR12.out).1).trans HR12.out)]; rfl); have s4 : y13.cell? ⟨U, 4, none⟩ = some (vi f.home) := (by rw [Bt.cell_of ((HB13.out.block U (Array.getElem?_eq_some_iff.1 HR12.out).1).trans HR12.out)]; rfl); have s5 : y13.cell? ⟨U, 5, none⟩ = some (vi f.e.txn) := (by rw [Bt.cell_of ((HB13.out.block U (Array.getElem?_eq_some_iff.1 HR12.out).1).trans HR12.out)]; rfl); have s6 : y13.cell? ⟨U, 6, none⟩ = some (.bool f.e.commit) := (by rw [Bt.cell_of ((HB13.out.block U (Array.getElem?_eq_some_iff.1 HR12.out).1).trans HR12.out)]; rfl); have s7 : y13.cell? ⟨U, 7, none⟩ = some (vi f.e.at_) := (by rw [Bt.cell_of ((HB13.out.block U (Array.getElem?_eq_some_iff.1 HR12.out).1).trans HR12.out)]; rfl))
      | (go_at_call 26; refine (answerBytes21_call f (.slice av f.vals.length cv) w12 (HRV.out.later HB12.out) HAJ.out HT.out).mono ?_; rintro e12 y13 ⟨vz, rfl, hoz, hb13⟩; have HB13 := Lib.hid hb13; have HB13W := Lib.hid (HB12.out.trans (hb13.mono HB12.out.size)); have HSY13 := Lib.hid (HSY12.out.below hb13); have HSZ13 := Lib.hid (show Src y13 vz 1 (btBytes (ansL f)).length ((btBytes (ansL f)).map u8) from own_src hoz); clear hoz hb13))
    clear HB12 HF12 HR12 HSY12 HFV12 HB13 HB13W HSY13 HSZ13
    have HSB14 := Lib.hid (HSB.out.below HB14.out)
    go_upto_region 17 with (go_at_call 27; refine (copy21_call (.slice ab bs.length cb) bs w14 HSB14.out (by omega)).mono ?_; rintro e15 w15 ⟨vm, rfl, hom, hb15⟩; have HSM := Lib.hid (show Src w15 vm 1 bs.length (bs.map u8) from own_src hom); have HB15 := Lib.hid (HB14.out.trans (hb15.mono HB14.out.size)); clear hom hb15)
    clear HB14 HSB14
    go_wp2_with fail
    refine (shRead_call (bs := bs) w15 HSM.out H256.out (by omega)).mono ?_
    rintro e16 w16 ⟨d, dwv, drv, err, rfl, hcr⟩
    obtain ⟨dw, ew, hdw⟩ := Bt.own_shape (show World.ownsRow _ _ _ _ dwv d.r.writes.length _ from hcr.ws)
    obtain ⟨dr, er, hdr⟩ := Bt.own_shape (show World.ownsRow _ _ _ _ drv d.r.reads.length _ from hcr.rs)
    subst hdw hdr
    have hf := (Below.refl w16.heap.size w16).alloc (Nat.le_refl _) (.cells #[vi d.k, vi d.r.txn, vi d.r.home, vi d.r.start, .slice dw d.r.writes.length ew, .slice dr d.r.reads.length er, vi d.e.txn, .bool d.e.commit, vi d.e.at_] 33)
    have HB17 := Lib.hid ((HB15.out.trans (hcr.bel.mono HB15.out.size)).trans (hf.mono (Nat.le_trans HB15.out.size hcr.bel.size)))
    have HBR := Lib.hid (hcr.bel.trans (hf.mono hcr.bel.size))
    have HD7 := Lib.hid (alloc_at w16 (.cells #[vi d.k, vi d.r.txn, vi d.r.home, vi d.r.start, .slice dw d.r.writes.length ew, .slice dr d.r.reads.length er, vi d.e.txn, .bool d.e.commit, vi d.e.at_] 33))
    have HSM17 := Lib.hid (HSM.out.below HBR.out)
    have HRD7 := Lib.hid (show (∀ x ∈ d.r.reads, i64 x) → RdyS _ ⟨.slice dw d.r.writes.length ew, .slice dr d.r.reads.length er, d.r⟩ from cmd_rows (own_below hcr.ws hf) (own_below hcr.rs hf))
    have HYES := Lib.hid hcr.yes
    have HNO := Lib.hid hcr.no
    clear hcr hf HBR HSM HB15
    unfold cmdV cmdC
    dsimp only
    go_upto_region 18 with fail
    generalize w16.alloc (.cells #[vi d.k, vi d.r.txn, vi d.r.home, vi d.r.start, .slice dw d.r.writes.length ew, .slice dr d.r.reads.length er, vi d.e.txn, .bool d.e.commit, vi d.e.at_] 33) = w7 at *
    obtain ⟨Z, hZ⟩ : ∃ Z, Z = w16.heap.size := ⟨_, rfl⟩
    rw [← hZ] at HD7 ⊢
    clear hZ
    go_cut [136] from 119 to 136 (fun g wx => g = .bool false ∧ Below w7.heap.size w7 wx)
    case first =>
      by_cases he : err = 0
      · have k1 : (err == 0) = true := by rw [he]; rfl
        have k2 : (err != 0) = false := by rw [he]; rfl
        obtain ⟨-, -, hcb, z, hz, hbz⟩ := HYES.out he
        have HBE := Lib.hid (bytes_eq H256.out hz hbz)
        have HBL := Lib.hid (show (cmdL d).length ≤ 900000 from by have := bits_len hbz (n := 2000) (by omega); omega)
        have HCB := Lib.hid hcb
        have HSB7 := Lib.hid (HSB.out.below HB17.out)
        clear hz hbz hcb he
        have z0 : w7.cell? ⟨Z, 0, none⟩ = some (vi d.k) := by rw [Bt.cell_of HD7.out]; rfl
        have z1 : w7.cell? ⟨Z, 1, none⟩ = some (vi d.r.txn) := by rw [Bt.cell_of HD7.out]; rfl
        have z2 : w7.cell? ⟨Z, 2, none⟩ = some (vi d.r.home) := by rw [Bt.cell_of HD7.out]; rfl
        have z3 : w7.cell? ⟨Z, 3, none⟩ = some (vi d.r.start) := by rw [Bt.cell_of HD7.out]; rfl
        have z4 : w7.cell? ⟨Z, 4, none⟩ = some (.slice dw d.r.writes.length ew) := by rw [Bt.cell_of HD7.out]; rfl
        have z5 : w7.cell? ⟨Z, 5, none⟩ = some (.slice dr d.r.reads.length er) := by rw [Bt.cell_of HD7.out]; rfl
        have z6 : w7.cell? ⟨Z, 6, none⟩ = some (vi d.e.txn) := by rw [Bt.cell_of HD7.out]; rfl
        have z7 : w7.cell? ⟨Z, 7, none⟩ = some (.bool d.e.commit) := by rw [Bt.cell_of HD7.out]; rfl
        have z8 : w7.cell? ⟨Z, 8, none⟩ = some (vi d.e.at_) := by rw [Bt.cell_of HD7.out]; rfl
        go_wp2_with (first
          | (go_at_call 21; refine (same_yes y8 HSD.out HSX8.out H256.out).mono ?_; rintro e9 y9 ⟨rfl, rfl⟩)
          | (go_at_call 12; refine (cmdBytes_call2 d (.slice dw d.r.writes.length ew) (.slice dr d.r.reads.length er) w7 (HRD7.out HCB.out.r.rs.2) HCB.out.j HBL.out).mono ?_; rintro e8 y8 ⟨vd, rfl, hod, hb8⟩; have HSD := Lib.hid (show Src y8 vd 1 bs.length (bs.map u8) from by rw [HBE.out] at hod; exact own_src hod); have HSX8 := Lib.hid (HSB7.out.below hb8); have HB8 := Lib.hid hb8; clear hod hb8))
        go_meet
        exact ⟨rfl, HB8.out⟩
      · have k1 : (err == 0) = false := by simp [he]
        have k2 : (err != 0) = true := by simp [he]
        have k3 : d.k = 0 := by rw [HNO.out he]; rfl
        have z0 : w7.cell? ⟨Z, 0, none⟩ = some (vi 0) := by rw [Bt.cell_of HD7.out, ← k3]; rfl
        clear k3
        go_wp2_with fail
        go_meet
        exact ⟨rfl, Below.refl _ _⟩
    case rest =>
      obtain ⟨wq, rfl⟩ : ∃ wq : World, wq = wc := ⟨_, rfl⟩
      obtain ⟨rfl, hbc⟩ := hcut
      have HB18 := Lib.hid (HB17.out.trans (hbc.mono HB17.out.size))
      have HSM18 := Lib.hid (HSM17.out.below hbc)
      clear hbc HB17 HSM17 HD7 HRD7 HYES HNO
      go_wp2_with fail
      refine (readAnswer_call (bs := bs) wq HSM18.out H256.out (by omega)).mono ?_
      rintro e19 w19 ⟨f', fvv, err', rfl, hfr⟩
      obtain ⟨fv', gv', hfv⟩ := Bt.own_shape (show World.ownsRow _ _ _ _ fvv f'.vals.length _ from hfr.vs)
      subst hfv
      have hf := (Below.refl w19.heap.size w19).alloc (Nat.le_refl _) (.cells #[vi f'.err, .slice fv' f'.vals.length gv', vi f'.at_, vi f'.by_, vi f'.home, vi f'.e.txn, .bool f'.e.commit, vi f'.e.at_] 37)
      have HB20 := Lib.hid ((HB18.out.trans (hfr.bel.mono HB18.out.size)).trans (hf.mono (Nat.le_trans HB18.out.size hfr.bel.size)))
      have hbr := hfr.bel.trans (hf.mono hfr.bel.size)
      have HF20 := Lib.hid (alloc_at w19 (.cells #[vi f'.err, .slice fv' f'.vals.length gv', vi f'.at_, vi f'.by_, vi f'.home, vi f'.e.txn, .bool f'.e.commit, vi f'.e.at_] 37))
      have HSM20 := Lib.hid (HSM18.out.below hbr)
      have HSB20 := Lib.hid (HSB.out.below HB20.out)
      have HFV20 := Lib.hid (show (∀ x ∈ f'.vals, i64 x) → RdInts _ (.slice fv' f'.vals.length gv') f'.vals from fun hi => own_rds (enc := viC) (fun _ => rfl) (own_below hfr.vs hf) (fun x hx => ⟨rfl, hi x hx⟩))
      have HYES := Lib.hid hfr.yes
      clear hfr hf hbr HB18 HSM18
      unfold ansV ansC
      dsimp only
      go_upto_region 21 with fail
      generalize w19.alloc (.cells #[vi f'.err, .slice fv' f'.vals.length gv', vi f'.at_, vi f'.by_, vi f'.home, vi f'.e.txn, .bool f'.e.commit, vi f'.e.at_] 37) = w20 at *
      obtain ⟨V', hV'⟩ : ∃ V', V' = w19.heap.size := ⟨_, rfl⟩
      rw [← hV'] at HF20 ⊢
      clear hV'
      by_cases he : err' = 0
      · have k1 : (err' != 0) = false := by rw [he]; rfl
        obtain ⟨hcb, z, hz, hbz⟩ := HYES.out he
        have HBE := Lib.hid (bytes_eq H256.out hz hbz)
        have HBL := Lib.hid (show (ansL f').length ≤ 900000 from by have := bits_len hbz (n := 2000) (by omega); omega)
        have HCB := Lib.hid hcb
        clear hz hbz hcb he
        have z0 : w20.cell? ⟨V', 0, none⟩ = some (vi f'.err) := by rw [Bt.cell_of HF20.out]; rfl
        have z1 : w20.cell? ⟨V', 1, none⟩ = some (.slice fv' f'.vals.length gv') := by rw [Bt.cell_of HF20.out]; rfl
        have z2 : w20.cell? ⟨V', 2, none⟩ = some (vi f'.at_) := by rw [Bt.cell_of HF20.out]; rfl
        have z3 : w20.cell? ⟨V', 3, none⟩ = some (vi f'.by_) := by rw [Bt.cell_of HF20.out]; rfl
        have z4 : w20.cell? ⟨V', 4, none⟩ = some (vi f'.home) := by rw [Bt.cell_of HF20.out]; rfl
        have z5 : w20.cell? ⟨V', 5, none⟩ = some (vi f'.e.txn) := by rw [Bt.cell_of HF20.out]; rfl
        have z6 : w20.cell? ⟨V', 6, none⟩ = some (.bool f'.e.commit) := by rw [Bt.cell_of HF20.out]; rfl
        have z7 : w20.cell? ⟨V', 7, none⟩ = some (vi f'.e.at_) := by rw [Bt.cell_of HF20.out]; rfl
        go_wp2_with (first
          | (go_at_call 21; refine (same_yes y8 HSD.out HSX8.out H256.out).mono ?_; rintro e9 y9 ⟨rfl, rfl⟩)
          | (go_at_call 21; refine (same_yes _ HSM8.out HSX8.out H256.out).mono ?_; rintro e11 y11 ⟨rfl, rfl⟩)
          | (go_at_call 24; refine (ansBytes_call2 f' (.slice fv' f'.vals.length gv') w20 (HFV20.out HCB.out.vs.2) HCB.out.j HBL.out).mono ?_; rintro e8 y8 ⟨vd, rfl, hod, hb8⟩; have HSD := Lib.hid (show Src y8 vd 1 bs.length (bs.map u8) from by rw [HBE.out] at hod; exact own_src hod); have HSX8 := Lib.hid (HSB20.out.below hb8); have HSM8 := Lib.hid (HSM20.out.below hb8); have HB8 := Lib.hid (HB20.out.trans (hb8.mono HB20.out.size)); clear hod hb8))
        go_ret
        exact ⟨rfl, HB8.out⟩
      · have k1 : (err' != 0) = true := by simp [he]
        go_wp2_with (go_at_call 21; refine (same_yes w20 HSM20.out HSB20.out H256.out).mono ?_; rintro e11 y11 ⟨rfl, rfl⟩)
        go_ret
        exact ⟨rfl, HB20.out⟩
end Go.Proofs.Ytdkkpkgfiodlbaa
