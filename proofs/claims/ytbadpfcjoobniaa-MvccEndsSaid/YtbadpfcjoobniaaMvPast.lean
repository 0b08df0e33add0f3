/- The walk of MvccPast. -/
import Derived.Test.YtbadpfcjoobniaaMvFirst
import Derived.Test.YtbadpfcjoobniaaMvPastM
namespace Go.Proofs.Ytbadpfcjoobniaa
open Go.RowKit Go.Maps

def skipB (o : Op19) : Bool := bigB o.r || (o.r.txn == -1) || (o.e.txn == -1)
theorem skip_small {o : Op19} (h : skipB o = false) (hi : RdyI o.r) : SmallR o.r ∧ o.e.txn ≠ -1 := by
  unfold skipB at h
  rw [Bool.or_eq_false_iff, Bool.or_eq_false_iff] at h
  have hb := bigB_false h.1.1
  have h1 := h.1.2
  have h2 := h.2
  simp only [beq_eq_false_iff_ne] at h1 h2
  exact ⟨⟨hb.1, hb.2, fun x hx => (hi.ws x hx).2.1, hi.txn, h1⟩, h2⟩
/-- What the law keeps between two steps. -/
def PastW (n b p mk mr me : Nat) (known : Bool) (was key a : Int) (w10 wr : World) : Prop :=
  ∃ K R E, PastI n known was key a K R ∧ MvS b p mk mr me false 0 K R E wr ∧ Turns [mk, mr, me] w10 wr ∧ Solid w10 wr

/-- The search for the one who ends: the box for it behind k of those who wait. -/
def FindW (bz : Nat) (wD : World) (txn : Int) (R : RdyL) (L : List RV) (k : Nat) (wr : World) : Prop :=
  ∃ (z1 z2 zs : Int) (a1 : Option Addr) (n1 c1 : Nat) (a2 : Option Addr) (n2 c2 : Nat), wr.heap[bz]? = some (.cells #[vi z1, vi z2, vi zs, .slice a1 n1 c1, .slice a2 n2 c2] 29) ∧ wD.grownBy wr (some bz) ∧
    (∀ j, j < k → ∀ y, L[j]? = some y → y.r.txn = txn → ∃ q, getM R txn = some q ∧ zs = q.r.start)
theorem grown_set (W : World) (b o : Nat) (v : Value) : W.grownBy (W.setCell ⟨b, o, none⟩ v) (some b) := ⟨rfl, rfl, rfl, by simp [World.setCell], fun k _ hk => Below.heap_setCell _ _ _ k (fun e => hk (by rw [e]))⟩
theorem set5 {W : World} {b : Nat} {c0 c1 c2 c3 c4 : Value} {T : TypeId} (v0 v1 v2 v3 v4 : Value) (h : W.heap[b]? = some (.cells #[c0, c1, c2, c3, c4] T)) :
    (((((W.setCell ⟨b, 0, none⟩ v0).setCell ⟨b, 1, none⟩ v1).setCell ⟨b, 2, none⟩ v2).setCell ⟨b, 3, none⟩ v3).setCell ⟨b, 4, none⟩ v4).heap[b]? = some (.cells #[v0, v1, v2, v3, v4] T) ∧
    W.grownBy (((((W.setCell ⟨b, 0, none⟩ v0).setCell ⟨b, 1, none⟩ v1).setCell ⟨b, 2, none⟩ v2).setCell ⟨b, 3, none⟩ v3).setCell ⟨b, 4, none⟩ v4) (some b) := by
  have g1 := cells_set (o := 0) v0 h
  have g2 := cells_set (o := 1) v1 g1
  have g3 := cells_set (o := 2) v2 g2
  have g4 := cells_set (o := 3) v3 g3
  have g5 := cells_set (o := 4) v4 g4
  refine ⟨by rw [g5]; simp, (grown_set _ _ _ _).trans ((grown_set _ _ _ _).trans ((grown_set _ _ _ _).trans ((grown_set _ _ _ _).trans (grown_set _ _ _ _))))⟩
theorem OwR.shapes {b : Nat} {w : World} {v : Value} {L : List RV} (h : OwR b w v L) {y : RV} (hy : y ∈ L) : ∃ a n c a' n' c', y.wv = .slice a n c ∧ y.rv = .slice a' n' c' := by
  obtain ⟨a, c, h1⟩ := own_shape (h.ws y hy)
  obtain ⟨a', c', h2⟩ := own_shape (h.rs y hy).1
  exact ⟨a, _, c, a', _, c', h1, h2⟩
/-- The k-th of those who wait lies in memory. -/
theorem OwR.cellsAt {b : Nat} {w W : World} {a : Option Addr} {c : Nat} {L : List RV} (h : OwR b w (.slice a L.length c) L) {k : Nat} {y : RV} (hy : L[k]? = some y) (hW : ∀ g, b ≤ g → g < w.heap.size → W.heap[g]? = w.heap[g]?) :
    ∃ g, a = some ⟨g, 0, none⟩ ∧ ∀ i u, (rdyL y)[i]? = some u → W.cell? ⟨g, k * 5 + i, none⟩ = some u := by
  obtain ⟨g, c', e⟩ := own_some h.row (by have := (List.getElem?_eq_some_iff.1 hy).1; omega)
  cases e
  refine ⟨g, rfl, fun i u hu => ?_⟩
  have hlt := h.row.lt g rfl
  rw [cell_block (hW g hlt.1 hlt.2)]
  have h1 := World.ownsRow.cells h.row (g := g) rfl (k * 5 + i) u (flat_at rdyL 5 (fun _ => rfl) L k i y u hy hu)
  rwa [addr_add, Nat.zero_add] at h1

set_option maxRecDepth 100000 in
set_option maxHeartbeats 4000000 in
theorem mvccPast.walk (v0 : Value) (ops : List Op19) (key at_ : Int) (w : World) (r0 : RdOps19 w v0 ops) (hk : i64 key) (_ha : i64 at_) :
    Calls Try.prog 3 #[v0, vi key, vi at_] w fun e w' => e = .returned (.bool true) ∧ Below w.heap.size w w' := by
  obtain ⟨av, nv, cv, hv, rfl, hm, -⟩ := r0.at
  subst hv
  have HR0 := Lib.hid r0
  have HK := Lib.hid hk
  clear r0 hk
  obtain ⟨a, ha⟩ : ∃ a, bits .and .i64 at_ 63 = a := ⟨_, rfl⟩
  go_enter Try.func3, Try.ntmps3
  go_wp2_with fail
  refine (head_call w).mono ?_
  rintro e w1 ⟨rfl, hb1⟩
  have HB1 := Lib.hid hb1
  clear hb1
  dsimp only
  go_wp2_with fail
  refine (new_call false 0 w1).mono ?_
  rintro e w2 ⟨p, mk, mr, me, rfl, hm2, hb2⟩
  have HM2 := Lib.hid hm2
  have HB2 := Lib.hid (HB1.out.trans (hb2.mono HB1.out.size))
  clear hm2 hb2
  dsimp only
  have hws1 := HB1.out.size
  have hws2 := HB2.out.size
  go_wp2_with fail
  clear ha
  go_loopw [8, 9, 10] (fun kv wv iv wr => ∃ (i : Nat) (known : Bool) (was : Int), i ≤ 60 ∧ iv = .int .i64 i ∧ kv = .bool known ∧ wv = .int .i64 was ∧ Hid (PastW i w1.heap.size p mk mr me known was key a w2 wr)) (fun _ _ iv _ => 60 - (intOf iv).toNat)
  case atStart => exact ⟨0, false, 0, Nat.zero_le _, rfl, rfl, rfl, Lib.hid ⟨[], [], [], PastI.start key a, HM2.out, Turns.refl _ _, Solid.refl _⟩⟩
  case round =>
    obtain ⟨wj, rfl⟩ : ∃ wj : World, wj = wr := ⟨_, rfl⟩
    obtain ⟨i, known, was, hi, rfl, rfl, rfl, HJ⟩ := hrel
    obtain ⟨K, R, E, hP, hM, hTu, hSo⟩ := HJ.out
    have HP := Lib.hid hP
    have HM := Lib.hid hM
    have HTU := Lib.hid hTu
    have HSO := Lib.hid hSo
    have HB := Lib.hid (show Below w.heap.size w wj from HB2.out.trans (hTu.toBelow hws2 (fun k hk => by have := hM.bases k hk; omega)))
    clear hP hM hTu hSo HJ
    by_cases hl1 : i < ops.length
    · by_cases hl2 : i < 60
      · have hi1 : (i : Int) < (ops.length : Int) := by omega
        have hi2 : (i : Int) < 60 := by omega
        obtain ⟨o, ho⟩ := some_at hl1
        obtain ⟨_, _, _, e5, -, -, hcl⟩ := (HR0.out.later HB.out).at
        cases e5
        obtain ⟨bo, oo, wv, rv, rfl, hrd, hri, hei, hc⟩ := hcl i o ho
        obtain ⟨aw, cw, ar, cr, hw0, hr0, lw0, lr0⟩ := rdv_slices hrd
        simp only at hw0 hr0 lw0 lr0
        subst hw0 hr0
        have k0 : wj.cell? ⟨bo, oo + i * 9, none⟩ = some (vi o.k) := hc 0 _ rfl
        have k1 : wj.cell? ⟨bo, oo + i * 9 + 1, none⟩ = some (vi o.r.txn) := by have := hc 1 _ rfl; rw [← Nat.add_assoc] at this; exact this
        have k2 : wj.cell? ⟨bo, oo + i * 9 + 2, none⟩ = some (vi o.r.home) := by have := hc 2 _ rfl; rw [← Nat.add_assoc] at this; exact this
        have k3 : wj.cell? ⟨bo, oo + i * 9 + 3, none⟩ = some (vi o.r.start) := by have := hc 3 _ rfl; rw [← Nat.add_assoc] at this; exact this
        have k4 : wj.cell? ⟨bo, oo + i * 9 + 4, none⟩ = some (.slice aw o.r.writes.length cw) := by have := hc 4 _ rfl; rw [← Nat.add_assoc] at this; exact this
        have k5 : wj.cell? ⟨bo, oo + i * 9 + 5, none⟩ = some (.slice ar o.r.reads.length cr) := by have := hc 5 _ rfl; rw [← Nat.add_assoc] at this; exact this
        have k6 : wj.cell? ⟨bo, oo + i * 9 + 6, none⟩ = some (vi o.e.txn) := by have := hc 6 _ rfl; rw [← Nat.add_assoc] at this; exact this
        have k7 : wj.cell? ⟨bo, oo + i * 9 + 7, none⟩ = some (.bool o.e.commit) := by have := hc 7 _ rfl; rw [← Nat.add_assoc] at this; exact this
        have k8 : wj.cell? ⟨bo, oo + i * 9 + 8, none⟩ = some (vi o.e.at_) := by have := hc 8 _ rfl; rw [← Nat.add_assoc] at this; exact this
        have HRD := Lib.hid hrd
        have HRI := Lib.hid hri
        have HEI := Lib.hid hei
        have hwi : IntKind.i64.wrap ((i : Int) + 1) = (i : Int) + 1 := IntWalk.i64_in _ (by omega)
        clear hcl ho hrd hri hei hc
        have HBA := Lib.hid ((Below.refl wj.heap.size wj).alloc (Nat.le_refl _) (.cells #[vi o.k, vi o.r.txn, vi o.r.home, vi o.r.start, .slice aw o.r.writes.length cw, .slice ar o.r.reads.length cr, vi o.e.txn, .bool o.e.commit, vi o.e.at_] 33))
        have HXA := Lib.hid (alloc_at wj (.cells #[vi o.k, vi o.r.txn, vi o.r.home, vi o.r.start, .slice aw o.r.writes.length cw, .slice ar o.r.reads.length cr, vi o.e.txn, .bool o.e.commit, vi o.e.at_] 33))
        go_upto_region 11 with fail
        generalize wj.alloc (.cells #[vi o.k, vi o.r.txn, vi o.r.home, vi o.r.start, .slice aw o.r.writes.length cw, .slice ar o.r.reads.length cr, vi o.e.txn, .bool o.e.commit, vi o.e.at_] 33) = wA at *
        have x0 : wA.cell? ⟨wj.heap.size, 0, none⟩ = some (vi o.k) := by rw [cell_of HXA.out]; rfl
        have x1 : wA.cell? ⟨wj.heap.size, 1, none⟩ = some (vi o.r.txn) := by rw [cell_of HXA.out]; rfl
        have x2 : wA.cell? ⟨wj.heap.size, 2, none⟩ = some (vi o.r.home) := by rw [cell_of HXA.out]; rfl
        have x3 : wA.cell? ⟨wj.heap.size, 3, none⟩ = some (vi o.r.start) := by rw [cell_of HXA.out]; rfl
        have x4 : wA.cell? ⟨wj.heap.size, 4, none⟩ = some (.slice aw o.r.writes.length cw) := by rw [cell_of HXA.out]; rfl
        have x5 : wA.cell? ⟨wj.heap.size, 5, none⟩ = some (.slice ar o.r.reads.length cr) := by rw [cell_of HXA.out]; rfl
        have x6 : wA.cell? ⟨wj.heap.size, 6, none⟩ = some (vi o.e.txn) := by rw [cell_of HXA.out]; rfl
        have x7 : wA.cell? ⟨wj.heap.size, 7, none⟩ = some (.bool o.e.commit) := by rw [cell_of HXA.out]; rfl
        have x8 : wA.cell? ⟨wj.heap.size, 8, none⟩ = some (vi o.e.at_) := by rw [cell_of HXA.out]; rfl
        clear k0 k1 k2 k3 k4 k5 k6 k7 k8
        go_cut [50] (fun v wx => v = .bool (skipB o) ∧ Below wA.heap.size wA wx)
        case first =>
          obtain ⟨g, hg⟩ : ∃ g, bigB o.r = g := ⟨_, rfl⟩
          have HG := Lib.hid hg
          have HBIG := Lib.hid (big_call o.k o.e.txn o.e.at_ o.e.commit aw ar cw cr o.r wA lw0 lr0)
          rw [hg] at HBIG
          clear hg
          cases g
          · obtain ⟨t1, h1⟩ : ∃ t1, (o.r.txn == -1) = t1 := ⟨_, rfl⟩
            have H1 := Lib.hid h1
            cases t1
            · obtain ⟨t2, h2⟩ : ∃ t2, (o.e.txn == -1) = t2 := ⟨_, rfl⟩
              have H2 := Lib.hid h2
              go_wp2_with (go_at_call 11; refine HBIG.out.mono ?_; rintro e wB ⟨rfl, hbB⟩; have HBB := Lib.hid hbB; have x1' := cell_later hbB x1; have x6' := cell_later hbB x6; clear hbB)
              go_meet
              exact ⟨by unfold skipB; rw [HG.out, H1.out, H2.out]; rfl, HBB.out⟩
            · go_wp2_with (go_at_call 11; refine HBIG.out.mono ?_; rintro e wB ⟨rfl, hbB⟩; have HBB := Lib.hid hbB; have x1' := cell_later hbB x1; clear hbB)
              go_meet
              exact ⟨by unfold skipB; rw [HG.out, H1.out]; rfl, HBB.out⟩
          · go_wp2_with (go_at_call 11; refine HBIG.out.mono ?_; rintro e wB ⟨rfl, hbB⟩; have HBB := Lib.hid hbB; clear hbB)
            go_meet
            exact ⟨by unfold skipB; rw [HG.out]; rfl, HBB.out⟩
        case rest =>
          obtain ⟨wB, rfl⟩ : ∃ wB : World, wB = wc := ⟨_, rfl⟩
          obtain ⟨rfl, hbB⟩ := hcut
          have HBB := Lib.hid (HBA.out.trans (hbB.mono HBA.out.size))
          have HXB := Lib.hid ((hbB.block wj.heap.size (Array.getElem?_eq_some_iff.1 HXA.out).1).trans HXA.out)
          have HMB := Lib.hid (HM.out.later HBB.out)
          have HTB := Lib.hid (HTU.out.later HBB.out)
          have HSB := Lib.hid (HSO.out.later HBB.out)
          have HRB := Lib.hid (HRD.out.later HBB.out)
          clear hbB x0 x1 x2 x3 x4 x5 x6 x7 x8 HXA HBA HM HTU HSO HRD
          obtain ⟨sk, hsk⟩ : ∃ sk, skipB o = sk := ⟨_, rfl⟩
          rw [hsk]
          have HSK := Lib.hid hsk
          clear hsk
          cases sk
          rotate_left
          · go_wp2_with fail
            go_roundw
            case rel => exact ⟨i + 1, known, was, by omega, by go_num, rfl, rfl, Lib.hid ⟨K, R, E, HP.out.more, HMB.out, HTB.out, HSB.out⟩⟩
            case measure => simp [intOf]; omega
          have HSM := Lib.hid (skip_small HSK.out HRI.out)
          have x0 : wB.cell? ⟨wj.heap.size, 0, none⟩ = some (vi o.k) := by rw [cell_of HXB.out]; rfl
          by_cases hk0 : o.k = 0
          · have hb0 : (o.k == 0) = true := by simp [hk0]
            have x3 : wB.cell? ⟨wj.heap.size, 3, none⟩ = some (vi o.r.start) := by rw [cell_of HXB.out]; rfl
            clear hk0
            go_upto_region 22 with fail
            go_cut [88] (fun v wx => v = .bool (known && decide (o.r.start < a)) ∧ wx = wB)
            case first =>
              cases known
              · go_wp2_with fail
                go_meet
                exact ⟨rfl, rfl⟩
              · go_wp2_with fail
                go_meet
                exact ⟨rfl, rfl⟩
            case rest =>
              obtain ⟨wC, rfl⟩ : ∃ wC : World, wC = wc := ⟨_, rfl⟩
              obtain ⟨rfl, hwC⟩ := hcut
              subst hwC
              clear x3 x0
              obtain ⟨q, hq⟩ : ∃ q, (known && decide (o.r.start < a)) = q := ⟨_, rfl⟩
              rw [hq]
              have HQ := Lib.hid hq
              clear hq
              cases q
              · have x1 : wC.cell? ⟨wj.heap.size, 1, none⟩ = some (vi o.r.txn) := by rw [cell_of HXB.out]; rfl
                have x2 : wC.cell? ⟨wj.heap.size, 2, none⟩ = some (vi o.r.home) := by rw [cell_of HXB.out]; rfl
                have x3 : wC.cell? ⟨wj.heap.size, 3, none⟩ = some (vi o.r.start) := by rw [cell_of HXB.out]; rfl
                have x4 : wC.cell? ⟨wj.heap.size, 4, none⟩ = some (.slice aw o.r.writes.length cw) := by rw [cell_of HXB.out]; rfl
                have x5 : wC.cell? ⟨wj.heap.size, 5, none⟩ = some (.slice ar o.r.reads.length cr) := by rw [cell_of HXB.out]; rfl
                have hRl : R.length ≤ 1048576 := by have := HP.out.rlen; omega
                go_wp2_with fail
                refine (prep_call ⟨.slice aw o.r.writes.length cw, .slice ar o.r.reads.length cr, o.r⟩ wC HMB.out hRl HRB.out HRI.out.txn HSM.out.1.key (by have := HSM.out.1.ws; show o.r.writes.length ≤ _; omega) (by have := HSM.out.1.rs; show o.r.reads.length ≤ _; omega)).mono ?_
                rintro e wD ⟨by1, er1, R1, rfl, hp, hmD, hgD⟩
                have HPD := Lib.hid (past_prep HP.out HSM.out.1 (fun hkn hs => by
                  have := HQ.out
                  rw [hkn, Bool.true_and, decide_eq_false_iff_not] at this
                  exact this hs) hp)
                have HMD := Lib.hid hmD
                have HTD := Lib.hid (HTB.out.trans (Turns.grown hgD (by simp)))
                have HSD := Lib.hid (HSB.out.trans ((Solid.refl wC).map (HMB.out.ready.obj).choose_spec.choose_spec hgD))
                clear hp hmD hgD hRl x1 x2 x3 x4 x5
                dsimp only
                go_wp2_with fail
                go_roundw
                case rel => exact ⟨i + 1, known, was, by omega, by go_num, rfl, rfl, Lib.hid ⟨K, R1, E, HPD.out, HMD.out, HTD.out, HSD.out⟩⟩
                case measure => simp [intOf]; omega
              · go_wp2_with fail
                go_roundw
                case rel => exact ⟨i + 1, known, was, by omega, by go_num, rfl, rfl, Lib.hid ⟨K, R, E, HP.out.more, HMB.out, HTB.out, HSB.out⟩⟩
                case measure => simp [intOf]; omega
          · have hb0 : (o.k == 0) = false := by simp [hk0]
            by_cases hk1 : o.k = 1
            · have hb1 : (o.k == 1) = true := by simp [hk1]
              clear hk0 hk1
              have hRl : R.length ≤ 1048576 := by have := HP.out.rlen; omega
              have hZA := (Below.refl wB.heap.size wB).alloc (Nat.le_refl _) (.cells #[vi 0, vi 0, vi 1099511627776, .slice none 0 0, .slice none 0 0] 29)
              have HZ := Lib.hid (alloc_at wB (.cells #[vi 0, vi 0, vi 1099511627776, .slice none 0 0, .slice none 0 0] 29))
              have HZX := Lib.hid ((hZA.block wj.heap.size (Array.getElem?_eq_some_iff.1 HXB.out).1).trans HXB.out)
              have HMZ := Lib.hid (HMB.out.later hZA)
              have HZA := Lib.hid hZA
              clear hZA
              go_upto_region 26 with fail
              clear x0
              generalize wB.alloc (.cells #[vi 0, vi 0, vi 1099511627776, .slice none 0 0, .slice none 0 0] 29) = wC at *
              have hwB := HBB.out.size
              have hwxj := (Array.getElem?_eq_some_iff.1 HXB.out).1
              go_wp2_with fail
              refine (waits_call wC HMZ.out hRl (fun y hy => by have := (HP.out.small y hy).1; exact ⟨by have := this.ws; omega, by have := this.rs; omega⟩)).mono ?_
              rintro e wD ⟨vL, L, rfl, hoL, hwL, hbL⟩
              have HOL := Lib.hid hoL
              have HWL := Lib.hid hwL
              have HBL := Lib.hid (HZA.out.trans (hbL.mono HZA.out.size))
              have HZL := Lib.hid ((hbL.block wB.heap.size (Array.getElem?_eq_some_iff.1 HZ.out).1).trans HZ.out)
              have HZXL := Lib.hid ((hbL.block wj.heap.size (Array.getElem?_eq_some_iff.1 HZX.out).1).trans HZX.out)
              have HML := Lib.hid (HMZ.out.later hbL)
              obtain ⟨aL, cL, rfl⟩ := own_shape hoL.row
              have hL60 : L.length ≤ 60 := by
                obtain ⟨ks, h1, h2, h3⟩ := hwL
                have h4 := congrArg List.length h3
                have h5 := h1.length_eq
                have := HP.out.rlen
                simp at h4 h5; omega
              have hszD := HBL.out.size
              have hbZ : wB.heap.size < wC.heap.size := (Array.getElem?_eq_some_iff.1 HZ.out).1
              have hbL2 := hbL.size
              clear hoL hwL hbL HZ HZX HMZ hRl
              dsimp only
              go_wp2_with fail
              go_loopw [99] (fun kv wr => ∃ (k : Nat), k ≤ L.length ∧ kv = .int .i64 k ∧ Hid (FindW wB.heap.size wD o.e.txn R L k wr)) (fun kv _ => L.length - (intOf kv).toNat)
              case atStart => exact ⟨0, Nat.zero_le _, rfl, Lib.hid ⟨_, _, _, _, _, _, _, _, _, HZL.out, ⟨rfl, rfl, rfl, Nat.le_refl _, fun _ _ _ => rfl⟩, fun j hj => absurd hj (Nat.not_lt_zero _)⟩⟩
              case round =>
                obtain ⟨wk, rfl⟩ : ∃ wk : World, wk = wr := ⟨_, rfl⟩
                obtain ⟨k, hk, rfl, HF⟩ := hrel
                obtain ⟨z1, z2, zs, a1, n1, c1, a2, n2, c2, hz, hg, hf⟩ := HF.out
                have hxk : wk.heap[wj.heap.size]? = _ := (hg.block _ (Array.getElem?_eq_some_iff.1 HZXL.out).1 (fun e => by have := Option.some.inj e; omega)).trans HZXL.out
                have HXK := Lib.hid hxk
                have HZ := Lib.hid hz
                have HG := Lib.hid hg
                have HFF := Lib.hid hf
                by_cases hlt : k < L.length
                · obtain ⟨y, hy⟩ := some_at hlt
                  obtain ⟨gL, rfl, hcell⟩ := HOL.out.cellsAt hy (W := wk) (fun g h1 h2 => hg.block g h2 (fun e => by have := Option.some.inj e; omega))
                  obtain ⟨ya, yn, yc, yd, ye, yf, e6, e7⟩ := HOL.out.shapes (List.mem_of_getElem? hy)
                  have y0c : wk.cell? ⟨gL, k * 5, none⟩ = some (vi y.r.txn) := hcell 0 _ rfl
                  have y1c : wk.cell? ⟨gL, k * 5 + 1, none⟩ = some (vi y.r.home) := hcell 1 _ rfl
                  have y2c : wk.cell? ⟨gL, k * 5 + 2, none⟩ = some (vi y.r.start) := hcell 2 _ rfl
                  have y3c : wk.cell? ⟨gL, k * 5 + 3, none⟩ = some (.slice ya yn yc) := hcell 3 _ (by rw [← e6]; rfl)
                  have y4c : wk.cell? ⟨gL, k * 5 + 4, none⟩ = some (.slice yd ye yf) := hcell 4 _ (by rw [← e7]; rfl)
                  have hkI : (k : Int) < (L.length : Int) := by omega
                  have HY := Lib.hid hy
                  have x6 : ∀ o', (wk.alloc o').cell? ⟨wj.heap.size, 6, none⟩ = some (vi o.e.txn) := fun o' => cell_later ((Below.refl _ _).alloc (Nat.le_refl _) o') (by rw [cell_of hxk]; rfl)
                  have hbz : wB.heap.size < wk.heap.size := (Array.getElem?_eq_some_iff.1 hz).1
                  have hwi2 : IntKind.i64.wrap ((k : Int) + 1) = (k : Int) + 1 := IntWalk.i64_in _ (by omega)
                  clear hcell e6 e7 hy hxk hf hz hg HF
                  by_cases heq : y.r.txn = o.e.txn
                  · have hbe : (y.r.txn == o.e.txn) = true := by simp [heq]
                    have HEQ := Lib.hid heq
                    clear heq
                    have q0 : ∀ j, wk.frozen? ⟨wB.heap.size, j, none⟩ = false := fun j => free_of HZ.out j
                    have p0 : wk.cell? ⟨wB.heap.size, 0, none⟩ = some (vi z1) := by rw [cell_of HZ.out]; rfl
                    have p1 : wk.cell? ⟨wB.heap.size, 1, none⟩ = some (vi z2) := by rw [cell_of HZ.out]; rfl
                    have p2 : wk.cell? ⟨wB.heap.size, 2, none⟩ = some (vi zs) := by rw [cell_of HZ.out]; rfl
                    have p3 : wk.cell? ⟨wB.heap.size, 3, none⟩ = some (.slice a1 n1 c1) := by rw [cell_of HZ.out]; rfl
                    have p4 : wk.cell? ⟨wB.heap.size, 4, none⟩ = some (.slice a2 n2 c2) := by rw [cell_of HZ.out]; rfl
                    have HQ := Lib.hid (show ∃ q, getM R o.e.txn = some q ∧ y.r.start = q.r.start from by
                      obtain ⟨q, h1, h2⟩ := waits_at HWL.out (fun y hy => (HP.out.small y hy).2) HML.out.ready.pairwise (List.mem_map.2 ⟨y, List.mem_of_getElem? HY.out, rfl⟩)
                      rw [HEQ.out] at h1
                      exact ⟨q, h1, by rw [h2]⟩)
                    have HS5 := Lib.hid (set5 (vi y.r.txn) (vi y.r.home) (vi y.r.start) (.slice ya yn yc) (.slice yd ye yf) HZ.out)
                    go_wp2_with fail
                    go_roundw
                    case rel =>
                      exact ⟨k + 1, by omega, by go_num, Lib.hid ⟨_, _, _, _, _, _, _, _, _, (Below.heap_alloc _ _ _ (Nat.lt_of_lt_of_le hbz HS5.out.2.size)).trans HS5.out.1, (HG.out.trans HS5.out.2).trans (World.grownBy_alloc _ _ _), fun j hj y' hy' htx => HQ.out⟩⟩
                    case measure => simp [intOf]; omega
                  · have hbe : (y.r.txn == o.e.txn) = false := by simp [heq]
                    have HNE := Lib.hid heq
                    clear heq
                    go_wp2_with fail
                    go_roundw
                    case rel =>
                      refine ⟨k + 1, by omega, by go_num, Lib.hid ⟨z1, z2, zs, a1, n1, c1, a2, n2, c2, (((Below.refl wk.heap.size wk).alloc (Nat.le_refl _) _).block wB.heap.size hbz).trans HZ.out, HG.out.trans (World.grownBy_alloc _ _ _), fun j hj y' hy' htx => ?_⟩⟩
                      rcases Nat.lt_or_ge j k with h | h
                      · exact HFF.out j h y' hy' htx
                      · obtain rfl : j = k := by omega
                        rw [HY.out] at hy'; cases hy'; exact absurd htx HNE.out
                    case measure => simp [intOf]; omega
                · obtain rfl : k = L.length := by omega
                  have x6 : wk.cell? ⟨wj.heap.size, 6, none⟩ = some (vi o.e.txn) := by rw [cell_of hxk]; rfl
                  have x7 : wk.cell? ⟨wj.heap.size, 7, none⟩ = some (.bool o.e.commit) := by rw [cell_of hxk]; rfl
                  have x8 : wk.cell? ⟨wj.heap.size, 8, none⟩ = some (vi o.e.at_) := by rw [cell_of hxk]; rfl
                  have p2 : wk.cell? ⟨wB.heap.size, 2, none⟩ = some (vi zs) := by rw [cell_of hz]; rfl
                  have hBk : Below wB.heap.size wB wk := HBL.out.grown hg hszD (fun j hj => by cases hj; exact Nat.le_refl _)
                  have HMK := Lib.hid (HMB.out.later hBk)
                  have HTK := Lib.hid (HTB.out.later hBk)
                  have HSK2 := Lib.hid (HSB.out.later hBk)
                  clear hxk hz hg hf HF hBk
                  by_cases hat : zs < o.e.at_
                  · have HE := Lib.hid (show ∀ q, getM R o.e.txn = some q → q.r.start < o.e.at_ from fun q hq => by
                      have hm := waits_all HWL.out hq
                      obtain ⟨y, hy, hyq⟩ := List.mem_map.1 hm
                      obtain ⟨j, hj⟩ := List.mem_iff_getElem?.1 hy
                      have htx : y.r.txn = o.e.txn := by rw [hyq]; exact ((HP.out.small _ (getM_some hq)).2).symm
                      obtain ⟨q2, h1, h2⟩ := HFF.out j (List.getElem?_eq_some_iff.1 hj).1 y hj htx
                      rw [hq] at h1; cases h1
                      omega)
                    go_wp2_with fail
                    refine (finish_call o.e wk HMK.out HEI.out.txn HEI.out.at_ HP.out.srt (fun k => by have := HP.out.len k; omega) (fun y hy => by have := (HP.out.small y hy).1; exact ⟨by have := this.ws; omega, this.key⟩)).mono ?_
                    rintro e wF ⟨K3, R3, E3, rfl, hf, hmF, htF⟩
                    have HPF := Lib.hid (past_fin HP.out HE.out hf)
                    have HMF := Lib.hid hmF
                    have HTF := Lib.hid (HTK.out.trans htF)
                    have HSF := Lib.hid (HSK2.out.trans (htF.solid HMK.out.maps))
                    clear hf hmF htF
                    dsimp only
                    go_wp2_with fail
                    go_roundw
                    case rel => exact ⟨i + 1, known, was, by omega, by go_num, rfl, rfl, Lib.hid ⟨K3, R3, E3, HPF.out, HMF.out, HTF.out, HSF.out⟩⟩
                    case measure => simp [intOf]; omega
                  · go_wp2_with fail
                    go_roundw
                    case rel => exact ⟨i + 1, known, was, by omega, by go_num, rfl, rfl, Lib.hid ⟨K, R, E, HP.out.more, HMK.out, HTK.out, HSK2.out⟩⟩
                    case measure => simp [intOf]; omega
            · have hb1 : (o.k == 1) = false := by simp [hk1]
              clear hk0 hk1
              go_wp2_with fail
              have hRl : R.length ≤ 1048576 := by have := HP.out.rlen; omega
              refine (read_call (-1) key a wB HMB.out hRl HK.out).mono ?_
              rintro e wD ⟨v, by1, er1, rfl, hr, hbD⟩
              have hpr := past_read HP.out hr
              have HMD := Lib.hid (HMB.out.later hbD)
              have HTD := Lib.hid (HTB.out.later hbD)
              have HSD := Lib.hid (HSB.out.later hbD)
              clear hr hbD hRl x0
              dsimp only
              rcases hpr with ⟨rfl, hval, hP'⟩ | ⟨rfl, rfl, hby⟩
              · have HP' := Lib.hid hP'
                cases known
                · clear hval hP'
                  go_wp2_with fail
                  go_roundw
                  case rel => exact ⟨i + 1, true, v, by omega, by go_num, rfl, rfl, Lib.hid ⟨K, R, E, HP'.out, HMD.out, HTD.out, HSD.out⟩⟩
                  case measure => simp [intOf]; omega
                · have hvw := hval rfl
                  have hne : (v != was) = false := by simp [hvw]
                  clear hval hP' hvw
                  go_wp2_with fail
                  go_roundw
                  case rel => exact ⟨i + 1, true, v, by omega, by go_num, rfl, rfl, Lib.hid ⟨K, R, E, HP'.out, HMD.out, HTD.out, HSD.out⟩⟩
                  case measure => simp [intOf]; omega
              · have hne : (by1 == -1) = false := by simp [hby]
                clear hby
                go_wp2_with fail
                go_roundw
                case rel => exact ⟨i + 1, false, was, by omega, by go_num, rfl, rfl, Lib.hid ⟨K, R, E, HP.out.more, HMD.out, HTD.out, HSD.out⟩⟩
                case measure => simp [intOf]; omega
      · have hi2 : ¬ (i : Int) < 60 := by omega
        have hi1 : (i : Int) < (ops.length : Int) := by omega
        go_wp2_with fail
        go_ret
        exact ⟨rfl, HB.out⟩
    · have hi1 : ¬ (i : Int) < (ops.length : Int) := by omega
      go_wp2_with fail
      go_ret
      exact ⟨rfl, HB.out⟩
end Go.Proofs.Ytbadpfcjoobniaa
