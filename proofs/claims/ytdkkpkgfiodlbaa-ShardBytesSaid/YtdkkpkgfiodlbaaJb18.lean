/- Texts of one proof, one behind the other: RnPrE, RnPrC, RnPrB, RnSim. -/
import Derived.Test.YtdkkpkgfiodlbaaJb17
import Derived.Test.YtdkkpkgfiodlbaaJb6
import Derived.Test.YtdkkpkgfiodlbaaJb7
set_option linter.all false
/- Layer 19's reference: Prepare: one more waits. -/
namespace Go.Proofs.Ytdkkpkgfiodlbaa
open Go.RowKit Go.Maps
attribute [local go_sem] Oper.semAt_some

theorem insOf_len (r : Rdy) : ∀ (ws : List Rdy) (b : List Rdy × Bool), (ws.foldl (insStep r) b).1.length ≤ b.1.length + 2 * ws.length
  | [], b => Nat.le_refl _
  | x :: ws, b => by
    rw [List.foldl_cons]
    refine Nat.le_trans (insOf_len r ws _) ?_
    unfold insStep
    split <;> simp <;> omega
theorem own_set5b {W : World} {N e n m b : Nat} {v v0 v1 v2 v3 v4 : Value} {xs : List Value} (h : W.ownsRow N e n v m xs) (hb : b < N) :
    (((((W.setCell ⟨b, 0, none⟩ v0).setCell ⟨b, 1, none⟩ v1).setCell ⟨b, 2, none⟩ v2).setCell ⟨b, 3, none⟩ v3).setCell ⟨b, 4, none⟩ v4).ownsRow N e n v m xs :=
  own_set (own_set (own_set (own_set (own_set h hb) hb) hb) hb) hb
/-- What the last loop of Prepare keeps of memory. -/
structure PrK (w0 : World) (N : Nat) (W0 : World) (m : RV) (bC : Nat) (vo : Value) (L : List RV) (dn : Bool) (W : World) : Prop where
  row : W.ownsRow N 61 5 vo L.length (L.flatMap rdyL)
  mw : W.ownsRow N 104 3 m.wv m.r.writes.length (m.r.writes.flatMap opV)
  mi : W.ownsRow N 3 1 m.rv m.r.reads.length (m.r.reads.flatMap viC)
  els : ∀ x ∈ L, RdyS w0 x ∨ x = m
  below : Below N W0 W
  base : N = W0.heap.size
  box : dn = false → W.heap[bC]? = some (.cells (rdyC m) 61) ∧ some bC ≠ vo.ownBlock
  frs : dn = false → ∀ x ∈ L, x.r.txn ≠ m.r.txn
theorem PrK.size {w0 : World} {N : Nat} {W0 A : World} {m : RV} {bC : Nat} {vo : Value} {L : List RV} {dn : Bool} (h : PrK w0 N W0 m bC vo L dn A) : N ≤ A.heap.size := by rw [h.base]; exact h.below.size
theorem PrK.alloc {w0 : World} {N : Nat} {W0 A : World} {m : RV} {bC : Nat} {vo : Value} {L : List RV} {dn : Bool} (h : PrK w0 N W0 m bC vo L dn A) (o : Obj) : PrK w0 N W0 m bC vo L dn (A.alloc o) :=
  ⟨h.row.alloc o, h.mw.alloc o, h.mi.alloc o, h.els, h.below.alloc h.size o, h.base, fun hd => ⟨heap_un (h.box hd).1, (h.box hd).2⟩, h.frs⟩
theorem PrK.push {w0 : World} {N : Nat} {W0 A B : World} {m x : RV} {bC : Nat} {vo v' : Value} {L : List RV} {dn : Bool} (h : PrK w0 N W0 m bC vo L dn A) (hg : A.grownBy B vo.ownBlock) (ho : B.ownsRow N 61 5 v' (L.length + 1) (L.flatMap rdyL ++ rdyL x)) (dn' : Bool) (hx : RdyS w0 x ∨ x = m) (hd : dn' = false → dn = false ∧ x.r.txn ≠ m.r.txn) : PrK w0 N W0 m bC v' (L ++ [x]) dn' B := by
  have hfl : L.flatMap rdyL ++ rdyL x = (L ++ [x]).flatMap rdyL := by rw [List.flatMap_append]; simp
  have hfr : dn' = false → ∀ y ∈ L ++ [x], y.r.txn ≠ m.r.txn := fun h1 y hy => by
    rcases List.mem_append.1 hy with hy | hy
    · exact h.frs (hd h1).1 y hy
    · rw [List.mem_singleton.1 hy]; exact (hd h1).2
  refine ⟨by rw [List.length_append, ← hfl]; exact ho, h.mw.kept hg (own_apart h.mw h.row (by decide)), h.mi.kept hg (own_apart h.mi h.row (by decide)), fun y hy => ?_, h.below.grown hg h.size (fun j hj => (h.row.lt j hj).1), h.base, fun h1 => ?_, hfr⟩
  · rcases List.mem_append.1 hy with hy | hy
    · exact h.els y hy
    · rw [List.mem_singleton.1 hy]; exact hx
  · obtain ⟨hb, hn⟩ := h.box (hd h1).1
    have hB : B.heap[bC]? = some (.cells (rdyC m) 61) := (hg.block bC (Array.getElem?_eq_some_iff.1 hb).1 hn).trans hb
    refine ⟨hB, fun e => ?_⟩
    obtain ⟨x0, L', hL⟩ : ∃ x0 L', L ++ [x] = x0 :: L' := by cases L with
      | nil => exact ⟨_, _, rfl⟩
      | cons a l => exact ⟨_, _, rfl⟩
    have hc := World.ownsRow.cells ho e.symm 0 (vi x0.r.txn) (by rw [hfl, hL]; rfl)
    rw [addr_add, cell_of hB] at hc
    have hc' : vi m.r.txn = vi x0.r.txn := by simpa [rdyC] using hc
    exact hfr h1 x0 (by rw [hL]; exact List.mem_cons_self) (by simpa using hc'.symm)

set_option maxRecDepth 1000000 in
set_option maxHeartbeats 16000000 in
theorem prD (A w0 : World) (x : RSV) (rv : RV) (X X1 X2 : Nat) (f : Nat → Value) (w : World) (hB : PrB x rv X X1 X2 w) (hxA : RdSt A x) (hA : CLe A w0) (hr : RdyS w0 rv) (h0 : Below w0.heap.size w0 w)
    (hl : x.s.ws.length ≤ 1000 ∧ rv.r.writes.length ≤ 1000 ∧ rv.r.reads.length ≤ 1000) (hne : ∀ y ∈ x.s.ws, y.txn ≠ rv.r.txn) (hb : w0.heap.size ≤ X ∧ w0.heap.size ≤ X1 ∧ w0.heap.size ≤ X2 ∧ X ≠ X1 ∧ X ≠ X2 ∧ X1 ≠ X2)
    (e2 : f 2 = .pointer (some ⟨X, 0, none⟩)) (e3 : f 3 = .pointer (some ⟨X1, 0, none⟩)) (e4 : f 4 = .pointer (some ⟨X2, 0, none⟩)) :
    Code.wp Try.prog cPrD (bodyPost Try.prog Try.f39 (PrR A w0 ⟨x.s.serial, x.s.bugs, x.s.vs, insR x.s.ws rv.r, x.s.es⟩ 0 0)) (frN 226 f) w := by
  rw [fr226, e2, e3, e4]
  clear e2 e3 e4
  have hx := hxA.le hA
  have HHA := Lib.hid hA
  obtain ⟨vv, wv, ev, s⟩ := x
  have HV := Lib.hid hx.vs
  have HW := Lib.hid (show RdRdy A wv s.ws from hxA.ws)
  have HVA := Lib.hid (show RdVer3 A vv s.vs from hxA.vs)
  have HEA := Lib.hid (show RdEn A ev s.es from hxA.es)
  clear hxA hA
  have HE := Lib.hid hx.es
  obtain ⟨av, nv, cv, hwv, rfl, hmv, -⟩ := (show RdVer3 w0 vv s.vs from hx.vs).at
  obtain ⟨aw, nw, cw, hww, rfl, hmw, -⟩ := (show RdRdy w0 wv s.ws from hx.ws).at
  obtain ⟨ae, ne, ce, hwe, rfl, hme, -⟩ := (show RdEn w0 ev s.es from hx.es).at
  subst hwv hww hwe
  obtain ⟨rw_, rr, r⟩ := rv
  obtain ⟨a1, l1, c1, h1, rfl, -, -⟩ := (show RdOps w0 rw_ r.writes from hr.ws).at
  obtain ⟨a2, l2, c2, h2, rfl, -, -⟩ := (show RdInts w0 rr r.reads from hr.rs).at
  subst h1 h2
  have HR := Lib.hid hr
  have HB := Lib.hid hB
  simp only at HV HW HE HVA HEA hl hne
  have HNE := Lib.hid hne
  clear hne
  obtain ⟨hb0, hb1, hb2, hn1, hn2, hn3⟩ := hb
  have hX2l := (Array.getElem?_eq_some_iff.1 hB.rs).1
  have H0 := Lib.hid h0
  clear hx hr hB h0
  have hXl := (Array.getElem?_eq_some_iff.1 HB.out.st).1
  have hX1l := (Array.getElem?_eq_some_iff.1 HB.out.rd).1
  have ho1 := World.ownsRow_lit (base := w.heap.size) (e := 61) (size := 5) w #[] 0 (Nat.le_refl _) (by simp [maxLen]) rfl
  have hba := (Below.refl w.heap.size w).alloc (Nat.le_refl _) (.cells #[] 61)
  conv => arg 2; whnf
  go_upto_region 51 with fail
  generalize w.alloc (.cells #[] 61) = wS at *
  generalize Value.slice (some ⟨w.heap.size, 0, none⟩) 0 0 = vo at *
  have hww : w.heap.size ≤ wS.heap.size := hba.size
  have HBS := Lib.hid (HB.out.later hba)
  have H0S := Lib.hid (H0.out.trans (hba.mono H0.out.size))
  have HO1 := Lib.hid ho1
  clear ho1
  refine wp_cutF 226 (fun q wx => q 2 = .pointer (some ⟨X, 0, none⟩) ∧ q 3 = .pointer (some ⟨X1, 0, none⟩) ∧ q 4 = .pointer (some ⟨X2, 0, none⟩) ∧ q 26 = vo ∧ q 27 = .bool false ∧ ∃ (bC : Nat) (mw mr : Value), q 28 = .pointer (some ⟨bC, 0, none⟩) ∧ wx.heap[bC]? = some (.cells #[vi r.txn, vi r.home, vi r.start, mw, mr] 61) ∧ wx.ownsRow wS.heap.size 104 3 mw r.writes.length (r.writes.flatMap opV) ∧ wx.ownsRow wS.heap.size 3 1 mr r.reads.length (r.reads.flatMap viC) ∧ Below wS.heap.size wS wx ∧ wS.heap.size ≤ bC) ?rest ?first
  case first =>
    intro J1 K1 h1 h2
    refine wp_onlyN (K := K1) ?_ (fun _ _ h => h)
    refine wp_fr 226 _ rfl ?_
    show Code.wp Try.prog cPr51 _ _ _
    refine prReg r a1 c1 a2 c2 X1 _ wS HBS.out.rd (HR.out.later H0S.out) hl.2 rfl K1 ?_
    intro l wx bC mw mr hll hc hf
    obtain ⟨t2, t3, t4, t26, t27, t28⟩ := hc
    exact h2 _ _ (Met.intro (h1 l _ hll ⟨t2.trans rfl, t3, t4.trans rfl, t26.trans rfl, t27.trans rfl, bC, mw, mr, t28, hf⟩))
  case rest =>
    rintro q wx ⟨q2, q3, q4, q26, q27, bC, mw, mr, q28, hC, hmw, hmr, hbx, hbc⟩
    go_step
    obtain ⟨am, cm, hm1⟩ := own_shape hmw
    obtain ⟨an, cn, hm2⟩ := own_shape hmr
    obtain ⟨ao, co, ho⟩ := own_shape HO1.out
    subst hm1 hm2 ho
    have hbw : Below w.heap.size w wx := hba.trans (hbx.mono hww)
    have HBX := Lib.hid (show PrB ⟨.slice av s.vs.length cv, .slice aw s.ws.length cw, .slice ae s.es.length ce, s⟩ ⟨.slice a1 r.writes.length c1, .slice a2 r.reads.length c2, r⟩ X X1 X2 wx from HBS.out.later hbx)
    have HK0 := Lib.hid (show PrK A w.heap.size w ⟨.slice am r.writes.length cm, .slice an r.reads.length cn, r⟩ bC (.slice ao 0 co) [] false wx from
      ⟨own_below HO1.out hbx, own_mono hmw hww, own_mono hmr hww, (fun x hx => by cases hx), hbw, rfl, fun _ => ⟨hC, fun e => by have := (HO1.out.lt bC e.symm).2; omega⟩, (fun _ x hx => by cases hx)⟩)
    rw [fr226, q2, q3, q4, q26, q27, q28]
    have x3 : wx.cell? ⟨X, 3, none⟩ = some (.slice aw s.ws.length cw) := by rw [cell_of HBX.out.st]; rfl
    have HPB := Lib.hid (show ∀ W, Below w.heap.size w W → PrB ⟨.slice av s.vs.length cv, .slice aw s.ws.length cw, .slice ae s.es.length ce, s⟩ ⟨.slice a1 r.writes.length c1, .slice a2 r.reads.length c2, r⟩ X X1 X2 W from fun W hW => HB.out.later hW)
    have HRI := Lib.hid (reads_i64 HR.out.rs)
    clear q2 q3 q4 q26 q27 q28 hC hmw hmr hbx hbw HO1
    go_wp2_with fail
    clear x3
    refine wp_loopF 226 (fun m g wr => g 2 = .pointer (some ⟨X, 0, none⟩) ∧ g 3 = .pointer (some ⟨X1, 0, none⟩) ∧ g 4 = .pointer (some ⟨X2, 0, none⟩) ∧ g 28 = .pointer (some ⟨bC, 0, none⟩) ∧ g 193 = .slice aw s.ws.length cw ∧ g 194 = .int .i64 s.ws.length ∧
      ∃ (k : Nat) (L : List RV) (dn : Bool), k ≤ s.ws.length ∧ m = s.ws.length - k ∧ g 195 = .int .i64 k ∧ g 27 = .bool dn ∧ PrK A w.heap.size w ⟨.slice am r.writes.length cm, .slice an r.reads.length cn, r⟩ bC (g 26) L dn wr ∧ (L.map (·.r), dn) = (s.ws.take k).foldl (insStep r) ([], false)) _ rfl s.ws.length ?start ?round
    case start => exact ⟨rfl, rfl, rfl, rfl, rfl, rfl, 0, [], false, Nat.zero_le _, rfl, rfl, rfl, HK0.out, rfl⟩
    case round =>
      rintro gm g wr ⟨g2, g3, g4, g28, g193, g194, k, L, dn, hk, hgm, g195, g27, hK, hL⟩ JJ KK HJ HKK
      have HJJ := Lib.hid HJ
      have HGM := Lib.hid hgm
      have HL := Lib.hid hL
      have HK := Lib.hid hK
      obtain ⟨ag, cg, hag⟩ := own_shape hK.row
      rw [hag] at HK
      rw [fr226, g2, g3, g4, g28, g193, g194, g195, g27, hag]
      have hLl : L.length ≤ 2000 := by
        have h1 := insOf_len r (s.ws.take k) ([], false)
        rw [← hL, List.length_map, List.length_take] at h1
        simp at h1
        omega
      have hB := HPB.out wr hK.below
      clear HJ hgm hL hK g2 g3 g4 g28 g193 g194 g195 g27 hag
      by_cases hlt : k < s.ws.length
      · have k1 : decide ((k : Int) < s.ws.length) = true := decide_eq_true (by omega)
        have k2 : (k : Int) < s.ws.length := by omega
        have hwk : IntKind.i64.wrap ((k : Int) + 1) = (k : Int) + 1 := IntWalk.i64_in _ (by omega)
        obtain ⟨x, hx⟩ := some_at hlt
        have hxne : x.txn ≠ r.txn := HNE.out x (List.mem_of_getElem? hx)
        obtain ⟨gg, off, rw_, rr, ha, hrs, c0, c1', c2', c3, c4⟩ := HW.out.el hx
        obtain ⟨b1, l1, e1, rfl, -, -, -⟩ := (show RdOps A rw_ x.writes from hrs.ws).at
        obtain ⟨b2, l2, e2, rfl, -, -, -⟩ := (show RdInts A rr x.reads from hrs.rs).at
        have hwq := HHA.out.later (H0.out.trans (HK.out.below.mono H0.out.size))
        replace c0 := hwq _ _ _ c0
        replace c1' := hwq _ _ _ c1'
        replace c2' := hwq _ _ _ c2'
        replace c3 := hwq _ _ _ c3
        replace c4 := hwq _ _ _ c4
        subst ha
        have HXS := Lib.hid hrs
        have HF := Lib.hid (fold_take (f := insStep r) (b := ([], false)) hx)
        rw [← HL.out] at HF
        have HXN := Lib.hid hxne
        have a0 : wr.cell? ⟨X1, 0, none⟩ = some (vi r.txn) := by rw [cell_of hB.rd]; rfl
        have a0' := later_alloc a0 (.cells #[vi x.txn, vi x.home, vi x.start, .slice b1 l1 e1, .slice b2 l2 e2] 61)
        have HKA := Lib.hid (HK.out.alloc (.cells #[vi x.txn, vi x.home, vi x.start, .slice b1 l1 e1, .slice b2 l2 e2] 61))
        have hAE := alloc_at wr (.cells #[vi x.txn, vi x.home, vi x.start, .slice b1 l1 e1, .slice b2 l2 e2] 61)
        clear hx hrs hwq a0 hB hxne
        have HZN := Lib.hid (show some wr.heap.size ≠ (Value.slice ag L.length cg).ownBlock from fun e => by have := (HK.out.row.lt _ e.symm).2; omega)
        go_upto_region 55 with fail
        generalize wr.alloc (.cells #[vi x.txn, vi x.home, vi x.start, .slice b1 l1 e1, .slice b2 l2 e2] 61) = wz at *
        generalize wr.heap.size = Zb at *
        have z0 : wz.cell? ⟨Zb, 0, none⟩ = some (vi x.txn) := by rw [cell_of hAE]; rfl
        have z1 : wz.cell? ⟨Zb, 1, none⟩ = some (vi x.home) := by rw [cell_of hAE]; rfl
        have z2 : wz.cell? ⟨Zb, 2, none⟩ = some (vi x.start) := by rw [cell_of hAE]; rfl
        have z3 : wz.cell? ⟨Zb, 3, none⟩ = some (.slice b1 l1 e1) := by rw [cell_of hAE]; rfl
        have z4 : wz.cell? ⟨Zb, 4, none⟩ = some (.slice b2 l2 e2) := by rw [cell_of hAE]; rfl
        clear c0 c1' c2' c3 c4 HK
        have HAE := Lib.hid hAE
        have HLA := Lib.hid (show L.length + 1 ≤ 68719476736 by omega)
        have hLM : (L ++ [(⟨.slice am r.writes.length cm, .slice an r.reads.length cn, r⟩ : RV)]).length + 1 ≤ 68719476736 := by rw [List.length_append]; simp; omega
        clear hAE
        cases dn with
        | true =>
          have HLB := HLA
          clear hLM
          go_wp2_with (refine wpList_append_src rfl (.tmp 212) (.tmp 214) 49 rfl eltR19 w.heap.size L.length _ (HKA.out.alloc _).row rfl 1 (rdyL ⟨.slice b1 l1 e1, .slice b2 l2 e2, x⟩) (src_new (cs := #[vi x.txn, vi x.home, vi x.start, .slice b1 l1 e1, .slice b2 l2 e2]) rfl rfl) rfl rdyL_one HLB.out (by omega) (HKA.out.alloc _).size ?_; intro v5 w5 ho5 hg5 _; have HK5 := Lib.hid ((HKA.out.alloc (.cells #[vi x.txn, vi x.home, vi x.start, .slice b1 l1 e1, .slice b2 l2 e2] 61)).push hg5 ho5 true (.inl HXS.out) (fun h => by cases h)); clear ho5 hg5)
          refine Handed.intro (s.ws.length - (k + 1)) (by rw [HGM.out]; omega) (HJJ.out _ _ _ rfl ⟨rfl, rfl, rfl, rfl, rfl, rfl, k + 1, _, _, by omega, rfl, ?_, rfl, HK5.out, ?_⟩)
          · show Value.int .i64 _ = _
            go_num
          · rw [HF.out]; unfold insStep; simp
        | false =>
          cases hq : decide (r.txn < x.txn) with
          | false =>
            have HLB := HLA
            have hq' : ¬ r.txn < x.txn := of_decide_eq_false hq
            have hq2 : x.txn ≤ r.txn := by omega
            have HQ := Lib.hid hq
            clear hLM
            go_wp2_with (refine wpList_append_src rfl (.tmp 212) (.tmp 214) 49 rfl eltR19 w.heap.size L.length _ (HKA.out.alloc _).row rfl 1 (rdyL ⟨.slice b1 l1 e1, .slice b2 l2 e2, x⟩) (src_new (cs := #[vi x.txn, vi x.home, vi x.start, .slice b1 l1 e1, .slice b2 l2 e2]) rfl rfl) rfl rdyL_one HLB.out (by omega) (HKA.out.alloc _).size ?_; intro v5 w5 ho5 hg5 _; have HK5 := Lib.hid ((HKA.out.alloc (.cells #[vi x.txn, vi x.home, vi x.start, .slice b1 l1 e1, .slice b2 l2 e2] 61)).push hg5 ho5 false (.inl HXS.out) (fun _ => ⟨rfl, HXN.out⟩)); clear ho5 hg5)
            refine Handed.intro (s.ws.length - (k + 1)) (by rw [HGM.out]; omega) (HJJ.out _ _ _ rfl ⟨rfl, rfl, rfl, rfl, rfl, rfl, k + 1, _, _, by omega, rfl, ?_, rfl, HK5.out, ?_⟩)
            · show Value.int .i64 _ = _
              go_num
            · rw [HF.out]; unfold insStep; simp [HQ.out]
          | true =>
            have HLB := Lib.hid hLM
            have hq' : r.txn < x.txn := of_decide_eq_true hq
            have HQ := Lib.hid hq
            obtain ⟨hbx, -⟩ := HKA.out.box rfl
            have m0 : wz.cell? ⟨bC, 0, none⟩ = some (vi r.txn) := cell_at hbx rfl
            have m1 : wz.cell? ⟨bC, 1, none⟩ = some (vi r.home) := cell_at hbx rfl
            have m2 : wz.cell? ⟨bC, 2, none⟩ = some (vi r.start) := cell_at hbx rfl
            have m3 : wz.cell? ⟨bC, 3, none⟩ = some (.slice am r.writes.length cm) := cell_at hbx rfl
            have m4 : wz.cell? ⟨bC, 4, none⟩ = some (.slice an r.reads.length cn) := cell_at hbx rfl
            clear hbx hLM
            go_wp2_with (first
              | (refine wpList_append_src rfl (.tmp 208) (.tmp 210) 49 rfl eltR19 w.heap.size L.length _ (HKA.out.alloc _).row rfl 1 (rdyL ⟨.slice am r.writes.length cm, .slice an r.reads.length cn, r⟩) (src_new (cs := #[vi r.txn, vi r.home, vi r.start, .slice am r.writes.length cm, .slice an r.reads.length cn]) rfl rfl) rfl rdyL_one HLA.out (by omega) (HKA.out.alloc _).size ?_; intro v6 w6 ho6 hg6 _; have HM6 := Lib.hid ((HKA.out.alloc (.cells #[vi r.txn, vi r.home, vi r.start, .slice am r.writes.length cm, .slice an r.reads.length cn] 61)).push hg6 ho6 true (.inr rfl) (fun h => by cases h)); have hz6 := (hg6.block Zb (Array.getElem?_eq_some_iff.1 (heap_un (o := (.cells #[vi r.txn, vi r.home, vi r.start, .slice am r.writes.length cm, .slice an r.reads.length cn] 61)) HAE.out)).1 HZN.out).trans (heap_un (o := (.cells #[vi r.txn, vi r.home, vi r.start, .slice am r.writes.length cm, .slice an r.reads.length cn] 61)) HAE.out); have z0' := cell_at hz6 (o := 0) rfl; have z1' := cell_at hz6 (o := 1) rfl; have z2' := cell_at hz6 (o := 2) rfl; have z3' := cell_at hz6 (o := 3) rfl; have z4' := cell_at hz6 (o := 4) rfl; clear ho6 hg6 hz6)
              | (refine wpList_append_src rfl (.tmp 212) (.tmp 214) 49 rfl eltR19 w.heap.size _ _ (HM6.out.alloc _).row rfl 1 (rdyL ⟨.slice b1 l1 e1, .slice b2 l2 e2, x⟩) (src_new (cs := #[vi x.txn, vi x.home, vi x.start, .slice b1 l1 e1, .slice b2 l2 e2]) rfl rfl) rfl rdyL_one HLB.out (by omega) (HM6.out.alloc _).size ?_; intro v5 w5 ho5 hg5 _; have HK5 := Lib.hid ((HM6.out.alloc (.cells #[vi x.txn, vi x.home, vi x.start, .slice b1 l1 e1, .slice b2 l2 e2] 61)).push hg5 ho5 true (.inl HXS.out) (fun h => by cases h)); clear ho5 hg5))
            refine Handed.intro (s.ws.length - (k + 1)) (by rw [HGM.out]; omega) (HJJ.out _ _ _ rfl ⟨rfl, rfl, rfl, rfl, rfl, rfl, k + 1, _, _, by omega, rfl, ?_, rfl, HK5.out, ?_⟩)
            · show Value.int .i64 _ = _
              go_num
            · rw [HF.out]; unfold insStep; simp [HQ.out]
      · have k1 : decide ((k : Int) < s.ws.length) = false := decide_eq_false (by omega)
        have hql : s.ws.take k = s.ws := List.take_of_length_le (by omega)
        rw [hql] at HL
        clear hB
        have HLA := Lib.hid (show L.length + 1 ≤ 68719476736 by omega)
        cases dn with
        | true =>
          have HF6 := HK
          have HLF := Lib.hid (show L.map (·.r) = insR s.ws r from by unfold insR insOf; rw [← HL.out]; rfl)
          obtain ⟨n6, hn6⟩ : ∃ n, n = L.length := ⟨_, rfl⟩
          rw [← hn6] at HF6 ⊢
          clear HK hn6 HLA hLl
          have HB6 := Lib.hid (HPB.out wr HF6.out.below)
          have hS := HB6.out.st
          have f3 : wr.frozen? ⟨X, 3, none⟩ = false := free_of hS 3
          have g3 : wr.cell? ⟨X, 3, none⟩ = some (.slice aw s.ws.length cw) := by rw [cell_of hS]; rfl
          have HbA := Lib.hid (show Below w0.heap.size w0 (wr.setCell ⟨X, 3, none⟩ (.slice ag n6 cg)) from (H0.out.trans (HF6.out.below.mono H0.out.size)).setCell hb0 _)
          have HsA := Lib.hid (show (wr.setCell ⟨X, 3, none⟩ (.slice ag n6 cg)).heap[X]? = some (.cells #[.bool s.serial, vi s.bugs, .slice av s.vs.length cv, .slice ag n6 cg, .slice ae s.es.length ce] 52) from by rw [rn_set (o := 3) (.slice ag n6 cg) hS]; simp [rsC])
          have HrA := Lib.hid (show (wr.setCell ⟨X, 3, none⟩ (.slice ag n6 cg)).heap[X2]? = _ from (Below.heap_setCell _ _ _ X2 (fun e => hn2 e.symm)).trans HB6.out.rs)
          have HoA := Lib.hid (own_set (b := X) (o := 3) (u := .slice ag n6 cg) HF6.out.row hXl)
          have HwA := Lib.hid (own_set (b := X) (o := 3) (u := .slice ag n6 cg) HF6.out.mw hXl)
          have HiA := Lib.hid (own_set (b := X) (o := 3) (u := .slice ag n6 cg) HF6.out.mi hXl)
          clear hS
          go_upto_region 63 with fail
          generalize wr.setCell ⟨X, 3, none⟩ (.slice ag n6 cg) = wa at *
          have hX := HsA.out
          have hX2 := HrA.out
          have q0 : ∀ j, wa.frozen? ⟨X2, j, none⟩ = false := fun j => free_of hX2 j
          have p0 : wa.cell? ⟨X2, 0, none⟩ = some (.bool false) := by rw [cell_of hX2]; rfl
          have p1 : wa.cell? ⟨X2, 1, none⟩ = some (vi 0) := by rw [cell_of hX2]; rfl
          have p2 : wa.cell? ⟨X2, 2, none⟩ = some (.slice none 0 0) := by rw [cell_of hX2]; rfl
          have p3 : wa.cell? ⟨X2, 3, none⟩ = some (.slice none 0 0) := by rw [cell_of hX2]; rfl
          have p4 : wa.cell? ⟨X2, 4, none⟩ = some (.slice none 0 0) := by rw [cell_of hX2]; rfl
          have x0 : wa.cell? ⟨X, 0, none⟩ = some (.bool s.serial) := by rw [cell_of hX]; rfl
          have x1 : wa.cell? ⟨X, 1, none⟩ = some (vi s.bugs) := by rw [cell_of hX]; rfl
          have x2 : wa.cell? ⟨X, 2, none⟩ = some (.slice av s.vs.length cv) := by rw [cell_of hX]; rfl
          have x3 : wa.cell? ⟨X, 3, none⟩ = some (.slice ag n6 cg) := by rw [cell_of hX]; rfl
          have x4 : wa.cell? ⟨X, 4, none⟩ = some (.slice ae s.es.length ce) := by rw [cell_of hX]; rfl
          have HS := Lib.hid (rn_set5 (.bool s.serial) (vi s.bugs) (.slice av s.vs.length cv) (.slice ag n6 cg) (.slice ae s.es.length ce) hX2)
          have HBF := Lib.hid ((HbA.out).trans (rn_below5 (W := wa) (.bool s.serial) (vi s.bugs) (.slice av s.vs.length cv) (.slice ag n6 cg) (.slice ae s.es.length ce) hb2))
          have HO := Lib.hid (own_set5b (v0 := .bool s.serial) (v1 := vi s.bugs) (v2 := .slice av s.vs.length cv) (v3 := .slice ag n6 cg) (v4 := .slice ae s.es.length ce) HoA.out hX2l)
          have HMw := Lib.hid (own_set5b (v0 := .bool s.serial) (v1 := vi s.bugs) (v2 := .slice av s.vs.length cv) (v3 := .slice ag n6 cg) (v4 := .slice ae s.es.length ce) HwA.out hX2l)
          have HMi := Lib.hid (own_set5b (v0 := .bool s.serial) (v1 := vi s.bugs) (v2 := .slice av s.vs.length cv) (v3 := .slice ag n6 cg) (v4 := .slice ae s.es.length ce) HiA.out hX2l)
          clear hX hX2
          go_wp2_with fail
          generalize (((((wa.setCell ⟨X2, 0, none⟩ (.bool s.serial)).setCell ⟨X2, 1, none⟩ (vi s.bugs)).setCell ⟨X2, 2, none⟩ (.slice av s.vs.length cv)).setCell ⟨X2, 3, none⟩ (.slice ag n6 cg)).setCell ⟨X2, 4, none⟩ (.slice ae s.es.length ce)) = wf at *
          have r0 : wf.cell? ⟨X2, 0, none⟩ = some (.bool s.serial) := by rw [cell_of HS.out]; rfl
          have r1 : wf.cell? ⟨X2, 1, none⟩ = some (vi s.bugs) := by rw [cell_of HS.out]; rfl
          have r2 : wf.cell? ⟨X2, 2, none⟩ = some (.slice av s.vs.length cv) := by rw [cell_of HS.out]; rfl
          have r3 : wf.cell? ⟨X2, 3, none⟩ = some (.slice ag n6 cg) := by rw [cell_of HS.out]; rfl
          have r4 : wf.cell? ⟨X2, 4, none⟩ = some (.slice ae s.es.length ce) := by rw [cell_of HS.out]; rfl
          refine bodyPost_ret (v := .tuple #[rsV ⟨.slice av s.vs.length cv, .slice ag n6 cg, .slice ae s.es.length ce, ⟨s.serial, s.bugs, s.vs, insR s.ws r, s.es⟩⟩, vi 0, vi 0]) (by simp [results, Try.results39, go_sem, r0, r1, r2, r3, r4, rsV, rsC]) rfl ?_
          have hfin : ∀ W' : World, CLe A W' → (∀ j, w0.heap.size ≤ j → W'.heap[j]? = wf.heap[j]?) → RdSt W' ⟨.slice av s.vs.length cv, .slice ag n6 cg, .slice ae s.es.length ce, ⟨s.serial, s.bugs, s.vs, insR s.ws r, s.es⟩⟩ := fun W' hs1 hs2 => by
            refine ⟨RdS.le HVA.out hs1 fun _ _ h => h, ?_, RdS.le HEA.out hs1 fun _ _ h => h⟩
            show RdRdy W' (.slice ag n6 cg) (insR s.ws r)
            rw [← HLF.out]
            refine rdr_of_own (own_same HO.out H0.out.size hs2) (fun y hy => ?_)
            rcases HF6.out.els y hy with h1 | rfl
            · exact RdyS.le h1 hs1
            · exact rdy_own (own_same HMw.out H0.out.size hs2) (own_same HMi.out H0.out.size hs2) HRI.out
          exact ⟨_, rfl, rfl, hfin wf (HHA.out.later HBF.out) (fun _ _ => rfl), HBF.out, hfin⟩
        | false =>
          obtain ⟨hbx, -⟩ := HK.out.box rfl
          have m0 : wr.cell? ⟨bC, 0, none⟩ = some (vi r.txn) := cell_at hbx rfl
          have m1 : wr.cell? ⟨bC, 1, none⟩ = some (vi r.home) := cell_at hbx rfl
          have m2 : wr.cell? ⟨bC, 2, none⟩ = some (vi r.start) := cell_at hbx rfl
          have m3 : wr.cell? ⟨bC, 3, none⟩ = some (.slice am r.writes.length cm) := cell_at hbx rfl
          have m4 : wr.cell? ⟨bC, 4, none⟩ = some (.slice an r.reads.length cn) := cell_at hbx rfl
          clear hbx
          go_upto_region 62 with (refine wpList_append_src rfl (.tmp 219) (.tmp 221) 49 rfl eltR19 w.heap.size L.length _ (HK.out.alloc _).row rfl 1 (rdyL ⟨.slice am r.writes.length cm, .slice an r.reads.length cn, r⟩) (src_new (cs := #[vi r.txn, vi r.home, vi r.start, .slice am r.writes.length cm, .slice an r.reads.length cn]) rfl rfl) rfl rdyL_one HLA.out (by omega) (HK.out.alloc _).size ?_; intro v6 w6 ho6 hg6 _; have HF6 := Lib.hid ((HK.out.alloc (.cells #[vi r.txn, vi r.home, vi r.start, .slice am r.writes.length cm, .slice an r.reads.length cn] 61)).push hg6 ho6 true (.inr rfl) (fun h => by cases h)); clear ho6 hg6)
          have HLF := Lib.hid (show (L ++ [(⟨.slice am r.writes.length cm, .slice an r.reads.length cn, r⟩ : RV)]).map (·.r) = insR s.ws r from by unfold insR insOf; rw [← HL.out, List.map_append]; rfl)
          obtain ⟨Lf, hLf⟩ : ∃ l, l = L ++ [(⟨.slice am r.writes.length cm, .slice an r.reads.length cn, r⟩ : RV)] := ⟨_, rfl⟩
          rw [← hLf] at HF6 HLF
          obtain ⟨a6, c6, h6⟩ := own_shape HF6.out.row
          subst h6
          clear hLf
          obtain ⟨n6, hn6⟩ : ∃ n, n = Lf.length := ⟨_, rfl⟩
          rw [← hn6] at HF6 ⊢
          clear HK hn6 HLA hLl
          have HB6 := Lib.hid (HPB.out w6 HF6.out.below)
          have hS := HB6.out.st
          have f3 : w6.frozen? ⟨X, 3, none⟩ = false := free_of hS 3
          have g3 : w6.cell? ⟨X, 3, none⟩ = some (.slice aw s.ws.length cw) := by rw [cell_of hS]; rfl
          have HbA := Lib.hid (show Below w0.heap.size w0 (w6.setCell ⟨X, 3, none⟩ (.slice a6 n6 c6)) from (H0.out.trans (HF6.out.below.mono H0.out.size)).setCell hb0 _)
          have HsA := Lib.hid (show (w6.setCell ⟨X, 3, none⟩ (.slice a6 n6 c6)).heap[X]? = some (.cells #[.bool s.serial, vi s.bugs, .slice av s.vs.length cv, .slice a6 n6 c6, .slice ae s.es.length ce] 52) from by rw [rn_set (o := 3) (.slice a6 n6 c6) hS]; simp [rsC])
          have HrA := Lib.hid (show (w6.setCell ⟨X, 3, none⟩ (.slice a6 n6 c6)).heap[X2]? = _ from (Below.heap_setCell _ _ _ X2 (fun e => hn2 e.symm)).trans HB6.out.rs)
          have HoA := Lib.hid (own_set (b := X) (o := 3) (u := .slice a6 n6 c6) HF6.out.row hXl)
          have HwA := Lib.hid (own_set (b := X) (o := 3) (u := .slice a6 n6 c6) HF6.out.mw hXl)
          have HiA := Lib.hid (own_set (b := X) (o := 3) (u := .slice a6 n6 c6) HF6.out.mi hXl)
          clear hS
          go_upto_region 63 with fail
          generalize w6.setCell ⟨X, 3, none⟩ (.slice a6 n6 c6) = wa at *
          have hX := HsA.out
          have hX2 := HrA.out
          have q0 : ∀ j, wa.frozen? ⟨X2, j, none⟩ = false := fun j => free_of hX2 j
          have p0 : wa.cell? ⟨X2, 0, none⟩ = some (.bool false) := by rw [cell_of hX2]; rfl
          have p1 : wa.cell? ⟨X2, 1, none⟩ = some (vi 0) := by rw [cell_of hX2]; rfl
          have p2 : wa.cell? ⟨X2, 2, none⟩ = some (.slice none 0 0) := by rw [cell_of hX2]; rfl
          have p3 : wa.cell? ⟨X2, 3, none⟩ = some (.slice none 0 0) := by rw [cell_of hX2]; rfl
          have p4 : wa.cell? ⟨X2, 4, none⟩ = some (.slice none 0 0) := by rw [cell_of hX2]; rfl
          have x0 : wa.cell? ⟨X, 0, none⟩ = some (.bool s.serial) := by rw [cell_of hX]; rfl
          have x1 : wa.cell? ⟨X, 1, none⟩ = some (vi s.bugs) := by rw [cell_of hX]; rfl
          have x2 : wa.cell? ⟨X, 2, none⟩ = some (.slice av s.vs.length cv) := by rw [cell_of hX]; rfl
          have x3 : wa.cell? ⟨X, 3, none⟩ = some (.slice a6 n6 c6) := by rw [cell_of hX]; rfl
          have x4 : wa.cell? ⟨X, 4, none⟩ = some (.slice ae s.es.length ce) := by rw [cell_of hX]; rfl
          have HS := Lib.hid (rn_set5 (.bool s.serial) (vi s.bugs) (.slice av s.vs.length cv) (.slice a6 n6 c6) (.slice ae s.es.length ce) hX2)
          have HBF := Lib.hid ((HbA.out).trans (rn_below5 (W := wa) (.bool s.serial) (vi s.bugs) (.slice av s.vs.length cv) (.slice a6 n6 c6) (.slice ae s.es.length ce) hb2))
          have HO := Lib.hid (own_set5b (v0 := .bool s.serial) (v1 := vi s.bugs) (v2 := .slice av s.vs.length cv) (v3 := .slice a6 n6 c6) (v4 := .slice ae s.es.length ce) HoA.out hX2l)
          have HMw := Lib.hid (own_set5b (v0 := .bool s.serial) (v1 := vi s.bugs) (v2 := .slice av s.vs.length cv) (v3 := .slice a6 n6 c6) (v4 := .slice ae s.es.length ce) HwA.out hX2l)
          have HMi := Lib.hid (own_set5b (v0 := .bool s.serial) (v1 := vi s.bugs) (v2 := .slice av s.vs.length cv) (v3 := .slice a6 n6 c6) (v4 := .slice ae s.es.length ce) HiA.out hX2l)
          clear hX hX2
          go_wp2_with fail
          generalize (((((wa.setCell ⟨X2, 0, none⟩ (.bool s.serial)).setCell ⟨X2, 1, none⟩ (vi s.bugs)).setCell ⟨X2, 2, none⟩ (.slice av s.vs.length cv)).setCell ⟨X2, 3, none⟩ (.slice a6 n6 c6)).setCell ⟨X2, 4, none⟩ (.slice ae s.es.length ce)) = wf at *
          have r0 : wf.cell? ⟨X2, 0, none⟩ = some (.bool s.serial) := by rw [cell_of HS.out]; rfl
          have r1 : wf.cell? ⟨X2, 1, none⟩ = some (vi s.bugs) := by rw [cell_of HS.out]; rfl
          have r2 : wf.cell? ⟨X2, 2, none⟩ = some (.slice av s.vs.length cv) := by rw [cell_of HS.out]; rfl
          have r3 : wf.cell? ⟨X2, 3, none⟩ = some (.slice a6 n6 c6) := by rw [cell_of HS.out]; rfl
          have r4 : wf.cell? ⟨X2, 4, none⟩ = some (.slice ae s.es.length ce) := by rw [cell_of HS.out]; rfl
          refine bodyPost_ret (v := .tuple #[rsV ⟨.slice av s.vs.length cv, .slice a6 n6 c6, .slice ae s.es.length ce, ⟨s.serial, s.bugs, s.vs, insR s.ws r, s.es⟩⟩, vi 0, vi 0]) (by simp [results, Try.results39, go_sem, r0, r1, r2, r3, r4, rsV, rsC]) rfl ?_
          have hfin : ∀ W' : World, CLe A W' → (∀ j, w0.heap.size ≤ j → W'.heap[j]? = wf.heap[j]?) → RdSt W' ⟨.slice av s.vs.length cv, .slice a6 n6 c6, .slice ae s.es.length ce, ⟨s.serial, s.bugs, s.vs, insR s.ws r, s.es⟩⟩ := fun W' hs1 hs2 => by
            refine ⟨RdS.le HVA.out hs1 fun _ _ h => h, ?_, RdS.le HEA.out hs1 fun _ _ h => h⟩
            show RdRdy W' (.slice a6 n6 c6) (insR s.ws r)
            rw [← HLF.out]
            refine rdr_of_own (own_same HO.out H0.out.size hs2) (fun y hy => ?_)
            rcases HF6.out.els y hy with h1 | rfl
            · exact RdyS.le h1 hs1
            · exact rdy_own (own_same HMw.out H0.out.size hs2) (own_same HMi.out H0.out.size hs2) HRI.out
          exact ⟨_, rfl, rfl, hfin wf (HHA.out.later HBF.out) (fun _ _ => rfl), HBF.out, hfin⟩
end Go.Proofs.Ytdkkpkgfiodlbaa

/- Layer 19's reference: the end of Prepare: who is in the way, or one more waits. -/
namespace Go.Proofs.Ytdkkpkgfiodlbaa
open Go.RowKit Go.Maps
attribute [local go_sem] Oper.semAt_some

def fstSeq : Code → Code
  | .seq a _ => a
  | c => c
set_option maxRecDepth 1000000 in
set_option maxHeartbeats 16000000 in
theorem prC (A w0 : World) (x : RSV) (rv : RV) (X X1 X2 : Nat) (f : Nat → Value) (by_ : Int) (lk first : Bool) (w : World) (hB : PrB x rv X X1 X2 w) (hxA : RdSt A x) (hA : CLe A w0) (hr : RdyS w0 rv) (h0 : Below w0.heap.size w0 w)
    (hl : x.s.ws.length ≤ 1000 ∧ rv.r.writes.length ≤ 1000 ∧ rv.r.reads.length ≤ 1000) (hne : ∀ y ∈ x.s.ws, y.txn ≠ rv.r.txn) (hb : w0.heap.size ≤ X ∧ w0.heap.size ≤ X1 ∧ w0.heap.size ≤ X2 ∧ X ≠ X1 ∧ X ≠ X2 ∧ X1 ≠ X2)
    (e2 : f 2 = .pointer (some ⟨X, 0, none⟩)) (e3 : f 3 = .pointer (some ⟨X1, 0, none⟩)) (e4 : f 4 = .pointer (some ⟨X2, 0, none⟩)) (e11 : f 11 = .bool first) (e17 : f 17 = vi by_) (e18 : f 18 = .bool lk) :
    Code.wp Try.prog cPrC (bodyPost Try.prog Try.f39 (fun e w' => if lk && first then PrR A w0 x.s by_ 60 e w' else PrR A w0 ⟨x.s.serial, x.s.bugs, x.s.vs, insR x.s.ws rv.r, x.s.es⟩ 0 0 e w')) (frN 226 f) w := by
  have hx := hxA.le hA
  have HHA := Lib.hid hA
  have HXA := Lib.hid hxA
  clear hxA hA
  obtain ⟨vv, wv, ev, s⟩ := x
  have HV := Lib.hid hx.vs
  have HW := Lib.hid hx.ws
  have HE := Lib.hid hx.es
  obtain ⟨av, nv, cv, hwv, rfl, hmv, -⟩ := (show RdVer3 w0 vv s.vs from hx.vs).at
  obtain ⟨aw, nw, cw, hww, rfl, hmw, -⟩ := (show RdRdy w0 wv s.ws from hx.ws).at
  obtain ⟨ae, ne, ce, hwe, rfl, hme, -⟩ := (show RdEn w0 ev s.es from hx.es).at
  subst hwv hww hwe
  obtain ⟨rw_, rr, r⟩ := rv
  obtain ⟨a1, l1, c1, h1, rfl, -, -⟩ := (show RdOps w0 rw_ r.writes from hr.ws).at
  obtain ⟨a2, l2, c2, h2, rfl, -, -⟩ := (show RdInts w0 rr r.reads from hr.rs).at
  subst h1 h2
  have HR := Lib.hid hr
  have HB := Lib.hid hB
  simp only at HV HW HE
  obtain ⟨hb0, hb1, hb2, hn1, hn2, hn3⟩ := hb
  have hX2l := (Array.getElem?_eq_some_iff.1 hB.rs).1
  have H0 := Lib.hid h0
  have HHB := Lib.hid hB
  have HHX := Lib.hid hx
  have HHR := Lib.hid hr
  have HHN := Lib.hid hne
  clear hx hr hB h0 hne
  show Code.wp Try.prog cPrC _ _ _
  have hgo : (lk && first) = true ∨ (lk && first) = false := by cases lk && first <;> simp
  rcases hgo with hlf | hlf
  · rw [hlf]
    rw [Bool.and_eq_true] at hlf
    obtain ⟨rfl, rfl⟩ := hlf
    rw [fr226, e2, e3, e4, e11, e17, e18]
    clear e2 e3 e4 e11 e17 e18
    conv => arg 2; whnf
    have hX := HB.out.st
    have hX2 := HB.out.rs
    have q0 : ∀ j, w.frozen? ⟨X2, j, none⟩ = false := fun j => free_of hX2 j
    have p0 : w.cell? ⟨X2, 0, none⟩ = some (.bool false) := by rw [cell_of hX2]; rfl
    have p1 : w.cell? ⟨X2, 1, none⟩ = some (vi 0) := by rw [cell_of hX2]; rfl
    have p2 : w.cell? ⟨X2, 2, none⟩ = some (.slice none 0 0) := by rw [cell_of hX2]; rfl
    have p3 : w.cell? ⟨X2, 3, none⟩ = some (.slice none 0 0) := by rw [cell_of hX2]; rfl
    have p4 : w.cell? ⟨X2, 4, none⟩ = some (.slice none 0 0) := by rw [cell_of hX2]; rfl
    have x0 : w.cell? ⟨X, 0, none⟩ = some (.bool s.serial) := by rw [cell_of hX]; rfl
    have x1 : w.cell? ⟨X, 1, none⟩ = some (vi s.bugs) := by rw [cell_of hX]; rfl
    have x2 : w.cell? ⟨X, 2, none⟩ = some (.slice av s.vs.length cv) := by rw [cell_of hX]; rfl
    have x3 : w.cell? ⟨X, 3, none⟩ = some (.slice aw s.ws.length cw) := by rw [cell_of hX]; rfl
    have x4 : w.cell? ⟨X, 4, none⟩ = some (.slice ae s.es.length ce) := by rw [cell_of hX]; rfl
    have HS := Lib.hid (rn_set5 (.bool s.serial) (vi s.bugs) (.slice av s.vs.length cv) (.slice aw s.ws.length cw) (.slice ae s.es.length ce) hX2)
    have HBF := Lib.hid (H0.out.trans (rn_below5 (W := w) (.bool s.serial) (vi s.bugs) (.slice av s.vs.length cv) (.slice aw s.ws.length cw) (.slice ae s.es.length ce) hb2))
    clear hX hX2
    go_wp2_with fail
    generalize (((((w.setCell ⟨X2, 0, none⟩ (.bool s.serial)).setCell ⟨X2, 1, none⟩ (vi s.bugs)).setCell ⟨X2, 2, none⟩ (.slice av s.vs.length cv)).setCell ⟨X2, 3, none⟩ (.slice aw s.ws.length cw)).setCell ⟨X2, 4, none⟩ (.slice ae s.es.length ce)) = wf at *
    have r0 : wf.cell? ⟨X2, 0, none⟩ = some (.bool s.serial) := by rw [cell_of HS.out]; rfl
    have r1 : wf.cell? ⟨X2, 1, none⟩ = some (vi s.bugs) := by rw [cell_of HS.out]; rfl
    have r2 : wf.cell? ⟨X2, 2, none⟩ = some (.slice av s.vs.length cv) := by rw [cell_of HS.out]; rfl
    have r3 : wf.cell? ⟨X2, 3, none⟩ = some (.slice aw s.ws.length cw) := by rw [cell_of HS.out]; rfl
    have r4 : wf.cell? ⟨X2, 4, none⟩ = some (.slice ae s.es.length ce) := by rw [cell_of HS.out]; rfl
    refine bodyPost_ret (v := .tuple #[rsV ⟨.slice av s.vs.length cv, .slice aw s.ws.length cw, .slice ae s.es.length ce, s⟩, vi by_, vi 60]) (by simp [results, Try.results39, go_sem, r0, r1, r2, r3, r4, rsV, rsC]) rfl ?_
    exact ⟨_, rfl, rfl, PrR.same HXA.out HHA.out HBF.out⟩
  · rw [hlf]
    have hlf' : lk = false ∨ (lk = true ∧ first = false) := by cases lk <;> simp_all
    show Code.wp Try.prog cPrC (bodyPost Try.prog Try.f39 (PrR A w0 ⟨s.serial, s.bugs, s.vs, insR s.ws r, s.es⟩ 0 0)) _ _
    have go : ∀ u0 u1 u2 u3 : Value, Code.wp Try.prog cPrD (bodyPost Try.prog Try.f39 (PrR A w0 ⟨s.serial, s.bugs, s.vs, insR s.ws r, s.es⟩ 0 0)) (⟨#[f 0, f 1, .pointer (some ⟨X, 0, none⟩), .pointer (some ⟨X1, 0, none⟩), .pointer (some ⟨X2, 0, none⟩), f 5, f 6, f 7, f 8, f 9, f 10, .bool first, f 12, f 13, f 14, f 15, f 16, vi by_, .bool lk, f 19, f 20, f 21, f 22, f 23, f 24, f 25, f 26, f 27, f 28, f 29, f 30, f 31, f 32, f 33, f 34, f 35, f 36, f 37, f 38, f 39, f 40, f 41, f 42, f 43, f 44, f 45, f 46, f 47, f 48, f 49, f 50, f 51, f 52, f 53, f 54, f 55, f 56, f 57, f 58, f 59, f 60, f 61, f 62, f 63, f 64, f 65, f 66, f 67, f 68, f 69, f 70, f 71, f 72, f 73, f 74, f 75, f 76, f 77, f 78, f 79, f 80, f 81, f 82, f 83, f 84, f 85, f 86, f 87, f 88, f 89, f 90, f 91, f 92, f 93, f 94, f 95, f 96, f 97, f 98, f 99, f 100, f 101, f 102, f 103, f 104, f 105, f 106, f 107, f 108, f 109, f 110, f 111, f 112, f 113, f 114, f 115, f 116, f 117, f 118, f 119, f 120, f 121, f 122, f 123, f 124, f 125, f 126, f 127, f 128, f 129, f 130, f 131, f 132, f 133, f 134, f 135, f 136, f 137, f 138, f 139, f 140, f 141, f 142, f 143, f 144, f 145, f 146, f 147, f 148, f 149, f 150, f 151, f 152, f 153, f 154, f 155, f 156, f 157, f 158, f 159, f 160, f 161, f 162, f 163, f 164, f 165, f 166, f 167, f 168, f 169, u0, u1, u2, u3, f 174, f 175, f 176, f 177, f 178, f 179, f 180, f 181, f 182, f 183, f 184, f 185, f 186, f 187, f 188, f 189, f 190, f 191, f 192, f 193, f 194, f 195, f 196, f 197, f 198, f 199, f 200, f 201, f 202, f 203, f 204, f 205, f 206, f 207, f 208, f 209, f 210, f 211, f 212, f 213, f 214, f 215, f 216, f 217, f 218, f 219, f 220, f 221, f 222, f 223, f 224, f 225], []⟩ : Act) w := fun u0 u1 u2 u3 => by
      refine wp_fr 226 _ rfl ?_
      exact prD A w0 ⟨.slice av s.vs.length cv, .slice aw s.ws.length cw, .slice ae s.es.length ce, s⟩ ⟨.slice a1 r.writes.length c1, .slice a2 r.reads.length c2, r⟩ X X1 X2 _ w HHB.out HXA.out HHA.out HHR.out H0.out hl HHN.out ⟨hb0, hb1, hb2, hn1, hn2, hn3⟩ rfl rfl rfl
    have GO := Lib.hid go
    rw [fr226, e2, e3, e4, e11, e17, e18]
    clear go e2 e3 e4 e11 e17 e18
    show Code.wp Try.prog (Code.seq (fstSeq cPrC) cPrD) _ _ _
    generalize cPrD = D at *
    conv => arg 2; arg 1; whnf
    rcases hlf' with rfl | ⟨rfl, rfl⟩
    · go_wp2_with fail
      exact GO.out _ _ _ _
    · go_wp2_with fail
      exact GO.out _ _ _ _
end Go.Proofs.Ytdkkpkgfiodlbaa

/- Layer 19's reference: Prepare: who is in the way. -/
namespace Go.Proofs.Ytdkkpkgfiodlbaa
open Go.RowKit Go.Maps
attribute [local go_sem] Oper.semAt_some

theorem any_next6 {α : Type} {q : α → Bool} {l : List α} {k : Nat} {x : α} (h : l[k]? = some x) : (l.take (k + 1)).any q = ((l.take k).any q || q x) := by
  rw [take_at h, List.any_append]; simp
/-- One who waits, looked at by one who prepares. -/
def blkStepP (r : Rdy) (look : Bool) (s : Int × Bool) (x : Rdy) : Int × Bool := if wayB r look x && (!s.2 || decide (x.txn < s.1)) then (x.txn, true) else s
def blkOfP (ws : List Rdy) (r : Rdy) (look : Bool) : Int × Bool := ws.foldl (blkStepP r look) (0, false)
noncomputable def cPrB : Code := (Try.f39.body.bind (afterBlock 6)).getD .skip

set_option maxRecDepth 1000000 in
set_option maxHeartbeats 16000000 in
theorem prB (A w0 : World) (x : RSV) (rv : RV) (X X1 X2 : Nat) (f : Nat → Value) (look first : Bool) (w : World) (hB : PrB x rv X X1 X2 w) (hxA : RdSt A x) (hA : CLe A w0) (hr : RdyS w0 rv) (h0 : Below w0.heap.size w0 w)
    (hl : x.s.ws.length ≤ 1000 ∧ rv.r.writes.length ≤ 1000 ∧ rv.r.reads.length ≤ 1000) (hne : ∀ y ∈ x.s.ws, y.txn ≠ rv.r.txn) (hb : w0.heap.size ≤ X ∧ w0.heap.size ≤ X1 ∧ w0.heap.size ≤ X2 ∧ X ≠ X1 ∧ X ≠ X2 ∧ X1 ≠ X2)
    (e2 : f 2 = .pointer (some ⟨X, 0, none⟩)) (e3 : f 3 = .pointer (some ⟨X1, 0, none⟩)) (e4 : f 4 = .pointer (some ⟨X2, 0, none⟩)) (e11 : f 11 = .bool first) (e12 : f 12 = .bool look) :
    Code.wp Try.prog cPrB (bodyPost Try.prog Try.f39 (fun e w' => if (blkOfP x.s.ws rv.r look).2 && first then PrR A w0 x.s (blkOfP x.s.ws rv.r look).1 60 e w' else PrR A w0 ⟨x.s.serial, x.s.bugs, x.s.vs, insR x.s.ws rv.r, x.s.es⟩ 0 0 e w')) (frN 226 f) w := by
  rw [fr226, e2, e3, e4, e11, e12]
  clear e2 e3 e4 e11 e12
  have hx := hxA.le hA
  have HHA := Lib.hid hA
  have HXA := Lib.hid hxA
  clear hxA hA
  obtain ⟨vv, wv, ev, s⟩ := x
  have HW := Lib.hid hx.ws
  obtain ⟨aw, nw, cw, hww, rfl, hmw, -⟩ := (show RdRdy w0 wv s.ws from hx.ws).at
  subst hww
  obtain ⟨rw_, rr, r⟩ := rv
  obtain ⟨a1, l1, c1, h1, rfl, hm1, -⟩ := (show RdOps w0 rw_ r.writes from hr.ws).at
  obtain ⟨a2, l2, c2, h2, rfl, hm2, -⟩ := (show RdInts w0 rr r.reads from hr.rs).at
  subst h1 h2
  have HX := Lib.hid hx
  have HR := Lib.hid hr
  have HB := Lib.hid hB
  have HN := Lib.hid hne
  have HL := Lib.hid hl
  have HBB := Lib.hid hb
  have H0 := Lib.hid h0
  simp only at HW
  clear hx hr hB h0 hl hne hb
  have x3 : w.cell? ⟨X, 3, none⟩ = some (.slice aw s.ws.length cw) := by rw [cell_of HB.out.st]; rfl
  conv => arg 2; whnf
  go_wp2_with fail
  clear x3
  rename_i KB hKB
  have HKB := Lib.hid hKB
  clear hKB
  refine wp_loopF 226 (fun m g wr => g 2 = .pointer (some ⟨X, 0, none⟩) ∧ g 3 = .pointer (some ⟨X1, 0, none⟩) ∧ g 4 = .pointer (some ⟨X2, 0, none⟩) ∧ g 11 = .bool first ∧ g 12 = .bool look ∧ g 108 = .slice aw s.ws.length cw ∧ g 109 = .int .i64 s.ws.length ∧
    ∃ k : Nat, k ≤ s.ws.length ∧ m = s.ws.length - k ∧ g 110 = .int .i64 k ∧ g 17 = vi ((s.ws.take k).foldl (blkStepP r look) (0, false)).1 ∧ g 18 = .bool ((s.ws.take k).foldl (blkStepP r look) (0, false)).2 ∧ Below w.heap.size w wr) _ rfl s.ws.length ?start ?round
  case start => exact ⟨rfl, rfl, rfl, rfl, rfl, rfl, rfl, 0, Nat.zero_le _, rfl, rfl, rfl, rfl, Below.refl _ _⟩
  case round =>
    rintro gm g wr ⟨g2, g3, g4, g11, g12, g108, g109, k, hk, hgm, g110, g17, g18, hJ⟩ JJ KK HJ HKK
    have HJJ := Lib.hid HJ
    have HGM := Lib.hid hgm
    have HJ1 := Lib.hid hJ
    have HG := Lib.hid (show g 2 = _ ∧ g 3 = _ ∧ g 4 = _ ∧ g 11 = _ from ⟨g2, g3, g4, g11⟩)
    obtain ⟨s0, hs0⟩ : ∃ b, b = (s.ws.take k).foldl (blkStepP r look) (0, false) := ⟨_, rfl⟩
    rw [← hs0] at g17 g18
    have HS0 := Lib.hid hs0
    obtain ⟨by_, lk⟩ := s0
    simp only at g17 g18
    have hBW := HB.out.later hJ
    clear HJ hgm hJ hs0
    by_cases hlt : k < s.ws.length
    · rw [fr226, g2, g3, g4, g11, g12, g108, g109, g110, g17, g18]
      clear g2 g3 g4 g11 g12 g108 g109 g110 g17 g18
      have k1 : decide ((k : Int) < s.ws.length) = true := decide_eq_true (by omega)
      have k2 : (k : Int) < s.ws.length := by omega
      have hwk : IntKind.i64.wrap ((k : Int) + 1) = (k : Int) + 1 := IntWalk.i64_in _ (by omega)
      obtain ⟨x, hx⟩ := some_at hlt
      obtain ⟨gg, off, rw_, rr, ha, hrs, c0, c1', c2', c3, c4⟩ := HW.out.el hx
      obtain ⟨b1, l1, e1, rfl, -, -, -⟩ := (show RdOps w0 rw_ x.writes from hrs.ws).at
      obtain ⟨b2, l2, e2, rfl, -, -, -⟩ := (show RdInts w0 rr x.reads from hrs.rs).at
      have hwq := H0.out.trans (HJ1.out.mono H0.out.size)
      replace c0 := cell_later hwq c0
      replace c1' := cell_later hwq c1'
      replace c2' := cell_later hwq c2'
      replace c3 := cell_later hwq c3
      replace c4 := cell_later hwq c4
      subst ha
      have HXS := Lib.hid hrs
      have HF := Lib.hid (fold_take (f := blkStepP r look) (b := (0, false)) hx)
      rw [← HS0.out] at HF
      have hBA := hBW.later ((Below.refl _ wr).alloc (Nat.le_refl _) (.cells #[vi x.txn, vi x.home, vi x.start, .slice b1 l1 e1, .slice b2 l2 e2] 61))
      have HAE := Lib.hid (alloc_at wr (.cells #[vi x.txn, vi x.home, vi x.start, .slice b1 l1 e1, .slice b2 l2 e2] 61))
      have HJA := Lib.hid (HJ1.out.alloc HJ1.out.size (.cells #[vi x.txn, vi x.home, vi x.start, .slice b1 l1 e1, .slice b2 l2 e2] 61))
      clear hx hrs hwq hBW
      go_upto_region 33 with fail
      generalize wr.alloc (.cells #[vi x.txn, vi x.home, vi x.start, .slice b1 l1 e1, .slice b2 l2 e2] 61) = wz at *
      generalize wr.heap.size = Zb at *
      have HBZ := Lib.hid hBA
      have HZ0 := Lib.hid (H0.out.trans (HJA.out.mono H0.out.size))
      have r3 : wz.cell? ⟨X1, 3, none⟩ = some (.slice a1 r.writes.length c1) := by rw [cell_of hBA.rd]; rfl
      clear c0 c1' c2' c3 c4 hBA
      go_wp2_with fail
      clear r3
      refine wp_loopF 226 (fun m h wq => h 2 = .pointer (some ⟨X, 0, none⟩) ∧ h 3 = .pointer (some ⟨X1, 0, none⟩) ∧ h 4 = .pointer (some ⟨X2, 0, none⟩) ∧ h 11 = .bool first ∧ h 12 = .bool look ∧ h 17 = vi by_ ∧ h 18 = .bool lk ∧ h 20 = .pointer (some ⟨Zb, 0, none⟩) ∧ h 108 = .slice (some ⟨gg, off, none⟩) s.ws.length cw ∧ h 109 = .int .i64 s.ws.length ∧ h 110 = .int .i64 k ∧ h 115 = .slice a1 r.writes.length c1 ∧ h 116 = .int .i64 r.writes.length ∧
        ∃ j : Nat, j ≤ r.writes.length ∧ m = r.writes.length - j ∧ h 117 = .int .i64 j ∧ h 21 = .bool ((r.writes.take j).any (wayO x look)) ∧ Below wz.heap.size wz wq) _ rfl r.writes.length ?start6 ?round6
      case start6 => exact ⟨rfl, rfl, rfl, rfl, rfl, rfl, rfl, rfl, rfl, rfl, rfl, rfl, rfl, 0, Nat.zero_le _, rfl, rfl, rfl, Below.refl _ _⟩
      case round6 =>
        rintro gm6 h wq ⟨h2, h3, h4, h11, h12, h17, h18, h20, h108, h109, h110, h115, h116, j, hj, hgm6, h117, h21, hq⟩ JJ6 KK6 HJ6 HKK6
        have HJJ6 := Lib.hid HJ6
        have HGM6 := Lib.hid hgm6
        have HQ := Lib.hid hq
        obtain ⟨wy, hwy⟩ : ∃ b, b = (r.writes.take j).any (wayO x look) := ⟨_, rfl⟩
        rw [← hwy] at h21
        rw [fr226, h2, h3, h4, h11, h12, h17, h18, h20, h108, h109, h110, h115, h116, h117, h21]
        have HWY := Lib.hid hwy
        clear HJ6 hgm6 hq hwy h2 h3 h4 h11 h12 h17 h18 h20 h108 h109 h110 h115 h116 h117 h21
        have HQ0 := Lib.hid (HZ0.out.trans (HQ.out.mono HZ0.out.size))
        by_cases hlt6 : j < r.writes.length
        · have q1 : decide ((j : Int) < r.writes.length) = true := decide_eq_true (by omega)
          have q2 : (j : Int) < r.writes.length := by omega
          have hwk6 : IntKind.i64.wrap ((j : Int) + 1) = (j : Int) + 1 := IntWalk.i64_in _ (by omega)
          obtain ⟨o, ho⟩ := some_at hlt6
          obtain ⟨og, oo, ha, c0, c1', c2'⟩ := (show RdOps w0 (.slice a1 r.writes.length c1) r.writes from HR.out.ws).el ho
          subst ha
          replace c0 := cell_later HQ0.out c0
          replace c1' := cell_later HQ0.out c1'
          replace c2' := cell_later HQ0.out c2'
          have HA := Lib.hid (any_next6 (q := wayO x look) ho)
          rw [← HWY.out] at HA
          have HBo := Lib.hid (HQ.out.alloc HQ.out.size (.cells #[vi o.kind, vi o.key, vi o.val] 104))
          have HOo := Lib.hid (alloc_at wq (.cells #[vi o.kind, vi o.key, vi o.val] 104))
          have HAo := Lib.hid (heap_un (o := (.cells #[vi o.kind, vi o.key, vi o.val] 104)) ((HQ.out.block Zb (Array.getElem?_eq_some_iff.1 HAE.out).1).trans HAE.out))
          have HXo := Lib.hid (HXS.out.later (HQ0.out.alloc HQ0.out.size (.cells #[vi o.kind, vi o.key, vi o.val] 104)))
          clear ho
          go_upto_region 36 with fail
          generalize wq.alloc (.cells #[vi o.kind, vi o.key, vi o.val] 104) = wo at *
          generalize wq.heap.size = Ob at *
          clear c0 c1' c2'
          have y0 : wo.cell? ⟨Zb, 0, none⟩ = some (vi x.txn) := cell_at HAo.out rfl
          have y1 : wo.cell? ⟨Zb, 1, none⟩ = some (vi x.home) := cell_at HAo.out rfl
          have y2 : wo.cell? ⟨Zb, 2, none⟩ = some (vi x.start) := cell_at HAo.out rfl
          have y3 : wo.cell? ⟨Zb, 3, none⟩ = some (.slice b1 l1 e1) := cell_at HAo.out rfl
          have y4 : wo.cell? ⟨Zb, 4, none⟩ = some (.slice b2 l2 e2) := cell_at HAo.out rfl
          have ok1 : wo.cell? ⟨Ob, 1, none⟩ = some (vi o.key) := cell_at HOo.out rfl
          have next6 : ∀ (l : List Value) (W : World) (bb : Bool), l.length = 226 → slotsOf l 2 = .pointer (some ⟨X, 0, none⟩) ∧ slotsOf l 3 = .pointer (some ⟨X1, 0, none⟩) ∧ slotsOf l 4 = .pointer (some ⟨X2, 0, none⟩) ∧ slotsOf l 11 = .bool first ∧ slotsOf l 12 = .bool look ∧ slotsOf l 17 = vi by_ ∧ slotsOf l 18 = .bool lk ∧ slotsOf l 20 = .pointer (some ⟨Zb, 0, none⟩) ∧ slotsOf l 108 = .slice (some ⟨gg, off, none⟩) s.ws.length cw ∧ slotsOf l 109 = .int .i64 s.ws.length ∧ slotsOf l 110 = .int .i64 k ∧ slotsOf l 115 = .slice (some ⟨og, oo, none⟩) r.writes.length c1 ∧ slotsOf l 116 = .int .i64 r.writes.length → slotsOf l 117 = .int .i64 ((j : Int) + 1) → slotsOf l 21 = .bool bb → bb = (wy || wayO x look o) → Below wz.heap.size wz W → Handed JJ6 gm6 ⟨l.toArray, []⟩ W := fun l W bb hl'  hc h117 h21 hbb hW => by
            obtain ⟨t0, t1, t2, t3, t4, t5, t6, t7, t8, t9, t10, t11, t12⟩ := hc
            exact Handed.intro (r.writes.length - (j + 1)) (by rw [HGM6.out]; omega) (HJJ6.out _ _ _ hl' ⟨t0, t1, t2, t3, t4, t5, t6, t7, t8, t9, t10, t11, t12, j + 1, by omega, rfl, by rw [h117]; go_num, by rw [h21, HA.out, hbb], hW⟩)
          have NEXT6 := Lib.hid next6
          clear next6
          cases wy with
          | true =>
            go_wp2_with fail
            exact NEXT6.out _ _ true rfl ⟨rfl, rfl, rfl, rfl, rfl, rfl, rfl, rfl, rfl, rfl, rfl, rfl, rfl⟩ rfl rfl rfl HBo.out
          | false =>
            have hcw := rnWrites_call ⟨.slice b1 l1 e1, .slice b2 l2 e2, x⟩ o.key wo HXo.out
            unfold rdyV rdyC at hcw
            simp only at hcw
            obtain ⟨b, hb⟩ : ∃ b, writesB x o.key = b := ⟨_, rfl⟩
            rw [hb] at hcw
            have HCW := Lib.hid hcw
            have HBB' := Lib.hid hb
            clear hcw hb
            cases b with
            | true =>
              go_wp2_with (go_at_call 73; refine HCW.out.mono ?_; rintro e w5 ⟨rfl, hb5⟩; have HB5 := Lib.hid (HBo.out.trans (hb5.mono HBo.out.size)); clear hb5)
              exact NEXT6.out _ _ true rfl ⟨rfl, rfl, rfl, rfl, rfl, rfl, rfl, rfl, rfl, rfl, rfl, rfl, rfl⟩ rfl rfl (by unfold wayO; rw [HBB'.out]; rfl) HB5.out
            | false =>
              cases look with
              | false =>
                go_wp2_with (go_at_call 73; refine HCW.out.mono ?_; rintro e w5 ⟨rfl, hb5⟩; have HB5 := Lib.hid (HBo.out.trans (hb5.mono HBo.out.size)); clear hb5)
                exact NEXT6.out _ _ false rfl ⟨rfl, rfl, rfl, rfl, rfl, rfl, rfl, rfl, rfl, rfl, rfl, rfl, rfl⟩ rfl rfl (by unfold wayO; rw [HBB'.out]; rfl) HB5.out
              | true =>
                go_wp2_with (first
                  | (go_at_call 73; refine HCW.out.mono ?_; rintro e w5 ⟨rfl, hb5⟩; have HB5 := Lib.hid (HBo.out.trans (hb5.mono HBo.out.size)); have y4' := cell_later hb5 y4; have ok1' := cell_later hb5 ok1; have HX5 := Lib.hid (HXo.out.later hb5); clear hb5)
                  | (go_at_call 75; refine (rnHas_call _ x.reads o.key _ HX5.out.rs).mono ?_; rintro e w6 ⟨rfl, hb6⟩; have HB6 := Lib.hid (HB5.out.trans (hb6.mono HB5.out.size)); clear hb6))
                exact NEXT6.out _ _ _ rfl ⟨rfl, rfl, rfl, rfl, rfl, rfl, rfl, rfl, rfl, rfl, rfl, rfl, rfl⟩ rfl rfl (by unfold wayO; rw [HBB'.out]; rfl) HB6.out
        · have q1 : decide ((j : Int) < r.writes.length) = false := decide_eq_false (by omega)
          have hjl : r.writes.take j = r.writes := List.take_of_length_le (by omega)
          rw [hjl] at HWY
          have r4 : wq.cell? ⟨X1, 4, none⟩ = some (.slice a2 r.reads.length c2) := by rw [cell_of (HBZ.out.later HQ.out).rd]; rfl
          have HAQ := Lib.hid ((HQ.out.block Zb (Array.getElem?_eq_some_iff.1 HAE.out).1).trans HAE.out)
          clear HJJ6 HGM6
          go_wp2_with fail
          clear r4
          refine wp_loopF 226 (fun m h wp => h 2 = .pointer (some ⟨X, 0, none⟩) ∧ h 3 = .pointer (some ⟨X1, 0, none⟩) ∧ h 4 = .pointer (some ⟨X2, 0, none⟩) ∧ h 11 = .bool first ∧ h 12 = .bool look ∧ h 17 = vi by_ ∧ h 18 = .bool lk ∧ h 20 = .pointer (some ⟨Zb, 0, none⟩) ∧ h 108 = .slice (some ⟨gg, off, none⟩) s.ws.length cw ∧ h 109 = .int .i64 s.ws.length ∧ h 110 = .int .i64 k ∧ h 140 = .slice a2 r.reads.length c2 ∧ h 141 = .int .i64 r.reads.length ∧
            ∃ q : Nat, q ≤ r.reads.length ∧ m = r.reads.length - q ∧ h 142 = .int .i64 q ∧ h 21 = .bool (wy || (r.reads.take q).any (fun kk => look && writesB x kk)) ∧ Below wq.heap.size wq wp) _ rfl r.reads.length ?start7 ?round7
          case start7 => exact ⟨rfl, rfl, rfl, rfl, rfl, rfl, rfl, rfl, rfl, rfl, rfl, rfl, rfl, 0, Nat.zero_le _, rfl, rfl, by cases wy <;> rfl, Below.refl _ _⟩
          case round7 =>
            rintro gm7 h wp ⟨h2, h3, h4, h11, h12, h17, h18, h20, h108, h109, h110, h140, h141, q, hq7, hgm7, h142, h21, hp⟩ JJ7 KK7 HJ7 HKK7
            have HJJ7 := Lib.hid HJ7
            have HGM7 := Lib.hid hgm7
            have HP := Lib.hid hp
            obtain ⟨wv7, hwv7⟩ : ∃ b, b = (wy || (r.reads.take q).any (fun kk => look && writesB x kk)) := ⟨_, rfl⟩
            rw [← hwv7] at h21
            rw [fr226, h2, h3, h4, h11, h12, h17, h18, h20, h108, h109, h110, h140, h141, h142, h21]
            have HWV := Lib.hid hwv7
            clear HJ7 hgm7 hp hwv7 h2 h3 h4 h11 h12 h17 h18 h20 h108 h109 h110 h140 h141 h142 h21
            have HP0 := Lib.hid ((HZ0.out.trans (HQ.out.mono HZ0.out.size)).trans (HP.out.mono (HZ0.out.trans (HQ.out.mono HZ0.out.size)).size))
            by_cases hlt7 : q < r.reads.length
            · have q3 : decide ((q : Int) < r.reads.length) = true := decide_eq_true (by omega)
              have q4 : (q : Int) < r.reads.length := by omega
              have hwk7 : IntKind.i64.wrap ((q : Int) + 1) = (q : Int) + 1 := IntWalk.i64_in _ (by omega)
              obtain ⟨o, ho⟩ := some_at hlt7
              obtain ⟨og, oo, ha, c0, -⟩ := (show RdInts w0 (.slice a2 r.reads.length c2) r.reads from HR.out.rs).el ho
              subst ha
              replace c0 := cell_later HP0.out c0
              have HA := Lib.hid (any_next6 (q := fun kk => look && writesB x kk) ho)
              have HAo := Lib.hid ((HP.out.block Zb (Array.getElem?_eq_some_iff.1 HAQ.out).1).trans HAQ.out)
              have HXo := Lib.hid (HXS.out.later HP0.out)
              clear ho
              have y0 : wp.cell? ⟨Zb, 0, none⟩ = some (vi x.txn) := cell_at HAo.out rfl
              have y1 : wp.cell? ⟨Zb, 1, none⟩ = some (vi x.home) := cell_at HAo.out rfl
              have y2 : wp.cell? ⟨Zb, 2, none⟩ = some (vi x.start) := cell_at HAo.out rfl
              have y3 : wp.cell? ⟨Zb, 3, none⟩ = some (.slice b1 l1 e1) := cell_at HAo.out rfl
              have y4 : wp.cell? ⟨Zb, 4, none⟩ = some (.slice b2 l2 e2) := cell_at HAo.out rfl
              have next7 : ∀ (l : List Value) (W : World) (bb : Bool), l.length = 226 → slotsOf l 2 = .pointer (some ⟨X, 0, none⟩) ∧ slotsOf l 3 = .pointer (some ⟨X1, 0, none⟩) ∧ slotsOf l 4 = .pointer (some ⟨X2, 0, none⟩) ∧ slotsOf l 11 = .bool first ∧ slotsOf l 12 = .bool look ∧ slotsOf l 17 = vi by_ ∧ slotsOf l 18 = .bool lk ∧ slotsOf l 20 = .pointer (some ⟨Zb, 0, none⟩) ∧ slotsOf l 108 = .slice (some ⟨gg, off, none⟩) s.ws.length cw ∧ slotsOf l 109 = .int .i64 s.ws.length ∧ slotsOf l 110 = .int .i64 k ∧ slotsOf l 140 = .slice (some ⟨og, oo, none⟩) r.reads.length c2 ∧ slotsOf l 141 = .int .i64 r.reads.length → slotsOf l 142 = .int .i64 ((q : Int) + 1) → slotsOf l 21 = .bool bb → bb = (wv7 || (look && writesB x o)) → Below wq.heap.size wq W → Handed JJ7 gm7 ⟨l.toArray, []⟩ W := fun l W bb hl' hc h117 h21 hbb hW => by
                obtain ⟨t0, t1, t2, t3, t4, t5, t6, t7, t8, t9, t10, t11, t12⟩ := hc
                exact Handed.intro (r.reads.length - (q + 1)) (by rw [HGM7.out]; omega) (HJJ7.out _ _ _ hl' ⟨t0, t1, t2, t3, t4, t5, t6, t7, t8, t9, t10, t11, t12, q + 1, by omega, rfl, by rw [h117]; go_num, by rw [h21, hbb, HA.out, HWV.out, Bool.or_assoc], hW⟩)
              have NEXT7 := Lib.hid next7
              clear next7
              cases wv7 with
              | true =>
                go_wp2_with fail
                exact NEXT7.out _ _ true rfl ⟨rfl, rfl, rfl, rfl, rfl, rfl, rfl, rfl, rfl, rfl, rfl, rfl, rfl⟩ rfl rfl rfl HP.out
              | false =>
                cases look with
                | false =>
                  go_wp2_with fail
                  exact NEXT7.out _ _ false rfl ⟨rfl, rfl, rfl, rfl, rfl, rfl, rfl, rfl, rfl, rfl, rfl, rfl, rfl⟩ rfl rfl rfl HP.out
                | true =>
                  have hcw := rnWrites_call ⟨.slice b1 l1 e1, .slice b2 l2 e2, x⟩ o wp HXo.out
                  unfold rdyV rdyC at hcw
                  simp only at hcw
                  have HCW := Lib.hid hcw
                  clear hcw
                  go_wp2_with (go_at_call 73; refine HCW.out.mono ?_; rintro e w5 ⟨rfl, hb5⟩; have HB5 := Lib.hid (HP.out.trans (hb5.mono HP.out.size)); clear hb5)
                  exact NEXT7.out _ _ _ rfl ⟨rfl, rfl, rfl, rfl, rfl, rfl, rfl, rfl, rfl, rfl, rfl, rfl, rfl⟩ rfl rfl rfl HB5.out
            · have q3 : decide ((q : Int) < r.reads.length) = false := decide_eq_false (by omega)
              have hql : r.reads.take q = r.reads := List.take_of_length_le (by omega)
              rw [hql] at HWV
              have HWW := Lib.hid (show wv7 = wayB r look x from by
                rw [HWV.out, HWY.out]; unfold wayB; congr 1
                cases look <;> simp)
              have HAo := Lib.hid ((HP.out.block Zb (Array.getElem?_eq_some_iff.1 HAQ.out).1).trans HAQ.out)
              have y0 : wp.cell? ⟨Zb, 0, none⟩ = some (vi x.txn) := cell_at HAo.out rfl
              have HBF := Lib.hid ((HJA.out.trans (HQ.out.mono HJA.out.size)).trans (HP.out.mono (HJA.out.trans (HQ.out.mono HJA.out.size)).size))
              clear HJJ7 HGM7
              have next5 : ∀ (l : List Value) (W : World) (s' : Int × Bool), l.length = 226 → slotsOf l 2 = .pointer (some ⟨X, 0, none⟩) ∧ slotsOf l 3 = .pointer (some ⟨X1, 0, none⟩) ∧ slotsOf l 4 = .pointer (some ⟨X2, 0, none⟩) ∧ slotsOf l 11 = .bool first ∧ slotsOf l 12 = .bool look ∧ slotsOf l 108 = .slice (some ⟨gg, off, none⟩) s.ws.length cw ∧ slotsOf l 109 = .int .i64 s.ws.length → slotsOf l 110 = .int .i64 ((k : Int) + 1) → slotsOf l 17 = vi s'.1 → slotsOf l 18 = .bool s'.2 → s' = blkStepP r look (by_, lk) x → Below w.heap.size w W → Handed JJ gm ⟨l.toArray, []⟩ W := fun l W s' hl' hc h110 h17 h18 hs' hW => by
                obtain ⟨t0, t1, t2, t3, t4, t5, t6⟩ := hc
                exact Handed.intro (s.ws.length - (k + 1)) (by rw [HGM.out]; omega) (HJJ.out _ _ _ hl' ⟨t0, t1, t2, t3, t4, t5, t6, k + 1, by omega, rfl, by rw [h110]; go_num, by rw [h17, hs', HF.out], by rw [h18, hs', HF.out], hW⟩)
              have NEXT5 := Lib.hid next5
              clear next5
              have hstep : ∀ b1 b2, wayB r look x = b1 → (!lk || decide (x.txn < by_)) = b2 → blkStepP r look (by_, lk) x = if b1 && b2 then (x.txn, true) else (by_, lk) := fun b1 b2 h1 h2 => by unfold blkStepP; rw [h1, h2]
              have HST := Lib.hid hstep
              clear hstep
              cases wv7 with
              | false =>
                go_wp2_with fail
                exact NEXT5.out _ _ (by_, lk) rfl ⟨rfl, rfl, rfl, rfl, rfl, rfl, rfl⟩ rfl rfl rfl (HST.out _ _ HWW.out.symm rfl).symm HBF.out
              | true =>
                cases lk with
                | false =>
                  go_wp2_with fail
                  exact NEXT5.out _ _ (x.txn, true) rfl ⟨rfl, rfl, rfl, rfl, rfl, rfl, rfl⟩ rfl rfl rfl (HST.out _ _ HWW.out.symm rfl).symm HBF.out
                | true =>
                  cases hq5 : decide (x.txn < by_) with
                  | false =>
                    have hq5' : by_ ≤ x.txn := by have := of_decide_eq_false hq5; omega
                    have HQ5 := Lib.hid (HST.out _ _ HWW.out.symm hq5).symm
                    go_wp2_with fail
                    exact NEXT5.out _ _ (by_, true) rfl ⟨rfl, rfl, rfl, rfl, rfl, rfl, rfl⟩ rfl rfl rfl HQ5.out HBF.out
                  | true =>
                    have hq5' : x.txn < by_ := of_decide_eq_true hq5
                    have HQ5 := Lib.hid (HST.out _ _ HWW.out.symm hq5).symm
                    go_wp2_with fail
                    exact NEXT5.out _ _ (x.txn, true) rfl ⟨rfl, rfl, rfl, rfl, rfl, rfl, rfl⟩ rfl rfl rfl HQ5.out HBF.out
    · have k1 : decide ((k : Int) < s.ws.length) = false := decide_eq_false (by omega)
      have hql : s.ws.take k = s.ws := List.take_of_length_le (by omega)
      have hblk : blkOfP s.ws r look = (by_, lk) := by rw [HS0.out, hql]; rfl
      have HC := Lib.hid (prC A w0 ⟨vv, .slice aw s.ws.length cw, ev, s⟩ ⟨.slice a1 r.writes.length c1, .slice a2 r.reads.length c2, r⟩ X X1 X2)
      have hcc : ∀ u, Code.wp Try.prog cPrC (bodyPost Try.prog Try.f39 (fun e w' => if (blkOfP s.ws r look).2 && first then PrR A w0 s (blkOfP s.ws r look).1 60 e w' else PrR A w0 ⟨s.serial, s.bugs, s.vs, insR s.ws r, s.es⟩ 0 0 e w')) (⟨#[g 0, g 1, g 2, g 3, g 4, g 5, g 6, g 7, g 8, g 9, g 10, g 11, g 12, g 13, g 14, g 15, g 16, g 17, g 18, g 19, g 20, g 21, g 22, g 23, g 24, g 25, g 26, g 27, g 28, g 29, g 30, g 31, g 32, g 33, g 34, g 35, g 36, g 37, g 38, g 39, g 40, g 41, g 42, g 43, g 44, g 45, g 46, g 47, g 48, g 49, g 50, g 51, g 52, g 53, g 54, g 55, g 56, g 57, g 58, g 59, g 60, g 61, g 62, g 63, g 64, g 65, g 66, g 67, g 68, g 69, g 70, g 71, g 72, g 73, g 74, g 75, g 76, g 77, g 78, g 79, g 80, g 81, g 82, g 83, g 84, g 85, g 86, g 87, g 88, g 89, g 90, g 91, g 92, g 93, g 94, g 95, g 96, g 97, g 98, g 99, g 100, g 101, g 102, g 103, g 104, g 105, g 106, g 107, g 108, g 109, g 110, u, g 112, g 113, g 114, g 115, g 116, g 117, g 118, g 119, g 120, g 121, g 122, g 123, g 124, g 125, g 126, g 127, g 128, g 129, g 130, g 131, g 132, g 133, g 134, g 135, g 136, g 137, g 138, g 139, g 140, g 141, g 142, g 143, g 144, g 145, g 146, g 147, g 148, g 149, g 150, g 151, g 152, g 153, g 154, g 155, g 156, g 157, g 158, g 159, g 160, g 161, g 162, g 163, g 164, g 165, g 166, g 167, g 168, g 169, g 170, g 171, g 172, g 173, g 174, g 175, g 176, g 177, g 178, g 179, g 180, g 181, g 182, g 183, g 184, g 185, g 186, g 187, g 188, g 189, g 190, g 191, g 192, g 193, g 194, g 195, g 196, g 197, g 198, g 199, g 200, g 201, g 202, g 203, g 204, g 205, g 206, g 207, g 208, g 209, g 210, g 211, g 212, g 213, g 214, g 215, g 216, g 217, g 218, g 219, g 220, g 221, g 222, g 223, g 224, g 225], []⟩ : Act) wr := fun u => by
        rw [hblk]
        refine wp_fr 226 _ rfl ?_
        exact HC.out _ by_ lk first wr hBW HXA.out HHA.out HR.out (H0.out.trans (HJ1.out.mono H0.out.size)) HL.out HN.out HBB.out g2 g3 g4 g11 g17 g18
      have HCC := Lib.hid hcc
      clear hcc HC
      rw [fr226, g2, g3, g4, g11, g12, g108, g109, g110, g17, g18]
      rw [g2, g3, g4, g11, g12, g108, g109, g110, g17, g18] at HCC
      clear g2 g3 g4 g11 g12 g108 g109 g110 g17 g18 hBW hblk
      go_wp2_with fail
      exact HKB.out _ _ (HCC.out _)
end Go.Proofs.Ytdkkpkgfiodlbaa

/- The store and layer 19's reference side by side: who is in the way. Names no function. -/
namespace Go.Proofs.Ytdkkpkgfiodlbaa
open Go.RowKit Go.Maps
/-- Those who wait in the store are those who wait in the reference's list. -/
def SameW (R : RdyL) (ws : List Rdy) : Prop := (∀ x ∈ R, x.1 = x.2.r.txn ∧ x.2.r ∈ ws) ∧ (∀ r ∈ ws, ∃ x ∈ R, x.1 = r.txn ∧ x.2.r = r)
/-- The least of those who are such, as a list's walk finds it. -/
def leastOf (q : Rdy → Bool) (s : Int × Bool) (r : Rdy) : Int × Bool := if q r && (!s.2 || decide (r.txn < s.1)) then (r.txn, true) else s
theorem least_spec (q : Rdy → Bool) : ∀ (ws : List Rdy) (s : Int × Bool),
    (ws.foldl (leastOf q) s = s ∧ ∀ r ∈ ws, q r = true → s.2 = true ∧ s.1 ≤ r.txn) ∨
    (∃ r ∈ ws, q r = true ∧ ws.foldl (leastOf q) s = (r.txn, true) ∧ (∀ r' ∈ ws, q r' = true → r.txn ≤ r'.txn) ∧ (s.2 = true → r.txn ≤ s.1))
  | [], s => .inl ⟨rfl, fun r hr => by cases hr⟩
  | x :: ws, s => by
    rw [List.foldl_cons]
    have ih := least_spec q ws (leastOf q s x)
    cases hq : q x with
    | false =>
      have e : leastOf q s x = s := by unfold leastOf; rw [hq]; rfl
      rw [e] at ih ⊢
      rcases ih with ⟨h1, h2⟩ | ⟨r, hr, h1, h2, h3, h4⟩
      · refine .inl ⟨h1, fun r hr hqr => ?_⟩
        rcases List.mem_cons.1 hr with rfl | hr
        · rw [hq] at hqr; cases hqr
        · exact h2 r hr hqr
      · refine .inr ⟨r, List.mem_cons_of_mem _ hr, h1, h2, fun r' hr' hq' => ?_, h4⟩
        rcases List.mem_cons.1 hr' with rfl | hr'
        · rw [hq] at hq'; cases hq'
        · exact h3 r' hr' hq'
    | true =>
      by_cases hc : s.2 = true ∧ s.1 ≤ x.txn
      · have e : leastOf q s x = s := by
          unfold leastOf; rw [hq, hc.1, decide_eq_false (by omega : ¬ x.txn < s.1)]; rfl
        rw [e] at ih ⊢
        rcases ih with ⟨h1, h2⟩ | ⟨r, hr, h1, h2, h3, h4⟩
        · refine .inl ⟨h1, fun r hr hqr => ?_⟩
          rcases List.mem_cons.1 hr with rfl | hr
          · exact hc
          · exact h2 r hr hqr
        · refine .inr ⟨r, List.mem_cons_of_mem _ hr, h1, h2, fun r' hr' hq' => ?_, h4⟩
          rcases List.mem_cons.1 hr' with rfl | hr'
          · have := h4 hc.1; omega
          · exact h3 r' hr' hq'
      · have e : leastOf q s x = (x.txn, true) := by
          unfold leastOf
          rw [hq]
          cases h2 : s.2 with
          | false => rfl
          | true =>
            have : ¬ s.1 ≤ x.txn := fun h => hc ⟨h2, h⟩
            rw [decide_eq_true (by omega : x.txn < s.1)]; rfl
        rw [e] at ih ⊢
        have hs : s.2 = true → x.txn ≤ s.1 := fun h => by
          have : ¬ s.1 ≤ x.txn := fun h' => hc ⟨h, h'⟩
          omega
        rcases ih with ⟨h1, h2⟩ | ⟨r, hr, h1, h2, h3, h4⟩
        · refine .inr ⟨x, List.mem_cons_self, hq, h1, fun r' hr' hq' => ?_, hs⟩
          rcases List.mem_cons.1 hr' with rfl | hr'
          · exact Int.le_refl _
          · exact (h2 r' hr' hq').2
        · have hrx : r.txn ≤ x.txn := h4 rfl
          refine .inr ⟨r, List.mem_cons_of_mem _ hr, h1, h2, fun r' hr' hq' => ?_, fun h => Int.le_trans hrx (hs h)⟩
          rcases List.mem_cons.1 hr' with rfl | hr'
          · exact hrx
          · exact h3 r' hr' hq'
/-- The store's answer to 'who is in the way' is the reference's. -/
theorem blk_least {R : RdyL} {ws : List Rdy} (hs : SameW R ws) {but : Int} {q : Rdy → Bool} {id : Int} {ok : Bool} (h : Blk R but q (id, ok)) : ws.foldl (leastOf (fun r => r.txn != but && q r)) (0, false) = (id, ok) := by
  rcases least_spec (fun r => r.txn != but && q r) ws (0, false) with ⟨h1, h2⟩ | ⟨r, hr, hq, h1, h3, -⟩
  · rw [h1]
    rcases h with ⟨h4, -⟩ | ⟨x, hx, hb, hqx, h4, -⟩
    · exact h4.symm
    · obtain ⟨e1, hw⟩ := hs.1 x hx
      have := h2 x.2.r hw (by rw [← e1, hqx]; simp [hb])
      simp at this
  · rw [h1]
    simp only [Bool.and_eq_true, bne_iff_ne] at hq
    obtain ⟨y, hy, ey, er⟩ := hs.2 r hr
    rcases h with ⟨-, h5⟩ | ⟨x, hx, hb, hqx, h4, h5⟩
    · have := h5 y hy (by rw [ey]; exact hq.1)
      rw [er, hq.2] at this; cases this
    · obtain ⟨e1, hw⟩ := hs.1 x hx
      have a1 := h3 x.2.r hw (by rw [← e1, hqx]; simp [hb])
      have a2 := h5 y hy (by rw [ey]; exact hq.1) (by rw [er]; exact hq.2)
      cases h4
      rw [ey] at a2
      have : r.txn = x.1 := by omega
      rw [this]
theorem blkOf_least (ws : List Rdy) (txn key t : Int) : blkOf ws txn key t = ws.foldl (leastOf (fun r => r.txn != txn && (writesB r key && decide (r.start < t)))) (0, false) := by
  unfold blkOf
  congr 1
  funext s r
  unfold blkStep leastOf
  simp only [Bool.and_assoc]
theorem blkOfP_least (ws : List Rdy) (r : Rdy) (look : Bool) (h : ∀ y ∈ ws, y.txn ≠ r.txn) : blkOfP ws r look = ws.foldl (leastOf (fun x => x.txn != r.txn && wayB r look x)) (0, false) := by
  unfold blkOfP
  have : ∀ (l : List Rdy) (s : Int × Bool), (∀ y ∈ l, y.txn ≠ r.txn) → l.foldl (blkStepP r look) s = l.foldl (leastOf (fun x => x.txn != r.txn && wayB r look x)) s := by
    intro l
    induction l with
    | nil => intro s _; rfl
    | cons x l ih =>
      intro s hl
      rw [List.foldl_cons, List.foldl_cons]
      have e : blkStepP r look s x = leastOf (fun x => x.txn != r.txn && wayB r look x) s x := by
        unfold blkStepP leastOf
        have : (x.txn != r.txn) = true := by simpa using hl x List.mem_cons_self
        simp only [this, Bool.true_and]
      rw [e]
      exact ih _ (fun y hy => hl y (List.mem_cons_of_mem _ hy))
  exact this ws _ h
/-- The bugs' bits, as the program and as the reference ask for them. -/
theorem off_eq : ∀ n : Nat, n < 64 → (bits .and .i64 (n : Int) 1 == 0) = ((n : Int) % 2 == 0) ∧ (bits .and .i64 (n : Int) 2 == 0) = offR n 2 ∧ (bits .and .i64 (n : Int) 4 == 0) = offR n 4 ∧ (bits .and .i64 (n : Int) 32 == 0) = offR n 32 := by decide
end Go.Proofs.Ytdkkpkgfiodlbaa
