/- Layer 19's reference: Prepare: one more waits. -/
import Derived.Test.YtbadpfcjoobniaaRnPrD
namespace Go.Proofs.Ytbadpfcjoobniaa
open Go.RowKit Go.Maps
attribute [local go_sem] Oper.semAt_some

theorem insOf_len (r : Rdy) : ∀ (ws : List Rdy) (b : List Rdy × Bool), (ws.foldl (insStep r) b).1.length ≤ b.1.length + 2 * ws.length
  | [], b => Nat.le_refl _
  | x :: ws, b => by
    rw [List.foldl_cons]
    refine Nat.le_trans (insOf_len r ws _) ?_
    unfold insStep
    split <;> simp <;> omega
theorem own_set5b {W : World} {N e n m b : Nat} {v v0 v1 v2 v3 v4 : Value} {xs : List Value} (h : W.ownsRow N e n v m xs) (hb : b < N) :
    (((((W.setCell ⟨b, 0, none⟩ v0).setCell ⟨b, 1, none⟩ v1).setCell ⟨b, 2, none⟩ v2).setCell ⟨b, 3, none⟩ v3).setCell ⟨b, 4, none⟩ v4).ownsRow N e n v m xs :=
  own_set (own_set (own_set (own_set (own_set h hb) hb) hb) hb) hb
/-- What the last loop of Prepare keeps of memory. -/
structure PrK (w0 : World) (N : Nat) (W0 : World) (m : RV) (bC : Nat) (vo : Value) (L : List RV) (dn : Bool) (W : World) : Prop where
  row : W.ownsRow N 58 5 vo L.length (L.flatMap rdyL)
  mw : W.ownsRow N 55 3 m.wv m.r.writes.length (m.r.writes.flatMap opV)
  mi : W.ownsRow N 3 1 m.rv m.r.reads.length (m.r.reads.flatMap viC)
  els : ∀ x ∈ L, RdyS w0 x ∨ x = m
  below : Below N W0 W
  base : N = W0.heap.size
  box : dn = false → W.heap[bC]? = some (.cells (rdyC m) 58) ∧ some bC ≠ vo.ownBlock
  frs : dn = false → ∀ x ∈ L, x.r.txn ≠ m.r.txn
theorem PrK.size {w0 : World} {N : Nat} {W0 A : World} {m : RV} {bC : Nat} {vo : Value} {L : List RV} {dn : Bool} (h : PrK w0 N W0 m bC vo L dn A) : N ≤ A.heap.size := by rw [h.base]; exact h.below.size
theorem PrK.alloc {w0 : World} {N : Nat} {W0 A : World} {m : RV} {bC : Nat} {vo : Value} {L : List RV} {dn : Bool} (h : PrK w0 N W0 m bC vo L dn A) (o : Obj) : PrK w0 N W0 m bC vo L dn (A.alloc o) :=
  ⟨h.row.alloc o, h.mw.alloc o, h.mi.alloc o, h.els, h.below.alloc h.size o, h.base, fun hd => ⟨heap_un (h.box hd).1, (h.box hd).2⟩, h.frs⟩
theorem PrK.push {w0 : World} {N : Nat} {W0 A B : World} {m x : RV} {bC : Nat} {vo v' : Value} {L : List RV} {dn : Bool} (h : PrK w0 N W0 m bC vo L dn A) (hg : A.grownBy B vo.ownBlock) (ho : B.ownsRow N 58 5 v' (L.length + 1) (L.flatMap rdyL ++ rdyL x)) (dn' : Bool) (hx : RdyS w0 x ∨ x = m) (hd : dn' = false → dn = false ∧ x.r.txn ≠ m.r.txn) : PrK w0 N W0 m bC v' (L ++ [x]) dn' B := by
  have hfl : L.flatMap rdyL ++ rdyL x = (L ++ [x]).flatMap rdyL := by rw [List.flatMap_append]; simp
  have hfr : dn' = false → ∀ y ∈ L ++ [x], y.r.txn ≠ m.r.txn := fun h1 y hy => by
    rcases List.mem_append.1 hy with hy | hy
    · exact h.frs (hd h1).1 y hy
    · rw [List.mem_singleton.1 hy]; exact (hd h1).2
  refine ⟨by rw [List.length_append, ← hfl]; exact ho, h.mw.kept hg (own_apart h.mw h.row (by decide)), h.mi.kept hg (own_apart h.mi h.row (by decide)), fun y hy => ?_, h.below.grown hg h.size (fun j hj => (h.row.lt j hj).1), h.base, fun h1 => ?_, hfr⟩
  · rcases List.mem_append.1 hy with hy | hy
    · exact h.els y hy
    · rw [List.mem_singleton.1 hy]; exact hx
  · obtain ⟨hb, hn⟩ := h.box (hd h1).1
    have hB : B.heap[bC]? = some (.cells (rdyC m) 58) := (hg.block bC (Array.getElem?_eq_some_iff.1 hb).1 hn).trans hb
    refine ⟨hB, fun e => ?_⟩
    obtain ⟨x0, L', hL⟩ : ∃ x0 L', L ++ [x] = x0 :: L' := by cases L with
      | nil => exact ⟨_, _, rfl⟩
      | cons a l => exact ⟨_, _, rfl⟩
    have hc := World.ownsRow.cells ho e.symm 0 (vi x0.r.txn) (by rw [hfl, hL]; rfl)
    rw [addr_add, cell_of hB] at hc
    have hc' : vi m.r.txn = vi x0.r.txn := by simpa [rdyC] using hc
    exact hfr h1 x0 (by rw [hL]; exact List.mem_cons_self) (by simpa using hc'.symm)

set_option maxRecDepth 1000000 in
set_option maxHeartbeats 16000000 in
theorem prD (A w0 : World) (x : RSV) (rv : RV) (X X1 X2 : Nat) (f : Nat → Value) (w : World) (hB : PrB x rv X X1 X2 w) (hxA : RdSt A x) (hA : Below A.heap.size A w0) (hr : RdyS w0 rv) (h0 : Below w0.heap.size w0 w)
    (hl : x.s.ws.length ≤ 1000 ∧ rv.r.writes.length ≤ 1000 ∧ rv.r.reads.length ≤ 1000) (hne : ∀ y ∈ x.s.ws, y.txn ≠ rv.r.txn) (hb : w0.heap.size ≤ X ∧ w0.heap.size ≤ X1 ∧ w0.heap.size ≤ X2 ∧ X ≠ X1 ∧ X ≠ X2 ∧ X1 ≠ X2)
    (e2 : f 2 = .pointer (some ⟨X, 0, none⟩)) (e3 : f 3 = .pointer (some ⟨X1, 0, none⟩)) (e4 : f 4 = .pointer (some ⟨X2, 0, none⟩)) :
    Code.wp Try.prog cPrD (bodyPost Try.prog Try.f18 (PrR A w0 ⟨x.s.serial, x.s.bugs, x.s.vs, insR x.s.ws rv.r, x.s.es⟩ 0 0)) (frN 226 f) w := by
  rw [fr226, e2, e3, e4]
  clear e2 e3 e4
  have hx := hxA.later hA
  have HHA := Lib.hid hA
  obtain ⟨vv, wv, ev, s⟩ := x
  have HV := Lib.hid hx.vs
  have HW := Lib.hid (show RdRdy A wv s.ws from hxA.ws)
  have HVA := Lib.hid (show RdVer3 A vv s.vs from hxA.vs)
  have HEA := Lib.hid (show RdEn A ev s.es from hxA.es)
  clear hxA hA
  have HE := Lib.hid hx.es
  obtain ⟨av, nv, cv, hwv, rfl, hmv, -⟩ := (show RdVer3 w0 vv s.vs from hx.vs).at
  obtain ⟨aw, nw, cw, hww, rfl, hmw, -⟩ := (show RdRdy w0 wv s.ws from hx.ws).at
  obtain ⟨ae, ne, ce, hwe, rfl, hme, -⟩ := (show RdEn w0 ev s.es from hx.es).at
  subst hwv hww hwe
  obtain ⟨rw_, rr, r⟩ := rv
  obtain ⟨a1, l1, c1, h1, rfl, -, -⟩ := (show RdOps w0 rw_ r.writes from hr.ws).at
  obtain ⟨a2, l2, c2, h2, rfl, -, -⟩ := (show RdInts w0 rr r.reads from hr.rs).at
  subst h1 h2
  have HR := Lib.hid hr
  have HB := Lib.hid hB
  simp only at HV HW HE HVA HEA hl hne
  have HNE := Lib.hid hne
  clear hne
  obtain ⟨hb0, hb1, hb2, hn1, hn2, hn3⟩ := hb
  have hX2l := (Array.getElem?_eq_some_iff.1 hB.rs).1
  have H0 := Lib.hid h0
  clear hx hr hB h0
  have hXl := (Array.getElem?_eq_some_iff.1 HB.out.st).1
  have hX1l := (Array.getElem?_eq_some_iff.1 HB.out.rd).1
  have ho1 := World.ownsRow_lit (base := w.heap.size) (e := 58) (size := 5) w #[] 0 (Nat.le_refl _) (by simp [maxLen]) rfl
  have hba := (Below.refl w.heap.size w).alloc (Nat.le_refl _) (.cells #[] 58)
  conv => arg 2; whnf
  go_upto_region 51 with fail
  generalize w.alloc (.cells #[] 58) = wS at *
  generalize Value.slice (some ⟨w.heap.size, 0, none⟩) 0 0 = vo at *
  have hww : w.heap.size ≤ wS.heap.size := hba.size
  have HBS := Lib.hid (HB.out.later hba)
  have H0S := Lib.hid (H0.out.trans (hba.mono H0.out.size))
  have HO1 := Lib.hid ho1
  clear ho1
  refine wp_cutF 226 (fun q wx => q 2 = .pointer (some ⟨X, 0, none⟩) ∧ q 3 = .pointer (some ⟨X1, 0, none⟩) ∧ q 4 = .pointer (some ⟨X2, 0, none⟩) ∧ q 26 = vo ∧ q 27 = .bool false ∧ ∃ (bC : Nat) (mw mr : Value), q 28 = .pointer (some ⟨bC, 0, none⟩) ∧ wx.heap[bC]? = some (.cells #[vi r.txn, vi r.home, vi r.start, mw, mr] 58) ∧ wx.ownsRow wS.heap.size 55 3 mw r.writes.length (r.writes.flatMap opV) ∧ wx.ownsRow wS.heap.size 3 1 mr r.reads.length (r.reads.flatMap viC) ∧ Below wS.heap.size wS wx ∧ wS.heap.size ≤ bC) ?rest ?first
  case first =>
    intro J1 K1 h1 h2
    refine wp_onlyN (K := K1) ?_ (fun _ _ h => h)
    refine wp_fr 226 _ rfl ?_
    show Code.wp Try.prog cPr51 _ _ _
    refine prReg r a1 c1 a2 c2 X1 _ wS HBS.out.rd (HR.out.later H0S.out) hl.2 rfl K1 ?_
    intro l wx bC mw mr hll hc hf
    obtain ⟨t2, t3, t4, t26, t27, t28⟩ := hc
    exact h2 _ _ (Met.intro (h1 l _ hll ⟨t2.trans rfl, t3, t4.trans rfl, t26.trans rfl, t27.trans rfl, bC, mw, mr, t28, hf⟩))
  case rest =>
    rintro q wx ⟨q2, q3, q4, q26, q27, bC, mw, mr, q28, hC, hmw, hmr, hbx, hbc⟩
    go_step
    obtain ⟨am, cm, hm1⟩ := own_shape hmw
    obtain ⟨an, cn, hm2⟩ := own_shape hmr
    obtain ⟨ao, co, ho⟩ := own_shape HO1.out
    subst hm1 hm2 ho
    have hbw : Below w.heap.size w wx := hba.trans (hbx.mono hww)
    have HBX := Lib.hid (show PrB ⟨.slice av s.vs.length cv, .slice aw s.ws.length cw, .slice ae s.es.length ce, s⟩ ⟨.slice a1 r.writes.length c1, .slice a2 r.reads.length c2, r⟩ X X1 X2 wx from HBS.out.later hbx)
    have HK0 := Lib.hid (show PrK A w.heap.size w ⟨.slice am r.writes.length cm, .slice an r.reads.length cn, r⟩ bC (.slice ao 0 co) [] false wx from
      ⟨own_below HO1.out hbx, own_mono hmw hww, own_mono hmr hww, (fun x hx => by cases hx), hbw, rfl, fun _ => ⟨hC, fun e => by have := (HO1.out.lt bC e.symm).2; omega⟩, (fun _ x hx => by cases hx)⟩)
    rw [fr226, q2, q3, q4, q26, q27, q28]
    have x3 : wx.cell? ⟨X, 3, none⟩ = some (.slice aw s.ws.length cw) := by rw [cell_of HBX.out.st]; rfl
    have HPB := Lib.hid (show ∀ W, Below w.heap.size w W → PrB ⟨.slice av s.vs.length cv, .slice aw s.ws.length cw, .slice ae s.es.length ce, s⟩ ⟨.slice a1 r.writes.length c1, .slice a2 r.reads.length c2, r⟩ X X1 X2 W from fun W hW => HB.out.later hW)
    have HRI := Lib.hid (reads_i64 HR.out.rs)
    clear q2 q3 q4 q26 q27 q28 hC hmw hmr hbx hbw HO1
    go_wp2_with fail
    clear x3
    refine wp_loopF 226 (fun m g wr => g 2 = .pointer (some ⟨X, 0, none⟩) ∧ g 3 = .pointer (some ⟨X1, 0, none⟩) ∧ g 4 = .pointer (some ⟨X2, 0, none⟩) ∧ g 28 = .pointer (some ⟨bC, 0, none⟩) ∧ g 193 = .slice aw s.ws.length cw ∧ g 194 = .int .i64 s.ws.length ∧
      ∃ (k : Nat) (L : List RV) (dn : Bool), k ≤ s.ws.length ∧ m = s.ws.length - k ∧ g 195 = .int .i64 k ∧ g 27 = .bool dn ∧ PrK A w.heap.size w ⟨.slice am r.writes.length cm, .slice an r.reads.length cn, r⟩ bC (g 26) L dn wr ∧ (L.map (·.r), dn) = (s.ws.take k).foldl (insStep r) ([], false)) _ rfl s.ws.length ?start ?round
    case start => exact ⟨rfl, rfl, rfl, rfl, rfl, rfl, 0, [], false, Nat.zero_le _, rfl, rfl, rfl, HK0.out, rfl⟩
    case round =>
      rintro gm g wr ⟨g2, g3, g4, g28, g193, g194, k, L, dn, hk, hgm, g195, g27, hK, hL⟩ JJ KK HJ HKK
      have HJJ := Lib.hid HJ
      have HGM := Lib.hid hgm
      have HL := Lib.hid hL
      have HK := Lib.hid hK
      obtain ⟨ag, cg, hag⟩ := own_shape hK.row
      rw [hag] at HK
      rw [fr226, g2, g3, g4, g28, g193, g194, g195, g27, hag]
      have hLl : L.length ≤ 2000 := by
        have h1 := insOf_len r (s.ws.take k) ([], false)
        rw [← hL, List.length_map, List.length_take] at h1
        simp at h1
        omega
      have hB := HPB.out wr hK.below
      clear HJ hgm hL hK g2 g3 g4 g28 g193 g194 g195 g27 hag
      by_cases hlt : k < s.ws.length
      · have k1 : decide ((k : Int) < s.ws.length) = true := decide_eq_true (by omega)
        have k2 : (k : Int) < s.ws.length := by omega
        have hwk : IntKind.i64.wrap ((k : Int) + 1) = (k : Int) + 1 := IntWalk.i64_in _ (by omega)
        obtain ⟨x, hx⟩ := some_at hlt
        have hxne : x.txn ≠ r.txn := HNE.out x (List.mem_of_getElem? hx)
        obtain ⟨gg, off, rw_, rr, ha, hrs, c0, c1', c2', c3, c4⟩ := HW.out.el hx
        obtain ⟨b1, l1, e1, rfl, -, -, -⟩ := (show RdOps A rw_ x.writes from hrs.ws).at
        obtain ⟨b2, l2, e2, rfl, -, -, -⟩ := (show RdInts A rr x.reads from hrs.rs).at
        have hwq := HHA.out.trans ((H0.out.trans (HK.out.below.mono H0.out.size)).mono HHA.out.size)
        replace c0 := cell_later hwq c0
        replace c1' := cell_later hwq c1'
        replace c2' := cell_later hwq c2'
        replace c3 := cell_later hwq c3
        replace c4 := cell_later hwq c4
        subst ha
        have HXS := Lib.hid hrs
        have HF := Lib.hid (fold_take (f := insStep r) (b := ([], false)) hx)
        rw [← HL.out] at HF
        have HXN := Lib.hid hxne
        have a0 : wr.cell? ⟨X1, 0, none⟩ = some (vi r.txn) := by rw [cell_of hB.rd]; rfl
        have a0' := later_alloc a0 (.cells #[vi x.txn, vi x.home, vi x.start, .slice b1 l1 e1, .slice b2 l2 e2] 58)
        have HKA := Lib.hid (HK.out.alloc (.cells #[vi x.txn, vi x.home, vi x.start, .slice b1 l1 e1, .slice b2 l2 e2] 58))
        have hAE := alloc_at wr (.cells #[vi x.txn, vi x.home, vi x.start, .slice b1 l1 e1, .slice b2 l2 e2] 58)
        clear hx hrs hwq a0 hB hxne
        have HZN := Lib.hid (show some wr.heap.size ≠ (Value.slice ag L.length cg).ownBlock from fun e => by have := (HK.out.row.lt _ e.symm).2; omega)
        go_upto_region 55 with fail
        generalize wr.alloc (.cells #[vi x.txn, vi x.home, vi x.start, .slice b1 l1 e1, .slice b2 l2 e2] 58) = wz at *
        generalize wr.heap.size = Zb at *
        have z0 : wz.cell? ⟨Zb, 0, none⟩ = some (vi x.txn) := by rw [cell_of hAE]; rfl
        have z1 : wz.cell? ⟨Zb, 1, none⟩ = some (vi x.home) := by rw [cell_of hAE]; rfl
        have z2 : wz.cell? ⟨Zb, 2, none⟩ = some (vi x.start) := by rw [cell_of hAE]; rfl
        have z3 : wz.cell? ⟨Zb, 3, none⟩ = some (.slice b1 l1 e1) := by rw [cell_of hAE]; rfl
        have z4 : wz.cell? ⟨Zb, 4, none⟩ = some (.slice b2 l2 e2) := by rw [cell_of hAE]; rfl
        clear c0 c1' c2' c3 c4 HK
        have HAE := Lib.hid hAE
        have HLA := Lib.hid (show L.length + 1 ≤ 68719476736 by omega)
        have hLM : (L ++ [(⟨.slice am r.writes.length cm, .slice an r.reads.length cn, r⟩ : RV)]).length + 1 ≤ 68719476736 := by rw [List.length_append]; simp; omega
        clear hAE
        cases dn with
        | true =>
          have HLB := HLA
          clear hLM
          go_wp2_with (refine wpList_append_src rfl (.tmp 212) (.tmp 214) 50 rfl eltR19 w.heap.size L.length _ (HKA.out.alloc _).row rfl 1 (rdyL ⟨.slice b1 l1 e1, .slice b2 l2 e2, x⟩) (src_new (cs := #[vi x.txn, vi x.home, vi x.start, .slice b1 l1 e1, .slice b2 l2 e2]) rfl rfl) rfl rdyL_one HLB.out (by omega) (HKA.out.alloc _).size ?_; intro v5 w5 ho5 hg5 _; have HK5 := Lib.hid ((HKA.out.alloc (.cells #[vi x.txn, vi x.home, vi x.start, .slice b1 l1 e1, .slice b2 l2 e2] 58)).push hg5 ho5 true (.inl HXS.out) (fun h => by cases h)); clear ho5 hg5)
          refine Handed.intro (s.ws.length - (k + 1)) (by rw [HGM.out]; omega) (HJJ.out _ _ _ rfl ⟨rfl, rfl, rfl, rfl, rfl, rfl, k + 1, _, _, by omega, rfl, ?_, rfl, HK5.out, ?_⟩)
          · show Value.int .i64 _ = _
            go_num
          · rw [HF.out]; unfold insStep; simp
        | false =>
          cases hq : decide (r.txn < x.txn) with
          | false =>
            have HLB := HLA
            have hq' : ¬ r.txn < x.txn := of_decide_eq_false hq
            have hq2 : x.txn ≤ r.txn := by omega
            have HQ := Lib.hid hq
            clear hLM
            go_wp2_with (refine wpList_append_src rfl (.tmp 212) (.tmp 214) 50 rfl eltR19 w.heap.size L.length _ (HKA.out.alloc _).row rfl 1 (rdyL ⟨.slice b1 l1 e1, .slice b2 l2 e2, x⟩) (src_new (cs := #[vi x.txn, vi x.home, vi x.start, .slice b1 l1 e1, .slice b2 l2 e2]) rfl rfl) rfl rdyL_one HLB.out (by omega) (HKA.out.alloc _).size ?_; intro v5 w5 ho5 hg5 _; have HK5 := Lib.hid ((HKA.out.alloc (.cells #[vi x.txn, vi x.home, vi x.start, .slice b1 l1 e1, .slice b2 l2 e2] 58)).push hg5 ho5 false (.inl HXS.out) (fun _ => ⟨rfl, HXN.out⟩)); clear ho5 hg5)
            refine Handed.intro (s.ws.length - (k + 1)) (by rw [HGM.out]; omega) (HJJ.out _ _ _ rfl ⟨rfl, rfl, rfl, rfl, rfl, rfl, k + 1, _, _, by omega, rfl, ?_, rfl, HK5.out, ?_⟩)
            · show Value.int .i64 _ = _
              go_num
            · rw [HF.out]; unfold insStep; simp [HQ.out]
          | true =>
            have HLB := Lib.hid hLM
            have hq' : r.txn < x.txn := of_decide_eq_true hq
            have HQ := Lib.hid hq
            obtain ⟨hbx, -⟩ := HKA.out.box rfl
            have m0 : wz.cell? ⟨bC, 0, none⟩ = some (vi r.txn) := cell_at hbx rfl
            have m1 : wz.cell? ⟨bC, 1, none⟩ = some (vi r.home) := cell_at hbx rfl
            have m2 : wz.cell? ⟨bC, 2, none⟩ = some (vi r.start) := cell_at hbx rfl
            have m3 : wz.cell? ⟨bC, 3, none⟩ = some (.slice am r.writes.length cm) := cell_at hbx rfl
            have m4 : wz.cell? ⟨bC, 4, none⟩ = some (.slice an r.reads.length cn) := cell_at hbx rfl
            clear hbx hLM
            go_wp2_with (first
              | (refine wpList_append_src rfl (.tmp 208) (.tmp 210) 50 rfl eltR19 w.heap.size L.length _ (HKA.out.alloc _).row rfl 1 (rdyL ⟨.slice am r.writes.length cm, .slice an r.reads.length cn, r⟩) (src_new (cs := #[vi r.txn, vi r.home, vi r.start, .slice am r.writes.length cm, .slice an r.reads.length cn]) rfl rfl) rfl rdyL_one HLA.out (by omega) (HKA.out.alloc _).size ?_; intro v6 w6 ho6 hg6 _; have HM6 := Lib.hid ((HKA.out.alloc (.cells #[vi r.txn, vi r.home, vi r.start, .slice am r.writes.length cm, .slice an r.reads.length cn] 58)).push hg6 ho6 true (.inr rfl) (fun h => by cases h)); have hz6 := (hg6.block Zb (Array.getElem?_eq_some_iff.1 (heap_un (o := (.cells #[vi r.txn, vi r.home, vi r.start, .slice am r.writes.length cm, .slice an r.reads.length cn] 58)) HAE.out)).1 HZN.out).trans (heap_un (o := (.cells #[vi r.txn, vi r.home, vi r.start, .slice am r.writes.length cm, .slice an r.reads.length cn] 58)) HAE.out); have z0' := cell_at hz6 (o := 0) rfl; have z1' := cell_at hz6 (o := 1) rfl; have z2' := cell_at hz6 (o := 2) rfl; have z3' := cell_at hz6 (o := 3) rfl; have z4' := cell_at hz6 (o := 4) rfl; clear ho6 hg6 hz6)
              | (refine wpList_append_src rfl (.tmp 212) (.tmp 214) 50 rfl eltR19 w.heap.size _ _ (HM6.out.alloc _).row rfl 1 (rdyL ⟨.slice b1 l1 e1, .slice b2 l2 e2, x⟩) (src_new (cs := #[vi x.txn, vi x.home, vi x.start, .slice b1 l1 e1, .slice b2 l2 e2]) rfl rfl) rfl rdyL_one HLB.out (by omega) (HM6.out.alloc _).size ?_; intro v5 w5 ho5 hg5 _; have HK5 := Lib.hid ((HM6.out.alloc (.cells #[vi x.txn, vi x.home, vi x.start, .slice b1 l1 e1, .slice b2 l2 e2] 58)).push hg5 ho5 true (.inl HXS.out) (fun h => by cases h)); clear ho5 hg5))
            refine Handed.intro (s.ws.length - (k + 1)) (by rw [HGM.out]; omega) (HJJ.out _ _ _ rfl ⟨rfl, rfl, rfl, rfl, rfl, rfl, k + 1, _, _, by omega, rfl, ?_, rfl, HK5.out, ?_⟩)
            · show Value.int .i64 _ = _
              go_num
            · rw [HF.out]; unfold insStep; simp [HQ.out]
      · have k1 : decide ((k : Int) < s.ws.length) = false := decide_eq_false (by omega)
        have hql : s.ws.take k = s.ws := List.take_of_length_le (by omega)
        rw [hql] at HL
        clear hB
        have HLA := Lib.hid (show L.length + 1 ≤ 68719476736 by omega)
        cases dn with
        | true =>
          have HF6 := HK
          have HLF := Lib.hid (show L.map (·.r) = insR s.ws r from by unfold insR insOf; rw [← HL.out]; rfl)
          obtain ⟨n6, hn6⟩ : ∃ n, n = L.length := ⟨_, rfl⟩
          rw [← hn6] at HF6 ⊢
          clear HK hn6 HLA hLl
          have HB6 := Lib.hid (HPB.out wr HF6.out.below)
          have hS := HB6.out.st
          have f3 : wr.frozen? ⟨X, 3, none⟩ = false := free_of hS 3
          have g3 : wr.cell? ⟨X, 3, none⟩ = some (.slice aw s.ws.length cw) := by rw [cell_of hS]; rfl
          have HbA := Lib.hid (show Below w0.heap.size w0 (wr.setCell ⟨X, 3, none⟩ (.slice ag n6 cg)) from (H0.out.trans (HF6.out.below.mono H0.out.size)).setCell hb0 _)
          have HsA := Lib.hid (show (wr.setCell ⟨X, 3, none⟩ (.slice ag n6 cg)).heap[X]? = some (.cells #[.bool s.serial, vi s.bugs, .slice av s.vs.length cv, .slice ag n6 cg, .slice ae s.es.length ce] 53) from by rw [rn_set (o := 3) (.slice ag n6 cg) hS]; simp [rsC])
          have HrA := Lib.hid (show (wr.setCell ⟨X, 3, none⟩ (.slice ag n6 cg)).heap[X2]? = _ from (Below.heap_setCell _ _ _ X2 (fun e => hn2 e.symm)).trans HB6.out.rs)
          have HoA := Lib.hid (own_set (b := X) (o := 3) (u := .slice ag n6 cg) HF6.out.row hXl)
          have HwA := Lib.hid (own_set (b := X) (o := 3) (u := .slice ag n6 cg) HF6.out.mw hXl)
          have HiA := Lib.hid (own_set (b := X) (o := 3) (u := .slice ag n6 cg) HF6.out.mi hXl)
          clear hS
          go_upto_region 63 with fail
          generalize wr.setCell ⟨X, 3, none⟩ (.slice ag n6 cg) = wa at *
          have hX := HsA.out
          have hX2 := HrA.out
          have q0 : ∀ j, wa.frozen? ⟨X2, j, none⟩ = false := fun j => free_of hX2 j
          have p0 : wa.cell? ⟨X2, 0, none⟩ = some (.bool false) := by rw [cell_of hX2]; rfl
          have p1 : wa.cell? ⟨X2, 1, none⟩ = some (vi 0) := by rw [cell_of hX2]; rfl
          have p2 : wa.cell? ⟨X2, 2, none⟩ = some (.slice none 0 0) := by rw [cell_of hX2]; rfl
          have p3 : wa.cell? ⟨X2, 3, none⟩ = some (.slice none 0 0) := by rw [cell_of hX2]; rfl
          have p4 : wa.cell? ⟨X2, 4, none⟩ = some (.slice none 0 0) := by rw [cell_of hX2]; rfl
          have x0 : wa.cell? ⟨X, 0, none⟩ = some (.bool s.serial) := by rw [cell_of hX]; rfl
          have x1 : wa.cell? ⟨X, 1, none⟩ = some (vi s.bugs) := by rw [cell_of hX]; rfl
          have x2 : wa.cell? ⟨X, 2, none⟩ = some (.slice av s.vs.length cv) := by rw [cell_of hX]; rfl
          have x3 : wa.cell? ⟨X, 3, none⟩ = some (.slice ag n6 cg) := by rw [cell_of hX]; rfl
          have x4 : wa.cell? ⟨X, 4, none⟩ = some (.slice ae s.es.length ce) := by rw [cell_of hX]; rfl
          have HS := Lib.hid (rn_set5 (.bool s.serial) (vi s.bugs) (.slice av s.vs.length cv) (.slice ag n6 cg) (.slice ae s.es.length ce) hX2)
          have HBF := Lib.hid ((HbA.out).trans (rn_below5 (W := wa) (.bool s.serial) (vi s.bugs) (.slice av s.vs.length cv) (.slice ag n6 cg) (.slice ae s.es.length ce) hb2))
          have HO := Lib.hid (own_set5b (v0 := .bool s.serial) (v1 := vi s.bugs) (v2 := .slice av s.vs.length cv) (v3 := .slice ag n6 cg) (v4 := .slice ae s.es.length ce) HoA.out hX2l)
          have HMw := Lib.hid (own_set5b (v0 := .bool s.serial) (v1 := vi s.bugs) (v2 := .slice av s.vs.length cv) (v3 := .slice ag n6 cg) (v4 := .slice ae s.es.length ce) HwA.out hX2l)
          have HMi := Lib.hid (own_set5b (v0 := .bool s.serial) (v1 := vi s.bugs) (v2 := .slice av s.vs.length cv) (v3 := .slice ag n6 cg) (v4 := .slice ae s.es.length ce) HiA.out hX2l)
          clear hX hX2
          go_wp2_with fail
          generalize (((((wa.setCell ⟨X2, 0, none⟩ (.bool s.serial)).setCell ⟨X2, 1, none⟩ (vi s.bugs)).setCell ⟨X2, 2, none⟩ (.slice av s.vs.length cv)).setCell ⟨X2, 3, none⟩ (.slice ag n6 cg)).setCell ⟨X2, 4, none⟩ (.slice ae s.es.length ce)) = wf at *
          have r0 : wf.cell? ⟨X2, 0, none⟩ = some (.bool s.serial) := by rw [cell_of HS.out]; rfl
          have r1 : wf.cell? ⟨X2, 1, none⟩ = some (vi s.bugs) := by rw [cell_of HS.out]; rfl
          have r2 : wf.cell? ⟨X2, 2, none⟩ = some (.slice av s.vs.length cv) := by rw [cell_of HS.out]; rfl
          have r3 : wf.cell? ⟨X2, 3, none⟩ = some (.slice ag n6 cg) := by rw [cell_of HS.out]; rfl
          have r4 : wf.cell? ⟨X2, 4, none⟩ = some (.slice ae s.es.length ce) := by rw [cell_of HS.out]; rfl
          refine bodyPost_ret (v := .tuple #[rsV ⟨.slice av s.vs.length cv, .slice ag n6 cg, .slice ae s.es.length ce, ⟨s.serial, s.bugs, s.vs, insR s.ws r, s.es⟩⟩, vi 0, vi 0]) (by simp [results, Try.results18, go_sem, r0, r1, r2, r3, r4, rsV, rsC]) rfl ?_
          have hfin : ∀ W' : World, (∀ j, (j < A.heap.size ∨ w0.heap.size ≤ j) → W'.heap[j]? = wf.heap[j]?) → RdSt W' ⟨.slice av s.vs.length cv, .slice ag n6 cg, .slice ae s.es.length ce, ⟨s.serial, s.bugs, s.vs, insR s.ws r, s.es⟩⟩ := fun W' hW' => by
            have hs1 : ∀ j, j < A.heap.size → W'.heap[j]? = A.heap[j]? := fun j hj => (hW' j (.inl hj)).trans ((HBF.out.block j (Nat.lt_of_lt_of_le hj HHA.out.size)).trans (HHA.out.block j hj))
            have hs2 : ∀ j, w0.heap.size ≤ j → W'.heap[j]? = wf.heap[j]? := fun j hj => hW' j (.inr hj)
            refine ⟨RdS.same HVA.out hs1 fun _ _ h => h, ?_, RdS.same HEA.out hs1 fun _ _ h => h⟩
            show RdRdy W' (.slice ag n6 cg) (insR s.ws r)
            rw [← HLF.out]
            refine rdr_of_own (own_same HO.out H0.out.size hs2) (fun y hy => ?_)
            rcases HF6.out.els y hy with h1 | rfl
            · exact RdyS.same h1 hs1
            · exact rdy_own (own_same HMw.out H0.out.size hs2) (own_same HMi.out H0.out.size hs2) HRI.out
          exact ⟨_, rfl, rfl, hfin wf (fun _ _ => rfl), HBF.out, hfin⟩
        | false =>
          obtain ⟨hbx, -⟩ := HK.out.box rfl
          have m0 : wr.cell? ⟨bC, 0, none⟩ = some (vi r.txn) := cell_at hbx rfl
          have m1 : wr.cell? ⟨bC, 1, none⟩ = some (vi r.home) := cell_at hbx rfl
          have m2 : wr.cell? ⟨bC, 2, none⟩ = some (vi r.start) := cell_at hbx rfl
          have m3 : wr.cell? ⟨bC, 3, none⟩ = some (.slice am r.writes.length cm) := cell_at hbx rfl
          have m4 : wr.cell? ⟨bC, 4, none⟩ = some (.slice an r.reads.length cn) := cell_at hbx rfl
          clear hbx
          go_upto_region 62 with (refine wpList_append_src rfl (.tmp 219) (.tmp 221) 50 rfl eltR19 w.heap.size L.length _ (HK.out.alloc _).row rfl 1 (rdyL ⟨.slice am r.writes.length cm, .slice an r.reads.length cn, r⟩) (src_new (cs := #[vi r.txn, vi r.home, vi r.start, .slice am r.writes.length cm, .slice an r.reads.length cn]) rfl rfl) rfl rdyL_one HLA.out (by omega) (HK.out.alloc _).size ?_; intro v6 w6 ho6 hg6 _; have HF6 := Lib.hid ((HK.out.alloc (.cells #[vi r.txn, vi r.home, vi r.start, .slice am r.writes.length cm, .slice an r.reads.length cn] 58)).push hg6 ho6 true (.inr rfl) (fun h => by cases h)); clear ho6 hg6)
          have HLF := Lib.hid (show (L ++ [(⟨.slice am r.writes.length cm, .slice an r.reads.length cn, r⟩ : RV)]).map (·.r) = insR s.ws r from by unfold insR insOf; rw [← HL.out, List.map_append]; rfl)
          obtain ⟨Lf, hLf⟩ : ∃ l, l = L ++ [(⟨.slice am r.writes.length cm, .slice an r.reads.length cn, r⟩ : RV)] := ⟨_, rfl⟩
          rw [← hLf] at HF6 HLF
          obtain ⟨a6, c6, h6⟩ := own_shape HF6.out.row
          subst h6
          clear hLf
          obtain ⟨n6, hn6⟩ : ∃ n, n = Lf.length := ⟨_, rfl⟩
          rw [← hn6] at HF6 ⊢
          clear HK hn6 HLA hLl
          have HB6 := Lib.hid (HPB.out w6 HF6.out.below)
          have hS := HB6.out.st
          have f3 : w6.frozen? ⟨X, 3, none⟩ = false := free_of hS 3
          have g3 : w6.cell? ⟨X, 3, none⟩ = some (.slice aw s.ws.length cw) := by rw [cell_of hS]; rfl
          have HbA := Lib.hid (show Below w0.heap.size w0 (w6.setCell ⟨X, 3, none⟩ (.slice a6 n6 c6)) from (H0.out.trans (HF6.out.below.mono H0.out.size)).setCell hb0 _)
          have HsA := Lib.hid (show (w6.setCell ⟨X, 3, none⟩ (.slice a6 n6 c6)).heap[X]? = some (.cells #[.bool s.serial, vi s.bugs, .slice av s.vs.length cv, .slice a6 n6 c6, .slice ae s.es.length ce] 53) from by rw [rn_set (o := 3) (.slice a6 n6 c6) hS]; simp [rsC])
          have HrA := Lib.hid (show (w6.setCell ⟨X, 3, none⟩ (.slice a6 n6 c6)).heap[X2]? = _ from (Below.heap_setCell _ _ _ X2 (fun e => hn2 e.symm)).trans HB6.out.rs)
          have HoA := Lib.hid (own_set (b := X) (o := 3) (u := .slice a6 n6 c6) HF6.out.row hXl)
          have HwA := Lib.hid (own_set (b := X) (o := 3) (u := .slice a6 n6 c6) HF6.out.mw hXl)
          have HiA := Lib.hid (own_set (b := X) (o := 3) (u := .slice a6 n6 c6) HF6.out.mi hXl)
          clear hS
          go_upto_region 63 with fail
          generalize w6.setCell ⟨X, 3, none⟩ (.slice a6 n6 c6) = wa at *
          have hX := HsA.out
          have hX2 := HrA.out
          have q0 : ∀ j, wa.frozen? ⟨X2, j, none⟩ = false := fun j => free_of hX2 j
          have p0 : wa.cell? ⟨X2, 0, none⟩ = some (.bool false) := by rw [cell_of hX2]; rfl
          have p1 : wa.cell? ⟨X2, 1, none⟩ = some (vi 0) := by rw [cell_of hX2]; rfl
          have p2 : wa.cell? ⟨X2, 2, none⟩ = some (.slice none 0 0) := by rw [cell_of hX2]; rfl
          have p3 : wa.cell? ⟨X2, 3, none⟩ = some (.slice none 0 0) := by rw [cell_of hX2]; rfl
          have p4 : wa.cell? ⟨X2, 4, none⟩ = some (.slice none 0 0) := by rw [cell_of hX2]; rfl
          have x0 : wa.cell? ⟨X, 0, none⟩ = some (.bool s.serial) := by rw [cell_of hX]; rfl
          have x1 : wa.cell? ⟨X, 1, none⟩ = some (vi s.bugs) := by rw [cell_of hX]; rfl
          have x2 : wa.cell? ⟨X, 2, none⟩ = some (.slice av s.vs.length cv) := by rw [cell_of hX]; rfl
          have x3 : wa.cell? ⟨X, 3, none⟩ = some (.slice a6 n6 c6) := by rw [cell_of hX]; rfl
          have x4 : wa.cell? ⟨X, 4, none⟩ = some (.slice ae s.es.length ce) := by rw [cell_of hX]; rfl
          have HS := Lib.hid (rn_set5 (.bool s.serial) (vi s.bugs) (.slice av s.vs.length cv) (.slice a6 n6 c6) (.slice ae s.es.length ce) hX2)
          have HBF := Lib.hid ((HbA.out).trans (rn_below5 (W := wa) (.bool s.serial) (vi s.bugs) (.slice av s.vs.length cv) (.slice a6 n6 c6) (.slice ae s.es.length ce) hb2))
          have HO := Lib.hid (own_set5b (v0 := .bool s.serial) (v1 := vi s.bugs) (v2 := .slice av s.vs.length cv) (v3 := .slice a6 n6 c6) (v4 := .slice ae s.es.length ce) HoA.out hX2l)
          have HMw := Lib.hid (own_set5b (v0 := .bool s.serial) (v1 := vi s.bugs) (v2 := .slice av s.vs.length cv) (v3 := .slice a6 n6 c6) (v4 := .slice ae s.es.length ce) HwA.out hX2l)
          have HMi := Lib.hid (own_set5b (v0 := .bool s.serial) (v1 := vi s.bugs) (v2 := .slice av s.vs.length cv) (v3 := .slice a6 n6 c6) (v4 := .slice ae s.es.length ce) HiA.out hX2l)
          clear hX hX2
          go_wp2_with fail
          generalize (((((wa.setCell ⟨X2, 0, none⟩ (.bool s.serial)).setCell ⟨X2, 1, none⟩ (vi s.bugs)).setCell ⟨X2, 2, none⟩ (.slice av s.vs.length cv)).setCell ⟨X2, 3, none⟩ (.slice a6 n6 c6)).setCell ⟨X2, 4, none⟩ (.slice ae s.es.length ce)) = wf at *
          have r0 : wf.cell? ⟨X2, 0, none⟩ = some (.bool s.serial) := by rw [cell_of HS.out]; rfl
          have r1 : wf.cell? ⟨X2, 1, none⟩ = some (vi s.bugs) := by rw [cell_of HS.out]; rfl
          have r2 : wf.cell? ⟨X2, 2, none⟩ = some (.slice av s.vs.length cv) := by rw [cell_of HS.out]; rfl
          have r3 : wf.cell? ⟨X2, 3, none⟩ = some (.slice a6 n6 c6) := by rw [cell_of HS.out]; rfl
          have r4 : wf.cell? ⟨X2, 4, none⟩ = some (.slice ae s.es.length ce) := by rw [cell_of HS.out]; rfl
          refine bodyPost_ret (v := .tuple #[rsV ⟨.slice av s.vs.length cv, .slice a6 n6 c6, .slice ae s.es.length ce, ⟨s.serial, s.bugs, s.vs, insR s.ws r, s.es⟩⟩, vi 0, vi 0]) (by simp [results, Try.results18, go_sem, r0, r1, r2, r3, r4, rsV, rsC]) rfl ?_
          have hfin : ∀ W' : World, (∀ j, (j < A.heap.size ∨ w0.heap.size ≤ j) → W'.heap[j]? = wf.heap[j]?) → RdSt W' ⟨.slice av s.vs.length cv, .slice a6 n6 c6, .slice ae s.es.length ce, ⟨s.serial, s.bugs, s.vs, insR s.ws r, s.es⟩⟩ := fun W' hW' => by
            have hs1 : ∀ j, j < A.heap.size → W'.heap[j]? = A.heap[j]? := fun j hj => (hW' j (.inl hj)).trans ((HBF.out.block j (Nat.lt_of_lt_of_le hj HHA.out.size)).trans (HHA.out.block j hj))
            have hs2 : ∀ j, w0.heap.size ≤ j → W'.heap[j]? = wf.heap[j]? := fun j hj => hW' j (.inr hj)
            refine ⟨RdS.same HVA.out hs1 fun _ _ h => h, ?_, RdS.same HEA.out hs1 fun _ _ h => h⟩
            show RdRdy W' (.slice a6 n6 c6) (insR s.ws r)
            rw [← HLF.out]
            refine rdr_of_own (own_same HO.out H0.out.size hs2) (fun y hy => ?_)
            rcases HF6.out.els y hy with h1 | rfl
            · exact RdyS.same h1 hs1
            · exact rdy_own (own_same HMw.out H0.out.size hs2) (own_same HMi.out H0.out.size hs2) HRI.out
          exact ⟨_, rfl, rfl, hfin wf (fun _ _ => rfl), HBF.out, hfin⟩
end Go.Proofs.Ytbadpfcjoobniaa
