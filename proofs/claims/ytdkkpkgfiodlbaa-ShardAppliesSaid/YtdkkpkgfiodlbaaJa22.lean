/- Texts of one proof, one behind the other: Rn21H, Rn21I, Rn21T. -/
import Derived.Test.YtdkkpkgfiodlbaaJa20
import Derived.Test.YtdkkpkgfiodlbaaJa19
import Derived.Test.YtdkkpkgfiodlbaaJa3
import Derived.Test.YtdkkpkgfiodlbaaJa21
set_option linter.all false
/- Layer 21's reference: Apply, reads. Printed by wip/gen/gen_ap21h.py. -/
namespace Go.Proofs.Ytdkkpkgfiodlbaa
open Go.RowKit Go.Maps
attribute [local go_sem] Oper.semAt_some

theorem getErr_app (s : RSt) (txn t : Int) : ∀ (l1 l2 : List Int), getErr s txn t l1 = none → getErr s txn t (l1 ++ l2) = getErr s txn t l2
  | [], _, _ => rfl
  | k :: l1, l2, h => by
    unfold getErr at h
    by_cases h0 : (rnReadV s txn k t).2.2 = 0
    · rw [if_pos h0] at h
      rw [List.cons_append]
      conv => lhs; unfold getErr
      rw [if_pos h0]
      exact getErr_app s txn t l1 l2 h
    · rw [if_neg h0] at h; cases h
theorem getErr_next {s : RSt} {txn t : Int} {l : List Int} {k : Nat} {x : Int} (h : l[k]? = some x) (hn : getErr s txn t (l.take k) = none) (h0 : (rnReadV s txn x t).2.2 = 0) : getErr s txn t (l.take (k + 1)) = none := by
  rw [take_at h, getErr_app _ _ _ _ _ hn]
  unfold getErr
  rw [if_pos h0]; rfl
theorem getErr_bad {s : RSt} {txn t : Int} {l : List Int} {k : Nat} {x : Int} (h : l[k]? = some x) (hn : getErr s txn t (l.take k) = none) (h0 : (rnReadV s txn x t).2.2 ≠ 0) : getErr s txn t l = some ((rnReadV s txn x t).2.1, (rnReadV s txn x t).2.2) := by
  have e : l = l.take k ++ x :: l.drop (k + 1) := by
    have := List.take_append_drop k l
    rw [List.drop_eq_getElem_cons (List.getElem?_eq_some_iff.1 h).1, (List.getElem?_eq_some_iff.1 h).2] at this
    exact this.symm
  rw [e, getErr_app _ _ _ _ _ hn]
  unfold getErr
  rw [if_neg h0]
theorem ap_ret4 {A w wz : World} {x : RSh} {q : ShM × Ans} {N : Nat} {v : Value} (hx : RdSh A x) (hA : ALe A w) (hbb : Below w.heap.size w wz) (hN : w.heap.size ≤ N)
    (ho : wz.ownsRow N 3 1 v q.2.vals.length (q.2.vals.flatMap viC)) (hm : x.m = q.1) :
    ApR A w q (.returned (.tuple #[shV x, ansV q.2 v])) wz := by
  refine ⟨_, _, rfl, hm, hbb, fun W' hs hW => ⟨?_, ?_⟩⟩
  · exact hx.le hs
  · exact own_rds (enc := viC) (E := fun _ cs x => cs = viC x) (fun _ => rfl) (own_same ho hN (fun j hj => hW j hj)) (fun _ _ => rfl)

set_option maxRecDepth 1000000 in
set_option maxHeartbeats 16000000 in
theorem apply2_call (A : World) (x : RSh) (r : Rdy) (en : EndM) (wv rv : Value) (w : World) (hxA : RdSh A x) (hA : ALe A w) (hr : RdInts w rv r.reads) (hbg : 0 ≤ x.m.s.bugs ∧ x.m.s.bugs ≤ 63) (hl : r.reads.length ≤ 1000) :
    Calls Try.prog 16 #[shV x, cmdV ⟨2, r, en⟩ wv rv] w (ApR A w (get21 x.m r)) := by
  obtain ⟨a1, c1, a2, c2, a3, c3, a4, c4, hxe, hmw, hmd⟩ := hxA.shapes
  have HXA := Lib.hid hxA
  have HHA := Lib.hid hA
  clear hxA hA
  have hsc : shC x = #[.bool x.m.s.serial, vi x.m.s.bugs, .slice a1 x.m.s.vs.length c1, .slice a2 x.m.s.ws.length c2, .slice a3 x.m.s.es.length c3, vi x.m.stamps, vi x.m.now, .slice a4 x.m.ds.length c4] := by rw [hxe]; rfl
  have HXE := Lib.hid hxe
  have HSC := Lib.hid hsc
  obtain ⟨ar, nr, cr, hrv, rfl, -, -⟩ := hr.at
  subst hrv
  have HRR := Lib.hid hr
  clear hr
  have HA := Lib.hid (ApB.start w x ⟨2, r, en⟩ wv (.slice ar r.reads.length cr))
  unfold shV
  unfold cmdV
  rw [hsc] at HA ⊢
  clear hxe hsc
  unfold cmdC at HA ⊢
  go_enter Try.func16, Try.ntmps16
  go_upto_region 1 with fail
  generalize ((((w.alloc (.cells #[.bool x.m.s.serial, vi x.m.s.bugs, .slice a1 x.m.s.vs.length c1, .slice a2 x.m.s.ws.length c2, .slice a3 x.m.s.es.length c3, vi x.m.stamps, vi x.m.now, .slice a4 x.m.ds.length c4] 54)).alloc (.cells #[vi 2, vi r.txn, vi r.home, vi r.start, wv, .slice ar r.reads.length cr, vi en.txn, .bool en.commit, vi en.at_] 63)).alloc (.cells #[.bool false, vi 0, .slice none 0 0, .slice none 0 0, .slice none 0 0, vi 0, vi 0, .slice none 0 0] 54)).alloc (.cells #[vi 0, .slice none 0 0, vi 0, vi 0, vi 0, vi 0, .bool false, vi 0] 58)) = w4 at *
  have HS0 := HA.out.st
  rw [HSC.out] at HS0
  have HC0 := HA.out.cmd
  unfold cmdC at HC0
  obtain ⟨X, hX⟩ : ∃ X, X = w.heap.size := ⟨_, rfl⟩
  have HRS := HA.out.rs
  have HRA := HA.out.ra
  rw [← hX] at HS0 HC0 HRS HRA ⊢
  have hS0 := Lib.hid HS0
  have hC0 := Lib.hid HC0
  have hRS := Lib.hid HRS
  have hRA := Lib.hid HRA
  have HXX := Lib.hid hX
  clear hX HS0 HC0 HRS HRA
  have x0 : w4.cell? ⟨X, 0, none⟩ = some (.bool x.m.s.serial) := (by rw [cell_of hS0.out]; rfl)
  have x1 : w4.cell? ⟨X, 1, none⟩ = some (vi x.m.s.bugs) := (by rw [cell_of hS0.out]; rfl)
  have x2 : w4.cell? ⟨X, 2, none⟩ = some (.slice a1 x.m.s.vs.length c1) := (by rw [cell_of hS0.out]; rfl)
  have x3 : w4.cell? ⟨X, 3, none⟩ = some (.slice a2 x.m.s.ws.length c2) := (by rw [cell_of hS0.out]; rfl)
  have x4 : w4.cell? ⟨X, 4, none⟩ = some (.slice a3 x.m.s.es.length c3) := (by rw [cell_of hS0.out]; rfl)
  have x5 : w4.cell? ⟨X, 5, none⟩ = some (vi x.m.stamps) := (by rw [cell_of hS0.out]; rfl)
  have x6 : w4.cell? ⟨X, 6, none⟩ = some (vi x.m.now) := (by rw [cell_of hS0.out]; rfl)
  have x7 : w4.cell? ⟨X, 7, none⟩ = some (.slice a4 x.m.ds.length c4) := (by rw [cell_of hS0.out]; rfl)
  have m0 : w4.cell? ⟨X + 1, 0, none⟩ = some (vi 2) := (by rw [cell_of hC0.out]; rfl)
  have m1 : w4.cell? ⟨X + 1, 1, none⟩ = some (vi r.txn) := (by rw [cell_of hC0.out]; rfl)
  have m3 : w4.cell? ⟨X + 1, 3, none⟩ = some (vi r.start) := (by rw [cell_of hC0.out]; rfl)
  have m5 : w4.cell? ⟨X + 1, 5, none⟩ = some (.slice ar r.reads.length cr) := (by rw [cell_of hC0.out]; rfl)
  have HST := Lib.hid (st_of HXA.out HXE.out)
  have HBA := Lib.hid (HHA.out.trans (HA.out.below.mono HHA.out.size))
  have h4s : w.heap.size + 4 ≤ w4.heap.size := by have := (Array.getElem?_eq_some_iff.1 HA.out.ra).1; omega
  have H4S := Lib.hid h4s
  have HBW := Lib.hid HA.out.below
  have HBX := Lib.hid (show ∀ W, Below w4.heap.size w4 W → W.heap[X]? = some (.cells #[.bool x.m.s.serial, vi x.m.s.bugs, .slice a1 x.m.s.vs.length c1, .slice a2 x.m.s.ws.length c2, .slice a3 x.m.s.es.length c3, vi x.m.stamps, vi x.m.now, .slice a4 x.m.ds.length c4] 54) ∧ W.heap[X + 1]? = some (.cells #[vi 2, vi r.txn, vi r.home, vi r.start, wv, .slice ar r.reads.length cr, vi en.txn, .bool en.commit, vi en.at_] 63) ∧ W.heap[X + 1 + 1]? = some (.cells #[.bool false, vi 0, .slice none 0 0, .slice none 0 0, .slice none 0 0, vi 0, vi 0, .slice none 0 0] 54) ∧ W.heap[X + 1 + 1 + 1]? = some (.cells #[vi 0, .slice none 0 0, vi 0, vi 0, vi 0, vi 0, .bool false, vi 0] 58) from fun W hW => by
    have h := HA.out.later hW
    have h1 := h.st
    have h2 := h.cmd
    have h3 := h.rs
    have h4 := h.ra
    rw [HSC.out] at h1
    unfold cmdC at h2
    rw [← HXX.out] at h1 h2 h3 h4
    exact ⟨h1, h2, h3, h4⟩)
  clear h4s hRS hRA HA hS0 hC0
  have ho1 := World.ownsRow_lit (base := w4.heap.size) (e := 3) (size := 1) w4 #[] 0 (Nat.le_refl _) (by simp [maxLen]) rfl
  have hb1 := (Below.refl w4.heap.size w4).alloc (Nat.le_refl _) (.cells #[] 3)
  have HO1 := Lib.hid ho1
  have HB1 := Lib.hid hb1
  clear ho1 hb1
  have m5' := later_alloc m5
  go_wp2_with fail
  clear m5' x0 x1 x2 x3 x4 x5 x6 x7 m0 m1 m3 m5
  generalize w4.alloc (.cells #[] 3) = w5 at *
  generalize Value.slice (some ⟨w4.heap.size, 0, none⟩) 0 0 = v5 at *
  go_loopw [6, 45] (fun vk i wr => ∃ k : Nat, k ≤ r.reads.length ∧ i = vi k ∧ Hid (Below w4.heap.size w4 wr) ∧ Hid (wr.ownsRow w4.heap.size 3 1 vk ((r.reads.take k).map (fun key => (rnReadV x.m.s r.txn key r.start).1)).length (((r.reads.take k).map (fun key => (rnReadV x.m.s r.txn key r.start).1)).flatMap viC)) ∧ Hid (getErr x.m.s r.txn r.start (r.reads.take k) = none)) (fun _ i _ => r.reads.length - (intOf i).toNat)
  case atStart => exact ⟨0, Nat.zero_le _, rfl, HB1, HO1, Lib.hid rfl⟩
  case round =>
    obtain ⟨wj, rfl⟩ : ∃ wj : World, wj = wr := ⟨_, rfl⟩
    obtain ⟨k, hk, rfl, HJ, HR, HN⟩ := hrel
    clear HO1 HB1
    have hsz := HJ.out.size
    by_cases hlt : k < r.reads.length
    · have k1 : decide ((k : Int) < r.reads.length) = true := decide_eq_true (by omega)
      have k2 : (k : Int) < r.reads.length := by omega
      have hwk : IntKind.i64.wrap ((k : Int) + 1) = (k : Int) + 1 := IntWalk.i64_in _ (by omega)
      obtain ⟨key, hkey⟩ := some_at hlt
      obtain ⟨g, off, ha, c0, -⟩ := (HRR.out.later (HBW.out.trans (HJ.out.mono HBW.out.size))).el hkey
      subst ha
      have HKEY := Lib.hid hkey
      clear hkey
      obtain ⟨v, hv⟩ : ∃ v, v = (rnReadV x.m.s r.txn key r.start).1 := ⟨_, rfl⟩
      obtain ⟨by_, hby⟩ : ∃ v, v = (rnReadV x.m.s r.txn key r.start).2.1 := ⟨_, rfl⟩
      obtain ⟨err, herr⟩ : ∃ v, v = (rnReadV x.m.s r.txn key r.start).2.2 := ⟨_, rfl⟩
      have c7 : Calls Try.prog 37 #[.agg #[.bool x.m.s.serial, vi x.m.s.bugs, .slice a1 x.m.s.vs.length c1, .slice a2 x.m.s.ws.length c2, .slice a3 x.m.s.es.length c3], vi r.txn, vi key, vi r.start] wj (fun e w' => e = .returned (.tuple #[vi v, vi by_, vi err]) ∧ Hid (Below wj.heap.size wj w')) := by
        have h := rnRead_call ⟨.slice a1 x.m.s.vs.length c1, .slice a2 x.m.s.ws.length c2, .slice a3 x.m.s.es.length c3, x.m.s⟩ r.txn key r.start wj (HST.out.ale (HBA.out.trans (HJ.out.mono HBA.out.size))) hbg
        refine h.mono ?_
        rintro e w' ⟨rfl, h2⟩
        exact ⟨by rw [hv, hby, herr], Lib.hid h2⟩
      have HC7 := Lib.hid c7
      have HV := Lib.hid hv
      have HBY := Lib.hid hby
      have HER := Lib.hid herr
      clear c7 hv hby herr
      have hCX := HBX.out wj HJ.out
      have HCX := Lib.hid hCX
      clear hCX
      have x0 : wj.cell? ⟨X, 0, none⟩ = some (.bool x.m.s.serial) := (by rw [cell_of HCX.out.1]; rfl)
      have x1 : wj.cell? ⟨X, 1, none⟩ = some (vi x.m.s.bugs) := (by rw [cell_of HCX.out.1]; rfl)
      have x2 : wj.cell? ⟨X, 2, none⟩ = some (.slice a1 x.m.s.vs.length c1) := (by rw [cell_of HCX.out.1]; rfl)
      have x3 : wj.cell? ⟨X, 3, none⟩ = some (.slice a2 x.m.s.ws.length c2) := (by rw [cell_of HCX.out.1]; rfl)
      have x4 : wj.cell? ⟨X, 4, none⟩ = some (.slice a3 x.m.s.es.length c3) := (by rw [cell_of HCX.out.1]; rfl)
      have m1 : wj.cell? ⟨X + 1, 1, none⟩ = some (vi r.txn) := (by rw [cell_of HCX.out.2.1]; rfl)
      have m3 : wj.cell? ⟨X + 1, 3, none⟩ = some (vi r.start) := (by rw [cell_of HCX.out.2.1]; rfl)
      go_upto_region 13 with (go_at_call 37; refine HC7.out.mono ?_; rintro e7 w7 ⟨rfl, HB7⟩)
      by_cases he : err = 0
      · subst he
        have HRA := Lib.hid (own_below HR.out (HB7.out.alloc HB7.out.size (.cells #[vi v] 3)))
        have HJ7 := Lib.hid (HJ.out.trans (HB7.out.mono hsz))
        have HJA := Lib.hid (HJ7.out.alloc HJ7.out.size (.cells #[vi v] 3))
        have hsn : Src (w7.alloc (.cells #[vi v] 3)) (.slice (some ⟨w7.heap.size, 0, none⟩) 1 1) 1 1 (viC v) := src_new (cs := #[vi v]) rfl rfl
        have HSN := Lib.hid hsn
        have hml : ((r.reads.take k).map (fun key => (rnReadV x.m.s r.txn key r.start).1)).length ≤ 1000 := by rw [List.length_map, List.length_take]; omega
        clear hsn x0 x1 x2 x3 x4 m1 m3
        obtain ⟨ak, ck, rfl⟩ := own_shape HR.out
        go_wp2_with (refine wpList_append_src rfl (.tmp 72) (.tmp 74) 27 rfl eltI w4.heap.size _ _ HRA.out rfl 1 (viC v) HSN.out rfl (viC_one v) (by omega) (by omega) HJA.out.size ?_; intro v9 w9 ho9 hg9 _; have HO9 := Lib.hid ho9; have HB9 := Lib.hid (HJA.out.grown hg9 HJA.out.size (fun k hk => (HRA.out.lt k hk).1)))
        refine ⟨⟨k + 1, by omega, by go_num, HB9, Lib.hid ?_, Lib.hid (getErr_next HKEY.out HN.out HER.out.symm)⟩, by simp only [intOf]; omega⟩
        rw [take_at HKEY.out, List.map_append, List.map_singleton, ← HV.out]
        simpa using HO9.out
      · have he1 : (err == 0) = false := by simpa using he
        have HE := Lib.hid he
        obtain ⟨hm, hhm⟩ : ∃ h, h = homeM x.m.s.ws by_ := ⟨_, rfl⟩
        have HHM := Lib.hid hhm
        have HCH := Lib.hid (show ∀ W, ALe A W → Calls Try.prog 38 #[.agg #[.bool x.m.s.serial, vi x.m.s.bugs, .slice a1 x.m.s.vs.length c1, .slice a2 x.m.s.ws.length c2, .slice a3 x.m.s.es.length c3, vi x.m.stamps, vi x.m.now, .slice a4 x.m.ds.length c4], vi by_] W (fun e w' => e = .returned (vi hm) ∧ Hid (Below W.heap.size W w')) from fun W hW => by
          have h := home21_call x by_ W (HXA.out.ale hW)
          unfold shV at h
          rw [HSC.out, ← hhm] at h
          exact h.mono fun e w' h => ⟨h.1, Lib.hid h.2⟩)
        have HJ7 := Lib.hid (HJ.out.trans (HB7.out.mono hsz))
        have hCX := HBX.out w7 HJ7.out
        have HX7 := Lib.hid hCX
        clear hhm hCX x0 x1 x2 x3 x4 m1 m3
        go_upto_region 14 with fail
        have hw7 : Below w.heap.size w w7 := HBW.out.trans (HJ7.out.mono HBW.out.size)
        have HW7 := Lib.hid hw7
        have HA7 := Lib.hid (HHA.out.trans (hw7.mono HHA.out.size))
        have hXw : X < w7.heap.size := (Array.getElem?_eq_some_iff.1 HX7.out.1).1
        clear hw7
        have HX := HX7.out.1
        have HZ := HX7.out.2.2.1
        have HZA := HX7.out.2.2.2
        refine wp_cutF 152 (fun q wx => q 4 = .pointer (some ⟨X + 1 + 1, 0, none⟩) ∧ q 5 = .pointer (some ⟨X + 1 + 1 + 1, 0, none⟩) ∧ (wx.heap[X + 1 + 1]? = some (.cells #[.bool x.m.s.serial, vi x.m.s.bugs, .slice a1 x.m.s.vs.length c1, .slice a2 x.m.s.ws.length c2, .slice a3 x.m.s.es.length c3, vi x.m.stamps, vi x.m.now, .slice a4 x.m.ds.length c4] 54) ∧ wx.heap[X + 1 + 1 + 1]? = some (.cells #[vi err, .slice none 0 0, vi 0, vi by_, vi hm, vi 0, .bool false, vi 0] 58) ∧ (∀ j, j < w7.heap.size → j ≠ X + 1 + 1 → j ≠ X + 1 + 1 + 1 → wx.heap[j]? = w7.heap[j]?) ∧ Below X w7 wx)) ?rest14 ?first14
        case first14 =>
          intro J1 K1 h1 h2
          refine wp_onlyN (K := K1) ?_ (fun _ _ h => h)
          refine wp_fr 152 _ rfl ?_
          show Code.wp Try.prog cAp14 _ _ _
          refine reg14 (A := A) (x := x) w7 _ K1 ⟨by show w7.cell? _ = _; rw [cell_of HX]; rfl, by show w7.cell? _ = _; rw [cell_of HX]; rfl, by show w7.cell? _ = _; rw [cell_of HX]; rfl, by show w7.cell? _ = _; rw [cell_of HX]; rfl, by show w7.cell? _ = _; rw [cell_of HX]; rfl, by show w7.cell? _ = _; rw [cell_of HX]; rfl, by show w7.cell? _ = _; rw [cell_of HX]; rfl, by show w7.cell? _ = _; rw [cell_of HX]; rfl⟩ ⟨by show w7.cell? _ = _; rw [cell_of HZ]; rfl, by show w7.cell? _ = _; rw [cell_of HZ]; rfl, by show w7.cell? _ = _; rw [cell_of HZ]; rfl, by show w7.cell? _ = _; rw [cell_of HZ]; rfl, by show w7.cell? _ = _; rw [cell_of HZ]; rfl, by show w7.cell? _ = _; rw [cell_of HZ]; rfl, by show w7.cell? _ = _; rw [cell_of HZ]; rfl, by show w7.cell? _ = _; rw [cell_of HZ]; rfl⟩ ⟨by show w7.cell? _ = _; rw [cell_of HZA]; rfl, by show w7.cell? _ = _; rw [cell_of HZA]; rfl, by show w7.cell? _ = _; rw [cell_of HZA]; rfl, by show w7.cell? _ = _; rw [cell_of HZA]; rfl, by show w7.cell? _ = _; rw [cell_of HZA]; rfl, by show w7.cell? _ = _; rw [cell_of HZA]; rfl, by show w7.cell? _ = _; rw [cell_of HZA]; rfl, by show w7.cell? _ = _; rw [cell_of HZA]; rfl⟩ (fun j => free_of HZ j) (fun j => free_of HZA j) HA7.out (by have := HXX.out; have := HHA.out.size; omega) hXw HZ HZA HCH.out rfl rfl rfl rfl rfl ?_
          intro l wx hll hc hf
          exact h2 _ _ (Met.intro (h1 l _ hll ⟨hc.1, hc.2, hf⟩))
        case rest14 =>
          rintro q wz ⟨q4, q5, hS, hAn, hoth, hbz⟩
          rw [fr152, q4, q5]
          go_step
          have r0 : wz.cell? ⟨X + 1 + 1, 0, none⟩ = some (.bool x.m.s.serial) := (by rw [cell_of hS]; rfl)
          have r1 : wz.cell? ⟨X + 1 + 1, 1, none⟩ = some (vi x.m.s.bugs) := (by rw [cell_of hS]; rfl)
          have r2 : wz.cell? ⟨X + 1 + 1, 2, none⟩ = some (.slice a1 x.m.s.vs.length c1) := (by rw [cell_of hS]; rfl)
          have r3 : wz.cell? ⟨X + 1 + 1, 3, none⟩ = some (.slice a2 x.m.s.ws.length c2) := (by rw [cell_of hS]; rfl)
          have r4 : wz.cell? ⟨X + 1 + 1, 4, none⟩ = some (.slice a3 x.m.s.es.length c3) := (by rw [cell_of hS]; rfl)
          have r5 : wz.cell? ⟨X + 1 + 1, 5, none⟩ = some (vi x.m.stamps) := (by rw [cell_of hS]; rfl)
          have r6 : wz.cell? ⟨X + 1 + 1, 6, none⟩ = some (vi x.m.now) := (by rw [cell_of hS]; rfl)
          have r7 : wz.cell? ⟨X + 1 + 1, 7, none⟩ = some (.slice a4 x.m.ds.length c4) := (by rw [cell_of hS]; rfl)
          have s0 : wz.cell? ⟨X + 1 + 1 + 1, 0, none⟩ = some (vi err) := (by rw [cell_of hAn]; rfl)
          have s1 : wz.cell? ⟨X + 1 + 1 + 1, 1, none⟩ = some (.slice none 0 0) := (by rw [cell_of hAn]; rfl)
          have s2 : wz.cell? ⟨X + 1 + 1 + 1, 2, none⟩ = some (vi 0) := (by rw [cell_of hAn]; rfl)
          have s3 : wz.cell? ⟨X + 1 + 1 + 1, 3, none⟩ = some (vi by_) := (by rw [cell_of hAn]; rfl)
          have s4 : wz.cell? ⟨X + 1 + 1 + 1, 4, none⟩ = some (vi hm) := (by rw [cell_of hAn]; rfl)
          have s5 : wz.cell? ⟨X + 1 + 1 + 1, 5, none⟩ = some (vi 0) := (by rw [cell_of hAn]; rfl)
          have s6 : wz.cell? ⟨X + 1 + 1 + 1, 6, none⟩ = some (.bool false) := (by rw [cell_of hAn]; rfl)
          have s7 : wz.cell? ⟨X + 1 + 1 + 1, 7, none⟩ = some (vi 0) := (by rw [cell_of hAn]; rfl)
          go_wp2_with fail
          refine bodyPost_ret (v := .tuple #[.agg #[.bool x.m.s.serial, vi x.m.s.bugs, .slice a1 x.m.s.vs.length c1, .slice a2 x.m.s.ws.length c2, .slice a3 x.m.s.es.length c3, vi x.m.stamps, vi x.m.now, .slice a4 x.m.ds.length c4], .agg #[vi err, .slice none 0 0, vi 0, vi by_, vi hm, vi 0, .bool false, vi 0]]) (by simp [results, Try.results16, go_sem, q4, q5, r0, r1, r2, r3, r4, r5, r6, r7, s0, s1, s2, s3, s4, s5, s6, s7]) rfl ?_
          have hq : get21 x.m r = (x.m, ⟨err, [], 0, by_, hm, zeroE'⟩) := by
            unfold get21
            rw [getErr_bad HKEY.out HN.out (by rw [← HER.out]; exact HE.out), ← HBY.out, ← HER.out, HHM.out]
          rw [hq]
          have hbz2 : Below w.heap.size w7 wz := by rw [← HXX.out]; exact hbz
          have := ap_ret1 (y := x) (q := (x.m, ⟨err, [], 0, by_, hm, zeroE'⟩)) HXA.out HHA.out HW7.out hbz2 ⟨rfl, rfl, rfl, rfl, rfl, rfl⟩ rfl rfl
          unfold shV at this
          rw [HSC.out] at this
          exact this
    · have k1 : decide ((k : Int) < r.reads.length) = false := decide_eq_false (by omega)
      obtain rfl : k = r.reads.length := by omega
      have hto : r.reads.take r.reads.length = r.reads := List.take_of_length_le (Nat.le_refl _)
      obtain ⟨L, hL⟩ : ∃ L, L = r.reads.map (fun key => (rnReadV x.m.s r.txn key r.start).1) := ⟨_, rfl⟩
      rw [hto] at HR HN
      rw [← hL] at HR
      have HL := Lib.hid hL
      clear hL
      obtain ⟨ak, ck, rfl⟩ := own_shape HR.out
      have hX7 := HBX.out wj HJ.out
      have HX7 := Lib.hid hX7
      clear hX7
      have hRS := Lib.hid HX7.out.2.2.1
      have hRA := Lib.hid HX7.out.2.2.2
      have x0 : wj.cell? ⟨X, 0, none⟩ = some (.bool x.m.s.serial) := (by rw [cell_of HX7.out.1]; rfl)
      have x1 : wj.cell? ⟨X, 1, none⟩ = some (vi x.m.s.bugs) := (by rw [cell_of HX7.out.1]; rfl)
      have x2 : wj.cell? ⟨X, 2, none⟩ = some (.slice a1 x.m.s.vs.length c1) := (by rw [cell_of HX7.out.1]; rfl)
      have x3 : wj.cell? ⟨X, 3, none⟩ = some (.slice a2 x.m.s.ws.length c2) := (by rw [cell_of HX7.out.1]; rfl)
      have x4 : wj.cell? ⟨X, 4, none⟩ = some (.slice a3 x.m.s.es.length c3) := (by rw [cell_of HX7.out.1]; rfl)
      have x5 : wj.cell? ⟨X, 5, none⟩ = some (vi x.m.stamps) := (by rw [cell_of HX7.out.1]; rfl)
      have x6 : wj.cell? ⟨X, 6, none⟩ = some (vi x.m.now) := (by rw [cell_of HX7.out.1]; rfl)
      have x7 : wj.cell? ⟨X, 7, none⟩ = some (.slice a4 x.m.ds.length c4) := (by rw [cell_of HX7.out.1]; rfl)
      have HT := Lib.hid (two_st (W := wj) (b := X + 1 + 1) (N := w.heap.size) (.bool x.m.s.serial) (vi x.m.s.bugs) (.slice a1 x.m.s.vs.length c1) (.slice a2 x.m.s.ws.length c2) (.slice a3 x.m.s.es.length c3) (vi x.m.stamps) (vi x.m.now) (.slice a4 x.m.ds.length c4) (vi 0) (.slice ak L.length ck) (vi 0) (vi 0) (vi 0) (vi 0) (.bool false) (vi 0) hRS.out hRA.out (by have := HXX.out; omega))
      have q0 : wj.cell? ⟨X + 1 + 1, 0, none⟩ = some (.bool false) := (by rw [cell_of hRS.out]; rfl)
      have q1 : wj.cell? ⟨X + 1 + 1, 1, none⟩ = some (vi 0) := (by rw [cell_of hRS.out]; rfl)
      have q2 : wj.cell? ⟨X + 1 + 1, 2, none⟩ = some (.slice none 0 0) := (by rw [cell_of hRS.out]; rfl)
      have q3 : wj.cell? ⟨X + 1 + 1, 3, none⟩ = some (.slice none 0 0) := (by rw [cell_of hRS.out]; rfl)
      have q4 : wj.cell? ⟨X + 1 + 1, 4, none⟩ = some (.slice none 0 0) := (by rw [cell_of hRS.out]; rfl)
      have q5 : wj.cell? ⟨X + 1 + 1, 5, none⟩ = some (vi 0) := (by rw [cell_of hRS.out]; rfl)
      have q6 : wj.cell? ⟨X + 1 + 1, 6, none⟩ = some (vi 0) := (by rw [cell_of hRS.out]; rfl)
      have q7 : wj.cell? ⟨X + 1 + 1, 7, none⟩ = some (.slice none 0 0) := (by rw [cell_of hRS.out]; rfl)
      have z0 : wj.cell? ⟨X + 1 + 1 + 1, 0, none⟩ = some (vi 0) := (by rw [cell_of hRA.out]; rfl)
      have z1 : wj.cell? ⟨X + 1 + 1 + 1, 1, none⟩ = some (.slice none 0 0) := (by rw [cell_of hRA.out]; rfl)
      have z2 : wj.cell? ⟨X + 1 + 1 + 1, 2, none⟩ = some (vi 0) := (by rw [cell_of hRA.out]; rfl)
      have z3 : wj.cell? ⟨X + 1 + 1 + 1, 3, none⟩ = some (vi 0) := (by rw [cell_of hRA.out]; rfl)
      have z4 : wj.cell? ⟨X + 1 + 1 + 1, 4, none⟩ = some (vi 0) := (by rw [cell_of hRA.out]; rfl)
      have z5 : wj.cell? ⟨X + 1 + 1 + 1, 5, none⟩ = some (vi 0) := (by rw [cell_of hRA.out]; rfl)
      have z6 : wj.cell? ⟨X + 1 + 1 + 1, 6, none⟩ = some (.bool false) := (by rw [cell_of hRA.out]; rfl)
      have z7 : wj.cell? ⟨X + 1 + 1 + 1, 7, none⟩ = some (vi 0) := (by rw [cell_of hRA.out]; rfl)
      have qf : ∀ j, wj.frozen? ⟨X + 1 + 1, j, none⟩ = false := fun j => free_of hRS.out j
      have zf : ∀ j, wj.frozen? ⟨X + 1 + 1 + 1, j, none⟩ = false := fun j => free_of hRA.out j
      go_wp2_with fail
      generalize ((((((((((((((((wj.setCell ⟨X + 1 + 1, 0, none⟩ (.bool x.m.s.serial)).setCell ⟨X + 1 + 1, 1, none⟩ (vi x.m.s.bugs)).setCell ⟨X + 1 + 1, 2, none⟩ (.slice a1 x.m.s.vs.length c1)).setCell ⟨X + 1 + 1, 3, none⟩ (.slice a2 x.m.s.ws.length c2)).setCell ⟨X + 1 + 1, 4, none⟩ (.slice a3 x.m.s.es.length c3)).setCell ⟨X + 1 + 1, 5, none⟩ (vi x.m.stamps)).setCell ⟨X + 1 + 1, 6, none⟩ (vi x.m.now)).setCell ⟨X + 1 + 1, 7, none⟩ (.slice a4 x.m.ds.length c4)).setCell ⟨X + 1 + 1 + 1, 0, none⟩ (vi 0)).setCell ⟨X + 1 + 1 + 1, 1, none⟩ (.slice ak L.length ck)).setCell ⟨X + 1 + 1 + 1, 2, none⟩ (vi 0)).setCell ⟨X + 1 + 1 + 1, 3, none⟩ (vi 0)).setCell ⟨X + 1 + 1 + 1, 4, none⟩ (vi 0)).setCell ⟨X + 1 + 1 + 1, 5, none⟩ (vi 0)).setCell ⟨X + 1 + 1 + 1, 6, none⟩ (.bool false)).setCell ⟨X + 1 + 1 + 1, 7, none⟩ (vi 0)) = wz at *
      have r0 : wz.cell? ⟨X + 1 + 1, 0, none⟩ = some (.bool x.m.s.serial) := (by rw [cell_of HT.out.1]; rfl)
      have r1 : wz.cell? ⟨X + 1 + 1, 1, none⟩ = some (vi x.m.s.bugs) := (by rw [cell_of HT.out.1]; rfl)
      have r2 : wz.cell? ⟨X + 1 + 1, 2, none⟩ = some (.slice a1 x.m.s.vs.length c1) := (by rw [cell_of HT.out.1]; rfl)
      have r3 : wz.cell? ⟨X + 1 + 1, 3, none⟩ = some (.slice a2 x.m.s.ws.length c2) := (by rw [cell_of HT.out.1]; rfl)
      have r4 : wz.cell? ⟨X + 1 + 1, 4, none⟩ = some (.slice a3 x.m.s.es.length c3) := (by rw [cell_of HT.out.1]; rfl)
      have r5 : wz.cell? ⟨X + 1 + 1, 5, none⟩ = some (vi x.m.stamps) := (by rw [cell_of HT.out.1]; rfl)
      have r6 : wz.cell? ⟨X + 1 + 1, 6, none⟩ = some (vi x.m.now) := (by rw [cell_of HT.out.1]; rfl)
      have r7 : wz.cell? ⟨X + 1 + 1, 7, none⟩ = some (.slice a4 x.m.ds.length c4) := (by rw [cell_of HT.out.1]; rfl)
      have s0 : wz.cell? ⟨X + 1 + 1 + 1, 0, none⟩ = some (vi 0) := (by rw [cell_of HT.out.2.1]; rfl)
      have s1 : wz.cell? ⟨X + 1 + 1 + 1, 1, none⟩ = some (.slice ak L.length ck) := (by rw [cell_of HT.out.2.1]; rfl)
      have s2 : wz.cell? ⟨X + 1 + 1 + 1, 2, none⟩ = some (vi 0) := (by rw [cell_of HT.out.2.1]; rfl)
      have s3 : wz.cell? ⟨X + 1 + 1 + 1, 3, none⟩ = some (vi 0) := (by rw [cell_of HT.out.2.1]; rfl)
      have s4 : wz.cell? ⟨X + 1 + 1 + 1, 4, none⟩ = some (vi 0) := (by rw [cell_of HT.out.2.1]; rfl)
      have s5 : wz.cell? ⟨X + 1 + 1 + 1, 5, none⟩ = some (vi 0) := (by rw [cell_of HT.out.2.1]; rfl)
      have s6 : wz.cell? ⟨X + 1 + 1 + 1, 6, none⟩ = some (.bool false) := (by rw [cell_of HT.out.2.1]; rfl)
      have s7 : wz.cell? ⟨X + 1 + 1 + 1, 7, none⟩ = some (vi 0) := (by rw [cell_of HT.out.2.1]; rfl)
      refine bodyPost_ret (v := .tuple #[.agg #[.bool x.m.s.serial, vi x.m.s.bugs, .slice a1 x.m.s.vs.length c1, .slice a2 x.m.s.ws.length c2, .slice a3 x.m.s.es.length c3, vi x.m.stamps, vi x.m.now, .slice a4 x.m.ds.length c4], .agg #[vi 0, .slice ak L.length ck, vi 0, vi 0, vi 0, vi 0, .bool false, vi 0]]) (by simp [results, Try.results16, go_sem, r0, r1, r2, r3, r4, r5, r6, r7, s0, s1, s2, s3, s4, s5, s6, s7]) rfl ?_
      have hq : get21 x.m r = (x.m, ⟨0, L, 0, 0, 0, zeroE'⟩) := by
        unfold get21
        rw [HN.out, HL.out]
      rw [hq]
      have hX := HXX.out
      have h4 := H4S.out
      have hb7 : Below w.heap.size w wj := HBW.out.trans (HJ.out.mono HBW.out.size)
      have hrow := own_same (N := w4.heap.size) (B := wz) HR.out (Nat.le_refl _) (fun j hj => HT.out.2.2.1 j (by omega) (by omega))
      have := ap_ret4 (x := x) (q := (x.m, ⟨0, L, 0, 0, 0, zeroE'⟩)) HXA.out HHA.out (hb7.trans HT.out.2.2.2) HBW.out.size hrow rfl
      unfold shV at this
      rw [HSC.out] at this
      exact this
end Go.Proofs.Ytdkkpkgfiodlbaa

/- Layer 21's reference: Apply, at every kind of command. -/
namespace Go.Proofs.Ytdkkpkgfiodlbaa
open Go.RowKit Go.Maps
/-- The bounds under which Apply is walked. -/
structure ApBd (m : ShM) : Prop where
  now : 0 ≤ m.now ∧ m.now ≤ 1000000
  bugs : 0 ≤ m.s.bugs ∧ m.s.bugs ≤ 63
  vs : m.s.vs.length ≤ 1000000
  ws : m.s.ws.length ≤ 1000
  es : m.s.es.length ≤ 1000000
  wr : ∀ q ∈ m.s.ws, q.writes.length ≤ 1000
  ds : m.ds.length ≤ 100000
theorem apply21_call (A : World) (x : RSh) (c : Cmd21) (wv rv : Value) (w : World) (hxA : RdSh A x) (hA : ALe A w) (hr : RdyS w ⟨wv, rv, c.r⟩) (hk : 1 ≤ c.k ∧ c.k ≤ 5) (hb : ApBd x.m) (hw : c.r.writes.length ≤ 1000) (hl : c.r.reads.length ≤ 1000) :
    Calls Try.prog 16 #[shV x, cmdV c wv rv] w (ApR A w (apply21M x.m c.k c.r c.e)) := by
  obtain ⟨k, r, e⟩ := c
  simp only at hk hw hl hr ⊢
  have h5 : k = 1 ∨ k = 2 ∨ k = 3 ∨ k = 4 ∨ k = 5 := by omega
  rcases h5 with rfl | rfl | rfl | rfl | rfl
  · exact apply1_call A x r e wv rv w hxA hA hb.now
  · exact apply2_call A x r e wv rv w hxA hA hr.rs hb.bugs hl
  · exact apply3_call A x r e wv rv w hxA hA hr hb.bugs ⟨hb.ws, hw, hl⟩
  · exact apply4_call A x r e wv rv w hxA hA hb.bugs hb.ds
  · exact apply5_call A x r e wv rv w hxA hA ⟨hb.vs, hb.ws, hb.es⟩ hb.wr
end Go.Proofs.Ytdkkpkgfiodlbaa

/- Layer 21's law: what Apply handed back is readable behind its boxes. -/
namespace Go.Proofs.Ytdkkpkgfiodlbaa
open Go.RowKit Go.Maps

theorem RdV.le {A B : World} {v : Value} {l : List Int} (h : RdV A v l) (hs : CLe A B) : RdV B v l := RdS.le h hs fun _ _ h => h
theorem rd_cut {A wA w8 wx : World} {y : RSh} {vv : Value} {L : List Int} (hk : ∀ W' : World, CLe A W' → (∀ j, wA.heap.size ≤ j → W'.heap[j]? = w8.heap[j]?) → RdSh W' y ∧ RdV W' vv L)
    (hA : A.heap.size ≤ w8.heap.size) (hx : ∀ j, wA.heap.size ≤ j → j < w8.heap.size → wx.heap[j]? = w8.heap[j]?) {B : World} (hB : CLe A B) (hBx : ∀ j, wA.heap.size ≤ j → B.heap[j]? = wx.heap[j]?) : RdSh B y ∧ RdV B vv L := by
  have hk' := hk { B with heap := B.heap.extract 0 w8.heap.size } (fun b o v hv => ?_) (fun j hj => ?_)
  · have hs : CLe { B with heap := B.heap.extract 0 w8.heap.size } B := CLe.of_same fun j hj => by
      simp only [Array.size_extract, Array.getElem?_extract] at hj ⊢
      rw [if_pos (by omega), Nat.zero_add]
    exact ⟨hk'.1.le hs, hk'.2.le hs⟩
  · have h1 : b < A.heap.size := World.block_lt_of_cell? A _ hv
    have h2 := hB b o v hv
    refine (World.cell?_of_block (a := ⟨b, o, none⟩) ?_).trans h2
    have h3 : b < B.heap.size := World.block_lt_of_cell? B _ h2
    simp only [Array.getElem?_extract]
    rw [if_pos (by omega), Nat.zero_add]
  · simp only [Array.getElem?_extract]
    by_cases hjw : j < w8.heap.size
    · have e1 : B.heap[j]? = w8.heap[j]? := (hBx j hj).trans (hx j hj hjw)
      have hj2 : j < B.heap.size := by
        rw [Array.getElem?_eq_getElem hjw] at e1
        exact (Array.getElem?_eq_some_iff.1 e1).1
      rw [if_pos (by omega), Nat.zero_add]; exact e1
    · rw [if_neg (by omega), Array.getElem?_eq_none (by omega)]
end Go.Proofs.Ytdkkpkgfiodlbaa
