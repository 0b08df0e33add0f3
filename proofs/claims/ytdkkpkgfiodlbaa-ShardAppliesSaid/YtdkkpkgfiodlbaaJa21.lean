/- Texts of one proof, one behind the other: Rn21G, Rn21R. -/
import Derived.Test.YtdkkpkgfiodlbaaJa20
import Derived.Test.YtdkkpkgfiodlbaaJa19
import Derived.Test.YtdkkpkgfiodlbaaJa8
import Derived.Test.YtdkkpkgfiodlbaaJa16
set_option linter.all false
/- Layer 21's reference: Apply, a decision. Printed by wip/gen/gen_ap21g.py. -/
namespace Go.Proofs.Ytdkkpkgfiodlbaa
open Go.RowKit Go.Maps
attribute [local go_sem] Oper.semAt_some

theorem find_next {ds : List EndM} {t : Int} {k : Nat} {d : EndM} (h : ds[k]? = some d) (hn : ∀ x ∈ ds.take k, (x.txn == t) = false) (hq : (d.txn == t) = true) : ds.find? (fun d => d.txn == t) = some d := by
  have e : ds = ds.take k ++ d :: ds.drop (k + 1) := by
    have := List.take_append_drop k ds
    rw [List.drop_eq_getElem_cons (List.getElem?_eq_some_iff.1 h).1, (List.getElem?_eq_some_iff.1 h).2] at this
    exact this.symm
  rw [e, List.find?_append, List.find?_eq_none.2 (fun x hx => by rw [hn x hx]; decide), List.find?_cons, hq]
  rfl
theorem find_done {ds : List EndM} {t : Int} {k : Nat} (hn : ∀ x ∈ ds.take k, (x.txn == t) = false) (hk : ¬ k < ds.length) : ds.find? (fun d => d.txn == t) = none := by
  rw [List.take_of_length_le (by omega)] at hn
  exact List.find?_eq_none.2 (fun x hx => by rw [hn x hx]; decide)
theorem ds_of {A : World} {x : RSh} {a1 a2 a3 a4 : Option Addr} {c1 c2 c3 c4 : Nat} (h : RdSh A x) (hxe : x = ⟨.slice a1 x.m.s.vs.length c1, .slice a2 x.m.s.ws.length c2, .slice a3 x.m.s.es.length c3, .slice a4 x.m.ds.length c4, x.m⟩) :
    RdEn A (.slice a4 x.m.ds.length c4) x.m.ds := by
  have := h.ds
  rw [hxe] at this; exact this
theorem ap_ret3 {A w wz : World} {x : RSh} {q : ShM × Ans} {N : Nat} {v : Value} {L : List EndM} (hx : RdSh A x) (hA : ALe A w) (hbb : Below w.heap.size w wz) (hN : w.heap.size ≤ N)
    (ho : wz.ownsRow N 56 3 v L.length (L.flatMap endL)) (hm : (⟨x.m.s, x.m.stamps, x.m.now, L⟩ : ShM) = q.1) (h0 : q.2.vals = []) :
    ApR A w q (.returned (.tuple #[shV ⟨x.vv, x.wv, x.ev, v, ⟨x.m.s, x.m.stamps, x.m.now, L⟩⟩, ansV q.2 (.slice none 0 0)])) wz := by
  refine ⟨_, _, rfl, hm, hbb, fun W' hs hW => ⟨⟨?_, ?_⟩, by rw [h0]; exact rdv_nil _⟩⟩
  · exact RdSt.le hx.st hs
  · exact own_rds (enc := endL) (E := EEn) (fun _ => rfl) (own_same ho hN (fun j hj => hW j hj)) (fun _ _ => rfl)

set_option maxRecDepth 1000000 in
set_option maxHeartbeats 16000000 in
theorem apply4_call (A : World) (x : RSh) (r : Rdy) (en : EndM) (wv rv : Value) (w : World) (hxA : RdSh A x) (hA : ALe A w) (hbg : 0 ≤ x.m.s.bugs ∧ x.m.s.bugs ≤ 63) (hd : x.m.ds.length ≤ 100000) :
    Calls Try.prog 16 #[shV x, cmdV ⟨4, r, en⟩ wv rv] w (ApR A w (dec21 x.m en)) := by
  obtain ⟨a1, c1, a2, c2, a3, c3, a4, c4, hxe, hmw, hmd⟩ := hxA.shapes
  have HXA := Lib.hid hxA
  have HHA := Lib.hid hA
  have HA := Lib.hid (ApB.start w x ⟨4, r, en⟩ wv rv)
  clear hxA hA
  have hsc : shC x = #[.bool x.m.s.serial, vi x.m.s.bugs, .slice a1 x.m.s.vs.length c1, .slice a2 x.m.s.ws.length c2, .slice a3 x.m.s.es.length c3, vi x.m.stamps, vi x.m.now, .slice a4 x.m.ds.length c4] := by rw [hxe]; rfl
  have HXE := Lib.hid hxe
  have HSC := Lib.hid hsc
  unfold shV
  unfold cmdV
  rw [hsc] at HA ⊢
  clear hxe hsc
  unfold cmdC at HA ⊢
  go_enter Try.func16, Try.ntmps16
  go_upto_region 1 with fail
  generalize ((((w.alloc (.cells #[.bool x.m.s.serial, vi x.m.s.bugs, .slice a1 x.m.s.vs.length c1, .slice a2 x.m.s.ws.length c2, .slice a3 x.m.s.es.length c3, vi x.m.stamps, vi x.m.now, .slice a4 x.m.ds.length c4] 54)).alloc (.cells #[vi 4, vi r.txn, vi r.home, vi r.start, wv, rv, vi en.txn, .bool en.commit, vi en.at_] 63)).alloc (.cells #[.bool false, vi 0, .slice none 0 0, .slice none 0 0, .slice none 0 0, vi 0, vi 0, .slice none 0 0] 54)).alloc (.cells #[vi 0, .slice none 0 0, vi 0, vi 0, vi 0, vi 0, .bool false, vi 0] 58)) = w4 at *
  have HS0 := HA.out.st
  rw [HSC.out] at HS0
  have HC0 := HA.out.cmd
  unfold cmdC at HC0
  obtain ⟨X, hX⟩ : ∃ X, X = w.heap.size := ⟨_, rfl⟩
  have HRS := HA.out.rs
  have HRA := HA.out.ra
  rw [← hX] at HS0 HC0 HRS HRA ⊢
  have hS0 := Lib.hid HS0
  have hC0 := Lib.hid HC0
  have hRS := Lib.hid HRS
  have hRA := Lib.hid HRA
  have HXX := Lib.hid hX
  clear hX HS0 HC0 HRS HRA
  have x0 : w4.cell? ⟨X, 0, none⟩ = some (.bool x.m.s.serial) := (by rw [cell_of hS0.out]; rfl)
  have x1 : w4.cell? ⟨X, 1, none⟩ = some (vi x.m.s.bugs) := (by rw [cell_of hS0.out]; rfl)
  have x2 : w4.cell? ⟨X, 2, none⟩ = some (.slice a1 x.m.s.vs.length c1) := (by rw [cell_of hS0.out]; rfl)
  have x3 : w4.cell? ⟨X, 3, none⟩ = some (.slice a2 x.m.s.ws.length c2) := (by rw [cell_of hS0.out]; rfl)
  have x4 : w4.cell? ⟨X, 4, none⟩ = some (.slice a3 x.m.s.es.length c3) := (by rw [cell_of hS0.out]; rfl)
  have x5 : w4.cell? ⟨X, 5, none⟩ = some (vi x.m.stamps) := (by rw [cell_of hS0.out]; rfl)
  have x6 : w4.cell? ⟨X, 6, none⟩ = some (vi x.m.now) := (by rw [cell_of hS0.out]; rfl)
  have x7 : w4.cell? ⟨X, 7, none⟩ = some (.slice a4 x.m.ds.length c4) := (by rw [cell_of hS0.out]; rfl)
  have m0 : w4.cell? ⟨X + 1, 0, none⟩ = some (vi 4) := (by rw [cell_of hC0.out]; rfl)
  have HDS := Lib.hid (ds_of HXA.out HXE.out)
  have HBA := Lib.hid (HHA.out.trans (HA.out.below.mono HHA.out.size))
  have h4s : w.heap.size + 4 ≤ w4.heap.size := by have := (Array.getElem?_eq_some_iff.1 HA.out.ra).1; omega
  have H4S := Lib.hid h4s
  have HBW := Lib.hid HA.out.below
  have HBX := Lib.hid (show ∀ W, Below w4.heap.size w4 W → W.heap[X]? = some (.cells #[.bool x.m.s.serial, vi x.m.s.bugs, .slice a1 x.m.s.vs.length c1, .slice a2 x.m.s.ws.length c2, .slice a3 x.m.s.es.length c3, vi x.m.stamps, vi x.m.now, .slice a4 x.m.ds.length c4] 54) ∧ W.heap[X + 1]? = some (.cells #[vi 4, vi r.txn, vi r.home, vi r.start, wv, rv, vi en.txn, .bool en.commit, vi en.at_] 63) ∧ W.heap[X + 1 + 1]? = some (.cells #[.bool false, vi 0, .slice none 0 0, .slice none 0 0, .slice none 0 0, vi 0, vi 0, .slice none 0 0] 54) ∧ W.heap[X + 1 + 1 + 1]? = some (.cells #[vi 0, .slice none 0 0, vi 0, vi 0, vi 0, vi 0, .bool false, vi 0] 58) from fun W hW => by
    have h := HA.out.later hW
    have h1 := h.st
    have h2 := h.cmd
    have h3 := h.rs
    have h4 := h.ra
    rw [HSC.out] at h1
    unfold cmdC at h2
    rw [← HXX.out] at h1 h2 h3 h4
    exact ⟨h1, h2, h3, h4⟩)
  clear h4s hRS hRA HA hS0 hC0
  have ho1 := World.ownsRow_lit (base := w4.heap.size) (e := 56) (size := 3) w4 #[] 0 (Nat.le_refl _) (by simp [maxLen]) rfl
  have hb1 := (Below.refl w4.heap.size w4).alloc (Nat.le_refl _) (.cells #[] 56)
  have HO1 := Lib.hid ho1
  have HB1 := Lib.hid hb1
  clear ho1 hb1
  have x7' := later_alloc x7
  go_wp2_with fail
  clear x7' x0 x1 x2 x3 x4 x5 x6 x7 m0
  generalize w4.alloc (.cells #[] 56) = w5 at *
  generalize Value.slice (some ⟨w4.heap.size, 0, none⟩) 0 0 = v5 at *
  go_loopw [16, 110] (fun vk i wr => ∃ k : Nat, k ≤ x.m.ds.length ∧ i = vi k ∧ Hid (Below w4.heap.size w4 wr) ∧ Hid (wr.ownsRow w4.heap.size 56 3 vk ((x.m.ds.take k).filter (fun d => d.txn != en.txn)).length (((x.m.ds.take k).filter (fun d => d.txn != en.txn)).flatMap endL)) ∧ Hid (offR x.m.s.bugs 32 = true → ∀ o ∈ x.m.ds.take k, (o.txn == en.txn) = false)) (fun _ i _ => x.m.ds.length - (intOf i).toNat)
  case atStart => exact ⟨0, Nat.zero_le _, rfl, HB1, HO1, Lib.hid (by simp)⟩
  case round =>
    obtain ⟨wj, rfl⟩ : ∃ wj : World, wj = wr := ⟨_, rfl⟩
    obtain ⟨k, hk, rfl, HJ, HR, HN⟩ := hrel
    clear HO1 HB1
    have hsz := HJ.out.size
    have hfl : ((x.m.ds.take k).filter (fun d => d.txn != en.txn)).length ≤ 100000 := by
      have h1 := List.length_filter_le (fun d : EndM => d.txn != en.txn) (x.m.ds.take k)
      rw [List.length_take] at h1
      omega
    by_cases hlt : k < x.m.ds.length
    · have k1 : decide ((k : Int) < x.m.ds.length) = true := decide_eq_true (by omega)
      have k2 : (k : Int) < x.m.ds.length := by omega
      have hwk : IntKind.i64.wrap ((k : Int) + 1) = (k : Int) + 1 := IntWalk.i64_in _ (by omega)
      obtain ⟨d, hdk⟩ := some_at hlt
      obtain ⟨g, off, ha, c0, c1, c2⟩ := (HDS.out.ale (HBA.out.trans (HJ.out.mono HBA.out.size))).el hdk
      subst ha
      have HD := Lib.hid hdk
      have HF := Lib.hid (filter_take (q := fun d : EndM => d.txn != en.txn) hdk)
      have a6 : wj.cell? ⟨X + 1, 6, none⟩ = some (vi en.txn) := by rw [cell_of (HBX.out wj HJ.out).2.1]; rfl
      have a6' := later_alloc a6
      clear hdk
      cases hq : (d.txn == en.txn) with
      | false =>
        have hq1 : (d.txn != en.txn) = true := by simpa using hq
        have HRA := Lib.hid (own_below HR.out (((Below.refl wj.heap.size wj).alloc (Nat.le_refl _) (.cells #[vi d.txn, .bool d.commit, vi d.at_] 56)).alloc (by simp) (.cells #[vi d.txn, .bool d.commit, vi d.at_] 56)))
        have HJA := Lib.hid ((HJ.out.alloc hsz (.cells #[vi d.txn, .bool d.commit, vi d.at_] 56)).alloc (by simp; omega) (.cells #[vi d.txn, .bool d.commit, vi d.at_] 56))
        have hsn : Src ((wj.alloc (.cells #[vi d.txn, .bool d.commit, vi d.at_] 56)).alloc (.cells #[vi d.txn, .bool d.commit, vi d.at_] 56)) (.slice (some ⟨wj.heap.size + 1, 0, none⟩) 1 1) 3 1 (endL d) := src_new (cs := #[vi d.txn, .bool d.commit, vi d.at_]) rfl (by simp)
        have HSN := Lib.hid hsn
        clear hsn
        obtain ⟨ak, ck, rfl⟩ := own_shape HR.out
        go_wp2_with (refine wpList_append_src rfl (.tmp 120) (.tmp 122) 50 rfl eltE19 w4.heap.size _ _ HRA.out rfl 1 (endL d) HSN.out rfl (endL_one d) (by omega) (by omega) HJA.out.size ?_; intro v5 w5 ho5 hg5 _; have HO5 := Lib.hid ho5; have HB5 := Lib.hid (HJA.out.grown hg5 HJA.out.size (fun k hk => (HRA.out.lt k hk).1)))
        refine ⟨⟨k + 1, by omega, by go_num, HB5, Lib.hid ?_, Lib.hid fun ho => any_take (HN.out ho) HD.out hq⟩, by simp only [intOf]; omega⟩
        rw [HF.out, if_pos hq1]
        simpa using HO5.out
      | true =>
        have hq1 : (d.txn != en.txn) = false := by simpa using hq
        have HQ := Lib.hid hq
        have HQ1 := Lib.hid hq1
        go_upto_region 32 with fail
        have hJZ := HJ.out.alloc hsz (.cells #[vi d.txn, .bool d.commit, vi d.at_] 56)
        have hAE := alloc_at wj (.cells #[vi d.txn, .bool d.commit, vi d.at_] 56)
        have HRZ := Lib.hid (own_below HR.out ((Below.refl wj.heap.size wj).alloc (Nat.le_refl _) (.cells #[vi d.txn, .bool d.commit, vi d.at_] 56)))
        have HJZ := Lib.hid hJZ
        have HAE := Lib.hid hAE
        have hZX : X + 1 + 1 + 1 < wj.heap.size := by have := HXX.out; have := H4S.out; omega
        clear hJZ hAE a6 a6' c0 c1 c2 hq hq1
        generalize wj.alloc (.cells #[vi d.txn, .bool d.commit, vi d.at_] 56) = wz at *
        generalize wj.heap.size = Z at *
        have x1 : wz.cell? ⟨X, 1, none⟩ = some (vi x.m.s.bugs) := by rw [cell_of (HBX.out wz HJZ.out).1]; rfl
        obtain ⟨q1, hq1⟩ : ∃ q, q = x.m.s.bugs.tdiv 32 := ⟨_, rfl⟩
        have hq1b : 0 ≤ q1 ∧ q1 ≤ 63 := by rw [hq1, Int.tdiv_eq_ediv_of_nonneg hbg.1]; omega
        have hwq1 : IntKind.i64.wrap (x.m.s.bugs.tdiv 32) = q1 := by rw [← hq1]; exact IntWalk.i64_in _ (by omega)
        have HOFF := Lib.hid (show offR x.m.s.bugs 32 = (q1 % 2 == 0) from by unfold offR; rw [← hq1, Int.tmod_eq_emod_of_nonneg hq1b.1])
        have hwq2 : IntKind.i64.wrap (q1 % 2) = q1 % 2 := IntWalk.i64_in _ (by omega)
        clear hq1
        by_cases hz : q1 % 2 = 0
        · have hz1 : (q1 % 2 == 0) = true := by simpa using hz
          have HOT := Lib.hid (show offR x.m.s.bugs 32 = true from HOFF.out.trans hz1)
          have hRS := Lib.hid (HBX.out wz HJZ.out).2.2.1
          have hRA := Lib.hid (HBX.out wz HJZ.out).2.2.2
          go_upto_region 33 with fail
          clear x1 hwq1 hwq2 hz1
          have x0 : wz.cell? ⟨X, 0, none⟩ = some (.bool x.m.s.serial) := (by rw [cell_of (HBX.out wz HJZ.out).1]; rfl)
          have x1 : wz.cell? ⟨X, 1, none⟩ = some (vi x.m.s.bugs) := (by rw [cell_of (HBX.out wz HJZ.out).1]; rfl)
          have x2 : wz.cell? ⟨X, 2, none⟩ = some (.slice a1 x.m.s.vs.length c1) := (by rw [cell_of (HBX.out wz HJZ.out).1]; rfl)
          have x3 : wz.cell? ⟨X, 3, none⟩ = some (.slice a2 x.m.s.ws.length c2) := (by rw [cell_of (HBX.out wz HJZ.out).1]; rfl)
          have x4 : wz.cell? ⟨X, 4, none⟩ = some (.slice a3 x.m.s.es.length c3) := (by rw [cell_of (HBX.out wz HJZ.out).1]; rfl)
          have x5 : wz.cell? ⟨X, 5, none⟩ = some (vi x.m.stamps) := (by rw [cell_of (HBX.out wz HJZ.out).1]; rfl)
          have x6 : wz.cell? ⟨X, 6, none⟩ = some (vi x.m.now) := (by rw [cell_of (HBX.out wz HJZ.out).1]; rfl)
          have x7 : wz.cell? ⟨X, 7, none⟩ = some (.slice (some ⟨g, off, none⟩) x.m.ds.length c4) := (by rw [cell_of (HBX.out wz HJZ.out).1]; rfl)
          have y0 : wz.cell? ⟨Z, 0, none⟩ = some (vi d.txn) := (by rw [cell_of HAE.out]; rfl)
          have y1 : wz.cell? ⟨Z, 1, none⟩ = some (.bool d.commit) := (by rw [cell_of HAE.out]; rfl)
          have y2 : wz.cell? ⟨Z, 2, none⟩ = some (vi d.at_) := (by rw [cell_of HAE.out]; rfl)
          have HT := Lib.hid (two_std (W := wz) (b := X + 1 + 1) (N := w.heap.size) (.bool x.m.s.serial) (vi x.m.s.bugs) (.slice a1 x.m.s.vs.length c1) (.slice a2 x.m.s.ws.length c2) (.slice a3 x.m.s.es.length c3) (vi x.m.stamps) (vi x.m.now) (.slice (some ⟨g, off, none⟩) x.m.ds.length c4) (vi 0) (.slice none 0 0) (vi 0) (vi 0) (vi 0) (vi d.txn) (.bool d.commit) (vi d.at_) hRS.out hRA.out (by have := HXX.out; omega))
          have q0 : wz.cell? ⟨X + 1 + 1, 0, none⟩ = some (.bool false) := (by rw [cell_of hRS.out]; rfl)
          have q1 : wz.cell? ⟨X + 1 + 1, 1, none⟩ = some (vi 0) := (by rw [cell_of hRS.out]; rfl)
          have q2 : wz.cell? ⟨X + 1 + 1, 2, none⟩ = some (.slice none 0 0) := (by rw [cell_of hRS.out]; rfl)
          have q3 : wz.cell? ⟨X + 1 + 1, 3, none⟩ = some (.slice none 0 0) := (by rw [cell_of hRS.out]; rfl)
          have q4 : wz.cell? ⟨X + 1 + 1, 4, none⟩ = some (.slice none 0 0) := (by rw [cell_of hRS.out]; rfl)
          have q5 : wz.cell? ⟨X + 1 + 1, 5, none⟩ = some (vi 0) := (by rw [cell_of hRS.out]; rfl)
          have q6 : wz.cell? ⟨X + 1 + 1, 6, none⟩ = some (vi 0) := (by rw [cell_of hRS.out]; rfl)
          have q7 : wz.cell? ⟨X + 1 + 1, 7, none⟩ = some (.slice none 0 0) := (by rw [cell_of hRS.out]; rfl)
          have z0 : wz.cell? ⟨X + 1 + 1 + 1, 0, none⟩ = some (vi 0) := (by rw [cell_of hRA.out]; rfl)
          have z1 : wz.cell? ⟨X + 1 + 1 + 1, 1, none⟩ = some (.slice none 0 0) := (by rw [cell_of hRA.out]; rfl)
          have z2 : wz.cell? ⟨X + 1 + 1 + 1, 2, none⟩ = some (vi 0) := (by rw [cell_of hRA.out]; rfl)
          have z3 : wz.cell? ⟨X + 1 + 1 + 1, 3, none⟩ = some (vi 0) := (by rw [cell_of hRA.out]; rfl)
          have z4 : wz.cell? ⟨X + 1 + 1 + 1, 4, none⟩ = some (vi 0) := (by rw [cell_of hRA.out]; rfl)
          have z5 : wz.cell? ⟨X + 1 + 1 + 1, 5, none⟩ = some (vi 0) := (by rw [cell_of hRA.out]; rfl)
          have z6 : wz.cell? ⟨X + 1 + 1 + 1, 6, none⟩ = some (.bool false) := (by rw [cell_of hRA.out]; rfl)
          have z7 : wz.cell? ⟨X + 1 + 1 + 1, 7, none⟩ = some (vi 0) := (by rw [cell_of hRA.out]; rfl)
          have qf : ∀ j, wz.frozen? ⟨X + 1 + 1, j, none⟩ = false := fun j => free_of hRS.out j
          have zf : ∀ j, wz.frozen? ⟨X + 1 + 1 + 1, j, none⟩ = false := fun j => free_of hRA.out j
          go_region
          generalize ((((((((((((((((wz.setCell ⟨X + 1 + 1, 0, none⟩ (.bool x.m.s.serial)).setCell ⟨X + 1 + 1, 1, none⟩ (vi x.m.s.bugs)).setCell ⟨X + 1 + 1, 2, none⟩ (.slice a1 x.m.s.vs.length c1)).setCell ⟨X + 1 + 1, 3, none⟩ (.slice a2 x.m.s.ws.length c2)).setCell ⟨X + 1 + 1, 4, none⟩ (.slice a3 x.m.s.es.length c3)).setCell ⟨X + 1 + 1, 5, none⟩ (vi x.m.stamps)).setCell ⟨X + 1 + 1, 6, none⟩ (vi x.m.now)).setCell ⟨X + 1 + 1, 7, none⟩ (.slice (some ⟨g, off, none⟩) x.m.ds.length c4)).setCell ⟨X + 1 + 1 + 1, 0, none⟩ (vi 0)).setCell ⟨X + 1 + 1 + 1, 1, none⟩ (.slice none 0 0)).setCell ⟨X + 1 + 1 + 1, 2, none⟩ (vi 0)).setCell ⟨X + 1 + 1 + 1, 3, none⟩ (vi 0)).setCell ⟨X + 1 + 1 + 1, 4, none⟩ (vi 0)).setCell ⟨X + 1 + 1 + 1, 5, none⟩ (vi d.txn)).setCell ⟨X + 1 + 1 + 1, 6, none⟩ (.bool d.commit)).setCell ⟨X + 1 + 1 + 1, 7, none⟩ (vi d.at_)).drew = wz at *
          have r0 : wz.cell? ⟨X + 1 + 1, 0, none⟩ = some (.bool x.m.s.serial) := (by rw [cell_of HT.out.1]; rfl)
          have r1 : wz.cell? ⟨X + 1 + 1, 1, none⟩ = some (vi x.m.s.bugs) := (by rw [cell_of HT.out.1]; rfl)
          have r2 : wz.cell? ⟨X + 1 + 1, 2, none⟩ = some (.slice a1 x.m.s.vs.length c1) := (by rw [cell_of HT.out.1]; rfl)
          have r3 : wz.cell? ⟨X + 1 + 1, 3, none⟩ = some (.slice a2 x.m.s.ws.length c2) := (by rw [cell_of HT.out.1]; rfl)
          have r4 : wz.cell? ⟨X + 1 + 1, 4, none⟩ = some (.slice a3 x.m.s.es.length c3) := (by rw [cell_of HT.out.1]; rfl)
          have r5 : wz.cell? ⟨X + 1 + 1, 5, none⟩ = some (vi x.m.stamps) := (by rw [cell_of HT.out.1]; rfl)
          have r6 : wz.cell? ⟨X + 1 + 1, 6, none⟩ = some (vi x.m.now) := (by rw [cell_of HT.out.1]; rfl)
          have r7 : wz.cell? ⟨X + 1 + 1, 7, none⟩ = some (.slice (some ⟨g, off, none⟩) x.m.ds.length c4) := (by rw [cell_of HT.out.1]; rfl)
          have s0 : wz.cell? ⟨X + 1 + 1 + 1, 0, none⟩ = some (vi 0) := (by rw [cell_of HT.out.2.1]; rfl)
          have s1 : wz.cell? ⟨X + 1 + 1 + 1, 1, none⟩ = some (.slice none 0 0) := (by rw [cell_of HT.out.2.1]; rfl)
          have s2 : wz.cell? ⟨X + 1 + 1 + 1, 2, none⟩ = some (vi 0) := (by rw [cell_of HT.out.2.1]; rfl)
          have s3 : wz.cell? ⟨X + 1 + 1 + 1, 3, none⟩ = some (vi 0) := (by rw [cell_of HT.out.2.1]; rfl)
          have s4 : wz.cell? ⟨X + 1 + 1 + 1, 4, none⟩ = some (vi 0) := (by rw [cell_of HT.out.2.1]; rfl)
          have s5 : wz.cell? ⟨X + 1 + 1 + 1, 5, none⟩ = some (vi d.txn) := (by rw [cell_of HT.out.2.1]; rfl)
          have s6 : wz.cell? ⟨X + 1 + 1 + 1, 6, none⟩ = some (.bool d.commit) := (by rw [cell_of HT.out.2.1]; rfl)
          have s7 : wz.cell? ⟨X + 1 + 1 + 1, 7, none⟩ = some (vi d.at_) := (by rw [cell_of HT.out.2.1]; rfl)
          go_wp2_with fail
          refine bodyPost_ret (v := .tuple #[.agg #[.bool x.m.s.serial, vi x.m.s.bugs, .slice a1 x.m.s.vs.length c1, .slice a2 x.m.s.ws.length c2, .slice a3 x.m.s.es.length c3, vi x.m.stamps, vi x.m.now, .slice (some ⟨g, off, none⟩) x.m.ds.length c4], .agg #[vi 0, .slice none 0 0, vi 0, vi 0, vi 0, vi d.txn, .bool d.commit, vi d.at_]]) (by simp [results, Try.results16, go_sem, r0, r1, r2, r3, r4, r5, r6, r7, s0, s1, s2, s3, s4, s5, s6, s7]) rfl ?_
          have hq : dec21 x.m en = (x.m, ⟨0, [], 0, 0, 0, d⟩) := by
            have hf := find_next HD.out (HN.out HOT.out) HQ.out
            unfold dec21
            rw [if_pos ⟨HOT.out, by rw [hf]; rfl⟩, hf]; rfl
          rw [hq]
          have hb := HBW.out.trans (HJZ.out.mono HBW.out.size)
          have := ap_ret1 (y := x) (q := (x.m, ⟨0, [], 0, 0, 0, d⟩)) HXA.out HHA.out hb HT.out.2.2.2 ⟨rfl, rfl, rfl, rfl, rfl, rfl⟩ rfl rfl
          unfold shV at this
          rw [HSC.out] at this
          exact this
        · have hz1 : (q1 % 2 == 0) = false := by simpa using hz
          go_wp2_with fail
          refine ⟨⟨k + 1, by omega, by go_num, HJZ, Lib.hid ?_, Lib.hid fun ho => ?_⟩, by simp only [intOf]; omega⟩
          · have h1 : (List.filter (fun d : EndM => d.txn != en.txn) (x.m.ds.take (k + 1))) = (List.filter (fun d : EndM => d.txn != en.txn) (x.m.ds.take k)) := by rw [HF.out, HQ1.out]; simp
            rw [h1]; exact HRZ.out
          · rw [HOFF.out, hz1] at ho; cases ho
    · have k1 : decide ((k : Int) < x.m.ds.length) = false := decide_eq_false (by omega)
      have k2 : ¬ x.m.ds.length < x.m.ds.length := by omega
      obtain rfl : k = x.m.ds.length := by omega
      obtain ⟨L, hL⟩ : ∃ L, L = x.m.ds.filter (fun d => d.txn != en.txn) := ⟨_, rfl⟩
      have hto : x.m.ds.take x.m.ds.length = x.m.ds := List.take_of_length_le (Nat.le_refl _)
      rw [hto] at HR hfl
      rw [← hL] at HR hfl
      have HL := Lib.hid hL
      have HRA := Lib.hid (own_below HR.out ((Below.refl wj.heap.size wj).alloc (Nat.le_refl _) (.cells #[vi en.txn, .bool en.commit, vi en.at_] 56)))
      have HJA := Lib.hid (HJ.out.alloc hsz (.cells #[vi en.txn, .bool en.commit, vi en.at_] 56))
      have hsn : Src (wj.alloc (.cells #[vi en.txn, .bool en.commit, vi en.at_] 56)) (.slice (some ⟨wj.heap.size, 0, none⟩) 1 1) 3 1 (endL en) := src_new (cs := #[vi en.txn, .bool en.commit, vi en.at_]) rfl rfl
      have HSN := Lib.hid hsn
      clear hsn hL
      obtain ⟨ak, ck, rfl⟩ := own_shape HR.out
      have e6 : wj.cell? ⟨X + 1, 6, none⟩ = some (vi en.txn) := by rw [cell_of (HBX.out wj HJ.out).2.1]; rfl
      have e7 : wj.cell? ⟨X + 1, 7, none⟩ = some (.bool en.commit) := by rw [cell_of (HBX.out wj HJ.out).2.1]; rfl
      have e8 : wj.cell? ⟨X + 1, 8, none⟩ = some (vi en.at_) := by rw [cell_of (HBX.out wj HJ.out).2.1]; rfl
      go_upto_region 36 with (refine wpList_append_src rfl (.tmp 134) (.tmp 137) 50 rfl eltE19 w4.heap.size _ _ HRA.out rfl 1 (endL en) HSN.out rfl (endL_one en) (by omega) (by omega) HJA.out.size ?_; intro v7 w7 ho7 hg7 _; have HB7 := Lib.hid (HJA.out.grown hg7 HJA.out.size (fun k hk => (HRA.out.lt k hk).1)); have HO7 := Lib.hid ho7; obtain ⟨a7, c7, rfl⟩ := own_shape ho7; have z7 : w7.cell? ⟨X, 7, none⟩ = some (.slice a4 x.m.ds.length c4) := (by rw [cell_of (HBX.out w7 HB7.out).1]; rfl); have f7 : w7.frozen? ⟨X, 7, none⟩ = false := free_of (HBX.out w7 HB7.out).1 7; clear ho7 hg7)
      have hS8 := rn_set (o := 7) (.slice a7 (L.length + 1) c7) (HBX.out w7 HB7.out).1
      have HS8 := Lib.hid (show (w7.setCell ⟨X, 7, none⟩ (.slice a7 (L.length + 1) c7)).heap[X]? = some (.cells #[.bool x.m.s.serial, vi x.m.s.bugs, .slice a1 x.m.s.vs.length c1, .slice a2 x.m.s.ws.length c2, .slice a3 x.m.s.es.length c3, vi x.m.stamps, vi x.m.now, .slice a7 (L.length + 1) c7] 54) from hS8)
      have ho8 : ∀ j, j ≠ X → (w7.setCell ⟨X, 7, none⟩ (.slice a7 (L.length + 1) c7)).heap[j]? = w7.heap[j]? := fun j hj => Below.heap_setCell _ _ _ _ hj
      have HO8 := Lib.hid ho8
      have hb8 : Below w.heap.size w7 (w7.setCell ⟨X, 7, none⟩ (.slice a7 (L.length + 1) c7)) := (Below.refl _ _).setCell (show w.heap.size ≤ X by have := HXX.out; omega) _
      have HB8 := Lib.hid hb8
      have hRS := Lib.hid ((ho8 (X + 1 + 1) (by omega)).trans (HBX.out w7 HB7.out).2.2.1)
      have hRA := Lib.hid ((ho8 (X + 1 + 1 + 1) (by omega)).trans (HBX.out w7 HB7.out).2.2.2)
      have HC8 := Lib.hid ((ho8 (X + 1) (by omega)).trans (HBX.out w7 HB7.out).2.1)
      clear hS8 ho8 hb8 z7 f7 e6 e7 e8
      generalize (w7.setCell ⟨X, 7, none⟩ (.slice a7 (L.length + 1) c7)) = w8 at *
      have x0 : w8.cell? ⟨X, 0, none⟩ = some (.bool x.m.s.serial) := (by rw [cell_of HS8.out]; rfl)
      have x1 : w8.cell? ⟨X, 1, none⟩ = some (vi x.m.s.bugs) := (by rw [cell_of HS8.out]; rfl)
      have x2 : w8.cell? ⟨X, 2, none⟩ = some (.slice a1 x.m.s.vs.length c1) := (by rw [cell_of HS8.out]; rfl)
      have x3 : w8.cell? ⟨X, 3, none⟩ = some (.slice a2 x.m.s.ws.length c2) := (by rw [cell_of HS8.out]; rfl)
      have x4 : w8.cell? ⟨X, 4, none⟩ = some (.slice a3 x.m.s.es.length c3) := (by rw [cell_of HS8.out]; rfl)
      have x5 : w8.cell? ⟨X, 5, none⟩ = some (vi x.m.stamps) := (by rw [cell_of HS8.out]; rfl)
      have x6 : w8.cell? ⟨X, 6, none⟩ = some (vi x.m.now) := (by rw [cell_of HS8.out]; rfl)
      have x7 : w8.cell? ⟨X, 7, none⟩ = some (.slice a7 (L.length + 1) c7) := (by rw [cell_of HS8.out]; rfl)
      have m6 : w8.cell? ⟨X + 1, 6, none⟩ = some (vi en.txn) := (by rw [cell_of HC8.out]; rfl)
      have m7 : w8.cell? ⟨X + 1, 7, none⟩ = some (.bool en.commit) := (by rw [cell_of HC8.out]; rfl)
      have m8 : w8.cell? ⟨X + 1, 8, none⟩ = some (vi en.at_) := (by rw [cell_of HC8.out]; rfl)
      have HT := Lib.hid (two_std (W := w8) (b := X + 1 + 1) (N := w.heap.size) (.bool x.m.s.serial) (vi x.m.s.bugs) (.slice a1 x.m.s.vs.length c1) (.slice a2 x.m.s.ws.length c2) (.slice a3 x.m.s.es.length c3) (vi x.m.stamps) (vi x.m.now) (.slice a7 (L.length + 1) c7) (vi 0) (.slice none 0 0) (vi 0) (vi 0) (vi 0) (vi en.txn) (.bool en.commit) (vi en.at_) hRS.out hRA.out (by have := HXX.out; omega))
      have q0 : w8.cell? ⟨X + 1 + 1, 0, none⟩ = some (.bool false) := (by rw [cell_of hRS.out]; rfl)
      have q1 : w8.cell? ⟨X + 1 + 1, 1, none⟩ = some (vi 0) := (by rw [cell_of hRS.out]; rfl)
      have q2 : w8.cell? ⟨X + 1 + 1, 2, none⟩ = some (.slice none 0 0) := (by rw [cell_of hRS.out]; rfl)
      have q3 : w8.cell? ⟨X + 1 + 1, 3, none⟩ = some (.slice none 0 0) := (by rw [cell_of hRS.out]; rfl)
      have q4 : w8.cell? ⟨X + 1 + 1, 4, none⟩ = some (.slice none 0 0) := (by rw [cell_of hRS.out]; rfl)
      have q5 : w8.cell? ⟨X + 1 + 1, 5, none⟩ = some (vi 0) := (by rw [cell_of hRS.out]; rfl)
      have q6 : w8.cell? ⟨X + 1 + 1, 6, none⟩ = some (vi 0) := (by rw [cell_of hRS.out]; rfl)
      have q7 : w8.cell? ⟨X + 1 + 1, 7, none⟩ = some (.slice none 0 0) := (by rw [cell_of hRS.out]; rfl)
      have z0 : w8.cell? ⟨X + 1 + 1 + 1, 0, none⟩ = some (vi 0) := (by rw [cell_of hRA.out]; rfl)
      have z1 : w8.cell? ⟨X + 1 + 1 + 1, 1, none⟩ = some (.slice none 0 0) := (by rw [cell_of hRA.out]; rfl)
      have z2 : w8.cell? ⟨X + 1 + 1 + 1, 2, none⟩ = some (vi 0) := (by rw [cell_of hRA.out]; rfl)
      have z3 : w8.cell? ⟨X + 1 + 1 + 1, 3, none⟩ = some (vi 0) := (by rw [cell_of hRA.out]; rfl)
      have z4 : w8.cell? ⟨X + 1 + 1 + 1, 4, none⟩ = some (vi 0) := (by rw [cell_of hRA.out]; rfl)
      have z5 : w8.cell? ⟨X + 1 + 1 + 1, 5, none⟩ = some (vi 0) := (by rw [cell_of hRA.out]; rfl)
      have z6 : w8.cell? ⟨X + 1 + 1 + 1, 6, none⟩ = some (.bool false) := (by rw [cell_of hRA.out]; rfl)
      have z7 : w8.cell? ⟨X + 1 + 1 + 1, 7, none⟩ = some (vi 0) := (by rw [cell_of hRA.out]; rfl)
      have qf : ∀ j, w8.frozen? ⟨X + 1 + 1, j, none⟩ = false := fun j => free_of hRS.out j
      have zf : ∀ j, w8.frozen? ⟨X + 1 + 1 + 1, j, none⟩ = false := fun j => free_of hRA.out j
      go_region
      generalize ((((((((((((((((w8.setCell ⟨X + 1 + 1, 0, none⟩ (.bool x.m.s.serial)).setCell ⟨X + 1 + 1, 1, none⟩ (vi x.m.s.bugs)).setCell ⟨X + 1 + 1, 2, none⟩ (.slice a1 x.m.s.vs.length c1)).setCell ⟨X + 1 + 1, 3, none⟩ (.slice a2 x.m.s.ws.length c2)).setCell ⟨X + 1 + 1, 4, none⟩ (.slice a3 x.m.s.es.length c3)).setCell ⟨X + 1 + 1, 5, none⟩ (vi x.m.stamps)).setCell ⟨X + 1 + 1, 6, none⟩ (vi x.m.now)).setCell ⟨X + 1 + 1, 7, none⟩ (.slice a7 (L.length + 1) c7)).setCell ⟨X + 1 + 1 + 1, 0, none⟩ (vi 0)).setCell ⟨X + 1 + 1 + 1, 1, none⟩ (.slice none 0 0)).setCell ⟨X + 1 + 1 + 1, 2, none⟩ (vi 0)).setCell ⟨X + 1 + 1 + 1, 3, none⟩ (vi 0)).setCell ⟨X + 1 + 1 + 1, 4, none⟩ (vi 0)).setCell ⟨X + 1 + 1 + 1, 5, none⟩ (vi en.txn)).setCell ⟨X + 1 + 1 + 1, 6, none⟩ (.bool en.commit)).setCell ⟨X + 1 + 1 + 1, 7, none⟩ (vi en.at_)).drew = wz at *
      have r0 : wz.cell? ⟨X + 1 + 1, 0, none⟩ = some (.bool x.m.s.serial) := (by rw [cell_of HT.out.1]; rfl)
      have r1 : wz.cell? ⟨X + 1 + 1, 1, none⟩ = some (vi x.m.s.bugs) := (by rw [cell_of HT.out.1]; rfl)
      have r2 : wz.cell? ⟨X + 1 + 1, 2, none⟩ = some (.slice a1 x.m.s.vs.length c1) := (by rw [cell_of HT.out.1]; rfl)
      have r3 : wz.cell? ⟨X + 1 + 1, 3, none⟩ = some (.slice a2 x.m.s.ws.length c2) := (by rw [cell_of HT.out.1]; rfl)
      have r4 : wz.cell? ⟨X + 1 + 1, 4, none⟩ = some (.slice a3 x.m.s.es.length c3) := (by rw [cell_of HT.out.1]; rfl)
      have r5 : wz.cell? ⟨X + 1 + 1, 5, none⟩ = some (vi x.m.stamps) := (by rw [cell_of HT.out.1]; rfl)
      have r6 : wz.cell? ⟨X + 1 + 1, 6, none⟩ = some (vi x.m.now) := (by rw [cell_of HT.out.1]; rfl)
      have r7 : wz.cell? ⟨X + 1 + 1, 7, none⟩ = some (.slice a7 (L.length + 1) c7) := (by rw [cell_of HT.out.1]; rfl)
      have s0 : wz.cell? ⟨X + 1 + 1 + 1, 0, none⟩ = some (vi 0) := (by rw [cell_of HT.out.2.1]; rfl)
      have s1 : wz.cell? ⟨X + 1 + 1 + 1, 1, none⟩ = some (.slice none 0 0) := (by rw [cell_of HT.out.2.1]; rfl)
      have s2 : wz.cell? ⟨X + 1 + 1 + 1, 2, none⟩ = some (vi 0) := (by rw [cell_of HT.out.2.1]; rfl)
      have s3 : wz.cell? ⟨X + 1 + 1 + 1, 3, none⟩ = some (vi 0) := (by rw [cell_of HT.out.2.1]; rfl)
      have s4 : wz.cell? ⟨X + 1 + 1 + 1, 4, none⟩ = some (vi 0) := (by rw [cell_of HT.out.2.1]; rfl)
      have s5 : wz.cell? ⟨X + 1 + 1 + 1, 5, none⟩ = some (vi en.txn) := (by rw [cell_of HT.out.2.1]; rfl)
      have s6 : wz.cell? ⟨X + 1 + 1 + 1, 6, none⟩ = some (.bool en.commit) := (by rw [cell_of HT.out.2.1]; rfl)
      have s7 : wz.cell? ⟨X + 1 + 1 + 1, 7, none⟩ = some (vi en.at_) := (by rw [cell_of HT.out.2.1]; rfl)
      go_wp2_with fail
      refine bodyPost_ret (v := .tuple #[.agg #[.bool x.m.s.serial, vi x.m.s.bugs, .slice a1 x.m.s.vs.length c1, .slice a2 x.m.s.ws.length c2, .slice a3 x.m.s.es.length c3, vi x.m.stamps, vi x.m.now, .slice a7 (L.length + 1) c7], .agg #[vi 0, .slice none 0 0, vi 0, vi 0, vi 0, vi en.txn, .bool en.commit, vi en.at_]]) (by simp [results, Try.results16, go_sem, r0, r1, r2, r3, r4, r5, r6, r7, s0, s1, s2, s3, s4, s5, s6, s7]) rfl ?_
      have hq : dec21 x.m en = (⟨x.m.s, x.m.stamps, x.m.now, L ++ [en]⟩, ⟨0, [], 0, 0, 0, en⟩) := by
        unfold dec21
        rw [if_neg (fun h => by have := find_done (HN.out h.1) k2; rw [this] at h; exact absurd h.2 (by decide)), ← HL.out]
      rw [hq]
      have hX := HXX.out
      have h4 := H4S.out
      have hb7 : Below w.heap.size w w7 := HBW.out.trans (HB7.out.mono HBW.out.size)
      have hrow := own_same (N := w4.heap.size) (B := wz) HO7.out (Nat.le_refl _) (fun j hj => (HT.out.2.2.1 j (by omega) (by omega)).trans (HO8.out j (by omega)))
      have := ap_ret3 (x := x) (q := (⟨x.m.s, x.m.stamps, x.m.now, L ++ [en]⟩, ⟨0, [], 0, 0, 0, en⟩)) (L := L ++ [en]) HXA.out HHA.out ((hb7.trans HB8.out).trans HT.out.2.2.2) HBW.out.size (by simpa using hrow) rfl rfl
      have he : shV ⟨x.vv, x.wv, x.ev, .slice a7 (L.length + 1) c7, ⟨x.m.s, x.m.stamps, x.m.now, L ++ [en]⟩⟩ = .agg #[.bool x.m.s.serial, vi x.m.s.bugs, .slice a1 x.m.s.vs.length c1, .slice a2 x.m.s.ws.length c2, .slice a3 x.m.s.es.length c3, vi x.m.stamps, vi x.m.now, .slice a7 (L.length + 1) c7] := by unfold shV shC; rw [HXE.out]
      rw [he] at this
      exact this
end Go.Proofs.Ytdkkpkgfiodlbaa

/- Layer 21's reference: Apply, the region that hands back a refused read. Printed by wip/gen/gen_ap21r.py. -/
namespace Go.Proofs.Ytdkkpkgfiodlbaa
open Go.RowKit Go.Maps
attribute [local go_sem] Oper.semAt_some

theorem ap_later {W W' : World} {X : Nat} {c0 c1 c2 c3 c4 c5 c6 c7 : Value} (h : W.cell? ⟨X, 0, none⟩ = some c0 ∧ W.cell? ⟨X, 1, none⟩ = some c1 ∧ W.cell? ⟨X, 2, none⟩ = some c2 ∧ W.cell? ⟨X, 3, none⟩ = some c3 ∧ W.cell? ⟨X, 4, none⟩ = some c4 ∧ W.cell? ⟨X, 5, none⟩ = some c5 ∧ W.cell? ⟨X, 6, none⟩ = some c6 ∧ W.cell? ⟨X, 7, none⟩ = some c7) (hb : Below W.heap.size W W') : W'.cell? ⟨X, 0, none⟩ = some c0 ∧ W'.cell? ⟨X, 1, none⟩ = some c1 ∧ W'.cell? ⟨X, 2, none⟩ = some c2 ∧ W'.cell? ⟨X, 3, none⟩ = some c3 ∧ W'.cell? ⟨X, 4, none⟩ = some c4 ∧ W'.cell? ⟨X, 5, none⟩ = some c5 ∧ W'.cell? ⟨X, 6, none⟩ = some c6 ∧ W'.cell? ⟨X, 7, none⟩ = some c7 :=
  ⟨cell_later hb h.1, cell_later hb h.2.1, cell_later hb h.2.2.1, cell_later hb h.2.2.2.1, cell_later hb h.2.2.2.2.1, cell_later hb h.2.2.2.2.2.1, cell_later hb h.2.2.2.2.2.2.1, cell_later hb h.2.2.2.2.2.2.2⟩
set_option maxRecDepth 100000 in
theorem fr152 (f : Nat → Value) : frN 152 f = (⟨#[f 0, f 1, f 2, f 3, f 4, f 5, f 6, f 7, f 8, f 9, f 10, f 11, f 12, f 13, f 14, f 15, f 16, f 17, f 18, f 19, f 20, f 21, f 22, f 23, f 24, f 25, f 26, f 27, f 28, f 29, f 30, f 31, f 32, f 33, f 34, f 35, f 36, f 37, f 38, f 39, f 40, f 41, f 42, f 43, f 44, f 45, f 46, f 47, f 48, f 49, f 50, f 51, f 52, f 53, f 54, f 55, f 56, f 57, f 58, f 59, f 60, f 61, f 62, f 63, f 64, f 65, f 66, f 67, f 68, f 69, f 70, f 71, f 72, f 73, f 74, f 75, f 76, f 77, f 78, f 79, f 80, f 81, f 82, f 83, f 84, f 85, f 86, f 87, f 88, f 89, f 90, f 91, f 92, f 93, f 94, f 95, f 96, f 97, f 98, f 99, f 100, f 101, f 102, f 103, f 104, f 105, f 106, f 107, f 108, f 109, f 110, f 111, f 112, f 113, f 114, f 115, f 116, f 117, f 118, f 119, f 120, f 121, f 122, f 123, f 124, f 125, f 126, f 127, f 128, f 129, f 130, f 131, f 132, f 133, f 134, f 135, f 136, f 137, f 138, f 139, f 140, f 141, f 142, f 143, f 144, f 145, f 146, f 147, f 148, f 149, f 150, f 151], []⟩ : Act) := rfl
theorem below_undrew {B : Nat} {a w : World} (h : Below B a.drew w) : Below B a w := ⟨h.os, h.tape, h.output, h.size, h.block⟩
theorem ap_keep {W : World} {X b : Nat} {c0 c1 c2 c3 c4 c5 c6 c7 u0 u1 u2 u3 u4 u5 u6 u7 : Value} (h : W.cell? ⟨X, 0, none⟩ = some c0 ∧ W.cell? ⟨X, 1, none⟩ = some c1 ∧ W.cell? ⟨X, 2, none⟩ = some c2 ∧ W.cell? ⟨X, 3, none⟩ = some c3 ∧ W.cell? ⟨X, 4, none⟩ = some c4 ∧ W.cell? ⟨X, 5, none⟩ = some c5 ∧ W.cell? ⟨X, 6, none⟩ = some c6 ∧ W.cell? ⟨X, 7, none⟩ = some c7) (hb : X ≠ b) : ((((((((W.setCell ⟨b, 0, none⟩ (u0)).setCell ⟨b, 1, none⟩ (u1)).setCell ⟨b, 2, none⟩ (u2)).setCell ⟨b, 3, none⟩ (u3)).setCell ⟨b, 4, none⟩ (u4)).setCell ⟨b, 5, none⟩ (u5)).setCell ⟨b, 6, none⟩ (u6)).setCell ⟨b, 7, none⟩ (u7)).cell? ⟨X, 0, none⟩ = some c0 ∧ ((((((((W.setCell ⟨b, 0, none⟩ (u0)).setCell ⟨b, 1, none⟩ (u1)).setCell ⟨b, 2, none⟩ (u2)).setCell ⟨b, 3, none⟩ (u3)).setCell ⟨b, 4, none⟩ (u4)).setCell ⟨b, 5, none⟩ (u5)).setCell ⟨b, 6, none⟩ (u6)).setCell ⟨b, 7, none⟩ (u7)).cell? ⟨X, 1, none⟩ = some c1 ∧ ((((((((W.setCell ⟨b, 0, none⟩ (u0)).setCell ⟨b, 1, none⟩ (u1)).setCell ⟨b, 2, none⟩ (u2)).setCell ⟨b, 3, none⟩ (u3)).setCell ⟨b, 4, none⟩ (u4)).setCell ⟨b, 5, none⟩ (u5)).setCell ⟨b, 6, none⟩ (u6)).setCell ⟨b, 7, none⟩ (u7)).cell? ⟨X, 2, none⟩ = some c2 ∧ ((((((((W.setCell ⟨b, 0, none⟩ (u0)).setCell ⟨b, 1, none⟩ (u1)).setCell ⟨b, 2, none⟩ (u2)).setCell ⟨b, 3, none⟩ (u3)).setCell ⟨b, 4, none⟩ (u4)).setCell ⟨b, 5, none⟩ (u5)).setCell ⟨b, 6, none⟩ (u6)).setCell ⟨b, 7, none⟩ (u7)).cell? ⟨X, 3, none⟩ = some c3 ∧ ((((((((W.setCell ⟨b, 0, none⟩ (u0)).setCell ⟨b, 1, none⟩ (u1)).setCell ⟨b, 2, none⟩ (u2)).setCell ⟨b, 3, none⟩ (u3)).setCell ⟨b, 4, none⟩ (u4)).setCell ⟨b, 5, none⟩ (u5)).setCell ⟨b, 6, none⟩ (u6)).setCell ⟨b, 7, none⟩ (u7)).cell? ⟨X, 4, none⟩ = some c4 ∧ ((((((((W.setCell ⟨b, 0, none⟩ (u0)).setCell ⟨b, 1, none⟩ (u1)).setCell ⟨b, 2, none⟩ (u2)).setCell ⟨b, 3, none⟩ (u3)).setCell ⟨b, 4, none⟩ (u4)).setCell ⟨b, 5, none⟩ (u5)).setCell ⟨b, 6, none⟩ (u6)).setCell ⟨b, 7, none⟩ (u7)).cell? ⟨X, 5, none⟩ = some c5 ∧ ((((((((W.setCell ⟨b, 0, none⟩ (u0)).setCell ⟨b, 1, none⟩ (u1)).setCell ⟨b, 2, none⟩ (u2)).setCell ⟨b, 3, none⟩ (u3)).setCell ⟨b, 4, none⟩ (u4)).setCell ⟨b, 5, none⟩ (u5)).setCell ⟨b, 6, none⟩ (u6)).setCell ⟨b, 7, none⟩ (u7)).cell? ⟨X, 6, none⟩ = some c6 ∧ ((((((((W.setCell ⟨b, 0, none⟩ (u0)).setCell ⟨b, 1, none⟩ (u1)).setCell ⟨b, 2, none⟩ (u2)).setCell ⟨b, 3, none⟩ (u3)).setCell ⟨b, 4, none⟩ (u4)).setCell ⟨b, 5, none⟩ (u5)).setCell ⟨b, 6, none⟩ (u6)).setCell ⟨b, 7, none⟩ (u7)).cell? ⟨X, 7, none⟩ = some c7 :=
  ⟨chain8_cell h.1 hb, chain8_cell h.2.1 hb, chain8_cell h.2.2.1 hb, chain8_cell h.2.2.2.1 hb, chain8_cell h.2.2.2.2.1 hb, chain8_cell h.2.2.2.2.2.1 hb, chain8_cell h.2.2.2.2.2.2.1 hb, chain8_cell h.2.2.2.2.2.2.2 hb⟩
theorem ap_froz {W W' : World} {b o : Nat} {v : Value} (h : Below W.heap.size W W') (hv : W.cell? ⟨b, o, none⟩ = some v) (j : Nat) : W'.frozen? ⟨b, j, none⟩ = W.frozen? ⟨b, j, none⟩ := by
  have := World.block_lt_of_cell? W _ hv
  unfold World.frozen?
  rw [h.block _ this]
noncomputable def cAp14 : Code := (Try.f16.body.bind (regionOf 14)).getD .skip
set_option maxRecDepth 1000000 in
set_option maxHeartbeats 16000000 in
theorem reg14 {A : World} {x : RSh} {a1 a2 a3 a4 : Option Addr} {c1 c2 c3 c4 : Nat} {X : Nat} {by_ err hm : Int} (w7 : World) (f : Nat → Value) (KX : Act → World → Prop)
    (x7 : w7.drew.cell? ⟨X, 0, none⟩ = some (.bool x.m.s.serial) ∧ w7.drew.cell? ⟨X, 1, none⟩ = some (vi x.m.s.bugs) ∧ w7.drew.cell? ⟨X, 2, none⟩ = some (.slice a1 x.m.s.vs.length c1) ∧ w7.drew.cell? ⟨X, 3, none⟩ = some (.slice a2 x.m.s.ws.length c2) ∧ w7.drew.cell? ⟨X, 4, none⟩ = some (.slice a3 x.m.s.es.length c3) ∧ w7.drew.cell? ⟨X, 5, none⟩ = some (vi x.m.stamps) ∧ w7.drew.cell? ⟨X, 6, none⟩ = some (vi x.m.now) ∧ w7.drew.cell? ⟨X, 7, none⟩ = some (.slice a4 x.m.ds.length c4)) (q7 : w7.drew.cell? ⟨X + 1 + 1, 0, none⟩ = some (.bool false) ∧ w7.drew.cell? ⟨X + 1 + 1, 1, none⟩ = some (vi 0) ∧ w7.drew.cell? ⟨X + 1 + 1, 2, none⟩ = some (.slice none 0 0) ∧ w7.drew.cell? ⟨X + 1 + 1, 3, none⟩ = some (.slice none 0 0) ∧ w7.drew.cell? ⟨X + 1 + 1, 4, none⟩ = some (.slice none 0 0) ∧ w7.drew.cell? ⟨X + 1 + 1, 5, none⟩ = some (vi 0) ∧ w7.drew.cell? ⟨X + 1 + 1, 6, none⟩ = some (vi 0) ∧ w7.drew.cell? ⟨X + 1 + 1, 7, none⟩ = some (.slice none 0 0)) (z7 : w7.drew.cell? ⟨X + 1 + 1 + 1, 0, none⟩ = some (vi 0) ∧ w7.drew.cell? ⟨X + 1 + 1 + 1, 1, none⟩ = some (.slice none 0 0) ∧ w7.drew.cell? ⟨X + 1 + 1 + 1, 2, none⟩ = some (vi 0) ∧ w7.drew.cell? ⟨X + 1 + 1 + 1, 3, none⟩ = some (vi 0) ∧ w7.drew.cell? ⟨X + 1 + 1 + 1, 4, none⟩ = some (vi 0) ∧ w7.drew.cell? ⟨X + 1 + 1 + 1, 5, none⟩ = some (vi 0) ∧ w7.drew.cell? ⟨X + 1 + 1 + 1, 6, none⟩ = some (.bool false) ∧ w7.drew.cell? ⟨X + 1 + 1 + 1, 7, none⟩ = some (vi 0)) (qf : ∀ j, w7.drew.frozen? ⟨X + 1 + 1, j, none⟩ = false) (zf : ∀ j, w7.drew.frozen? ⟨X + 1 + 1 + 1, j, none⟩ = false)
    (hA7 : ALe A w7) (hAX : A.heap.size ≤ X) (hXw : X < w7.heap.size) (hSz : w7.heap[X + 1 + 1]? = some (.cells #[.bool false, vi 0, .slice none 0 0, .slice none 0 0, .slice none 0 0, vi 0, vi 0, .slice none 0 0] 54)) (hAz : w7.heap[X + 1 + 1 + 1]? = some (.cells #[vi 0, .slice none 0 0, vi 0, vi 0, vi 0, vi 0, .bool false, vi 0] 58))
    (hc : ∀ W, ALe A W → Calls Try.prog 38 #[.agg #[.bool x.m.s.serial, vi x.m.s.bugs, .slice a1 x.m.s.vs.length c1, .slice a2 x.m.s.ws.length c2, .slice a3 x.m.s.es.length c3, vi x.m.stamps, vi x.m.now, .slice a4 x.m.ds.length c4], vi by_] W (fun e w' => e = .returned (vi hm) ∧ Hid (Below W.heap.size W w')))
    (e2 : f 2 = .pointer (some ⟨X, 0, none⟩)) (e4 : f 4 = .pointer (some ⟨X + 1 + 1, 0, none⟩)) (e5 : f 5 = .pointer (some ⟨X + 1 + 1 + 1, 0, none⟩)) (e10 : f 10 = vi by_) (e11 : f 11 = vi err)
    (hK : ∀ (l : List Value) (wx : World), l.length = 152 → slotsOf l 4 = .pointer (some ⟨X + 1 + 1, 0, none⟩) ∧ slotsOf l 5 = .pointer (some ⟨X + 1 + 1 + 1, 0, none⟩) → (wx.heap[X + 1 + 1]? = some (.cells #[.bool x.m.s.serial, vi x.m.s.bugs, .slice a1 x.m.s.vs.length c1, .slice a2 x.m.s.ws.length c2, .slice a3 x.m.s.es.length c3, vi x.m.stamps, vi x.m.now, .slice a4 x.m.ds.length c4] 54) ∧ wx.heap[X + 1 + 1 + 1]? = some (.cells #[vi err, .slice none 0 0, vi 0, vi by_, vi hm, vi 0, .bool false, vi 0] 58) ∧ (∀ j, j < w7.heap.size → j ≠ X + 1 + 1 → j ≠ X + 1 + 1 + 1 → wx.heap[j]? = w7.heap[j]?) ∧ Below X w7 wx) → KX ⟨l.toArray, []⟩ wx) :
    Code.wp Try.prog cAp14 (OnlyN KX) (frN 152 f) w7 := by
  have HC := Lib.hid hc
  have FIN := Lib.hid hK
  have hXS : X ≠ X + 1 + 1 := by omega
  have hXA : X ≠ X + 1 + 1 + 1 := by omega
  have HBa := Lib.hid (show ALe A w7.drew from hA7.drew)
  have HBb := Lib.hid (show ALe A ((((((((w7.drew.setCell ⟨X + 1 + 1, 0, none⟩ (.bool x.m.s.serial)).setCell ⟨X + 1 + 1, 1, none⟩ (vi x.m.s.bugs)).setCell ⟨X + 1 + 1, 2, none⟩ (.slice a1 x.m.s.vs.length c1)).setCell ⟨X + 1 + 1, 3, none⟩ (.slice a2 x.m.s.ws.length c2)).setCell ⟨X + 1 + 1, 4, none⟩ (.slice a3 x.m.s.es.length c3)).setCell ⟨X + 1 + 1, 5, none⟩ (vi x.m.stamps)).setCell ⟨X + 1 + 1, 6, none⟩ (vi x.m.now)).setCell ⟨X + 1 + 1, 7, none⟩ (.slice a4 x.m.ds.length c4)) from hA7.drew.trans (rn_below8 (.bool x.m.s.serial) (vi x.m.s.bugs) (.slice a1 x.m.s.vs.length c1) (.slice a2 x.m.s.ws.length c2) (.slice a3 x.m.s.es.length c3) (vi x.m.stamps) (vi x.m.now) (.slice a4 x.m.ds.length c4) (by omega)))
  have sC := ap_keep (b := X + 1 + 1) (u0 := .bool x.m.s.serial) (u1 := vi x.m.s.bugs) (u2 := .slice a1 x.m.s.vs.length c1) (u3 := .slice a2 x.m.s.ws.length c2) (u4 := .slice a3 x.m.s.es.length c3) (u5 := vi x.m.stamps) (u6 := vi x.m.now) (u7 := .slice a4 x.m.ds.length c4) x7 hXS
  have HSC := Lib.hid sC
  have HS7 := Lib.hid x7
  obtain ⟨x0, x1, x2, x3, x4, x5, x6, x77⟩ := x7
  have HQ7 := Lib.hid q7
  have HZ7 := Lib.hid z7
  have HQF := Lib.hid qf
  have HZF := Lib.hid zf
  have HZC := Lib.hid (ap_keep (b := X + 1 + 1) (u0 := .bool x.m.s.serial) (u1 := vi x.m.s.bugs) (u2 := .slice a1 x.m.s.vs.length c1) (u3 := .slice a2 x.m.s.ws.length c2) (u4 := .slice a3 x.m.s.es.length c3) (u5 := vi x.m.stamps) (u6 := vi x.m.now) (u7 := .slice a4 x.m.ds.length c4) z7 (show X + 1 + 1 + 1 ≠ X + 1 + 1 by omega))
  obtain ⟨q0, q1, q2, q3, q4, q5, q6, q77⟩ := q7
  obtain ⟨z0, z1, z2, z3, z4, z5, z6, z77⟩ := z7
  have HE := Lib.hid (show ∀ w10, Below w7.heap.size w7 w10 → (((((((((((((((((w10.setCell ⟨X + 1 + 1, 0, none⟩ (.bool x.m.s.serial)).setCell ⟨X + 1 + 1, 1, none⟩ (vi x.m.s.bugs)).setCell ⟨X + 1 + 1, 2, none⟩ (.slice a1 x.m.s.vs.length c1)).setCell ⟨X + 1 + 1, 3, none⟩ (.slice a2 x.m.s.ws.length c2)).setCell ⟨X + 1 + 1, 4, none⟩ (.slice a3 x.m.s.es.length c3)).setCell ⟨X + 1 + 1, 5, none⟩ (vi x.m.stamps)).setCell ⟨X + 1 + 1, 6, none⟩ (vi x.m.now)).setCell ⟨X + 1 + 1, 7, none⟩ (.slice a4 x.m.ds.length c4)).setCell ⟨X + 1 + 1 + 1, 0, none⟩ (vi err)).setCell ⟨X + 1 + 1 + 1, 1, none⟩ (.slice none 0 0)).setCell ⟨X + 1 + 1 + 1, 2, none⟩ (vi 0)).setCell ⟨X + 1 + 1 + 1, 3, none⟩ (vi by_)).setCell ⟨X + 1 + 1 + 1, 4, none⟩ (vi hm)).setCell ⟨X + 1 + 1 + 1, 5, none⟩ (vi 0)).setCell ⟨X + 1 + 1 + 1, 6, none⟩ (.bool false)).setCell ⟨X + 1 + 1 + 1, 7, none⟩ (vi 0)).heap[X + 1 + 1]? = some (.cells #[.bool x.m.s.serial, vi x.m.s.bugs, .slice a1 x.m.s.vs.length c1, .slice a2 x.m.s.ws.length c2, .slice a3 x.m.s.es.length c3, vi x.m.stamps, vi x.m.now, .slice a4 x.m.ds.length c4] 54) ∧ ((((((((((((((((w10.setCell ⟨X + 1 + 1, 0, none⟩ (.bool x.m.s.serial)).setCell ⟨X + 1 + 1, 1, none⟩ (vi x.m.s.bugs)).setCell ⟨X + 1 + 1, 2, none⟩ (.slice a1 x.m.s.vs.length c1)).setCell ⟨X + 1 + 1, 3, none⟩ (.slice a2 x.m.s.ws.length c2)).setCell ⟨X + 1 + 1, 4, none⟩ (.slice a3 x.m.s.es.length c3)).setCell ⟨X + 1 + 1, 5, none⟩ (vi x.m.stamps)).setCell ⟨X + 1 + 1, 6, none⟩ (vi x.m.now)).setCell ⟨X + 1 + 1, 7, none⟩ (.slice a4 x.m.ds.length c4)).setCell ⟨X + 1 + 1 + 1, 0, none⟩ (vi err)).setCell ⟨X + 1 + 1 + 1, 1, none⟩ (.slice none 0 0)).setCell ⟨X + 1 + 1 + 1, 2, none⟩ (vi 0)).setCell ⟨X + 1 + 1 + 1, 3, none⟩ (vi by_)).setCell ⟨X + 1 + 1 + 1, 4, none⟩ (vi hm)).setCell ⟨X + 1 + 1 + 1, 5, none⟩ (vi 0)).setCell ⟨X + 1 + 1 + 1, 6, none⟩ (.bool false)).setCell ⟨X + 1 + 1 + 1, 7, none⟩ (vi 0)).heap[X + 1 + 1 + 1]? = some (.cells #[vi err, .slice none 0 0, vi 0, vi by_, vi hm, vi 0, .bool false, vi 0] 58) ∧ (∀ j, j < w7.heap.size → j ≠ X + 1 + 1 → j ≠ X + 1 + 1 + 1 → ((((((((((((((((w10.setCell ⟨X + 1 + 1, 0, none⟩ (.bool x.m.s.serial)).setCell ⟨X + 1 + 1, 1, none⟩ (vi x.m.s.bugs)).setCell ⟨X + 1 + 1, 2, none⟩ (.slice a1 x.m.s.vs.length c1)).setCell ⟨X + 1 + 1, 3, none⟩ (.slice a2 x.m.s.ws.length c2)).setCell ⟨X + 1 + 1, 4, none⟩ (.slice a3 x.m.s.es.length c3)).setCell ⟨X + 1 + 1, 5, none⟩ (vi x.m.stamps)).setCell ⟨X + 1 + 1, 6, none⟩ (vi x.m.now)).setCell ⟨X + 1 + 1, 7, none⟩ (.slice a4 x.m.ds.length c4)).setCell ⟨X + 1 + 1 + 1, 0, none⟩ (vi err)).setCell ⟨X + 1 + 1 + 1, 1, none⟩ (.slice none 0 0)).setCell ⟨X + 1 + 1 + 1, 2, none⟩ (vi 0)).setCell ⟨X + 1 + 1 + 1, 3, none⟩ (vi by_)).setCell ⟨X + 1 + 1 + 1, 4, none⟩ (vi hm)).setCell ⟨X + 1 + 1 + 1, 5, none⟩ (vi 0)).setCell ⟨X + 1 + 1 + 1, 6, none⟩ (.bool false)).setCell ⟨X + 1 + 1 + 1, 7, none⟩ (vi 0)).heap[j]? = w7.heap[j]?) ∧ Below X w7 ((((((((((((((((w10.setCell ⟨X + 1 + 1, 0, none⟩ (.bool x.m.s.serial)).setCell ⟨X + 1 + 1, 1, none⟩ (vi x.m.s.bugs)).setCell ⟨X + 1 + 1, 2, none⟩ (.slice a1 x.m.s.vs.length c1)).setCell ⟨X + 1 + 1, 3, none⟩ (.slice a2 x.m.s.ws.length c2)).setCell ⟨X + 1 + 1, 4, none⟩ (.slice a3 x.m.s.es.length c3)).setCell ⟨X + 1 + 1, 5, none⟩ (vi x.m.stamps)).setCell ⟨X + 1 + 1, 6, none⟩ (vi x.m.now)).setCell ⟨X + 1 + 1, 7, none⟩ (.slice a4 x.m.ds.length c4)).setCell ⟨X + 1 + 1 + 1, 0, none⟩ (vi err)).setCell ⟨X + 1 + 1 + 1, 1, none⟩ (.slice none 0 0)).setCell ⟨X + 1 + 1 + 1, 2, none⟩ (vi 0)).setCell ⟨X + 1 + 1 + 1, 3, none⟩ (vi by_)).setCell ⟨X + 1 + 1 + 1, 4, none⟩ (vi hm)).setCell ⟨X + 1 + 1 + 1, 5, none⟩ (vi 0)).setCell ⟨X + 1 + 1 + 1, 6, none⟩ (.bool false)).setCell ⟨X + 1 + 1 + 1, 7, none⟩ (vi 0))) from fun w10 hb => by
    have h1 := (hb.block _ (Array.getElem?_eq_some_iff.1 hSz).1).trans hSz
    have h2 := (hb.block _ (Array.getElem?_eq_some_iff.1 hAz).1).trans hAz
    have h := two_st (N := X) (.bool x.m.s.serial) (vi x.m.s.bugs) (.slice a1 x.m.s.vs.length c1) (.slice a2 x.m.s.ws.length c2) (.slice a3 x.m.s.es.length c3) (vi x.m.stamps) (vi x.m.now) (.slice a4 x.m.ds.length c4) (vi err) (.slice none 0 0) (vi 0) (vi by_) (vi hm) (vi 0) (.bool false) (vi 0) h1 h2 (by omega)
    exact ⟨h.1, h.2.1, fun j hj h3 h4 => (h.2.2.1 j h3 h4).trans (hb.block j hj), (hb.mono (by omega)).trans h.2.2.2⟩)
  clear hc hK hA7 sC hSz hAz
  rw [fr152, e2, e4, e5, e10, e11]
  clear e2 e4 e5 e10 e11
  conv => arg 2; whnf
  go_region_held3 (fun W : World => W.cell? ⟨X, 0, none⟩ = some (.bool x.m.s.serial) ∧ W.cell? ⟨X, 1, none⟩ = some (vi x.m.s.bugs) ∧ W.cell? ⟨X, 2, none⟩ = some (.slice a1 x.m.s.vs.length c1) ∧ W.cell? ⟨X, 3, none⟩ = some (.slice a2 x.m.s.ws.length c2) ∧ W.cell? ⟨X, 4, none⟩ = some (.slice a3 x.m.s.es.length c3) ∧ W.cell? ⟨X, 5, none⟩ = some (vi x.m.stamps) ∧ W.cell? ⟨X, 6, none⟩ = some (vi x.m.now) ∧ W.cell? ⟨X, 7, none⟩ = some (.slice a4 x.m.ds.length c4)) (first | with_reducible exact HS7.out | with_reducible exact HSC.out | with_reducible exact HS10.out | with_reducible exact ap_keep HS10.out hXS | with_reducible exact ap_keep HS10.out hXA | with_reducible exact ap_keep (ap_keep HS10.out hXS) hXA)
    (first
      | (go_at_call 38; with_reducible refine (HC.out _ HBa.out).mono ?_; rintro e10 w10 ⟨rfl, HB10⟩; have HS10 := Lib.hid (ap_later HS7.out HB10.out); obtain ⟨j0, j1, j2, j3, j4, j5, j6, j7⟩ := HS10.out; obtain ⟨p0, p1, p2, p3, p4, p5, p6, p7⟩ := ap_later HQ7.out HB10.out; obtain ⟨r0, r1, r2, r3, r4, r5, r6, r7⟩ := ap_later HZ7.out HB10.out; have pf := (fun j => (ap_froz HB10.out q0 j).trans (HQF.out j)); have rf := (fun j => (ap_froz HB10.out z0 j).trans (HZF.out j)))
      | (go_at_call 38; with_reducible refine (HC.out _ HBb.out).mono ?_; rintro e10 w10 ⟨rfl, HB10⟩; have HS10 := Lib.hid (ap_later HSC.out HB10.out); obtain ⟨r0, r1, r2, r3, r4, r5, r6, r7⟩ := ap_later HZC.out HB10.out; have rf := (fun j => (ap_froz HB10.out HZC.out.1 j).trans (HZF.out j))))
  all_goals first
    | exact FIN.out _ _ rfl ⟨rfl, rfl⟩ (HE.out w10 (below_undrew HB10.out))
    | skip
end Go.Proofs.Ytdkkpkgfiodlbaa
