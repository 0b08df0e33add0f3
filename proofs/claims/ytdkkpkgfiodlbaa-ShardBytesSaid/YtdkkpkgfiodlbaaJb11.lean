/- Texts of one proof, one behind the other: ShAp2, ShAp5, ShHead2, ShNow. -/
import Derived.Test.YtdkkpkgfiodlbaaJb10
import Derived.Test.YtdkkpkgfiodlbaaJb9
set_option linter.all false
/- (*shard.State).Apply: a Get. -/
namespace Go.Proofs.Ytdkkpkgfiodlbaa
open Go.RowKit Go.Maps

def GetsM (K : KeysL) (R : RdyL) (bugs txn t : Int) (ks vals : List Int) : Prop := vals.length = ks.length ∧ ∀ (j : Nat) (k v : Int), ks[j]? = some k → vals[j]? = some v → ∃ by_, ReadM K R bugs txn k t v by_ 0
theorem GetsM.snoc {K : KeysL} {R : RdyL} {bugs txn t : Int} {ks vals : List Int} {k v by_ : Int} (h : GetsM K R bugs txn t ks vals) (hr : ReadM K R bugs txn k t v by_ 0) : GetsM K R bugs txn t (ks ++ [k]) (vals ++ [v]) := by
  refine ⟨by simp [h.1], fun j k' v' h1 h2 => ?_⟩
  by_cases hj : j < ks.length
  · rw [List.getElem?_append_left hj] at h1
    rw [List.getElem?_append_left (by rw [h.1]; exact hj)] at h2
    exact h.2 j k' v' h1 h2
  · rw [List.getElem?_append_right (by omega)] at h1
    rw [List.getElem?_append_right (by rw [h.1]; omega), h.1] at h2
    have h0 : j - ks.length = 0 := by have := (List.getElem?_eq_some_iff.1 h1).1; simp at this; omega
    rw [h0] at h1 h2
    simp at h1 h2
    subst h1 h2
    exact ⟨by_, hr⟩
def GetP (bugs now : Int) (K : KeysL) (R : RdyL) (E D : EndL) (r : Rdy) (a : Ans) (now' : Int) (K' : KeysL) (R' : RdyL) (E' D' : EndL) : Prop :=
  ((∃ vals, a = ⟨0, vals, 0, 0, 0, zeroE'⟩ ∧ GetsM K R bugs r.txn r.start r.reads vals) ∨ (∃ j k v by_ err home vals, GetsM K R bugs r.txn r.start (r.reads.take j) vals ∧ r.reads[j]? = some k ∧ ReadM K R bugs r.txn k r.start v by_ err ∧ err ≠ 0 ∧ a = ⟨err, [], 0, by_, home, zeroE'⟩ ∧ LockP R by_ err home)) ∧ now' = now ∧ K' = K ∧ R' = R ∧ E' = E ∧ D' = D
theorem viC_snoc (l : List Int) (x : Int) : (l ++ [x]).flatMap viC = l.flatMap viC ++ [vi x] := by simp [viC]
set_option maxRecDepth 100000 in
set_option maxHeartbeats 8000000 in
theorem ShT.get {N base p ps mk mr me md : Nat} {serial : Bool} {bugs stamps now : Int} {K : KeysL} {R : RdyL} {E D : EndL} (c : Cmd21) {v : Value} (w : World) (h : ShT N base p ps mk mr me md serial bugs stamps now K R E D w) (hi : CmdI c) (hk : c.k = 2)
    (hv : Src w v 1 (btBytes (cmdL c)).length ((btBytes (cmdL c)).map u8)) {n : Nat} (hn : n ≤ 900) (hI : ShI n K R) :
    Calls Try.prog 11 #[.pointer (some ⟨p, 0, none⟩), v] w (AppT N base p ps mk mr me md serial bugs stamps (GetP bugs now K R E D c.r) w) := by
  have HI := Lib.hid hi
  have HK := Lib.hid hk
  have HH := Lib.hid (h.later ((Below.refl w.heap.size w).alloc (Nat.le_refl _) (.cells ansZ 37)))
  have HV := Lib.hid (hv.below ((Below.refl w.heap.size w).alloc (Nat.le_refl _) (.cells ansZ 37)))
  have HA0 := Lib.hid (Bt.alloc_at w (.cells ansZ 37))
  have HB0 := Lib.hid ((Below.refl w.heap.size w).alloc (Nat.le_refl _) (.cells ansZ 37))
  have hcl : (btBytes (cmdL c)).length ≤ 1048576 := by rw [btBytes_length]; have := cmdL_length hi; omega
  obtain ⟨bs, hbs⟩ : ∃ bs, bs = btBytes (cmdL c) := ⟨_, rfl⟩
  rw [← hbs] at HV hcl
  have HBS := Lib.hid hbs
  have hpw : p < w.heap.size := (Array.getElem?_eq_some_iff.1 h.s.blk).1
  have H0 := Lib.hid h
  have HII := Lib.hid hI
  clear h hi hk hv hbs hI
  go_enter Try.func11, Try.ntmps11
  go_upto_region 1 with fail
  generalize w.alloc (.cells ansZ 37) = w1 at *
  obtain ⟨A, hA⟩ : ∃ A, A = w.heap.size := ⟨_, rfl⟩
  rw [← hA] at HA0 ⊢
  have HAE := Lib.hid hA
  have hAw : A < w1.heap.size := (Array.getElem?_eq_some_iff.1 HA0.out).1
  clear hA
  go_wp2_with fail
  refine (shRead_call (bs := bs) w1 HV.out (by rw [HBS.out]; exact btBytes_lt _) hcl).mono ?_
  rintro e2 w2 ⟨c', wv, rv, err, rfl, hrd⟩
  rw [HBS.out] at hrd
  obtain ⟨rfl, rfl⟩ := (cmd_back HI.out hrd).1 ⟨by rw [HK.out]; decide, by rw [HK.out]; decide⟩
  have hkl := killK_len c.r
  have hows : w2.ownsRow w1.heap.size 104 3 wv c.r.writes.length ((killK c.r).writes.flatMap opV) := by have := hrd.ws; unfold OwOps at this; rw [show (killC c).r.writes.length = c.r.writes.length from hkl] at this; exact this
  have hors : w2.ownsRow w1.heap.size 3 1 rv c.r.reads.length (c.r.reads.flatMap viC) := hrd.rs
  obtain ⟨aw, cw, rfl⟩ := Bt.own_shape hows
  obtain ⟨ar, cr, rfl⟩ := Bt.own_shape hors
  have HWS := Lib.hid hrd.ws
  have HRS := Lib.hid hrd.rs
  have HH2 := Lib.hid (HH.out.later hrd.bel)
  have HA2 := Lib.hid ((hrd.bel.block A hAw).trans HA0.out)
  have HB2 := Lib.hid (HB0.out.trans (hrd.bel.mono HB0.out.size))
  have hA2w : A < w2.heap.size := Nat.lt_of_lt_of_le hAw hrd.bel.size
  have hw12 := hrd.bel.size
  have HKL := Lib.hid hkl
  clear hrd hkl hows hors HH HA0 HB0 HV
  unfold cmdV cmdC
  dsimp only [killC, killK]
  have HC3 := Lib.hid (Bt.alloc_at w2 (.cells #[vi c.k, vi c.r.txn, vi c.r.home, vi c.r.start, .slice aw c.r.writes.length cw, .slice ar c.r.reads.length cr, vi c.e.txn, .bool c.e.commit, vi c.e.at_] 33))
  have HH3 := Lib.hid (HH2.out.later ((Below.refl w2.heap.size w2).alloc (Nat.le_refl _) (.cells #[vi c.k, vi c.r.txn, vi c.r.home, vi c.r.start, .slice aw c.r.writes.length cw, .slice ar c.r.reads.length cr, vi c.e.txn, .bool c.e.commit, vi c.e.at_] 33)))
  have HA3 := Lib.hid ((Below.heap_alloc w2 (.cells #[vi c.k, vi c.r.txn, vi c.r.home, vi c.r.start, .slice aw c.r.writes.length cw, .slice ar c.r.reads.length cr, vi c.e.txn, .bool c.e.commit, vi c.e.at_] 33) A hA2w).trans HA2.out)
  have HB3 := Lib.hid (HB2.out.alloc HB2.out.size (.cells #[vi c.k, vi c.r.txn, vi c.r.home, vi c.r.start, .slice aw c.r.writes.length cw, .slice ar c.r.reads.length cr, vi c.e.txn, .bool c.e.commit, vi c.e.at_] 33))
  have HWS3 := Lib.hid (own_below HWS.out ((Below.refl w2.heap.size w2).alloc (Nat.le_refl _) (.cells #[vi c.k, vi c.r.txn, vi c.r.home, vi c.r.start, .slice aw c.r.writes.length cw, .slice ar c.r.reads.length cr, vi c.e.txn, .bool c.e.commit, vi c.e.at_] 33)))
  have HRS3 := Lib.hid (own_below HRS.out ((Below.refl w2.heap.size w2).alloc (Nat.le_refl _) (.cells #[vi c.k, vi c.r.txn, vi c.r.home, vi c.r.start, .slice aw c.r.writes.length cw, .slice ar c.r.reads.length cr, vi c.e.txn, .bool c.e.commit, vi c.e.at_] 33)))
  go_upto_region 4 with fail
  clear HH2 HA2 HB2 HWS HRS
  generalize w2.alloc (.cells #[vi c.k, vi c.r.txn, vi c.r.home, vi c.r.start, .slice aw c.r.writes.length cw, .slice ar c.r.reads.length cr, vi c.e.txn, .bool c.e.commit, vi c.e.at_] 33) = w3 at *
  have hC3w : w2.heap.size < w3.heap.size := (Array.getElem?_eq_some_iff.1 HC3.out).1
  obtain ⟨C, hC⟩ : ∃ C, C = w2.heap.size := ⟨_, rfl⟩
  rw [← hC] at HC3 hC3w ⊢
  have HCE := Lib.hid hC
  have hAC : A ≠ C := by omega
  have hpA : p < A := by have := HAE.out; omega
  clear hC
  have k0 : w3.cell? ⟨C, 0, none⟩ = some (vi c.k) := by rw [Bt.cell_of HC3.out]; rfl
  have b1 : (c.k == 1) = false := by rw [HK.out]; rfl
  have b2 : (c.k == 2) = true := by rw [HK.out]; rfl
  have b3 : (c.k == 3) = false := by rw [HK.out]; rfl
  have b4 : (c.k == 4) = false := by rw [HK.out]; rfl
  have hBw : w.heap.size ≤ w3.heap.size := HB3.out.size
  have q0 : w3.cell? ⟨p, 0, none⟩ = some (.pointer (some ⟨ps, 0, none⟩)) := by rw [cell_of HH3.out.s.blk]; rfl
  have z1 : w3.cell? ⟨C, 1, none⟩ = some (vi c.r.txn) := by rw [Bt.cell_of HC3.out]; rfl
  have z3 : w3.cell? ⟨C, 3, none⟩ = some (vi c.r.start) := by rw [Bt.cell_of HC3.out]; rfl
  have z5 : w3.cell? ⟨C, 5, none⟩ = some (.slice ar c.r.reads.length cr) := by rw [Bt.cell_of HC3.out]; rfl
  have HS3 := Lib.hid (show ∀ W, Below w3.heap.size w3 W → W.cell? ⟨p, 0, none⟩ = some (.pointer (some ⟨ps, 0, none⟩)) ∧ W.cell? ⟨C, 1, none⟩ = some (vi c.r.txn) ∧ W.cell? ⟨C, 3, none⟩ = some (vi c.r.start) from fun W hW => ⟨cell_later hW q0, cell_later hW z1, cell_later hW z3⟩)
  have HRL := Lib.hid (show R.length ≤ 1048576 by have := HII.out.rlen; omega)
  have HRI := Lib.hid (show RdInts w3 (.slice ar c.r.reads.length cr) c.r.reads from own_rds (enc := viC) (fun _ => rfl) HRS3.out (fun x hx => ⟨rfl, HI.out.r.rs x hx⟩))
  have hrl := HI.out.lr
  clear q0 z1 z3
  go_wp2_with fail
  clear k0 z5
  go_loopw [7, 61] (fun vv i wr => ∃ (k : Nat) (vals : List Int), k ≤ c.r.reads.length ∧ i = vi k ∧ Hid (wr.ownsRow w3.heap.size 3 1 vv vals.length (vals.flatMap viC) ∧ Below w3.heap.size w3 wr ∧ vals.length = k ∧ GetsM K R bugs c.r.txn c.r.start (c.r.reads.take k) vals)) (fun _ i _ => c.r.reads.length - (intOf i).toNat)
  case atStart => exact ⟨0, [], Nat.zero_le _, rfl, Lib.hid ⟨World.ownsRow_nil _ _ _ _, Below.refl _ _, rfl, ⟨rfl, fun j k v h1 _ => by simp at h1⟩⟩⟩
  case round =>
    obtain ⟨wj, rfl⟩ : ∃ wj : World, wj = wr := ⟨_, rfl⟩
    obtain ⟨k, vals, hk, rfl, HJ⟩ := hrel
    have hjs := HJ.out.2.1.size
    obtain ⟨av, cv, rfl⟩ := own_shape HJ.out.1
    have hvl := HJ.out.2.2.1
    by_cases hlt : k < c.r.reads.length
    · have k1 : decide ((k : Int) < c.r.reads.length) = true := decide_eq_true (by omega)
      have hki : (k : Int) < c.r.reads.length := by omega
      have hwk : IntKind.i64.wrap ((k : Int) + 1) = (k : Int) + 1 := IntWalk.i64_in _ (by omega)
      have hs1 : vals.length + 1 ≤ 68719476736 := by omega
      have HVL := Lib.hid hvl
      clear hvl
      obtain ⟨key, hkey⟩ := some_at hlt
      have HKY := Lib.hid hkey
      have HTK := Lib.hid (take_at hkey)
      have hik := HI.out.r.rs key (List.mem_of_getElem? hkey)
      obtain ⟨_, _, _, he, _, _, hc⟩ := (HRI.out.later HJ.out.2.1).at
      obtain ⟨g, off, ha, c0, -⟩ := hc k key hkey
      simp only [Value.slice.injEq] at he
      obtain ⟨rfl, -, -⟩ := he
      subst ha
      have HHJ := Lib.hid ((HH3.out.later HJ.out.2.1).later ((Below.refl wj.heap.size wj).drew))
      have HBD := Lib.hid (HJ.out.2.1.trans ((Below.refl w3.heap.size wj).drew))
      clear hc hkey
      go_upto_region 17 with fail
      clear c0
      go_cut [10, 11, 12, 61] from 61 to 91 (fun x y z i wx => i = vi k ∧ ∃ v by_ err, x = vi v ∧ y = vi by_ ∧ z = vi err ∧ ReadM K R bugs c.r.txn key c.r.start v by_ err ∧ Below wj.heap.size wj wx)
      case first =>
        go_region_held3 (fun W : World => W.cell? ⟨p, 0, none⟩ = some (.pointer (some ⟨ps, 0, none⟩)) ∧ W.cell? ⟨C, 1, none⟩ = some (vi c.r.txn) ∧ W.cell? ⟨C, 3, none⟩ = some (vi c.r.start))
          (first | with_reducible exact HS3.out _ HBD.out | with_reducible exact HS3.out _ HJ.out.2.1 | with_reducible exact HS3.out _ HBR.out)
          (first | (go_at_call 29; (with_reducible refine (read_call c.r.txn key c.r.start wj.drew HHJ.out.s.st HRL.out hik).mono ?_); rintro e4 w4 ⟨v, by_, err, rfl, hrm, hb4⟩; have HRM := Lib.hid hrm; have HB4 := Lib.hid (show Below wj.heap.size wj w4 from ((Below.refl wj.heap.size wj).drew).trans hb4); have HBR := Lib.hid (HJ.out.2.1.trans (HB4.out.mono hjs)); clear hrm hb4))
        all_goals
          go_wp2
          go_meet
          exact ⟨rfl, v, by_, err, rfl, rfl, rfl, HRM.out, HB4.out⟩
      case rest =>
        obtain ⟨w4, rfl⟩ : ∃ w4 : World, w4 = wc := ⟨_, rfl⟩
        obtain ⟨rfl, v, by_, err, rfl, rfl, rfl, hrm, hb4⟩ := hcut
        have HRM := Lib.hid hrm
        have HB4 := Lib.hid hb4
        have HB34 := Lib.hid (HJ.out.2.1.trans (hb4.mono hjs))
        have hs4 := hb4.size
        clear hrm hb4
        by_cases h0 : err = 0
        · have e0 : (err != 0) = false := by simp [h0]
          have HE0 := Lib.hid h0
          have HOV := Lib.hid (own_below HJ.out.1 HB4.out)
          clear h0
          go_wp2_with (refine wpList_append_src rfl (.tmp 87) (.tmp 89) 27 rfl eltI w3.heap.size vals.length _ (HOV.out.alloc _) rfl 1 [vi v] (src_new (cs := #[vi v]) rfl rfl) rfl (by intro u hu; simp at hu; subst hu; rfl) hs1 (by omega) (by simp; omega) ?_; intro v5 w5 ho5 hg5 _; have HO5 := Lib.hid ho5; have HG5 := Lib.hid hg5; clear ho5 hg5)
          refine ⟨⟨k + 1, vals ++ [v], by omega, by go_num, Lib.hid ⟨?_, ?_, ?_, ?_⟩⟩, by simp only [intOf]; omega⟩
          · rw [viC_snoc, List.length_append]; exact HO5.out
          · exact HB34.out.trans (((Below.refl _ _).alloc HB34.out.size _).trans (below_grown HG5.out (by simp; omega) (fun j hj => (HOV.out.lt j hj).1)))
          · simp [HVL.out]
          · rw [HTK.out]
            have hr := HRM.out
            rw [HE0.out] at hr
            exact HJ.out.2.2.2.snoc hr
        · have e0 : (err != 0) = true := by simp [h0]
          have HE0 := Lib.hid h0
          have HH4 := Lib.hid (HH3.out.later HB34.out)
          clear h0
          go_upto_region 19 with fail
          go_wp2_with fail
          refine (locked_call by_ err w4 HH4.out (n := n) (by omega) HII.out).mono ?_
          rintro e5 w5 ⟨home, rfl, hb5, hl1, hl2⟩
          have HL5 := Lib.hid (show LockP R by_ err home from ⟨hl1, hl2⟩)
          have HST5 := Lib.hid (HH4.out.later hb5)
          have HB35 := Lib.hid (HB34.out.trans (hb5.mono HB34.out.size))
          have HA5 := Lib.hid ((HB35.out.block A (Array.getElem?_eq_some_iff.1 HA3.out).1).trans HA3.out)
          clear hb5 hl1 hl2
          unfold ansV ansC
          dsimp only
          have xf : ∀ o, w5.frozen? ⟨A, o, none⟩ = false := fun o => free_of HA5.out o
          have x0 : w5.cell? ⟨A, 0, none⟩ = some (vi 0) := by rw [Bt.cell_of HA5.out]; rfl
          have x1 : w5.cell? ⟨A, 1, none⟩ = some (.slice none 0 0) := by rw [Bt.cell_of HA5.out]; rfl
          have x2 : w5.cell? ⟨A, 2, none⟩ = some (vi 0) := by rw [Bt.cell_of HA5.out]; rfl
          have x3 : w5.cell? ⟨A, 3, none⟩ = some (vi 0) := by rw [Bt.cell_of HA5.out]; rfl
          have x4 : w5.cell? ⟨A, 4, none⟩ = some (vi 0) := by rw [Bt.cell_of HA5.out]; rfl
          have x5 : w5.cell? ⟨A, 5, none⟩ = some (vi 0) := by rw [Bt.cell_of HA5.out]; rfl
          have x6 : w5.cell? ⟨A, 6, none⟩ = some (.bool false) := by rw [Bt.cell_of HA5.out]; rfl
          have x7 : w5.cell? ⟨A, 7, none⟩ = some (vi 0) := by rw [Bt.cell_of HA5.out]; rfl
          go_wp2_with fail
          change bodyPost _ _ _ _ _ (w5.setCells A 0 [vi err, .slice none 0 0, vi 0, vi by_, vi home, vi 0, .bool false, vi 0])
          have HSF := Lib.hid (HST5.out.setA HA5.out [vi err, .slice none 0 0, vi 0, vi by_, vi home, vi 0, .bool false, vi 0])
          have HTF := Lib.hid (fin_turns (A := A) (us := [vi err, .slice none 0 0, vi 0, vi by_, vi home, vi 0, .bool false, vi 0]) (bs := [p, md, mk, mr, me]) HB3.out (Turns.below HB35.out) (by rw [HAE.out]; exact Nat.le_refl _))
          have HZC := Lib.hid (show (w5.setCells A 0 [vi err, .slice none 0 0, vi 0, vi by_, vi home, vi 0, .bool false, vi 0]).heap[A]? = some (.cells #[vi err, .slice none 0 0, vi 0, vi by_, vi home, vi 0, .bool false, vi 0] 37) from setCells_all (cs := [vi err, .slice none 0 0, vi 0, vi by_, vi home, vi 0, .bool false, vi 0]) HA5.out rfl)
          clear x0 x1 x2 x3 x4 x5 x6 x7 xf
          generalize w5.setCells A 0 [vi err, .slice none 0 0, vi 0, vi by_, vi home, vi 0, .bool false, vi 0] = wz at *
          have r0 : wz.cell? ⟨A, 0, none⟩ = some (vi err) := by rw [Bt.cell_of HZC.out]; rfl
          have r1 : wz.cell? ⟨A, 1, none⟩ = some (.slice none 0 0) := by rw [Bt.cell_of HZC.out]; rfl
          have r2 : wz.cell? ⟨A, 2, none⟩ = some (vi 0) := by rw [Bt.cell_of HZC.out]; rfl
          have r3 : wz.cell? ⟨A, 3, none⟩ = some (vi by_) := by rw [Bt.cell_of HZC.out]; rfl
          have r4 : wz.cell? ⟨A, 4, none⟩ = some (vi home) := by rw [Bt.cell_of HZC.out]; rfl
          have r5 : wz.cell? ⟨A, 5, none⟩ = some (vi 0) := by rw [Bt.cell_of HZC.out]; rfl
          have r6 : wz.cell? ⟨A, 6, none⟩ = some (.bool false) := by rw [Bt.cell_of HZC.out]; rfl
          have r7 : wz.cell? ⟨A, 7, none⟩ = some (vi 0) := by rw [Bt.cell_of HZC.out]; rfl
          exact bodyPost_ret (v := ansV ⟨err, [], 0, by_, home, zeroE'⟩ (.slice none 0 0)) (by simp [results, Try.results11, go_sem, ansV, ansC, r0, r1, r2, r3, r4, r5, r6, r7]) rfl ⟨⟨err, [], 0, by_, home, zeroE'⟩, .slice none 0 0, now, K, R, E, D, rfl, World.ownsRow_nil _ _ _ _, HSF.out, HTF.out, ⟨.inr ⟨k, key, v, by_, err, home, vals, HJ.out.2.2.2, HKY.out, HRM.out, HE0.out, rfl, HL5.out⟩, rfl, rfl, rfl, rfl, rfl⟩⟩
    · have k1 : decide ((k : Int) < c.r.reads.length) = false := decide_eq_false (by omega)
      have HKE := Lib.hid (show k = c.r.reads.length by omega)
      have HA5 := Lib.hid ((HJ.out.2.1.block A (Array.getElem?_eq_some_iff.1 HA3.out).1).trans HA3.out)
      have HST5 := Lib.hid (HH3.out.later HJ.out.2.1)
      clear hvl
      have xf : ∀ o, wj.frozen? ⟨A, o, none⟩ = false := fun o => free_of HA5.out o
      have x0 : wj.cell? ⟨A, 0, none⟩ = some (vi 0) := by rw [Bt.cell_of HA5.out]; rfl
      have x1 : wj.cell? ⟨A, 1, none⟩ = some (.slice none 0 0) := by rw [Bt.cell_of HA5.out]; rfl
      have x2 : wj.cell? ⟨A, 2, none⟩ = some (vi 0) := by rw [Bt.cell_of HA5.out]; rfl
      have x3 : wj.cell? ⟨A, 3, none⟩ = some (vi 0) := by rw [Bt.cell_of HA5.out]; rfl
      have x4 : wj.cell? ⟨A, 4, none⟩ = some (vi 0) := by rw [Bt.cell_of HA5.out]; rfl
      have x5 : wj.cell? ⟨A, 5, none⟩ = some (vi 0) := by rw [Bt.cell_of HA5.out]; rfl
      have x6 : wj.cell? ⟨A, 6, none⟩ = some (.bool false) := by rw [Bt.cell_of HA5.out]; rfl
      have x7 : wj.cell? ⟨A, 7, none⟩ = some (vi 0) := by rw [Bt.cell_of HA5.out]; rfl
      go_wp2_with fail
      change bodyPost _ _ _ _ _ (wj.setCells A 0 [vi 0, .slice av vals.length cv, vi 0, vi 0, vi 0, vi 0, .bool false, vi 0])
      have HSF := Lib.hid (HST5.out.setA HA5.out [vi 0, .slice av vals.length cv, vi 0, vi 0, vi 0, vi 0, .bool false, vi 0])
      have HTF := Lib.hid (fin_turns (A := A) (us := [vi 0, .slice av vals.length cv, vi 0, vi 0, vi 0, vi 0, .bool false, vi 0]) (bs := [p, md, mk, mr, me]) HB3.out (Turns.below HJ.out.2.1) (by rw [HAE.out]; exact Nat.le_refl _))
      have HOF := Lib.hid (own_setAll HJ.out.1 HA5.out (by decide) 0 [vi 0, .slice av vals.length cv, vi 0, vi 0, vi 0, vi 0, .bool false, vi 0])
      have HZC := Lib.hid (show (wj.setCells A 0 [vi 0, .slice av vals.length cv, vi 0, vi 0, vi 0, vi 0, .bool false, vi 0]).heap[A]? = some (.cells #[vi 0, .slice av vals.length cv, vi 0, vi 0, vi 0, vi 0, .bool false, vi 0] 37) from setCells_all (cs := [vi 0, .slice av vals.length cv, vi 0, vi 0, vi 0, vi 0, .bool false, vi 0]) HA5.out rfl)
      clear x0 x1 x2 x3 x4 x5 x6 x7 xf
      generalize wj.setCells A 0 [vi 0, .slice av vals.length cv, vi 0, vi 0, vi 0, vi 0, .bool false, vi 0] = wz at *
      have r0 : wz.cell? ⟨A, 0, none⟩ = some (vi 0) := by rw [Bt.cell_of HZC.out]; rfl
      have r1 : wz.cell? ⟨A, 1, none⟩ = some (.slice av vals.length cv) := by rw [Bt.cell_of HZC.out]; rfl
      have r2 : wz.cell? ⟨A, 2, none⟩ = some (vi 0) := by rw [Bt.cell_of HZC.out]; rfl
      have r3 : wz.cell? ⟨A, 3, none⟩ = some (vi 0) := by rw [Bt.cell_of HZC.out]; rfl
      have r4 : wz.cell? ⟨A, 4, none⟩ = some (vi 0) := by rw [Bt.cell_of HZC.out]; rfl
      have r5 : wz.cell? ⟨A, 5, none⟩ = some (vi 0) := by rw [Bt.cell_of HZC.out]; rfl
      have r6 : wz.cell? ⟨A, 6, none⟩ = some (.bool false) := by rw [Bt.cell_of HZC.out]; rfl
      have r7 : wz.cell? ⟨A, 7, none⟩ = some (vi 0) := by rw [Bt.cell_of HZC.out]; rfl
      exact bodyPost_ret (v := ansV ⟨0, vals, 0, 0, 0, zeroE'⟩ (.slice av vals.length cv)) (by simp [results, Try.results11, go_sem, ansV, ansC, r0, r1, r2, r3, r4, r5, r6, r7]) rfl ⟨⟨0, vals, 0, 0, 0, zeroE'⟩, .slice av vals.length cv, now, K, R, E, D, rfl, own_mono HOF.out hBw, HSF.out, HTF.out, ⟨.inl ⟨vals, rfl, (by have := HJ.out.2.2.2; rw [HKE.out, List.take_length] at this; exact this)⟩, rfl, rfl, rfl, rfl, rfl⟩⟩
end Go.Proofs.Ytdkkpkgfiodlbaa

/- (*shard.State).Apply: an end. -/
namespace Go.Proofs.Ytdkkpkgfiodlbaa
open Go.RowKit Go.Maps

def FinishP (now : Int) (K : KeysL) (R : RdyL) (E D : EndL) (e : EndM) (a : Ans) (now' : Int) (K' : KeysL) (R' : RdyL) (E' D' : EndL) : Prop :=
  a = ⟨0, [], 0, 0, 0, zeroE'⟩ ∧ now' = now ∧ FinM K R E e K' R' E' ∧ D' = D
set_option maxRecDepth 100000 in
set_option maxHeartbeats 8000000 in
theorem ShT.finish {N base p ps mk mr me md : Nat} {serial : Bool} {bugs stamps now : Int} {K : KeysL} {R : RdyL} {E D : EndL} (c : Cmd21) {v : Value} (w : World) (h : ShT N base p ps mk mr me md serial bugs stamps now K R E D w) (hi : CmdI c) (hk : c.k = 5)
    (hv : Src w v 1 (btBytes (cmdL c)).length ((btBytes (cmdL c)).map u8)) {n : Nat} (hn : n ≤ 1000) (hI : ShI n K R) :
    Calls Try.prog 11 #[.pointer (some ⟨p, 0, none⟩), v] w (AppT N base p ps mk mr me md serial bugs stamps (FinishP now K R E D c.e) w) := by
  have HI := Lib.hid hi
  have HK := Lib.hid hk
  have HH := Lib.hid (h.later ((Below.refl w.heap.size w).alloc (Nat.le_refl _) (.cells ansZ 37)))
  have HV := Lib.hid (hv.below ((Below.refl w.heap.size w).alloc (Nat.le_refl _) (.cells ansZ 37)))
  have HA0 := Lib.hid (Bt.alloc_at w (.cells ansZ 37))
  have HB0 := Lib.hid ((Below.refl w.heap.size w).alloc (Nat.le_refl _) (.cells ansZ 37))
  have hcl : (btBytes (cmdL c)).length ≤ 1048576 := by rw [btBytes_length]; have := cmdL_length hi; omega
  obtain ⟨bs, hbs⟩ : ∃ bs, bs = btBytes (cmdL c) := ⟨_, rfl⟩
  rw [← hbs] at HV hcl
  have HBS := Lib.hid hbs
  have hpw : p < w.heap.size := (Array.getElem?_eq_some_iff.1 h.s.blk).1
  have H0 := Lib.hid h
  have HII := Lib.hid hI
  clear h hi hk hv hbs hI
  go_enter Try.func11, Try.ntmps11
  go_upto_region 1 with fail
  generalize w.alloc (.cells ansZ 37) = w1 at *
  obtain ⟨A, hA⟩ : ∃ A, A = w.heap.size := ⟨_, rfl⟩
  rw [← hA] at HA0 ⊢
  have HAE := Lib.hid hA
  have hAw : A < w1.heap.size := (Array.getElem?_eq_some_iff.1 HA0.out).1
  clear hA
  go_wp2_with fail
  refine (shRead_call (bs := bs) w1 HV.out (by rw [HBS.out]; exact btBytes_lt _) hcl).mono ?_
  rintro e2 w2 ⟨c', wv, rv, err, rfl, hrd⟩
  rw [HBS.out] at hrd
  obtain ⟨rfl, rfl⟩ := (cmd_back HI.out hrd).1 ⟨by rw [HK.out]; decide, by rw [HK.out]; decide⟩
  have hkl := killK_len c.r
  have hows : w2.ownsRow w1.heap.size 104 3 wv c.r.writes.length ((killK c.r).writes.flatMap opV) := by have := hrd.ws; unfold OwOps at this; rw [show (killC c).r.writes.length = c.r.writes.length from hkl] at this; exact this
  have hors : w2.ownsRow w1.heap.size 3 1 rv c.r.reads.length (c.r.reads.flatMap viC) := hrd.rs
  obtain ⟨aw, cw, rfl⟩ := Bt.own_shape hows
  obtain ⟨ar, cr, rfl⟩ := Bt.own_shape hors
  have HWS := Lib.hid hrd.ws
  have HRS := Lib.hid hrd.rs
  have HH2 := Lib.hid (HH.out.later hrd.bel)
  have HA2 := Lib.hid ((hrd.bel.block A hAw).trans HA0.out)
  have HB2 := Lib.hid (HB0.out.trans (hrd.bel.mono HB0.out.size))
  have hA2w : A < w2.heap.size := Nat.lt_of_lt_of_le hAw hrd.bel.size
  have hw12 := hrd.bel.size
  have HKL := Lib.hid hkl
  clear hrd hkl hows hors HH HA0 HB0 HV
  unfold cmdV cmdC
  dsimp only [killC, killK]
  have HC3 := Lib.hid (Bt.alloc_at w2 (.cells #[vi c.k, vi c.r.txn, vi c.r.home, vi c.r.start, .slice aw c.r.writes.length cw, .slice ar c.r.reads.length cr, vi c.e.txn, .bool c.e.commit, vi c.e.at_] 33))
  have HH3 := Lib.hid (HH2.out.later ((Below.refl w2.heap.size w2).alloc (Nat.le_refl _) (.cells #[vi c.k, vi c.r.txn, vi c.r.home, vi c.r.start, .slice aw c.r.writes.length cw, .slice ar c.r.reads.length cr, vi c.e.txn, .bool c.e.commit, vi c.e.at_] 33)))
  have HA3 := Lib.hid ((Below.heap_alloc w2 (.cells #[vi c.k, vi c.r.txn, vi c.r.home, vi c.r.start, .slice aw c.r.writes.length cw, .slice ar c.r.reads.length cr, vi c.e.txn, .bool c.e.commit, vi c.e.at_] 33) A hA2w).trans HA2.out)
  have HB3 := Lib.hid (HB2.out.alloc HB2.out.size (.cells #[vi c.k, vi c.r.txn, vi c.r.home, vi c.r.start, .slice aw c.r.writes.length cw, .slice ar c.r.reads.length cr, vi c.e.txn, .bool c.e.commit, vi c.e.at_] 33))
  have HWS3 := Lib.hid (own_below HWS.out ((Below.refl w2.heap.size w2).alloc (Nat.le_refl _) (.cells #[vi c.k, vi c.r.txn, vi c.r.home, vi c.r.start, .slice aw c.r.writes.length cw, .slice ar c.r.reads.length cr, vi c.e.txn, .bool c.e.commit, vi c.e.at_] 33)))
  have HRS3 := Lib.hid (own_below HRS.out ((Below.refl w2.heap.size w2).alloc (Nat.le_refl _) (.cells #[vi c.k, vi c.r.txn, vi c.r.home, vi c.r.start, .slice aw c.r.writes.length cw, .slice ar c.r.reads.length cr, vi c.e.txn, .bool c.e.commit, vi c.e.at_] 33)))
  go_upto_region 4 with fail
  clear HH2 HA2 HB2 HWS HRS
  generalize w2.alloc (.cells #[vi c.k, vi c.r.txn, vi c.r.home, vi c.r.start, .slice aw c.r.writes.length cw, .slice ar c.r.reads.length cr, vi c.e.txn, .bool c.e.commit, vi c.e.at_] 33) = w3 at *
  have hC3w : w2.heap.size < w3.heap.size := (Array.getElem?_eq_some_iff.1 HC3.out).1
  obtain ⟨C, hC⟩ : ∃ C, C = w2.heap.size := ⟨_, rfl⟩
  rw [← hC] at HC3 hC3w ⊢
  have HCE := Lib.hid hC
  have hAC : A ≠ C := by omega
  have hpA : p < A := by have := HAE.out; omega
  clear hC
  have k0 : w3.cell? ⟨C, 0, none⟩ = some (vi c.k) := by rw [Bt.cell_of HC3.out]; rfl
  have b1 : (c.k == 1) = false := by rw [HK.out]; rfl
  have b2 : (c.k == 2) = false := by rw [HK.out]; rfl
  have b3 : (c.k == 3) = false := by rw [HK.out]; rfl
  have b4 : (c.k == 4) = false := by rw [HK.out]; rfl
  have hBw : w.heap.size ≤ w3.heap.size := HB3.out.size
  have q0 : w3.cell? ⟨p, 0, none⟩ = some (.pointer (some ⟨ps, 0, none⟩)) := by rw [cell_of HH3.out.s.blk]; rfl
  have z6 : w3.cell? ⟨C, 6, none⟩ = some (vi c.e.txn) := by rw [Bt.cell_of HC3.out]; rfl
  have z7 : w3.cell? ⟨C, 7, none⟩ = some (.bool c.e.commit) := by rw [Bt.cell_of HC3.out]; rfl
  have z8 : w3.cell? ⟨C, 8, none⟩ = some (vi c.e.at_) := by rw [Bt.cell_of HC3.out]; rfl
  have HH3d := Lib.hid (HH3.out.later ((Below.refl w3.heap.size w3).drew))
  go_upto_region 32 with fail
  have HLN := Lib.hid (show ∀ key, (verOf K key).length ≤ 524288 from fun k => by have := HII.out.len k; omega)
  have HWL := Lib.hid (show ∀ y ∈ R, y.2.r.writes.length ≤ 524288 ∧ ∀ o ∈ y.2.r.writes, i64 o.key from fun y hy => ⟨Nat.le_trans (HII.out.small y hy).1 (by decide), (HII.out.small y hy).2.2.1⟩)
  have HMO := Lib.hid (show ∀ k ∈ [mk, mr, me], ∃ es c, w3.drew.heap[k]? = some (.map es c) from fun k hk => by
    simp at hk
    rcases hk with rfl | rfl | rfl
    · exact HH3d.out.s.st.keys.obj
    · exact HH3d.out.s.st.ready.obj
    · exact HH3d.out.s.st.ends.obj)
  have HS3 := Lib.hid (show ∀ W, Solid w3 W → W.cell? ⟨p, 0, none⟩ = some (.pointer (some ⟨ps, 0, none⟩)) ∧ W.cell? ⟨C, 6, none⟩ = some (vi c.e.txn) ∧ W.cell? ⟨C, 7, none⟩ = some (.bool c.e.commit) ∧ W.cell? ⟨C, 8, none⟩ = some (vi c.e.at_) from fun W hW => ⟨hW.cell q0, hW.cell z6, hW.cell z7, hW.cell z8⟩)
  have HD := Lib.hid (show Solid w3 w3.drew from Solid.below ((Below.refl w3.heap.size w3).drew))
  have hpA' : p ≠ A := by omega
  have hCA : C ≠ A := by omega
  clear q0 z6 z7 z8 k0
  go_region_held3 (fun W : World => W.cell? ⟨p, 0, none⟩ = some (.pointer (some ⟨ps, 0, none⟩)) ∧ W.cell? ⟨C, 6, none⟩ = some (vi c.e.txn) ∧ W.cell? ⟨C, 7, none⟩ = some (.bool c.e.commit) ∧ W.cell? ⟨C, 8, none⟩ = some (vi c.e.at_))
    (first | with_reducible exact HS3.out _ HD.out | with_reducible exact HS3.out _ (Solid.refl w3) | with_reducible exact HS3.out _ HSO5.out | with_reducible exact HSZ.out)
    (first | (go_at_call 32; (with_reducible refine (finish_raw c.e w3.drew HH3d.out.s.st HI.out.e.txn HI.out.e.at_ HII.out.srt HLN.out HWL.out).mono ?_); rintro e5 w5 ⟨K', R', E', rfl, hfm, hm5, ht5, hk5⟩; have HFM := Lib.hid hfm; have HT5 := Lib.hid ht5; have hso := (ht5.solid HMO.out); have HSO5 := Lib.hid (HD.out.trans hso); have hA5 := hso _ _ _ _ (show w3.drew.heap[A]? = _ from HA3.out); have HA5 := Lib.hid hA5; have x0 : w5.cell? ⟨A, 0, none⟩ = some (vi 0) := (by rw [Bt.cell_of hA5]; rfl); have x1 : w5.cell? ⟨A, 1, none⟩ = some (.slice none 0 0) := (by rw [Bt.cell_of hA5]; rfl); have x2 : w5.cell? ⟨A, 2, none⟩ = some (vi 0) := (by rw [Bt.cell_of hA5]; rfl); have x3 : w5.cell? ⟨A, 3, none⟩ = some (vi 0) := (by rw [Bt.cell_of hA5]; rfl); have x4 : w5.cell? ⟨A, 4, none⟩ = some (vi 0) := (by rw [Bt.cell_of hA5]; rfl); have x5 : w5.cell? ⟨A, 5, none⟩ = some (vi 0) := (by rw [Bt.cell_of hA5]; rfl); have x6 : w5.cell? ⟨A, 6, none⟩ = some (.bool false) := (by rw [Bt.cell_of hA5]; rfl); have x7 : w5.cell? ⟨A, 7, none⟩ = some (vi 0) := (by rw [Bt.cell_of hA5]; rfl); have xf : ∀ o, w5.frozen? ⟨A, o, none⟩ = false := (fun o => free_of hA5 o); obtain ⟨k0', k6', k7', k8'⟩ := HS3.out _ HSO5.out; have HSZ := Lib.hid (show ((((((((w5.setCell ⟨A, 0, none⟩ (vi 0)).setCell ⟨A, 1, none⟩ (.slice none 0 0)).setCell ⟨A, 2, none⟩ (vi 0)).setCell ⟨A, 3, none⟩ (vi 0)).setCell ⟨A, 4, none⟩ (vi 0)).setCell ⟨A, 5, none⟩ (vi 0)).setCell ⟨A, 6, none⟩ (.bool false)).setCell ⟨A, 7, none⟩ (vi 0)).cell? ⟨p, 0, none⟩ = some (.pointer (some ⟨ps, 0, none⟩)) ∧ ((((((((w5.setCell ⟨A, 0, none⟩ (vi 0)).setCell ⟨A, 1, none⟩ (.slice none 0 0)).setCell ⟨A, 2, none⟩ (vi 0)).setCell ⟨A, 3, none⟩ (vi 0)).setCell ⟨A, 4, none⟩ (vi 0)).setCell ⟨A, 5, none⟩ (vi 0)).setCell ⟨A, 6, none⟩ (.bool false)).setCell ⟨A, 7, none⟩ (vi 0)).cell? ⟨C, 6, none⟩ = some (vi c.e.txn) ∧ ((((((((w5.setCell ⟨A, 0, none⟩ (vi 0)).setCell ⟨A, 1, none⟩ (.slice none 0 0)).setCell ⟨A, 2, none⟩ (vi 0)).setCell ⟨A, 3, none⟩ (vi 0)).setCell ⟨A, 4, none⟩ (vi 0)).setCell ⟨A, 5, none⟩ (vi 0)).setCell ⟨A, 6, none⟩ (.bool false)).setCell ⟨A, 7, none⟩ (vi 0)).cell? ⟨C, 7, none⟩ = some (.bool c.e.commit) ∧ ((((((((w5.setCell ⟨A, 0, none⟩ (vi 0)).setCell ⟨A, 1, none⟩ (.slice none 0 0)).setCell ⟨A, 2, none⟩ (vi 0)).setCell ⟨A, 3, none⟩ (vi 0)).setCell ⟨A, 4, none⟩ (vi 0)).setCell ⟨A, 5, none⟩ (vi 0)).setCell ⟨A, 6, none⟩ (.bool false)).setCell ⟨A, 7, none⟩ (vi 0)).cell? ⟨C, 8, none⟩ = some (vi c.e.at_) from ⟨chain8_cell k0' hpA', chain8_cell k6' hCA, chain8_cell k7' hCA, chain8_cell k8' hCA⟩); clear k0' k6' k7' k8'; have HST := Lib.hid (HH3d.out.store hm5 ht5 (fun y hy => (hk5 y hy).imp id (fun h1 => own_mono h1 HH3d.out.nw)) (fin_sub hfm)); clear hfm hm5 ht5 hk5 hso hA5))
  all_goals
    go_wp2
    change bodyPost _ _ _ _ _ (w5.setCells A 0 [vi 0, .slice none 0 0, vi 0, vi 0, vi 0, vi 0, .bool false, vi 0])
    have HSF := Lib.hid (HST.out.setA HA5.out [vi 0, .slice none 0 0, vi 0, vi 0, vi 0, vi 0, .bool false, vi 0])
    have HTF := Lib.hid (fin_turns (A := A) (us := [vi 0, .slice none 0 0, vi 0, vi 0, vi 0, vi 0, .bool false, vi 0]) (HB3.out.trans ((Below.refl w3.heap.size w3).drew.mono hBw)) HT5.out (by rw [HAE.out]; exact Nat.le_refl _))
    have HZC := Lib.hid (show (w5.setCells A 0 [vi 0, .slice none 0 0, vi 0, vi 0, vi 0, vi 0, .bool false, vi 0]).heap[A]? = some (.cells #[vi 0, .slice none 0 0, vi 0, vi 0, vi 0, vi 0, .bool false, vi 0] 37) from setCells_all (cs := [vi 0, .slice none 0 0, vi 0, vi 0, vi 0, vi 0, .bool false, vi 0]) HA5.out rfl)
    clear x0 x1 x2 x3 x4 x5 x6 x7 xf HSZ
    generalize w5.setCells A 0 [vi 0, .slice none 0 0, vi 0, vi 0, vi 0, vi 0, .bool false, vi 0] = wz at *
    have r0 : wz.cell? ⟨A, 0, none⟩ = some (vi 0) := by rw [Bt.cell_of HZC.out]; rfl
    have r1 : wz.cell? ⟨A, 1, none⟩ = some (.slice none 0 0) := by rw [Bt.cell_of HZC.out]; rfl
    have r2 : wz.cell? ⟨A, 2, none⟩ = some (vi 0) := by rw [Bt.cell_of HZC.out]; rfl
    have r3 : wz.cell? ⟨A, 3, none⟩ = some (vi 0) := by rw [Bt.cell_of HZC.out]; rfl
    have r4 : wz.cell? ⟨A, 4, none⟩ = some (vi 0) := by rw [Bt.cell_of HZC.out]; rfl
    have r5 : wz.cell? ⟨A, 5, none⟩ = some (vi 0) := by rw [Bt.cell_of HZC.out]; rfl
    have r6 : wz.cell? ⟨A, 6, none⟩ = some (.bool false) := by rw [Bt.cell_of HZC.out]; rfl
    have r7 : wz.cell? ⟨A, 7, none⟩ = some (vi 0) := by rw [Bt.cell_of HZC.out]; rfl
    refine bodyPost_ret (v := ansV ⟨0, [], 0, 0, 0, zeroE'⟩ (.slice none 0 0)) (by simp [results, Try.results11, go_sem, ansV, ansC, r0, r1, r2, r3, r4, r5, r6, r7]) rfl ⟨⟨0, [], 0, 0, 0, zeroE'⟩, .slice none 0 0, now, K', R', E', D, rfl, World.ownsRow_nil _ _ _ _, HSF.out, HTF.out.mono ?_, rfl, rfl, HFM.out, rfl⟩
    intro k hk
    simp at hk ⊢
    rcases hk with rfl | rfl | rfl <;> simp
end Go.Proofs.Ytdkkpkgfiodlbaa

/- Decided; the law's head. -/
namespace Go.Proofs.Ytdkkpkgfiodlbaa
open Go.RowKit Go.Maps
set_option maxRecDepth 100000 in
set_option maxHeartbeats 2000000 in
theorem decided_call {base p ps mk mr me md : Nat} {serial : Bool} {bugs stamps now : Int} {K : KeysL} {R : RdyL} {E D : EndL} (txn : Int) (w : World) (h : ShS base p ps mk mr me md serial bugs stamps now K R E D w) (hk : i64 txn) :
    Calls Try.prog 14 #[.pointer (some ⟨p, 0, none⟩), vi txn] w fun e w' => e = .returned (.tuple #[endV ((getM D txn).getD ⟨0, false, 0⟩), .bool (getM D txn).isSome]) ∧ Below w.heap.size w w' := by
  have HB := Lib.hid ((Below.refl w.heap.size w).alloc (Nat.le_refl _) (.cells #[vi 0, .bool false, vi 0] 31))
  have HM := Lib.hid (h.later HB.out)
  have HX := Lib.hid (alloc_at w (.cells #[vi 0, .bool false, vi 0] 31))
  clear h
  go_enter Try.func14, Try.ntmps14
  go_upto_region 1 with fail
  generalize w.alloc (.cells #[vi 0, .bool false, vi 0] 31) = w1 at *
  have hlk := lookup_ends HM.out.dm hk
  have p4 : w1.cell? ⟨p, 4, none⟩ = some (.map (some md)) := by rw [cell_of HM.out.blk]; rfl
  have z0 : ∀ o, w1.frozen? ⟨w.heap.size, o, none⟩ = false := fun o => free_of HX.out o
  obtain ⟨x, hx⟩ : ∃ x, (getM D txn).getD ⟨0, false, 0⟩ = x := ⟨_, rfl⟩
  obtain ⟨b, hb⟩ : ∃ b, (getM D txn).isSome = b := ⟨_, rfl⟩
  rw [hx, hb] at hlk
  have HXB := Lib.hid (show ((getM D txn).getD ⟨0, false, 0⟩ = x ∧ (getM D txn).isSome = b) from ⟨hx, hb⟩)
  clear hx hb
  have HX2 := Lib.hid (alloc_at w1 (.cells #[vi x.txn, .bool x.commit, vi x.at_] 31))
  have hlt := (Array.getElem?_eq_some_iff.1 HX.out).1
  have HB2 := Lib.hid (HB.out.alloc HB.out.size (.cells #[vi x.txn, .bool x.commit, vi x.at_] 31))
  have HX1 := Lib.hid ((((Below.refl w1.heap.size w1).alloc (Nat.le_refl _) (.cells #[vi x.txn, .bool x.commit, vi x.at_] 31)).block w.heap.size hlt).trans HX.out)
  go_upto_region 4 with fail
  clear hlk p4 z0
  generalize w1.alloc (.cells #[vi x.txn, .bool x.commit, vi x.at_] 31) = w2 at *
  have q0 : w2.cell? ⟨w1.heap.size, 0, none⟩ = some (vi x.txn) := by rw [cell_of HX2.out]; rfl
  have q1 : w2.cell? ⟨w1.heap.size, 1, none⟩ = some (.bool x.commit) := by rw [cell_of HX2.out]; rfl
  have q2 : w2.cell? ⟨w1.heap.size, 2, none⟩ = some (vi x.at_) := by rw [cell_of HX2.out]; rfl
  have r0 : w2.cell? ⟨w.heap.size, 0, none⟩ = some (vi 0) := by rw [cell_of HX1.out]; rfl
  have r1 : w2.cell? ⟨w.heap.size, 1, none⟩ = some (.bool false) := by rw [cell_of HX1.out]; rfl
  have r2 : w2.cell? ⟨w.heap.size, 2, none⟩ = some (vi 0) := by rw [cell_of HX1.out]; rfl
  have z0 : w2.frozen? ⟨w.heap.size, 0, none⟩ = false := free_of HX1.out 0
  have z1 : w2.frozen? ⟨w.heap.size, 1, none⟩ = false := free_of HX1.out 1
  have z2 : w2.frozen? ⟨w.heap.size, 2, none⟩ = false := free_of HX1.out 2
  go_wp2_with fail
  refine bodyPost_ret (v := .tuple #[endV x, .bool b]) (by simp [results, Try.results14, go_sem, q0, q1, q2, r0, r1, r2, endV]) rfl ⟨by rw [HXB.out.1, HXB.out.2], ((HB2.out.setCell (Nat.le_refl _) _).setCell (Nat.le_refl _) _).setCell (Nat.le_refl _) _⟩

theorem off32 : offB 0 32 = true := by decide
set_option maxRecDepth 100000 in
set_option maxHeartbeats 8000000 in
theorem head21_call (w : World) : Calls Try.prog 8 #[] w fun e w' => e = .returned (.bool true) ∧ Below w.heap.size w w' := by
  have i1 : IntOk 1 := by unfold IntOk; omega
  have i4 : IntOk 4 := by unfold IntOk; omega
  have ie0 : EndI ⟨0, false, 0⟩ := ⟨(by show i64 0; unfold i64; omega), (by show i64 0; unfold i64; omega)⟩
  have ie5 : EndI ⟨5, true, 9⟩ := ⟨(by show i64 5; unfold i64; omega), (by show i64 9; unfold i64; omega)⟩
  have ie6 : EndI ⟨5, false, 0⟩ := ⟨(by show i64 5; unfold i64; omega), (by show i64 0; unfold i64; omega)⟩
  go_enter Try.func8, Try.ntmps8
  go_upto_region 2 with (go_at_call 9; refine (shNew_call true 0 2 w).mono ?_; rintro e1 w1 ⟨p, ps, mk, mr, me, md, rfl, hs1, hb1⟩; have HS1 := Lib.hid hs1; have HB1 := Lib.hid hb1; clear hs1 hb1)
  go_upto_region 3 with (go_at_call 12; refine (bareBytes_call 1 ⟨0, false, 0⟩ w1 i1 ie0).mono ?_; rintro e2 w2 ⟨v2, rfl, ho2, hb2⟩; have HO2 := Lib.hid ho2; have HB2 := Lib.hid (HB1.out.trans (hb2.mono HB1.out.size)); have HS2 := Lib.hid (HS1.out.later hb2); have HN := Lib.hid (HS1.out.bnd); have hNw2 := hb2.size; clear ho2 hb2)
  have hNN := HB1.out.size
  have HS_w2 := HS2
  have HO_w2 := HO2
  have HB_w2 := HB2
  have hzz := HB_w2.out.size
  have hN2 : w1.heap.size ≤ w2.heap.size := hNw2
  go_wp2_with fail
  refine (apply_stamp (bareC 1 ⟨0, false, 0⟩) w2 HS_w2.out (bareI i1 ie0) rfl (own_src HO_w2.out) ⟨by omega, by omega⟩ HS_w2.out.sep0).mono ?_
  rintro e3 wA3 ⟨a3, vv3, n3, K3, R3, E3, D3, rfl, ho3, hs3, ht3, hp3, rfl, rfl, rfl, rfl⟩
  obtain ⟨_, rfl, rfl⟩ | ⟨hc, _⟩ := hp3
  rotate_left
  · omega
  have hN3' := hN2
  obtain ⟨qa3, qc3, rfl⟩ := Bt.own_shape (show World.ownsRow _ _ _ _ vv3 0 [] from ho3)
  unfold ansV ansC
  dsimp only
  have HT3 := Lib.hid ht3
  have HSA3 := Lib.hid hs3
  have hb3 := HT3.out.size
  have HOA3 := Lib.hid (own_turns HO_w2.out HT3.out HN.out (Nat.le_refl _))
  have HBA3 := Lib.hid (HB_w2.out.trans (HT3.out.toBelow' HB_w2.out.size HSA3.out.bases))
  have HE3 := Lib.hid ((Below.refl wA3.heap.size wA3).alloc (Nat.le_refl _) (.cells #[vi 0, .slice qa3 0 qc3, vi 1, vi 0, vi 0, vi 0, .bool false, vi 0] 37))
  have HXx3_wB30 := Lib.hid (Bt.alloc_at wA3 (.cells #[vi 0, .slice qa3 0 qc3, vi 1, vi 0, vi 0, vi 0, .bool false, vi 0] 37))
  clear hs3 ht3 ho3
  go_upto_region 4 with fail
  generalize wA3.alloc (.cells #[vi 0, .slice qa3 0 qc3, vi 1, vi 0, vi 0, vi 0, .bool false, vi 0] 37) = wB3 at *
  obtain ⟨x3, hx3⟩ : ∃ x3, x3 = wA3.heap.size := ⟨_, rfl⟩
  rw [← hx3] at HXx3_wB30 ⊢
  have hNx3 : w1.heap.size ≤ x3 := by omega
  have Hx3 := Lib.hid hx3
  clear hx3
  have HXx3_wB3 := HXx3_wB30
  have HS_wB3 := Lib.hid (HSA3.out.later HE3.out)
  have HO_wB3 := Lib.hid (own_below HOA3.out HE3.out)
  have HB_wB3 := Lib.hid (HBA3.out.trans (HE3.out.mono HBA3.out.size))
  have hz3 := HE3.out.size
  go_wp2_with fail
  refine (apply_stamp (bareC 1 ⟨0, false, 0⟩) wB3 HS_wB3.out (bareI i1 ie0) rfl (own_src HO_wB3.out) ⟨by omega, by omega⟩ HS_wB3.out.sep0).mono ?_
  rintro e4 wA4 ⟨a4, vv4, n4, K4, R4, E4, D4, rfl, ho4, hs4, ht4, hp4, rfl, rfl, rfl, rfl⟩
  obtain ⟨_, rfl, rfl⟩ | ⟨hc, _⟩ := hp4
  rotate_left
  · omega
  have hN4' := hN2
  obtain ⟨qa4, qc4, rfl⟩ := Bt.own_shape (show World.ownsRow _ _ _ _ vv4 0 [] from ho4)
  unfold ansV ansC
  dsimp only
  have HT4 := Lib.hid ht4
  have HSA4 := Lib.hid hs4
  have HXx3_wA4 := Lib.hid ((HT4.out.block x3 (Array.getElem?_eq_some_iff.1 HXx3_wB3.out).1 (HN.out.out hNx3)).trans HXx3_wB3.out)
  have hb4 := HT4.out.size
  have HOA4 := Lib.hid (own_turns HO_wB3.out HT4.out HN.out (Nat.le_refl _))
  have HBA4 := Lib.hid (HB_wB3.out.trans (HT4.out.toBelow' HB_wB3.out.size HSA4.out.bases))
  have HE4 := Lib.hid ((Below.refl wA4.heap.size wA4).alloc (Nat.le_refl _) (.cells #[vi 0, .slice qa4 0 qc4, vi 2, vi 0, vi 0, vi 0, .bool false, vi 0] 37))
  have HXx4_wB40 := Lib.hid (Bt.alloc_at wA4 (.cells #[vi 0, .slice qa4 0 qc4, vi 2, vi 0, vi 0, vi 0, .bool false, vi 0] 37))
  clear hs4 ht4 ho4
  go_upto_region 5 with fail
  generalize wA4.alloc (.cells #[vi 0, .slice qa4 0 qc4, vi 2, vi 0, vi 0, vi 0, .bool false, vi 0] 37) = wB4 at *
  obtain ⟨x4, hx4⟩ : ∃ x4, x4 = wA4.heap.size := ⟨_, rfl⟩
  rw [← hx4] at HXx4_wB40 ⊢
  have hNx4 : w1.heap.size ≤ x4 := by omega
  have Hx4 := Lib.hid hx4
  clear hx4
  have HXx4_wB4 := HXx4_wB40
  have HXx3_wB4 := Lib.hid ((HE4.out.block x3 (Array.getElem?_eq_some_iff.1 HXx3_wA4.out).1).trans HXx3_wA4.out)
  have HS_wB4 := Lib.hid (HSA4.out.later HE4.out)
  have HO_wB4 := Lib.hid (own_below HOA4.out HE4.out)
  have HB_wB4 := Lib.hid (HBA4.out.trans (HE4.out.mono HBA4.out.size))
  have hz4 := HE4.out.size
  go_wp2_with fail
  refine (apply_stamp (bareC 1 ⟨0, false, 0⟩) wB4 HS_wB4.out (bareI i1 ie0) rfl (own_src HO_wB4.out) ⟨by omega, by omega⟩ HS_wB4.out.sep0).mono ?_
  rintro e5 wA5 ⟨a5, vv5, n5, K5, R5, E5, D5, rfl, ho5, hs5, ht5, hp5, rfl, rfl, rfl, rfl⟩
  obtain ⟨hc, _⟩ | ⟨_, rfl, rfl⟩ := hp5
  · omega
  have hN5' := hN2
  obtain ⟨qa5, qc5, rfl⟩ := Bt.own_shape (show World.ownsRow _ _ _ _ vv5 0 [] from ho5)
  unfold ansV ansC
  dsimp only
  have HT5 := Lib.hid ht5
  have HSA5 := Lib.hid hs5
  have HXx3_wA5 := Lib.hid ((HT5.out.block x3 (Array.getElem?_eq_some_iff.1 HXx3_wB4.out).1 (HN.out.out hNx3)).trans HXx3_wB4.out)
  have HXx4_wA5 := Lib.hid ((HT5.out.block x4 (Array.getElem?_eq_some_iff.1 HXx4_wB4.out).1 (HN.out.out hNx4)).trans HXx4_wB4.out)
  have hb5 := HT5.out.size
  have HOA5 := Lib.hid (own_turns HO_wB4.out HT5.out HN.out (Nat.le_refl _))
  have HBA5 := Lib.hid (HB_wB4.out.trans (HT5.out.toBelow' HB_wB4.out.size HSA5.out.bases))
  have HE5 := Lib.hid ((Below.refl wA5.heap.size wA5).alloc (Nat.le_refl _) (.cells #[vi 63, .slice qa5 0 qc5, vi 0, vi 0, vi 0, vi 0, .bool false, vi 0] 37))
  have HXx5_wB50 := Lib.hid (Bt.alloc_at wA5 (.cells #[vi 63, .slice qa5 0 qc5, vi 0, vi 0, vi 0, vi 0, .bool false, vi 0] 37))
  clear hs5 ht5 ho5
  go_upto_region 6 with fail
  generalize wA5.alloc (.cells #[vi 63, .slice qa5 0 qc5, vi 0, vi 0, vi 0, vi 0, .bool false, vi 0] 37) = wB5 at *
  obtain ⟨x5, hx5⟩ : ∃ x5, x5 = wA5.heap.size := ⟨_, rfl⟩
  rw [← hx5] at HXx5_wB50 ⊢
  have hNx5 : w1.heap.size ≤ x5 := by omega
  have Hx5 := Lib.hid hx5
  clear hx5
  have HXx5_wB5 := HXx5_wB50
  have HXx3_wB5 := Lib.hid ((HE5.out.block x3 (Array.getElem?_eq_some_iff.1 HXx3_wA5.out).1).trans HXx3_wA5.out)
  have HXx4_wB5 := Lib.hid ((HE5.out.block x4 (Array.getElem?_eq_some_iff.1 HXx4_wA5.out).1).trans HXx4_wA5.out)
  have HS_wB5 := Lib.hid (HSA5.out.later HE5.out)
  have HO_wB5 := Lib.hid (own_below HOA5.out HE5.out)
  have HB_wB5 := Lib.hid (HBA5.out.trans (HE5.out.mono HBA5.out.size))
  have hz5 := HE5.out.size
  go_wp2_with fail
  refine (bareBytes_call 4 ⟨5, true, 9⟩ wB5 i4 ie5).mono ?_
  rintro f6 wC6 ⟨vb6, rfl, hob6, hbb6⟩
  have HBB6 := Lib.hid hbb6
  have HXx3_wC6 := Lib.hid ((HBB6.out.block x3 (Array.getElem?_eq_some_iff.1 HXx3_wB5.out).1).trans HXx3_wB5.out)
  have HXx4_wC6 := Lib.hid ((HBB6.out.block x4 (Array.getElem?_eq_some_iff.1 HXx4_wB5.out).1).trans HXx4_wB5.out)
  have HXx5_wC6 := Lib.hid ((HBB6.out.block x5 (Array.getElem?_eq_some_iff.1 HXx5_wB5.out).1).trans HXx5_wB5.out)
  have HS_wC6 := Lib.hid (HS_wB5.out.later hbb6)
  have HB_wC6 := Lib.hid (HB_wB5.out.trans (hbb6.mono HB_wB5.out.size))
  have HO_wC6 := Lib.hid (own_below HO_wB5.out hbb6)
  have HV_wC6 := Lib.hid hob6
  have hy6 := hbb6.size
  clear hob6 hbb6
  dsimp only
  go_wp2_with fail
  refine (apply_decide (bareC 4 ⟨5, true, 9⟩) wC6 HS_wC6.out (bareI i4 ie5) rfl (own_src HV_wC6.out)).mono ?_
  rintro e6 wA6 ⟨a6, vv6, n6, K6, R6, E6, D6, rfl, ho6, hs6, ht6, hp6, rfl, rfl, rfl, rfl⟩
  obtain ⟨x, hx, _⟩ | ⟨_, rfl, rfl⟩ := hp6
  · simp [getM] at hx
  obtain ⟨qa6, qc6, rfl⟩ := Bt.own_shape (show World.ownsRow _ _ _ _ vv6 0 [] from ho6)
  unfold ansV ansC
  dsimp only
  have HT6 := Lib.hid ht6
  have HSA6 := Lib.hid hs6
  have HXx3_wA6 := Lib.hid ((HT6.out.block x3 (Array.getElem?_eq_some_iff.1 HXx3_wC6.out).1 (HN.out.out hNx3)).trans HXx3_wC6.out)
  have HXx4_wA6 := Lib.hid ((HT6.out.block x4 (Array.getElem?_eq_some_iff.1 HXx4_wC6.out).1 (HN.out.out hNx4)).trans HXx4_wC6.out)
  have HXx5_wA6 := Lib.hid ((HT6.out.block x5 (Array.getElem?_eq_some_iff.1 HXx5_wC6.out).1 (HN.out.out hNx5)).trans HXx5_wC6.out)
  have hb6 := HT6.out.size
  have HOA6 := Lib.hid (own_turns HO_wC6.out HT6.out HN.out (Nat.le_refl _))
  have HBA6 := Lib.hid (HB_wC6.out.trans (HT6.out.toBelow' HB_wC6.out.size HSA6.out.bases))
  have HE6 := Lib.hid ((Below.refl wA6.heap.size wA6).alloc (Nat.le_refl _) (.cells #[vi 0, .slice qa6 0 qc6, vi 0, vi 0, vi 0, vi 5, .bool true, vi 9] 37))
  have HXx6_wB60 := Lib.hid (Bt.alloc_at wA6 (.cells #[vi 0, .slice qa6 0 qc6, vi 0, vi 0, vi 0, vi 5, .bool true, vi 9] 37))
  clear hs6 ht6 ho6
  go_upto_region 7 with fail
  generalize wA6.alloc (.cells #[vi 0, .slice qa6 0 qc6, vi 0, vi 0, vi 0, vi 5, .bool true, vi 9] 37) = wB6 at *
  obtain ⟨x6, hx6⟩ : ∃ x6, x6 = wA6.heap.size := ⟨_, rfl⟩
  rw [← hx6] at HXx6_wB60 ⊢
  have hNx6 : w1.heap.size ≤ x6 := by omega
  have Hx6 := Lib.hid hx6
  clear hx6
  have HXx6_wB6 := HXx6_wB60
  have HXx3_wB6 := Lib.hid ((HE6.out.block x3 (Array.getElem?_eq_some_iff.1 HXx3_wA6.out).1).trans HXx3_wA6.out)
  have HXx4_wB6 := Lib.hid ((HE6.out.block x4 (Array.getElem?_eq_some_iff.1 HXx4_wA6.out).1).trans HXx4_wA6.out)
  have HXx5_wB6 := Lib.hid ((HE6.out.block x5 (Array.getElem?_eq_some_iff.1 HXx5_wA6.out).1).trans HXx5_wA6.out)
  have HS_wB6 := Lib.hid (HSA6.out.later HE6.out)
  have HO_wB6 := Lib.hid (own_below HOA6.out HE6.out)
  have HB_wB6 := Lib.hid (HBA6.out.trans (HE6.out.mono HBA6.out.size))
  have hz6 := HE6.out.size
  go_wp2_with fail
  refine (bareBytes_call 4 ⟨5, false, 0⟩ wB6 i4 ie6).mono ?_
  rintro f7 wC7 ⟨vb7, rfl, hob7, hbb7⟩
  have HBB7 := Lib.hid hbb7
  have HXx3_wC7 := Lib.hid ((HBB7.out.block x3 (Array.getElem?_eq_some_iff.1 HXx3_wB6.out).1).trans HXx3_wB6.out)
  have HXx4_wC7 := Lib.hid ((HBB7.out.block x4 (Array.getElem?_eq_some_iff.1 HXx4_wB6.out).1).trans HXx4_wB6.out)
  have HXx5_wC7 := Lib.hid ((HBB7.out.block x5 (Array.getElem?_eq_some_iff.1 HXx5_wB6.out).1).trans HXx5_wB6.out)
  have HXx6_wC7 := Lib.hid ((HBB7.out.block x6 (Array.getElem?_eq_some_iff.1 HXx6_wB6.out).1).trans HXx6_wB6.out)
  have HS_wC7 := Lib.hid (HS_wB6.out.later hbb7)
  have HB_wC7 := Lib.hid (HB_wB6.out.trans (hbb7.mono HB_wB6.out.size))
  have HO_wC7 := Lib.hid (own_below HO_wB6.out hbb7)
  have HV_wC7 := Lib.hid hob7
  have hy7 := hbb7.size
  clear hob7 hbb7
  dsimp only
  go_wp2_with fail
  refine (apply_decide (bareC 4 ⟨5, false, 0⟩) wC7 HS_wC7.out (bareI i4 ie6) rfl (own_src HV_wC7.out)).mono ?_
  rintro e7 wA7 ⟨a7, vv7, n7, K7, R7, E7, D7, rfl, ho7, hs7, ht7, hp7, rfl, rfl, rfl, rfl⟩
  obtain ⟨x, hx, _, rfl, rfl⟩ | ⟨hx, _⟩ := hp7
  rotate_left
  · rcases hx with hx | hx
    · simp [getM, putM] at hx
    · simp [off32] at hx
  have hx5 : x = ⟨5, true, 9⟩ := by simpa [getM, putM] using hx.symm
  subst hx5
  obtain ⟨qa7, qc7, rfl⟩ := Bt.own_shape (show World.ownsRow _ _ _ _ vv7 0 [] from ho7)
  unfold ansV ansC
  dsimp only
  have HT7 := Lib.hid ht7
  have HSA7 := Lib.hid hs7
  have HXx3_wA7 := Lib.hid ((HT7.out.block x3 (Array.getElem?_eq_some_iff.1 HXx3_wC7.out).1 (HN.out.out hNx3)).trans HXx3_wC7.out)
  have HXx4_wA7 := Lib.hid ((HT7.out.block x4 (Array.getElem?_eq_some_iff.1 HXx4_wC7.out).1 (HN.out.out hNx4)).trans HXx4_wC7.out)
  have HXx5_wA7 := Lib.hid ((HT7.out.block x5 (Array.getElem?_eq_some_iff.1 HXx5_wC7.out).1 (HN.out.out hNx5)).trans HXx5_wC7.out)
  have HXx6_wA7 := Lib.hid ((HT7.out.block x6 (Array.getElem?_eq_some_iff.1 HXx6_wC7.out).1 (HN.out.out hNx6)).trans HXx6_wC7.out)
  have hb7 := HT7.out.size
  have HOA7 := Lib.hid (own_turns HO_wC7.out HT7.out HN.out (Nat.le_refl _))
  have HBA7 := Lib.hid (HB_wC7.out.trans (HT7.out.toBelow' HB_wC7.out.size HSA7.out.bases))
  have HE7 := Lib.hid ((Below.refl wA7.heap.size wA7).alloc (Nat.le_refl _) (.cells #[vi 0, .slice qa7 0 qc7, vi 0, vi 0, vi 0, vi 5, .bool true, vi 9] 37))
  have HXx7_wB70 := Lib.hid (Bt.alloc_at wA7 (.cells #[vi 0, .slice qa7 0 qc7, vi 0, vi 0, vi 0, vi 5, .bool true, vi 9] 37))
  clear hs7 ht7 ho7
  go_upto_region 8 with fail
  generalize wA7.alloc (.cells #[vi 0, .slice qa7 0 qc7, vi 0, vi 0, vi 0, vi 5, .bool true, vi 9] 37) = wB7 at *
  obtain ⟨x7, hx7⟩ : ∃ x7, x7 = wA7.heap.size := ⟨_, rfl⟩
  rw [← hx7] at HXx7_wB70 ⊢
  have hNx7 : w1.heap.size ≤ x7 := by omega
  have Hx7 := Lib.hid hx7
  clear hx7
  have HXx7_wB7 := HXx7_wB70
  have HXx3_wB7 := Lib.hid ((HE7.out.block x3 (Array.getElem?_eq_some_iff.1 HXx3_wA7.out).1).trans HXx3_wA7.out)
  have HXx4_wB7 := Lib.hid ((HE7.out.block x4 (Array.getElem?_eq_some_iff.1 HXx4_wA7.out).1).trans HXx4_wA7.out)
  have HXx5_wB7 := Lib.hid ((HE7.out.block x5 (Array.getElem?_eq_some_iff.1 HXx5_wA7.out).1).trans HXx5_wA7.out)
  have HXx6_wB7 := Lib.hid ((HE7.out.block x6 (Array.getElem?_eq_some_iff.1 HXx6_wA7.out).1).trans HXx6_wA7.out)
  have HS_wB7 := Lib.hid (HSA7.out.later HE7.out)
  have HO_wB7 := Lib.hid (own_below HOA7.out HE7.out)
  have HB_wB7 := Lib.hid (HBA7.out.trans (HE7.out.mono HBA7.out.size))
  have hz7 := HE7.out.size
  have c3 : wB7.cell? ⟨x3, 2, none⟩ = some (vi 1) := by rw [Bt.cell_of HXx3_wB7.out]; rfl
  have c4 : wB7.cell? ⟨x4, 2, none⟩ = some (vi 2) := by rw [Bt.cell_of HXx4_wB7.out]; rfl
  have c5 : wB7.cell? ⟨x5, 0, none⟩ = some (vi 63) := by rw [Bt.cell_of HXx5_wB7.out]; rfl
  have cx65 : wB7.cell? ⟨x6, 5, none⟩ = some (vi 5) := by rw [Bt.cell_of HXx6_wB7.out]; rfl
  have cx66 : wB7.cell? ⟨x6, 6, none⟩ = some (.bool true) := by rw [Bt.cell_of HXx6_wB7.out]; rfl
  have cx67 : wB7.cell? ⟨x6, 7, none⟩ = some (vi 9) := by rw [Bt.cell_of HXx6_wB7.out]; rfl
  have cx75 : wB7.cell? ⟨x7, 5, none⟩ = some (vi 5) := by rw [Bt.cell_of HXx7_wB7.out]; rfl
  have cx76 : wB7.cell? ⟨x7, 6, none⟩ = some (.bool true) := by rw [Bt.cell_of HXx7_wB7.out]; rfl
  have cx77 : wB7.cell? ⟨x7, 7, none⟩ = some (vi 9) := by rw [Bt.cell_of HXx7_wB7.out]; rfl
  go_wp2_with fail
  go_ret
  exact ⟨rfl, HB_wB7.out⟩
end Go.Proofs.Ytdkkpkgfiodlbaa

/- Rows of commands with the kind's bounds; big; Now; whatever command. -/
namespace Go.Proofs.Ytdkkpkgfiodlbaa
open Go.RowKit Go.Maps
open Go.ChangeShapes Go.WideShapes

def ECmdI (w : World) (cs : List Value) (o : Cmd21) : Prop := ECmd21 w cs o ∧ i64 o.k
abbrev RdCmdI (w : World) (v : Value) (l : List Cmd21) : Prop := RdS 9 ECmdI w v l
theorem RdCmdI.later {A B : World} {v : Value} {l : List Cmd21} (h : RdCmdI A v l) (hb : Below A.heap.size A B) : RdCmdI B v l := RdS.below h hb fun _ _ h => ⟨h.1.later hb, h.2⟩
theorem RdCmdI.at {w : World} {v : Value} {xs : List Cmd21} (h : RdCmdI w v xs) : ∃ a len cap, v = .slice a len cap ∧ len = xs.length ∧ xs.length ≤ 9223372036854775807 ∧ ∀ j x, xs[j]? = some x → ∃ b off wv rv, a = some ⟨b, off, none⟩ ∧ RdyS w ⟨wv, rv, x.r⟩ ∧ RdyI x.r ∧ EndI x.e ∧ i64 x.k ∧
    (∀ i u, (cmd21C x wv rv)[i]? = some u → w.cell? ⟨b, off + (j * 9 + i), none⟩ = some u) := by
  obtain ⟨a, len, cap, h1, h2, h3, h4, h5, h6⟩ := h
  refine ⟨a, len, cap, h1, h2, h3, fun j x hj => ?_⟩
  obtain ⟨b, off, cs, ha, hl, hc, ⟨wv, rv, hcs, hr, hi, he⟩, hk⟩ := h6 j x hj
  exact ⟨b, off, wv, rv, ha, hr, hi, he, hk, fun i u hu => hc i u (by rw [hcs]; exact hu)⟩
set_option maxRecDepth 100000 in
theorem cmdI_cells {H : Type} {enc : TypeId × Value → H} {w : World} {spare : Nat → Bool} {held : Bool} {m : Nat} {cs : List Value} {y : DataW H × List MemPlace} (hl : cs.length = 9) (h : DataW.trod enc Try.prog w 0 spare held m 33 cs = some y) : ∃ o, ECmdI w cs o := by
  obtain ⟨xs, n, _, _, _, hlen, hf⟩ := DataW.trod_struct Try.underlying33 h
  match cs, hl, xs, hlen with
  | [c0, c1, c2, c3, c4, c5, c6, c7, c8], _, [y0, y1, y2], _ =>
    have h0 : DataW.trod enc Try.prog w 0 spare held n 3 (([c0, c1, c2, c3, c4, c5, c6, c7, c8].drop 0).take (Try.prog.cellsOf 3)) = some y0 := hf 0 _ rfl
    have h1 : DataW.trod enc Try.prog w 0 spare held n 29 (([c0, c1, c2, c3, c4, c5, c6, c7, c8].drop 1).take (Try.prog.cellsOf 29)) = some y1 := hf 1 _ rfl
    have h2 : DataW.trod enc Try.prog w 0 spare held n 31 (([c0, c1, c2, c3, c4, c5, c6, c7, c8].drop 6).take (Try.prog.cellsOf 31)) = some y2 := hf 2 _ rfl
    rw [cells_int] at h0
    rw [cells_rdy] at h1
    rw [cells_end] at h2
    obtain ⟨a, rfl, ha⟩ := int_cell h0
    obtain ⟨x, hx, hs, hi⟩ := rdy_cells (by rfl) h1
    obtain ⟨e, he, hei⟩ := end_cells (by rfl) h2
    cases hx
    cases he
    exact ⟨⟨a, x.r, e⟩, ⟨x.wv, x.rv, rfl, hs, hi, hei⟩, ha⟩
set_option maxRecDepth 100000 in
theorem cmdIs_of_row {H : Type} {enc : TypeId × Value → H} {w : World} {spare : Nat → Bool} {held : Bool} {base : Nat} {v : Value} {d : DataW H} {ps : List MemPlace} (hk : Value.okWide Try.prog w .any base 22 v) (h : DataW.Trod enc Try.prog w 0 spare held 22 v d ps) : ∃ l, RdCmdI w v l := by
  obtain ⟨a, l, c, rfl⟩ := okWide_slice Try.underlying22 hk
  obtain ⟨fuel, hf⟩ := h
  exact rds_of_trod Try.underlying22 cells_cmd21 (by omega) hf fun _ _ _ hl hy => cmdI_cells hl hy
theorem rdv_slices21 {W : World} {x : RV} (h : RdyS W x) : ∃ (a : Option Addr) (c : Nat) (a' : Option Addr) (c' : Nat), x.wv = .slice a x.r.writes.length c ∧ x.rv = .slice a' x.r.reads.length c' ∧ x.r.writes.length ≤ 9223372036854775807 ∧ x.r.reads.length ≤ 9223372036854775807 := by
  obtain ⟨a, n, c, h1, h2, h3, -⟩ := h.ws
  obtain ⟨a', n', c', h1', h2', h3', -⟩ := h.rs
  subst h2 h2'
  exact ⟨a, c, a', c', h1, h1', h3, h3'⟩
def bigC (r : Rdy) : Bool := decide (20 < r.writes.length) || decide (20 < r.reads.length)
theorem bigC_false {r : Rdy} (h : bigC r = false) : r.writes.length ≤ 20 ∧ r.reads.length ≤ 20 := by
  unfold bigC at h
  rw [Bool.or_eq_false_iff] at h
  simp at h; exact h
set_option maxRecDepth 100000 in
set_option maxHeartbeats 1000000 in
theorem big21_call (k t at_ : Int) (c : Bool) (aw ar : Option Addr) (cw cr : Nat) (r : Rdy) (w : World) (hw : r.writes.length ≤ 9223372036854775807) (hr : r.reads.length ≤ 9223372036854775807) :
    Calls Try.prog 10 #[.agg #[vi k, vi r.txn, vi r.home, vi r.start, .slice aw r.writes.length cw, .slice ar r.reads.length cr, vi t, .bool c, vi at_]] w fun e w' => e = .returned (.bool (bigC r)) ∧ Below w.heap.size w w' := by
  by_cases h1 : 20 < r.writes.length
  · have h1' : (20 : Int) < (r.writes.length : Int) := by omega
    have HB := Lib.hid (show bigC r = true by simp [bigC, h1])
    clear h1
    go_enter Try.func10, Try.ntmps10
    go_wp2_with fail
    go_ret
    exact ⟨by rw [HB.out]; rfl, (Below.refl _ _).alloc (Nat.le_refl _) _⟩
  · have h1' : ¬ (20 : Int) < (r.writes.length : Int) := by omega
    by_cases h2 : 20 < r.reads.length
    · have h2' : (20 : Int) < (r.reads.length : Int) := by omega
      have HB := Lib.hid (show bigC r = true by simp [bigC, h2])
      clear h1 h2
      go_enter Try.func10, Try.ntmps10
      go_wp2_with fail
      go_ret
      exact ⟨by rw [HB.out]; rfl, (Below.refl _ _).alloc (Nat.le_refl _) _⟩
    · have h2' : ¬ (20 : Int) < (r.reads.length : Int) := by omega
      have HB := Lib.hid (show bigC r = false by simp [bigC, h1, h2])
      clear h1 h2
      go_enter Try.func10, Try.ntmps10
      go_wp2_with fail
      go_ret
      exact ⟨by rw [HB.out]; rfl, (Below.refl _ _).alloc (Nat.le_refl _) _⟩
set_option maxRecDepth 100000 in
set_option maxHeartbeats 1000000 in
theorem now_call {base p ps mk mr me md : Nat} {serial : Bool} {bugs stamps now : Int} {K : KeysL} {R : RdyL} {E D : EndL} (w : World) (h : ShS base p ps mk mr me md serial bugs stamps now K R E D w) :
    Calls Try.prog 13 #[.pointer (some ⟨p, 0, none⟩)] w fun e w' => e = .returned (vi now) ∧ w' = w := by
  have c3 : w.cell? ⟨p, 3, none⟩ = some (vi now) := by rw [cell_of h.blk]; rfl
  clear h
  go_enter Try.func13, Try.ntmps13
  go_wp2_with fail
  go_ret
  exact ⟨rfl, rfl⟩
def AnyP (n : Nat) (k stamps now : Int) (a : Ans) (now' : Int) (K' : KeysL) (R' : RdyL) (_ _ : EndL) : Prop :=
  ShI (n + 1) K' R' ∧ (k = 1 → (now < stamps ∧ a.err = 0 ∧ a.at_ = now + 1 ∧ now' = now + 1) ∨ (stamps ≤ now ∧ a.err = 63 ∧ a.at_ = 0 ∧ now' = now)) ∧ (k ≠ 1 → now' = now)
theorem AppT.imp {N base p ps mk mr me md : Nat} {serial : Bool} {bugs stamps : Int} {P Q : Ans → Int → KeysL → RdyL → EndL → EndL → Prop} {w : World} (hPQ : ∀ a n K R E D, P a n K R E D → Q a n K R E D) {e : Ending} {w' : World} (h : AppT N base p ps mk mr me md serial bugs stamps P w e w') : AppT N base p ps mk mr me md serial bugs stamps Q w e w' := by
  obtain ⟨a, vv, n', K', R', E', D', h1, h2, h3, h4, h5⟩ := h
  exact ⟨a, vv, n', K', R', E', D', h1, h2, h3, h4, hPQ _ _ _ _ _ _ h5⟩
theorem killK_small {r : Rdy} (hi : RdyI r) : ∀ o ∈ (killK r).writes, i64 o.key := by
  intro o ho
  unfold killK at ho
  simp only [List.mem_map] at ho
  obtain ⟨o', h', rfl⟩ := ho
  exact (hi.ws o' h').2.1
theorem ShT.apply {N base p ps mk mr me md : Nat} {serial : Bool} {bugs stamps now : Int} {K : KeysL} {R : RdyL} {E D : EndL} (c : Cmd21) {v : Value} (w : World) (h : ShT N base p ps mk mr me md serial bugs stamps now K R E D w) (hi : CmdI c)
    (hv : Src w v 1 (btBytes (cmdL c)).length ((btBytes (cmdL c)).map u8)) {n : Nat} (hn : n ≤ 900) (hI : ShI n K R) (h0 : 0 ≤ now ∧ now ≤ 1000000) :
    Calls Try.prog 11 #[.pointer (some ⟨p, 0, none⟩), v] w (AppT N base p ps mk mr me md serial bugs stamps (AnyP n c.k stamps now) w) := by
  by_cases k1 : c.k = 1
  · refine (h.stamp c w hi k1 hv h0).mono fun _ _ hq => hq.imp fun a n' K' R' E' D' hp => ?_
    obtain ⟨hp, rfl, rfl, -, -⟩ := hp
    refine ⟨hI.more, fun _ => ?_, fun h => absurd k1 h⟩
    rcases hp with ⟨h1, rfl, h2⟩ | ⟨h1, rfl, h2⟩
    · exact .inl ⟨h1, rfl, rfl, h2⟩
    · exact .inr ⟨h1, rfl, rfl, h2⟩
  by_cases k2 : c.k = 2
  · refine (h.get c w hi k2 hv hn hI).mono fun _ _ hq => hq.imp fun a n' K' R' E' D' hp => ?_
    obtain ⟨-, rfl, rfl, rfl, -, -⟩ := hp
    exact ⟨hI.more, fun h => absurd h k1, fun _ => rfl⟩
  by_cases k3 : c.k = 3
  · refine (h.prep c w hi k3 hv hn hI).mono fun _ _ hq => hq.imp fun a n' K' R' E' D' hp => ?_
    obtain ⟨_, _, _, -, hp, -, rfl, rfl, -, -⟩ := hp
    exact ⟨hI.prep (r := killK c.r) (by rw [killK_len]; exact hi.lw) hi.lr (killK_small hi.r) hp, fun h => absurd h k1, fun _ => rfl⟩
  by_cases k4 : c.k = 4
  · refine (h.dec4 c w hi k4 hv).mono fun _ _ hq => hq.imp fun a n' K' R' E' D' hp => ?_
    obtain ⟨-, rfl, rfl, rfl, -⟩ := hp
    exact ⟨hI.more, fun h => absurd h k1, fun _ => rfl⟩
  by_cases k5 : c.k = 5
  · refine (h.finish c w hi k5 hv (by omega) hI).mono fun _ _ hq => hq.imp fun a n' K' R' E' D' hp => ?_
    obtain ⟨-, rfl, hf, -⟩ := hp
    exact ⟨hI.fin hf, fun h => absurd h k1, fun _ => rfl⟩
  · refine (h.bad c w hi (by omega) hv).mono fun _ _ hq => hq.imp fun a n' K' R' E' D' hp => ?_
    obtain ⟨-, rfl, rfl, rfl, -, -⟩ := hp
    exact ⟨hI.more, fun h => absurd h k1, fun _ => rfl⟩
theorem and31 (x : Int) : ∃ y, bits .and .i64 x 31 = y ∧ 0 ≤ y ∧ y ≤ 31 := by
  have : ∃ m : Nat, m ≤ 31 ∧ bits .and .i64 x 31 = IntKind.i64.wrap (m : Int) := ⟨(BitVec.ofInt 64 x &&& BitVec.ofInt 64 31).toNat, by rw [BitVec.toNat_and]; exact Nat.le_trans Nat.and_le_right (by decide), rfl⟩
  obtain ⟨m, h1, h2⟩ := this
  refine ⟨m, ?_, by omega, by omega⟩
  rw [h2, IntKind.wrap_i64]; omega
end Go.Proofs.Ytdkkpkgfiodlbaa
