/- Texts of one proof, one behind the other: ShAp4, ShHead, ShT, ShAp0, ShLock. -/
import Derived.Test.YtdkkpkgfiodlbaaJa15
import Derived.Test.YtdkkpkgfiodlbaaJa3
import Derived.Test.YtdkkpkgfiodlbaaJa6
set_option linter.all false
/- (*shard.State).Apply: a decision. -/
namespace Go.Proofs.Ytdkkpkgfiodlbaa
open Go.RowKit Go.Maps

def DecideP (bugs now : Int) (K : KeysL) (R : RdyL) (E D : EndL) (e : EndM) (a : Ans) (now' : Int) (K' : KeysL) (R' : RdyL) (E' D' : EndL) : Prop :=
  ((∃ x, getM D e.txn = some x ∧ offB bugs 32 = true ∧ a = ⟨0, [], 0, 0, 0, x⟩ ∧ D' = D) ∨ ((getM D e.txn = none ∨ offB bugs 32 = false) ∧ a = ⟨0, [], 0, 0, 0, e⟩ ∧ D' = putM D e.txn e)) ∧ now' = now ∧ K' = K ∧ R' = R ∧ E' = E
set_option maxRecDepth 100000 in
set_option maxHeartbeats 8000000 in
theorem apply_decide {base p ps mk mr me md : Nat} {serial : Bool} {bugs stamps now : Int} {K : KeysL} {R : RdyL} {E D : EndL} (c : Cmd21) {v : Value} (w : World) (h : ShS base p ps mk mr me md serial bugs stamps now K R E D w) (hi : CmdI c) (hk : c.k = 4)
    (hv : Src w v 1 (btBytes (cmdL c)).length ((btBytes (cmdL c)).map u8)) :
    Calls Try.prog 11 #[.pointer (some ⟨p, 0, none⟩), v] w (AppQ base p ps mk mr me md serial bugs stamps (DecideP bugs now K R E D c.e) w) := by
  have HI := Lib.hid hi
  have HK := Lib.hid hk
  have HH := Lib.hid (h.later ((Below.refl w.heap.size w).alloc (Nat.le_refl _) (.cells ansZ 37)))
  have HV := Lib.hid (hv.below ((Below.refl w.heap.size w).alloc (Nat.le_refl _) (.cells ansZ 37)))
  have HA0 := Lib.hid (Bt.alloc_at w (.cells ansZ 37))
  have HB0 := Lib.hid ((Below.refl w.heap.size w).alloc (Nat.le_refl _) (.cells ansZ 37))
  have hcl : (btBytes (cmdL c)).length ≤ 1048576 := by rw [btBytes_length]; have := cmdL_length hi; omega
  obtain ⟨bs, hbs⟩ : ∃ bs, bs = btBytes (cmdL c) := ⟨_, rfl⟩
  rw [← hbs] at HV hcl
  have HBS := Lib.hid hbs
  have hpw : p < w.heap.size := (Array.getElem?_eq_some_iff.1 h.blk).1
  have H0 := Lib.hid h
  clear h hi hk hv hbs
  go_enter Try.func11, Try.ntmps11
  go_upto_region 1 with fail
  generalize w.alloc (.cells ansZ 37) = w1 at *
  obtain ⟨A, hA⟩ : ∃ A, A = w.heap.size := ⟨_, rfl⟩
  rw [← hA] at HA0 ⊢
  have HAE := Lib.hid hA
  have hAw : A < w1.heap.size := (Array.getElem?_eq_some_iff.1 HA0.out).1
  clear hA
  go_wp2_with fail
  refine (shRead_call (bs := bs) w1 HV.out (by rw [HBS.out]; exact btBytes_lt _) hcl).mono ?_
  rintro e2 w2 ⟨c', wv, rv, err, rfl, hrd⟩
  rw [HBS.out] at hrd
  obtain ⟨rfl, rfl⟩ := (cmd_back HI.out hrd).1 ⟨by rw [HK.out]; decide, by rw [HK.out]; decide⟩
  have hkl := killK_len c.r
  have hows : w2.ownsRow w1.heap.size 104 3 wv c.r.writes.length ((killK c.r).writes.flatMap opV) := by have := hrd.ws; unfold OwOps at this; rw [show (killC c).r.writes.length = c.r.writes.length from hkl] at this; exact this
  have hors : w2.ownsRow w1.heap.size 3 1 rv c.r.reads.length (c.r.reads.flatMap viC) := hrd.rs
  obtain ⟨aw, cw, rfl⟩ := Bt.own_shape hows
  obtain ⟨ar, cr, rfl⟩ := Bt.own_shape hors
  have HWS := Lib.hid hrd.ws
  have HRS := Lib.hid hrd.rs
  have HH2 := Lib.hid (HH.out.later hrd.bel)
  have HA2 := Lib.hid ((hrd.bel.block A hAw).trans HA0.out)
  have HB2 := Lib.hid (HB0.out.trans (hrd.bel.mono HB0.out.size))
  have hA2w : A < w2.heap.size := Nat.lt_of_lt_of_le hAw hrd.bel.size
  have hw12 := hrd.bel.size
  have HKL := Lib.hid hkl
  clear hrd hkl hows hors HH HA0 HB0 HV
  unfold cmdV cmdC
  dsimp only [killC, killK]
  have HC3 := Lib.hid (Bt.alloc_at w2 (.cells #[vi c.k, vi c.r.txn, vi c.r.home, vi c.r.start, .slice aw c.r.writes.length cw, .slice ar c.r.reads.length cr, vi c.e.txn, .bool c.e.commit, vi c.e.at_] 33))
  have HH3 := Lib.hid (HH2.out.later ((Below.refl w2.heap.size w2).alloc (Nat.le_refl _) (.cells #[vi c.k, vi c.r.txn, vi c.r.home, vi c.r.start, .slice aw c.r.writes.length cw, .slice ar c.r.reads.length cr, vi c.e.txn, .bool c.e.commit, vi c.e.at_] 33)))
  have HA3 := Lib.hid ((Below.heap_alloc w2 (.cells #[vi c.k, vi c.r.txn, vi c.r.home, vi c.r.start, .slice aw c.r.writes.length cw, .slice ar c.r.reads.length cr, vi c.e.txn, .bool c.e.commit, vi c.e.at_] 33) A hA2w).trans HA2.out)
  have HB3 := Lib.hid (HB2.out.alloc HB2.out.size (.cells #[vi c.k, vi c.r.txn, vi c.r.home, vi c.r.start, .slice aw c.r.writes.length cw, .slice ar c.r.reads.length cr, vi c.e.txn, .bool c.e.commit, vi c.e.at_] 33))
  have HWS3 := Lib.hid (own_below HWS.out ((Below.refl w2.heap.size w2).alloc (Nat.le_refl _) (.cells #[vi c.k, vi c.r.txn, vi c.r.home, vi c.r.start, .slice aw c.r.writes.length cw, .slice ar c.r.reads.length cr, vi c.e.txn, .bool c.e.commit, vi c.e.at_] 33)))
  have HRS3 := Lib.hid (own_below HRS.out ((Below.refl w2.heap.size w2).alloc (Nat.le_refl _) (.cells #[vi c.k, vi c.r.txn, vi c.r.home, vi c.r.start, .slice aw c.r.writes.length cw, .slice ar c.r.reads.length cr, vi c.e.txn, .bool c.e.commit, vi c.e.at_] 33)))
  go_upto_region 4 with fail
  clear HH2 HA2 HB2 HWS HRS
  generalize w2.alloc (.cells #[vi c.k, vi c.r.txn, vi c.r.home, vi c.r.start, .slice aw c.r.writes.length cw, .slice ar c.r.reads.length cr, vi c.e.txn, .bool c.e.commit, vi c.e.at_] 33) = w3 at *
  have hC3w : w2.heap.size < w3.heap.size := (Array.getElem?_eq_some_iff.1 HC3.out).1
  obtain ⟨C, hC⟩ : ∃ C, C = w2.heap.size := ⟨_, rfl⟩
  rw [← hC] at HC3 hC3w ⊢
  have HCE := Lib.hid hC
  have hAC : A ≠ C := by omega
  have hpA : p < A := by have := HAE.out; omega
  clear hC
  have k0 : w3.cell? ⟨C, 0, none⟩ = some (vi c.k) := by rw [Bt.cell_of HC3.out]; rfl
  have b1 : (c.k == 1) = false := by rw [HK.out]; rfl
  have b2 : (c.k == 2) = false := by rw [HK.out]; rfl
  have b3 : (c.k == 3) = false := by rw [HK.out]; rfl
  have b4 : (c.k == 4) = true := by rw [HK.out]; rfl
  have hBw : w.heap.size ≤ w3.heap.size := HB3.out.size
  have HT := Lib.hid (show i64 c.e.txn from HI.out.e.txn)
  have p4 : w3.cell? ⟨p, 4, none⟩ = some (.map (some md)) := by rw [cell_of HH3.out.blk]; rfl
  have y6 : w3.cell? ⟨C, 6, none⟩ = some (vi c.e.txn) := by rw [Bt.cell_of HC3.out]; rfl
  obtain ⟨b, hb⟩ : ∃ b, (getM D c.e.txn).isSome = b := ⟨_, rfl⟩
  have HBE := Lib.hid hb
  obtain ⟨ex, hex⟩ : ∃ ex, (getM D c.e.txn).getD ⟨0, false, 0⟩ = ex := ⟨_, rfl⟩
  have HEX := Lib.hid hex
  have hS : ∀ w' : World, Below w3.heap.size w3 w' → w'.cell? ⟨p, 4, none⟩ = some (.map (some md)) ∧ w'.cell? ⟨C, 6, none⟩ = some (vi c.e.txn) ∧ (Instr.lookup 44 (.map (some md)) (vi c.e.txn) true).run Try.prog w' = .ok (.tuple #[.agg #[vi ex.txn, .bool ex.commit, vi ex.at_], .bool b]) w' := fun w' hw => by
    have := lookup_ends (HH3.out.later hw).dm HT.out
    rw [hb, hex] at this
    exact ⟨cell_later hw p4, cell_later hw y6, this⟩
  have HS := Lib.hid hS
  clear hb hS hex
  go_upto_region 27 with fail
  go_cut [15, 16] (fun b15 u wx => b15 = .pointer (some ⟨w3.heap.size, 0, none⟩) ∧ u = .bool b ∧ wx.heap[w3.heap.size]? = some (.cells #[vi ex.txn, .bool ex.commit, vi ex.at_] 31) ∧ Below w3.heap.size w3 wx)
  case first =>
    go_region_held3 (fun w' : World => w'.cell? ⟨p, 4, none⟩ = some (.map (some md)) ∧ w'.cell? ⟨C, 6, none⟩ = some (vi c.e.txn) ∧ (Instr.lookup 44 (.map (some md)) (vi c.e.txn) true).run Try.prog w' = .ok (.tuple #[.agg #[vi ex.txn, .bool ex.commit, vi ex.at_], .bool b]) w')
      (first | exact HS.out _ (Below.refl _ _) | exact HS.out _ ((Below.refl _ _).drew) | exact HS.out _ (((Below.refl _ _).drew).alloc (Nat.le_refl _) _) | exact HS.out _ ((((Below.refl _ _).drew).alloc (Nat.le_refl _) _).setCell (Nat.le_refl _) _)) (fail)
    all_goals
      go_wp2_with fail
      go_meet
      exact ⟨rfl, rfl, alloc_at w3 _, by first | exact ((Below.refl _ _).alloc (Nat.le_refl _) _).drew | exact ((Below.refl _ _).drew).alloc (Nat.le_refl _) _⟩
  case rest =>
    obtain ⟨w4, rfl⟩ : ∃ w4 : World, w4 = wc := ⟨_, rfl⟩
    obtain ⟨rfl, rfl, hbx, hb4⟩ := hcut
    have HBX := Lib.hid hbx
    have HB4 := Lib.hid hb4
    have H4 := Lib.hid (HH3.out.later hb4)
    have hA3 := (Array.getElem?_eq_some_iff.1 HA3.out).1
    have HA4 := Lib.hid ((hb4.block A hA3).trans HA3.out)
    have HC4 := Lib.hid ((hb4.block C (Array.getElem?_eq_some_iff.1 HC3.out).1).trans HC3.out)
    have p1 : w4.cell? ⟨p, 1, none⟩ = some (vi bugs) := by rw [cell_of H4.out.blk]; rfl
    obtain ⟨off, hoff⟩ : ∃ off, (bits .and .i64 bugs 32 == 0) = off := ⟨_, rfl⟩
    have HOFF := Lib.hid (show offB bugs 32 = off from hoff)
    clear hbx hb4 p4 y6 k0
    cases b
    · obtain ⟨w5, hup, HUP⟩ := (H4.out.later ((Below.refl w4.heap.size w4).drew)).put (y := c.e) HT.out
      have p4' : w4.cell? ⟨p, 4, none⟩ = some (.map (some md)) := by rw [cell_of H4.out.blk]; rfl
      have z6 : w4.cell? ⟨C, 6, none⟩ = some (vi c.e.txn) := by rw [Bt.cell_of HC4.out]; rfl
      have z7 : w4.cell? ⟨C, 7, none⟩ = some (.bool c.e.commit) := by rw [Bt.cell_of HC4.out]; rfl
      have z8 : w4.cell? ⟨C, 8, none⟩ = some (vi c.e.at_) := by rw [Bt.cell_of HC4.out]; rfl
      have HA5 := Lib.hid (HUP.out.2.2 _ _ _ _ (show w4.drew.heap[A]? = _ from HA4.out))
      have HC5 := Lib.hid (HUP.out.2.2 _ _ _ _ (show w4.drew.heap[C]? = _ from HC4.out))
      have z6' : w5.cell? ⟨C, 6, none⟩ = some (vi c.e.txn) := by rw [Bt.cell_of HC5.out]; rfl
      have z7' : w5.cell? ⟨C, 7, none⟩ = some (.bool c.e.commit) := by rw [Bt.cell_of HC5.out]; rfl
      have z8' : w5.cell? ⟨C, 8, none⟩ = some (vi c.e.at_) := by rw [Bt.cell_of HC5.out]; rfl
      have hw45 : w.heap.size ≤ w5.heap.size := Nat.le_trans hBw (Nat.le_trans HB4.out.size HUP.out.2.1.size)
      go_upto_region 30 with fail
      go_region_held3 (fun w' : World => w'.cell? ⟨p, 4, none⟩ = some (.map (some md)) ∧ w'.cell? ⟨C, 6, none⟩ = some (vi c.e.txn) ∧ w'.cell? ⟨C, 7, none⟩ = some (.bool c.e.commit) ∧ w'.cell? ⟨C, 8, none⟩ = some (vi c.e.at_))
        (first | exact ⟨p4', z6, z7, z8⟩ | exact ⟨HUP.out.2.2.cell (show w4.drew.cell? _ = _ from p4'), z6', z7', z8'⟩) (fail)
      have xf : ∀ o, w5.frozen? ⟨A, o, none⟩ = false := fun o => free_of HA5.out o
      have x0 : w5.cell? ⟨A, 0, none⟩ = some (vi 0) := by rw [Bt.cell_of HA5.out]; rfl
      have x1 : w5.cell? ⟨A, 1, none⟩ = some (.slice none 0 0) := by rw [Bt.cell_of HA5.out]; rfl
      have x2 : w5.cell? ⟨A, 2, none⟩ = some (vi 0) := by rw [Bt.cell_of HA5.out]; rfl
      have x3 : w5.cell? ⟨A, 3, none⟩ = some (vi 0) := by rw [Bt.cell_of HA5.out]; rfl
      have x4 : w5.cell? ⟨A, 4, none⟩ = some (vi 0) := by rw [Bt.cell_of HA5.out]; rfl
      have x5 : w5.cell? ⟨A, 5, none⟩ = some (vi 0) := by rw [Bt.cell_of HA5.out]; rfl
      have x6 : w5.cell? ⟨A, 6, none⟩ = some (.bool false) := by rw [Bt.cell_of HA5.out]; rfl
      have x7 : w5.cell? ⟨A, 7, none⟩ = some (vi 0) := by rw [Bt.cell_of HA5.out]; rfl
      all_goals
        go_wp2_with fail
        have HAQ := HA5.out
        change bodyPost _ _ _ _ _ (w5.setCells A 0 [vi 0, .slice none 0 0, vi 0, vi 0, vi 0, vi c.e.txn, .bool c.e.commit, vi c.e.at_])
        obtain ⟨wz, hwz⟩ : ∃ wz, wz = w5.setCells A 0 [vi 0, .slice none 0 0, vi 0, vi 0, vi 0, vi c.e.txn, .bool c.e.commit, vi c.e.at_] := ⟨_, rfl⟩
        have HZC := Lib.hid (show wz.heap[A]? = some (.cells #[vi 0, .slice none 0 0, vi 0, vi 0, vi 0, vi c.e.txn, .bool c.e.commit, vi c.e.at_] 37) by rw [hwz]; exact setCells_all (cs := [vi 0, .slice none 0 0, vi 0, vi 0, vi 0, vi c.e.txn, .bool c.e.commit, vi c.e.at_]) HAQ rfl)
        rw [← hwz]
        have HWZ := Lib.hid hwz
        clear hwz x0 x1 x2 x3 x4 x5 x6 x7 xf
        have r0 : wz.cell? ⟨A, 0, none⟩ = some (vi 0) := by rw [Bt.cell_of HZC.out]; rfl
        have r1 : wz.cell? ⟨A, 1, none⟩ = some (.slice none 0 0) := by rw [Bt.cell_of HZC.out]; rfl
        have r2 : wz.cell? ⟨A, 2, none⟩ = some (vi 0) := by rw [Bt.cell_of HZC.out]; rfl
        have r3 : wz.cell? ⟨A, 3, none⟩ = some (vi 0) := by rw [Bt.cell_of HZC.out]; rfl
        have r4 : wz.cell? ⟨A, 4, none⟩ = some (vi 0) := by rw [Bt.cell_of HZC.out]; rfl
        have r5 : wz.cell? ⟨A, 5, none⟩ = some (vi c.e.txn) := by rw [Bt.cell_of HZC.out]; rfl
        have r6 : wz.cell? ⟨A, 6, none⟩ = some (.bool c.e.commit) := by rw [Bt.cell_of HZC.out]; rfl
        have r7 : wz.cell? ⟨A, 7, none⟩ = some (vi c.e.at_) := by rw [Bt.cell_of HZC.out]; rfl
        refine bodyPost_ret (v := ansV ⟨0, [], 0, 0, 0, c.e⟩ (.slice none 0 0)) (by simp [results, Try.results11, go_sem, ansV, ansC, r0, r1, r2, r3, r4, r5, r6, r7]) rfl ⟨⟨0, [], 0, 0, 0, c.e⟩, .slice none 0 0, now, K, R, E, putM D c.e.txn c.e, rfl, World.ownsRow_nil _ _ _ _, ?_, ?_, .inr ⟨.inl (endsNone HBE.out), rfl, rfl⟩, rfl, rfl, rfl, rfl⟩
        · refine H0.out.dec (by rw [HWZ.out]; exact dec_turns (HB3.out.trans (HB4.out.mono hBw)) HUP.out.2.1 (by rw [HAE.out]; exact Nat.le_refl _)) ?_
          rw [HWZ.out]
          exact HUP.out.1.dm.frame (setCells_other A _ 0 w5 md (fun e => by have := H0.out.dm.lt; have := HAE.out; omega))
        · refine Turns.mono (bs := [md]) ?_ (by simp)
          rw [HWZ.out]
          exact dec_turns (HB3.out.trans (HB4.out.mono hBw)) HUP.out.2.1 (by rw [HAE.out]; exact Nat.le_refl _)
    · cases off
      · obtain ⟨w5, hup, HUP⟩ := (H4.out.later ((Below.refl w4.heap.size w4).drew)).put (y := c.e) HT.out
        have p4' : w4.cell? ⟨p, 4, none⟩ = some (.map (some md)) := by rw [cell_of H4.out.blk]; rfl
        have z6 : w4.cell? ⟨C, 6, none⟩ = some (vi c.e.txn) := by rw [Bt.cell_of HC4.out]; rfl
        have z7 : w4.cell? ⟨C, 7, none⟩ = some (.bool c.e.commit) := by rw [Bt.cell_of HC4.out]; rfl
        have z8 : w4.cell? ⟨C, 8, none⟩ = some (vi c.e.at_) := by rw [Bt.cell_of HC4.out]; rfl
        have HA5 := Lib.hid (HUP.out.2.2 _ _ _ _ (show w4.drew.heap[A]? = _ from HA4.out))
        have HC5 := Lib.hid (HUP.out.2.2 _ _ _ _ (show w4.drew.heap[C]? = _ from HC4.out))
        have z6' : w5.cell? ⟨C, 6, none⟩ = some (vi c.e.txn) := by rw [Bt.cell_of HC5.out]; rfl
        have z7' : w5.cell? ⟨C, 7, none⟩ = some (.bool c.e.commit) := by rw [Bt.cell_of HC5.out]; rfl
        have z8' : w5.cell? ⟨C, 8, none⟩ = some (vi c.e.at_) := by rw [Bt.cell_of HC5.out]; rfl
        have hw45 : w.heap.size ≤ w5.heap.size := Nat.le_trans hBw (Nat.le_trans HB4.out.size HUP.out.2.1.size)
        go_upto_region 30 with fail
        go_region_held3 (fun w' : World => w'.cell? ⟨p, 4, none⟩ = some (.map (some md)) ∧ w'.cell? ⟨C, 6, none⟩ = some (vi c.e.txn) ∧ w'.cell? ⟨C, 7, none⟩ = some (.bool c.e.commit) ∧ w'.cell? ⟨C, 8, none⟩ = some (vi c.e.at_))
          (first | exact ⟨p4', z6, z7, z8⟩ | exact ⟨HUP.out.2.2.cell (show w4.drew.cell? _ = _ from p4'), z6', z7', z8'⟩) (fail)
        have xf : ∀ o, w5.frozen? ⟨A, o, none⟩ = false := fun o => free_of HA5.out o
        have x0 : w5.cell? ⟨A, 0, none⟩ = some (vi 0) := by rw [Bt.cell_of HA5.out]; rfl
        have x1 : w5.cell? ⟨A, 1, none⟩ = some (.slice none 0 0) := by rw [Bt.cell_of HA5.out]; rfl
        have x2 : w5.cell? ⟨A, 2, none⟩ = some (vi 0) := by rw [Bt.cell_of HA5.out]; rfl
        have x3 : w5.cell? ⟨A, 3, none⟩ = some (vi 0) := by rw [Bt.cell_of HA5.out]; rfl
        have x4 : w5.cell? ⟨A, 4, none⟩ = some (vi 0) := by rw [Bt.cell_of HA5.out]; rfl
        have x5 : w5.cell? ⟨A, 5, none⟩ = some (vi 0) := by rw [Bt.cell_of HA5.out]; rfl
        have x6 : w5.cell? ⟨A, 6, none⟩ = some (.bool false) := by rw [Bt.cell_of HA5.out]; rfl
        have x7 : w5.cell? ⟨A, 7, none⟩ = some (vi 0) := by rw [Bt.cell_of HA5.out]; rfl
        all_goals
          go_wp2_with fail
          have HAQ := HA5.out
          change bodyPost _ _ _ _ _ (w5.setCells A 0 [vi 0, .slice none 0 0, vi 0, vi 0, vi 0, vi c.e.txn, .bool c.e.commit, vi c.e.at_])
          obtain ⟨wz, hwz⟩ : ∃ wz, wz = w5.setCells A 0 [vi 0, .slice none 0 0, vi 0, vi 0, vi 0, vi c.e.txn, .bool c.e.commit, vi c.e.at_] := ⟨_, rfl⟩
          have HZC := Lib.hid (show wz.heap[A]? = some (.cells #[vi 0, .slice none 0 0, vi 0, vi 0, vi 0, vi c.e.txn, .bool c.e.commit, vi c.e.at_] 37) by rw [hwz]; exact setCells_all (cs := [vi 0, .slice none 0 0, vi 0, vi 0, vi 0, vi c.e.txn, .bool c.e.commit, vi c.e.at_]) HAQ rfl)
          rw [← hwz]
          have HWZ := Lib.hid hwz
          clear hwz x0 x1 x2 x3 x4 x5 x6 x7 xf
          have r0 : wz.cell? ⟨A, 0, none⟩ = some (vi 0) := by rw [Bt.cell_of HZC.out]; rfl
          have r1 : wz.cell? ⟨A, 1, none⟩ = some (.slice none 0 0) := by rw [Bt.cell_of HZC.out]; rfl
          have r2 : wz.cell? ⟨A, 2, none⟩ = some (vi 0) := by rw [Bt.cell_of HZC.out]; rfl
          have r3 : wz.cell? ⟨A, 3, none⟩ = some (vi 0) := by rw [Bt.cell_of HZC.out]; rfl
          have r4 : wz.cell? ⟨A, 4, none⟩ = some (vi 0) := by rw [Bt.cell_of HZC.out]; rfl
          have r5 : wz.cell? ⟨A, 5, none⟩ = some (vi c.e.txn) := by rw [Bt.cell_of HZC.out]; rfl
          have r6 : wz.cell? ⟨A, 6, none⟩ = some (.bool c.e.commit) := by rw [Bt.cell_of HZC.out]; rfl
          have r7 : wz.cell? ⟨A, 7, none⟩ = some (vi c.e.at_) := by rw [Bt.cell_of HZC.out]; rfl
          refine bodyPost_ret (v := ansV ⟨0, [], 0, 0, 0, c.e⟩ (.slice none 0 0)) (by simp [results, Try.results11, go_sem, ansV, ansC, r0, r1, r2, r3, r4, r5, r6, r7]) rfl ⟨⟨0, [], 0, 0, 0, c.e⟩, .slice none 0 0, now, K, R, E, putM D c.e.txn c.e, rfl, World.ownsRow_nil _ _ _ _, ?_, ?_, .inr ⟨.inr HOFF.out, rfl, rfl⟩, rfl, rfl, rfl, rfl⟩
          · refine H0.out.dec (by rw [HWZ.out]; exact dec_turns (HB3.out.trans (HB4.out.mono hBw)) HUP.out.2.1 (by rw [HAE.out]; exact Nat.le_refl _)) ?_
            rw [HWZ.out]
            exact HUP.out.1.dm.frame (setCells_other A _ 0 w5 md (fun e => by have := H0.out.dm.lt; have := HAE.out; omega))
          · refine Turns.mono (bs := [md]) ?_ (by simp)
            rw [HWZ.out]
            exact dec_turns (HB3.out.trans (HB4.out.mono hBw)) HUP.out.2.1 (by rw [HAE.out]; exact Nat.le_refl _)
      · have e0 : w4.cell? ⟨w3.heap.size, 0, none⟩ = some (vi ex.txn) := by rw [cell_of HBX.out]; rfl
        have e1 : w4.cell? ⟨w3.heap.size, 1, none⟩ = some (.bool ex.commit) := by rw [cell_of HBX.out]; rfl
        have e2 : w4.cell? ⟨w3.heap.size, 2, none⟩ = some (vi ex.at_) := by rw [cell_of HBX.out]; rfl
        have xf : ∀ o, w4.frozen? ⟨A, o, none⟩ = false := fun o => free_of HA4.out o
        have x0 : w4.cell? ⟨A, 0, none⟩ = some (vi 0) := by rw [Bt.cell_of HA4.out]; rfl
        have x1 : w4.cell? ⟨A, 1, none⟩ = some (.slice none 0 0) := by rw [Bt.cell_of HA4.out]; rfl
        have x2 : w4.cell? ⟨A, 2, none⟩ = some (vi 0) := by rw [Bt.cell_of HA4.out]; rfl
        have x3 : w4.cell? ⟨A, 3, none⟩ = some (vi 0) := by rw [Bt.cell_of HA4.out]; rfl
        have x4 : w4.cell? ⟨A, 4, none⟩ = some (vi 0) := by rw [Bt.cell_of HA4.out]; rfl
        have x5 : w4.cell? ⟨A, 5, none⟩ = some (vi 0) := by rw [Bt.cell_of HA4.out]; rfl
        have x6 : w4.cell? ⟨A, 6, none⟩ = some (.bool false) := by rw [Bt.cell_of HA4.out]; rfl
        have x7 : w4.cell? ⟨A, 7, none⟩ = some (vi 0) := by rw [Bt.cell_of HA4.out]; rfl
        go_wp2_with fail
        have HAQ := HA4.out
        change bodyPost _ _ _ _ _ (w4.setCells A 0 [vi 0, .slice none 0 0, vi 0, vi 0, vi 0, vi ex.txn, .bool ex.commit, vi ex.at_])
        obtain ⟨wz, hwz⟩ : ∃ wz, wz = w4.setCells A 0 [vi 0, .slice none 0 0, vi 0, vi 0, vi 0, vi ex.txn, .bool ex.commit, vi ex.at_] := ⟨_, rfl⟩
        have HZC := Lib.hid (show wz.heap[A]? = some (.cells #[vi 0, .slice none 0 0, vi 0, vi 0, vi 0, vi ex.txn, .bool ex.commit, vi ex.at_] 37) by rw [hwz]; exact setCells_all (cs := [vi 0, .slice none 0 0, vi 0, vi 0, vi 0, vi ex.txn, .bool ex.commit, vi ex.at_]) HAQ rfl)
        rw [← hwz]
        have HWZ := Lib.hid hwz
        clear hwz x0 x1 x2 x3 x4 x5 x6 x7 xf
        have r0 : wz.cell? ⟨A, 0, none⟩ = some (vi 0) := by rw [Bt.cell_of HZC.out]; rfl
        have r1 : wz.cell? ⟨A, 1, none⟩ = some (.slice none 0 0) := by rw [Bt.cell_of HZC.out]; rfl
        have r2 : wz.cell? ⟨A, 2, none⟩ = some (vi 0) := by rw [Bt.cell_of HZC.out]; rfl
        have r3 : wz.cell? ⟨A, 3, none⟩ = some (vi 0) := by rw [Bt.cell_of HZC.out]; rfl
        have r4 : wz.cell? ⟨A, 4, none⟩ = some (vi 0) := by rw [Bt.cell_of HZC.out]; rfl
        have r5 : wz.cell? ⟨A, 5, none⟩ = some (vi ex.txn) := by rw [Bt.cell_of HZC.out]; rfl
        have r6 : wz.cell? ⟨A, 6, none⟩ = some (.bool ex.commit) := by rw [Bt.cell_of HZC.out]; rfl
        have r7 : wz.cell? ⟨A, 7, none⟩ = some (vi ex.at_) := by rw [Bt.cell_of HZC.out]; rfl
        refine bodyPost_ret (v := ansV ⟨0, [], 0, 0, 0, ex⟩ (.slice none 0 0)) (by simp [results, Try.results11, go_sem, ansV, ansC, r0, r1, r2, r3, r4, r5, r6, r7]) rfl ⟨⟨0, [], 0, 0, 0, ex⟩, .slice none 0 0, now, K, R, E, D, rfl, World.ownsRow_nil _ _ _ _, H0.out.later (by rw [HWZ.out]; exact ans_below0 (HB3.out.trans (HB4.out.mono hBw)) (by rw [HAE.out]; exact Nat.le_refl _)), Turns.below (by rw [HWZ.out]; exact ans_below0 (HB3.out.trans (HB4.out.mono hBw)) (by rw [HAE.out]; exact Nat.le_refl _)), .inl ⟨ex, endsSome HBE.out HEX.out, HOFF.out, rfl, rfl⟩, rfl, rfl, rfl, rfl⟩
end Go.Proofs.Ytdkkpkgfiodlbaa

/- shard.New; the law's head. -/
namespace Go.Proofs.Ytdkkpkgfiodlbaa
open Go.RowKit Go.Maps

def ShNewQ (w : World) (serial : Bool) (bugs stamps : Int) (e : Ending) (w' : World) : Prop := ∃ p ps mk mr me md, e = .returned (.pointer (some ⟨p, 0, none⟩)) ∧ ShS w.heap.size p ps mk mr me md serial bugs stamps 0 [] [] [] [] w' ∧ Below w.heap.size w w'
set_option maxRecDepth 100000 in
set_option maxHeartbeats 1000000 in
theorem shNew_call (serial : Bool) (bugs stamps : Int) (w : World) : Calls Try.prog 9 #[.bool serial, vi bugs, vi stamps] w (ShNewQ w serial bugs stamps) := by
  have hmm := @run_makeMap Try.prog
  go_enter Try.func9, Try.ntmps9
  go_wp2_with (go_at_call 28; refine (new_call serial bugs w).mono ?_; rintro e1 w1 ⟨ps, mk, mr, me, rfl, hm1, hb1⟩; have HM1 := Lib.hid hm1; have HB1 := Lib.hid hb1; clear hm1 hb1)
  go_ret
  have h2 : MapE (w1.alloc (.map #[] 0)) w1.heap.size [] := MapT.made w1
  have hb2 : Below w1.heap.size w1 (w1.alloc (.map #[] 0)) := (Below.refl _ _).alloc (Nat.le_refl _) _
  have hb3 : Below (w1.alloc (.map #[] 0)).heap.size (w1.alloc (.map #[] 0)) ((w1.alloc (.map #[] 0)).alloc (.cells #[.pointer (some ⟨ps, 0, none⟩), vi bugs, vi stamps, vi 0, .map (some w1.heap.size)] 84)) := (Below.refl _ _).alloc (Nat.le_refl _) _
  have hs := HB1.out.size
  have hs2 : (w1.alloc (.map #[] 0)).heap.size = w1.heap.size + 1 := by simp
  have ha := Bt.alloc_at (w1.alloc (.map #[] 0)) (.cells #[.pointer (some ⟨ps, 0, none⟩), vi bugs, vi stamps, vi 0, .map (some w1.heap.size)] 84)
  rw [hs2] at ha
  refine ⟨w1.heap.size + 1, ps, mk, mr, me, w1.heap.size, rfl, ⟨ha, (HM1.out.later hb2).later hb3, h2.below hb3 (by rw [hs2]; omega), by omega, hs, ?_, ?_, ?_⟩, (HB1.out.trans (hb2.mono hs)).trans (hb3.mono (by omega))⟩
  · have := HM1.out.keys.lt; omega
  · have := HM1.out.ready.lt; omega
  · have := HM1.out.ends.lt; omega
/-- Where nobody waits and no value is kept, the time may be another one. -/
theorem ShS.sep0 {base p ps mk mr me md : Nat} {serial : Bool} {bugs stamps now : Int} {E D : EndL} {w : World} (h : ShS base p ps mk mr me md serial bugs stamps now [] [] E D w) (x : Int) : MvS base ps mk mr me serial bugs [] [] E (w.setCell ⟨p, 3, none⟩ (vi x)) := by
  have hg := gro_setP (o := 3) (gro_refl w (some p)) (vi x)
  have hne : ∀ {m : Nat}, (∃ es c, w.heap[m]? = some (.map es c)) → some m ≠ some p := fun ⟨es, c, ho⟩ e => by
    have := h.blk
    rw [← Option.some.inj e, ho] at this; cases this
  have hps : ps ≠ p := fun e => by
    have h1 := h.st.blk
    rw [e, h.blk] at h1
    have h2 := Option.some.inj h1
    cases h2
  exact ⟨Bt.cells_other _ h.st.blk hps, h.st.keys.kept hg (hne h.st.keys.obj), h.st.ready.kept hg (hne h.st.ready.obj), h.st.ends.kept hg (hne h.st.ends.obj), (fun y hy => by cases hy), (fun y hy => by cases hy), h.st.bp, h.st.bk, h.st.br, h.st.be, h.st.kr, h.st.ke, h.st.re⟩
/-- The shard's own blocks lie ahead of a place. -/
structure ShB (N p mk mr me md : Nat) : Prop where
  hp : p < N
  hk : mk < N
  hr : mr < N
  he : me < N
  hd : md < N
theorem ShS.bnd {base p ps mk mr me md : Nat} {serial : Bool} {bugs stamps now : Int} {K : KeysL} {R : RdyL} {E D : EndL} {w : World} (h : ShS base p ps mk mr me md serial bugs stamps now K R E D w) : ShB w.heap.size p mk mr me md :=
  ⟨(Array.getElem?_eq_some_iff.1 h.blk).1, h.st.keys.lt, h.st.ready.lt, h.st.ends.lt, h.dm.lt⟩
theorem ShB.mono {N M p mk mr me md : Nat} (h : ShB N p mk mr me md) (hN : N ≤ M) : ShB M p mk mr me md := ⟨by have := h.hp; omega, by have := h.hk; omega, by have := h.hr; omega, by have := h.he; omega, by have := h.hd; omega⟩
theorem ShB.out {N p mk mr me md g : Nat} (h : ShB N p mk mr me md) (hg : N ≤ g) : g ∉ [p, md, mk, mr, me] := by
  have := h.hp; have := h.hk; have := h.hr; have := h.he; have := h.hd
  simp; omega
theorem own_turns {A B : World} {b e size n N p mk mr me md : Nat} {v : Value} {xs : List Value} (h : A.ownsRow b e size v n xs) (hT : Turns [p, md, mk, mr, me] A B) (hB : ShB N p mk mr me md) (hb : N ≤ b) : B.ownsRow b e size v n xs :=
  Bt.own_frame h (fun g hg => hT.block g (h.lt g hg).2 (hB.out (Nat.le_trans hb (h.lt g hg).1)))
theorem ShS.bases {base p ps mk mr me md : Nat} {serial : Bool} {bugs stamps now : Int} {K : KeysL} {R : RdyL} {E D : EndL} {w : World} (h : ShS base p ps mk mr me md serial bugs stamps now K R E D w) : ∀ k ∈ [p, md, mk, mr, me], base ≤ k := by
  intro k hk
  simp at hk
  rcases hk with rfl | rfl | rfl | rfl | rfl
  · exact h.bp
  · exact h.bd
  · exact h.st.bk
  · exact h.st.br
  · exact h.st.be
theorem rdOps_nil (w : World) : RdOps w (.slice none 0 0) [] := ⟨none, 0, 0, rfl, rfl, by simp, Nat.le_refl _, fun _ => ⟨rfl, rfl⟩, fun j x hj => by simp at hj⟩
theorem rdInts_nil (w : World) : RdInts w (.slice none 0 0) [] := ⟨none, 0, 0, rfl, rfl, by simp, Nat.le_refl _, fun _ => ⟨rfl, rfl⟩, fun j x hj => by simp at hj⟩
/-- A command without lists. -/
abbrev bareC (k : Int) (e : EndM) : Cmd21 := ⟨k, ⟨0, 0, 0, [], []⟩, e⟩
theorem bareI {k : Int} {e : EndM} (hk : IntOk k) (he : EndI e) : CmdI (bareC k e) :=
  ⟨hk, ⟨(by show i64 0; unfold i64; omega), (by show i64 0; unfold i64; omega), (by show i64 0; unfold i64; omega), (fun o h => by cases h), (fun o h => by cases h)⟩, he, by simp, by simp⟩
theorem bareBytes_call (k : Int) (e : EndM) (w : World) (hk : IntOk k) (he : EndI e) :
    Calls Try.prog 12 #[.agg #[vi k, vi 0, vi 0, vi 0, .slice none 0 0, .slice none 0 0, vi e.txn, .bool e.commit, vi e.at_]] w (BytesQ (cmdL (bareC k e)) w) :=
  cmdBytes_call (bareC k e) (.slice none 0 0) (.slice none 0 0) w ⟨rdOps_nil w, rdInts_nil w⟩ (bareI hk he)
end Go.Proofs.Ytdkkpkgfiodlbaa

/- A shard whose rows lie ahead of its own blocks; what holds between commands. -/
namespace Go.Proofs.Ytdkkpkgfiodlbaa
open Go.RowKit Go.Maps

structure ShT (N base p ps mk mr me md : Nat) (serial : Bool) (bugs stamps now : Int) (K : KeysL) (R : RdyL) (E D : EndL) (W : World) : Prop where
  s : ShS base p ps mk mr me md serial bugs stamps now K R E D W
  b : ShB N p mk mr me md
  kown : ∀ y ∈ K, OwV N W y.2.1 y.2.2
  rown : ∀ y ∈ R, OwnR N W y.2
  nw : N ≤ W.heap.size
theorem ShT.later {N base p ps mk mr me md : Nat} {serial : Bool} {bugs stamps now : Int} {K : KeysL} {R : RdyL} {E D : EndL} {A B : World} (h : ShT N base p ps mk mr me md serial bugs stamps now K R E D A) (hb : Below A.heap.size A B) : ShT N base p ps mk mr me md serial bugs stamps now K R E D B :=
  ⟨h.s.later hb, h.b, fun y hy => own_below (h.kown y hy) hb, fun y hy => ⟨own_below (h.rown y hy).1 hb, own_below (h.rown y hy).2 hb⟩, Nat.le_trans h.nw hb.size⟩
theorem ShT.sep {N base p ps mk mr me md : Nat} {serial : Bool} {bugs stamps now : Int} {K : KeysL} {R : RdyL} {E D : EndL} {w : World} (h : ShT N base p ps mk mr me md serial bugs stamps now K R E D w) (x : Int) : MvS base ps mk mr me serial bugs K R E (w.setCell ⟨p, 3, none⟩ (vi x)) := by
  have hg := gro_setP (o := 3) (gro_refl w (some p)) (vi x)
  have hne : ∀ {m : Nat}, (∃ es c, w.heap[m]? = some (.map es c)) → some m ≠ some p := fun ⟨es, c, ho⟩ e => by
    have := h.s.blk
    rw [← Option.some.inj e, ho] at this; cases this
  have hps : ps ≠ p := fun e => by
    have h1 := h.s.st.blk
    rw [e, h.s.blk] at h1
    have h2 := Option.some.inj h1
    cases h2
  have ho : ∀ {e size n : Nat} {v : Value} {xs : List Value}, w.ownsRow N e size v n xs → (w.setCell ⟨p, 3, none⟩ (vi x)).ownsRow N e size v n xs := fun h1 => own_gro h1 hg h.b.hp
  refine ⟨Bt.cells_other _ h.s.st.blk hps, h.s.st.keys.kept hg (hne h.s.st.keys.obj), h.s.st.ready.kept hg (hne h.s.st.ready.obj), h.s.st.ends.kept hg (hne h.s.st.ends.obj), fun y hy => ?_, fun y hy => ?_, h.s.st.bp, h.s.st.bk, h.s.st.br, h.s.st.be, h.s.st.kr, h.s.st.ke, h.s.st.re⟩
  · exact own_rdv (ho (h.kown y hy)) (rdv_i64 (h.s.st.krow y hy))
  · exact rdy_own (ho (h.rown y hy).1) (ho (h.rown y hy).2) (reads_i64 (h.s.st.rrow y hy).rs)
def AppT (N base p ps mk mr me md : Nat) (serial : Bool) (bugs stamps : Int) (P : Ans → Int → KeysL → RdyL → EndL → EndL → Prop) (w : World) (e : Ending) (w' : World) : Prop :=
  ∃ a vv now' K' R' E' D', e = .returned (ansV a vv) ∧ OwI w.heap.size w' vv a.vals ∧ ShT N base p ps mk mr me md serial bugs stamps now' K' R' E' D' w' ∧ Turns [p, md, mk, mr, me] w w' ∧ P a now' K' R' E' D'
/-- Where the rows stay. -/
theorem AppQ.typed {N base p ps mk mr me md : Nat} {serial : Bool} {bugs stamps now : Int} {K : KeysL} {R : RdyL} {E D : EndL} {w : World} {P : Ans → Int → KeysL → RdyL → EndL → EndL → Prop} (h : ShT N base p ps mk mr me md serial bugs stamps now K R E D w) (hP : ∀ a now' K' R' E' D', P a now' K' R' E' D' → K' = K ∧ R' = R) {e : Ending} {w' : World} (hq : AppQ base p ps mk mr me md serial bugs stamps P w e w') : AppT N base p ps mk mr me md serial bugs stamps P w e w' := by
  obtain ⟨a, vv, now', K', R', E', D', h1, h2, h3, h4, h5⟩ := hq
  obtain ⟨rfl, rfl⟩ := hP _ _ _ _ _ _ h5
  exact ⟨a, vv, now', _, _, E', D', h1, h2, ⟨h3, h.b, fun y hy => own_turns (h.kown y hy) h4 h.b (Nat.le_refl _), fun y hy => ⟨own_turns (h.rown y hy).1 h4 h.b (Nat.le_refl _), own_turns (h.rown y hy).2 h4 h.b (Nat.le_refl _)⟩, Nat.le_trans h.nw h4.size⟩, h4, h5⟩
/-- An answer is laid down. -/
theorem ShT.setA {N base p ps mk mr me md A : Nat} {serial : Bool} {bugs stamps now : Int} {K : KeysL} {R : RdyL} {E D : EndL} {W : World} (h : ShT N base p ps mk mr me md serial bugs stamps now K R E D W) {cs : Array Value} (hA : W.heap[A]? = some (.cells cs 37)) (us : List Value) : ShT N base p ps mk mr me md serial bugs stamps now K R E D (W.setCells A 0 us) := by
  have ho : ∀ {e size n : Nat} {v : Value} {xs : List Value}, W.ownsRow N e size v n xs → 37 ≠ e → (W.setCells A 0 us).ownsRow N e size v n xs := fun h1 h2 => own_setAll h1 hA h2 0 us
  have hc : ∀ {j : Nat} {cs : Array Value} {T : TypeId}, W.heap[j]? = some (.cells cs T) → T ≠ 37 → (W.setCells A 0 us).heap[j]? = some (.cells cs T) := fun {j cs T} h1 h2 => (setCells_other A us 0 W j (fun e => by rw [e, hA] at h1; cases h1; exact h2 rfl)).trans h1
  have hm : ∀ {j : Nat}, (∃ es c, W.heap[j]? = some (.map es c)) → (W.setCells A 0 us).heap[j]? = W.heap[j]? := fun {j} ⟨es, c, ho⟩ => setCells_other A us 0 W j (fun e => by rw [e, hA] at ho; cases ho)
  have hs := (setCells_grown A us 0 W).size
  exact ⟨⟨hc h.s.blk (by decide), ⟨hc h.s.st.blk (by decide), h.s.st.keys.frame (hm h.s.st.keys.obj), h.s.st.ready.frame (hm h.s.st.ready.obj), h.s.st.ends.frame (hm h.s.st.ends.obj), fun y hy => own_rdv (ho (h.kown y hy) (by decide)) (rdv_i64 (h.s.st.krow y hy)), fun y hy => rdy_own (ho (h.rown y hy).1 (by decide)) (ho (h.rown y hy).2 (by decide)) (reads_i64 (h.s.st.rrow y hy).rs), h.s.st.bp, h.s.st.bk, h.s.st.br, h.s.st.be, h.s.st.kr, h.s.st.ke, h.s.st.re⟩, h.s.dm.frame (hm h.s.dm.obj), h.s.bp, h.s.bd, h.s.dk, h.s.dr, h.s.de⟩, h.b, fun y hy => ho (h.kown y hy) (by decide), fun y hy => ⟨ho (h.rown y hy).1 (by decide), ho (h.rown y hy).2 (by decide)⟩, Nat.le_trans h.nw hs⟩
theorem fin_turns {w w3 w5 : World} {A : Nat} {us : List Value} {bs : List Nat} (hb : Below w.heap.size w w3) (ht : Turns bs w3 w5) (hA : w.heap.size ≤ A) : Turns bs w (w5.setCells A 0 us) := by
  have h := setCells_grown A us 0 w5
  refine ⟨h.os.trans (ht.os.trans hb.os), h.tape.trans (ht.tape.trans hb.tape), h.output.trans (ht.output.trans hb.output), Nat.le_trans hb.size (Nat.le_trans ht.size h.size), fun j hj hn => ?_⟩
  rw [setCells_other A us 0 _ j (by omega)]
  exact (ht.block j (Nat.lt_of_lt_of_le hj hb.size) hn).trans (hb.block j hj)
/-- Behind a change of the store. -/
theorem ShT.store {N base p ps mk mr me md : Nat} {serial : Bool} {bugs stamps now : Int} {K K' : KeysL} {R R' : RdyL} {E E' D : EndL} {A B : World} (h : ShT N base p ps mk mr me md serial bugs stamps now K R E D A) (hm : MvS base ps mk mr me serial bugs K' R' E' B) (ht : Turns [mk, mr, me] A B)
    (hk : ∀ y ∈ K', y ∈ K ∨ OwV N B y.2.1 y.2.2) (hr : ∀ y ∈ R', y ∈ R ∨ OwnR N B y.2) : ShT N base p ps mk mr me md serial bugs stamps now K' R' E' D B := by
  have hp : p ∉ [mk, mr, me] := by
    have hne : ∀ {m : Nat}, (∃ es c, A.heap[m]? = some (.map es c)) → p ≠ m := fun ⟨es, c, ho⟩ e => by
      have := h.s.blk
      rw [e, ho] at this; cases this
    simp; exact ⟨hne h.s.st.keys.obj, hne h.s.st.ready.obj, hne h.s.st.ends.obj⟩
  have ht' : Turns [p, md, mk, mr, me] A B := ht.mono (by intro k hk; simp at hk ⊢; rcases hk with rfl | rfl | rfl <;> simp)
  refine ⟨⟨(ht.block p (Array.getElem?_eq_some_iff.1 h.s.blk).1 hp).trans h.s.blk, hm, h.s.dm.frame (ht.block md h.s.dm.lt (by simp; exact ⟨h.s.dk, h.s.dr, h.s.de⟩)), h.s.bp, h.s.bd, h.s.dk, h.s.dr, h.s.de⟩, h.b, fun y hy => ?_, fun y hy => ?_, Nat.le_trans h.nw ht.size⟩
  · rcases hk y hy with h1 | h1
    · exact own_turns (h.kown y h1) ht' h.b (Nat.le_refl _)
    · exact h1
  · rcases hr y hy with h1 | h1
    · exact ⟨own_turns (h.rown y h1).1 ht' h.b (Nat.le_refl _), own_turns (h.rown y h1).2 ht' h.b (Nat.le_refl _)⟩
    · exact h1
/-- What holds behind n commands. -/
structure ShI (n : Nat) (K : KeysL) (R : RdyL) : Prop where
  srt : ∀ k, Srt (verOf K k)
  len : ∀ k, (verOf K k).length ≤ 20 * n
  rlen : R.length ≤ n
  small : ∀ y ∈ R, y.2.r.writes.length ≤ 20 ∧ y.2.r.reads.length ≤ 20 ∧ (∀ o ∈ y.2.r.writes, i64 o.key) ∧ y.1 = y.2.r.txn
theorem ShI.start : ShI 0 [] [] := ⟨fun _ => List.Pairwise.nil, fun _ => by simp [verOf, curK, getM, nilK], by simp, (fun y hy => by cases hy)⟩
theorem ShI.more {n : Nat} {K : KeysL} {R : RdyL} (h : ShI n K R) : ShI (n + 1) K R := ⟨h.srt, fun k => by have := h.len k; omega, by have := h.rlen; omega, h.small⟩
theorem ShI.prep {n : Nat} {serial : Bool} {bugs : Int} {K : KeysL} {R : RdyL} {E : EndL} (h : ShI n K R) {r : Rdy} (h1 : r.writes.length ≤ 20) (h2 : r.reads.length ≤ 20) (h3 : ∀ o ∈ r.writes, i64 o.key) {by_ err : Int} {R' : RdyL} (hp : PrepM serial bugs K R E r by_ err R') : ShI (n + 1) K R' := by
  rcases hp with ⟨_, _, _, rfl⟩ | ⟨_, _, _, _, rfl⟩ | ⟨_, _, _, _, _, rfl⟩ | ⟨_, _, _, _, id, ok, _, h4⟩
  · exact h.more
  · exact h.more
  · exact h.more
  · rcases h4 with ⟨_, _, _, _, rfl⟩ | ⟨_, _, _, wv, rv, rfl⟩
    · exact h.more
    · refine ⟨h.srt, fun k => by have := h.len k; omega, ?_, fun y hy => ?_⟩
      · rw [putM_length]; have := h.rlen; split <;> omega
      · rcases mem_putM hy with rfl | hy
        · exact ⟨h1, h2, h3, rfl⟩
        · exact h.small y hy
theorem ShI.fin {n : Nat} {K : KeysL} {R : RdyL} {E : EndL} (h : ShI n K R) {e : EndM} {K' : KeysL} {R' : RdyL} {E' : EndL} (hf : FinM K R E e K' R' E') : ShI (n + 1) K' R' := by
  rcases hf with ⟨_, rfl, rfl, _⟩ | ⟨_, rfl, _, hk⟩
  · exact h.more
  · have hw : (writesOf R e).length ≤ 20 := by
      unfold writesOf
      split
      · cases hg : getM R e.txn with
        | none => simp
        | some y => exact (h.small _ (getM_some hg)).1
      · simp
    refine ⟨fun k => by rw [hk k]; exact finV_srt _ _ _ _ (h.srt k), fun k => ?_, ?_, fun y hy => h.small y (mem_delM hy)⟩
    · rw [hk k]
      have := finV_len e.at_ k (writesOf R e) (verOf K k)
      have := h.len k
      omega
    · have : (delM R e.txn).length ≤ R.length := List.length_filter_le _ _
      have := h.rlen; omega
theorem finish_raw {base p mk mr me : Nat} {serial : Bool} {bugs : Int} {K : KeysL} {R : RdyL} {E : EndL} (x : EndM) (w : World) (h : MvS base p mk mr me serial bugs K R E w) (ht : i64 x.txn) (ha : i64 x.at_)
    (hS : ∀ key, Srt (verOf K key)) (hL : ∀ key, (verOf K key).length ≤ 524288) (hW : ∀ y ∈ R, y.2.r.writes.length ≤ 524288 ∧ ∀ o ∈ y.2.r.writes, i64 o.key) :
    Calls Try.prog 32 #[.pointer (some ⟨p, 0, none⟩), .agg #[vi x.txn, .bool x.commit, vi x.at_]] w (FinQ2 base p mk mr me serial bugs K R E x w) := finish_call2 x w h ht ha hS hL hW
theorem setCells_cell {W : World} {A j o : Nat} {us : List Value} {v : Value} (h : W.cell? ⟨j, o, none⟩ = some v) (hj : j ≠ A) : (W.setCells A 0 us).cell? ⟨j, o, none⟩ = some v := (World.cell?_of_block (a := ⟨j, o, none⟩) (setCells_other A us 0 W j hj)).trans h
theorem setCell_far {W : World} {A o' j o : Nat} {u v : Value} (h : W.cell? ⟨j, o, none⟩ = some v) (hj : j ≠ A) : (W.setCell ⟨A, o', none⟩ u).cell? ⟨j, o, none⟩ = some v := (World.cell?_of_block (a := ⟨j, o, none⟩) (Below.heap_setCell W ⟨A, o', none⟩ u j hj)).trans h
theorem chain8_cell {W : World} {A j o : Nat} {u0 u1 u2 u3 u4 u5 u6 u7 v : Value} (h : W.cell? ⟨j, o, none⟩ = some v) (hj : j ≠ A) : ((((((((W.setCell ⟨A, 0, none⟩ u0).setCell ⟨A, 1, none⟩ u1).setCell ⟨A, 2, none⟩ u2).setCell ⟨A, 3, none⟩ u3).setCell ⟨A, 4, none⟩ u4).setCell ⟨A, 5, none⟩ u5).setCell ⟨A, 6, none⟩ u6).setCell ⟨A, 7, none⟩ u7).cell? ⟨j, o, none⟩ = some v :=
  setCell_far (setCell_far (setCell_far (setCell_far (setCell_far (setCell_far (setCell_far (setCell_far h hj) hj) hj) hj) hj) hj) hj) hj
theorem fin_sub {K K' : KeysL} {R R' : RdyL} {E E' : EndL} {e : EndM} {P : Int × RV → Prop} (h : FinM K R E e K' R' E') : ∀ y ∈ R', y ∈ R ∨ P y := fun y hy => by
  rcases h with ⟨_, _, rfl, _⟩ | ⟨_, rfl, _⟩
  · exact .inl hy
  · exact .inl (mem_delM hy)
theorem ShT.stamp {N base p ps mk mr me md : Nat} {serial : Bool} {bugs stamps now : Int} {K : KeysL} {R : RdyL} {E D : EndL} (c : Cmd21) {v : Value} (w : World) (h : ShT N base p ps mk mr me md serial bugs stamps now K R E D w) (hi : CmdI c) (hk : c.k = 1)
    (hv : Src w v 1 (btBytes (cmdL c)).length ((btBytes (cmdL c)).map u8)) (hn : 0 ≤ now ∧ now ≤ 1000000) :
    Calls Try.prog 11 #[.pointer (some ⟨p, 0, none⟩), v] w (AppT N base p ps mk mr me md serial bugs stamps (StampP stamps now K R E D) w) :=
  (apply_stamp c w h.s hi hk hv hn h.sep).mono fun _ _ hq => AppQ.typed h (fun _ _ _ _ _ _ hp => ⟨hp.2.1, hp.2.2.1⟩) hq
theorem ShT.dec4 {N base p ps mk mr me md : Nat} {serial : Bool} {bugs stamps now : Int} {K : KeysL} {R : RdyL} {E D : EndL} (c : Cmd21) {v : Value} (w : World) (h : ShT N base p ps mk mr me md serial bugs stamps now K R E D w) (hi : CmdI c) (hk : c.k = 4)
    (hv : Src w v 1 (btBytes (cmdL c)).length ((btBytes (cmdL c)).map u8)) :
    Calls Try.prog 11 #[.pointer (some ⟨p, 0, none⟩), v] w (AppT N base p ps mk mr me md serial bugs stamps (DecideP bugs now K R E D c.e) w) :=
  (apply_decide c w h.s hi hk hv).mono fun _ _ hq => AppQ.typed h (fun _ _ _ _ _ _ hp => ⟨hp.2.2.1, hp.2.2.2.1⟩) hq
end Go.Proofs.Ytdkkpkgfiodlbaa

/- (*shard.State).Apply: a command of no kind. -/
namespace Go.Proofs.Ytdkkpkgfiodlbaa
open Go.RowKit Go.Maps

def BadP (now : Int) (K : KeysL) (R : RdyL) (E D : EndL) (a : Ans) (now' : Int) (K' : KeysL) (R' : RdyL) (E' D' : EndL) : Prop :=
  a = ⟨14, [], 0, 0, 0, zeroE'⟩ ∧ now' = now ∧ K' = K ∧ R' = R ∧ E' = E ∧ D' = D
set_option maxRecDepth 100000 in
set_option maxHeartbeats 8000000 in
theorem ShT.bad {N base p ps mk mr me md : Nat} {serial : Bool} {bugs stamps now : Int} {K : KeysL} {R : RdyL} {E D : EndL} (c : Cmd21) {v : Value} (w : World) (h : ShT N base p ps mk mr me md serial bugs stamps now K R E D w) (hi : CmdI c) (hk : ¬ (1 ≤ c.k ∧ c.k ≤ 5))
    (hv : Src w v 1 (btBytes (cmdL c)).length ((btBytes (cmdL c)).map u8)) :
    Calls Try.prog 11 #[.pointer (some ⟨p, 0, none⟩), v] w (AppT N base p ps mk mr me md serial bugs stamps (BadP now K R E D) w) := by
  have HI := Lib.hid hi
  have HK := Lib.hid hk
  have HH := Lib.hid (h.later ((Below.refl w.heap.size w).alloc (Nat.le_refl _) (.cells ansZ 37)))
  have HV := Lib.hid (hv.below ((Below.refl w.heap.size w).alloc (Nat.le_refl _) (.cells ansZ 37)))
  have HA0 := Lib.hid (Bt.alloc_at w (.cells ansZ 37))
  have HB0 := Lib.hid ((Below.refl w.heap.size w).alloc (Nat.le_refl _) (.cells ansZ 37))
  have hcl : (btBytes (cmdL c)).length ≤ 1048576 := by rw [btBytes_length]; have := cmdL_length hi; omega
  obtain ⟨bs, hbs⟩ : ∃ bs, bs = btBytes (cmdL c) := ⟨_, rfl⟩
  rw [← hbs] at HV hcl
  have HBS := Lib.hid hbs
  have hpw : p < w.heap.size := (Array.getElem?_eq_some_iff.1 h.s.blk).1
  have H0 := Lib.hid h
  clear h hi hk hv hbs
  go_enter Try.func11, Try.ntmps11
  go_upto_region 1 with fail
  generalize w.alloc (.cells ansZ 37) = w1 at *
  obtain ⟨A, hA⟩ : ∃ A, A = w.heap.size := ⟨_, rfl⟩
  rw [← hA] at HA0 ⊢
  have HAE := Lib.hid hA
  have hAw : A < w1.heap.size := (Array.getElem?_eq_some_iff.1 HA0.out).1
  clear hA
  go_wp2_with fail
  refine (shRead_call (bs := bs) w1 HV.out (by rw [HBS.out]; exact btBytes_lt _) hcl).mono ?_
  rintro e2 w2 ⟨c', wv, rv, err, rfl, hrd⟩
  rw [HBS.out] at hrd
  obtain rfl := (cmd_back HI.out hrd).2 HK.out
  obtain rfl := hrd.no (by decide)
  obtain ⟨aw, cw, rfl⟩ := Bt.own_shape (show w2.ownsRow w1.heap.size 104 3 wv 0 [] from hrd.ws)
  obtain ⟨ar, cr, rfl⟩ := Bt.own_shape (show w2.ownsRow w1.heap.size 3 1 rv 0 [] from hrd.rs)
  have HH2 := Lib.hid (HH.out.later hrd.bel)
  have HA2 := Lib.hid ((hrd.bel.block A hAw).trans HA0.out)
  have HB2 := Lib.hid (HB0.out.trans (hrd.bel.mono HB0.out.size))
  have hA2w : A < w2.heap.size := Nat.lt_of_lt_of_le hAw hrd.bel.size
  clear hrd HH HA0 HB0 HV
  unfold cmdV cmdC
  dsimp only [zeroC]
  have HH3 := Lib.hid (HH2.out.later ((Below.refl w2.heap.size w2).alloc (Nat.le_refl _) (.cells #[vi 0, vi 0, vi 0, vi 0, .slice aw 0 cw, .slice ar 0 cr, vi 0, .bool false, vi 0] 33)))
  have HA3 := Lib.hid ((Below.heap_alloc w2 (.cells #[vi 0, vi 0, vi 0, vi 0, .slice aw 0 cw, .slice ar 0 cr, vi 0, .bool false, vi 0] 33) A hA2w).trans HA2.out)
  have HB3 := Lib.hid (HB2.out.alloc HB2.out.size (.cells #[vi 0, vi 0, vi 0, vi 0, .slice aw 0 cw, .slice ar 0 cr, vi 0, .bool false, vi 0] 33))
  go_upto_region 4 with fail
  clear HH2 HA2 HB2
  generalize w2.alloc (.cells #[vi 0, vi 0, vi 0, vi 0, .slice aw 0 cw, .slice ar 0 cr, vi 0, .bool false, vi 0] 33) = w3 at *
  have hBw : w.heap.size ≤ w3.heap.size := HB3.out.size
  have xf : ∀ o, w3.frozen? ⟨A, o, none⟩ = false := fun o => free_of HA3.out o
  have x0 : w3.cell? ⟨A, 0, none⟩ = some (vi 0) := by rw [Bt.cell_of HA3.out]; rfl
  have x1 : w3.cell? ⟨A, 1, none⟩ = some (.slice none 0 0) := by rw [Bt.cell_of HA3.out]; rfl
  have x2 : w3.cell? ⟨A, 2, none⟩ = some (vi 0) := by rw [Bt.cell_of HA3.out]; rfl
  have x3 : w3.cell? ⟨A, 3, none⟩ = some (vi 0) := by rw [Bt.cell_of HA3.out]; rfl
  have x4 : w3.cell? ⟨A, 4, none⟩ = some (vi 0) := by rw [Bt.cell_of HA3.out]; rfl
  have x5 : w3.cell? ⟨A, 5, none⟩ = some (vi 0) := by rw [Bt.cell_of HA3.out]; rfl
  have x6 : w3.cell? ⟨A, 6, none⟩ = some (.bool false) := by rw [Bt.cell_of HA3.out]; rfl
  have x7 : w3.cell? ⟨A, 7, none⟩ = some (vi 0) := by rw [Bt.cell_of HA3.out]; rfl
  go_wp2_with fail
  change bodyPost _ _ _ _ _ (w3.setCells A 0 [vi 14, .slice none 0 0, vi 0, vi 0, vi 0, vi 0, .bool false, vi 0])
  have HSF := Lib.hid (HH3.out.setA HA3.out [vi 14, .slice none 0 0, vi 0, vi 0, vi 0, vi 0, .bool false, vi 0])
  have HTF := Lib.hid (fin_turns (A := A) (us := [vi 14, .slice none 0 0, vi 0, vi 0, vi 0, vi 0, .bool false, vi 0]) (bs := [p, md, mk, mr, me]) HB3.out (Turns.refl _ w3) (by rw [HAE.out]; exact Nat.le_refl _))
  have HZC := Lib.hid (show (w3.setCells A 0 [vi 14, .slice none 0 0, vi 0, vi 0, vi 0, vi 0, .bool false, vi 0]).heap[A]? = some (.cells #[vi 14, .slice none 0 0, vi 0, vi 0, vi 0, vi 0, .bool false, vi 0] 37) from setCells_all (cs := [vi 14, .slice none 0 0, vi 0, vi 0, vi 0, vi 0, .bool false, vi 0]) HA3.out rfl)
  clear x0 x1 x2 x3 x4 x5 x6 x7 xf
  generalize w3.setCells A 0 [vi 14, .slice none 0 0, vi 0, vi 0, vi 0, vi 0, .bool false, vi 0] = wz at *
  have r0 : wz.cell? ⟨A, 0, none⟩ = some (vi 14) := by rw [Bt.cell_of HZC.out]; rfl
  have r1 : wz.cell? ⟨A, 1, none⟩ = some (.slice none 0 0) := by rw [Bt.cell_of HZC.out]; rfl
  have r2 : wz.cell? ⟨A, 2, none⟩ = some (vi 0) := by rw [Bt.cell_of HZC.out]; rfl
  have r3 : wz.cell? ⟨A, 3, none⟩ = some (vi 0) := by rw [Bt.cell_of HZC.out]; rfl
  have r4 : wz.cell? ⟨A, 4, none⟩ = some (vi 0) := by rw [Bt.cell_of HZC.out]; rfl
  have r5 : wz.cell? ⟨A, 5, none⟩ = some (vi 0) := by rw [Bt.cell_of HZC.out]; rfl
  have r6 : wz.cell? ⟨A, 6, none⟩ = some (.bool false) := by rw [Bt.cell_of HZC.out]; rfl
  have r7 : wz.cell? ⟨A, 7, none⟩ = some (vi 0) := by rw [Bt.cell_of HZC.out]; rfl
  exact bodyPost_ret (v := ansV ⟨14, [], 0, 0, 0, zeroE'⟩ (.slice none 0 0)) (by simp [results, Try.results11, go_sem, ansV, ansC, r0, r1, r2, r3, r4, r5, r6, r7]) rfl ⟨⟨14, [], 0, 0, 0, zeroE'⟩, .slice none 0 0, now, K, R, E, D, rfl, World.ownsRow_nil _ _ _ _, HSF.out, HTF.out, rfl, rfl, rfl, rfl, rfl, rfl⟩
end Go.Proofs.Ytdkkpkgfiodlbaa

/- (*shard.State).locked. -/
namespace Go.Proofs.Ytdkkpkgfiodlbaa
open Go.RowKit Go.Maps
/-- Where the end of one who waits is decided. -/
def homeL (L : List Rdy) (by_ : Int) : Int := L.foldl (fun h y => if y.txn = by_ then y.home else h) 0
theorem homeL_snoc (L : List Rdy) (y : Rdy) (by_ : Int) : homeL (L ++ [y]) by_ = if y.txn = by_ then y.home else homeL L by_ := by unfold homeL; rw [List.foldl_append]; rfl
def LockQ (R : RdyL) (by_ err : Int) (w : World) (e : Ending) (w' : World) : Prop :=
  ∃ home, e = .returned (ansV ⟨err, [], 0, by_, home, zeroE'⟩ (.slice none 0 0)) ∧ Below w.heap.size w w' ∧ (err ≠ 60 → home = 0) ∧ (err = 60 → ∃ L, WaitsM R L ∧ home = homeL L by_)
theorem OwR.cellsAt' {b : Nat} {w W : World} {a : Option Addr} {c : Nat} {L : List RV} (h : OwR b w (.slice a L.length c) L) {k : Nat} {y : RV} (hy : L[k]? = some y) (hW : ∀ g, b ≤ g → g < w.heap.size → W.heap[g]? = w.heap[g]?) :
    ∃ g, a = some ⟨g, 0, none⟩ ∧ ∀ i u, (rdyL y)[i]? = some u → W.cell? ⟨g, k * 5 + i, none⟩ = some u := by
  obtain ⟨g, c', e⟩ := own_some h.row (by have := (List.getElem?_eq_some_iff.1 hy).1; omega)
  cases e
  refine ⟨g, rfl, fun i u hu => ?_⟩
  have hlt := h.row.lt g rfl
  have h1 := World.ownsRow.cells h.row (g := g) rfl (k * 5 + i) u (flat_at rdyL 5 (fun _ => rfl) L k i y u hy hu)
  rw [addr_add, Nat.zero_add] at h1
  exact (World.cell?_of_block (a := ⟨g, k * 5 + i, none⟩) (hW g hlt.1 hlt.2)).trans h1
theorem OwR.shapes' {b : Nat} {w : World} {v : Value} {L : List RV} (h : OwR b w v L) {y : RV} (hy : y ∈ L) : ∃ a n c a' n' c', y.wv = .slice a n c ∧ y.rv = .slice a' n' c' := by
  obtain ⟨a, c, h1⟩ := own_shape (h.ws y hy)
  obtain ⟨a', c', h2⟩ := own_shape (h.rs y hy).1
  exact ⟨a, _, c, a', _, c', h1, h2⟩
set_option maxRecDepth 100000 in
set_option maxHeartbeats 8000000 in
theorem locked_call {N base p ps mk mr me md : Nat} {serial : Bool} {bugs stamps now : Int} {K : KeysL} {R : RdyL} {E D : EndL} (by_ err : Int) (w : World) (h : ShT N base p ps mk mr me md serial bugs stamps now K R E D w) {n : Nat} (hn : n ≤ 1000) (hI : ShI n K R) :
    Calls Try.prog 30 #[.pointer (some ⟨p, 0, none⟩), vi by_, vi err] w (LockQ R by_ err w) := by
  have HI := Lib.hid hI
  have HX := Lib.hid (alloc_at w (.cells ansZ 37))
  have HB := Lib.hid ((Below.refl w.heap.size w).alloc (Nat.le_refl _) (.cells ansZ 37))
  have HH := Lib.hid (h.later ((Below.refl w.heap.size w).alloc (Nat.le_refl _) (.cells ansZ 37)))
  clear h hI
  go_enter Try.func30, Try.ntmps30
  go_upto_region 1 with fail
  generalize w.alloc (.cells ansZ 37) = w1 at *
  have hX1 := (Array.getElem?_eq_some_iff.1 HX.out).1
  obtain ⟨X, hX⟩ : ∃ X, X = w.heap.size := ⟨_, rfl⟩
  rw [← hX] at HX hX1 ⊢
  have HXE := Lib.hid hX
  clear hX
  have HY := Lib.hid (alloc_at w1 (.cells #[vi err, .slice none 0 0, vi 0, vi by_, vi 0, vi 0, .bool false, vi 0] 37))
  have HX2 := Lib.hid ((Below.heap_alloc w1 (.cells #[vi err, .slice none 0 0, vi 0, vi by_, vi 0, vi 0, .bool false, vi 0] 37) X hX1).trans HX.out)
  have HB2 := Lib.hid (HB.out.alloc HB.out.size (.cells #[vi err, .slice none 0 0, vi 0, vi by_, vi 0, vi 0, .bool false, vi 0] 37))
  have HH2 := Lib.hid (HH.out.later ((Below.refl w1.heap.size w1).alloc (Nat.le_refl _) (.cells #[vi err, .slice none 0 0, vi 0, vi by_, vi 0, vi 0, .bool false, vi 0] 37)))
  go_upto_region 2 with fail
  clear HX HB HH
  generalize w1.alloc (.cells #[vi err, .slice none 0 0, vi 0, vi by_, vi 0, vi 0, .bool false, vi 0] 37) = w2 at *
  obtain ⟨Y, hY⟩ : ∃ Y, Y = w1.heap.size := ⟨_, rfl⟩
  rw [← hY] at HY ⊢
  have hXY : X ≠ Y := by omega
  have hwY : w.heap.size ≤ Y := by have := HXE.out; omega
  have HYE := Lib.hid hY
  clear hY
  by_cases h60 : err = 60
  · have e1 : (err != 60) = false := by simp [h60]
    have HE := Lib.hid h60
    clear h60
    have p0 : w2.cell? ⟨p, 0, none⟩ = some (.pointer (some ⟨ps, 0, none⟩)) := by rw [cell_of HH2.out.s.blk]; rfl
    have hRl : R.length ≤ 1048576 := by have := HI.out.rlen; omega
    go_wp2_with fail
    refine (waits_call w2 HH2.out.s.st hRl (fun y hy => ⟨Nat.le_trans (HI.out.small y hy).1 (by decide), Nat.le_trans (HI.out.small y hy).2.1 (by decide)⟩)).mono ?_
    rintro e3 w3 ⟨v3, L, rfl, how, hwm, hb3⟩
    obtain ⟨aL, cL, rfl⟩ := own_shape how.row
    have HOW := Lib.hid how
    have HWM := Lib.hid hwm
    have hY2 := (Array.getElem?_eq_some_iff.1 HY.out).1
    have hX2 := (Array.getElem?_eq_some_iff.1 HX2.out).1
    have HY3 := Lib.hid ((hb3.block Y hY2).trans HY.out)
    have HX3 := Lib.hid ((hb3.block X hX2).trans HX2.out)
    have HB3 := Lib.hid (HB2.out.trans (hb3.mono HB2.out.size))
    have hs3 := hb3.size
    have hw2s := HB2.out.size
    have hLl : L.length ≤ 1048576 := by
      obtain ⟨ks, hp, _, hL⟩ := hwm
      have h1 := congrArg List.length hL
      have h2 := hp.length_eq
      simp at h1 h2
      omega
    clear p0 how hwm hb3
    dsimp only
    go_wp2_with fail
    go_loopw [22] (fun i wr => ∃ k : Nat, k ≤ L.length ∧ i = vi k ∧ Hid (wr.heap[Y]? = some (.cells #[vi err, .slice none 0 0, vi 0, vi by_, vi (homeL ((L.take k).map (·.r)) by_), vi 0, .bool false, vi 0] 37) ∧ wr.heap[X]? = some (.cells ansZ 37) ∧ Below w.heap.size w wr ∧ w3.grownBy wr (some Y))) (fun i _ => L.length - (intOf i).toNat)
    case atStart => exact ⟨0, Nat.zero_le _, rfl, Lib.hid ⟨HY3.out, HX3.out, HB3.out, gro_refl _ _⟩⟩
    case round =>
      obtain ⟨wj, rfl⟩ : ∃ wj : World, wj = wr := ⟨_, rfl⟩
      obtain ⟨k, hk, rfl, HJ⟩ := hrel
      by_cases hlt : k < L.length
      · have k1 : decide ((k : Int) < L.length) = true := decide_eq_true (by omega)
        have hki : (k : Int) < L.length := by omega
        have hwk : IntKind.i64.wrap ((k : Int) + 1) = (k : Int) + 1 := IntWalk.i64_in _ (by omega)
        obtain ⟨y, hy⟩ := some_at hlt
        have HYK := Lib.hid (take_at hy)
        obtain ⟨a1, n1, c1, a2, n2, c2, hv1, hv2⟩ := HOW.out.shapes' (List.mem_of_getElem? hy)
        obtain ⟨g, rfl, hcl⟩ := HOW.out.cellsAt' hy (fun g hg hg2 => HJ.out.2.2.2.block g hg2 (fun e => by have := Option.some.inj e; omega))
        have m0 : wj.cell? ⟨g, k * 5, none⟩ = some (vi y.r.txn) := hcl 0 _ rfl
        have m1 : wj.cell? ⟨g, k * 5 + 1, none⟩ = some (vi y.r.home) := hcl 1 _ rfl
        have m2 : wj.cell? ⟨g, k * 5 + 2, none⟩ = some (vi y.r.start) := hcl 2 _ rfl
        have m3 : wj.cell? ⟨g, k * 5 + 3, none⟩ = some (.slice a1 n1 c1) := by rw [← hv1]; exact hcl 3 _ rfl
        have m4 : wj.cell? ⟨g, k * 5 + 4, none⟩ = some (.slice a2 n2 c2) := by rw [← hv2]; exact hcl 4 _ rfl
        clear hcl hy hv1 hv2
        have hYj := (Array.getElem?_eq_some_iff.1 HJ.out.1).1
        have hXj := (Array.getElem?_eq_some_iff.1 HJ.out.2.1).1
        have HZ := Lib.hid (alloc_at wj (.cells #[vi y.r.txn, vi y.r.home, vi y.r.start, .slice a1 n1 c1, .slice a2 n2 c2] 29))
        have HYA := Lib.hid ((Below.heap_alloc wj (.cells #[vi y.r.txn, vi y.r.home, vi y.r.start, .slice a1 n1 c1, .slice a2 n2 c2] 29) Y hYj).trans HJ.out.1)
        have HXA := Lib.hid ((Below.heap_alloc wj (.cells #[vi y.r.txn, vi y.r.home, vi y.r.start, .slice a1 n1 c1, .slice a2 n2 c2] 29) X hXj).trans HJ.out.2.1)
        have HBA := Lib.hid (HJ.out.2.2.1.alloc HJ.out.2.2.1.size (.cells #[vi y.r.txn, vi y.r.home, vi y.r.start, .slice a1 n1 c1, .slice a2 n2 c2] 29))
        have HGA := Lib.hid (gro_trans HJ.out.2.2.2 (World.grownBy_alloc wj (.cells #[vi y.r.txn, vi y.r.home, vi y.r.start, .slice a1 n1 c1, .slice a2 n2 c2] 29) (some Y)))
        go_upto_region 7 with fail
        clear m0 m1 m2 m3 m4 HJ
        generalize wj.alloc (.cells #[vi y.r.txn, vi y.r.home, vi y.r.start, .slice a1 n1 c1, .slice a2 n2 c2] 29) = wa at *
        obtain ⟨Z, hZ⟩ : ∃ Z, Z = wj.heap.size := ⟨_, rfl⟩
        rw [← hZ] at HZ ⊢
        have HZE := Lib.hid hZ
        clear hZ
        have z0 : wa.cell? ⟨Z, 0, none⟩ = some (vi y.r.txn) := by rw [cell_of HZ.out]; rfl
        by_cases hb : y.r.txn = by_
        · have b1 : (y.r.txn == by_) = true := by simp [hb]
          have HBB := Lib.hid hb
          clear hb
          have z1 : wa.cell? ⟨Z, 1, none⟩ = some (vi y.r.home) := by rw [cell_of HZ.out]; rfl
          have y4 : wa.cell? ⟨Y, 4, none⟩ = some (vi (homeL ((L.take k).map (·.r)) by_)) := by rw [cell_of HYA.out]; rfl
          have yf : wa.frozen? ⟨Y, 4, none⟩ = false := free_of HYA.out 4
          go_wp2_with fail
          refine ⟨⟨k + 1, by omega, by go_num, Lib.hid ⟨?_, Bt.cells_other _ HXA.out hXY, HBA.out.setCell hwY _, gro_setP HGA.out _⟩⟩, by simp only [intOf]; omega⟩
          have h1 := Bt.cells_set (o := 4) (vi y.r.home) HYA.out
          refine (show _ = _ from h1).trans ?_
          rw [HYK.out, List.map_append, List.map_cons, List.map_nil, homeL_snoc, if_pos HBB.out]
          rfl
        · have b1 : (y.r.txn == by_) = false := by simp [hb]
          have HBB := Lib.hid hb
          clear hb
          go_wp2_with fail
          refine ⟨⟨k + 1, by omega, by go_num, Lib.hid ⟨?_, HXA.out, HBA.out, HGA.out⟩⟩, by simp only [intOf]; omega⟩
          rw [HYK.out, List.map_append, List.map_cons, List.map_nil, homeL_snoc, if_neg HBB.out]
          exact HYA.out
      · have k1 : decide ((k : Int) < L.length) = false := decide_eq_false (by omega)
        have HKE := Lib.hid (show k = L.length by omega)
        have HXF := Lib.hid HJ.out.2.1
        obtain ⟨hm, hhm⟩ : ∃ hm, hm = homeL ((L.take k).map (·.r)) by_ := ⟨_, rfl⟩
        have HHM := Lib.hid hhm
        have HYF := Lib.hid (show wj.heap[Y]? = some (.cells #[vi err, .slice none 0 0, vi 0, vi by_, vi hm, vi 0, .bool false, vi 0] 37) by rw [hhm]; exact HJ.out.1)
        have HBW := Lib.hid HJ.out.2.2.1
        clear HJ hhm
        have xf : ∀ o, wj.frozen? ⟨X, o, none⟩ = false := fun o => free_of HXF.out o
        have x0 : wj.cell? ⟨X, 0, none⟩ = some (vi 0) := by rw [Bt.cell_of HXF.out]; rfl
        have x1 : wj.cell? ⟨X, 1, none⟩ = some (.slice none 0 0) := by rw [Bt.cell_of HXF.out]; rfl
        have x2 : wj.cell? ⟨X, 2, none⟩ = some (vi 0) := by rw [Bt.cell_of HXF.out]; rfl
        have x3 : wj.cell? ⟨X, 3, none⟩ = some (vi 0) := by rw [Bt.cell_of HXF.out]; rfl
        have x4 : wj.cell? ⟨X, 4, none⟩ = some (vi 0) := by rw [Bt.cell_of HXF.out]; rfl
        have x5 : wj.cell? ⟨X, 5, none⟩ = some (vi 0) := by rw [Bt.cell_of HXF.out]; rfl
        have x6 : wj.cell? ⟨X, 6, none⟩ = some (.bool false) := by rw [Bt.cell_of HXF.out]; rfl
        have x7 : wj.cell? ⟨X, 7, none⟩ = some (vi 0) := by rw [Bt.cell_of HXF.out]; rfl
        have y0 : wj.cell? ⟨Y, 0, none⟩ = some (vi err) := by rw [Bt.cell_of HYF.out]; rfl
        have y1 : wj.cell? ⟨Y, 1, none⟩ = some (.slice none 0 0) := by rw [Bt.cell_of HYF.out]; rfl
        have y2 : wj.cell? ⟨Y, 2, none⟩ = some (vi 0) := by rw [Bt.cell_of HYF.out]; rfl
        have y3 : wj.cell? ⟨Y, 3, none⟩ = some (vi by_) := by rw [Bt.cell_of HYF.out]; rfl
        have y4 : wj.cell? ⟨Y, 4, none⟩ = some (vi hm) := by rw [Bt.cell_of HYF.out]; rfl
        have y5 : wj.cell? ⟨Y, 5, none⟩ = some (vi 0) := by rw [Bt.cell_of HYF.out]; rfl
        have y6 : wj.cell? ⟨Y, 6, none⟩ = some (.bool false) := by rw [Bt.cell_of HYF.out]; rfl
        have y7 : wj.cell? ⟨Y, 7, none⟩ = some (vi 0) := by rw [Bt.cell_of HYF.out]; rfl
        go_wp2_with fail
        change bodyPost _ _ _ _ _ (wj.setCells X 0 [vi err, .slice none 0 0, vi 0, vi by_, vi hm, vi 0, .bool false, vi 0])
        have HZC := Lib.hid (show (wj.setCells X 0 [vi err, .slice none 0 0, vi 0, vi by_, vi hm, vi 0, .bool false, vi 0]).heap[X]? = some (.cells #[vi err, .slice none 0 0, vi 0, vi by_, vi hm, vi 0, .bool false, vi 0] 37) from setCells_all (cs := [vi err, .slice none 0 0, vi 0, vi by_, vi hm, vi 0, .bool false, vi 0]) HXF.out rfl)
        have HBF := Lib.hid (ans_below0 (us := [vi err, .slice none 0 0, vi 0, vi by_, vi hm, vi 0, .bool false, vi 0]) HBW.out (show w.heap.size ≤ X by rw [HXE.out]; exact Nat.le_refl _))
        clear x0 x1 x2 x3 x4 x5 x6 x7 y0 y1 y2 y3 y4 y5 y6 y7 xf
        generalize wj.setCells X 0 [vi err, .slice none 0 0, vi 0, vi by_, vi hm, vi 0, .bool false, vi 0] = wz at *
        have r0 : wz.cell? ⟨X, 0, none⟩ = some (vi err) := by rw [Bt.cell_of HZC.out]; rfl
        have r1 : wz.cell? ⟨X, 1, none⟩ = some (.slice none 0 0) := by rw [Bt.cell_of HZC.out]; rfl
        have r2 : wz.cell? ⟨X, 2, none⟩ = some (vi 0) := by rw [Bt.cell_of HZC.out]; rfl
        have r3 : wz.cell? ⟨X, 3, none⟩ = some (vi by_) := by rw [Bt.cell_of HZC.out]; rfl
        have r4 : wz.cell? ⟨X, 4, none⟩ = some (vi hm) := by rw [Bt.cell_of HZC.out]; rfl
        have r5 : wz.cell? ⟨X, 5, none⟩ = some (vi 0) := by rw [Bt.cell_of HZC.out]; rfl
        have r6 : wz.cell? ⟨X, 6, none⟩ = some (.bool false) := by rw [Bt.cell_of HZC.out]; rfl
        have r7 : wz.cell? ⟨X, 7, none⟩ = some (vi 0) := by rw [Bt.cell_of HZC.out]; rfl
        refine bodyPost_ret (v := ansV ⟨err, [], 0, by_, hm, zeroE'⟩ (.slice none 0 0)) (by simp [results, Try.results30, go_sem, ansV, ansC, r0, r1, r2, r3, r4, r5, r6, r7]) rfl ⟨hm, rfl, HBF.out, fun h => absurd HE.out h, fun _ => ⟨L.map (·.r), HWM.out, ?_⟩⟩
        rw [HHM.out, HKE.out, List.take_length]
  · have e1 : (err != 60) = true := by simp [h60]
    have HE := Lib.hid h60
    have HXF := HX2
    have HYF := HY
    have HBW := HB2
    clear h60
    have xf : ∀ o, w2.frozen? ⟨X, o, none⟩ = false := fun o => free_of HXF.out o
    have x0 : w2.cell? ⟨X, 0, none⟩ = some (vi 0) := by rw [Bt.cell_of HXF.out]; rfl
    have x1 : w2.cell? ⟨X, 1, none⟩ = some (.slice none 0 0) := by rw [Bt.cell_of HXF.out]; rfl
    have x2 : w2.cell? ⟨X, 2, none⟩ = some (vi 0) := by rw [Bt.cell_of HXF.out]; rfl
    have x3 : w2.cell? ⟨X, 3, none⟩ = some (vi 0) := by rw [Bt.cell_of HXF.out]; rfl
    have x4 : w2.cell? ⟨X, 4, none⟩ = some (vi 0) := by rw [Bt.cell_of HXF.out]; rfl
    have x5 : w2.cell? ⟨X, 5, none⟩ = some (vi 0) := by rw [Bt.cell_of HXF.out]; rfl
    have x6 : w2.cell? ⟨X, 6, none⟩ = some (.bool false) := by rw [Bt.cell_of HXF.out]; rfl
    have x7 : w2.cell? ⟨X, 7, none⟩ = some (vi 0) := by rw [Bt.cell_of HXF.out]; rfl
    have y0 : w2.cell? ⟨Y, 0, none⟩ = some (vi err) := by rw [Bt.cell_of HYF.out]; rfl
    have y1 : w2.cell? ⟨Y, 1, none⟩ = some (.slice none 0 0) := by rw [Bt.cell_of HYF.out]; rfl
    have y2 : w2.cell? ⟨Y, 2, none⟩ = some (vi 0) := by rw [Bt.cell_of HYF.out]; rfl
    have y3 : w2.cell? ⟨Y, 3, none⟩ = some (vi by_) := by rw [Bt.cell_of HYF.out]; rfl
    have y4 : w2.cell? ⟨Y, 4, none⟩ = some (vi 0) := by rw [Bt.cell_of HYF.out]; rfl
    have y5 : w2.cell? ⟨Y, 5, none⟩ = some (vi 0) := by rw [Bt.cell_of HYF.out]; rfl
    have y6 : w2.cell? ⟨Y, 6, none⟩ = some (.bool false) := by rw [Bt.cell_of HYF.out]; rfl
    have y7 : w2.cell? ⟨Y, 7, none⟩ = some (vi 0) := by rw [Bt.cell_of HYF.out]; rfl
    go_wp2_with fail
    change bodyPost _ _ _ _ _ (w2.setCells X 0 [vi err, .slice none 0 0, vi 0, vi by_, vi 0, vi 0, .bool false, vi 0])
    have HZC := Lib.hid (show (w2.setCells X 0 [vi err, .slice none 0 0, vi 0, vi by_, vi 0, vi 0, .bool false, vi 0]).heap[X]? = some (.cells #[vi err, .slice none 0 0, vi 0, vi by_, vi 0, vi 0, .bool false, vi 0] 37) from setCells_all (cs := [vi err, .slice none 0 0, vi 0, vi by_, vi 0, vi 0, .bool false, vi 0]) HXF.out rfl)
    have HBF := Lib.hid (ans_below0 (us := [vi err, .slice none 0 0, vi 0, vi by_, vi 0, vi 0, .bool false, vi 0]) HBW.out (show w.heap.size ≤ X by rw [HXE.out]; exact Nat.le_refl _))
    clear x0 x1 x2 x3 x4 x5 x6 x7 y0 y1 y2 y3 y4 y5 y6 y7 xf
    generalize w2.setCells X 0 [vi err, .slice none 0 0, vi 0, vi by_, vi 0, vi 0, .bool false, vi 0] = wz at *
    have r0 : wz.cell? ⟨X, 0, none⟩ = some (vi err) := by rw [Bt.cell_of HZC.out]; rfl
    have r1 : wz.cell? ⟨X, 1, none⟩ = some (.slice none 0 0) := by rw [Bt.cell_of HZC.out]; rfl
    have r2 : wz.cell? ⟨X, 2, none⟩ = some (vi 0) := by rw [Bt.cell_of HZC.out]; rfl
    have r3 : wz.cell? ⟨X, 3, none⟩ = some (vi by_) := by rw [Bt.cell_of HZC.out]; rfl
    have r4 : wz.cell? ⟨X, 4, none⟩ = some (vi 0) := by rw [Bt.cell_of HZC.out]; rfl
    have r5 : wz.cell? ⟨X, 5, none⟩ = some (vi 0) := by rw [Bt.cell_of HZC.out]; rfl
    have r6 : wz.cell? ⟨X, 6, none⟩ = some (.bool false) := by rw [Bt.cell_of HZC.out]; rfl
    have r7 : wz.cell? ⟨X, 7, none⟩ = some (vi 0) := by rw [Bt.cell_of HZC.out]; rfl
    exact bodyPost_ret (v := ansV ⟨err, [], 0, by_, 0, zeroE'⟩ (.slice none 0 0)) (by simp [results, Try.results30, go_sem, ansV, ansC, r0, r1, r2, r3, r4, r5, r6, r7]) rfl ⟨0, rfl, HBF.out, fun _ => rfl, fun h => absurd h HE.out⟩
end Go.Proofs.Ytdkkpkgfiodlbaa
