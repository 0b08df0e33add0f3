/- Texts of one proof, one behind the other: ShAp4, ShHead, MvFin. -/
import Derived.Test.YtdkkpkgfiodlbaaJb8
import Derived.Test.YtdkkpkgfiodlbaaJb6
set_option linter.all false
/- (*shard.State).Apply: a decision. -/
namespace Go.Proofs.Ytdkkpkgfiodlbaa
open Go.RowKit Go.Maps

def DecideP (bugs now : Int) (K : KeysL) (R : RdyL) (E D : EndL) (e : EndM) (a : Ans) (now' : Int) (K' : KeysL) (R' : RdyL) (E' D' : EndL) : Prop :=
  ((∃ x, getM D e.txn = some x ∧ offB bugs 32 = true ∧ a = ⟨0, [], 0, 0, 0, x⟩ ∧ D' = D) ∨ ((getM D e.txn = none ∨ offB bugs 32 = false) ∧ a = ⟨0, [], 0, 0, 0, e⟩ ∧ D' = putM D e.txn e)) ∧ now' = now ∧ K' = K ∧ R' = R ∧ E' = E
set_option maxRecDepth 100000 in
set_option maxHeartbeats 8000000 in
theorem apply_decide {base p ps mk mr me md : Nat} {serial : Bool} {bugs stamps now : Int} {K : KeysL} {R : RdyL} {E D : EndL} (c : Cmd21) {v : Value} (w : World) (h : ShS base p ps mk mr me md serial bugs stamps now K R E D w) (hi : CmdI c) (hk : c.k = 4)
    (hv : Src w v 1 (btBytes (cmdL c)).length ((btBytes (cmdL c)).map u8)) :
    Calls Try.prog 11 #[.pointer (some ⟨p, 0, none⟩), v] w (AppQ base p ps mk mr me md serial bugs stamps (DecideP bugs now K R E D c.e) w) := by
  have HI := Lib.hid hi
  have HK := Lib.hid hk
  have HH := Lib.hid (h.later ((Below.refl w.heap.size w).alloc (Nat.le_refl _) (.cells ansZ 37)))
  have HV := Lib.hid (hv.below ((Below.refl w.heap.size w).alloc (Nat.le_refl _) (.cells ansZ 37)))
  have HA0 := Lib.hid (Bt.alloc_at w (.cells ansZ 37))
  have HB0 := Lib.hid ((Below.refl w.heap.size w).alloc (Nat.le_refl _) (.cells ansZ 37))
  have hcl : (btBytes (cmdL c)).length ≤ 1048576 := by rw [btBytes_length]; have := cmdL_length hi; omega
  obtain ⟨bs, hbs⟩ : ∃ bs, bs = btBytes (cmdL c) := ⟨_, rfl⟩
  rw [← hbs] at HV hcl
  have HBS := Lib.hid hbs
  have hpw : p < w.heap.size := (Array.getElem?_eq_some_iff.1 h.blk).1
  have H0 := Lib.hid h
  clear h hi hk hv hbs
  go_enter Try.func11, Try.ntmps11
  go_upto_region 1 with fail
  generalize w.alloc (.cells ansZ 37) = w1 at *
  obtain ⟨A, hA⟩ : ∃ A, A = w.heap.size := ⟨_, rfl⟩
  rw [← hA] at HA0 ⊢
  have HAE := Lib.hid hA
  have hAw : A < w1.heap.size := (Array.getElem?_eq_some_iff.1 HA0.out).1
  clear hA
  go_wp2_with fail
  refine (shRead_call (bs := bs) w1 HV.out (by rw [HBS.out]; exact btBytes_lt _) hcl).mono ?_
  rintro e2 w2 ⟨c', wv, rv, err, rfl, hrd⟩
  rw [HBS.out] at hrd
  obtain ⟨rfl, rfl⟩ := (cmd_back HI.out hrd).1 ⟨by rw [HK.out]; decide, by rw [HK.out]; decide⟩
  have hkl := killK_len c.r
  have hows : w2.ownsRow w1.heap.size 104 3 wv c.r.writes.length ((killK c.r).writes.flatMap opV) := by have := hrd.ws; unfold OwOps at this; rw [show (killC c).r.writes.length = c.r.writes.length from hkl] at this; exact this
  have hors : w2.ownsRow w1.heap.size 3 1 rv c.r.reads.length (c.r.reads.flatMap viC) := hrd.rs
  obtain ⟨aw, cw, rfl⟩ := Bt.own_shape hows
  obtain ⟨ar, cr, rfl⟩ := Bt.own_shape hors
  have HWS := Lib.hid hrd.ws
  have HRS := Lib.hid hrd.rs
  have HH2 := Lib.hid (HH.out.later hrd.bel)
  have HA2 := Lib.hid ((hrd.bel.block A hAw).trans HA0.out)
  have HB2 := Lib.hid (HB0.out.trans (hrd.bel.mono HB0.out.size))
  have hA2w : A < w2.heap.size := Nat.lt_of_lt_of_le hAw hrd.bel.size
  have hw12 := hrd.bel.size
  have HKL := Lib.hid hkl
  clear hrd hkl hows hors HH HA0 HB0 HV
  unfold cmdV cmdC
  dsimp only [killC, killK]
  have HC3 := Lib.hid (Bt.alloc_at w2 (.cells #[vi c.k, vi c.r.txn, vi c.r.home, vi c.r.start, .slice aw c.r.writes.length cw, .slice ar c.r.reads.length cr, vi c.e.txn, .bool c.e.commit, vi c.e.at_] 33))
  have HH3 := Lib.hid (HH2.out.later ((Below.refl w2.heap.size w2).alloc (Nat.le_refl _) (.cells #[vi c.k, vi c.r.txn, vi c.r.home, vi c.r.start, .slice aw c.r.writes.length cw, .slice ar c.r.reads.length cr, vi c.e.txn, .bool c.e.commit, vi c.e.at_] 33)))
  have HA3 := Lib.hid ((Below.heap_alloc w2 (.cells #[vi c.k, vi c.r.txn, vi c.r.home, vi c.r.start, .slice aw c.r.writes.length cw, .slice ar c.r.reads.length cr, vi c.e.txn, .bool c.e.commit, vi c.e.at_] 33) A hA2w).trans HA2.out)
  have HB3 := Lib.hid (HB2.out.alloc HB2.out.size (.cells #[vi c.k, vi c.r.txn, vi c.r.home, vi c.r.start, .slice aw c.r.writes.length cw, .slice ar c.r.reads.length cr, vi c.e.txn, .bool c.e.commit, vi c.e.at_] 33))
  have HWS3 := Lib.hid (own_below HWS.out ((Below.refl w2.heap.size w2).alloc (Nat.le_refl _) (.cells #[vi c.k, vi c.r.txn, vi c.r.home, vi c.r.start, .slice aw c.r.writes.length cw, .slice ar c.r.reads.length cr, vi c.e.txn, .bool c.e.commit, vi c.e.at_] 33)))
  have HRS3 := Lib.hid (own_below HRS.out ((Below.refl w2.heap.size w2).alloc (Nat.le_refl _) (.cells #[vi c.k, vi c.r.txn, vi c.r.home, vi c.r.start, .slice aw c.r.writes.length cw, .slice ar c.r.reads.length cr, vi c.e.txn, .bool c.e.commit, vi c.e.at_] 33)))
  go_upto_region 4 with fail
  clear HH2 HA2 HB2 HWS HRS
  generalize w2.alloc (.cells #[vi c.k, vi c.r.txn, vi c.r.home, vi c.r.start, .slice aw c.r.writes.length cw, .slice ar c.r.reads.length cr, vi c.e.txn, .bool c.e.commit, vi c.e.at_] 33) = w3 at *
  have hC3w : w2.heap.size < w3.heap.size := (Array.getElem?_eq_some_iff.1 HC3.out).1
  obtain ⟨C, hC⟩ : ∃ C, C = w2.heap.size := ⟨_, rfl⟩
  rw [← hC] at HC3 hC3w ⊢
  have HCE := Lib.hid hC
  have hAC : A ≠ C := by omega
  have hpA : p < A := by have := HAE.out; omega
  clear hC
  have k0 : w3.cell? ⟨C, 0, none⟩ = some (vi c.k) := by rw [Bt.cell_of HC3.out]; rfl
  have b1 : (c.k == 1) = false := by rw [HK.out]; rfl
  have b2 : (c.k == 2) = false := by rw [HK.out]; rfl
  have b3 : (c.k == 3) = false := by rw [HK.out]; rfl
  have b4 : (c.k == 4) = true := by rw [HK.out]; rfl
  have hBw : w.heap.size ≤ w3.heap.size := HB3.out.size
  have HT := Lib.hid (show i64 c.e.txn from HI.out.e.txn)
  have p4 : w3.cell? ⟨p, 4, none⟩ = some (.map (some md)) := by rw [cell_of HH3.out.blk]; rfl
  have y6 : w3.cell? ⟨C, 6, none⟩ = some (vi c.e.txn) := by rw [Bt.cell_of HC3.out]; rfl
  obtain ⟨b, hb⟩ : ∃ b, (getM D c.e.txn).isSome = b := ⟨_, rfl⟩
  have HBE := Lib.hid hb
  obtain ⟨ex, hex⟩ : ∃ ex, (getM D c.e.txn).getD ⟨0, false, 0⟩ = ex := ⟨_, rfl⟩
  have HEX := Lib.hid hex
  have hS : ∀ w' : World, Below w3.heap.size w3 w' → w'.cell? ⟨p, 4, none⟩ = some (.map (some md)) ∧ w'.cell? ⟨C, 6, none⟩ = some (vi c.e.txn) ∧ (Instr.lookup 44 (.map (some md)) (vi c.e.txn) true).run Try.prog w' = .ok (.tuple #[.agg #[vi ex.txn, .bool ex.commit, vi ex.at_], .bool b]) w' := fun w' hw => by
    have := lookup_ends (HH3.out.later hw).dm HT.out
    rw [hb, hex] at this
    exact ⟨cell_later hw p4, cell_later hw y6, this⟩
  have HS := Lib.hid hS
  clear hb hS hex
  go_upto_region 27 with fail
  go_cut [15, 16] (fun b15 u wx => b15 = .pointer (some ⟨w3.heap.size, 0, none⟩) ∧ u = .bool b ∧ wx.heap[w3.heap.size]? = some (.cells #[vi ex.txn, .bool ex.commit, vi ex.at_] 31) ∧ Below w3.heap.size w3 wx)
  case first =>
    go_region_held3 (fun w' : World => w'.cell? ⟨p, 4, none⟩ = some (.map (some md)) ∧ w'.cell? ⟨C, 6, none⟩ = some (vi c.e.txn) ∧ (Instr.lookup 44 (.map (some md)) (vi c.e.txn) true).run Try.prog w' = .ok (.tuple #[.agg #[vi ex.txn, .bool ex.commit, vi ex.at_], .bool b]) w')
      (first | exact HS.out _ (Below.refl _ _) | exact HS.out _ ((Below.refl _ _).drew) | exact HS.out _ (((Below.refl _ _).drew).alloc (Nat.le_refl _) _) | exact HS.out _ ((((Below.refl _ _).drew).alloc (Nat.le_refl _) _).setCell (Nat.le_refl _) _)) (fail)
    all_goals
      go_wp2_with fail
      go_meet
      exact ⟨rfl, rfl, alloc_at w3 _, by first | exact ((Below.refl _ _).alloc (Nat.le_refl _) _).drew | exact ((Below.refl _ _).drew).alloc (Nat.le_refl _) _⟩
  case rest =>
    obtain ⟨w4, rfl⟩ : ∃ w4 : World, w4 = wc := ⟨_, rfl⟩
    obtain ⟨rfl, rfl, hbx, hb4⟩ := hcut
    have HBX := Lib.hid hbx
    have HB4 := Lib.hid hb4
    have H4 := Lib.hid (HH3.out.later hb4)
    have hA3 := (Array.getElem?_eq_some_iff.1 HA3.out).1
    have HA4 := Lib.hid ((hb4.block A hA3).trans HA3.out)
    have HC4 := Lib.hid ((hb4.block C (Array.getElem?_eq_some_iff.1 HC3.out).1).trans HC3.out)
    have p1 : w4.cell? ⟨p, 1, none⟩ = some (vi bugs) := by rw [cell_of H4.out.blk]; rfl
    obtain ⟨off, hoff⟩ : ∃ off, (bits .and .i64 bugs 32 == 0) = off := ⟨_, rfl⟩
    have HOFF := Lib.hid (show offB bugs 32 = off from hoff)
    clear hbx hb4 p4 y6 k0
    cases b
    · obtain ⟨w5, hup, HUP⟩ := (H4.out.later ((Below.refl w4.heap.size w4).drew)).put (y := c.e) HT.out
      have p4' : w4.cell? ⟨p, 4, none⟩ = some (.map (some md)) := by rw [cell_of H4.out.blk]; rfl
      have z6 : w4.cell? ⟨C, 6, none⟩ = some (vi c.e.txn) := by rw [Bt.cell_of HC4.out]; rfl
      have z7 : w4.cell? ⟨C, 7, none⟩ = some (.bool c.e.commit) := by rw [Bt.cell_of HC4.out]; rfl
      have z8 : w4.cell? ⟨C, 8, none⟩ = some (vi c.e.at_) := by rw [Bt.cell_of HC4.out]; rfl
      have HA5 := Lib.hid (HUP.out.2.2 _ _ _ _ (show w4.drew.heap[A]? = _ from HA4.out))
      have HC5 := Lib.hid (HUP.out.2.2 _ _ _ _ (show w4.drew.heap[C]? = _ from HC4.out))
      have z6' : w5.cell? ⟨C, 6, none⟩ = some (vi c.e.txn) := by rw [Bt.cell_of HC5.out]; rfl
      have z7' : w5.cell? ⟨C, 7, none⟩ = some (.bool c.e.commit) := by rw [Bt.cell_of HC5.out]; rfl
      have z8' : w5.cell? ⟨C, 8, none⟩ = some (vi c.e.at_) := by rw [Bt.cell_of HC5.out]; rfl
      have hw45 : w.heap.size ≤ w5.heap.size := Nat.le_trans hBw (Nat.le_trans HB4.out.size HUP.out.2.1.size)
      go_upto_region 30 with fail
      go_region_held3 (fun w' : World => w'.cell? ⟨p, 4, none⟩ = some (.map (some md)) ∧ w'.cell? ⟨C, 6, none⟩ = some (vi c.e.txn) ∧ w'.cell? ⟨C, 7, none⟩ = some (.bool c.e.commit) ∧ w'.cell? ⟨C, 8, none⟩ = some (vi c.e.at_))
        (first | exact ⟨p4', z6, z7, z8⟩ | exact ⟨HUP.out.2.2.cell (show w4.drew.cell? _ = _ from p4'), z6', z7', z8'⟩) (fail)
      have xf : ∀ o, w5.frozen? ⟨A, o, none⟩ = false := fun o => free_of HA5.out o
      have x0 : w5.cell? ⟨A, 0, none⟩ = some (vi 0) := by rw [Bt.cell_of HA5.out]; rfl
      have x1 : w5.cell? ⟨A, 1, none⟩ = some (.slice none 0 0) := by rw [Bt.cell_of HA5.out]; rfl
      have x2 : w5.cell? ⟨A, 2, none⟩ = some (vi 0) := by rw [Bt.cell_of HA5.out]; rfl
      have x3 : w5.cell? ⟨A, 3, none⟩ = some (vi 0) := by rw [Bt.cell_of HA5.out]; rfl
      have x4 : w5.cell? ⟨A, 4, none⟩ = some (vi 0) := by rw [Bt.cell_of HA5.out]; rfl
      have x5 : w5.cell? ⟨A, 5, none⟩ = some (vi 0) := by rw [Bt.cell_of HA5.out]; rfl
      have x6 : w5.cell? ⟨A, 6, none⟩ = some (.bool false) := by rw [Bt.cell_of HA5.out]; rfl
      have x7 : w5.cell? ⟨A, 7, none⟩ = some (vi 0) := by rw [Bt.cell_of HA5.out]; rfl
      all_goals
        go_wp2_with fail
        have HAQ := HA5.out
        change bodyPost _ _ _ _ _ (w5.setCells A 0 [vi 0, .slice none 0 0, vi 0, vi 0, vi 0, vi c.e.txn, .bool c.e.commit, vi c.e.at_])
        obtain ⟨wz, hwz⟩ : ∃ wz, wz = w5.setCells A 0 [vi 0, .slice none 0 0, vi 0, vi 0, vi 0, vi c.e.txn, .bool c.e.commit, vi c.e.at_] := ⟨_, rfl⟩
        have HZC := Lib.hid (show wz.heap[A]? = some (.cells #[vi 0, .slice none 0 0, vi 0, vi 0, vi 0, vi c.e.txn, .bool c.e.commit, vi c.e.at_] 37) by rw [hwz]; exact setCells_all (cs := [vi 0, .slice none 0 0, vi 0, vi 0, vi 0, vi c.e.txn, .bool c.e.commit, vi c.e.at_]) HAQ rfl)
        rw [← hwz]
        have HWZ := Lib.hid hwz
        clear hwz x0 x1 x2 x3 x4 x5 x6 x7 xf
        have r0 : wz.cell? ⟨A, 0, none⟩ = some (vi 0) := by rw [Bt.cell_of HZC.out]; rfl
        have r1 : wz.cell? ⟨A, 1, none⟩ = some (.slice none 0 0) := by rw [Bt.cell_of HZC.out]; rfl
        have r2 : wz.cell? ⟨A, 2, none⟩ = some (vi 0) := by rw [Bt.cell_of HZC.out]; rfl
        have r3 : wz.cell? ⟨A, 3, none⟩ = some (vi 0) := by rw [Bt.cell_of HZC.out]; rfl
        have r4 : wz.cell? ⟨A, 4, none⟩ = some (vi 0) := by rw [Bt.cell_of HZC.out]; rfl
        have r5 : wz.cell? ⟨A, 5, none⟩ = some (vi c.e.txn) := by rw [Bt.cell_of HZC.out]; rfl
        have r6 : wz.cell? ⟨A, 6, none⟩ = some (.bool c.e.commit) := by rw [Bt.cell_of HZC.out]; rfl
        have r7 : wz.cell? ⟨A, 7, none⟩ = some (vi c.e.at_) := by rw [Bt.cell_of HZC.out]; rfl
        refine bodyPost_ret (v := ansV ⟨0, [], 0, 0, 0, c.e⟩ (.slice none 0 0)) (by simp [results, Try.results11, go_sem, ansV, ansC, r0, r1, r2, r3, r4, r5, r6, r7]) rfl ⟨⟨0, [], 0, 0, 0, c.e⟩, .slice none 0 0, now, K, R, E, putM D c.e.txn c.e, rfl, World.ownsRow_nil _ _ _ _, ?_, ?_, .inr ⟨.inl (endsNone HBE.out), rfl, rfl⟩, rfl, rfl, rfl, rfl⟩
        · refine H0.out.dec (by rw [HWZ.out]; exact dec_turns (HB3.out.trans (HB4.out.mono hBw)) HUP.out.2.1 (by rw [HAE.out]; exact Nat.le_refl _)) ?_
          rw [HWZ.out]
          exact HUP.out.1.dm.frame (setCells_other A _ 0 w5 md (fun e => by have := H0.out.dm.lt; have := HAE.out; omega))
        · refine Turns.mono (bs := [md]) ?_ (by simp)
          rw [HWZ.out]
          exact dec_turns (HB3.out.trans (HB4.out.mono hBw)) HUP.out.2.1 (by rw [HAE.out]; exact Nat.le_refl _)
    · cases off
      · obtain ⟨w5, hup, HUP⟩ := (H4.out.later ((Below.refl w4.heap.size w4).drew)).put (y := c.e) HT.out
        have p4' : w4.cell? ⟨p, 4, none⟩ = some (.map (some md)) := by rw [cell_of H4.out.blk]; rfl
        have z6 : w4.cell? ⟨C, 6, none⟩ = some (vi c.e.txn) := by rw [Bt.cell_of HC4.out]; rfl
        have z7 : w4.cell? ⟨C, 7, none⟩ = some (.bool c.e.commit) := by rw [Bt.cell_of HC4.out]; rfl
        have z8 : w4.cell? ⟨C, 8, none⟩ = some (vi c.e.at_) := by rw [Bt.cell_of HC4.out]; rfl
        have HA5 := Lib.hid (HUP.out.2.2 _ _ _ _ (show w4.drew.heap[A]? = _ from HA4.out))
        have HC5 := Lib.hid (HUP.out.2.2 _ _ _ _ (show w4.drew.heap[C]? = _ from HC4.out))
        have z6' : w5.cell? ⟨C, 6, none⟩ = some (vi c.e.txn) := by rw [Bt.cell_of HC5.out]; rfl
        have z7' : w5.cell? ⟨C, 7, none⟩ = some (.bool c.e.commit) := by rw [Bt.cell_of HC5.out]; rfl
        have z8' : w5.cell? ⟨C, 8, none⟩ = some (vi c.e.at_) := by rw [Bt.cell_of HC5.out]; rfl
        have hw45 : w.heap.size ≤ w5.heap.size := Nat.le_trans hBw (Nat.le_trans HB4.out.size HUP.out.2.1.size)
        go_upto_region 30 with fail
        go_region_held3 (fun w' : World => w'.cell? ⟨p, 4, none⟩ = some (.map (some md)) ∧ w'.cell? ⟨C, 6, none⟩ = some (vi c.e.txn) ∧ w'.cell? ⟨C, 7, none⟩ = some (.bool c.e.commit) ∧ w'.cell? ⟨C, 8, none⟩ = some (vi c.e.at_))
          (first | exact ⟨p4', z6, z7, z8⟩ | exact ⟨HUP.out.2.2.cell (show w4.drew.cell? _ = _ from p4'), z6', z7', z8'⟩) (fail)
        have xf : ∀ o, w5.frozen? ⟨A, o, none⟩ = false := fun o => free_of HA5.out o
        have x0 : w5.cell? ⟨A, 0, none⟩ = some (vi 0) := by rw [Bt.cell_of HA5.out]; rfl
        have x1 : w5.cell? ⟨A, 1, none⟩ = some (.slice none 0 0) := by rw [Bt.cell_of HA5.out]; rfl
        have x2 : w5.cell? ⟨A, 2, none⟩ = some (vi 0) := by rw [Bt.cell_of HA5.out]; rfl
        have x3 : w5.cell? ⟨A, 3, none⟩ = some (vi 0) := by rw [Bt.cell_of HA5.out]; rfl
        have x4 : w5.cell? ⟨A, 4, none⟩ = some (vi 0) := by rw [Bt.cell_of HA5.out]; rfl
        have x5 : w5.cell? ⟨A, 5, none⟩ = some (vi 0) := by rw [Bt.cell_of HA5.out]; rfl
        have x6 : w5.cell? ⟨A, 6, none⟩ = some (.bool false) := by rw [Bt.cell_of HA5.out]; rfl
        have x7 : w5.cell? ⟨A, 7, none⟩ = some (vi 0) := by rw [Bt.cell_of HA5.out]; rfl
        all_goals
          go_wp2_with fail
          have HAQ := HA5.out
          change bodyPost _ _ _ _ _ (w5.setCells A 0 [vi 0, .slice none 0 0, vi 0, vi 0, vi 0, vi c.e.txn, .bool c.e.commit, vi c.e.at_])
          obtain ⟨wz, hwz⟩ : ∃ wz, wz = w5.setCells A 0 [vi 0, .slice none 0 0, vi 0, vi 0, vi 0, vi c.e.txn, .bool c.e.commit, vi c.e.at_] := ⟨_, rfl⟩
          have HZC := Lib.hid (show wz.heap[A]? = some (.cells #[vi 0, .slice none 0 0, vi 0, vi 0, vi 0, vi c.e.txn, .bool c.e.commit, vi c.e.at_] 37) by rw [hwz]; exact setCells_all (cs := [vi 0, .slice none 0 0, vi 0, vi 0, vi 0, vi c.e.txn, .bool c.e.commit, vi c.e.at_]) HAQ rfl)
          rw [← hwz]
          have HWZ := Lib.hid hwz
          clear hwz x0 x1 x2 x3 x4 x5 x6 x7 xf
          have r0 : wz.cell? ⟨A, 0, none⟩ = some (vi 0) := by rw [Bt.cell_of HZC.out]; rfl
          have r1 : wz.cell? ⟨A, 1, none⟩ = some (.slice none 0 0) := by rw [Bt.cell_of HZC.out]; rfl
          have r2 : wz.cell? ⟨A, 2, none⟩ = some (vi 0) := by rw [Bt.cell_of HZC.out]; rfl
          have r3 : wz.cell? ⟨A, 3, none⟩ = some (vi 0) := by rw [Bt.cell_of HZC.out]; rfl
          have r4 : wz.cell? ⟨A, 4, none⟩ = some (vi 0) := by rw [Bt.cell_of HZC.out]; rfl
          have r5 : wz.cell? ⟨A, 5, none⟩ = some (vi c.e.txn) := by rw [Bt.cell_of HZC.out]; rfl
          have r6 : wz.cell? ⟨A, 6, none⟩ = some (.bool c.e.commit) := by rw [Bt.cell_of HZC.out]; rfl
          have r7 : wz.cell? ⟨A, 7, none⟩ = some (vi c.e.at_) := by rw [Bt.cell_of HZC.out]; rfl
          refine bodyPost_ret (v := ansV ⟨0, [], 0, 0, 0, c.e⟩ (.slice none 0 0)) (by simp [results, Try.results11, go_sem, ansV, ansC, r0, r1, r2, r3, r4, r5, r6, r7]) rfl ⟨⟨0, [], 0, 0, 0, c.e⟩, .slice none 0 0, now, K, R, E, putM D c.e.txn c.e, rfl, World.ownsRow_nil _ _ _ _, ?_, ?_, .inr ⟨.inr HOFF.out, rfl, rfl⟩, rfl, rfl, rfl, rfl⟩
          · refine H0.out.dec (by rw [HWZ.out]; exact dec_turns (HB3.out.trans (HB4.out.mono hBw)) HUP.out.2.1 (by rw [HAE.out]; exact Nat.le_refl _)) ?_
            rw [HWZ.out]
            exact HUP.out.1.dm.frame (setCells_other A _ 0 w5 md (fun e => by have := H0.out.dm.lt; have := HAE.out; omega))
          · refine Turns.mono (bs := [md]) ?_ (by simp)
            rw [HWZ.out]
            exact dec_turns (HB3.out.trans (HB4.out.mono hBw)) HUP.out.2.1 (by rw [HAE.out]; exact Nat.le_refl _)
      · have e0 : w4.cell? ⟨w3.heap.size, 0, none⟩ = some (vi ex.txn) := by rw [cell_of HBX.out]; rfl
        have e1 : w4.cell? ⟨w3.heap.size, 1, none⟩ = some (.bool ex.commit) := by rw [cell_of HBX.out]; rfl
        have e2 : w4.cell? ⟨w3.heap.size, 2, none⟩ = some (vi ex.at_) := by rw [cell_of HBX.out]; rfl
        have xf : ∀ o, w4.frozen? ⟨A, o, none⟩ = false := fun o => free_of HA4.out o
        have x0 : w4.cell? ⟨A, 0, none⟩ = some (vi 0) := by rw [Bt.cell_of HA4.out]; rfl
        have x1 : w4.cell? ⟨A, 1, none⟩ = some (.slice none 0 0) := by rw [Bt.cell_of HA4.out]; rfl
        have x2 : w4.cell? ⟨A, 2, none⟩ = some (vi 0) := by rw [Bt.cell_of HA4.out]; rfl
        have x3 : w4.cell? ⟨A, 3, none⟩ = some (vi 0) := by rw [Bt.cell_of HA4.out]; rfl
        have x4 : w4.cell? ⟨A, 4, none⟩ = some (vi 0) := by rw [Bt.cell_of HA4.out]; rfl
        have x5 : w4.cell? ⟨A, 5, none⟩ = some (vi 0) := by rw [Bt.cell_of HA4.out]; rfl
        have x6 : w4.cell? ⟨A, 6, none⟩ = some (.bool false) := by rw [Bt.cell_of HA4.out]; rfl
        have x7 : w4.cell? ⟨A, 7, none⟩ = some (vi 0) := by rw [Bt.cell_of HA4.out]; rfl
        go_wp2_with fail
        have HAQ := HA4.out
        change bodyPost _ _ _ _ _ (w4.setCells A 0 [vi 0, .slice none 0 0, vi 0, vi 0, vi 0, vi ex.txn, .bool ex.commit, vi ex.at_])
        obtain ⟨wz, hwz⟩ : ∃ wz, wz = w4.setCells A 0 [vi 0, .slice none 0 0, vi 0, vi 0, vi 0, vi ex.txn, .bool ex.commit, vi ex.at_] := ⟨_, rfl⟩
        have HZC := Lib.hid (show wz.heap[A]? = some (.cells #[vi 0, .slice none 0 0, vi 0, vi 0, vi 0, vi ex.txn, .bool ex.commit, vi ex.at_] 37) by rw [hwz]; exact setCells_all (cs := [vi 0, .slice none 0 0, vi 0, vi 0, vi 0, vi ex.txn, .bool ex.commit, vi ex.at_]) HAQ rfl)
        rw [← hwz]
        have HWZ := Lib.hid hwz
        clear hwz x0 x1 x2 x3 x4 x5 x6 x7 xf
        have r0 : wz.cell? ⟨A, 0, none⟩ = some (vi 0) := by rw [Bt.cell_of HZC.out]; rfl
        have r1 : wz.cell? ⟨A, 1, none⟩ = some (.slice none 0 0) := by rw [Bt.cell_of HZC.out]; rfl
        have r2 : wz.cell? ⟨A, 2, none⟩ = some (vi 0) := by rw [Bt.cell_of HZC.out]; rfl
        have r3 : wz.cell? ⟨A, 3, none⟩ = some (vi 0) := by rw [Bt.cell_of HZC.out]; rfl
        have r4 : wz.cell? ⟨A, 4, none⟩ = some (vi 0) := by rw [Bt.cell_of HZC.out]; rfl
        have r5 : wz.cell? ⟨A, 5, none⟩ = some (vi ex.txn) := by rw [Bt.cell_of HZC.out]; rfl
        have r6 : wz.cell? ⟨A, 6, none⟩ = some (.bool ex.commit) := by rw [Bt.cell_of HZC.out]; rfl
        have r7 : wz.cell? ⟨A, 7, none⟩ = some (vi ex.at_) := by rw [Bt.cell_of HZC.out]; rfl
        refine bodyPost_ret (v := ansV ⟨0, [], 0, 0, 0, ex⟩ (.slice none 0 0)) (by simp [results, Try.results11, go_sem, ansV, ansC, r0, r1, r2, r3, r4, r5, r6, r7]) rfl ⟨⟨0, [], 0, 0, 0, ex⟩, .slice none 0 0, now, K, R, E, D, rfl, World.ownsRow_nil _ _ _ _, H0.out.later (by rw [HWZ.out]; exact ans_below0 (HB3.out.trans (HB4.out.mono hBw)) (by rw [HAE.out]; exact Nat.le_refl _)), Turns.below (by rw [HWZ.out]; exact ans_below0 (HB3.out.trans (HB4.out.mono hBw)) (by rw [HAE.out]; exact Nat.le_refl _)), .inl ⟨ex, endsSome HBE.out HEX.out, HOFF.out, rfl, rfl⟩, rfl, rfl, rfl, rfl⟩
end Go.Proofs.Ytdkkpkgfiodlbaa

/- shard.New; the law's head. -/
namespace Go.Proofs.Ytdkkpkgfiodlbaa
open Go.RowKit Go.Maps

def ShNewQ (w : World) (serial : Bool) (bugs stamps : Int) (e : Ending) (w' : World) : Prop := ∃ p ps mk mr me md, e = .returned (.pointer (some ⟨p, 0, none⟩)) ∧ ShS w.heap.size p ps mk mr me md serial bugs stamps 0 [] [] [] [] w' ∧ Below w.heap.size w w'
set_option maxRecDepth 100000 in
set_option maxHeartbeats 1000000 in
theorem shNew_call (serial : Bool) (bugs stamps : Int) (w : World) : Calls Try.prog 9 #[.bool serial, vi bugs, vi stamps] w (ShNewQ w serial bugs stamps) := by
  have hmm := @run_makeMap Try.prog
  go_enter Try.func9, Try.ntmps9
  go_wp2_with (go_at_call 28; refine (new_call serial bugs w).mono ?_; rintro e1 w1 ⟨ps, mk, mr, me, rfl, hm1, hb1⟩; have HM1 := Lib.hid hm1; have HB1 := Lib.hid hb1; clear hm1 hb1)
  go_ret
  have h2 : MapE (w1.alloc (.map #[] 0)) w1.heap.size [] := MapT.made w1
  have hb2 : Below w1.heap.size w1 (w1.alloc (.map #[] 0)) := (Below.refl _ _).alloc (Nat.le_refl _) _
  have hb3 : Below (w1.alloc (.map #[] 0)).heap.size (w1.alloc (.map #[] 0)) ((w1.alloc (.map #[] 0)).alloc (.cells #[.pointer (some ⟨ps, 0, none⟩), vi bugs, vi stamps, vi 0, .map (some w1.heap.size)] 84)) := (Below.refl _ _).alloc (Nat.le_refl _) _
  have hs := HB1.out.size
  have hs2 : (w1.alloc (.map #[] 0)).heap.size = w1.heap.size + 1 := by simp
  have ha := Bt.alloc_at (w1.alloc (.map #[] 0)) (.cells #[.pointer (some ⟨ps, 0, none⟩), vi bugs, vi stamps, vi 0, .map (some w1.heap.size)] 84)
  rw [hs2] at ha
  refine ⟨w1.heap.size + 1, ps, mk, mr, me, w1.heap.size, rfl, ⟨ha, (HM1.out.later hb2).later hb3, h2.below hb3 (by rw [hs2]; omega), by omega, hs, ?_, ?_, ?_⟩, (HB1.out.trans (hb2.mono hs)).trans (hb3.mono (by omega))⟩
  · have := HM1.out.keys.lt; omega
  · have := HM1.out.ready.lt; omega
  · have := HM1.out.ends.lt; omega
/-- Where nobody waits and no value is kept, the time may be another one. -/
theorem ShS.sep0 {base p ps mk mr me md : Nat} {serial : Bool} {bugs stamps now : Int} {E D : EndL} {w : World} (h : ShS base p ps mk mr me md serial bugs stamps now [] [] E D w) (x : Int) : MvS base ps mk mr me serial bugs [] [] E (w.setCell ⟨p, 3, none⟩ (vi x)) := by
  have hg := gro_setP (o := 3) (gro_refl w (some p)) (vi x)
  have hne : ∀ {m : Nat}, (∃ es c, w.heap[m]? = some (.map es c)) → some m ≠ some p := fun ⟨es, c, ho⟩ e => by
    have := h.blk
    rw [← Option.some.inj e, ho] at this; cases this
  have hps : ps ≠ p := fun e => by
    have h1 := h.st.blk
    rw [e, h.blk] at h1
    have h2 := Option.some.inj h1
    cases h2
  exact ⟨Bt.cells_other _ h.st.blk hps, h.st.keys.kept hg (hne h.st.keys.obj), h.st.ready.kept hg (hne h.st.ready.obj), h.st.ends.kept hg (hne h.st.ends.obj), (fun y hy => by cases hy), (fun y hy => by cases hy), h.st.bp, h.st.bk, h.st.br, h.st.be, h.st.kr, h.st.ke, h.st.re⟩
/-- The shard's own blocks lie ahead of a place. -/
structure ShB (N p mk mr me md : Nat) : Prop where
  hp : p < N
  hk : mk < N
  hr : mr < N
  he : me < N
  hd : md < N
theorem ShS.bnd {base p ps mk mr me md : Nat} {serial : Bool} {bugs stamps now : Int} {K : KeysL} {R : RdyL} {E D : EndL} {w : World} (h : ShS base p ps mk mr me md serial bugs stamps now K R E D w) : ShB w.heap.size p mk mr me md :=
  ⟨(Array.getElem?_eq_some_iff.1 h.blk).1, h.st.keys.lt, h.st.ready.lt, h.st.ends.lt, h.dm.lt⟩
theorem ShB.mono {N M p mk mr me md : Nat} (h : ShB N p mk mr me md) (hN : N ≤ M) : ShB M p mk mr me md := ⟨by have := h.hp; omega, by have := h.hk; omega, by have := h.hr; omega, by have := h.he; omega, by have := h.hd; omega⟩
theorem ShB.out {N p mk mr me md g : Nat} (h : ShB N p mk mr me md) (hg : N ≤ g) : g ∉ [p, md, mk, mr, me] := by
  have := h.hp; have := h.hk; have := h.hr; have := h.he; have := h.hd
  simp; omega
theorem own_turns {A B : World} {b e size n N p mk mr me md : Nat} {v : Value} {xs : List Value} (h : A.ownsRow b e size v n xs) (hT : Turns [p, md, mk, mr, me] A B) (hB : ShB N p mk mr me md) (hb : N ≤ b) : B.ownsRow b e size v n xs :=
  Bt.own_frame h (fun g hg => hT.block g (h.lt g hg).2 (hB.out (Nat.le_trans hb (h.lt g hg).1)))
theorem ShS.bases {base p ps mk mr me md : Nat} {serial : Bool} {bugs stamps now : Int} {K : KeysL} {R : RdyL} {E D : EndL} {w : World} (h : ShS base p ps mk mr me md serial bugs stamps now K R E D w) : ∀ k ∈ [p, md, mk, mr, me], base ≤ k := by
  intro k hk
  simp at hk
  rcases hk with rfl | rfl | rfl | rfl | rfl
  · exact h.bp
  · exact h.bd
  · exact h.st.bk
  · exact h.st.br
  · exact h.st.be
theorem rdOps_nil (w : World) : RdOps w (.slice none 0 0) [] := ⟨none, 0, 0, rfl, rfl, by simp, Nat.le_refl _, fun _ => ⟨rfl, rfl⟩, fun j x hj => by simp at hj⟩
theorem rdInts_nil (w : World) : RdInts w (.slice none 0 0) [] := ⟨none, 0, 0, rfl, rfl, by simp, Nat.le_refl _, fun _ => ⟨rfl, rfl⟩, fun j x hj => by simp at hj⟩
/-- A command without lists. -/
abbrev bareC (k : Int) (e : EndM) : Cmd21 := ⟨k, ⟨0, 0, 0, [], []⟩, e⟩
theorem bareI {k : Int} {e : EndM} (hk : IntOk k) (he : EndI e) : CmdI (bareC k e) :=
  ⟨hk, ⟨(by show i64 0; unfold i64; omega), (by show i64 0; unfold i64; omega), (by show i64 0; unfold i64; omega), (fun o h => by cases h), (fun o h => by cases h)⟩, he, by simp, by simp⟩
theorem bareBytes_call (k : Int) (e : EndM) (w : World) (hk : IntOk k) (he : EndI e) :
    Calls Try.prog 12 #[.agg #[vi k, vi 0, vi 0, vi 0, .slice none 0 0, .slice none 0 0, vi e.txn, .bool e.commit, vi e.at_]] w (BytesQ (cmdL (bareC k e)) w) :=
  cmdBytes_call (bareC k e) (.slice none 0 0) (.slice none 0 0) w ⟨rdOps_nil w, rdInts_nil w⟩ (bareI hk he)
end Go.Proofs.Ytdkkpkgfiodlbaa

/- (*mvcc.Store).Finish. -/
namespace Go.Proofs.Ytdkkpkgfiodlbaa
open Go.RowKit Go.Shelf Go.Maps

def FinQ (base p mk mr me : Nat) (serial : Bool) (bugs : Int) (K : KeysL) (R : RdyL) (E : EndL) (x : EndM) (w : World) (e : Ending) (w' : World) : Prop :=
  ∃ K' R' E', e = .returned (vi 0) ∧ FinM K R E x K' R' E' ∧ MvS base p mk mr me serial bugs K' R' E' w' ∧ Turns [mk, mr, me] w w'
/-- .. and the rows of versions that are new lie in memory of the call's own. -/
def FinQ2 (base p mk mr me : Nat) (serial : Bool) (bugs : Int) (K : KeysL) (R : RdyL) (E : EndL) (x : EndM) (w : World) (e : Ending) (w' : World) : Prop :=
  ∃ K' R' E', e = .returned (vi 0) ∧ FinM K R E x K' R' E' ∧ MvS base p mk mr me serial bugs K' R' E' w' ∧ Turns [mk, mr, me] w w' ∧ ∀ y ∈ K', y ∈ K ∨ OwV w.heap.size w' y.2.1 y.2.2
theorem own_solid' {A B : World} {base e size n : Nat} {v : Value} {xs : List Value} (h : A.ownsRow base e size v n xs) (hs : Solid A B) : B.ownsRow base e size v n xs := by
  refine ⟨h.1, ?_⟩
  rcases h.2 with h2 | ⟨g, cap, cur, hv, hg, hh, r⟩
  · exact .inl h2
  · exact .inr ⟨g, cap, cur, hv, hg, hs _ _ _ _ hh, r⟩
theorem new_rows {K Kk : KeysL} {B : Nat} {A W : World} {key : Int} {z : KV} (h : ∀ y ∈ Kk, y ∈ K ∨ OwV B A y.2.1 y.2.2) (hs : Solid A W) (hz : OwV B W z.1 z.2) : ∀ y ∈ putM Kk key z, y ∈ K ∨ OwV B W y.2.1 y.2.2 := by
  intro y hy
  have hm : y = (key, z) ∨ y ∈ Kk := by
    unfold putM at hy
    split at hy
    · obtain ⟨q, hq, rfl⟩ := List.mem_map.1 hy
      split
      · exact .inl rfl
      · exact .inr hq
    · rcases List.mem_append.1 hy with hy | hy
      · exact .inr hy
      · exact .inl (by simpa using hy)
  rcases hm with rfl | hm
  · exact .inr hz
  · rcases h y hm with h1 | h1
    · exact .inl h1
    · exact .inr (own_solid' h1 hs)
theorem same_rows {K Kk : KeysL} {B : Nat} {A W : World} (h : ∀ y ∈ Kk, y ∈ K ∨ OwV B A y.2.1 y.2.2) (hs : Solid A W) : ∀ y ∈ Kk, y ∈ K ∨ OwV B W y.2.1 y.2.2 := fun y hy => by
  rcases h y hy with h1 | h1
  · exact .inl h1
  · exact .inr (own_solid' h1 hs)

theorem own_rdv {w : World} {base : Nat} {v : Value} {l : List Ver} (h : OwV base w v l) (hi : ∀ x ∈ l, i64 x.1) : RdVer w v l := own_rds (enc := verV) (fun _ => rfl) h (fun x hx => ⟨rfl, hi x hx⟩)
theorem rdv_i64 {w : World} {v : Value} {l : List Ver} (h : RdVer w v l) : ∀ x ∈ l, i64 x.1 := fun x hx => by
  obtain ⟨a, n, c, -, -, -, h6⟩ := h.at
  obtain ⟨j, hj⟩ := List.mem_iff_getElem?.1 hx
  obtain ⟨b, off, -, -, -, hi⟩ := h6 j x hj
  exact hi

theorem flat_set : ∀ (l : List Ver) (i : Nat) (y z : Ver), l[i]? = some y → y.1 = z.1 → (l.flatMap verV).set (i * 2 + 1) (vi z.2) = (l.set i z).flatMap verV
  | [], i, y, z, h, _ => by simp at h
  | x :: l, 0, y, z, h, hz => by
    simp at h; subst h
    simp [verV, hz]
  | x :: l, i + 1, y, z, h, hz => by
    have ih := flat_set l i y z (by simpa using h) hz
    rw [List.set_cons_succ, List.flatMap_cons, List.flatMap_cons, ← ih, show (i + 1) * 2 + 1 = (i * 2 + 1) + 2 by omega]
    rfl
theorem own_some {w : World} {base e size n : Nat} {v : Value} {xs : List Value} (h : w.ownsRow base e size v n xs) (h0 : 0 < n) : ∃ g c, v = .slice (some ⟨g, 0, none⟩) n c := by
  rcases h.2 with ⟨hv, h0'⟩ | ⟨g, cap, cur, hv, _⟩
  · omega
  · exact ⟨g, cap, hv⟩

set_option maxRecDepth 100000 in
set_option maxHeartbeats 4000000 in
theorem finish_call2 {base p mk mr me : Nat} {serial : Bool} {bugs : Int} {K : KeysL} {R : RdyL} {E : EndL} (x : EndM) (w : World) (h : MvS base p mk mr me serial bugs K R E w) (ht : i64 x.txn) (ha : i64 x.at_)
    (hS : ∀ key, Srt (verOf K key)) (hL : ∀ key, (verOf K key).length ≤ 524288) (hW : ∀ y ∈ R, y.2.r.writes.length ≤ 524288 ∧ ∀ o ∈ y.2.r.writes, i64 o.key) :
    Calls Try.prog 32 #[.pointer (some ⟨p, 0, none⟩), endV x] w (FinQ2 base p mk mr me serial bugs K R E x w) := by
  have HB := Lib.hid ((Below.refl w.heap.size w).alloc (Nat.le_refl _) (.cells #[vi x.txn, .bool x.commit, vi x.at_] 31))
  have HX := Lib.hid (alloc_at w (.cells #[vi x.txn, .bool x.commit, vi x.at_] 31))
  have HM := Lib.hid h
  have HT := Lib.hid ht
  have HA := Lib.hid ha
  have HSO := Lib.hid hS
  have HLE := Lib.hid hL
  have HWR := Lib.hid hW
  clear h ht ha hS hL hW
  unfold endV
  go_enter Try.func32, Try.ntmps32
  go_upto_region 3 with fail
  generalize w.alloc (.cells #[vi x.txn, .bool x.commit, vi x.at_] 31) = w1 at *
  have HM1 := Lib.hid (HM.out.later HB.out)
  have p4 : w1.cell? ⟨p, 4, none⟩ = some (.map (some me)) := by rw [cell_of HM1.out.blk]; rfl
  have x0 : w1.cell? ⟨w.heap.size, 0, none⟩ = some (vi x.txn) := by rw [cell_of HX.out]; rfl
  obtain ⟨b, hb⟩ : ∃ b, (getM E x.txn).isSome = b := ⟨_, rfl⟩
  have HBE := Lib.hid hb
  have hS : ∀ w' : World, Below w1.heap.size w1 w' → w'.cell? ⟨p, 4, none⟩ = some (.map (some me)) ∧ w'.cell? ⟨w.heap.size, 0, none⟩ = some (vi x.txn) ∧ (Instr.lookup 44 (.map (some me)) (vi x.txn) true).run Try.prog w' = .ok (.tuple #[.agg #[vi ((getM E x.txn).getD ⟨0, false, 0⟩).txn, .bool ((getM E x.txn).getD ⟨0, false, 0⟩).commit, vi ((getM E x.txn).getD ⟨0, false, 0⟩).at_], .bool b]) w' := fun w' hw => by
    have := lookup_ends (HM1.out.later hw).ends HT.out
    rw [hb] at this
    exact ⟨cell_later hw p4, cell_later hw x0, this⟩
  generalize (getM E x.txn).getD ⟨0, false, 0⟩ = ex at *
  have HS := Lib.hid hS
  clear hb hS
  go_cut [6] (fun u wx => u = .bool b ∧ Below w1.heap.size w1 wx)
  case first =>
    go_region_held3 (fun w' : World => w'.cell? ⟨p, 4, none⟩ = some (.map (some me)) ∧ w'.cell? ⟨w.heap.size, 0, none⟩ = some (vi x.txn) ∧ (Instr.lookup 44 (.map (some me)) (vi x.txn) true).run Try.prog w' = .ok (.tuple #[.agg #[vi ex.txn, .bool ex.commit, vi ex.at_], .bool b]) w')
      (first | exact HS.out _ ((Below.refl _ _).drew) | exact HS.out _ (((Below.refl _ _).drew).alloc (Nat.le_refl _) _) | exact HS.out _ ((((Below.refl _ _).drew).alloc (Nat.le_refl _) _).setCell (Nat.le_refl _) _)) (fail)
    all_goals
      go_wp2_with fail
      go_meet
      exact ⟨rfl, by first | exact ((Below.refl _ _).alloc (Nat.le_refl _) _).drew | exact ((Below.refl _ _).drew).alloc (Nat.le_refl _) _⟩
  case rest =>
    obtain ⟨w2, rfl⟩ : ∃ w2 : World, w2 = wc := ⟨_, rfl⟩
    obtain ⟨rfl, hb2⟩ := hcut
    have HB2 := Lib.hid (HB.out.trans (hb2.mono HB.out.size))
    have HX2 := Lib.hid ((hb2.block w.heap.size (Array.getElem?_eq_some_iff.1 HX.out).1).trans HX.out)
    clear hb2 p4 x0 HS HX HM1 ex
    cases b
    rotate_left
    · go_wp2_with fail
      go_ret
      exact ⟨K, R, E, rfl, .inl ⟨HBE.out, rfl, rfl, rfl⟩, HM.out.later HB2.out, Turns.below HB2.out, fun y hy => .inl hy⟩
    have HM2 := Lib.hid (HM.out.later HB2.out)
    have p3 : w2.cell? ⟨p, 3, none⟩ = some (.map (some mr)) := by rw [cell_of HM2.out.blk]; rfl
    have x0 : w2.cell? ⟨w.heap.size, 0, none⟩ = some (vi x.txn) := by rw [cell_of HX2.out]; rfl
    obtain ⟨b, hb⟩ : ∃ b, (getM R x.txn).isSome = b := ⟨_, rfl⟩
    have HBR := Lib.hid hb
    obtain ⟨z1, z2, z3, a, n, c, a', n', c', hz⟩ := rdy_slices HM2.out x.txn
    have HZ := Lib.hid hz
    have hS : ∀ w' : World, Below w2.heap.size w2 w' → w'.cell? ⟨p, 3, none⟩ = some (.map (some mr)) ∧ w'.cell? ⟨w.heap.size, 0, none⟩ = some (vi x.txn) ∧ (Instr.lookup 109 (.map (some mr)) (vi x.txn) true).run Try.prog w' = .ok (.tuple #[.agg #[vi z1, vi z2, vi z3, .slice a n c, .slice a' n' c'], .bool b]) w' := fun w' hw => by
      have := lookup_ready2 (HM2.out.later hw).ready HT.out
      rw [hb, hz] at this
      exact ⟨cell_later hw p3, cell_later hw x0, this⟩
    have HS := Lib.hid hS
    clear hb hS hz
    go_upto_region 6 with fail
    go_cut [7, 8] (fun v u wx => v = .pointer (some ⟨w2.heap.size, 0, none⟩) ∧ u = .bool b ∧ Below w2.heap.size w2 wx ∧ wx.heap[w2.heap.size]? = some (.cells #[vi z1, vi z2, vi z3, .slice a n c, .slice a' n' c'] 29))
    case first =>
      go_region_held3 (fun w' : World => w'.cell? ⟨p, 3, none⟩ = some (.map (some mr)) ∧ w'.cell? ⟨w.heap.size, 0, none⟩ = some (vi x.txn) ∧ (Instr.lookup 109 (.map (some mr)) (vi x.txn) true).run Try.prog w' = .ok (.tuple #[.agg #[vi z1, vi z2, vi z3, .slice a n c, .slice a' n' c'], .bool b]) w')
        (first | exact HS.out _ ((Below.refl _ _).drew) | exact HS.out _ (((Below.refl _ _).drew).alloc (Nat.le_refl _) _) | exact HS.out _ ((((Below.refl _ _).drew).alloc (Nat.le_refl _) _).setCell (Nat.le_refl _) _)) (fail)
      all_goals
        go_wp2_with fail
        go_meet
        exact ⟨rfl, rfl, by first | exact ((Below.refl _ _).alloc (Nat.le_refl _) _).drew | exact ((Below.refl _ _).drew).alloc (Nat.le_refl _) _, by first | exact alloc_at w2 _ | exact alloc_at w2.drew _⟩
    case rest =>
      obtain ⟨w3, rfl⟩ : ∃ w3 : World, w3 = wc := ⟨_, rfl⟩
      obtain ⟨rfl, rfl, hb3, hx3⟩ := hcut
      have HB3 := Lib.hid (HB2.out.trans (hb3.mono HB2.out.size))
      have HX3 := Lib.hid ((hb3.block w.heap.size (Array.getElem?_eq_some_iff.1 HX2.out).1).trans HX2.out)
      have HZ3 := Lib.hid hx3
      have hw2 := HB2.out.size
      clear hb3 hx3 p3 x0 HS HX2 HM2
      have x1 : w3.cell? ⟨w.heap.size, 1, none⟩ = some (.bool x.commit) := by rw [cell_of HX3.out]; rfl
      go_upto_region 7 with fail
      go_cut [41] (fun u wx => u = .bool (b && x.commit) ∧ wx = w3)
      case first =>
        cases b
        · go_wp2_with fail
          go_meet
          exact ⟨rfl, rfl⟩
        · go_wp2_with fail
          go_meet
          exact ⟨rfl, rfl⟩
      case rest =>
        obtain ⟨w4, rfl⟩ : ∃ w4 : World, w4 = wc := ⟨_, rfl⟩
        obtain ⟨rfl, hw4⟩ := hcut
        subst hw4
        clear x1
        obtain ⟨bc, hbc⟩ : ∃ bc, (b && x.commit) = bc := ⟨_, rfl⟩
        rw [hbc]
        have HBC := Lib.hid hbc
        clear hbc
        go_upto_if 41 with fail
        go_cut [] (fun wx => ∃ Kf, MvS base p mk mr me serial bugs Kf R E wx ∧ KFin K Kf x.at_ (writesOf R x) ∧ Turns [mk, mr, me] w wx ∧ wx.heap[w.heap.size]? = some (.cells #[vi x.txn, .bool x.commit, vi x.at_] 31) ∧ ∀ y ∈ Kf, y ∈ K ∨ OwV w.heap.size wx y.2.1 y.2.2)
        case first =>
          cases bc
          · go_wp2_with fail
            go_meet
            refine ⟨K, HM.out.later HB3.out, ?_, Turns.below HB3.out, HX3.out, fun y hy => .inl hy⟩
            have hn := HBC.out
            rw [Bool.and_eq_false_iff] at hn
            have : writesOf R x = [] := by
              unfold writesOf
              rcases hn with hn | hn
              · have := HBR.out
                rw [hn] at this
                cases hg : getM R x.txn with
                | none => simp
                | some y => rw [hg] at this; cases this
              · simp [hn]
            rw [this]
            exact KFin.nil _ _
          · have hn := HBC.out
            rw [Bool.and_eq_true] at hn
            obtain ⟨y, hy⟩ := Option.isSome_iff_exists.1 (HBR.out.trans hn.1)
            have hz := HZ.out
            rw [hy] at hz
            simp only [Option.getD_some, rdyV, rdyC, Value.agg.injEq] at hz
            simp at hz
            have hmem := getM_some hy
            have hws := (HM.out.rrow _ hmem).ws
            have hwl := (HWR.out _ hmem)
            have HWO := Lib.hid (show writesOf R x = y.r.writes by unfold writesOf; rw [hy, hn.2]; rfl)
            simp only at hws hwl
            rw [hz.2.2.2.1] at hws
            have HWS := Lib.hid hws
            obtain ⟨_, _, _, e5, hnl, hm63, -⟩ := hws.at
            cases e5
            subst hnl
            have hwl1 := hwl.1
            have HWK := Lib.hid hwl.2
            generalize y.r.writes = ops at *
            clear hn hy hz hmem hwl hws
            have z3 : w4.cell? ⟨w2.heap.size, 3, none⟩ = some (.slice a ops.length c) := by rw [cell_of HZ3.out]; rfl
            go_wp2_with fail
            go_loopw [45] (fun i wr => ∃ (k : Nat) (Kk : KeysL), k ≤ ops.length ∧ i = .int .i64 k ∧ Hid (MvS base p mk mr me serial bugs Kk R E wr ∧ KFin K Kk x.at_ (ops.take k) ∧ Turns [mk, mr, me] w4 wr ∧ Solid w4 wr) ∧ Hid (∀ y ∈ Kk, y ∈ K ∨ OwV w.heap.size wr y.2.1 y.2.2)) (fun i _ => ops.length - (intOf i).toNat)
            case atStart => exact ⟨0, K, Nat.zero_le _, rfl, Lib.hid ⟨HM.out.later HB3.out, by simpa using KFin.nil _ _, Turns.refl _ _, Solid.refl _⟩, Lib.hid (fun y hy => .inl hy)⟩
            case round =>
              obtain ⟨wj, rfl⟩ : ∃ wj : World, wj = wr := ⟨_, rfl⟩
              obtain ⟨k, Kk, hk, rfl, HJ, HJO⟩ := hrel
              by_cases hlt : k < ops.length
              · obtain ⟨o, ho⟩ := some_at hlt
                have hio := HWK.out o (List.mem_of_getElem? ho)
                obtain ⟨_, _, _, e5, -, -, hcl⟩ := ((HWS.out.later HB3.out).solid HJ.out.2.2.2).at
                cases e5
                obtain ⟨b0, off, rfl, k0, k1, k2⟩ := hcl k o ho
                have HO := Lib.hid ho
                have hki : (k : Int) < (ops.length : Int) := by omega
                have HIO := Lib.hid hio
                have HBA := Lib.hid ((Below.refl wj.heap.size wj).alloc (Nat.le_refl _) (.cells #[vi o.kind, vi o.key, vi o.val] 104))
                have HOA := Lib.hid (alloc_at wj (.cells #[vi o.kind, vi o.key, vi o.val] 104))
                have hwl2 : (ops.take k).length ≤ 524288 := by rw [List.length_take]; omega
                have hlen : (verOf Kk o.key).length ≤ 1048575 := by
                  rw [HJ.out.2.1 o.key]
                  have h1 := finV_len x.at_ o.key (ops.take k) (verOf K o.key)
                  have h2 := HLE.out o.key
                  have h3 : (ops.take k).length ≤ k := List.length_take_le _ _
                  have h4 : (ops.take k).length ≤ ops.length := by rw [List.length_take]; omega
                  omega
                have HSR := Lib.hid (show Srt (verOf Kk o.key) by rw [HJ.out.2.1 o.key]; exact finV_srt _ _ _ _ (HSO.out o.key))
                clear hcl ho hio z3 hwl2
                go_upto_region 11 with fail
                generalize wj.alloc (.cells #[vi o.kind, vi o.key, vi o.val] 104) = wA at *
                have HMA := Lib.hid (HJ.out.1.later HBA.out)
                have p2 : wA.cell? ⟨p, 2, none⟩ = some (.map (some mk)) := by rw [cell_of HMA.out.blk]; rfl
                have o1 : wA.cell? ⟨wj.heap.size, 1, none⟩ = some (vi o.key) := by rw [cell_of HOA.out]; rfl
                obtain ⟨av, nv, cv, hcv, hnv, hmv, -⟩ := (HMA.out.cur o.key).at
                have hnv' : nv = (verOf Kk o.key).length := hnv
                subst hnv'
                have hlk := lookup_keys (w := wA.drew) (HMA.out.keys.frame rfl) HIO.out
                rw [hcv] at hlk
                have HRV := Lib.hid (show RdVer wA (.slice av (verOf Kk o.key).length cv) (verOf Kk o.key) by have := HMA.out.cur o.key; rw [hcv] at this; exact this)
                obtain ⟨vs, hvs⟩ : ∃ vs, verOf Kk o.key = vs := ⟨_, rfl⟩
                rw [hvs] at hlk HRV hlen HSR
                have HVS := Lib.hid hvs
                clear hcv hnv hmv hvs
                go_cut [11] (fun v wx => v = .slice av vs.length cv ∧ Below wA.heap.size wA wx)
                case first =>
                  go_region_held3 (fun w' : World => w'.cell? ⟨p, 2, none⟩ = some (.map (some mk)) ∧ w'.cell? ⟨wj.heap.size, 1, none⟩ = some (vi o.key) ∧ (Instr.lookup 110 (.map (some mk)) (vi o.key) false).run Try.prog w' = .ok (.slice av vs.length cv) w')
                    (exact ⟨p2, o1, hlk⟩) (fail)
                  all_goals
                    go_wp2_with fail
                    go_meet
                    exact ⟨rfl, (Below.refl _ _).drew⟩
                case rest =>
                  obtain ⟨wB, rfl⟩ : ∃ wB : World, wB = wc := ⟨_, rfl⟩
                  obtain ⟨rfl, hbB⟩ := hcut
                  have HBB := Lib.hid (HBA.out.trans (hbB.mono HBA.out.size))
                  have HOB := Lib.hid ((hbB.block wj.heap.size (Array.getElem?_eq_some_iff.1 HOA.out).1).trans HOA.out)
                  have HMB := Lib.hid (HMA.out.later hbB)
                  have HRB := Lib.hid (HRV.out.later hbB)
                  have HXB := Lib.hid ((HBB.out.block w.heap.size (by have := (HJ.out.2.2.2 _ _ _ _ HX3.out); exact (Array.getElem?_eq_some_iff.1 this).1)).trans (HJ.out.2.2.2 _ _ _ _ HX3.out))
                  clear hbB hlk p2 o1 HMA HRV HBA HOA k0 k1 k2
                  have e2 : wB.cell? ⟨w.heap.size, 2, none⟩ = some (vi x.at_) := by rw [cell_of HXB.out]; rfl
                  go_wp2_with fail
                  refine (bin_call _ vs x.at_ wB HRB.out (by omega) (HSR.out.imp (fun h => Int.le_of_lt h))).mono ?_
                  rintro e wD ⟨i, rfl, hi, hlo, hhi, hbD⟩
                  have HINS := Lib.hid (insV_at vs x.at_ o.val i hi hlo hhi)
                  have HBD := Lib.hid (HBB.out.trans (hbD.mono HBB.out.size))
                  have HOD := Lib.hid ((hbD.block wj.heap.size (Array.getElem?_eq_some_iff.1 HOB.out).1).trans HOB.out)
                  have HMD := Lib.hid (HMB.out.later hbD)
                  have HRD := Lib.hid (HRB.out.later hbD)
                  have HXD := Lib.hid ((hbD.block w.heap.size (Array.getElem?_eq_some_iff.1 HXB.out).1).trans HXB.out)
                  clear hlo hhi hbD e2 HMB HRB HBB HOB HXB
                  obtain ⟨sb, hsb⟩ : ∃ sb, sameB vs i x.at_ = sb := ⟨_, rfl⟩
                  rw [hsb]
                  have HSB := Lib.hid hsb
                  clear hsb
                  dsimp only
                  go_upto_if 63 with fail
                  go_cut [11] (fun v wx => OwV wD.heap.size wx v (insV vs x.at_ o.val) ∧ Below wD.heap.size wD wx)
                  case first =>
                    cases sb
                    · have HINS2 := Lib.hid (show insV vs x.at_ o.val = vs.take i ++ (x.at_, o.val) :: vs.drop i by rw [HINS.out, HSB.out]; rfl)
                      have e2 : wD.cell? ⟨w.heap.size, 2, none⟩ = some (vi x.at_) := by rw [cell_of HXD.out]; rfl
                      have o2 : wD.cell? ⟨wj.heap.size, 2, none⟩ = some (vi o.val) := by rw [cell_of HOD.out]; rfl
                      have HS := Lib.hid (show ∀ w' : World, Below wD.heap.size wD w' → w'.cell? ⟨w.heap.size, 2, none⟩ = some (vi x.at_) ∧ w'.cell? ⟨wj.heap.size, 2, none⟩ = some (vi o.val) from fun w' hw => ⟨cell_later hw e2, cell_later hw o2⟩)
                      have HRA := Lib.hid (HRD.out.later ((Below.refl wD.heap.size wD).drew))
                      have HRB2 := Lib.hid (HRD.out.later (((Below.refl wD.heap.size wD).alloc (Nat.le_refl _) (.cells #[vi x.at_, vi o.val] 135)).drew))
                      clear e2 o2
                      go_upto_region 16 with fail
                      go_region_held3 (fun w' : World => w'.cell? ⟨w.heap.size, 2, none⟩ = some (vi x.at_) ∧ w'.cell? ⟨wj.heap.size, 2, none⟩ = some (vi o.val))
                        (first
                        | exact HS.out _ ((Below.refl _ _).drew)
                        | exact HS.out _ (((Below.refl _ _).alloc (Nat.le_refl _) _).drew)
                        | exact HS.out _ (((Below.refl _ _).drew).alloc (Nat.le_refl _) _)
                        | exact HS.out _ HBEA.out
                        | exact HS.out _ (HBEA.out.alloc HBEA.out.size _)
                        | exact HS.out _ HBEB.out
                        | exact HS.out _ HBF.out)
                        (first
                          | (go_at_call 70; (with_reducible refine (cloneV_call _ vs wD.drew HRA.out (by omega)).mono ?_); rintro e wE ⟨vE, rfl, hoE, hbE⟩; obtain ⟨aE, cE, rfl⟩ := own_shape hoE; have HOWA := Lib.hid (show OwV wD.heap.size wE _ vs from hoE); have HBEA := Lib.hid (((Below.refl wD.heap.size wD).drew).trans hbE); clear hoE hbE)
                          | (go_at_call 71; refine (insert_call (base := wD.heap.size) _ vs i (x.at_, o.val) wE.heap.size _ (HOWA.out.alloc _) (by omega) hi (by have := HBEA.out.size; simp; omega) (alloc_at _ _) (fun g hg => by have := (HOWA.out.lt g hg).2; omega)).mono ?_; rintro e wF ⟨vF, rfl, hoF, hgF⟩; have HOWF := Lib.hid hoF; have HBF := Lib.hid (show Below wD.heap.size wD wF from (HBEA.out.alloc HBEA.out.size _).grown hgF (by have := HBEA.out.size; simp; omega) (fun j hj => (HOWA.out.lt j hj).1)); clear hoF hgF)
                          | (go_at_call 70; refine (cloneV_call _ vs (wD.alloc (.cells #[vi x.at_, vi o.val] 135)).drew HRB2.out (by omega)).mono ?_; rintro e wE ⟨vE, rfl, hoE, hbE⟩; obtain ⟨aE, cE, rfl⟩ := own_shape hoE; have HOWB := Lib.hid (show OwV (wD.heap.size + 1) wE _ vs from own_mono hoE (by simp)); have HVB := Lib.hid ((hbE.block wD.heap.size (by simp)).trans (alloc_at wD (.cells #[vi x.at_, vi o.val] 135))); have HBEB := Lib.hid ((((Below.refl wD.heap.size wD).alloc (Nat.le_refl _) _).drew).trans (hbE.mono (by simp))); clear hoE hbE)
                          | (go_at_call 71; refine (insert_call (base := wD.heap.size) _ vs i (x.at_, o.val) wD.heap.size wE (own_mono HOWB.out (by omega)) (by omega) hi HBEB.out.size HVB.out (fun g hg => by have := (HOWB.out.lt g hg).1; omega)).mono ?_; rintro e wF ⟨vF, rfl, hoF, hgF⟩; have HOWF := Lib.hid hoF; have HBF := Lib.hid (show Below wD.heap.size wD wF from HBEB.out.grown hgF HBEB.out.size (fun j hj => by have := (HOWB.out.lt j hj).1; omega)); clear hoF hgF))
                      all_goals
                        go_wp2_with fail
                        go_meet
                        exact ⟨by rw [HINS2.out]; exact HOWF.out, HBF.out⟩
                    · have HINS2 := Lib.hid (show insV vs x.at_ o.val = vs.set i (x.at_, o.val) by rw [HINS.out, HSB.out]; rfl)
                      obtain ⟨y, hy, hyt⟩ : ∃ y, vs[i]? = some y ∧ y.1 = x.at_ := by
                        have := HSB.out
                        unfold sameB at this
                        cases hy : vs[i]? with
                        | none => simp [hy] at this
                        | some y => exact ⟨y, rfl, by simpa [hy] using this⟩
                      have HFS := Lib.hid (flat_set vs i y (x.at_, o.val) hy hyt)
                      have hil : i < vs.length := (List.getElem?_eq_some_iff.1 hy).1
                      have HFA := Lib.hid (flat_at verV 2 (fun _ => rfl) vs i 1 y (vi y.2) hy rfl)
                      have o2 : wD.cell? ⟨wj.heap.size, 2, none⟩ = some (vi o.val) := by rw [cell_of HOD.out]; rfl
                      have hiI : (i : Int) < (vs.length : Int) := by omega
                      clear hy hyt
                      go_wp2_with (go_at_call 70; refine (cloneV_call _ vs wD HRD.out (by omega)).mono ?_; rintro e wE ⟨vE, rfl, hoE, hbE⟩; obtain ⟨gE, cE, rfl⟩ := own_some hoE (by omega); have HOE := Lib.hid hoE; have HBE2 := Lib.hid hbE; have g1 : wE.cell? ⟨gE, i * 2 + 1, none⟩ = some (vi y.2) := (by rw [World.ownsRow.cellAt hoE (i * 2 + 1) (by omega)]; exact HFA.out); have f1 : wE.frozen? ⟨gE, i * 2 + 1, none⟩ = false := World.ownsRow.frozenAt hoE _; have o2' := cell_later hbE o2; clear hoE hbE)
                      go_meet
                      have hst := World.ownsRow.stored HOE.out (i * 2 + 1) (vi o.val)
                      refine ⟨?_, HBE2.out.grown hst.2 HBE2.out.size (fun j hj => by cases hj; exact (HOE.out.lt gE rfl).1)⟩
                      rw [HINS2.out]
                      unfold OwV
                      rw [List.length_set, ← HFS.out]
                      exact hst.1
                  case rest =>
                    obtain ⟨wF, rfl⟩ : ∃ wF : World, wF = wc := ⟨_, rfl⟩
                    obtain ⟨howF, hbF⟩ := hcut
                    obtain ⟨aF, cF, rfl⟩ := own_shape howF
                    have hiv : ∀ q ∈ insV vs x.at_ o.val, i64 q.1 := fun q hq => by
                      rcases insV_mem hq with rfl | hq
                      · exact HA.out
                      · exact rdv_i64 HRD.out q hq
                    have HRF := Lib.hid (show RdVer wF.drew _ _ from (own_rdv howF hiv).later ((Below.refl _ _).drew))
                    have HBG := Lib.hid (HBD.out.trans (hbF.mono HBD.out.size))
                    have HOF := Lib.hid ((hbF.block wj.heap.size (Array.getElem?_eq_some_iff.1 HOD.out).1).trans HOD.out)
                    have HMF := Lib.hid ((HMD.out.later hbF).later ((Below.refl wF.heap.size wF).drew))
                    have HOWG := Lib.hid howF
                    have hwD0 := HBD.out.size
                    clear howF hbF hiv HRD HMD HOD HXD
                    obtain ⟨wG, hup, HUP⟩ := put_keys (y := (_, insV vs x.at_ o.val)) HMF.out HIO.out HRF.out
                    have p2 : wF.cell? ⟨p, 2, none⟩ = some (.map (some mk)) := by show wF.drew.cell? _ = _; rw [cell_of HMF.out.blk]; rfl
                    have o1 : wF.cell? ⟨wj.heap.size, 1, none⟩ = some (vi o.key) := by rw [cell_of HOF.out]; rfl
                    go_upto_region 17 with fail
                    go_region_held3 (fun w' : World => w'.cell? ⟨p, 2, none⟩ = some (.map (some mk)) ∧ w'.cell? ⟨wj.heap.size, 1, none⟩ = some (vi o.key))
                      (first | exact ⟨p2, o1⟩ | exact ⟨HUP.out.2.2.cell (show wF.drew.cell? _ = _ from p2), HUP.out.2.2.cell (show wF.drew.cell? _ = _ from o1)⟩) (fail)
                    all_goals
                      go_wp2_with fail
                      go_roundw
                      case rel =>
                        refine ⟨k + 1, _, by omega, by go_num, Lib.hid ⟨HUP.out.1, ?_, ?_, ?_⟩, Lib.hid (new_rows HJO.out ((Solid.below (HBG.out.drew)).trans HUP.out.2.2) (own_solid' (own_mono HOWG.out (by have := HB3.out.size; have := HJ.out.2.2.1.size; omega)) ((Solid.below ((Below.refl wF.heap.size wF).drew)).trans HUP.out.2.2)))⟩
                        · have := HJ.out.2.1.snoc o (.slice aF (insV vs x.at_ o.val).length cF)
                          rw [HVS.out] at this
                          have ht := take_at HO.out
                          rw [ht]
                          exact this
                        · exact (HJ.out.2.2.1.later (HBG.out.drew)).trans HUP.out.2.1
                        · exact (HJ.out.2.2.2.later (HBG.out.drew)).trans HUP.out.2.2
                      case measure => simp [intOf]; omega
              · obtain rfl : k = ops.length := by omega
                go_wp2_with fail
                go_meet
                have hJ := HJ.out
                rw [List.take_length] at hJ
                exact ⟨Kk, hJ.1, by rw [HWO.out]; exact hJ.2.1, (Turns.below HB3.out).trans hJ.2.2.1, hJ.2.2.2 _ _ _ _ HX3.out, HJO.out⟩
        case rest =>
          obtain ⟨w5, rfl⟩ : ∃ w5 : World, w5 = wc := ⟨_, rfl⟩
          obtain ⟨Kf, hm5, hk5, ht5, hx5, ho5⟩ := hcut
          have HM5 := Lib.hid (hm5.later ((Below.refl w5.heap.size w5).drew))
          have HK5 := Lib.hid hk5
          have HO5 := Lib.hid ho5
          clear ho5
          have HT5 := Lib.hid (ht5.later ((Below.refl w5.heap.size w5).drew))
          obtain ⟨w6, hdel, HDEL⟩ := del_ready HM5.out HT.out 0
          have p3 : w5.cell? ⟨p, 3, none⟩ = some (.map (some mr)) := by rw [cell_of hm5.blk]; rfl
          have x0 : w5.cell? ⟨w.heap.size, 0, none⟩ = some (vi x.txn) := by rw [cell_of hx5]; rfl
          have HX6 := Lib.hid (HDEL.out.2.2 _ _ _ _ (show w5.drew.heap[w.heap.size]? = _ from hx5))
          clear hm5 hk5 ht5 hx5 HX3 HZ3 HM
          go_upto_region 19 with fail
          go_cut [] (fun wx => wx = w6)
          case first =>
            go_region_held3 (fun w' : World => w'.cell? ⟨p, 3, none⟩ = some (.map (some mr)) ∧ w'.cell? ⟨w.heap.size, 0, none⟩ = some (vi x.txn))
              (first | exact ⟨p3, x0⟩ | exact ⟨HDEL.out.2.2.cell (show w5.drew.cell? _ = _ from p3), HDEL.out.2.2.cell (show w5.drew.cell? _ = _ from x0)⟩) (fail)
            all_goals
              go_wp2_with fail
              go_meet
              rfl
          case rest =>
            obtain ⟨w7, rfl⟩ : ∃ w7 : World, w7 = wc := ⟨_, rfl⟩
            subst hcut
            clear hdel p3 x0
            have HM7 := Lib.hid (HDEL.out.1.later ((Below.refl w7.heap.size w7).drew))
            obtain ⟨w8, hup, HUP⟩ := put_ends (y := x) HM7.out HT.out
            have p4 : w7.cell? ⟨p, 4, none⟩ = some (.map (some me)) := by rw [cell_of HDEL.out.1.blk]; rfl
            have x0 : w7.cell? ⟨w.heap.size, 0, none⟩ = some (vi x.txn) := by rw [cell_of HX6.out]; rfl
            have x1 : w7.cell? ⟨w.heap.size, 1, none⟩ = some (.bool x.commit) := by rw [cell_of HX6.out]; rfl
            have x2 : w7.cell? ⟨w.heap.size, 2, none⟩ = some (vi x.at_) := by rw [cell_of HX6.out]; rfl
            go_upto_region 20 with fail
            go_region_held3 (fun w' : World => w'.cell? ⟨p, 4, none⟩ = some (.map (some me)) ∧ w'.cell? ⟨w.heap.size, 0, none⟩ = some (vi x.txn) ∧ w'.cell? ⟨w.heap.size, 1, none⟩ = some (.bool x.commit) ∧ w'.cell? ⟨w.heap.size, 2, none⟩ = some (vi x.at_))
              (first | exact ⟨p4, x0, x1, x2⟩ | exact ⟨HUP.out.2.2.cell (show w7.drew.cell? _ = _ from p4), HUP.out.2.2.cell (show w7.drew.cell? _ = _ from x0), HUP.out.2.2.cell (show w7.drew.cell? _ = _ from x1), HUP.out.2.2.cell (show w7.drew.cell? _ = _ from x2)⟩) (fail)
            all_goals
              go_wp2_with fail
              go_ret
              exact ⟨Kf, delM R x.txn, putM E x.txn x, rfl, .inr ⟨HBE.out, rfl, rfl, HK5.out⟩, HUP.out.1, ((HT5.out.trans HDEL.out.2.1).later ((Below.refl w7.heap.size w7).drew)).trans HUP.out.2.1, same_rows HO5.out (((Solid.below ((Below.refl w5.heap.size w5).drew)).trans HDEL.out.2.2).trans ((Solid.below ((Below.refl w7.heap.size w7).drew)).trans HUP.out.2.2))⟩
theorem finish_call {base p mk mr me : Nat} {serial : Bool} {bugs : Int} {K : KeysL} {R : RdyL} {E : EndL} (x : EndM) (w : World) (h : MvS base p mk mr me serial bugs K R E w) (ht : i64 x.txn) (ha : i64 x.at_)
    (hS : ∀ key, Srt (verOf K key)) (hL : ∀ key, (verOf K key).length ≤ 524288) (hW : ∀ y ∈ R, y.2.r.writes.length ≤ 524288 ∧ ∀ o ∈ y.2.r.writes, i64 o.key) :
    Calls Try.prog 32 #[.pointer (some ⟨p, 0, none⟩), endV x] w (FinQ base p mk mr me serial bugs K R E x w) :=
  (finish_call2 x w h ht ha hS hL hW).mono fun _ _ ⟨K', R', E', h1, h2, h3, h4, _⟩ => ⟨K', R', E', h1, h2, h3, h4⟩
end Go.Proofs.Ytdkkpkgfiodlbaa
