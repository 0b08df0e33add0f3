import Derived.Test.YtafboehdihokhaaRefS
namespace Go.Proofs.Ytafboehdihokhaa
open Go.RowKit Go.Maps

theorem Try.infoRc : (Try.prog.info? 33).map (fun i => (i.zero, i.size, i.bytes)) = some (some (.agg #[vi 0, vi 0, vi 0, vi 0]), 4, 32) := by kernel_rfl
theorem eltRc : Elt Try.prog 29 33 4 32 (.agg #[vi 0, vi 0, vi 0, vi 0]) := by
  obtain ⟨i0, hi, hz0, hz1, hz2⟩ := info_parts Try.infoRc
  exact ⟨Try.underlying29, by decide, rfl, i0, hi, hz0, hz1, hz2⟩

/-- Rows of two kinds lie in two blocks. -/
theorem own_apart {w : World} {b b' e e' m m' n n' : Nat} {v v' : Value} {xs xs' : List Value} (h : w.ownsRow b e m v n xs) (h' : w.ownsRow b' e' m' v' n' xs') (he : e ≠ e') : v'.ownBlock = none ∨ v'.ownBlock ≠ v.ownBlock := by
  rcases h'.2 with ⟨hv', _⟩ | ⟨g', cap', cur', hv', _, hh', _⟩
  · left; rw [hv']; rfl
  · right
    rcases h.2 with ⟨hv, _⟩ | ⟨g, cap, cur, hv, _, hh, _⟩
    · rw [hv, hv']; simp [Value.ownBlock]
    · rw [hv, hv']
      intro e1
      have : g' = g := by simpa [Value.ownBlock] using e1
      subst this
      rw [hh] at hh'
      simp at hh'
      exact he hh'.2

/-- What crucibleref09.Choices keeps of memory. -/
structure StC (w : World) (vs : Value) (S : List Bool) (v : Value) (L : List GChoice) (W : World) : Prop where
  out : OwCh 33 w.heap.size W v L
  row : OwBs w.heap.size W vs S
  below : Below w.heap.size w W
theorem StC.later {w A B : World} {vs v : Value} {S : List Bool} {L : List GChoice} (h : StC w vs S v L A) (hb : Below A.heap.size A B) : StC w vs S v L B :=
  ⟨own_below h.out hb, own_below h.row hb, h.below.trans (hb.mono h.below.size)⟩
theorem StC.app {w A B : World} {vs v v' : Value} {S : List Bool} {L L' : List GChoice} (h : StC w vs S v L A) (hg : A.grownBy B v.ownBlock) (ho : OwCh 33 w.heap.size B v' L') : StC w vs S v' L' B :=
  ⟨ho, World.ownsRow.kept h.row hg (own_apart h.out h.row (by decide)), h.below.grown hg h.below.size (fun j hj => (World.ownsRow.lt h.out j hj).1)⟩
theorem StC.more {w A : World} {vs v : Value} {S : List Bool} {L : List GChoice} (h : StC w vs S v L A) (o : Obj) : StC w vs S v L (A.alloc o) := h.later ((Below.refl _ _).alloc (Nat.le_refl _) _)
theorem OwBs.at {base : Nat} {w : World} {v : Value} {L : List Bool} (h : OwBs base w v L) : ∃ a cap, v = .slice a L.length cap ∧ ∀ j x, L[j]? = some x → ∃ b off, a = some ⟨b, off, none⟩ ∧ w.cell? ⟨b, off + j, none⟩ = some (.bool x) := by
  obtain ⟨a, len, cap, h1, h2, h3, h4, h5, h6⟩ := rds_of_own (V := bV) (fun _ => rfl) h
  subst h2
  refine ⟨a, cap, h1, fun j x hj => ?_⟩
  obtain ⟨b, off, cs, ha, hl, hc, rfl⟩ := h6 j x hj
  exact ⟨b, off, ha, by simpa using hc 0 _ rfl⟩

/-- crucibleref09.Choices. -/
def refChoicesM (ts : List GTxn) : List GChoice := cmS (refSureN ts ts.length) ts ts.length ++ befK ts 16

set_option maxRecDepth 100000 in
set_option maxHeartbeats 4000000 in
theorem refChoices_call (v : Value) (ts : List GTxn) (w : World) (hv : RdTxns w v ts) (hok : OkTxns ts) (htl : ts.length ≤ 4096) :
    Calls Try.prog 11 #[v] w fun e w' => ∃ v', e = .returned v' ∧ OwCh 33 w.heap.size w' v' (refChoicesM ts) ∧ Below w.heap.size w w' := by
  have HV := Lib.hid hv
  have HOK := Lib.hid hok
  obtain ⟨a, len, cap, rfl, rfl, hm, -⟩ := hv.at
  clear hv hok
  have hB0 := (Below.refl w.heap.size w).alloc (Nat.le_refl _) (.cells #[] 33)
  have hO0 := World.ownsRow_lit (base := w.heap.size) (e := 33) (size := 4) w #[] 0 (Nat.le_refl _) (by simp [maxLen]) rfl
  have HB0 := Lib.hid hB0
  have HO0 := Lib.hid hO0
  clear hB0 hO0
  go_enter Try.func11, Try.ntmps11
  go_wp2_with (go_at_call 29; refine (refSure_call _ _ _ (HV.out.later HB0.out) HOK.out).mono ?_; rintro e w1 ⟨vs, rfl, hS, hb1⟩; obtain ⟨sa, sc, hvs, -⟩ := OwBs.at hS; rw [refSureN_length] at hvs; subst hvs)
  have HST := Lib.hid (show StC w (.slice sa ts.length sc) (refSureN ts ts.length) (.slice (some ⟨w.heap.size, 0, none⟩) 0 0) [] w1 from ⟨own_below HO0.out hb1, own_mono hS (by simp), HB0.out.trans (hb1.mono HB0.out.size)⟩)
  have HCM := Lib.hid (show refChoicesM ts = cmS (refSureN ts ts.length) ts ts.length ++ befK ts 16 from rfl)
  have HRL := Lib.hid (refSureN_length ts ts.length)
  clear hS hb1
  generalize refSureN ts ts.length = S at *
  go_loopw [3, 5, 14] (fun v _ i wr => ∃ k : Nat, k ≤ ts.length ∧ i = .int .i64 k ∧ StC w (.slice sa ts.length sc) S v (cmS S ts k) wr) (fun _ _ i _ => ts.length - (intOf i).toNat)
  case atStart => exact ⟨0, Nat.zero_le _, rfl, HST.out⟩
  case round =>
    obtain ⟨wo, rfl⟩ : ∃ wo : World, wo = wr := ⟨_, rfl⟩
    obtain ⟨k, hk, rfl, hst⟩ := hrel
    have HT := Lib.hid hst
    have HW := Lib.hid hst.below
    have hws := hst.below.size
    by_cases hlt : k < ts.length
    · obtain ⟨t, ht⟩ := some_at hlt
      obtain ⟨_, _, _, e5, -, -, hcl⟩ := HV.out.at
      cases e5
      obtain ⟨b, off, oa, oc, rfl, hr, k0', k1', k2'⟩ := hcl k t ht
      have k0 := cell_later HW.out k0'
      have k1 := cell_later HW.out k1'
      have k2 := cell_later HW.out k2'
      obtain ⟨x, hx⟩ := some_at (l := S) (k := k) (by rw [HRL.out]; exact hlt)
      obtain ⟨_, _, e6, hsc⟩ := OwBs.at hst.row
      simp only [Value.slice.injEq] at e6
      obtain ⟨rfl, -, rfl⟩ := e6
      obtain ⟨sb, so, rfl, x0⟩ := hsc k x hx
      have HE := Lib.hid (show openB S k t = (t.state == 0 && !x && decide (0 < (writesM t.ops).length)) by unfold openB; rw [hx]; rfl)
      have HN := Lib.hid (cmS_succ (S := S) ht)
      have HR := Lib.hid (hr.later HW.out)
      obtain ⟨hok1, hok2⟩ := HOK.out.2 t (List.mem_of_getElem? ht)
      have hkS : (k : Int) < (ts.length : Int) := by omega
      clear hcl ht hr hok1 k0' k1' k2' hx hsc hst
      go_upto_region 6 with fail
      go_cut [38] (fun r wx => r = .bool (openB S k t) ∧ StC w (.slice (some ⟨sb, so, none⟩) ts.length sc) S u3 (cmS S ts k) wx)
      case first =>
        by_cases hs0 : t.state = 0
        · have h0 : (t.state == 0) = true := by simp [hs0]
          rw [h0] at HE
          clear hs0
          cases x
          · go_wp2_with (go_at_call 30; refine (refWrites_call t.client t.state _ t.ops _ HR.out hok2).mono ?_; rintro e w2 ⟨v2, rfl, ho2, hb2⟩; have hr2 := ho2.rd; obtain ⟨a2, len2, cap2, rfl, rfl, hm2, -⟩ := hr2.at)
            go_meet
            exact ⟨by rw [HE.out]; rfl, HT.out.later hb2⟩
          · go_wp2_with fail
            go_meet
            exact ⟨by rw [HE.out]; rfl, HT.out⟩
        · have h0 : (t.state == 0) = false := by simp [hs0]
          rw [h0] at HE
          clear hs0
          go_wp2_with fail
          go_meet
          exact ⟨by rw [HE.out]; rfl, HT.out⟩
      case rest =>
        obtain ⟨rfl, hst2⟩ := hcut
        have hsz := hst2.below.size
        have HS2 := Lib.hid hst2
        have hle := cmS_le S ts k
        clear hst2 k0 k1 k2 x0
        cases hc : openB S k t with
        | true =>
          rw [hc] at HN
          clear hc
          go_wp2_with (at_builtin; refine wpList_append_src rfl _ _ 29 rfl eltRc w.heap.size (cmS S ts k).length _ (HS2.out.more _).out rfl 1 (chV ⟨1, 0, k, 0⟩) (src_new (cs := #[vi 1, vi 0, vi k, vi 0]) rfl rfl) rfl (chV_one _) (by omega) (by omega) (by simp; omega) ?_; intro v1 w2 ho1 hg1 _)
          go_roundw
          case rel =>
            refine ⟨k + 1, by omega, by go_num, ?_⟩
            rw [HN.out]; exact (HS2.out.more _).app hg1 (by simpa [OwCh] using ho1)
          case measure => simp [intOf]; omega
        | false =>
          rw [hc] at HN
          clear hc
          go_wp2_with fail
          go_roundw
          case rel =>
            refine ⟨k + 1, by omega, by go_num, ?_⟩
            rw [HN.out]; simpa using HS2.out
          case measure => simp [intOf]; omega
    · obtain rfl : k = ts.length := by omega
      clear hst
      go_wp2_with fail
      have hcl0 := cmS_le S ts ts.length
      generalize cmS S ts ts.length = c0 at *
      go_loopw [3, 6] (fun v i wr => ∃ k : Nat, k ≤ 16 ∧ i = .int .i64 k ∧ StC w (.slice sa ts.length sc) S v (c0 ++ befK ts k) wr) (fun _ i _ => 16 - (intOf i).toNat)
      case atStart => exact ⟨0, Nat.zero_le _, rfl, by simpa [befK] using HT.out⟩
      case round =>
        obtain ⟨wk, rfl⟩ : ∃ wk : World, wk = wr := ⟨_, rfl⟩
        obtain ⟨k, hk, rfl, hst⟩ := hrel
        by_cases hlt : k < 16
        · have hck := befK_le ts htl k
          have hk16 : (k : Int) < 16 := by omega
          have HN := Lib.hid (befK_succ ts k)
          have HSk := Lib.hid hst
          clear hst
          generalize befK ts k = ck at *
          go_wp2_with fail
          go_loopw [3, 7] (fun v i wr => ∃ q : Nat, q ≤ ts.length ∧ i = .int .i64 q ∧ StC w (.slice sa ts.length sc) S v (c0 ++ ck ++ befB ts k q) wr) (fun _ i _ => ts.length - (intOf i).toNat)
          case atStart => exact ⟨0, Nat.zero_le _, rfl, by simpa [befB] using HSk.out⟩
          case round =>
            obtain ⟨wq, rfl⟩ : ∃ wq : World, wq = wr := ⟨_, rfl⟩
            obtain ⟨q, hq, rfl, hst⟩ := hrel
            by_cases hlt2 : q < ts.length
            · have hcq := befB_le ts k q (by omega)
              have hqI : (q : Int) < (ts.length : Int) := by omega
              have HNq := Lib.hid (befB_succ ts k q)
              have HSq := Lib.hid hst
              clear hst
              generalize befB ts k q = cq at *
              go_wp2_with fail
              go_loopw [3, 8] (fun v i wr => ∃ p : Nat, p ≤ q ∧ i = .int .i64 p ∧ StC w (.slice sa ts.length sc) S v (c0 ++ ck ++ cq ++ befA ts k q p) wr) (fun _ i _ => q - (intOf i).toNat)
              case atStart => exact ⟨0, Nat.zero_le _, rfl, by simpa [befA] using HSq.out⟩
              case round =>
                obtain ⟨wp, rfl⟩ : ∃ wp : World, wp = wr := ⟨_, rfl⟩
                obtain ⟨p, hp, rfl, hst⟩ := hrel
                by_cases hlt3 : p < q
                · have hcp := befA_le ts k q p
                  have hpI : (p : Int) < (q : Int) := by omega
                  have hpJ : (p : Int) < (ts.length : Int) := by omega
                  have HNp := Lib.hid (befA_succ ts k q p)
                  have HSp := Lib.hid hst
                  have HW := Lib.hid hst.below
                  have hwp := hst.below.size
                  clear hst
                  obtain ⟨ta, hta⟩ := some_at (l := ts) (k := p) (by omega)
                  obtain ⟨tb, htb⟩ := some_at (l := ts) (k := q) (by omega)
                  obtain ⟨_, _, _, e5, -, -, hcl⟩ := HV.out.at
                  cases e5
                  obtain ⟨b, off, oa, oc, rfl, hra, a0', a1', a2'⟩ := hcl p ta hta
                  obtain ⟨_, _, ob, oc2, e6, hrb, b0', b1', b2'⟩ := hcl q tb htb
                  cases e6
                  have k0 := cell_later HW.out a0'
                  have k1 := cell_later HW.out a1'
                  have k2 := cell_later HW.out a2'
                  have m0 := cell_later HW.out b0'
                  have m1 := cell_later HW.out b1'
                  have m2 := cell_later HW.out b2'
                  have HRA := Lib.hid (hra.later HW.out)
                  have HRB := Lib.hid (hrb.later HW.out)
                  have HC := Lib.hid (show condB ts k p q = (ta.state != 2 && tb.state != 2 && writesK ta k && writesK tb k) by simp [condB, stOf, wrOf, hta, htb])
                  have hoka := (HOK.out.2 ta (List.mem_of_getElem? hta)).2
                  have hokb := (HOK.out.2 tb (List.mem_of_getElem? htb)).2
                  have HEA := Lib.hid (refWk_eq (l := ta.ops) (k := k) hlt)
                  have HEB := Lib.hid (refWk_eq (l := tb.ops) (k := k) hlt)
                  clear hcl hta htb hra hrb a0' a1' a2' b0' b1' b2'
                  go_upto_region 18 with fail
                  go_cut [89] (fun r wx => r = .bool (condB ts k p q) ∧ StC w (.slice sa ts.length sc) S u3 (c0 ++ ck ++ cq ++ befA ts k q p) wx)
                  case first =>
                    by_cases hs0 : ta.state = 2
                    · have h0 : (ta.state != 2) = false := by simp [hs0]
                      rw [h0] at HC
                      clear hs0
                      go_wp2_with fail
                      go_meet
                      exact ⟨by rw [HC.out]; rfl, HSp.out⟩
                    · have h0 : (ta.state != 2) = true := by simp [hs0]
                      rw [h0] at HC
                      clear hs0
                      by_cases hs2 : tb.state = 2
                      · have h2 : (tb.state != 2) = false := by simp [hs2]
                        rw [h2] at HC
                        clear hs2
                        go_wp2_with fail
                        go_meet
                        exact ⟨by rw [HC.out]; rfl, HSp.out⟩
                      · have h2 : (tb.state != 2) = true := by simp [hs2]
                        rw [h2] at HC
                        clear hs2
                        cases hwa : writesK ta k with
                        | false =>
                          have HWA := Lib.hid (HEA.out.trans hwa)
                          rw [hwa] at HC
                          clear hwa
                          go_wp2_with (go_at_call 31; refine (refWk_call ta.client ta.state _ ta.ops k _ HRA.out hoka).mono ?_; rintro e w2 ⟨rfl, hb2⟩; rw [HWA.out])
                          go_meet
                          exact ⟨by rw [HC.out]; rfl, HSp.out.later hb2⟩
                        | true =>
                          have HWA := Lib.hid (HEA.out.trans hwa)
                          have HWB := Lib.hid (show refWk tb.ops k = writesK tb k from HEB.out)
                          rw [hwa] at HC
                          clear hwa
                          go_wp2_with (first
                            | (go_at_call 31; with_reducible refine (refWk_call ta.client ta.state _ ta.ops k _ HRA.out hoka).mono ?_; rintro e w2 ⟨rfl, hb2⟩; rw [HWA.out]; replace m0 := cell_later hb2 m0; replace m1 := cell_later hb2 m1; replace m2 := cell_later hb2 m2; replace HRB := Lib.hid (HRB.out.later hb2))
                            | (go_at_call 31; refine (refWk_call tb.client tb.state _ tb.ops k _ HRB.out hokb).mono ?_; rintro e w3 ⟨rfl, hb3⟩; rw [HWB.out]))
                          go_meet
                          exact ⟨by rw [HC.out]; rfl, (HSp.out.later hb2).later hb3⟩
                  case rest =>
                    obtain ⟨rfl, hst2⟩ := hcut
                    have hsz := hst2.below.size
                    have HS2 := Lib.hid hst2
                    clear hst2 k0 k1 k2 m0 m1 m2
                    cases hc : condB ts k p q with
                    | true =>
                      rw [hc] at HNp
                      clear hc
                      go_wp2_with (at_builtin; refine wpList_append_src rfl _ _ 29 rfl eltRc w.heap.size (c0 ++ ck ++ cq ++ befA ts k q p).length _ (HS2.out.more _).out rfl 1 (chV ⟨2, k, p, q⟩) (src_new (cs := #[vi 2, vi k, vi p, vi q]) rfl rfl) rfl (chV_one _) (by simp only [List.length_append]; omega) (by omega) (by simp; omega) ?_; intro v1 w2 ho1 hg1 _)
                      go_roundw
                      case rel =>
                        refine ⟨p + 1, by omega, by go_num, ?_⟩
                        rw [HNp.out]; exact (HS2.out.more _).app hg1 (by simpa [OwCh, List.append_assoc, Nat.add_assoc] using ho1)
                      case measure => simp [intOf]; omega
                    | false =>
                      rw [hc] at HNp
                      clear hc
                      go_wp2_with fail
                      go_roundw
                      case rel =>
                        refine ⟨p + 1, by omega, by go_num, ?_⟩
                        rw [HNp.out]; simpa using HS2.out
                      case measure => simp [intOf]; omega
                · obtain rfl : p = q := by omega
                  have HSp := Lib.hid hst
                  clear hst
                  go_wp2_with fail
                  go_roundw
                  case rel =>
                    refine ⟨p + 1, by omega, by go_num, ?_⟩
                    rw [HNq.out, ← List.append_assoc]; exact HSp.out
                  case measure => simp [intOf]; omega
            · obtain rfl : q = ts.length := by omega
              have HSq := Lib.hid hst
              clear hst
              go_wp2_with fail
              go_roundw
              case rel =>
                refine ⟨k + 1, by omega, by go_num, ?_⟩
                rw [HN.out, ← List.append_assoc]; exact HSq.out
              case measure => simp [intOf]; omega
        · obtain rfl : k = 16 := by omega
          go_wp2_with fail
          go_ret
          refine ⟨_, rfl, ?_, hst.below⟩
          unfold OwCh; rw [HCM.out]; exact hst.out
end Go.Proofs.Ytafboehdihokhaa
