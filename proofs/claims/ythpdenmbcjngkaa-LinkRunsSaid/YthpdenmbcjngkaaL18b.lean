/- The law LinkRuns: its walk. -/
import Derived.Test.YthpdenmbcjngkaaLnSw
import Derived.Test.YthpdenmbcjngkaaLnHead
namespace Go.Proofs.Ythpdenmbcjngkaa.linkRuns
open Go.RowKit Go.Maps
attribute [local go_sem] Oper.semAt_some

theorem any_step {ks : List LK} {j : Nat} {x : LK} (h : ks[j]? = some x) (l : LK) : (ks.take (j + 1)).any (fun c => sameB c l) = ((ks.take j).any (fun c => sameB c l) || sameB x l) := by
  rw [List.take_add_one, h, List.any_append]; simp

set_option maxRecDepth 1000000 in
set_option maxHeartbeats 16000000 in
theorem walk (v : Value) (xs : List OpL) (w : World) (hv : RdOpsL w v xs) :
    Calls Try.prog 4 #[v] w fun e w' => e = .returned (.bool true) ∧ Below w.heap.size w w' := by
  have HV := Lib.hid hv
  obtain ⟨a, cap, rfl, hxm, -⟩ := hv.at
  clear hv
  go_enter Try.func4, Try.ntmps4
  go_upto_region 4 with (first
    | (go_at_call 6; refine (head_call _).mono ?_; rintro e w1 ⟨rfl, hb1⟩; have HB1 := Lib.hid hb1; clear hb1)
    | (go_at_call 7; refine (new_call _).mono ?_; rintro e w2 ⟨p, mw, ma, rfl, hnet, hb2⟩))
  have HN2 := Lib.hid hnet
  have HB2 := Lib.hid hb2
  have hw12 := hb2.size
  clear hnet hb2
  have HO1 := Lib.hid (World.ownsRow_lit (base := w1.heap.size) (e := 45) (size := 3) w2 #[] 0 hw12 (by simp [maxLen]) rfl)
  have HO2 := Lib.hid (World.ownsRow_lit (base := w1.heap.size) (e := 29) (size := 2) (w2.alloc (.cells #[] 45)) #[] 0 (by simp; omega) (by simp [maxLen]) rfl)
  have HB3 := Lib.hid ((HB2.out.alloc hw12 (.cells #[] 45)).alloc (by simp; omega) (.cells #[] 29))
  have HI := Lib.hid (show Inv w1.heap.size p mw ma (.slice (some ⟨w2.heap.size, 0, none⟩) 0 0) (.slice (some ⟨w2.heap.size + 1, 0, none⟩) 0 0) [] [] 0 ((w2.alloc (.cells #[] 45)).alloc (.cells #[] 29)) from
    ⟨⟨[], [], HN2.out.later (((Below.refl w2.heap.size w2).alloc (Nat.le_refl _) _).alloc (by simp) _), Spec.start⟩, ⟨by simpa using World.ownsRow.alloc HO1.out (.cells #[] 29), fun x hx => by cases hx⟩, by simpa [OwL] using HO2.out⟩)
  clear HO1 HO2 HN2
  go_upto_region 8 with fail
  generalize (w2.alloc (.cells #[] 45)).alloc (.cells #[] 29) = w3 at *
  refine wp_loopF 341 (fun m g wr => g 0 = .slice a xs.length cap ∧ g 3 = .pointer (some ⟨p, 0, none⟩) ∧ ∃ (i lost : Nat) (J : List Itm) (ks : List LK), i ≤ xs.length ∧ i ≤ 120 ∧ m = 121 - i ∧ g 7 = .int .i64 i ∧ g 6 = .int .i64 lost ∧ J.length ≤ i ∧ lost ≤ i ∧ ks.length ≤ i ∧ Inv w1.heap.size p mw ma (g 4) (g 5) J ks lost wr ∧ Below w1.heap.size w1 wr) _ rfl 121 ?start ?round
  case start => exact ⟨rfl, rfl, 0, 0, [], [], Nat.zero_le _, by omega, rfl, rfl, rfl, by simp, by omega, by simp, HI.out, HB3.out⟩
  case round =>
    rintro gm g wk ⟨g0, g3, i, lost, J, ks, hi, hi2, hgm, g7, g6, hJ, hlo, hks, hinv, hb⟩ JJ KK HJ HK
    have HI := Lib.hid hinv
    have HB := Lib.hid hb
    have HJJ := Lib.hid HJ
    have HGM := Lib.hid hgm
    have hwk := hb.size
    obtain ⟨ja, jc, hva, -, -⟩ := hinv.items.at
    obtain ⟨ka, kc, hvc, hkm, -⟩ := OwL.at hinv.cuts
    rw [hva, hvc] at HI
    rw [fr_lit, g0, g3, hva, hvc, g6, g7]
    clear hinv hb HJ hgm g0 g3 hva hvc g6 g7
    by_cases hlt : i < xs.length
    case neg =>
      have hltI : ¬ ((i : Int) < (xs.length : Int)) := by omega
      go_wp2_with fail
      go_ret
      exact ⟨by rfl, HB1.out.trans (HB.out.mono HB1.out.size)⟩
    have hltI : (i : Int) < (xs.length : Int) := by omega
    by_cases hl2 : i < 120
    case neg =>
      have hl2I : ¬ ((i : Int) < 120) := by omega
      go_wp2_with fail
      go_ret
      exact ⟨by rfl, HB1.out.trans (HB.out.mono HB1.out.size)⟩
    have hl2I : (i : Int) < 120 := by omega
    obtain ⟨o, ho⟩ := some_at hlt
    obtain ⟨_, _, e5, -, hcl⟩ := HV.out.at
    cases e5
    obtain ⟨b, off, vb, rfl, k0', k1', k2', k3', k4', hvb, hik, hin, hi1, hi2'⟩ := hcl i o ho
    obtain ⟨ba, bl, bc, rfl, hbl, hbm, -, -⟩ := hvb.at
    rw [byteI_len] at hbl hbm
    subst hbl
    have HBw := Lib.hid (HB1.out.trans (HB.out.mono HB1.out.size))
    have k0 := cell_later HBw.out k0'
    have k1 := cell_later HBw.out k1'
    have k2 := cell_later HBw.out k2'
    have k3 := cell_later HBw.out k3'
    have k4 := cell_later HBw.out k4'
    have HVB := Lib.hid (show RdU w1 (.slice ba o.b.length bc) o.b from hvb.later HB1.out)
    have hll : i64 o.l.1 ∧ i64 o.l.2 := ⟨hi1, hi2'⟩
    clear hcl k0' k1' k2' k3' k4' hvb hi1 hi2'
    have HX0 := Lib.hid (alloc_at wk (.cells #[vi o.k, vi o.n, vi o.l.1, vi o.l.2, .slice ba o.b.length bc] 40))
    have HBa := Lib.hid ((Below.refl wk.heap.size wk).alloc (Nat.le_refl _) (.cells #[vi o.k, vi o.n, vi o.l.1, vi o.l.2, .slice ba o.b.length bc] 40))
    go_upto_region 11 with fail
    have hsz0 : (wk.alloc (.cells #[vi o.k, vi o.n, vi o.l.1, vi o.l.2, .slice ba o.b.length bc] 40)).heap.size = wk.heap.size + 1 := by simp
    clear k0 k1 k2 k3 k4
    generalize wk.alloc (.cells #[vi o.k, vi o.n, vi o.l.1, vi o.l.2, .slice ba o.b.length bc] 40) = w5 at *
    have HI5 := Lib.hid (HI.out.later HBa.out)
    have HB5 := Lib.hid (HB.out.trans (HBa.out.mono hwk))
    have f3 : w5.cell? ⟨wk.heap.size, 4, none⟩ = some (.slice ba o.b.length bc) := by rw [cell_of HX0.out]; rfl
    by_cases hbig : o.b.length ≤ 200
    case neg =>
      have hbigI : (o.b.length : Int) > 200 := by omega
      go_wp2_with fail
      refine Handed.intro (121 - (i + 1)) (by rw [HGM.out]; omega) (HJJ.out _ _ _ rfl ⟨rfl, rfl, i + 1, lost, J, ks, by omega, by omega, rfl, ?_, rfl, by omega, by omega, by omega, HI5.out, HB5.out⟩)
      show Value.int .i64 _ = _
      go_num
    have hbigI : ¬ ((o.b.length : Int) > 200) := by omega
    have f1 : w5.cell? ⟨wk.heap.size, 1, none⟩ = some (vi o.n) := by rw [cell_of HX0.out]; rfl
    have f2 : w5.cell? ⟨wk.heap.size, 2, none⟩ = some (vi o.l.1) := by rw [cell_of HX0.out]; rfl
    have f2' : w5.cell? ⟨wk.heap.size, 3, none⟩ = some (vi o.l.2) := by rw [cell_of HX0.out]; rfl
    go_upto_region 13 with (go_at_call 13; refine (at_call _ J o.l o.n _ HI5.out.items hin.2).mono ?_; rintro e w6 ⟨r, rfl, hr, hb6⟩)
    have HR := Lib.hid hr
    have HI6 := Lib.hid (HI5.out.later hb6)
    have HB6 := Lib.hid (HB5.out.trans (hb6.mono HB5.out.size))
    have HX6 := Lib.hid ((hb6.block wk.heap.size (by omega)).trans HX0.out)
    have hs6 := HB6.out.size
    have hw6 : wk.heap.size < w6.heap.size := by have := hb6.size; omega
    clear f1 f2 f2' f3 hr hb6 hsz0
    go_wp2_with fail
    refine wp_loopF 341 (fun m h wr => h 0 = .slice (some ⟨b, off, none⟩) xs.length cap ∧ h 3 = .pointer (some ⟨p, 0, none⟩) ∧ h 4 = .slice ja J.length jc ∧ h 5 = .slice ka ks.length kc ∧ h 6 = .int .i64 lost ∧ h 7 = .int .i64 i ∧ h 8 = .pointer (some ⟨wk.heap.size, 0, none⟩) ∧ h 9 = .int .i64 r ∧ h 55 = .slice ka ks.length kc ∧ h 56 = .int .i64 ks.length ∧
      ∃ j : Nat, j ≤ ks.length ∧ m = ks.length - j ∧ h 57 = .int .i64 j ∧ h 10 = .bool ((ks.take j).any (fun c => sameB c o.l)) ∧ Below w6.heap.size w6 wr) _ rfl ks.length ?start2 ?round2
    case start2 => exact ⟨rfl, rfl, rfl, rfl, rfl, rfl, rfl, rfl, rfl, rfl, 0, Nat.zero_le _, rfl, rfl, rfl, Below.refl _ _⟩
    case round2 =>
      rintro gm2 h wj ⟨h0, h3, h4, h5, h6, h7, h8, h9, h55, h56, j, hj, hgm2, h57, h10, hbj⟩ JJ2 KK2 HJ2 HK2
      have HBj := Lib.hid hbj
      have HIj := Lib.hid (HI6.out.later hbj)
      have HXj := Lib.hid ((hbj.block wk.heap.size hw6).trans HX6.out)
      have HJJ2 := Lib.hid HJ2
      have HGM2 := Lib.hid hgm2
      have hwj := hbj.size
      rw [fr_lit, h0, h3, h4, h5, h6, h7, h8, h9, h55, h56, h57, h10]
      clear hbj HJ2 hgm2 h0 h3 h4 h5 h6 h7 h8 h9 h55 h56 h57 h10
      by_cases hjl : j < ks.length
      · obtain ⟨c, hc⟩ := some_at hjl
        obtain ⟨_, _, e5, -, hcl⟩ := OwL.at HIj.out.cuts
        cases e5
        obtain ⟨cb, co, rfl, c0, c1⟩ := hcl j c hc
        have hjI : (j : Int) < (ks.length : Int) := by omega
        have HC := Lib.hid (any_step hc o.l)
        clear hcl hc
        obtain ⟨A, hA⟩ : ∃ A, (ks.take j).any (fun c => sameB c o.l) = A := ⟨_, rfl⟩
        rw [hA] at HC ⊢
        clear hA
        have HB7 := Lib.hid (HBj.out.alloc hwj (.cells #[vi c.1, vi c.2] 29))
        have HX7 := Lib.hid (alloc_at wj (.cells #[vi c.1, vi c.2] 29))
        have HX8 := Lib.hid ((((Below.refl wj.heap.size wj).alloc (Nat.le_refl _) (.cells #[vi c.1, vi c.2] 29)).block wk.heap.size (by omega)).trans HXj.out)
        go_upto_region 17 with fail
        clear c0 c1
        generalize wj.alloc (.cells #[vi c.1, vi c.2] 29) = w8 at *
        cases A
        · have g0 : w8.cell? ⟨wj.heap.size, 0, none⟩ = some (vi c.1) := by rw [cell_of HX7.out]; rfl
          have g1 : w8.cell? ⟨wj.heap.size, 1, none⟩ = some (vi c.2) := by rw [cell_of HX7.out]; rfl
          have f2 : w8.cell? ⟨wk.heap.size, 2, none⟩ = some (vi o.l.1) := by rw [cell_of HX8.out]; rfl
          have f2' : w8.cell? ⟨wk.heap.size, 3, none⟩ = some (vi o.l.2) := by rw [cell_of HX8.out]; rfl
          go_wp2_with (go_at_call 14; refine (sameL_call c o.l _).mono ?_; rintro e w9 ⟨rfl, hb9⟩)
          refine Handed.intro (ks.length - (j + 1)) (by rw [HGM2.out]; omega) (HJJ2.out _ _ _ rfl ⟨rfl, rfl, rfl, rfl, rfl, rfl, rfl, rfl, rfl, rfl, j + 1, by omega, rfl, ?_, ?_, HB7.out.trans (hb9.mono HB7.out.size)⟩)
          · show Value.int .i64 _ = _
            go_num
          · rw [HC.out, Bool.false_or]; rfl
        · go_wp2_with fail
          refine Handed.intro (ks.length - (j + 1)) (by rw [HGM2.out]; omega) (HJJ2.out _ _ _ rfl ⟨rfl, rfl, rfl, rfl, rfl, rfl, rfl, rfl, rfl, rfl, j + 1, by omega, rfl, ?_, ?_, HB7.out⟩)
          · show Value.int .i64 _ = _
            go_num
          · rw [HC.out, Bool.true_or]; rfl
      · obtain rfl : j = ks.length := by omega
        rw [List.take_length]
        obtain ⟨AP, hAP⟩ : ∃ A, ks.any (fun c => sameB c o.l) = A := ⟨_, rfl⟩
        have HAP := Lib.hid hAP
        rw [hAP]
        clear hAP
        have HB7 := Lib.hid (HB6.out.trans (HBj.out.mono hs6))
        have hs7 := HB7.out.size
        have f0 : wj.cell? ⟨wk.heap.size, 0, none⟩ = some (vi o.k) := by rw [cell_of HXj.out]; rfl
        go_upto_block 4 with fail
        refine wp_cutF 341 (fun q wx => q 0 = .slice (some ⟨b, off, none⟩) xs.length cap ∧ q 3 = .pointer (some ⟨p, 0, none⟩) ∧ q 7 = .int .i64 i ∧ ∃ (lost' : Nat) (J' : List Itm) (ks' : List LK), q 6 = .int .i64 lost' ∧ J'.length ≤ i + 1 ∧ lost' ≤ i + 1 ∧ ks'.length ≤ i + 1 ∧ Inv w1.heap.size p mw ma (q 4) (q 5) J' ks' lost' wx ∧ Below w1.heap.size w1 wx) ?rest ?first
        case first =>
          intro J1 K1 h1 h2
          refine wp_onlyN (K := K1) ?_ (fun _ _ h => h)
          refine wp_fr 341 _ rfl ?_
          show Code.wp Try.prog cSwitch _ _ _
          refine sw (o := o) (bx := wk.heap.size) (w0 := w1) (b := w1.heap.size) (p := p) (mw := mw) (ma := ma) (J := J) (ks := ks) (lost := lost) (vb := .slice ba o.b.length bc) (va := .slice ja J.length jc) (vc := .slice ka ks.length kc) wj _ K1 (.slice (some ⟨b, off, none⟩) xs.length cap) (.int .i64 i) r AP rfl rfl rfl rfl rfl rfl rfl rfl rfl rfl HR.out HAP.out ⟨HIj.out, rfl, HVB.out, HB7.out, HXj.out, hbig, hll, hin, ⟨by omega, by omega, by omega⟩⟩ ?_
          intro l w' J' ks' lost' hl e0 e3 e7 e6 hJ' hlo' hks' hI' hB'
          exact h2 _ _ (Met.intro (h1 l w' hl ⟨e0, e3, e7, lost', J', ks', e6, by omega, by omega, by omega, hI', HB7.out.trans hB'⟩))
        case rest =>
          rintro q wx ⟨q0, q3, q7, lost', J', ks', q6, hJ', hlo', hks', hinv', hbx⟩
          go_step
          refine tail_wp wx q _ q3 rfl q6 hinv' (by omega) (by omega) hbx.size ?_
          intro l w' hl e0 e3 e4 e5 e6 e7 hB'
          have HIX := Lib.hid (hinv'.later hB')
          have HBX := Lib.hid (hbx.trans (hB'.mono hbx.size))
          rw [q0] at e0
          rw [q3] at e3
          rw [q7] at e7
          rw [q6] at e6
          rw [frN_of 341 l hl, fr_lit, e0, e3, e4, e5, e6, e7]
          clear hinv' hB' hbx q0 q3 q7 q6 e0 e3 e4 e5 e6 e7
          go_wp2_with fail
          refine Handed.intro (121 - (i + 1)) (by rw [HGM.out]; omega) (HJJ.out _ _ _ rfl ⟨rfl, rfl, i + 1, lost', J', ks', by omega, by omega, rfl, ?_, rfl, by omega, by omega, by omega, HIX.out, HBX.out⟩)
          show Value.int .i64 _ = _
          go_num
end Go.Proofs.Ythpdenmbcjngkaa.linkRuns
