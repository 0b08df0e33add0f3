/- The law LinkRuns: the step that joins. -/
import Derived.Test.YthpdenmbcjngkaaLnSw0
namespace Go.Proofs.Ythpdenmbcjngkaa.linkRuns
open Go.RowKit Go.Maps
attribute [local go_sem] Oper.semAt_some

set_option maxRecDepth 1000000 in
set_option maxHeartbeats 16000000 in
theorem sw5 {b p mw ma : Nat} {va vc : Value} {J : List Itm} {ks : List LK} {lost : Nat} {o : OpL} {vb : Value} {bx : Nat} {w0 : World} (wj : World) (f : Nat → Value) (KX : Act → World → Prop) (s0 s7 : Value) (r : Int) (AP : Bool)
    (hs0 : f 0 = s0) (e3 : f 3 = .pointer (some ⟨p, 0, none⟩)) (e4 : f 4 = va) (e5 : f 5 = vc) (e6 : f 6 = .int .i64 lost) (hs7 : f 7 = s7) (e8 : f 8 = .pointer (some ⟨bx, 0, none⟩)) (e9 : f 9 = .int .i64 r) (e10 : f 10 = .bool AP) (e70 : f 70 = .int .i64 5)
    (hk : o.k = 5) (hr : ∀ n : Nat, o.n = (n : Int) → r = atI J o.l n) (hap : ks.any (fun c => sameB c o.l) = AP)
    (hS : Step b p mw ma va vc J ks lost o vb bx w0 wj) (hE : ExitK b p mw ma J ks lost s0 (.pointer (some ⟨p, 0, none⟩)) s7 wj KX) : Code.wp Try.prog cSwitch (OnlyN KX) (frN 341 f) wj := by
  have HEX := Lib.hid hE
  have HI := Lib.hid hS.inv
  obtain ⟨L, C, hnet, hspec⟩ := hS.inv.net
  have HN := Lib.hid hnet
  have HP := Lib.hid hspec
  have hfew := hS.few
  have hll := hS.wide
  have hbw : b ≤ wj.heap.size := by have := hS.below.size; have := hS.start; omega
  have hbx := (Array.getElem?_eq_some_iff.1 hS.box).1
  have HX := Lib.hid hS.box
  have hlen := hS.len
  have HR := Lib.hid hr
  have HAP := Lib.hid hap
  obtain ⟨ja, jc, hva, -, -⟩ := hS.inv.items.at
  obtain ⟨ka, kc, hvc, -, -⟩ := OwL.at hS.inv.cuts
  rw [fr_lit, hs0, e3, e4, e5, e6, hs7, e8, e9, e10, e70]
  subst hva hvc
  clear hE hS hnet hspec hs0 e3 e4 e5 e6 hs7 e8 e9 e10 e70 hr hap
  have f0 : wj.cell? ⟨bx, 0, none⟩ = some (vi 5) := by rw [← hk, cell_of HX.out]; rfl
  have f2 : wj.cell? ⟨bx, 2, none⟩ = some (vi o.l.1) := by rw [cell_of HX.out]; rfl
  have f3 : wj.cell? ⟨bx, 3, none⟩ = some (vi o.l.2) := by rw [cell_of HX.out]; rfl
  have HKK := Lib.hid hk
  clear hk
  conv => arg 2; whnf
  go_upto_region 56 with (go_at_call 19; refine (join_call (base := b) o.l _ HN.out hbw hll).mono ?_; rintro e w5 ⟨rfl, hn5, hb5, hs5⟩)
  have HN5 := Lib.hid hn5
  have HB5 := Lib.hid hb5
  have hb5s : b ≤ w5.heap.size := Nat.le_trans hbw hb5.size
  have HI5 := Lib.hid (HI.out.items.stays hs5)
  have HK5 := Lib.hid (show OwL b w5 (.slice ka ks.length kc) ks from own_stays HI.out.cuts hs5 (by decide) (by decide))
  have HX5 := Lib.hid (hs5 _ _ _ HX.out (by decide) (by decide))
  have hbx5 := (Array.getElem?_eq_some_iff.1 HX5.out).1
  clear hn5 hb5 hs5 f0 f2 f3
  have HO6 := Lib.hid (World.ownsRow_lit (base := w5.heap.size) (e := 29) (size := 2) w5 #[] 0 (Nat.le_refl _) (by simp [maxLen]) rfl)
  have HB6 := Lib.hid ((Below.refl w5.heap.size w5).alloc (Nat.le_refl _) (.cells #[] 29))
  go_upto_region 57 with fail
  have HOL6 := Lib.hid (show OwL w5.heap.size (w5.alloc (.cells #[] 29)) (.slice (some ⟨w5.heap.size, 0, none⟩) 0 0) [] by simpa [OwL] using HO6.out)
  clear HO6
  generalize w5.alloc (.cells #[] 29) = w6 at *
  go_wp2_with fail
  refine wp_loopF 341 (fun m g wr => g 0 = s0 ∧ g 3 = .pointer (some ⟨p, 0, none⟩) ∧ g 4 = .slice ja J.length jc ∧ g 6 = .int .i64 lost ∧ g 7 = s7 ∧ g 8 = .pointer (some ⟨bx, 0, none⟩) ∧ g 235 = .slice ka ks.length kc ∧ g 236 = .int .i64 ks.length ∧
    ∃ (t : Nat) (vl : Value), t ≤ ks.length ∧ m = ks.length - t ∧ g 237 = .int .i64 t ∧ g 19 = vl ∧ OwL w5.heap.size wr vl ((ks.take t).filter (fun c => !sameB c o.l)) ∧ Below w5.heap.size w5 wr) _ rfl ks.length ?start ?round
  case start => exact ⟨rfl, rfl, rfl, rfl, rfl, rfl, rfl, rfl, 0, _, Nat.zero_le _, rfl, rfl, rfl, HOL6.out, HB6.out⟩
  case round =>
    rintro gm g wr ⟨g0, g3, g4, g6, g7, g8, g235, g236, t, vl, ht, hgm, g237, g19, hol, hbr⟩ JJ KK HJ HK
    have HOr := Lib.hid hol
    have HBr := Lib.hid hbr
    have HJJ := Lib.hid HJ
    have HGM := Lib.hid hgm
    have hsr := hbr.size
    obtain ⟨la, lc, hvl, hlm, -⟩ := OwL.at hol
    subst hvl
    rw [fr_lit, g0, g3, g4, g6, g7, g8, g235, g236, g237, g19]
    have HXr := Lib.hid ((hbr.block bx hbx5).trans HX5.out)
    clear hol hbr HJ hgm g0 g3 g4 g6 g7 g8 g235 g236 g237 g19
    by_cases htl : t < ks.length
    · obtain ⟨c, hc⟩ := some_at htl
      obtain ⟨_, _, e5, -, hcl⟩ := OwL.at (show OwL b wr (.slice ka ks.length kc) ks from own_below HK5.out HBr.out)
      cases e5
      obtain ⟨cb, co, rfl, c0, c1⟩ := hcl t c hc
      have htI : (t : Int) < (ks.length : Int) := by omega
      have HF := Lib.hid (show (ks.take (t + 1)).filter (fun c => !sameB c o.l) = (ks.take t).filter (fun c => !sameB c o.l) ++ (if sameB c o.l then [] else [c]) by
        rw [List.take_add_one, hc, List.filter_append]
        cases h : sameB c o.l <;> simp [h])
      have hll2 : ((ks.take t).filter (fun c => !sameB c o.l)).length ≤ ks.length := Nat.le_trans (List.length_filter_le _ _) (by simp; omega)
      clear hcl hc
      have HX7 := Lib.hid (alloc_at wr (.cells #[vi c.1, vi c.2] 29))
      have HB7 := Lib.hid ((Below.refl wr.heap.size wr).alloc (Nat.le_refl _) (.cells #[vi c.1, vi c.2] 29))
      have hsz7 : (wr.alloc (.cells #[vi c.1, vi c.2] 29)).heap.size = wr.heap.size + 1 := by simp
      have HXr7 := Lib.hid ((HB7.out.block bx (by omega)).trans HXr.out)
      have HOr7 := Lib.hid (show OwL w5.heap.size (wr.alloc (.cells #[vi c.1, vi c.2] 29)) (.slice la ((ks.take t).filter (fun c => !sameB c o.l)).length lc) ((ks.take t).filter (fun c => !sameB c o.l)) from World.ownsRow.alloc HOr.out _)
      go_upto_region 60 with fail
      clear c0 c1
      generalize wr.alloc (.cells #[vi c.1, vi c.2] 29) = w7 at *
      have q0 : w7.cell? ⟨wr.heap.size, 0, none⟩ = some (vi c.1) := by rw [cell_of HX7.out]; rfl
      have q1 : w7.cell? ⟨wr.heap.size, 1, none⟩ = some (vi c.2) := by rw [cell_of HX7.out]; rfl
      have f2 : w7.cell? ⟨bx, 2, none⟩ = some (vi o.l.1) := by rw [cell_of HXr7.out]; rfl
      have f3 : w7.cell? ⟨bx, 3, none⟩ = some (vi o.l.2) := by rw [cell_of HXr7.out]; rfl
      obtain ⟨S, hS⟩ : ∃ S, sameB c o.l = S := ⟨_, rfl⟩
      have HSC := Lib.hid (sameL_call c o.l)
      rw [hS] at HF HSC
      clear hS
      generalize (ks.take t).filter (fun c => !sameB c o.l) = lf at *
      cases S
      · go_upto_region 61 with (go_at_call 14; refine (HSC.out _).mono ?_; rintro e w8 ⟨rfl, hb8⟩)
        have HA8 := Lib.hid (hb8.alloc hb8.size (.cells #[vi c.1, vi c.2] 29))
        have HOr8 := Lib.hid (own_below HOr7.out HA8.out)
        have HSRC := Lib.hid (src_new (w := w8) (T := 29) (cs := #[vi c.1, vi c.2]) rfl rfl)
        have hs8 := hb8.size
        have q0' := cell_later hb8 q0
        have q1' := cell_later hb8 q1
        clear q0 q1 f2 f3
        go_wp2_with (at_builtin; refine wpList_append_src rfl _ _ 34 rfl eltLk w5.heap.size lf.length (lf.flatMap lkC) HOr8.out rfl 1 [vi c.1, vi c.2] HSRC.out rfl (by intro u hu; simp at hu; rcases hu with rfl | rfl <;> rfl) (by omega) (by omega) (by simp; omega) ?_; intro v9 w9 hr9 hg9 _; have HR9 := Lib.hid hr9; have HG9 := Lib.hid hg9; clear hr9 hg9)
        refine Handed.intro (ks.length - (t + 1)) (by rw [HGM.out]; omega) (HJJ.out _ _ _ rfl ⟨rfl, rfl, rfl, rfl, rfl, rfl, rfl, rfl, t + 1, v9, by omega, rfl, ?_, rfl, ?_, ?_⟩)
        · show Value.int .i64 _ = _
          go_num
        · rw [HF.out]; exact (show OwL w5.heap.size w9 v9 (lf ++ [c]) by simpa [OwL, lkC] using HR9.out)
        · exact (HBr.out.trans ((HB7.out.trans (HA8.out.mono HB7.out.size)).mono hsr)).grown HG9.out (by simp; omega) (fun z hz => (World.ownsRow.lt HOr8.out z hz).1)
      · go_wp2_with (go_at_call 14; refine (HSC.out _).mono ?_; rintro e w8 ⟨rfl, hb8⟩)
        refine Handed.intro (ks.length - (t + 1)) (by rw [HGM.out]; omega) (HJJ.out _ _ _ rfl ⟨rfl, rfl, rfl, rfl, rfl, rfl, rfl, rfl, t + 1, _, by omega, rfl, ?_, rfl, ?_, ?_⟩)
        · show Value.int .i64 _ = _
          go_num
        · rw [HF.out, if_pos trivial, List.append_nil]; exact (show OwL w5.heap.size w8 (.slice la lf.length lc) lf from own_below HOr7.out hb8)
        · exact HBr.out.trans ((HB7.out.trans (hb8.mono HB7.out.size)).mono hsr)
    · obtain rfl : t = ks.length := by omega
      rw [List.take_length] at HOr hlm ⊢
      have f0 : wr.cell? ⟨bx, 0, none⟩ = some (vi 5) := by rw [← HKK.out, cell_of HXr.out]; rfl
      have f2 : wr.cell? ⟨bx, 2, none⟩ = some (vi o.l.1) := by rw [cell_of HXr.out]; rfl
      have f3 : wr.cell? ⟨bx, 3, none⟩ = some (vi o.l.2) := by rw [cell_of HXr.out]; rfl
      have hll2 : (ks.filter (fun c => !sameB c o.l)).length ≤ ks.length := List.length_filter_le _ _
      have HFF : Hid (∃ lf, ks.filter (fun c => !sameB c o.l) = lf) := ⟨_, rfl⟩
      go_wp2_with fail
      exact HEX.out _ _ J (ks.filter (fun c => !sameB c o.l)) lost rfl rfl rfl rfl rfl (by omega) (by omega) (by omega) ⟨⟨L, delM C (pairK o.l), HN5.out.later HBr.out, HP.out.joinK o.l⟩, HI5.out.later HBr.out, own_mono (show OwL w5.heap.size wr (.slice la (ks.filter (fun c => !sameB c o.l)).length lc) _ from HOr.out) hb5s⟩ (HB5.out.trans (HBr.out.mono hb5s))
end Go.Proofs.Ythpdenmbcjngkaa.linkRuns
