/- The law LinkRuns: the step that drops. -/
import Derived.Test.YthpdenmbcjngkaaLnSw0
namespace Go.Proofs.Ythpdenmbcjngkaa.linkRuns
open Go.RowKit Go.Maps
attribute [local go_sem] Oper.semAt_some

set_option maxRecDepth 1000000 in
set_option maxHeartbeats 16000000 in
theorem sw2 {b p mw ma : Nat} {va vc : Value} {J : List Itm} {ks : List LK} {lost : Nat} {o : OpL} {vb : Value} {bx : Nat} {w0 : World} (wj : World) (f : Nat → Value) (KX : Act → World → Prop) (s0 s7 : Value) (r : Int) (AP : Bool)
    (hs0 : f 0 = s0) (e3 : f 3 = .pointer (some ⟨p, 0, none⟩)) (e4 : f 4 = va) (e5 : f 5 = vc) (e6 : f 6 = .int .i64 lost) (hs7 : f 7 = s7) (e8 : f 8 = .pointer (some ⟨bx, 0, none⟩)) (e9 : f 9 = .int .i64 r) (e10 : f 10 = .bool AP) (e70 : f 70 = .int .i64 2)
    (hr : ∀ n : Nat, o.n = (n : Int) → r = atI J o.l n) (hap : ks.any (fun c => sameB c o.l) = AP)
    (hS : Step b p mw ma va vc J ks lost o vb bx w0 wj) (hE : ExitK b p mw ma J ks lost s0 (.pointer (some ⟨p, 0, none⟩)) s7 wj KX) : Code.wp Try.prog cSwitch (OnlyN KX) (frN 341 f) wj := by
  have HEX := Lib.hid hE
  have HI := Lib.hid hS.inv
  obtain ⟨L, C, hnet, hspec⟩ := hS.inv.net
  have HN := Lib.hid hnet
  have HP := Lib.hid hspec
  have hfew := hS.few
  have hll := hS.wide
  have hbw : b ≤ wj.heap.size := by have := hS.below.size; have := hS.start; omega
  have hbx := (Array.getElem?_eq_some_iff.1 hS.box).1
  have HX := Lib.hid hS.box
  have hlen := hS.len
  have HR := Lib.hid hr
  have HAP := Lib.hid hap
  obtain ⟨ja, jc, hva, -, -⟩ := hS.inv.items.at
  obtain ⟨ka, kc, hvc, -, -⟩ := OwL.at hS.inv.cuts
  rw [fr_lit, hs0, e3, e4, e5, e6, hs7, e8, e9, e10, e70]
  subst hva hvc
  clear hE hS hnet hspec hs0 e3 e4 e5 e6 hs7 e8 e9 e10 e70 hr hap
  have f2 : wj.cell? ⟨bx, 2, none⟩ = some (vi o.l.1) := by rw [cell_of HX.out]; rfl
  have f3 : wj.cell? ⟨bx, 3, none⟩ = some (vi o.l.2) := by rw [cell_of HX.out]; rfl
  rcases none_or L o.l o.n with hno | ⟨j, bs, hj, hbs⟩
  · have hneg := HP.out.none hno HR.out
    have HNO := Lib.hid hno
    have f1 : wj.cell? ⟨bx, 1, none⟩ = some (vi o.n) := by rw [cell_of HX.out]; rfl
    clear hno
    conv => arg 2; whnf
    by_cases hn0 : o.n < 0
    · go_wp2_with (go_at_call 17; refine (drop_none o.l o.n _ HN.out.mem hll HNO.out).mono ?_; rintro e w5 ⟨rfl, hb5⟩; have f1b := cell_later hb5 f1)
      exact HEX.out _ _ J ks lost rfl rfl rfl rfl rfl (by omega) (by omega) (by omega) (HI.out.later hb5) (hb5.mono hbw)
    · have hr0 : r < 0 := by omega
      go_wp2_with (go_at_call 17; refine (drop_none o.l o.n _ HN.out.mem hll HNO.out).mono ?_; rintro e w5 ⟨rfl, hb5⟩; have f1b := cell_later hb5 f1)
      exact HEX.out _ _ J ks lost rfl rfl rfl rfl rfl (by omega) (by omega) (by omega) (HI.out.later hb5) (hb5.mono hbw)
  · obtain ⟨q, x, rfl, hat, hpx, rfl, hpl⟩ := HP.out.some hbs (r := r) (fun n hn => HR.out n (hj.trans hn))
    have HAT := Lib.hid hat
    have HPX := Lib.hid hpx
    have HBS := Lib.hid hbs
    have f1 : wj.cell? ⟨bx, 1, none⟩ = some (vi (j : Int)) := by rw [← hj, cell_of HX.out]; rfl
    have hqJ : (q : Int) < (J.length : Int) := by omega
    have hq0 : ¬ ((q : Int) < 0) := by omega
    have hj0 : ¬ ((j : Int) < 0) := by omega
    have hx200 : x.2.length ≤ 200 := HP.out.short _ (List.mem_of_getElem? hpx)
    clear hat hpx hbs hj HR
    conv => arg 2; whnf
    go_upto_region 42 with (go_at_call 17; refine (drop_call (base := b) o.l j (byteI x.2) _ HN.out hbw (by omega) ⟨by omega, by omega⟩ hll HBS.out).mono ?_; rintro e w5 ⟨rfl, ⟨L', hn5, hc5, hc6⟩, hb5, hs5⟩)
    have HB5 := Lib.hid hb5
    have HBJ := Lib.hid hb5
    have hbw0 : b ≤ w5.heap.size := Nat.le_trans hbw hb5.size
    have HI5 := Lib.hid (HI.out.items.stays hs5)
    have HK5 := Lib.hid (show OwL b w5 (.slice ka ks.length kc) ks from own_stays HI.out.cuts hs5 (by decide) (by decide))
    have HN5 := Lib.hid hn5
    have HP5 := Lib.hid (HP.out.taken HAT.out hc5 hc6)
    have f1b : w5.cell? ⟨bx, 1, none⟩ = some (vi (j : Int)) := by
      rw [cell_of (hs5 _ _ _ HX.out (by decide) (by decide))]; rw [cell_of HX.out] at f1; exact f1
    clear hb5 hs5 hn5 hc5 hc6 f1 f2 f3
    have HW0 := Lib.hid (Nat.le_refl w5.heap.size)
    obtain ⟨g, c, a2, n2, c2, hv, hJc, hg, hsl, hn2, hsrc1, hsrc2⟩ := HI5.out.parts hpl
    have HV := Lib.hid hv
    cases hv
    rw [← hn2] at hsrc2
    have HN2 := Lib.hid hn2
    have hdr : ∀ w, (Instr.slice 38 (.slice (some ⟨g, 0, none⟩) J.length jc) (some (.int .i64 ((q : Int) + 1))) none none).run Try.prog w = .ok (.slice a2 n2 c2) w := fun w => by
      have h1 := run_dropI (b := g) (off := 0) (n := J.length) (c := jc) (k := q + 1) (by omega) w
      rw [hsl] at h1
      exact h1
    have htk : ∀ w, (Instr.slice 38 (.slice (some ⟨g, 0, none⟩) J.length jc) none (some (.int .i64 q)) none).run Try.prog w = .ok (.slice (some ⟨g, 0, none⟩) q jc) w := run_takeI (by omega)
    have HSL := Lib.hid hsl
    have hwq : IntKind.i64.wrap ((q : Int) + 1) = (q : Int) + 1 := IntWalk.i64_in _ (by omega)
    have HSR1 := Lib.hid (hsrc1.below (((Below.refl w5.heap.size w5).drew).alloc (Nat.le_refl _) (.cells #[] 45)))
    have HSR2 := Lib.hid hsrc2
    have HO0 := Lib.hid (World.ownsRow_lit (base := w5.heap.size) (e := 45) (size := 3) w5.drew #[] 0 (Nat.le_refl _) (by simp [maxLen]) rfl)
    have HB0 := Lib.hid (((Below.refl w5.heap.size w5).drew).alloc (Nat.le_refl _) (.cells #[] 45))
    have HON1 := Lib.hid (show ∀ u ∈ (J.take q).flatMap itV, u.oneCell' = true from fun u hu => itV_one HI5.out u (by
      obtain ⟨y, hy, hu⟩ := List.mem_flatMap.1 hu
      exact List.mem_flatMap.2 ⟨y, List.mem_of_mem_take hy, hu⟩))
    have HON2 := Lib.hid (show ∀ u ∈ (J.drop (q + 1)).flatMap itV, u.oneCell' = true from fun u hu => itV_one HI5.out u (by
      obtain ⟨y, hy, hu⟩ := List.mem_flatMap.1 hu
      exact List.mem_flatMap.2 ⟨y, List.mem_of_mem_drop hy, hu⟩))
    have hdl : n2 ≤ 120 := by rw [hn2]; simp; omega
    clear hn2
    have hwd : w5.drew.heap.size = w5.heap.size := rfl
    clear hsl hsrc1 hsrc2
    go_wp2_with fail
    go_region_law (first
      | (refine step_append_src rfl _ _ 38 rfl eltItem w5.heap.size 0 [] HO0.out rfl q ((J.take q).flatMap itV) HSR1.out rfl HON1.out (by omega) (by omega) (by simp) ?_; intro vA wA hrA hgA _; have HRA := Lib.hid hrA; have HBA := Lib.hid (HB0.out.grown hgA (by simp) (fun z hz => by simp [Value.ownBlock] at hz; omega)); clear hrA hgA)
      | (refine step_append_src rfl _ _ 38 rfl eltItem w5.heap.size (0 + q) ([] ++ (J.take q).flatMap itV) HRA.out rfl n2 ((J.drop (q + 1)).flatMap itV) (HSR2.out.below HBA.out) rfl HON2.out (by omega) (by omega) HBA.out.size ?_; intro v7 w7 hr7 hg7 _; have HR7 := Lib.hid hr7; have HB7 := Lib.hid (HBA.out.grown hg7 HBA.out.size (fun z hz => (World.ownsRow.lt HRA.out z hz).1)); clear hr7 hg7))
    all_goals
      go_wp2
      refine HEX.out _ _ (J.take q ++ J.drop (q + 1)) ks (lost + 1) rfl rfl rfl rfl ?_ (by simp; omega) (by omega) (by omega) ⟨⟨L', C, ?_, HP5.out⟩, ?_, ?_⟩ (HBJ.out.trans (HB7.out.mono hbw0))
      · first | rfl | (show Value.int .i64 _ = _; go_num)
      · have h1 := HN5.out.later HB7.out
        have h2 : ((J.length : Int) - 1) = ((J.take q ++ J.drop (q + 1)).length : Nat) := by simp; omega
        rw [h2] at h1
        simpa using h1
      · show ItemsS b w7 v7 _
        refine ⟨?_, fun y hy => own_below (HI5.out.bytes y ?_) HB7.out⟩
        · have h1 := own_mono HR7.out hbw0
          have h2 : 0 + q + n2 = (J.take q ++ J.drop (q + 1)).length := by rw [HN2.out]; simp; omega
          rw [h2] at h1
          simpa using h1
        · rcases List.mem_append.1 hy with hy | hy
          · exact List.mem_of_mem_take hy
          · exact List.mem_of_mem_drop hy
      · exact own_below HK5.out HB7.out
end Go.Proofs.Ythpdenmbcjngkaa.linkRuns
