/- The law LinkRuns: the step that doubles. -/
import Derived.Test.YthpdenmbcjngkaaLnSw0
namespace Go.Proofs.Ythpdenmbcjngkaa.linkRuns
open Go.RowKit Go.Maps
attribute [local go_sem] Oper.semAt_some

set_option maxRecDepth 1000000 in
set_option maxHeartbeats 16000000 in
theorem sw3 {b p mw ma : Nat} {va vc : Value} {J : List Itm} {ks : List LK} {lost : Nat} {o : OpL} {vb : Value} {bx : Nat} {w0 : World} (wj : World) (f : Nat → Value) (KX : Act → World → Prop) (s0 s7 : Value) (r : Int) (AP : Bool)
    (hs0 : f 0 = s0) (e3 : f 3 = .pointer (some ⟨p, 0, none⟩)) (e4 : f 4 = va) (e5 : f 5 = vc) (e6 : f 6 = .int .i64 lost) (hs7 : f 7 = s7) (e8 : f 8 = .pointer (some ⟨bx, 0, none⟩)) (e9 : f 9 = .int .i64 r) (e10 : f 10 = .bool AP) (e70 : f 70 = .int .i64 3)
    (hr : ∀ n : Nat, o.n = (n : Int) → r = atI J o.l n) (hap : ks.any (fun c => sameB c o.l) = AP)
    (hS : Step b p mw ma va vc J ks lost o vb bx w0 wj) (hE : ExitK b p mw ma J ks lost s0 (.pointer (some ⟨p, 0, none⟩)) s7 wj KX) : Code.wp Try.prog cSwitch (OnlyN KX) (frN 341 f) wj := by
  have HEX := Lib.hid hE
  have HI := Lib.hid hS.inv
  obtain ⟨L, C, hnet, hspec⟩ := hS.inv.net
  have HN := Lib.hid hnet
  have HP := Lib.hid hspec
  have hfew := hS.few
  have hll := hS.wide
  have hbw : b ≤ wj.heap.size := by have := hS.below.size; have := hS.start; omega
  have hbx := (Array.getElem?_eq_some_iff.1 hS.box).1
  have HX := Lib.hid hS.box
  have hlen := hS.len
  have HR := Lib.hid hr
  have HAP := Lib.hid hap
  obtain ⟨ja, jc, hva, -, -⟩ := hS.inv.items.at
  obtain ⟨ka, kc, hvc, -, -⟩ := OwL.at hS.inv.cuts
  rw [fr_lit, hs0, e3, e4, e5, e6, hs7, e8, e9, e10, e70]
  subst hva hvc
  clear hE hS hnet hspec hs0 e3 e4 e5 e6 hs7 e8 e9 e10 e70 hr hap
  have f2 : wj.cell? ⟨bx, 2, none⟩ = some (vi o.l.1) := by rw [cell_of HX.out]; rfl
  have f3 : wj.cell? ⟨bx, 3, none⟩ = some (vi o.l.2) := by rw [cell_of HX.out]; rfl
  rcases none_or L o.l o.n with hno | ⟨j, bs, hj, hbs⟩
  · have hneg := HP.out.none hno HR.out
    have HNO := Lib.hid hno
    have f1 : wj.cell? ⟨bx, 1, none⟩ = some (vi o.n) := by rw [cell_of HX.out]; rfl
    clear hno
    conv => arg 2; whnf
    by_cases hn0 : o.n < 0
    · go_wp2_with (go_at_call 18; refine (twice_none o.l o.n _ HN.out.mem hll HNO.out).mono ?_; rintro e w5 ⟨rfl, hb5⟩; have f1b := cell_later hb5 f1)
      exact HEX.out _ _ J ks lost rfl rfl rfl rfl rfl (by omega) (by omega) (by omega) (HI.out.later hb5) (hb5.mono hbw)
    · have hr0 : r < 0 := by omega
      go_wp2_with (go_at_call 18; refine (twice_none o.l o.n _ HN.out.mem hll HNO.out).mono ?_; rintro e w5 ⟨rfl, hb5⟩; have f1b := cell_later hb5 f1)
      exact HEX.out _ _ J ks lost rfl rfl rfl rfl rfl (by omega) (by omega) (by omega) (HI.out.later hb5) (hb5.mono hbw)
  · obtain ⟨q, x, rfl, hat, hpx, rfl, hpl⟩ := HP.out.some hbs (r := r) (fun n hn => HR.out n (hj.trans hn))
    have HAT := Lib.hid hat
    have HPX := Lib.hid hpx
    have HBS := Lib.hid hbs
    have f1 : wj.cell? ⟨bx, 1, none⟩ = some (vi (j : Int)) := by rw [← hj, cell_of HX.out]; rfl
    have hqJ : (q : Int) < (J.length : Int) := by omega
    have hq0 : ¬ ((q : Int) < 0) := by omega
    have hj0 : ¬ ((j : Int) < 0) := by omega
    have hx200 : x.2.length ≤ 200 := HP.out.short _ (List.mem_of_getElem? hpx)
    clear hat hpx hbs hj HR
    conv => arg 2; whnf
    go_upto_region 49 with (go_at_call 18; refine (twice_call (base := b) o.l j (byteI x.2) _ HN.out hbw (by omega) hll HBS.out (by rw [byteI_len]; omega)).mono ?_; rintro e w5 ⟨rfl, ⟨L', hn5, hc5, hc6⟩, hb5, hs5⟩)
    have HB5 := Lib.hid hb5
    have HBJ := Lib.hid hb5
    have hbw0 : b ≤ w5.heap.size := Nat.le_trans hbw hb5.size
    have HI5 := Lib.hid (HI.out.items.stays hs5)
    have HK5 := Lib.hid (show OwL b w5 (.slice ka ks.length kc) ks from own_stays HI.out.cuts hs5 (by decide) (by decide))
    have HN5 := Lib.hid hn5
    have HP5 := Lib.hid (HP.out.sent o.l x.1 x.2 hx200 hll hc5 hc6)
    have f1b : w5.cell? ⟨bx, 1, none⟩ = some (vi (j : Int)) := by
      rw [cell_of (hs5 _ _ _ HX.out (by decide) (by decide))]; rw [cell_of HX.out] at f1; exact f1
    clear hb5 hs5 hn5 hc5 hc6 f1 f2 f3
    obtain ⟨_, _, e5, hJm, hcl⟩ := HI5.out.at
    cases e5
    obtain ⟨gb, go, rfl, i0, i1, i2⟩ := hcl q (o.l, x) HPX.out
    have HIB := Lib.hid (show OwB b w5 x.1 (byteI x.2) from HI5.out.bytes (o.l, x) (List.mem_of_getElem? HPX.out))
    clear hcl
    have HA5 := Lib.hid ((Below.refl w5.heap.size w5).alloc (Nat.le_refl _) (.cells #[vi o.l.1, vi o.l.2, x.1] 45))
    have HI6 := Lib.hid (HI5.out.later HA5.out)
    have HSRC := Lib.hid (src_new (w := w5) (T := 45) (cs := #[vi o.l.1, vi o.l.2, x.1]) rfl rfl)
    have HONE := Lib.hid (show ∀ u ∈ [vi o.l.1, vi o.l.2, x.1], u.oneCell' = true from fun u hu => by
      obtain ⟨ax, lx, cx, hxv, -⟩ := HIB.out.rd.at
      simp only [List.mem_cons, List.not_mem_nil, or_false] at hu
      rcases hu with rfl | rfl | rfl
      · rfl
      · rfl
      · rw [hxv]; rfl)
    go_wp2_with (at_builtin; refine wpList_append_src rfl _ _ 38 rfl eltItem b J.length (J.flatMap itV) HI6.out.row rfl 1 [vi o.l.1, vi o.l.2, x.1] HSRC.out rfl HONE.out (by omega) (by omega) (by simp; omega) ?_; intro v9 w9 hr9 hg9 _; have HR9 := Lib.hid hr9; have HG9 := Lib.hid hg9; clear hr9 hg9)
    have ht := row_typed HI6.out.row
    refine HEX.out _ _ (J ++ [(o.l, x)]) ks lost rfl rfl rfl rfl rfl (by simp) (by omega) (by omega) ⟨⟨L', C, ?_, HP5.out⟩, ?_, ?_⟩ ?_
    · have := net_typed (HN5.out.later HA5.out) HG9.out ht (by decide) (by decide) (by decide)
      simpa using this
    · show ItemsS b w9 v9 _
      refine ItemsS.push HI6.out HG9.out (by simpa [itV] using HR9.out) (fun y hy => ?_)
      rw [List.mem_singleton] at hy
      subst hy
      exact World.ownsRow.alloc HIB.out _
    · exact own_typed (own_below HK5.out HA5.out) HG9.out ht (by decide)
    · exact (HBJ.out.trans (HA5.out.mono hbw0)).grown HG9.out (by simp; omega) (fun z hz => (World.ownsRow.lt HI6.out.row z hz).1)

end Go.Proofs.Ythpdenmbcjngkaa.linkRuns
