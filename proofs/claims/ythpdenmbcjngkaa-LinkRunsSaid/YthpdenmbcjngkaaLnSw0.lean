/- The law LinkRuns: the step that sends. -/
import Derived.Test.YthpdenmbcjngkaaLnSwM
import Derived.Deep.RegionLaw
namespace Go.Proofs.Ythpdenmbcjngkaa.linkRuns
open Go.RowKit Go.Maps
attribute [local go_sem] Oper.semAt_some

/-- What is known where a step begins. -/
structure Step (b p mw ma : Nat) (va vc : Value) (J : List Itm) (ks : List LK) (lost : Nat) (o : OpL) (vb : Value) (bx : Nat) (w0 W : World) : Prop where
  inv : Inv b p mw ma va vc J ks lost W
  start : w0.heap.size = b
  bytes : RdU w0 vb o.b
  below : Below b w0 W
  box : W.heap[bx]? = some (.cells #[vi o.k, vi o.n, vi o.l.1, vi o.l.2, vb] 40)
  len : o.b.length ≤ 200
  wide : i64 o.l.1 ∧ i64 o.l.2
  num : i64 o.n
  few : J.length ≤ 119 ∧ lost ≤ 119 ∧ ks.length ≤ 119
theorem Step.rd {b p mw ma : Nat} {va vc : Value} {J : List Itm} {ks : List LK} {lost : Nat} {o : OpL} {vb : Value} {bx : Nat} {w0 W : World} (h : Step b p mw ma va vc J ks lost o vb bx w0 W) {W' : World} (hb : Below b w0 W') : RdU W' vb o.b := by
  refine RdB8.later h.bytes ?_
  rw [h.start]; exact hb
def ExitK (b p mw ma : Nat) (J : List Itm) (ks : List LK) (lost : Nat) (s0 s3 s7 : Value) (wj : World) (K : Act → World → Prop) : Prop :=
  ∀ (l : List Value) (w' : World) (J' : List Itm) (ks' : List LK) (lost' : Nat), l.length = 341 → slotsOf l 0 = s0 → slotsOf l 3 = s3 → slotsOf l 7 = s7 → slotsOf l 6 = .int .i64 lost' → J'.length ≤ J.length + 1 → lost' ≤ lost + 1 → ks'.length ≤ ks.length + 1 →
    Inv b p mw ma (slotsOf l 4) (slotsOf l 5) J' ks' lost' w' → Below b wj w' → K ⟨l.toArray, []⟩ w'
noncomputable def cSwitch : Code := (Try.f4.body.bind (blockOf 4)).getD .skip

set_option maxRecDepth 1000000 in
set_option maxHeartbeats 16000000 in
theorem sw0 {b p mw ma : Nat} {va vc : Value} {J : List Itm} {ks : List LK} {lost : Nat} {o : OpL} {vb : Value} {bx : Nat} {w0 : World} (wj : World) (f : Nat → Value) (KX : Act → World → Prop) (s0 s7 : Value)
    (hs0 : f 0 = s0) (e3 : f 3 = .pointer (some ⟨p, 0, none⟩)) (e4 : f 4 = va) (e5 : f 5 = vc) (e6 : f 6 = .int .i64 lost) (hs7 : f 7 = s7) (e8 : f 8 = .pointer (some ⟨bx, 0, none⟩)) (e70 : f 70 = .int .i64 0)
    (hS : Step b p mw ma va vc J ks lost o vb bx w0 wj) (hE : ExitK b p mw ma J ks lost s0 (.pointer (some ⟨p, 0, none⟩)) s7 wj KX) : Code.wp Try.prog cSwitch (OnlyN KX) (frN 341 f) wj := by
  have HEX := Lib.hid hE
  have HS := Lib.hid hS
  have HI := Lib.hid hS.inv
  obtain ⟨L, C, hnet, hspec⟩ := hS.inv.net
  have HN := Lib.hid hnet
  have HP := Lib.hid hspec
  have hfew := hS.few
  have hll := hS.wide
  have hbw : b ≤ wj.heap.size := by have := hS.below.size; have := hS.start; omega
  have hbx := (Array.getElem?_eq_some_iff.1 hS.box).1
  have HX := Lib.hid hS.box
  obtain ⟨ba, bl, bc, hvb, hbl, hbm, -, -⟩ := hS.bytes.at
  rw [byteI_len] at hbl hbm
  subst hbl
  have HV := Lib.hid (show ∀ W', Below b wj W' → RdU W' vb o.b from fun W' h => hS.rd (hS.below.trans h))
  have hlen := hS.len
  obtain ⟨ja, jc, hva, -, -⟩ := hS.inv.items.at
  obtain ⟨ka, kc, hvc, -, -⟩ := OwL.at hS.inv.cuts
  rw [fr_lit, hs0, e3, e4, e5, e6, hs7, e8, e70]
  subst hva hvc hvb
  clear hE hS hnet hspec hs0 e3 e4 e5 e6 hs7 e8 e70
  have f4 : wj.cell? ⟨bx, 4, none⟩ = some (.slice ba o.b.length bc) := by rw [cell_of HX.out]; rfl
  conv => arg 2; whnf
  go_upto_region 22 with (go_at_call 15; refine (copy_call _ (byteI o.b) _ (HV.out _ (Below.refl _ _)) (by rw [byteI_len]; omega)).mono ?_; rintro e w5 ⟨v5, rfl, ho5, hb5⟩; obtain ⟨a5, l5, c5, rfl, hl5, -, hn5, hc5⟩ := ho5.rd.at; rw [byteI_len] at hl5; subst hl5)
  have HO5 := Lib.hid ho5
  have HB5 := Lib.hid hb5
  have hs5 := hb5.size
  have HI5 := Lib.hid (HI.out.later hb5)
  have HN5 := Lib.hid (HN.out.later hb5)
  have HX5 := Lib.hid ((hb5.block bx hbx).trans HX.out)
  clear ho5 hb5 hc5 f4 hn5
  have f2 : w5.cell? ⟨bx, 2, none⟩ = some (vi o.l.1) := by rw [cell_of HX5.out]; rfl
  have f3 : w5.cell? ⟨bx, 3, none⟩ = some (vi o.l.2) := by rw [cell_of HX5.out]; rfl
  go_upto_region 24 with (go_at_call 8; refine (send_fresh (base := b) o.l _ (byteI o.b) _ HN5.out (by omega) (by omega) hll HO5.out.rd (by rw [byteI_len]; omega)).mono ?_; rintro e w6 ⟨rfl, ⟨L', hn6, ⟨hc6, hc7⟩, hfr6⟩, hb6, hs6⟩)
  have HN6 := Lib.hid hn6
  have HP6 := Lib.hid (show ∀ v, Spec (J ++ [(o.l, v, o.b)]) ks L' C from fun v => HP.out.sent o.l v o.b hlen hll hc6 hc7)
  have HS6 := Lib.hid hs6
  have HB6 := Lib.hid ((HB5.out.mono hbw).trans hb6)
  have HI6 := Lib.hid (HI5.out.items.stays hs6)
  have HK6 := Lib.hid (show OwL b w6 _ ks from own_stays HI5.out.cuts hs6 (by decide) (by decide))
  have HX6 := Lib.hid (hs6 _ _ _ HX5.out (by decide) (by decide))
  have HO6 := Lib.hid (show OwB wj.heap.size w6 _ (byteI o.b) from own_stays HO5.out hs6 (by decide) (by decide))
  have HFR := Lib.hid (show ∀ g, (Value.slice a5 o.b.length c5).ownBlock = some g → ∀ x ∈ L', ∀ m ∈ x.2.2, m.1.ownBlock ≠ some g from fun g hg x hx m hm e => by
    have h1 := (World.ownsRow.lt HO5.out g hg)
    rcases hfr6 x hx m hm with ⟨y, hy, hmy⟩ | h2
    · have h3 := (World.ownsRow.lt ((HN.out.mem.way y hy).msgs m hmy) g e).2
      omega
    · have h3 := h2 g e
      omega)
  clear hn6 hc6 hc7 hfr6 hb6 hs6 f2 f3
  go_wp2_with fail
  refine wp_loopF 341 (fun m g wr => g 0 = s0 ∧ g 3 = .pointer (some ⟨p, 0, none⟩) ∧ g 4 = .slice ja J.length jc ∧ g 5 = .slice ka ks.length kc ∧ g 6 = .int .i64 lost ∧ g 7 = s7 ∧ g 8 = .pointer (some ⟨bx, 0, none⟩) ∧ g 13 = .slice a5 o.b.length c5 ∧ g 83 = .int .i64 o.b.length ∧
    ∃ (k : Nat) (cs : List Int), k ≤ o.b.length ∧ m = o.b.length - k ∧ g 84 = .int .i64 k ∧ cs.length = o.b.length ∧ OwB wj.heap.size wr (.slice a5 o.b.length c5) cs ∧ w6.grownBy wr (Value.slice a5 o.b.length c5).ownBlock) _ rfl o.b.length ?start ?round
  case start => exact ⟨rfl, rfl, rfl, rfl, rfl, rfl, rfl, rfl, rfl, 0, byteI o.b, Nat.zero_le _, rfl, rfl, byteI_len _, HO6.out, ⟨rfl, rfl, rfl, Nat.le_refl _, fun _ _ _ => rfl⟩⟩
  case round =>
    rintro gm g wr ⟨g0, g3, g4, g5, g6, g7, g8, g13, g83, k, cs, hk, hgm, g84, hcs, how, hgr⟩ JJ KK HJ HK
    have HOr := Lib.hid how
    have HGr := Lib.hid hgr
    have HJJ := Lib.hid HJ
    have HGM := Lib.hid hgm
    have HCS := Lib.hid hcs
    rw [fr_lit, g0, g3, g4, g5, g6, g7, g8, g13, g83, g84]
    clear how hgr HJ hgm g0 g3 g4 g5 g6 g7 g8 g13 g83 g84
    by_cases hkl : k < o.b.length
    · obtain ⟨y, hy⟩ := some_at (l := cs) (k := k) (by omega)
      obtain ⟨_, _, _, e5, -, -, -, hcl⟩ := HOr.out.rd.at
      cases e5
      obtain ⟨g, off, hga, c0⟩ := hcl k y hy
      obtain rfl : off = 0 := by
        rcases HOr.out.2 with ⟨hv, _⟩ | ⟨g', cap, cur, hv, _⟩
        · rw [hga] at hv; simp at hv
        · rw [hga] at hv; simp only [Value.slice.injEq, Option.some.injEq, Addr.mk.injEq] at hv; exact hv.1.2.1
      have HGA := Lib.hid hga
      subst hga
      rw [Nat.zero_add] at c0
      have hkI : (k : Int) < (o.b.length : Int) := by omega
      obtain ⟨cur, hcur⟩ := row_typed HOr.out g rfl
      have z0 : wr.frozen? ⟨g, k, none⟩ = false := free_of hcur k
      have hkc : k < cs.length := by omega
      clear hcl hy hcur hcs
      go_wp2_with fail
      refine Handed.intro (o.b.length - (k + 1)) (by rw [HGM.out]; omega) (HJJ.out _ _ _ rfl ⟨rfl, rfl, rfl, rfl, rfl, rfl, rfl, rfl, rfl, k + 1, _, by omega, rfl, ?_, ?_, (own_set HOr.out rfl hkc _).1, grown_trans HGr.out (own_set HOr.out rfl hkc _).2.1⟩)
      · show Value.int .i64 _ = _
        go_num
      · rw [List.length_set]; exact HCS.out
    · obtain rfl : k = o.b.length := by omega
      have HTy := Lib.hid (row_typed HO6.out)
      have HNr := Lib.hid (net_bytes HN6.out HGr.out HTy.out HFR.out)
      have HIr := Lib.hid (show ItemsS b wr (.slice ja J.length jc) J from ⟨own_typed HI6.out.row HGr.out HTy.out (by decide), fun x hx => World.ownsRow.kept (HI6.out.bytes x hx) HGr.out (by
        cases hx1 : x.2.1.ownBlock with
        | none => exact .inl rfl
        | some q =>
          right; intro e
          have h1 := (World.ownsRow.lt (HI.out.items.bytes x hx) q hx1).2
          have h2 := (World.ownsRow.lt HO6.out q e.symm).1
          omega)⟩)
      have HKr := Lib.hid (show OwL b wr (.slice ka ks.length kc) ks from own_typed HK6.out HGr.out HTy.out (by decide))
      have HXr := Lib.hid (block_kept HGr.out HX6.out (typed_ne HTy.out HX6.out (by decide)))
      have HBr := Lib.hid (HB6.out.grown HGr.out (Nat.le_trans hbw HB6.out.size) (fun q hq => Nat.le_trans hbw (World.ownsRow.lt HO6.out q hq).1))
      have hbr : b ≤ wr.heap.size := Nat.le_trans hbw HBr.out.size
      clear hcs
      have f2 : wr.drew.cell? ⟨bx, 2, none⟩ = some (vi o.l.1) := by show wr.cell? _ = _; rw [cell_of HXr.out]; rfl
      have f3 : wr.drew.cell? ⟨bx, 3, none⟩ = some (vi o.l.2) := by show wr.cell? _ = _; rw [cell_of HXr.out]; rfl
      have f4 : wr.drew.cell? ⟨bx, 4, none⟩ = some (.slice ba o.b.length bc) := by show wr.cell? _ = _; rw [cell_of HXr.out]; rfl
      have HVd := Lib.hid (HV.out _ (HBr.out.drew))
      have HId := Lib.hid (HIr.out.later ((Below.refl wr.heap.size wr).drew))
      have HKd := Lib.hid (show OwL b wr.drew _ ks from own_below HKr.out ((Below.refl wr.heap.size wr).drew))
      have HNd := Lib.hid (HNr.out.later ((Below.refl wr.heap.size wr).drew))
      have HBd := Lib.hid (HBr.out.drew)
      have hone : ∀ (a : Option Addr) (n c : Nat), ∀ u ∈ [vi o.l.1, vi o.l.2, Value.slice a n c], u.oneCell' = true := by
        intro a n c u hu; simp at hu; rcases hu with rfl | rfl | rfl <;> rfl
      go_wp2_with fail
      go_region_law (first
        | (go_simp; go_at_call 15; refine (copy_call _ (byteI o.b) _ HVd.out (by rw [byteI_len]; omega)).mono ?_; rintro e w8 ⟨v8, rfl, ho8, hb8⟩; obtain ⟨a8, l8, c8, rfl, hl8, -, -, -⟩ := ho8.rd.at; rw [byteI_len] at hl8; subst hl8; have f2' := cell_later hb8 f2; have f3' := cell_later hb8 f3; have f4' := cell_later hb8 f4; have HO8 := Lib.hid ho8; have HB8 := Lib.hid hb8; have hs8 : b ≤ w8.heap.size := Nat.le_trans hbr hb8.size; have HA8 := Lib.hid (hb8.alloc hb8.size (.cells #[vi o.l.1, vi o.l.2, .slice a8 o.b.length c8] 45)); have HI8 := Lib.hid (HId.out.later HA8.out); have HSRC := Lib.hid (src_new (w := w8) (T := 45) (cs := #[vi o.l.1, vi o.l.2, .slice a8 o.b.length c8]) rfl rfl); clear ho8 hb8)
        | (refine step_append_src rfl _ _ 38 rfl eltItem b J.length (J.flatMap itV) HI8.out.row rfl 1 [vi o.l.1, vi o.l.2, .slice a8 o.b.length c8] HSRC.out rfl (hone _ _ _) (by omega) (by omega) (by simp; omega) ?_; intro v9 w9 hr9 hg9 _; have HR9 := Lib.hid hr9; have HG9 := Lib.hid hg9; clear hr9 hg9))
      all_goals
        go_wp2
        have ht := row_typed HI8.out.row
        refine HEX.out _ _ (J ++ [(o.l, .slice a8 o.b.length c8, o.b)]) ks lost rfl rfl rfl rfl rfl (by simp) (by omega) (by omega) ⟨⟨L', C, ?_, HP6.out _⟩, ?_, ?_⟩ ?_
        · have := net_typed (HNd.out.later HA8.out) HG9.out ht (by decide) (by decide) (by decide)
          simpa using this
        · show ItemsS b w9 v9 _
          refine ItemsS.push HI8.out HG9.out (by simpa [itV] using HR9.out) (fun x hx => ?_)
          rw [List.mem_singleton] at hx
          subst hx
          exact World.ownsRow.alloc (own_mono HO8.out (show b ≤ wr.drew.heap.size from hbr)) _
        · exact own_typed (own_below HKd.out HA8.out) HG9.out ht (by decide)
        · exact (HBd.out.trans (HA8.out.mono hbr)).grown HG9.out (by simp; omega) (fun q hq => (World.ownsRow.lt HI8.out.row q hq).1)
end Go.Proofs.Ythpdenmbcjngkaa.linkRuns
