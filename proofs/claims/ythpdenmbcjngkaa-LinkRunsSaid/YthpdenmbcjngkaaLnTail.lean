/- The law LinkRuns: what is looked at behind each step. -/
import Derived.Test.YthpdenmbcjngkaaLnRun
import Derived.Test.YthpdenmbcjngkaaFrames
namespace Go.Proofs.Ythpdenmbcjngkaa.linkRuns
open Go.RowKit Go.Maps
attribute [local go_sem] Oper.semAt_some

/-- What holds between two steps. -/
structure Inv (b p mw ma : Nat) (va vc : Value) (J : List Itm) (ks : List LK) (lost : Nat) (W : World) : Prop where
  net : ∃ L C, NetS b p mw ma L C (J.length : Nat) (lost : Nat) W ∧ Spec J ks L C
  items : ItemsS b W va J
  cuts : OwL b W vc ks
theorem Inv.later {b p mw ma : Nat} {va vc : Value} {J : List Itm} {ks : List LK} {lost : Nat} {A B : World} (h : Inv b p mw ma va vc J ks lost A) (hb : Below A.heap.size A B) : Inv b p mw ma va vc J ks lost B := by
  obtain ⟨L, C, h1, h2⟩ := h.net
  exact ⟨⟨L, C, h1.later hb, h2⟩, h.items.later hb, own_below h.cuts hb⟩
theorem OwL.at {b : Nat} {W : World} {v : Value} {ks : List LK} (h : OwL b W v ks) : ∃ a cap, v = .slice a ks.length cap ∧ ks.length ≤ 9223372036854775807 ∧
    ∀ j x, ks[j]? = some x → ∃ b off, a = some ⟨b, off, none⟩ ∧ W.cell? ⟨b, off + j * 2, none⟩ = some (vi x.1) ∧ W.cell? ⟨b, off + j * 2 + 1, none⟩ = some (vi x.2) := by
  rcases h.2 with ⟨hv, h0⟩ | ⟨g, cap, cur, hv, hg, hh, hn, hcm, hs, ht⟩
  · have : ks = [] := List.length_eq_zero_iff.1 h0
    subst this
    exact ⟨none, 0, hv, by simp, fun j x hj => by simp at hj⟩
  · refine ⟨_, _, hv, by simp only [maxLen] at hcm; omega, fun j x hj => ⟨g, 0, rfl, ?_, ?_⟩⟩
    · have := World.ownsRow.cells h (g := g) (by rw [hv]; rfl) (j * 2 + 0) _ (flat_at lkC 2 (fun _ => rfl) ks j 0 x (vi x.1) hj rfl)
      rw [addr_add] at this; simpa using this
    · have := World.ownsRow.cells h (g := g) (by rw [hv]; rfl) (j * 2 + 1) _ (flat_at lkC 2 (fun _ => rfl) ks j 1 x (vi x.2) hj rfl)
      rw [addr_add] at this; simpa using this

set_option maxRecDepth 1000000 in
theorem fr_lit (f : Nat → Value) : frN 341 f = (⟨#[f 0, f 1, f 2, f 3, f 4, f 5, f 6, f 7, f 8, f 9, f 10, f 11, f 12, f 13, f 14, f 15, f 16, f 17, f 18, f 19, f 20, f 21, f 22, f 23, f 24, f 25, f 26, f 27, f 28, f 29, f 30, f 31, f 32, f 33, f 34, f 35, f 36, f 37, f 38, f 39, f 40, f 41, f 42, f 43, f 44, f 45, f 46, f 47, f 48, f 49, f 50, f 51, f 52, f 53, f 54, f 55, f 56, f 57, f 58, f 59, f 60, f 61, f 62, f 63, f 64, f 65, f 66, f 67, f 68, f 69, f 70, f 71, f 72, f 73, f 74, f 75, f 76, f 77, f 78, f 79, f 80, f 81, f 82, f 83, f 84, f 85, f 86, f 87, f 88, f 89, f 90, f 91, f 92, f 93, f 94, f 95, f 96, f 97, f 98, f 99, f 100, f 101, f 102, f 103, f 104, f 105, f 106, f 107, f 108, f 109, f 110, f 111, f 112, f 113, f 114, f 115, f 116, f 117, f 118, f 119, f 120, f 121, f 122, f 123, f 124, f 125, f 126, f 127, f 128, f 129, f 130, f 131, f 132, f 133, f 134, f 135, f 136, f 137, f 138, f 139, f 140, f 141, f 142, f 143, f 144, f 145, f 146, f 147, f 148, f 149, f 150, f 151, f 152, f 153, f 154, f 155, f 156, f 157, f 158, f 159, f 160, f 161, f 162, f 163, f 164, f 165, f 166, f 167, f 168, f 169, f 170, f 171, f 172, f 173, f 174, f 175, f 176, f 177, f 178, f 179, f 180, f 181, f 182, f 183, f 184, f 185, f 186, f 187, f 188, f 189, f 190, f 191, f 192, f 193, f 194, f 195, f 196, f 197, f 198, f 199, f 200, f 201, f 202, f 203, f 204, f 205, f 206, f 207, f 208, f 209, f 210, f 211, f 212, f 213, f 214, f 215, f 216, f 217, f 218, f 219, f 220, f 221, f 222, f 223, f 224, f 225, f 226, f 227, f 228, f 229, f 230, f 231, f 232, f 233, f 234, f 235, f 236, f 237, f 238, f 239, f 240, f 241, f 242, f 243, f 244, f 245, f 246, f 247, f 248, f 249, f 250, f 251, f 252, f 253, f 254, f 255, f 256, f 257, f 258, f 259, f 260, f 261, f 262, f 263, f 264, f 265, f 266, f 267, f 268, f 269, f 270, f 271, f 272, f 273, f 274, f 275, f 276, f 277, f 278, f 279, f 280, f 281, f 282, f 283, f 284, f 285, f 286, f 287, f 288, f 289, f 290, f 291, f 292, f 293, f 294, f 295, f 296, f 297, f 298, f 299, f 300, f 301, f 302, f 303, f 304, f 305, f 306, f 307, f 308, f 309, f 310, f 311, f 312, f 313, f 314, f 315, f 316, f 317, f 318, f 319, f 320, f 321, f 322, f 323, f 324, f 325, f 326, f 327, f 328, f 329, f 330, f 331, f 332, f 333, f 334, f 335, f 336, f 337, f 338, f 339, f 340], []⟩ : Act) := by rfl
noncomputable def cTail : Code := (Try.f4.body.bind (afterBlock 4)).getD .skip

set_option maxRecDepth 1000000 in
set_option maxHeartbeats 16000000 in
theorem tail_wp {b p mw ma : Nat} {va vc : Value} {J : List Itm} {ks : List LK} {lost : Nat} (wx : World) (f : Nat → Value) (Q0 : Exit → Act → World → Prop)
    (e3 : f 3 = .pointer (some ⟨p, 0, none⟩)) (e4 : f 4 = va) (e6 : f 6 = .int .i64 lost) (hI : Inv b p mw ma va vc J ks lost wx) (hJ : J.length ≤ 121) (hlo : lost ≤ 121) (hbx : b ≤ wx.heap.size)
    (hexit : ∀ (l : List Value) (w' : World), l.length = 341 → slotsOf l 0 = f 0 → slotsOf l 3 = f 3 → slotsOf l 4 = f 4 → slotsOf l 5 = f 5 → slotsOf l 6 = f 6 → slotsOf l 7 = f 7 → Below wx.heap.size wx w' → Q0 .normal ⟨l.toArray, []⟩ w') :
    Code.wp Try.prog cTail Q0 (frN 341 f) wx := by
  obtain ⟨s0, hs0⟩ : ∃ s, f 0 = s := ⟨_, rfl⟩
  obtain ⟨s5, hs5⟩ : ∃ s, f 5 = s := ⟨_, rfl⟩
  obtain ⟨s7, hs7⟩ : ∃ s, f 7 = s := ⟨_, rfl⟩
  have HEX := Lib.hid hexit
  rw [e3, e4, e6, hs0, hs5, hs7] at HEX
  have HI := Lib.hid hI
  obtain ⟨L, C, hnet, hspec⟩ := hI.net
  have HNx := Lib.hid hnet
  have HSx := Lib.hid hspec
  have HD := Lib.hid hnet.mem.ways.pairwise
  have HNE := Lib.hid hnet.ne
  have hLl : L.length ≤ 1048576 := by
    have h1 := ways_le hnet.ne
    have h2 := hnet.cnt
    omega
  have hcnt : sumW L = J.length := by have := hnet.cnt; omega
  obtain ⟨ja, jc, hva, -, -⟩ := hI.items.at
  rw [fr_lit, e3, e4, e6, hs0, hs5, hs7]
  subst hva
  clear hexit hI hnet hspec e3 e4 e6 hs0 hs5 hs7
  conv => arg 2; whnf
  go_upto_region 71 with (first
    | (go_at_call 10; refine (flying_call _ HNx.out.mem).mono ?_; rintro e w9 ⟨rfl, hb9⟩; have HB9 := Lib.hid hb9; have HN9 := Lib.hid (HNx.out.mem.later hb9); clear hb9)
    | (go_at_call 12; refine (lost_call _ HN9.out).mono ?_; rintro e w10 ⟨rfl, hb10⟩; have HB10 := Lib.hid (HB9.out.trans (hb10.mono HB9.out.size)); clear hb10))
  have hs10 := HB10.out.size
  have HIq := Lib.hid (HI.out.later HB10.out)
  have HNq := Lib.hid (HNx.out.mem.later HB10.out)
  clear HB9 HN9
  have HXq := Lib.hid (alloc_at w10 (.cells #[vi 0, vi 0] 29))
  have HBl := Lib.hid ((Below.refl w10.heap.size w10).alloc (Nat.le_refl _) (.cells #[vi 0, vi 0] 29))
  have hszq : (w10.alloc (.cells #[vi 0, vi 0] 29)).heap.size = w10.heap.size + 1 := by simp
  go_upto_region 73 with fail
  generalize w10.alloc (.cells #[vi 0, vi 0] 29) = w11 at *
  go_upto_region 74 with (go_at_call 11; refine (links_call _ (HNq.out.later HBl.out) hLl).mono ?_; rintro e w12 ⟨v8, ks8, rfl, ho8, hp8, hs8, hb8⟩; obtain ⟨a8, c8, hv8, hm8, -⟩ := OwL.at ho8; subst hv8)
  have HO8 := Lib.hid (show OwL (w10.heap.size + 1) w12 (.slice a8 ks8.length c8) ks8 by rw [← hszq]; exact ho8)
  have HP8 := Lib.hid hp8
  have HS8 := Lib.hid hs8
  have HB8 := Lib.hid (HBl.out.trans (hb8.mono HBl.out.size))
  have HXl := Lib.hid ((hb8.block w10.heap.size (by omega)).trans HXq.out)
  have HND := Lib.hid (show ks8.Nodup from (hp8.nodup_iff).2 (keys_nodup HD.out))
  have HSUM := Lib.hid (show sumK L ks8 = J.length by rw [sumK_perm hp8 HD.out, hcnt])
  have HOT := Lib.hid (show ∀ w13, Below w10.heap.size w10 w13 → Below wx.heap.size wx w13 from fun w13 h => HB10.out.trans (h.mono hs10))
  clear ho8 hp8 hs8 hb8 hcnt
  go_wp2_with fail
  refine wp_loopF 341 (fun m g wr => g 0 = s0 ∧ g 3 = .pointer (some ⟨p, 0, none⟩) ∧ g 4 = .slice ja J.length jc ∧ g 5 = s5 ∧ g 6 = .int .i64 lost ∧ g 7 = s7 ∧ g 23 = .pointer (some ⟨w10.heap.size, 0, none⟩) ∧ g 277 = .slice a8 ks8.length c8 ∧ g 278 = .int .i64 ks8.length ∧
    ∃ (j : Nat) (last : LK), j ≤ ks8.length ∧ m = ks8.length - j ∧ g 279 = .int .i64 j ∧ g 22 = .int .i64 (sumK L (ks8.take j) : Nat) ∧ wr.heap[w10.heap.size]? = some (.cells #[vi last.1, vi last.2] 29) ∧ (∀ j', j = j' + 1 → ks8[j']? = some last) ∧ Below w10.heap.size w10 wr ∧ OwL (w10.heap.size + 1) wr (.slice a8 ks8.length c8) ks8) _ rfl ks8.length ?start ?round
  case start => exact ⟨rfl, rfl, rfl, rfl, rfl, rfl, rfl, rfl, rfl, 0, (0, 0), Nat.zero_le _, rfl, rfl, rfl, HXl.out, (fun j' h => by omega), HB8.out, HO8.out⟩
  case round =>
    rintro gm g wr2 ⟨g0, g3, g4, g5, g6, g7, g23, g277, g278, j2, last, hj2, hgm, g279, g22, hxl, hla, hbl, hol⟩ JJ KK HJ HK
    have HXr := Lib.hid hxl
    have HBr := Lib.hid hbl
    have HOr := Lib.hid hol
    have HLA := Lib.hid hla
    have HJJ := Lib.hid HJ
    have HGM := Lib.hid hgm
    have hsr := hbl.size
    have hql := (Array.getElem?_eq_some_iff.1 hxl).1
    rw [fr_lit, g0, g3, g4, g5, g6, g7, g23, g277, g278, g279, g22]
    clear hxl hbl hol hla HJ hgm g0 g3 g4 g5 g6 g7 g23 g277 g278 g279 g22
    by_cases hjl2 : j2 < ks8.length
    · obtain ⟨c, hc⟩ := some_at hjl2
      obtain ⟨_, _, e5, -, hcl⟩ := OwL.at HOr.out
      cases e5
      obtain ⟨cb, co, rfl, c0, c1⟩ := hcl j2 c hc
      have hjI2 : (j2 : Int) < (ks8.length : Int) := by omega
      have HC := Lib.hid hc
      have hst := sumK_take (L := L) hc
      have hsl := sumK_le L ks8 (j2 + 1)
      have hmem : c ∈ L.map (·.1) := HP8.out.mem_iff.1 (List.mem_of_getElem? hc)
      have hm1 := key_has HD.out HNE.out hmem
      have hcon := HSx.out.con c
      have hlc : (conW L c).length = (ofK J c).length := by rw [hcon]; simp
      have hci : i64 c.1 ∧ i64 c.2 := by
        have h1 : 0 < (ofK J c).length := by omega
        have h2 : ∃ x ∈ J, x.1 = c := by
          have h3 : (ofK J c) ≠ [] := fun e => by rw [e] at h1; simp at h1
          unfold ofK at h3
          have h4 : J.filter (fun x => decide (x.1 = c)) ≠ [] := fun e => h3 (by rw [e]; rfl)
          obtain ⟨x, hx⟩ := List.exists_mem_of_ne_nil _ h4
          rw [List.mem_filter] at hx
          exact ⟨x, hx.1, of_decide_eq_true hx.2⟩
        obtain ⟨x, hx, rfl⟩ := h2
        exact HSx.out.wide x hx
      have HAT0 := Lib.hid (show ∀ r : Int, (∀ n : Nat, ((conW L c).length : Int) - 1 = (n : Int) → r = atI J c n) → 0 ≤ r from fun r hr => by
        have h1 := hr ((conW L c).length - 1) (by omega)
        cases hp : atJ J c ((conW L c).length - 1) with
        | none => rw [atJ_none] at hp; omega
        | some p => unfold atI at h1; rw [hp] at h1; simp only at h1; omega)
      have HAT1 := Lib.hid (show ∀ r : Int, (∀ n : Nat, ((conW L c).length : Int) = (n : Int) → r = atI J c n) → r = -1 from fun r hr => by
        have h1 := hr (conW L c).length rfl
        have h2 : atJ J c (conW L c).length = none := by rw [atJ_none]; omega
        unfold atI at h1; rw [h2] at h1; simpa using h1)
      have HNr := Lib.hid (HNq.out.later HBr.out)
      have HIr := Lib.hid (HIq.out.later HBr.out)
      have hsum := HSUM.out
      have hst2 : sumK L (ks8.take j2) + (conW L c).length ≤ 121 := by omega
      have HST := Lib.hid hst
      have HSTR := Lib.hid (show ∀ j', j2 = j' + 1 → last.1 < c.1 ∨ (last.1 = c.1 ∧ last.2 < c.2) from fun j' e => by
        subst e; exact strict_at HS8.out HND.out (HLA.out j' rfl) hc)
      clear hcl hc hcon hlc hmem hst hsl hsum
      obtain ⟨m, hm⟩ : ∃ m, (conW L c).length = m := ⟨_, rfl⟩
      have HLEN := Lib.hid (fun (w : World) (h : NetB b p mw ma L C J.length lost w) => (len_call c w h hci))
      rw [hm] at HAT0 HAT1 hm1 hst2 HST HLEN
      clear hm
      obtain ⟨sm, hsm⟩ : ∃ s, sumK L (ks8.take j2) = s := ⟨_, rfl⟩
      rw [hsm] at hst2 HST ⊢
      clear hsm
      have HXc := Lib.hid (alloc_at wr2 (.cells #[vi c.1, vi c.2] 29))
      have HBc := Lib.hid ((Below.refl wr2.heap.size wr2).alloc (Nat.le_refl _) (.cells #[vi c.1, vi c.2] 29))
      have hszc : (wr2.alloc (.cells #[vi c.1, vi c.2] 29)).heap.size = wr2.heap.size + 1 := by simp
      go_upto_region 76 with fail
      clear c0 c1
      generalize wr2.alloc (.cells #[vi c.1, vi c.2] 29) = w13 at *
      have g0 : w13.cell? ⟨wr2.heap.size, 0, none⟩ = some (vi c.1) := by rw [cell_of HXc.out]; rfl
      have g1 : w13.cell? ⟨wr2.heap.size, 1, none⟩ = some (vi c.2) := by rw [cell_of HXc.out]; rfl
      have hm1I : ¬ ((m : Int) < 1) := by omega
      have HN13 := Lib.hid (HNr.out.later HBc.out)
      have HI13 := Lib.hid (HIr.out.later HBc.out)
      have HX13 := Lib.hid ((HBc.out.block w10.heap.size hql).trans HXr.out)
      have HB13 := Lib.hid (HBr.out.trans (HBc.out.mono hsr))
      have HO13 := Lib.hid (own_below HOr.out HBc.out)
      have hs13 : wr2.heap.size < w13.heap.size := by omega
      have hq13 : w10.heap.size < w13.heap.size := by omega
      go_cut [312] from 284 to 312 (fun r wz => r = .bool false ∧ Below w13.heap.size w13 wz)
      case first =>
        cases j2 with
        | zero =>
          go_wp2_with (go_at_call 21; refine (HLEN.out _ HN13.out).mono ?_; rintro e w14 ⟨rfl, hb14⟩)
          go_meet
          exact ⟨by rw [decide_eq_false (show ¬ ((m : Int) < 1) by omega)], hb14⟩
        | succ j' =>
          have l0 : w13.cell? ⟨w10.heap.size, 0, none⟩ = some (vi last.1) := by rw [cell_of HX13.out]; rfl
          have l1 : w13.cell? ⟨w10.heap.size, 1, none⟩ = some (vi last.2) := by rw [cell_of HX13.out]; rfl
          have hpos : (0 : Int) < (j' : Int) + 1 := by omega
          rcases HSTR.out j' rfl with h1 | ⟨h1, h2⟩
          · have h3 : ¬ (c.1 < last.1) := by omega
            have h4 : (c.1 == last.1) = false := by simp; omega
            go_wp2_with (go_at_call 21; refine (HLEN.out _ HN13.out).mono ?_; rintro e w14 ⟨rfl, hb14⟩; have g0' := cell_later hb14 g0; have g1' := cell_later hb14 g1; have l0' := cell_later hb14 l0; have l1' := cell_later hb14 l1)
            go_meet
            exact ⟨by rw [decide_eq_false (show ¬ ((m : Int) < 1) by omega), decide_eq_false (show ¬ (c.1 < last.1) by omega)]; rfl, hb14⟩
          · have h3 : ¬ (c.1 < last.1) := by omega
            have h4 : (c.1 == last.1) = true := by simp; omega
            have h5 : ¬ (c.2 ≤ last.2) := by omega
            go_wp2_with (go_at_call 21; refine (HLEN.out _ HN13.out).mono ?_; rintro e w14 ⟨rfl, hb14⟩; have g0' := cell_later hb14 g0; have g1' := cell_later hb14 g1; have l0' := cell_later hb14 l0; have l1' := cell_later hb14 l1)
            go_meet
            exact ⟨by rw [decide_eq_false (show ¬ ((m : Int) < 1) by omega), decide_eq_false (show ¬ (c.2 ≤ last.2) by omega)]; rfl, hb14⟩
      case rest =>
        obtain ⟨wz, rfl⟩ : ∃ wz : World, wz = wc := ⟨_, rfl⟩
        obtain ⟨rfl, hbz⟩ := hcut
        have HNz := Lib.hid (HN13.out.later hbz)
        have HXcz := Lib.hid ((hbz.block wr2.heap.size hs13).trans HXc.out)
        have HXz := Lib.hid ((hbz.block w10.heap.size hq13).trans HX13.out)
        have hsz := hbz.size
        have HBz := Lib.hid hbz
        clear hbz g0 g1
        have g0 : wz.cell? ⟨wr2.heap.size, 0, none⟩ = some (vi c.1) := by rw [cell_of HXcz.out]; rfl
        have g1 : wz.cell? ⟨wr2.heap.size, 1, none⟩ = some (vi c.2) := by rw [cell_of HXcz.out]; rfl
        go_upto_region 79 with (go_at_call 21; refine (HLEN.out _ HNz.out).mono ?_; rintro e w14 ⟨rfl, hb14⟩)
        have HBy := Lib.hid (HBz.out.trans (hb14.mono hsz))
        have HXcy := Lib.hid ((hb14.block wr2.heap.size (by omega)).trans HXcz.out)
        have HXy := Lib.hid ((hb14.block w10.heap.size (by omega)).trans HXz.out)
        have hsy := HBy.out.size
        clear hb14 g0 g1
        have g0 : w14.cell? ⟨wr2.heap.size, 0, none⟩ = some (vi c.1) := by rw [cell_of HXcy.out]; rfl
        have g1 : w14.cell? ⟨wr2.heap.size, 1, none⟩ = some (vi c.2) := by rw [cell_of HXcy.out]; rfl
        have l0 : w14.cell? ⟨w10.heap.size, 0, none⟩ = some (vi last.1) := by rw [cell_of HXy.out]; rfl
        have l1 : w14.cell? ⟨w10.heap.size, 1, none⟩ = some (vi last.2) := by rw [cell_of HXy.out]; rfl
        have z0 : w14.frozen? ⟨w10.heap.size, 0, none⟩ = false := free_of HXy.out 0
        have z1 : w14.frozen? ⟨w10.heap.size, 1, none⟩ = false := free_of HXy.out 1
        go_upto_region 80 with fail
        have HX15 := Lib.hid (show ((w14.setCell ⟨w10.heap.size, 0, none⟩ (vi c.1)).setCell ⟨w10.heap.size, 1, none⟩ (vi c.2)).heap[w10.heap.size]? = some (.cells #[vi c.1, vi c.2] 29) by
          rw [heap_setCell_same (w14.setCell ⟨w10.heap.size, 0, none⟩ (vi c.1)) w10.heap.size 1 _ _ _ (heap_setCell_same w14 w10.heap.size 0 _ _ _ HXy.out)]; rfl)
        have HG15 := Lib.hid (show w14.grownBy ((w14.setCell ⟨w10.heap.size, 0, none⟩ (vi c.1)).setCell ⟨w10.heap.size, 1, none⟩ (vi c.2)) (some w10.heap.size) from
          ⟨rfl, rfl, rfl, by simp, fun k _ hk => (heap_setCell_other _ ⟨w10.heap.size, 1, none⟩ k _ (fun e => hk (by simp [e]))).trans (heap_setCell_other w14 ⟨w10.heap.size, 0, none⟩ k _ (fun e => hk (by simp [e])))⟩)
        have HB15 := Lib.hid (((HB13.out.trans (HBy.out.mono (by omega))).setCell (Nat.le_refl _) (vi c.1) (p := ⟨w10.heap.size, 0, none⟩)).setCell (Nat.le_refl _) (vi c.2) (p := ⟨w10.heap.size, 1, none⟩))
        have HO15 := Lib.hid (own_keptBelow (own_below HO13.out HBy.out) HG15.out (by omega))
        have HXc15 := Lib.hid ((HG15.out.block wr2.heap.size (by omega) (by simp; omega)).trans HXcy.out)
        clear g0 g1 l0 l1 z0 z1
        generalize (w14.setCell ⟨w10.heap.size, 0, none⟩ (vi c.1)).setCell ⟨w10.heap.size, 1, none⟩ (vi c.2) = w15 at *
        go_cut [335] from 313 to 335 (fun r wv => r = .bool false ∧ Below w15.heap.size w15 wv)
        case first =>
          have g0 : w15.drew.cell? ⟨wr2.heap.size, 0, none⟩ = some (vi c.1) := by show w15.cell? _ = _; rw [cell_of HXc15.out]; rfl
          have g1 : w15.drew.cell? ⟨wr2.heap.size, 1, none⟩ = some (vi c.2) := by show w15.cell? _ = _; rw [cell_of HXc15.out]; rfl
          have HBd := Lib.hid ((Below.refl w15.heap.size w15).drew)
          have HNd := Lib.hid (HNq.out.later (HB15.out.drew))
          have HId := Lib.hid (HIq.out.items.later (HB15.out.drew))
          have hwm : IntKind.i64.wrap ((m : Int) - 1) = (m : Int) - 1 := IntWalk.i64_in _ (by omega)
          have FL1 : Hid True := trivial
          go_region_held3 (fun w' : World => w'.cell? ⟨wr2.heap.size, 0, none⟩ = some (vi c.1) ∧ w'.cell? ⟨wr2.heap.size, 1, none⟩ = some (vi c.2)) (first | exact ⟨g0, g1⟩ | exact ⟨g0', g1'⟩ | exact ⟨g0'', g1''⟩ | exact ⟨h0', h1'⟩ | exact ⟨h0'', h1''⟩)
            (first
              | (go_at_call 21; clear FL1; refine (HLEN.out _ HNd.out).mono ?_; rintro e w16 ⟨rfl, hb16⟩; have g0' := cell_later hb16 g0; have g1' := cell_later hb16 g1; have HB16 := Lib.hid (HBd.out.trans hb16); have HI16 := Lib.hid (HId.out.later hb16); have HN16 := Lib.hid (HNd.out.later hb16); clear hb16; have FL2 : Hid True := trivial)
              | (go_at_call 13; clear FL2; refine (at_call _ J c ((m : Int) - 1) _ HI16.out (by omega)).mono ?_; rintro e w17 ⟨r1, rfl, hr1, hb17⟩; have hr1' := HAT0.out r1 hr1; obtain ⟨p1, rfl⟩ : ∃ p1 : Nat, r1 = (p1 : Int) := ⟨r1.toNat, by omega⟩; clear hr1'; have g0'' := cell_later hb17 g0'; have g1'' := cell_later hb17 g1'; have HB17 := Lib.hid (HB16.out.trans (hb17.mono HB16.out.size)); have HI17 := Lib.hid (HI16.out.later hb17); have HN17 := Lib.hid (HN16.out.later hb17); clear hb17 hr1; have FL3 : Hid True := trivial)
              | (go_at_call 21; clear FL3; refine (HLEN.out _ HN17.out).mono ?_; rintro e w18 ⟨rfl, hb18⟩; have h0' := cell_later hb18 g0''; have h1' := cell_later hb18 g1''; have HB18 := Lib.hid (HB17.out.trans (hb18.mono HB17.out.size)); have HI18 := Lib.hid (HI17.out.later hb18); clear hb18; have FL4 : Hid True := trivial)
              | (go_at_call 13; clear FL4; refine (at_call _ J c (m : Int) _ HI18.out (by omega)).mono ?_; rintro e w19 ⟨r2, rfl, hr2, hb19⟩; obtain rfl := HAT1.out r2 hr2; have h0'' := cell_later hb19 h0'; have h1'' := cell_later hb19 h1'; have HB19 := Lib.hid (HB18.out.trans (hb19.mono HB18.out.size)); clear hb19 hr2))
          all_goals
            go_wp2
            go_meet
            exact ⟨rfl, HB19.out⟩
        case rest =>
          obtain ⟨wv, rfl⟩ : ∃ wv : World, wv = wc := ⟨_, rfl⟩
          obtain ⟨rfl, hbv⟩ := hcut
          have HBv := Lib.hid hbv
          have hs15 := HB15.out.size
          clear hbv
          go_wp2_with fail
          refine Handed.intro (ks8.length - (j2 + 1)) (by rw [HGM.out]; omega) (HJJ.out _ _ _ rfl ⟨rfl, rfl, rfl, rfl, rfl, rfl, rfl, rfl, rfl, j2 + 1, c, by omega, rfl, ?_, ?_, ?_, ?_, ?_, ?_⟩)
          · show Value.int .i64 _ = _
            go_num
          · show Value.int .i64 _ = _
            rw [HST.out]
            go_num
          · exact (HBv.out.block w10.heap.size (Array.getElem?_eq_some_iff.1 HX15.out).1).trans HX15.out
          · intro j' e
            obtain rfl : j2 = j' := by omega
            exact HC.out
          · exact HB15.out.trans (HBv.out.mono hs15)
          · exact own_below HO15.out HBv.out
    · obtain rfl : j2 = ks8.length := by omega
      rw [List.take_length, HSUM.out]
      go_wp2_with fail
      exact HEX.out _ _ rfl rfl rfl rfl rfl rfl rfl (HOT.out _ HBr.out)
end Go.Proofs.Ythpdenmbcjngkaa.linkRuns
