/- Texts of one proof, one behind the other: L12s. -/
import Derived.Shelf.SlSortCmp.Insertion
import Derived.Sort.Walk13a
import Derived.Sort.AssemblyPlain
import Derived.Sort.WalkB2
import Derived.Sort.WalkB3
import Derived.BigQuiet
import Derived.Shelf.SlSortCmp.BreakPatterns1
import Derived.Sort.LotD1
import Derived.Sort.WalkB12
import Derived.Shelf.SlGeneric
import Derived.Shelf.SlLaysF
import Derived.Test.YtnacoplokjdglaaGreatProg
import Derived.Sort.Walk13
import Derived.Shelf.SlSortCmp.Kit1
import Derived.Sort.WalkA
import Derived.Sort.Lot0
import Derived.Test.YtnacoplokjdglaaGreatKp1
import Derived.Test.YtnacoplokjdglaaGreatKp2
import Derived.Test.YtnacoplokjdglaaGreatKp3
import Derived.Test.YtnacoplokjdglaaGreatKp4
import Derived.Test.YtnacoplokjdglaaGreatKp5
import Derived.Test.YtnacoplokjdglaaGreatKp6
import Derived.Test.YtnacoplokjdglaaGreatKp7
import Derived.Test.YtnacoplokjdglaaGreatKp8
import Derived.Test.YtnacoplokjdglaaGreatKp9
import Derived.Test.YtnacoplokjdglaaGreatKp10
import Derived.Test.YtnacoplokjdglaaGreatKp11
import Derived.Test.YtnacoplokjdglaaGreatKp12
import Derived.Test.YtnacoplokjdglaaGreatKp13
import Derived.Test.YtnacoplokjdglaaGreatKp14
import Derived.Test.YtnacoplokjdglaaGreatKp15
import Derived.Test.YtnacoplokjdglaaGreatKp16
import Derived.Test.YtnacoplokjdglaaGreatKp17
import Derived.Test.YtnacoplokjdglaaGreatKp18
import Derived.Test.YtnacoplokjdglaaGreatKp19
import Derived.Test.YtnacoplokjdglaaGreatKp20
import Derived.Test.YtnacoplokjdglaaGreatKp21
import Derived.Test.YtnacoplokjdglaaGreatKp22
import Derived.Test.YtnacoplokjdglaaGreatKp23
import Derived.Test.YtnacoplokjdglaaGreatKp24
import Derived.Test.YtnacoplokjdglaaGreatKs1
import Derived.Test.YtnacoplokjdglaaGreatKs2
import Derived.Test.YtnacoplokjdglaaGreatKs3
set_option linter.all false
namespace Go.Proofs.YtnacoplokjdglaaGreat
open Go.RowKit Go.Maps
/-- What cert.Holds says, as far as it is sound. -/
def SoundQ (es : List GEvent) (level k : Int) (w : World) (e : Ending) (w' : World) : Prop := ∃ b : Bool, e = .returned (.bool b) ∧ (histH es = none ∨ (level ≠ 1 ∧ level ≠ 2) → b = (k == 0)) ∧
  (∀ ts, histH es = some ts → (level = 1 ∨ level = 2) → b = true → (k = 1 ∧ flawsM ts = [] ∧ (tree0 ts level).res = true) ∨ (k = 2 ∧ ¬ (flawsM ts = [] ∧ (tree0 ts level).res = true))) ∧ Below w.heap.size w w'

theorem holds_sound (v vv : Value) (es : List GEvent) (level : Int) (x : VdX) (w : World) (hv : RdEvents w v es) (hx : VdV w vv x) (hb : NotBig es x.N x.dn.length x.O) :
    Calls Tryz.prog 25 #[v, vi level, vv] w (SoundQ es level x.k w) := by
  obtain ⟨rfl, hN, hd, hO⟩ := hx
  have hes : es.length ≤ 60 := by have := hb.es; omega
  have bad : ∀ (_ : histH es = none ∨ (level ≠ 1 ∧ level ≠ 2)), Calls Tryz.prog 25 #[v, vi level, .agg #[vi x.k, vi x.s, vi x.f.1, vi x.f.2.1, vi x.f.2.2, .slice x.na x.N.length x.nc, .slice x.da x.dn.length x.dc, .map x.om]] w (SoundQ es level x.k w) := fun h => by
    refine (holds_bad v es level x.k x.s x.f x.na x.N.length x.nc x.da x.dn.length x.dc x.om w hv hes h).mono ?_
    rintro e w' ⟨rfl, hb2⟩
    refine ⟨_, rfl, fun _ => rfl, fun ts h1 h2 _ => ?_, hb2⟩
    rcases h with h | h
    · rw [h] at h1; cases h1
    · rcases h2 with h2 | h2
      · exact absurd h2 h.1
      · exact absurd h2 h.2
  cases hh : histH es with
  | none => exact bad (.inl hh)
  | some ts =>
    by_cases hl : level = 1 ∨ level = 2
    case neg => exact bad (.inr ⟨fun h => hl (.inl h), fun h => hl (.inr h)⟩)
    have hnb : ¬ (histH es = none ∨ (level ≠ 1 ∧ level ≠ 2)) := by
      rintro (h | h)
      · rw [hh] at h; cases h
      · rcases hl with h2 | h2
        · exact h.1 h2
        · exact h.2 h2
    have hg := (hist_good hes hh).1
    by_cases k1 : x.k = 1
    · rw [k1]
      have h60 : ∀ p ∈ x.O, p.2.2.length ≤ 60 := hb.ord
      by_cases hdn : x.dn.length = ts.length
      · have hd' := hd
        rw [hdn] at hd'
        rw [hdn]
        refine (holds_pass v es ts level x.s x.f x.na x.N.length x.nc x.da x.dc x.om x.dn x.O w hv hes hh hl hd' hdn (hO.look h60)).mono ?_
        rintro e w' ⟨b, h1, h2, h3⟩
        refine ⟨b, h1, fun h => absurd h hnb, fun ts' h4 _ h5 => ?_, h3⟩
        rw [hh] at h4
        cases h4
        have hp := h2.1 h5
        obtain ⟨F, _, _, hF, _⟩ := id hp
        exact .inl ⟨rfl, hF, pass_res hg.uniq (fun L _ => edges_ex ts L) hp⟩
      · refine (holds_short v es ts level x.s x.f x.na x.N.length x.nc x.da x.dn.length x.dc x.om w hv hes hh hl hdn (by have := hb.done; omega)).mono ?_
        rintro e w' ⟨h1, h2⟩
        exact ⟨false, h1, fun h => absurd h hnb, fun _ _ _ h => (by cases h), h2⟩
    · by_cases k2 : x.k = 2
      · rw [k2]
        refine (holds_fail v es ts level x.s x.f x.na x.N.length x.nc x.da x.dn.length x.dc x.om w hv hes hh hl x.N hN (fun C hC => by have := hb.cyc C hC; omega)).mono ?_
        rintro e w' ⟨h1, h2⟩
        refine ⟨_, h1, fun h => absurd h hnb, fun ts' h4 _ h5 => ?_, h2⟩
        rw [hh] at h4
        cases h4
        refine .inr ⟨rfl, ?_⟩
        rintro ⟨h6, h7⟩
        rcases fail_res hg.len (fun L _ => edges_ex ts L) h5 with h | h
        · exact h h6
        · rw [h7] at h; cases h
      · refine (holds_other v es ts level x.k x.s x.f x.na x.N.length x.nc x.da x.dn.length x.dc x.om w hv hes hh hl k1 k2).mono ?_
        rintro e w' ⟨h1, h2⟩
        exact ⟨false, h1, fun h => absurd h hnb, fun _ _ _ h => (by cases h), h2⟩

theorem big_any (v vv : Value) (es : List GEvent) (x : VdX) (w : World) (hv : RdEvents w v es) (hx : VdV w vv x) :
    Calls Tryz.prog 24 #[v, vv] w (Big12Q es x.N x.dn.length x.O w) := by
  obtain ⟨rfl, hN, hd, hO⟩ := hx
  rcases x with ⟨k, s, f, na, nc, N, da, dc, dn, om, O⟩
  rcases hO with ⟨h1, h2⟩ | ⟨m, h1, h2, h3⟩
  · dsimp only at h1 h2 hN ⊢
    subst h1
    subst h2
    exact big12n_call v es k s f na N.length nc da dn.length dc N w hv hN
  · dsimp only at h1 h2 h3 hN ⊢
    subst h1
    exact big12_call v es k s f na N.length nc da dn.length dc m N O w hv hN h2 h3

namespace certSound
attribute [local go_sem] Oper.semAt_some

set_option maxRecDepth 100000 in
set_option maxHeartbeats 8000000 in
theorem walk (v vv : Value) (level : Int) (es : List GEvent) (x : VdX) (w : World) (hv : RdEvents w v es) (hx : VdV w vv x) :
    Calls Tryz.prog 8 #[v, vi level, vv] w fun e w' => e = .returned (.bool true) ∧ Below w.heap.size w w' := by
  have HV := Lib.hid hv
  have HXV := Lib.hid hx
  obtain ⟨a, n, c, rfl, rfl, hm, -⟩ := hv.at
  obtain ⟨rfl, -, -, -⟩ := hx
  obtain ⟨k, s, f, na, nc, N, da, dc, dn, om, O⟩ := x
  dsimp only at HXV ⊢
  obtain ⟨nl, hnl⟩ : ∃ nl : Nat, N.length = nl := ⟨_, rfl⟩
  obtain ⟨dl, hdl⟩ : ∃ dl : Nat, dn.length = dl := ⟨_, rfl⟩
  rw [hnl, hdl] at HXV ⊢
  clear hnl hdl
  have HX0 := Lib.hid (alloc_at w (.cells #[vi k, vi s, vi f.1, vi f.2.1, vi f.2.2, .slice na nl nc, .slice da dl dc, .map om] 39))
  have HB0 := Lib.hid ((Below.refl w.heap.size w).alloc (Nat.le_refl _) (.cells #[vi k, vi s, vi f.1, vi f.2.1, vi f.2.2, .slice na nl nc, .slice da dl dc, .map om] 39))
  have hw0 : (w.alloc (.cells #[vi k, vi s, vi f.1, vi f.2.1, vi f.2.2, .slice na nl nc, .slice da dl dc, .map om] 39)).heap.size = w.heap.size + 1 := by simp
  clear hv
  go_enter Tryz.func8, Tryz.ntmps8
  go_upto_region 1 with fail
  generalize w.alloc (.cells #[vi k, vi s, vi f.1, vi f.2.1, vi f.2.2, .slice na nl nc, .slice da dl dc, .map om] 39) = w0 at *
  go_upto_region 3 with (go_at_call 23; refine (head12_call w0).mono ?_; rintro e1 w1 ⟨rfl, hb1⟩; have HB1 := Lib.hid (HB0.out.trans (hb1.mono HB0.out.size)); have HX1 := Lib.hid ((hb1.block _ (by omega)).trans HX0.out); have hlt1 : w.heap.size < w1.heap.size := (by have := hb1.size; omega); clear hb1)
  have HV1 := Lib.hid (HV.out.later HB1.out)
  have HXV1 := Lib.hid (HXV.out.later HB1.out)
  have xr1 := fun j => cell_of HX1.out j
  go_upto_if 15 with (go_at_call 24; refine (big_any _ _ es _ w1 HV1.out HXV1.out).mono ?_; rintro e2 w2 ⟨bg, rfl, hbg, hb2⟩; have HBG := Lib.hid hbg; have HB2 := Lib.hid (HB1.out.trans (hb2.mono HB1.out.size)); have HX2 := Lib.hid ((hb2.block _ hlt1).trans HX1.out); have hlt2 : w.heap.size < w2.heap.size := (by have := hb2.size; omega); clear hbg hb2)
  clear xr1
  cases bg with
  | true =>
    go_wp2_with fail
    go_ret
    exact ⟨rfl, HB2.out⟩
  | false =>
    have HNB := Lib.hid (HBG.out (by first | rfl | trivial))
    have hes : es.length ≤ 60 := by have := HNB.out.es; omega
    have HV2 := Lib.hid (HV.out.later HB2.out)
    have HXV2 := Lib.hid (HXV.out.later HB2.out)
    have xr2 := fun j => cell_of HX2.out j
    have HS2 := Lib.hid (holds_sound _ _ es level _ w2 HV2.out HXV2.out HNB.out)
    clear HBG
    go_upto_region 6 with (go_at_call 25; refine HS2.out.mono ?_; rintro e3 w3 ⟨ok, rfl, hbad, hok, hb3⟩; have HBAD := Lib.hid hbad; have HOK := Lib.hid hok; have HB3 := Lib.hid (HB2.out.trans (hb3.mono HB2.out.size)); have HX3 := Lib.hid ((hb3.block _ hlt2).trans HX2.out); have hlt3 : w.heap.size < w3.heap.size := (by have := hb3.size; omega); clear hbad hok hb3)
    clear xr2 HS2
    have HV3 := Lib.hid (HV.out.later HB3.out)
    go_upto_region 7 with (go_at_call 14; refine (of_callE _ es w3 HV3.out (by omega)).mono ?_; rintro e4 w4 ⟨v4, p4, err, rfl, hok4, hbad4, ⟨a4, n4, c4, rfl⟩, hb4⟩; have HOF := Lib.hid hok4; have HOB := Lib.hid hbad4; have HB4 := Lib.hid (HB3.out.trans (hb4.mono HB3.out.size)); have HX4 := Lib.hid ((hb4.block _ hlt3).trans HX3.out); have hlt4 : w.heap.size < w4.heap.size := (by have := hb4.size; omega); clear hok4 hbad4 hb4)
    have x0 : w4.cell? ⟨w.heap.size, 0, none⟩ = some (vi k) := by rw [cell_of HX4.out]; rfl
    by_cases h0 : err = 0
    case neg =>
      have hbb := HBAD.out (.inl (HOB.out h0))
      subst hbb
      have c0 := bne_t h0
      clear h0
      go_wp2_with fail
      go_ret
      exact ⟨by simp, HB4.out⟩
    obtain ⟨ts, hts, hrd⟩ := HOF.out h0
    have HTS := Lib.hid hts
    have HRD := Lib.hid hrd
    have HG := Lib.hid (hist_good hes hts).1
    obtain ⟨_, _, _, e5, e6, -, -⟩ := hrd.at
    cases e5
    subst e6
    subst h0
    clear hts hrd
    by_cases hl : level = 1 ∨ level = 2
    case neg =>
      have hl1 : level ≠ 1 := fun h => hl (.inl h)
      have hl2 : level ≠ 2 := fun h => hl (.inr h)
      have hbb := HBAD.out (.inr ⟨hl1, hl2⟩)
      subst hbb
      have d1 := bne_t hl1
      have d2 := bne_t hl2
      clear hl hl1 hl2
      go_wp2_with fail
      go_ret
      exact ⟨by simp, HB4.out⟩
    have HOK2 := Lib.hid (HOK.out ts HTS.out hl)
    have HSM := Lib.hid (small_call ts (.slice a4 ts.length c4) w4 HG.out HRD.out)
    have HKQ := Lib.hid (fun (W : World) (h10 : ts.length ≤ 10) (hR : RdTxns W (.slice a4 ts.length c4) ts) => keeps_call ts level (.slice a4 ts.length c4) W HG.out h10 hR)
    rcases hl with rfl | rfl
    all_goals
      cases ok with
      | false =>
        go_wp2_with fail
        go_ret
        exact ⟨rfl, HB4.out⟩
      | true =>
        have HOK3 := Lib.hid (HOK2.out (by first | rfl | trivial))
        clear HOK2
        go_upto_if 47 with (go_at_call 15; refine HSM.out.mono ?_; rintro e5 w5 ⟨sm, rfl, hsm, hb5⟩; have HSL := Lib.hid hsm; have HB5 := Lib.hid (HB4.out.trans (hb5.mono HB4.out.size)); have HX5 := Lib.hid ((hb5.block _ hlt4).trans HX4.out); have HR5 := Lib.hid (HRD.out.later hb5); have hlt5 : w.heap.size < w5.heap.size := (by have := hb5.size; omega); clear hsm hb5)
        cases sm with
        | false =>
          go_wp2_with fail
          go_ret
          exact ⟨rfl, HB5.out⟩
        | true =>
          have h10 := HSL.out (by first | rfl | trivial)
          have x05 : w5.cell? ⟨w.heap.size, 0, none⟩ = some (vi k) := by rw [cell_of HX5.out]; rfl
          have HK5 := Lib.hid (HKQ.out w5.drew h10 (show RdTxns w5.drew (.slice a4 ts.length c4) ts from HR5.out))
          clear x0 HSL HKQ HSM h10
          rcases HOK3.out with ⟨hk, h1⟩ | ⟨hk, h1⟩
          · have HKK := Lib.hid h1
            subst hk
            clear h1
            go_upto_region 13 with fail
            have HBd := Lib.hid ((Below.refl w5.heap.size w5).drew)
            have x05d : w5.drew.cell? ⟨w.heap.size, 0, none⟩ = some (vi 1) := x05
            go_region_held3 (fun w' : World => w'.cell? ⟨w.heap.size, 0, none⟩ = some (vi 1)) (first | exact x05d | exact x06)
              (first | (go_at_call 20; refine HK5.out.mono ?_; rintro e6 w6 ⟨kb, rfl, hkb, hb6⟩; have HKB := Lib.hid hkb; have x06 := cell_later hb6 x05d; have HB6 := Lib.hid (HB5.out.trans ((HBd.out.trans hb6).mono HB5.out.size)); clear hkb hb6))
            go_wp2
            go_ret
            refine ⟨?_, HB6.out⟩
            cases kb <;> first | rfl | exact absurd (HKB.out.2 HKK.out) (by decide) | exact absurd (HKB.out.1 (by first | rfl | trivial)) HKK.out
          · have HKK := Lib.hid h1
            subst hk
            clear h1
            go_upto_region 13 with fail
            have HBd := Lib.hid ((Below.refl w5.heap.size w5).drew)
            have x05d : w5.drew.cell? ⟨w.heap.size, 0, none⟩ = some (vi 2) := x05
            go_region_held3 (fun w' : World => w'.cell? ⟨w.heap.size, 0, none⟩ = some (vi 2)) (first | exact x05d | exact x06)
              (first | (go_at_call 20; refine HK5.out.mono ?_; rintro e6 w6 ⟨kb, rfl, hkb, hb6⟩; have HKB := Lib.hid hkb; have x06 := cell_later hb6 x05d; have HB6 := Lib.hid (HB5.out.trans ((HBd.out.trans hb6).mono HB5.out.size)); clear hkb hb6))
            go_wp2
            go_ret
            refine ⟨?_, HB6.out⟩
            cases kb <;> first | rfl | exact absurd (HKB.out.2 HKK.out) (by decide) | exact absurd (HKB.out.1 (by first | rfl | trivial)) HKK.out
end certSound
end Go.Proofs.YtnacoplokjdglaaGreat
