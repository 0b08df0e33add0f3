/- Texts of one proof, one behind the other: ChFixG, CtSdW. -/
import Derived.Test.YtnacoplokjdglaaGreatKp1
import Derived.Test.YtnacoplokjdglaaGreatKp2
import Derived.Test.YtnacoplokjdglaaGreatKp3
import Derived.Test.YtnacoplokjdglaaGreatKp4
import Derived.Test.YtnacoplokjdglaaGreatKp5
import Derived.Test.YtnacoplokjdglaaGreatKp6
set_option linter.all false
namespace Go.Proofs.YtnacoplokjdglaaGreat
open Go.RowKit Go.Maps
/-- The orders that stand in a map: readable rows. -/
def OrdG (w : World) (O : OrdL) : Prop := ∀ (key : Nat) (v : Value) (l : List Int), key < 16 → getM O (key : Int) = some (v, l) → RdInts w v l ∧ l.length ≤ 4096
/-- What a look into a value of a map's type gives. -/
def LookO (w : World) (mv : Value) (O : OrdL) : Prop := ∀ key : Nat, key < 16 → ∃ v, (∀ W, Below w.heap.size w W → (Instr.lookup 35 mv (vi key) false).run Tryz.prog W = .ok v W) ∧ RdInts w v (ordL O key) ∧ (ordL O key).length ≤ 4096
theorem rd_nil (w : World) : RdInts w (.slice none 0 0) [] := ⟨none, 0, 0, rfl, rfl, by simp, Nat.le_refl _, fun _ => ⟨rfl, rfl⟩, fun j x hj => by simp at hj⟩
theorem LookO.of_map {w : World} {m : Nat} {O : OrdL} (h : MapO w m O) (hR : OrdG w O) : LookO w (.map (some m)) O := fun key hk => by
  have h1 := fun W (hb : Below w.heap.size w W) => (MapT.lookup intKeyed vi_inj (t := 35) (e := 58) Tryz.underlying35 (h.below hb h.lt) (key : Int) (intKey (by unfold i64; omega)) (zero_sl W)).1
  cases hg : getM O (key : Int) with
  | none =>
    refine ⟨.slice none 0 0, ?_, ?_⟩
    · intro W hb; rw [h1 W hb, hg]; rfl
    · rw [show ordL O key = [] from by unfold ordL; rw [hg]; rfl]; exact ⟨rd_nil w, by simp⟩
  | some p =>
    obtain ⟨v, l⟩ := p
    refine ⟨v, ?_, ?_⟩
    · intro W hb; rw [h1 W hb, hg]; rfl
    · rw [ordL_of hg]
      exact hR key v l hk hg
theorem LookO.later {w w' : World} {mv : Value} {O : OrdL} (h : LookO w mv O) (hb : Below w.heap.size w w') : LookO w' mv O := fun key hk => by
  obtain ⟨v, h1, h2, h3⟩ := h key hk
  exact ⟨v, fun W hW => h1 W (hb.trans (hW.mono hb.size)), h2.later hb, h3⟩

/-- What is said of orders is of the given orders alone. -/
def NoX (F : FaL) (O : OrdL) : Prop := ∀ (c : GChoice) (so : Bool), c.kind ≠ 1 → getM F c = some so → ∃ key : Nat, key < 16 ∧ ∃ x y, x ∈ ordL O key ∧ y ∈ ordL O key ∧ x ≠ y ∧ c = ⟨2, key, min x y, max x y⟩
theorem NoX.start {ts : List GTxn} {dn : List Bool} {k : Nat} {F : FaL} (h : Fact0 ts dn k F) (O : OrdL) : NoX F O := fun c so hk hc => by
  rw [h c, if_neg (fun e => hk e.2)] at hc; cases hc
theorem NoX.put {F : FaL} {O : OrdL} (h : NoX F O) {key : Nat} (hk : key < 16) {x y : Int} (hx : x ∈ ordL O key) (hy : y ∈ ordL O key) (hxy : x ≠ y) (so : Bool) : NoX (putM F ⟨2, key, min x y, max x y⟩ so) O := fun c so' h1 h2 => by
  rw [getM_put] at h2
  by_cases he : (⟨2, (key : Int), min x y, max x y⟩ : GChoice) = c
  · exact ⟨key, hk, x, y, hx, hy, hxy, he.symm⟩
  · rw [if_neg he] at h2; exact h c so' h1 h2

/-- Who is done, as the facts say. -/
def Fits (ts : List GTxn) (dn : List Bool) (F : FaL) : Prop := ∀ i : Nat, i < ts.length → (isM ts F i).1 = dn[i]?.getD false
theorem isM_fact1 {ts : List GTxn} {dn : List Bool} {F G : FaL} (hF : Fact1 ts dn F) (hG : Fact1 ts dn G) (i : Nat) : isM ts F i = isM ts G i := by
  unfold isM; rw [hF _ rfl, hG _ rfl]
theorem Fits.same {ts : List GTxn} {dn : List Bool} {F G : FaL} (h : Fits ts dn F) (hF : Fact1 ts dn F) (hG : Fact1 ts dn G) : Fits ts dn G := fun i hi => by rw [isM_fact1 hG hF]; exact h i hi
/-- The facts that chains.Fix makes. -/
structure FixF (ts : List GTxn) (dn : List Bool) (O : OrdL) (F : FaL) : Prop where
  one : Fact1 ts dn F
  fits : Fits ts dn F
  good : GoodK ts dn O 16
  pr : ∀ key : Nat, key < 16 → PrT F key (ordL O key) (ordL O key).length 0
  nox : NoX F O
theorem FixF.same {ts : List GTxn} {dn : List Bool} {O : OrdL} {F G : FaL} (hF : FixF ts dn O F) (hG : FixF ts dn O G) (c : GChoice) : getM F c = getM G c := by
  by_cases hk : c.kind = 1
  · rw [hF.one c hk, hG.one c hk]
  · have key : ∀ {F G : FaL}, FixF ts dn O F → FixF ts dn O G → ∀ so, getM F c = some so → getM G c = some so := by
      intro F G hF hG so h
      obtain ⟨key, h1, x, y, hx, hy, hxy, rfl⟩ := hF.nox c so hk h
      obtain ⟨i, hi⟩ := List.getElem?_of_mem hx
      obtain ⟨j, hj⟩ := List.getElem?_of_mem hy
      have li := (List.getElem?_eq_some_iff.1 hi).1
      have lj := (List.getElem?_eq_some_iff.1 hj).1
      rcases Nat.lt_trichotomy i j with h3 | h3 | h3
      · rw [hF.pr key h1 j i x y h3 (.inl lj) hi hj] at h
        rw [hG.pr key h1 j i x y h3 (.inl lj) hi hj]; exact h
      · subst h3; rw [hi] at hj; cases hj; exact absurd rfl hxy
      · have e1 : min x y = min y x := by omega
        have e2 : max x y = max y x := by omega
        rw [e1, e2] at h ⊢
        rw [hF.pr key h1 i j y x h3 (.inl li) hj hi] at h
        rw [hG.pr key h1 i j y x h3 (.inl li) hj hi]; exact h
    cases h1 : getM F c with
    | some so => exact (key hF hG so h1).symm
    | none =>
      cases h2 : getM G c with
      | none => rfl
      | some so => rw [key hG hF so h2] at h1; cases h1
/-- The answer of chains.Fix. -/
def FixR (ts : List GTxn) (dn : List Bool) (O : OrdL) (w : World) (e : Ending) (w' : World) : Prop := ∃ (r : Option Nat) (b : Bool), e = .returned (.tuple #[.map r, .bool b]) ∧ Hid ((b = true → ∃ m F, r = some m ∧ MapF w' m F ∧ FixF ts dn O F) ∧ (b = false → ∀ F, ¬ FixF ts dn O F)) ∧ Below w.heap.size w w'
theorem FixR.no {ts : List GTxn} {dn : List Bool} {O : OrdL} {w w' : World} {e : Ending} {r : Option Nat} (h : e = .returned (.tuple #[.map r, .bool false])) (hn : ∀ F, ¬ FixF ts dn O F) (hb : Below w.heap.size w w') : FixR ts dn O w e w' := ⟨r, false, h, Lib.hid ⟨fun h => (by cases h), fun _ => hn⟩, hb⟩

set_option maxRecDepth 100000 in
set_option maxHeartbeats 16000000 in
theorem fixG_call (v : Value) (ts : List GTxn) (da : Option Addr) (dc : Nat) (om : Option Nat) (dn : List Bool) (O : OrdL) (w : World) (hv : RdTxns w v ts) (hok : OkTxns ts) (htl : ts.length ≤ 4096) (hd : RdB w (.slice da ts.length dc) dn) (hdl : dn.length = ts.length)
    (hO : LookO w (.map om) O) :
    Calls Tryz.prog 51 #[v, .slice da ts.length dc, .map om] w (FixR ts dn O w) := by
  have HV := Lib.hid hv
  have HOK := Lib.hid hok
  have HD := Lib.hid hd
  have HDL := Lib.hid hdl
  have HO := Lib.hid hO
  obtain ⟨a, len, cap, rfl, rfl, hmm, -⟩ := hv.at
  have hmkm := @run_makeMap Tryz.prog
  have HM0 := Lib.hid (show MapF (w.alloc (.map #[] 0)) w.heap.size [] from MapT.made w)
  have HB0 := Lib.hid ((Below.refl w.heap.size w).alloc (Nat.le_refl _) (.map #[] 0))
  have hs0 : (w.alloc (.map #[] 0)).heap.size = w.heap.size + 1 := by simp
  clear hv hok hd hdl hO
  go_enter Tryz.func51, Tryz.ntmps51
  go_upto_region 4 with fail
  clear hmkm
  generalize w.alloc (.map #[] 0) = w0 at *
  go_wp2_with (go_at_call 48; refine (choices_call _ ts w0 (HV.out.later HB0.out) HOK.out htl).mono ?_; rintro e w2 ⟨v2, rfl, ho2, hb2⟩; have HC2 := Lib.hid ho2.rd; have HO2 := Lib.hid ho2; have HB2 := Lib.hid hb2; obtain ⟨a2, len2, cap2, rfl, rfl, hm2, -⟩ := HC2.out.at; clear hb2 ho2)
  have HM2 := Lib.hid (HM0.out.below HB2.out (by omega))
  have HBw2 := Lib.hid (HB0.out.trans (HB2.out.mono HB0.out.size))
  have HCO := Lib.hid (fun c (h : c ∈ choicesM ts) => choicesM_ok h)
  have hcl := choicesM_le ts htl
  obtain ⟨C, hC⟩ : ∃ C, choicesM ts = C := ⟨_, rfl⟩
  have HC := Lib.hid hC
  rw [hC] at HCO hcl HO2 HC2 hm2
  rw [hC]
  clear hC
  go_loopw [10, 32] (fun _ n wr => ∃ (k : Nat) (F : FaL), k ≤ C.length ∧ n = .int .i64 k ∧ Hid (MapF wr w.heap.size F ∧ Fact0 ts dn k F ∧ OwCh 128 w0.heap.size wr (.slice a2 C.length cap2) C ∧ Below w.heap.size w wr)) (fun _ n _ => C.length - (intOf n).toNat)
  case atStart => exact ⟨0, [], Nat.zero_le _, rfl, Lib.hid ⟨HM2.out, Fact0.nil ts dn, HO2.out, HBw2.out⟩⟩
  case round =>
    obtain ⟨wk, rfl⟩ : ∃ wk : World, wk = wr := ⟨_, rfl⟩
    obtain ⟨k, F, hk, rfl, HJ⟩ := hrel
    have HM := Lib.hid HJ.out.1
    have HF := Lib.hid HJ.out.2.1
    have HOk := Lib.hid HJ.out.2.2.1
    have HBk := Lib.hid HJ.out.2.2.2
    clear HJ
    have hbs := HBk.out.size
    have hml2 := HM.out.lt
    by_cases hlt : k < C.length
    · obtain ⟨c, hc⟩ := some_at hlt
      have hco := HCO.out c (List.mem_of_getElem? hc)
      obtain ⟨kd, ky, ca, cb⟩ := c
      obtain ⟨an, rfl⟩ := Int.eq_ofNat_of_zero_le hco.a.1
      have han : an < ts.length := by have := hco.a.2; simpa using this
      obtain ⟨_, _, _, e5, -, -, hclc⟩ := HOk.out.rd.at
      cases e5
      obtain ⟨b, off, rfl, k0, k1, k2, k3⟩ := hclc k _ hc
      have hkI : (k : Int) < (C.length : Int) := by omega
      have wk1 : IntKind.i64.wrap ((k : Int) + 1) = ((k + 1 : Nat) : Int) := by rw [IntWalk.i64_in _ (by omega)]; omega
      have HSM := Lib.hid (hco.small htl)
      have HP := Lib.hid (show (choicesM ts)[k]? = some ⟨kd, ky, an, cb⟩ by rw [HC.out]; exact hc)
      have HXo := Lib.hid (alloc_at wk (.cells #[vi kd, vi ky, vi an, vi cb] 128))
      have HOo := Lib.hid (HOk.out.alloc (.cells #[vi kd, vi ky, vi an, vi cb] 128))
      have HMo := Lib.hid (HM.out.frame (Below.heap_alloc wk (.cells #[vi kd, vi ky, vi an, vi cb] 128) _ hml2))
      have HBo := Lib.hid (HBk.out.alloc hbs (.cells #[vi kd, vi ky, vi an, vi cb] 128))
      have hwo : (wk.alloc (.cells #[vi kd, vi ky, vi an, vi cb] 128)).heap.size = wk.heap.size + 1 := by simp
      clear hclc hc hco
      go_upto_region 7 with fail
      clear k0 k1 k2 k3
      generalize wk.alloc (.cells #[vi kd, vi ky, vi an, vi cb] 128) = wo at *
      have q0 : wo.cell? ⟨wk.heap.size, 0, none⟩ = some (vi kd) := by rw [cell_of HXo.out]; rfl
      have q1 : wo.cell? ⟨wk.heap.size, 1, none⟩ = some (vi ky) := by rw [cell_of HXo.out]; rfl
      have q2 : wo.cell? ⟨wk.heap.size, 2, none⟩ = some (vi an) := by rw [cell_of HXo.out]; rfl
      have q3 : wo.cell? ⟨wk.heap.size, 3, none⟩ = some (vi cb) := by rw [cell_of HXo.out]; rfl
      by_cases h1 : kd = 1
      · have HK1 := Lib.hid h1
        have e1 : (kd == 1) = true := beq_iff_eq.2 h1
        obtain ⟨x, hx⟩ := some_at (l := dn) (k := an) (by rw [HDL.out]; exact han)
        obtain ⟨_, _, _, e9, -, -, hdc⟩ := HD.out.at
        cases e9
        obtain ⟨gb, go, rfl, hd0⟩ := hdc an x hx
        have d0 := cell_later (w' := wo) (by have := HBo.out; exact this) hd0
        clear hdc hd0
        have HX := Lib.hid (show x = dn[(an : Int).toNat]?.getD false by simp [hx])
        obtain ⟨kl, hkl⟩ := choiceKey HSM.out
        have HKL := Lib.hid hkl
        have hanI : (an : Int) < (ts.length : Int) := by omega
        clear hx hkl h1
        go_upto_region 8 with fail
        go_still_tail 7, (by kernel_rfl)
        change wpList _ _ _ _ _ wo.drew
        have HMd := Lib.hid (show MapF wo.drew w.heap.size F from HMo.out.frame rfl)
        have HXd := Lib.hid (show x = dn[(an : Int).toNat]?.getD false from HX.out)
        go_wp2_with (at_mapUpdate; refine wpList_mapUpdate_T (b := w.heap.size) (eK := chK) (eV := Value.bool) rfl _ _ _ rfl choiceKeyed chK_inj Tryz.underlying87 HMd.out rfl ⟨kd, ky, an, cb⟩ HKL.out rfl x rfl ?_; intro w4 hM4 hg4)
        have hg4' : wo.grownBy w4 (some w.heap.size) := ⟨hg4.os, hg4.tape, hg4.output, hg4.size, hg4.block⟩
        have ho4 := World.ownsRow.kept HOo.out hg4' (.inr (fun e => map_apart HOo.out HMo.out e.symm))
        have hb4 : Below w.heap.size w w4 := HBo.out.grown hg4' HBo.out.size (fun j hj => by cases hj; exact Nat.le_refl _)
        refine ⟨⟨k + 1, putM F ⟨kd, ky, an, cb⟩ x, by omega, rfl, Lib.hid ?_⟩, ?_⟩
        · exact ⟨hM4, HF.out.put HP.out HK1.out HXd.out, ho4, hb4⟩
        · simp only [intOf]; omega
      · have e1 : (kd == 1) = false := beq_eq_false_iff_ne.2 h1
        have HK1 := Lib.hid h1
        clear h1
        go_wp2_with fail
        exact ⟨⟨k + 1, F, by omega, rfl, Lib.hid ⟨HMo.out, HF.out.skip HP.out HK1.out, HOo.out, HBo.out⟩⟩, by simp only [intOf]; omega⟩
    · obtain rfl : k = C.length := by omega
      have HF1 := Lib.hid (show Fact1 ts dn F from Fact0.full (by have := HF.out; rw [← HC.out] at this; exact this))
      have HNX0 := Lib.hid (NoX.start HF.out O)
      have HVk := Lib.hid (HV.out.later HBk.out)
      clear HF HOk HO2 HC2 HM2 HBw2 HCO HM0
      go_wp2_with fail
      go_loopw [11, 12, 13, 49] (fun _ _ _ n wr => ∃ i : Nat, i ≤ ts.length ∧ n = .int .i64 i ∧ Hid (∀ j : Nat, j < i → (isM ts F j).1 = dn[j]?.getD false) ∧ Below wk.heap.size wk wr) (fun _ _ _ n _ => ts.length - (intOf n).toNat)
      case atStart => exact ⟨0, Nat.zero_le _, rfl, Lib.hid (fun j h => absurd h (Nat.not_lt_zero _)), Below.refl _ _⟩
      case round =>
        obtain ⟨wi, rfl⟩ : ∃ wk : World, wk = wr := ⟨_, rfl⟩
        obtain ⟨i, hi, rfl, HFI, hb⟩ := hrel
        have HBi := Lib.hid hb
        have HMi := Lib.hid (HM.out.below hb HM.out.lt)
        have HVi := Lib.hid (HVk.out.later hb)
        have HBz := Lib.hid (HBk.out.trans (hb.mono HBk.out.size))
        clear hb
        by_cases hlt2 : i < ts.length
        · obtain ⟨x, hx⟩ := some_at (l := dn) (k := i) (by rw [HDL.out]; exact hlt2)
          have hiI : (i : Int) < (ts.length : Int) := by omega
          have wi1 : IntKind.i64.wrap ((i : Int) + 1) = ((i + 1 : Nat) : Int) := by rw [IntWalk.i64_in _ (by omega)]; omega
          obtain ⟨_, _, _, e9, -, -, hdc⟩ := HD.out.at
          cases e9
          obtain ⟨gb, go, rfl, hd0⟩ := hdc i x hx
          have HX := Lib.hid hd0
          have HE := Lib.hid (show dn[i]?.getD false = x by rw [hx]; rfl)
          have HI := Lib.hid (Is_call _ ts w.heap.size F i wi HVi.out HOK.out htl HMi.out hlt2)
          obtain ⟨y, hy⟩ : ∃ y, (isM ts F i).1 = y := ⟨_, rfl⟩
          have HY := Lib.hid hy
          rw [hy] at HI
          clear hx hy hdc hd0
          go_upto_region 14 with (go_at_call 41; refine HI.out.mono ?_; rintro e w5 ⟨rfl, hb5⟩)
          have HB5 := Lib.hid (HBi.out.trans (hb5.mono HBi.out.size))
          have d0 := cell_later (HBk.out.trans (HB5.out.mono HBk.out.size)) HX.out
          clear hb5
          have hne : x ≠ y → ∀ F', ¬ FixF ts dn O F' := fun hxy F' hF' => by
            have h1 := hF'.fits.same hF'.one HF1.out i hlt2
            rw [HY.out, HE.out] at h1
            exact hxy h1.symm
          have HNE := Lib.hid hne
          have hst : x = y → ∀ j : Nat, j < i + 1 → (isM ts F j).1 = dn[j]?.getD false := fun hxy j hj => by
            rcases Nat.lt_or_ge j i with h1 | h1
            · exact HFI.out j h1
            · obtain rfl : j = i := by omega
              rw [HY.out, HE.out, hxy]
          have HST := Lib.hid hst
          clear hne hst
          cases x with
          | false =>
            cases y with
            | false =>
              go_wp2_with fail
              exact ⟨⟨i + 1, by omega, rfl, Lib.hid (HST.out rfl), HB5.out⟩, by simp only [intOf]; omega⟩
            | true =>
              go_wp2_with fail
              go_ret2
              exact FixR.no rfl (HNE.out (by simp)) (HBk.out.trans (HB5.out.mono HBk.out.size))
          | true =>
            cases y with
            | true =>
              go_wp2_with fail
              exact ⟨⟨i + 1, by omega, rfl, Lib.hid (HST.out rfl), HB5.out⟩, by simp only [intOf]; omega⟩
            | false =>
              go_wp2_with fail
              go_ret2
              exact FixR.no rfl (HNE.out (by simp)) (HBk.out.trans (HB5.out.mono HBk.out.size))
        · obtain rfl : i = ts.length := by omega
          have HFT := Lib.hid (show Fits ts dn F from HFI.out)
          clear HVk HBk HBi HM HFI
          go_wp2_with fail
          go_loopw [14, 15, 16, 17, 18, 19, 20, 22, 66] (fun _ _ _ _ _ _ _ _ n wr => ∃ (k : Nat) (F : FaL), k ≤ 16 ∧ n = .int .i64 k ∧ Hid ((Fits ts dn F ∧ NoX F O) ∧ MapF wr w.heap.size F ∧ Fact1 ts dn F ∧ (∀ key : Nat, key < k → PrT F key (ordL O key) (ordL O key).length 0) ∧ GoodK ts dn O k ∧ Below w.heap.size w wr)) (fun _ _ _ _ _ _ _ _ n _ => 16 - (intOf n).toNat)
          case atStart => exact ⟨0, F, by omega, rfl, Lib.hid ⟨⟨HFT.out, HNX0.out⟩, HMi.out, HF1.out, fun key h => absurd h (Nat.not_lt_zero _), fun key h => absurd h (Nat.not_lt_zero _), HBz.out⟩⟩
          case round =>
            clear HMi HF1 HVi HBz HFT HNX0
            obtain ⟨wq, rfl⟩ : ∃ wk : World, wk = wr := ⟨_, rfl⟩
            obtain ⟨key, F, hkey, rfl, HJ0⟩ := hrel
            have HFN := Lib.hid HJ0.out.1
            have HJ := Lib.hid HJ0.out.2
            clear HJ0
            have HM := Lib.hid HJ.out.1
            have HF1 := Lib.hid HJ.out.2.1
            have HPR := Lib.hid HJ.out.2.2.1
            have HGD := Lib.hid HJ.out.2.2.2.1
            have HBq := Lib.hid HJ.out.2.2.2.2
            clear HJ
            have hbq := HBq.out.size
            have hmq := HM.out.lt
            by_cases h16 : key < 16
            · obtain ⟨ov, hlk0, hrl, hll⟩ := HO.out key h16
              have hlk := hlk0 wq HBq.out
              clear hlk0
              obtain ⟨l, hol2⟩ : ∃ l, ordL O key = l := ⟨_, rfl⟩
              rw [hol2] at hrl hll
              have k16 : (key : Int) < 16 := by omega
              have wk1 : IntKind.i64.wrap ((key : Int) + 1) = ((key + 1 : Nat) : Int) := by rw [IntWalk.i64_in _ (by omega)]; omega
              have HOL := Lib.hid hol2
              have HRL := Lib.hid hrl
              obtain ⟨oa, oc0, oc, rfl, rfl, hom, -⟩ := hrl.at
              clear hrl hol2
              go_upto_region 22 with fail
              clear hlk
              go_wp2_with fail
              have HVq := Lib.hid (HV.out.later HBq.out)
              go_loopw [16, 17, 18, 74] (fun wv _ _ n wr => ∃ i : Nat, i ≤ ts.length ∧ n = .int .i64 i ∧ Hid (OwI wq.heap.size wr wv (wantL ts dn key i) ∧ Below wq.heap.size wq wr)) (fun _ _ _ n _ => ts.length - (intOf n).toNat)
              case atStart => exact ⟨0, Nat.zero_le _, rfl, Lib.hid ⟨World.ownsRow_nil _ _ _ _, Below.refl _ _⟩⟩
              case round =>
                obtain ⟨wi, rfl⟩ : ∃ wk : World, wk = wr := ⟨_, rfl⟩
                obtain ⟨i, hi, rfl, HJ⟩ := hrel
                have HW := Lib.hid HJ.out.1
                have HBi := Lib.hid HJ.out.2
                clear HJ
                have hbi := HBi.out.size
                obtain ⟨wa, wc, rfl, -⟩ := own_shapeY HW.out
                by_cases hlt3 : i < ts.length
                · obtain ⟨t, ht⟩ := some_at hlt3
                  obtain ⟨_, _, _, e5, -, -, hcl3⟩ := (HVq.out.later HBi.out).at
                  cases e5
                  obtain ⟨b, off, toa, toc, rfl, hr, k0, k1, k2⟩ := hcl3 i t ht
                  obtain ⟨x, hx⟩ := some_at (l := dn) (k := i) (by rw [HDL.out]; exact hlt3)
                  have hiI : (i : Int) < (ts.length : Int) := by omega
                  have wi1 : IntKind.i64.wrap ((i : Int) + 1) = ((i + 1 : Nat) : Int) := by rw [IntWalk.i64_in _ (by omega)]; omega
                  have HN := Lib.hid (wantL_succ ts dn key i)
                  rw [hx, wrOf_at ht] at HN
                  have hwl := wantL_le ts dn key i
                  have HBo := Lib.hid ((Below.refl wi.heap.size wi).alloc (Nat.le_refl _) (.cells #[vi t.client, vi t.state, .slice toa t.ops.length toc] 49))
                  have HXo := Lib.hid (alloc_at wi (.cells #[vi t.client, vi t.state, .slice toa t.ops.length toc] 49))
                  have hwo : (wi.alloc (.cells #[vi t.client, vi t.state, .slice toa t.ops.length toc] 49)).heap.size = wi.heap.size + 1 := by simp
                  have HRo := Lib.hid (hr.later HBo.out)
                  have HWo := Lib.hid (own_below HW.out HBo.out)
                  have HBio := Lib.hid (HBi.out.trans (HBo.out.mono hbi))
                  obtain ⟨_, _, _, e9, -, -, hdc⟩ := HD.out.at
                  cases e9
                  obtain ⟨gb, go, rfl, hd0⟩ := hdc i x hx
                  have d0 := cell_later (HBq.out.trans (HBio.out.mono HBq.out.size)) hd0
                  clear hdc hd0
                  clear hcl3 hr ht hx
                  go_upto_region 25 with fail
                  generalize wi.alloc (.cells #[vi t.client, vi t.state, .slice toa t.ops.length toc] 49) = wo at *
                  clear k0 k1 k2
                  have c0 : wo.cell? ⟨wi.heap.size, 0, none⟩ = some (vi t.client) := by rw [cell_of HXo.out]; rfl
                  have c1 : wo.cell? ⟨wi.heap.size, 1, none⟩ = some (vi t.state) := by rw [cell_of HXo.out]; rfl
                  have c2 : wo.cell? ⟨wi.heap.size, 2, none⟩ = some (.slice toa t.ops.length toc) := by rw [cell_of HXo.out]; rfl
                  cases x with
                  | false =>
                    have HIF := Lib.hid (show wantL ts dn key (i + 1) = wantL ts dn key i by rw [HN.out]; simp)
                    go_wp2_with fail
                    exact ⟨⟨i + 1, by omega, rfl, Lib.hid ⟨by rw [HIF.out]; exact HWo.out, HBio.out⟩⟩, by simp only [intOf]; omega⟩
                  | true =>
                    have HWC := Lib.hid (writesK_call t.client t.state _ t key wo HRo.out)
                    cases hw : writesK t key with
                    | false =>
                      rw [hw] at HN HWC
                      clear hw
                      have HIF := Lib.hid (show wantL ts dn key (i + 1) = wantL ts dn key i by rw [HN.out]; simp)
                      go_wp2_with (go_at_call 66; refine HWC.out.mono ?_; rintro e w4 ⟨rfl, hb4⟩)
                      exact ⟨⟨i + 1, by omega, rfl, Lib.hid ⟨by rw [HIF.out]; exact own_below HWo.out hb4, HBio.out.trans (hb4.mono HBio.out.size)⟩⟩, by simp only [intOf]; omega⟩
                    | true =>
                      rw [hw] at HN HWC
                      clear hw
                      have HIF := Lib.hid (show wantL ts dn key (i + 1) = wantL ts dn key i ++ [(i : Int)] by rw [HN.out]; simp)
                      clear HN
                      generalize wantL ts dn key i = acc at *
                      go_upto_region 26 with (go_at_call 66; refine HWC.out.mono ?_; rintro e w4 ⟨rfl, hb4⟩)
                      have HB4 := Lib.hid (HBio.out.trans (hb4.mono HBio.out.size))
                      have HW4 := Lib.hid (own_below HWo.out hb4)
                      have h4s := HB4.out.size
                      clear hb4 c0 c1 c2
                      go_wp2_with (at_builtin; refine wpList_append_src rfl _ _ 58 rfl eltI wq.heap.size acc.length _ (HW4.out.alloc _) rfl 1 (viC i) (src_new (cs := #[vi i]) rfl rfl) rfl (by intro u hu; simp [viC] at hu; subst hu; rfl) (by omega) (by omega) (by simp; omega) ?_; intro v5 w5 ho5 hg5 _)
                      have hbb := (HB4.out.alloc h4s (.cells #[vi i] 3)).grown hg5 (by simp; omega) (fun j hj => (World.ownsRow.lt HW4.out j hj).1)
                      refine ⟨⟨i + 1, by omega, rfl, Lib.hid ?_⟩, ?_⟩
                      · exact ⟨by rw [HIF.out]; simpa [OwI] using ho5, hbb⟩
                      · simp only [intOf]; omega
                · obtain rfl : i = ts.length := by omega
                  have hwl := wantL_le ts dn key ts.length
                  have HWI := Lib.hid (OwI.rdY HW.out (fun x hx => by
                    obtain ⟨i, h1, rfl, _⟩ := wantL_mem.1 hx
                    unfold i64; omega))
                  obtain ⟨W0, hW0⟩ : ∃ W0, wantL ts dn key ts.length = W0 := ⟨_, rfl⟩
                  have HW0 := Lib.hid hW0
                  rw [hW0] at HW HWI hwl
                  rw [hW0]
                  clear hW0
                  have HLi := Lib.hid (HRL.out.later (HBq.out.trans (HBi.out.mono hbq)))
                  have HXv := Lib.hid (alloc_at wi (.cells #[.slice oa l.length oc] 58))
                  have HBv := Lib.hid ((Below.refl wi.heap.size wi).alloc (Nat.le_refl _) (.cells #[.slice oa l.length oc] 58))
                  have HVC := Lib.hid (values_call oa l.length oc wi)
                  go_upto_region 28 with fail
                  clear HVq
                  have HSC := Lib.hid (sortedV_call (Bs := wi.heap.size) (a := oa) (cap := oc) (l := l) (wi.alloc (.cells #[.slice oa l.length oc] 58)) (by rw [cell_of HXv.out]; rfl) (fun j x hj => by
                    obtain ⟨_, _, _, e5, -, -, hul⟩ := (HLi.out.later HBv.out).at
                    cases e5
                    obtain ⟨b, off, h1, h2, _⟩ := hul j x hj
                    exact ⟨b, off, h1, h2⟩) (by omega))
                  have HSI := Lib.hid (show ∀ x ∈ srt l, i64 x from fun x hx => HLi.out.i64s x ((srt_perm l).mem_iff.1 hx))
                  by_cases heq : srt l = W0
                  · have HEQ := Lib.hid heq
                    have HNX := Lib.hid (show srt (ordL O key) = wantL ts dn key ts.length by rw [HOL.out, HW0.out]; exact heq)
                    have HDE := Lib.hid (show decide (srt l = W0) = true from decide_eq_true heq)
                    clear heq
                    go_upto_region 30 with (first
                      | (go_at_call 74; refine HVC.out.mono ?_; rintro e w5 ⟨rfl, hw5⟩; subst hw5)
                      | (go_at_call 73; refine HSC.out.mono ?_; rintro e w6 ⟨v6, rfl, ho6, hb6⟩; have HB6 := Lib.hid (HBv.out.trans (hb6.mono HBv.out.size)); have HO6 := Lib.hid ho6; clear ho6 hb6)
                      | (go_at_call 72; refine (equalI_call _ _ _ _ w6 (OwI.rdY HO6.out HSI.out) (HWI.out.later HB6.out)).mono ?_; rw [HDE.out]; rintro e w7 ⟨rfl, hb7⟩; have HB7 := Lib.hid (HB6.out.trans (hb7.mono HB6.out.size)); clear hb7))
                    have HB7z := Lib.hid (HBq.out.trans ((HBi.out.trans (HB7.out.mono HBi.out.size)).mono HBq.out.size))
                    have HM7 := Lib.hid (HM.out.below (HBi.out.trans (HB7.out.mono HBi.out.size)) hmq)
                    have HND := Lib.hid (show l.Nodup from by have := srt_nodup HNX.out; rwa [HOL.out] at this)
                    have hoc : l.length ≤ oc := by
                      obtain ⟨_, _, _, h1, _, _, hlc, _⟩ := HRL.out
                      cases h1
                      exact hlc
                    clear HSC HVC HXv HBv HLi HM HBi HW HWI HO6 HB6 HB7 HEQ HDE HSI
                    go_wp2_with fail
                    go_loopw [19, 20, 22, 101] (fun _ _ _ n wr => ∃ (k : Nat) (F2 : FaL), k ≤ l.length ∧ n = .int .i64 k ∧ Hid (Fits ts dn F2 ∧ NoX F2 O) ∧ Hid (MapF wr w.heap.size F2 ∧ Fact1 ts dn F2 ∧ (∀ key' : Nat, key' < key → PrT F2 key' (ordL O key') (ordL O key').length 0) ∧ PrT F2 key l k 0 ∧ Below w.heap.size w wr)) (fun _ _ _ n _ => l.length - (intOf n).toNat)
                    case atStart => exact ⟨0, F, Nat.zero_le _, rfl, Lib.hid HFN.out, Lib.hid ⟨HM7.out, HF1.out, HPR.out, PrT.start _ _ _, HB7z.out⟩⟩
                    case round =>
                      clear HM7 HF1 HPR HB7z HFN
                      obtain ⟨wr5, rfl⟩ : ∃ wk : World, wk = wr := ⟨_, rfl⟩
                      obtain ⟨k, F2, hk5, rfl, HFN2, HJ⟩ := hrel
                      have HM2 := Lib.hid HJ.out.1
                      have HF2 := Lib.hid HJ.out.2.1
                      have HPR2 := Lib.hid HJ.out.2.2.1
                      have HPT2 := Lib.hid HJ.out.2.2.2.1
                      have HB5 := Lib.hid HJ.out.2.2.2.2
                      clear HJ
                      by_cases hkl5 : k < l.length
                      · obtain ⟨b, hb⟩ := some_at hkl5
                        obtain ⟨_, _, _, e5, -, -, hul⟩ := (HRL.out.later HB5.out).at
                        cases e5
                        obtain ⟨lb, lo, rfl, y0, hbi⟩ := hul k b hb
                        have hkI : (k : Int) < (l.length : Int) := by omega
                        have wk1' : IntKind.i64.wrap ((k : Int) + 1) = ((k + 1 : Nat) : Int) := by rw [IntWalk.i64_in _ (by omega)]; omega
                        have htk : ∀ W, (Instr.slice 58 (.slice (some ⟨lb, lo, none⟩) l.length oc) none (some (.int .i64 k)) none).run Tryz.prog W = .ok (.slice (some ⟨lb, lo, none⟩) k oc) W := run_takeY (by omega)
                        have HY := Lib.hid hb
                        clear hul hb
                        go_wp2_with fail
                        go_loopw [22, 110] (fun _ n wr => ∃ (j : Nat) (F3 : FaL), j ≤ k ∧ n = .int .i64 j ∧ Hid (Fits ts dn F3 ∧ NoX F3 O) ∧ Hid (MapF wr w.heap.size F3 ∧ Fact1 ts dn F3 ∧ (∀ key' : Nat, key' < key → PrT F3 key' (ordL O key') (ordL O key').length 0) ∧ PrT F3 key l k j ∧ Below w.heap.size w wr)) (fun _ n _ => k - (intOf n).toNat)
                        case atStart => exact ⟨0, F2, Nat.zero_le _, rfl, Lib.hid HFN2.out, Lib.hid ⟨HM2.out, HF2.out, HPR2.out, HPT2.out, HB5.out⟩⟩
                        case round =>
                          clear HM2 HF2 HPR2 HPT2 HB5 HFN2 htk y0
                          obtain ⟨ws, rfl⟩ : ∃ wk : World, wk = wr := ⟨_, rfl⟩
                          obtain ⟨j, F3, hj6, rfl, HFN3, HJ⟩ := hrel
                          have HM3 := Lib.hid HJ.out.1
                          have HF3 := Lib.hid HJ.out.2.1
                          have HPR3 := Lib.hid HJ.out.2.2.1
                          have HPT := Lib.hid HJ.out.2.2.2.1
                          have HBs := Lib.hid HJ.out.2.2.2.2
                          clear HJ
                          by_cases hjk : j < k
                          · obtain ⟨a, ha⟩ := some_at (l := l) (k := j) (by omega)
                            obtain ⟨_, _, _, e6, -, -, hul⟩ := (HRL.out.later HBs.out).at
                            cases e6
                            obtain ⟨_, _, e7, x0, hai⟩ := hul j a ha
                            cases e7
                            have hjI : (j : Int) < (k : Int) := by omega
                            have wj1 : IntKind.i64.wrap ((j : Int) + 1) = ((j + 1 : Nat) : Int) := by rw [IntWalk.i64_in _ (by omega)]; omega
                            have HA := Lib.hid ha
                            have hab : a ≠ b := fun e => by subst e; have := nodup_at HND.out HA.out HY.out; omega
                            clear hul ha
                            rcases Int.lt_or_gt_of_ne hab with hc | hc
                            · have hdum : True := trivial
                              have HPP := Lib.hid (HPT.out.put HND.out HA.out HY.out hjk)
                              have hlt0 : decide (a < b) = true := decide_eq_true hc
                              rw [hlt0] at HPP
                              obtain ⟨kl, hkl⟩ := choiceKey (c := ⟨2, (key : Int), min a b, max a b⟩) (by have h1 := hai; have h2 := hbi; unfold i64 at h1 h2; unfold SmallCh i64; simp only; omega)
                              have HKL := Lib.hid hkl
                              clear hkl
                              go_wp2_with (at_mapUpdate; refine wpList_mapUpdate_T (b := w.heap.size) (eK := chK) (eV := Value.bool) rfl _ _ _ rfl choiceKeyed chK_inj Tryz.underlying87 HM3.out rfl ⟨2, (key : Int), min a b, max a b⟩ HKL.out rfl true rfl ?_; intro w9 hM9 hg9)
                              have hb9 : Below w.heap.size w w9 := HBs.out.grown hg9 HBs.out.size (fun j hj => by cases hj; exact Nat.le_refl _)
                              refine ⟨⟨j + 1, putM F3 ⟨2, (key : Int), min a b, max a b⟩ true, by omega, rfl, Lib.hid ⟨fun i hi => by rw [isM_fact1 (HF3.out.put _ _ _ _) HF3.out]; exact HFN3.out.1 i hi, HFN3.out.2.put h16 (by rw [HOL.out]; exact List.mem_of_getElem? HA.out) (by rw [HOL.out]; exact List.mem_of_getElem? HY.out) hab _⟩, Lib.hid ?_⟩, ?_⟩
                              · exact ⟨hM9, HF3.out.put _ _ _ _, fun key' hk' => (HPR3.out key' hk').other (by omega), HPP.out, hb9⟩
                              · simp only [intOf]; omega
                            · have hdum : True := trivial
                              have HPP := Lib.hid (HPT.out.put HND.out HA.out HY.out hjk)
                              have hlt0 : decide (a < b) = false := decide_eq_false (by omega)
                              rw [hlt0] at HPP
                              obtain ⟨kl, hkl⟩ := choiceKey (c := ⟨2, (key : Int), min a b, max a b⟩) (by have h1 := hai; have h2 := hbi; unfold i64 at h1 h2; unfold SmallCh i64; simp only; omega)
                              have HKL := Lib.hid hkl
                              clear hkl
                              go_wp2_with (at_mapUpdate; refine wpList_mapUpdate_T (b := w.heap.size) (eK := chK) (eV := Value.bool) rfl _ _ _ rfl choiceKeyed chK_inj Tryz.underlying87 HM3.out rfl ⟨2, (key : Int), min a b, max a b⟩ HKL.out rfl false rfl ?_; intro w9 hM9 hg9)
                              have hb9 : Below w.heap.size w w9 := HBs.out.grown hg9 HBs.out.size (fun j hj => by cases hj; exact Nat.le_refl _)
                              refine ⟨⟨j + 1, putM F3 ⟨2, (key : Int), min a b, max a b⟩ false, by omega, rfl, Lib.hid ⟨fun i hi => by rw [isM_fact1 (HF3.out.put _ _ _ _) HF3.out]; exact HFN3.out.1 i hi, HFN3.out.2.put h16 (by rw [HOL.out]; exact List.mem_of_getElem? HA.out) (by rw [HOL.out]; exact List.mem_of_getElem? HY.out) hab _⟩, Lib.hid ?_⟩, ?_⟩
                              · exact ⟨hM9, HF3.out.put _ _ _ _, fun key' hk' => (HPR3.out key' hk').other (by omega), HPP.out, hb9⟩
                              · simp only [intOf]; omega
                          · obtain rfl : j = k := by omega
                            go_wp2_with fail
                            exact ⟨⟨j + 1, F3, by omega, rfl, Lib.hid HFN3.out, Lib.hid ⟨HM3.out, HF3.out, HPR3.out, HPT.out.next, HBs.out⟩⟩, by simp only [intOf]; omega⟩
                      · obtain rfl : k = l.length := by omega
                        have hpr : ∀ key' : Nat, key' < key + 1 → PrT F2 key' (ordL O key') (ordL O key').length 0 := fun key' hk' => by
                          rcases Nat.lt_or_ge key' key with h | h
                          · exact HPR2.out key' h
                          · obtain rfl : key' = key := by omega
                            rw [HOL.out]; exact HPT2.out
                        have HPRn := Lib.hid hpr
                        clear hpr
                        go_wp2_with fail
                        refine ⟨⟨key + 1, F2, by omega, rfl, Lib.hid ?_⟩, ?_⟩
                        · exact ⟨HFN2.out, HM2.out, HF2.out, HPRn.out, HGD.out.next HNX.out, HB5.out⟩
                        · simp only [intOf]; omega
                  · have HNE := Lib.hid (show ¬ srt (ordL O key) = wantL ts dn key ts.length by rw [HOL.out, HW0.out]; exact heq)
                    have HDE := Lib.hid (show decide (srt l = W0) = false from decide_eq_false heq)
                    clear heq
                    go_wp2_with (first
                      | (go_at_call 74; refine HVC.out.mono ?_; rintro e w5 ⟨rfl, hw5⟩; subst hw5)
                      | (go_at_call 73; refine HSC.out.mono ?_; rintro e w6 ⟨v6, rfl, ho6, hb6⟩; have HB6 := Lib.hid (HBv.out.trans (hb6.mono HBv.out.size)); have HO6 := Lib.hid ho6; clear ho6 hb6)
                      | (go_at_call 72; refine (equalI_call _ _ _ _ w6 (OwI.rdY HO6.out HSI.out) (HWI.out.later HB6.out)).mono ?_; rw [HDE.out]; rintro e w7 ⟨rfl, hb7⟩; have HB7 := Lib.hid (HB6.out.trans (hb7.mono HB6.out.size)); clear hb7))
                    go_ret2
                    exact FixR.no rfl (fun F' h => HNE.out (h.good key h16)) (HBq.out.trans ((HBi.out.trans (HB7.out.mono HBi.out.size)).mono HBq.out.size))
            · obtain rfl : key = 16 := by omega
              go_wp2_with fail
              go_ret2
              exact ⟨_, true, rfl, Lib.hid ⟨fun _ => ⟨_, F, rfl, HM.out, ⟨HF1.out, HFN.out.1, HGD.out, HPR.out, HFN.out.2⟩⟩, fun h => (by cases h)⟩, HBq.out⟩
end Go.Proofs.YtnacoplokjdglaaGreat

namespace Go.Proofs.YtnacoplokjdglaaGreat
open Go.RowKit Go.Maps
attribute [local go_sem] Oper.semAt_some

theorem own_shapeF {w : World} {base : Nat} {v : Value} {G : FaL} (h : OwSaid base w v G) : ∃ a c, v = .slice a G.length c := by
  rcases h.2 with ⟨hv, h0⟩ | ⟨g, cap, cur, hv, _⟩
  · rw [h0]; exact ⟨none, 0, hv⟩
  · exact ⟨_, _, hv⟩
theorem take_said {l : List Int} {j k : Nat} {x y : Int} (hx : l[j]? = some x) (hy : l[k]? = some y) (key : Int) : sdA key l k (j + 1) = sdA key l k j ++ [pairS key x y] := by rw [sdA_succ, hx, hy]; rfl
/-- What said answers where the lengths agree. -/
def Said12Q (ts : List GTxn) (dn : List Bool) (O : OrdL) (w : World) (e : Ending) (w' : World) : Prop := ∃ (a : Option Addr) (n c : Nat) (b : Bool), e = .returned (.tuple #[.slice a n c, .bool b]) ∧ Hid ((b = true → Fits ts dn (sd0 (choicesM ts) dn) ∧ n = (saidL ts dn O).length ∧ OwSaid w.heap.size w' (.slice a n c) (saidL ts dn O)) ∧ (b = false → ¬ Fits ts dn (sd0 (choicesM ts) dn))) ∧ Below w.heap.size w w'

set_option maxRecDepth 100000 in
set_option maxHeartbeats 8000000 in
theorem said12_call (v : Value) (ts : List GTxn) (da : Option Addr) (dc : Nat) (om : Option Nat) (dn : List Bool) (O : OrdL) (w : World) (hv : RdTxns w v ts) (hg : GoodTs ts) (hd : RdB w (.slice da ts.length dc) dn) (hdl : dn.length = ts.length)
    (hO : LookO w (.map om) O) (hO60 : ∀ key : Nat, key < 16 → (ordL O key).length ≤ 60) :
    Calls Tryz.prog 26 #[v, .slice da ts.length dc, .map om] w (Said12Q ts dn O w) := by
  have HV := Lib.hid hv
  have HG := Lib.hid hg
  have HOK := Lib.hid hg.ok
  have HD := Lib.hid hd
  have HDL := Lib.hid hdl
  have HO := Lib.hid hO
  have H60 := Lib.hid hO60
  have htl : ts.length ≤ 60 := hg.len
  obtain ⟨a, len, cap, rfl, rfl, hmm, -⟩ := hv.at
  have HS0 := Lib.hid (show OwSaid w.heap.size (w.alloc (.cells #[] 109)) (.slice (some ⟨w.heap.size, 0, none⟩) 0 0) [] from World.ownsRow_lit (base := w.heap.size) (e := 109) (size := 5) w #[] 0 (Nat.le_refl _) (by simp [maxLen]) rfl)
  have HB0 := Lib.hid ((Below.refl w.heap.size w).alloc (Nat.le_refl _) (.cells #[] 109))
  have hw0 : (w.alloc (.cells #[] 109)).heap.size = w.heap.size + 1 := by simp
  clear hv hg hd hdl hO hO60
  go_enter Tryz.func26, Tryz.ntmps26
  go_upto_region 4 with fail
  generalize w.alloc (.cells #[] 109) = w0 at *
  go_wp2_with (go_at_call 16; refine (refChoices_call _ ts w0 (HV.out.later HB0.out) HOK.out (by omega)).mono ?_; rintro e w2 ⟨v2, rfl, ho2, hb2⟩; have HO2 := Lib.hid ho2; have HC2 := Lib.hid ho2.rd; have HB2 := Lib.hid hb2; obtain ⟨a2, len2, cap2, rfl, rfl, hm2, -⟩ := HC2.out.at; clear hb2 ho2)
  have HBw2 := Lib.hid (HB0.out.trans (HB2.out.mono HB0.out.size))
  have HS2 := Lib.hid (show OwSaid w.heap.size w2 _ [] from own_below HS0.out HB2.out)
  have HCE := Lib.hid (choices_eq HG.out.uniq)
  have HCO := Lib.hid (fun c (h : c ∈ choicesM ts) => choicesM_ok h)
  have hcl := choicesM_le ts (by omega)
  obtain ⟨C, hC⟩ : ∃ C, choicesM ts = C := ⟨_, rfl⟩
  have HC := Lib.hid hC
  rw [← HCE.out, hC] at HO2 HC2 hm2
  rw [hC] at HCO hcl
  rw [← HCE.out, hC]
  clear hC
  go_loopw [8, 27] (fun f n wr => ∃ k : Nat, k ≤ C.length ∧ n = .int .i64 k ∧ Hid (OwSaid w.heap.size wr f (sd0 (C.take k) dn) ∧ OwCh 76 w0.heap.size wr (.slice a2 C.length cap2) C ∧ Below w.heap.size w wr)) (fun _ n _ => C.length - (intOf n).toNat)
  case atStart => exact ⟨0, Nat.zero_le _, rfl, Lib.hid ⟨HS2.out, HO2.out, HBw2.out⟩⟩
  case round =>
    obtain ⟨wk, rfl⟩ : ∃ wk : World, wk = wr := ⟨_, rfl⟩
    obtain ⟨k, hk, rfl, HJ⟩ := hrel
    have HSk := Lib.hid HJ.out.1
    have HOk := Lib.hid HJ.out.2.1
    have HBk := Lib.hid HJ.out.2.2
    clear HJ
    have hbs := HBk.out.size
    obtain ⟨fa, fc, rfl⟩ := own_shapeF HSk.out
    by_cases hlt : k < C.length
    · obtain ⟨c, hc⟩ := some_at hlt
      have hco := HCO.out c (List.mem_of_getElem? hc)
      obtain ⟨kd, ky, ca, cb⟩ := c
      obtain ⟨an, rfl⟩ := Int.eq_ofNat_of_zero_le hco.a.1
      have han : an < ts.length := by have := hco.a.2; simpa using this
      obtain ⟨_, _, _, e5, -, -, hclc⟩ := HOk.out.rd.at
      cases e5
      obtain ⟨b, off, rfl, k0, k1, k2, k3⟩ := hclc k _ hc
      have hkI : (k : Int) < (C.length : Int) := by omega
      have wk1 : IntKind.i64.wrap ((k : Int) + 1) = ((k + 1 : Nat) : Int) := by rw [IntWalk.i64_in _ (by omega)]; omega
      have HTK := Lib.hid (take_at hc)
      have HLE := Lib.hid (show (sd0 (C.take k) dn).length ≤ C.length from by
        have h1 := List.length_filterMap_le (fun c : GChoice => if c.kind = 1 then some (c, dn[c.a.toNat]?.getD false) else none) (C.take k)
        have h2 := List.length_take_le k C
        unfold sd0; rw [List.length_take] at h1; omega)
      have hle := HLE.out
      have HXo := Lib.hid (alloc_at wk (.cells #[vi kd, vi ky, vi an, vi cb] 76))
      have HOo := Lib.hid (HOk.out.alloc (.cells #[vi kd, vi ky, vi an, vi cb] 76))
      have HSo := Lib.hid (World.ownsRow.alloc HSk.out (.cells #[vi kd, vi ky, vi an, vi cb] 76))
      have HBo := Lib.hid (HBk.out.alloc hbs (.cells #[vi kd, vi ky, vi an, vi cb] 76))
      have hwo : (wk.alloc (.cells #[vi kd, vi ky, vi an, vi cb] 76)).heap.size = wk.heap.size + 1 := by simp
      clear hclc hc hco
      go_upto_region 7 with fail
      clear k0 k1 k2 k3
      generalize wk.alloc (.cells #[vi kd, vi ky, vi an, vi cb] 76) = wo at *
      have q0 : wo.cell? ⟨wk.heap.size, 0, none⟩ = some (vi kd) := by rw [cell_of HXo.out]; rfl
      have q1 : wo.cell? ⟨wk.heap.size, 1, none⟩ = some (vi ky) := by rw [cell_of HXo.out]; rfl
      have q2 : wo.cell? ⟨wk.heap.size, 2, none⟩ = some (vi an) := by rw [cell_of HXo.out]; rfl
      have q3 : wo.cell? ⟨wk.heap.size, 3, none⟩ = some (vi cb) := by rw [cell_of HXo.out]; rfl
      have hbo := HBo.out.size
      clear hwo
      by_cases h1 : kd = 1
      · have HSN := Lib.hid (show sd0 (C.take (k + 1)) dn = sd0 (C.take k) dn ++ [(⟨kd, ky, an, cb⟩, dn[an]?.getD false)] from by rw [HTK.out, sd0_snoc, if_pos h1]; simp)
        have e1 : (kd == 1) = true := beq_iff_eq.2 h1
        obtain ⟨x, hx⟩ := some_at (l := dn) (k := an) (by rw [HDL.out]; exact han)
        obtain ⟨_, _, _, e9, -, -, hdc⟩ := HD.out.at
        cases e9
        obtain ⟨gb, go, rfl, hd0⟩ := hdc an x hx
        have d0 := cell_later (w' := wo) (by have := HBo.out; exact this) hd0
        rw [hx] at HSN
        have hanI : (an : Int) < (ts.length : Int) := by omega
        clear hx h1 hdc hd0
        go_upto_region 8 with fail
        have HSd := Lib.hid (show OwSaid w.heap.size (wo.alloc (.cells #[vi kd, vi ky, vi an, vi cb, .bool x] 109)).drew (.slice fa (sd0 (C.take k) dn).length fc) (sd0 (C.take k) dn) from World.ownsRow.alloc HSo.out (.cells #[vi kd, vi ky, vi an, vi cb, .bool x] 109))
        have HOd := Lib.hid (show OwCh 76 w0.heap.size (wo.alloc (.cells #[vi kd, vi ky, vi an, vi cb, .bool x] 109)).drew _ C from World.ownsRow.alloc HOo.out (.cells #[vi kd, vi ky, vi an, vi cb, .bool x] 109))
        have HBd := Lib.hid (show Below w.heap.size w (wo.alloc (.cells #[vi kd, vi ky, vi an, vi cb, .bool x] 109)).drew from (HBo.out.alloc hbo (.cells #[vi kd, vi ky, vi an, vi cb, .bool x] 109)).drew)
        have HSRC := Lib.hid (show Src (wo.alloc (.cells #[vi kd, vi ky, vi an, vi cb, .bool x] 109)).drew (.slice (some ⟨wo.heap.size, 0, none⟩) 1 1) 5 1 (saidV (⟨kd, ky, an, cb⟩, x)) from src_new (cs := #[vi kd, vi ky, vi an, vi cb, .bool x]) rfl rfl)
        go_region_law (refine step_append_src rfl _ _ 60 rfl eltSaid w.heap.size (sd0 (C.take k) dn).length _ HSd.out rfl 1 (saidV (⟨kd, ky, an, cb⟩, x)) HSRC.out rfl (saidV_one _) (by omega) (by omega) (by first | (simp; done) | (simp; omega)) ?_; intro v5 w5 ho5 hg5 _; have HS5 := Lib.hid ho5; have HO5 := Lib.hid (World.ownsRow.kept HOd.out hg5 (own_apart HSd.out HOd.out (by decide))); have HB5 := Lib.hid (HBd.out.grown hg5 (by first | (simp; done) | (simp; omega)) (fun j hj => (World.ownsRow.lt HSd.out j hj).1)); clear ho5 hg5)
        all_goals
          clear q0 q1 q2 q3 d0
          go_wp2_with fail
          refine ⟨⟨k + 1, by omega, rfl, Lib.hid ⟨?_, HO5.out, HB5.out⟩⟩, ?_⟩
          · rw [HSN.out]; have h := HS5.out; unfold OwSaid; simpa using h
          · simp only [intOf]; omega
      · have e1 : (kd == 1) = false := beq_eq_false_iff_ne.2 h1
        have HSN := Lib.hid (show sd0 (C.take (k + 1)) dn = sd0 (C.take k) dn from by rw [HTK.out, sd0_snoc, if_neg h1, List.append_nil])
        clear h1
        go_wp2_with fail
        exact ⟨⟨k + 1, by omega, rfl, Lib.hid ⟨by rw [HSN.out]; exact HSo.out, HOo.out, HBo.out⟩⟩, by simp only [intOf]; omega⟩
    · obtain rfl : k = C.length := by omega
      have HSC := Lib.hid (show OwSaid w.heap.size wk (.slice fa (sd0 (choicesM ts) dn).length fc) (sd0 (choicesM ts) dn) from by have h := HSk.out; rw [List.take_length] at h; rw [HC.out]; exact h)
      have hsl : (sd0 (C.take C.length) dn).length = (sd0 (choicesM ts) dn).length := by rw [List.take_length, HC.out]
      rw [hsl]
      have HVk := Lib.hid (HV.out.later HBk.out)
      have hs0 : (sd0 (choicesM ts) dn).length ≤ C.length := by
        have h1 := List.length_filterMap_le (fun c : GChoice => if c.kind = 1 then some (c, dn[c.a.toNat]?.getD false) else none) (choicesM ts)
        unfold sd0; rw [HC.out] at h1 ⊢; exact h1
      clear HOk HO2 HC2 HS2 HS0 HBw2 HCO HSk hsl
      go_wp2_with fail
      go_loopw [11, 47] (fun _ n wr => ∃ i : Nat, i ≤ ts.length ∧ n = .int .i64 i ∧ Hid (∀ j : Nat, j < i → (isM ts (sd0 (choicesM ts) dn) j).1 = dn[j]?.getD false) ∧ Below wk.heap.size wk wr) (fun _ n _ => ts.length - (intOf n).toNat)
      case atStart => exact ⟨0, Nat.zero_le _, rfl, Lib.hid (fun j h => absurd h (Nat.not_lt_zero _)), Below.refl _ _⟩
      case round =>
        obtain ⟨wi, rfl⟩ : ∃ wk : World, wk = wr := ⟨_, rfl⟩
        obtain ⟨i, hi, rfl, HFI, hb⟩ := hrel
        have HBi := Lib.hid hb
        have HVi := Lib.hid (HVk.out.later hb)
        have HSi := Lib.hid (show OwSaid w.heap.size wi (.slice fa (sd0 (choicesM ts) dn).length fc) (sd0 (choicesM ts) dn) from own_below HSC.out hb)
        have HBz := Lib.hid (HBk.out.trans (hb.mono HBk.out.size))
        clear hb
        by_cases hlt2 : i < ts.length
        · obtain ⟨x, hx⟩ := some_at (l := dn) (k := i) (by rw [HDL.out]; exact hlt2)
          have hiI : (i : Int) < (ts.length : Int) := by omega
          have wi1 : IntKind.i64.wrap ((i : Int) + 1) = ((i + 1 : Nat) : Int) := by rw [IntWalk.i64_in _ (by omega)]; omega
          obtain ⟨_, _, _, e9, -, -, hdc⟩ := HD.out.at
          cases e9
          obtain ⟨gb, go, rfl, hd0⟩ := hdc i x hx
          have HX := Lib.hid hd0
          have HE := Lib.hid (show dn[i]?.getD false = x by rw [hx]; rfl)
          have HI := Lib.hid (fun (W : World) (hb : Below wi.heap.size wi W) => refIs_call _ _ ts (sd0 (choicesM ts) dn) i W (HVi.out.later hb) HOK.out (HSi.out.rd.later hb) hlt2)
          obtain ⟨y, hy⟩ : ∃ y, (isI ts (sd0 (choicesM ts) dn) i == 1) = y := ⟨_, rfl⟩
          have HY := Lib.hid (show (isM ts (sd0 (choicesM ts) dn) i).1 = y by rw [← hy]; exact (isI_one HG.out.uniq _ _).symm)
          have hst : x = y → ∀ j : Nat, j < i + 1 → (isM ts (sd0 (choicesM ts) dn) j).1 = dn[j]?.getD false := fun hxy j hj => by
            rcases Nat.lt_or_ge j i with h1 | h1
            · exact HFI.out j h1
            · obtain rfl : j = i := by omega
              rw [HY.out, HE.out, hxy]
          have HST := Lib.hid hst
          have HNE := Lib.hid (show x ≠ y → ¬ Fits ts dn (sd0 (choicesM ts) dn) from fun hxy hf => by
            have h1 := hf i hlt2
            rw [HY.out, HE.out] at h1
            exact hxy h1.symm)
          have d0 := cell_later HBz.out hd0
          clear hx hst hdc hd0
          generalize isI ts (sd0 (choicesM ts) dn) i = iv at *
          have HBi0 := Lib.hid ((Below.refl wi.heap.size wi).drew)
          go_upto_region 13 with fail
          go_cut [59] (fun r wy => r = .bool (y != x) ∧ Below wi.heap.size wi wy)
          case first =>
            go_region_law (go_simp; go_at_call 55; refine (HI.out wi.drew HBi0.out).mono ?_; rintro e5 w5 ⟨rfl, hb5⟩; have d5 := cell_later (HBi0.out.trans hb5) d0; have HB5 := Lib.hid (HBi0.out.trans hb5); clear hb5)
            all_goals
              go_wp2
              go_meet
              exact ⟨by rw [← hy]; rfl, HB5.out⟩
          case rest =>
            obtain ⟨wy, rfl⟩ : ∃ wy : World, wy = wc := ⟨_, rfl⟩
            obtain ⟨rfl, hby⟩ := hcut
            have HBy := Lib.hid (HBi.out.trans (hby.mono HBi.out.size))
            have HBy2 := Lib.hid (HBz.out.trans (hby.mono HBz.out.size))
            clear hby d0 hy
            cases x with
            | false =>
              cases y with
              | false =>
                go_wp2_with fail
                exact ⟨⟨i + 1, by omega, rfl, Lib.hid (HST.out rfl), HBy.out⟩, by simp only [intOf]; omega⟩
              | true =>
                go_wp2_with fail
                go_ret2
                exact ⟨none, 0, 0, false, rfl, Lib.hid ⟨fun h => (by cases h), fun _ => HNE.out (by decide)⟩, HBy2.out⟩
            | true =>
              cases y with
              | true =>
                go_wp2_with fail
                exact ⟨⟨i + 1, by omega, rfl, Lib.hid (HST.out rfl), HBy.out⟩, by simp only [intOf]; omega⟩
              | false =>
                go_wp2_with fail
                go_ret2
                exact ⟨none, 0, 0, false, rfl, Lib.hid ⟨fun h => (by cases h), fun _ => HNE.out (by decide)⟩, HBy2.out⟩
        · obtain rfl : i = ts.length := by omega
          have HFT0 := Lib.hid (show Fits ts dn (sd0 (choicesM ts) dn) from fun i hi => HFI.out i hi)
          clear HFI HVk HVi
          obtain ⟨S0, hS0⟩ : ∃ S0, sd0 (choicesM ts) dn = S0 := ⟨_, rfl⟩
          have HS0' := Lib.hid hS0
          have HFT := Lib.hid (show Fits ts dn S0 from by have h := HFT0.out; rwa [hS0] at h)
          rw [hS0] at HSi hs0
          rw [hS0]
          clear hS0 HSC HFT0
          go_wp2_with fail
          go_loopw [8, 12, 13, 14, 15, 16, 17, 70] (fun f n _ _ _ _ _ _ wr => ∃ key : Nat, key ≤ 16 ∧ n = .int .i64 key ∧ Hid (OwSaid w.heap.size wr f (S0 ++ sdC O key) ∧ Below w.heap.size w wr)) (fun _ n _ _ _ _ _ _ _ => 16 - (intOf n).toNat)
          case atStart => exact ⟨0, by omega, rfl, Lib.hid ⟨by have h := HSi.out; simpa [sdC] using h, HBz.out⟩⟩
          case round =>
            clear HSi HBz
            obtain ⟨wq, rfl⟩ : ∃ wk : World, wk = wr := ⟨_, rfl⟩
            obtain ⟨key, hkey, rfl, HJ⟩ := hrel
            have HSq := Lib.hid HJ.out.1
            have HBq := Lib.hid HJ.out.2
            clear HJ
            have hbq := HBq.out.size
            have hcl16 := sdC_len H60.out key (by omega)
            obtain ⟨fb, fd, rfl⟩ := own_shapeF HSq.out
            by_cases h16 : key < 16
            · obtain ⟨ov, hlk0, hrl, hll⟩ := HO.out key h16
              have hlk := hlk0 wq HBq.out
              have hl60 := H60.out key h16
              have HSC1 := Lib.hid (show sdC O (key + 1) = sdC O key ++ sdB (key : Int) (ordL O key) (ordL O key).length from sdC_succ O key)
              clear hlk0
              obtain ⟨l, hol2⟩ : ∃ l, ordL O key = l := ⟨_, rfl⟩
              rw [hol2] at hrl hll hl60 HSC1
              have k16 : (key : Int) < 16 := by omega
              have wk1 : IntKind.i64.wrap ((key : Int) + 1) = ((key + 1 : Nat) : Int) := by rw [IntWalk.i64_in _ (by omega)]; omega
              have HRL := Lib.hid hrl
              obtain ⟨oa, oc0, oc, rfl, rfl, hom, -⟩ := hrl.at
              clear hrl hol2
              go_upto_region 20 with fail
              clear hlk
              go_wp2_with fail
              go_loopw [8, 14, 15, 16, 17, 70] (fun f _ _ _ _ n wr => ∃ k : Nat, k ≤ l.length ∧ n = .int .i64 k ∧ Hid (OwSaid w.heap.size wr f ((S0 ++ sdC O key) ++ sdB (key : Int) l k) ∧ Below w.heap.size w wr)) (fun _ _ _ _ _ n _ => l.length - (intOf n).toNat)
              case atStart => exact ⟨0, Nat.zero_le _, rfl, Lib.hid ⟨by have h := HSq.out; simpa [sdB] using h, HBq.out⟩⟩
              case round =>
                clear HSq HBq
                obtain ⟨wp, rfl⟩ : ∃ wk : World, wk = wr := ⟨_, rfl⟩
                obtain ⟨k, hk4, rfl, HJ⟩ := hrel
                have HSp := Lib.hid HJ.out.1
                have HBp := Lib.hid HJ.out.2
                clear HJ
                have hsb := sdB_len (key : Int) l k
                obtain ⟨fe, fg, rfl⟩ := own_shapeF HSp.out
                by_cases hk5 : k < l.length
                · have hkI : (k : Int) < (l.length : Int) := by omega
                  have wk2 : IntKind.i64.wrap ((k : Int) + 1) = ((k + 1 : Nat) : Int) := by rw [IntWalk.i64_in _ (by omega)]; omega
                  obtain ⟨y, hy⟩ := some_at hk5
                  have HY := Lib.hid hy
                  have HSB1 := Lib.hid (show sdB (key : Int) l (k + 1) = sdB key l k ++ sdA key l k k from sdB_succ _ _ _)
                  clear hy
                  go_wp2_with fail
                  go_loopw [8, 15, 16, 17] (fun f n _ _ wr => ∃ j : Nat, j ≤ k ∧ n = .int .i64 j ∧ Hid (OwSaid w.heap.size wr f (((S0 ++ sdC O key) ++ sdB (key : Int) l k) ++ sdA (key : Int) l k j) ∧ Below w.heap.size w wr)) (fun _ n _ _ _ => k - (intOf n).toNat)
                  case atStart => exact ⟨0, Nat.zero_le _, rfl, Lib.hid ⟨by have h := HSp.out; simpa [sdA] using h, HBp.out⟩⟩
                  case round =>
                    clear HSp HBp
                    obtain ⟨ws, rfl⟩ : ∃ wk : World, wk = wr := ⟨_, rfl⟩
                    obtain ⟨j, hj6, rfl, HJ⟩ := hrel
                    have HSs := Lib.hid HJ.out.1
                    have HBs := Lib.hid HJ.out.2
                    clear HJ
                    obtain ⟨fh, fi, rfl⟩ := own_shapeF HSs.out
                    obtain ⟨M, hM⟩ : ∃ M, ((S0 ++ sdC O key) ++ sdB (key : Int) l k) ++ sdA (key : Int) l k j = M := ⟨_, rfl⟩
                    have HM := Lib.hid hM
                    have hMl : M.length + 1 ≤ 68719476736 := by
                      rw [← hM]
                      have h5 : k * k ≤ 60 * 60 := Nat.mul_le_mul (by omega) (by omega)
                      simp only [List.length_append, sdA_len]
                      omega
                    rw [hM] at HSs
                    rw [hM]
                    clear hM
                    by_cases hjk : j < k
                    · obtain ⟨x, hx⟩ := some_at (l := l) (k := j) (by omega)
                      have hjI : (j : Int) < (k : Int) := by omega
                      have hjl : (j : Int) < (l.length : Int) := by omega
                      have hkI : (k : Int) < (l.length : Int) := by omega
                      have wj1 : IntKind.i64.wrap ((j : Int) + 1) = ((j + 1 : Nat) : Int) := by rw [IntWalk.i64_in _ (by omega)]; omega
                      obtain ⟨_, _, _, e6, -, -, hul⟩ := (HRL.out.later HBs.out).at
                      cases e6
                      obtain ⟨lb, lo, rfl, x0, -⟩ := hul j x hx
                      obtain ⟨_, _, e7, y0, -⟩ := hul k y HY.out
                      cases e7
                      have HMN := Lib.hid (show ((S0 ++ sdC O key) ++ sdB (key : Int) l k) ++ sdA (key : Int) l k (j + 1) = M ++ [pairS key x y] from by rw [take_said hx HY.out, ← List.append_assoc, HM.out])
                      clear hul hx
                      go_upto_region 26 with fail
                      go_still_tail 8, (by kernel_rfl)
                      change wpList _ _ _ _ _ ws.drew
                      have HSt := Lib.hid (show OwSaid w.heap.size ws.drew _ M from HSs.out)
                      have HBt := Lib.hid (show Below w.heap.size w ws.drew from HBs.out.drew)
                      have x1 : ws.drew.cell? ⟨lb, lo + j, none⟩ = some (vi x) := x0
                      have y1 : ws.drew.cell? ⟨lb, lo + k, none⟩ = some (vi y) := y0
                      clear x0 y0 HSs HBs
                      generalize ws.drew = wt at *
                      go_upto_region 27 with fail
                      go_still_tail 8, (by kernel_rfl)
                      change wpList _ _ _ _ _ wt.drew
                      have HSs := Lib.hid (show OwSaid w.heap.size wt.drew _ M from HSt.out)
                      have HBs := Lib.hid (show Below w.heap.size w wt.drew from HBt.out.drew)
                      have x0 : wt.drew.cell? ⟨lb, lo + j, none⟩ = some (vi x) := x1
                      clear x1 y1 HSt HBt
                      generalize wt.drew = wu at *
                      have HSL := Lib.hid (World.ownsRow.alloc HSs.out (.cells #[vi 2, vi key, vi (min x y), vi (max x y), .bool (x == min x y)] 109))
                      have hbs5 := HBs.out.size
                      have HSRC := Lib.hid (show Src (wu.alloc (.cells #[vi 2, vi key, vi (min x y), vi (max x y), .bool (x == min x y)] 109)) (.slice (some ⟨wu.heap.size, 0, none⟩) 1 1) 5 1 (saidV (pairS key x y)) from by
                        have h : Src (wu.alloc (.cells #[vi 2, vi key, vi (min x y), vi (max x y), .bool (x == min x y)] 109)) (.slice (some ⟨wu.heap.size, 0, none⟩) 1 1) 5 1 [vi 2, vi key, vi (min x y), vi (max x y), .bool (x == min x y)] := src_new (cs := #[vi 2, vi key, vi (min x y), vi (max x y), .bool (x == min x y)]) rfl rfl
                        have e : (x == min x y) = decide (x = min x y) := by rw [Bool.eq_iff_iff, beq_iff_eq, decide_eq_true_eq]
                        rw [e] at h
                        rw [e]
                        exact h)
                      go_wp2_with (at_builtin; go_loud (refine wpList_append_src rfl _ _ 60 rfl eltSaid w.heap.size M.length _ HSL.out rfl 1 (saidV (pairS key x y)) HSRC.out rfl (saidV_one _) (by omega) (by omega) (by simp; omega) ?_; intro v5 w5 ho5 hg5 _; have HS5 := Lib.hid ho5; have HB5 := Lib.hid ((HBs.out.alloc HBs.out.size (.cells #[vi 2, vi key, vi (min x y), vi (max x y), .bool (x == min x y)] 109)).grown hg5 (by simp; omega) (fun j hj => (World.ownsRow.lt HSs.out j hj).1)); clear ho5 hg5))
                      refine ⟨⟨j + 1, by omega, rfl, Lib.hid ⟨?_, HB5.out⟩⟩, ?_⟩
                      · rw [HMN.out]; have h := HS5.out; unfold OwSaid; simpa using h
                      · simp only [intOf]; omega
                    · obtain rfl : j = k := by omega
                      have HMN := Lib.hid (show (S0 ++ sdC O key) ++ sdB (key : Int) l (j + 1) = M from by rw [HSB1.out, ← List.append_assoc, HM.out])
                      go_wp2_with fail
                      exact ⟨⟨j + 1, by omega, rfl, Lib.hid ⟨by rw [HMN.out]; exact HSs.out, HBs.out⟩⟩, by simp only [intOf]; omega⟩
                · obtain rfl : k = l.length := by omega
                  have HMN := Lib.hid (show S0 ++ sdC O (key + 1) = (S0 ++ sdC O key) ++ sdB (key : Int) l l.length from by rw [HSC1.out, ← List.append_assoc])
                  go_wp2_with fail
                  exact ⟨⟨key + 1, by omega, rfl, Lib.hid ⟨by rw [HMN.out]; exact HSp.out, HBp.out⟩⟩, by simp only [intOf]; omega⟩
            · obtain rfl : key = 16 := by omega
              have HSF := Lib.hid (show saidL ts dn O = S0 ++ sdC O 16 from by unfold saidL; rw [HS0'.out])
              go_wp2_with fail
              go_ret2
              exact ⟨_, _, _, true, rfl, Lib.hid ⟨fun _ => ⟨by rw [HS0'.out]; exact HFT.out, by rw [HSF.out], by rw [HSF.out]; exact HSq.out⟩, fun h => (by cases h)⟩, HBq.out⟩
end Go.Proofs.YtnacoplokjdglaaGreat
