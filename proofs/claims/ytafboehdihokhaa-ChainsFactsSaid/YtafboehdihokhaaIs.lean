/- chains.is, chains.Is and crucibleref09.Is. -/
import Derived.Test.YtafboehdihokhaaGet
namespace Go.Proofs.Ytafboehdihokhaa
open Go.RowKit Go.Maps

theorem isM_sure {ts : List GTxn} {L : FaL} {i : Nat} (h : (sureM ts)[i]? = some true) : isM ts L i = (true, true) := by unfold isM; rw [h]; rfl
theorem isM_dead {ts : List GTxn} {L : FaL} {i : Nat} (h : (sureM ts)[i]? = some false) (hd : deadB ts i = true) : isM ts L i = (false, true) := by unfold isM; rw [h, hd]; rfl
theorem isM_fact {ts : List GTxn} {L : FaL} {i : Nat} (h : (sureM ts)[i]? = some false) (hd : deadB ts i = false) : isM ts L i = ((getM L ⟨1, 0, i, 0⟩).getD false, (getM L ⟨1, 0, i, 0⟩).isSome) := by unfold isM; rw [h, hd]; rfl
theorem deadB_at {ts : List GTxn} {i : Nat} {t : GTxn} (h : ts[i]? = some t) : deadB ts i = (t.state == 2 || ((writesM t.ops).length : Int) == 0) := by
  unfold deadB stOf; rw [h]
  have : (((writesM t.ops).length : Int) == 0) = ((writesM t.ops).length == 0) := by rw [Bool.eq_iff_iff]; simp
  rw [this]; rfl
theorem small_commit {i : Nat} (h : i ≤ 4096) : SmallCh ⟨1, 0, i, 0⟩ := by
  unfold SmallCh i64; simp only; omega

theorem zero_bool (w : World) : (zeroValue 4).run Try.prog w = .ok (.bool false) w := by kernel_rfl

/-- A bool of a row that stands in a block. -/
theorem lookup_fact {w : World} {m : Nat} {L : FaL} (h : MapF w m L) {c : GChoice} (hc : SmallCh c) :
    (Instr.lookup 38 (.map (some m)) (chK c) true).run Try.prog w = .ok (.tuple #[.bool ((getM L c).getD false), .bool (getM L c).isSome]) w ∧ (Instr.lookup 38 (.map (some m)) (chK c) false).run Try.prog w = .ok (.bool ((getM L c).getD false)) w := by
  obtain ⟨kl, hkl⟩ := choiceKey hc
  obtain ⟨h1, h2⟩ := h.lookup choiceKeyed chK_inj (t := 38) (e := 4) Try.underlying38 c hkl (zero_bool w)
  have he : ((getM L c).map Value.bool).getD (.bool false) = .bool ((getM L c).getD false) := by cases getM L c <;> rfl
  rw [he] at h1 h2
  exact ⟨h2, h1⟩

set_option maxRecDepth 100000 in
set_option maxHeartbeats 4000000 in
theorem is_call (v : Value) (ts : List GTxn) (sv : Value) (m : Nat) (L : FaL) (i : Nat) (w : World) (hv : RdTxns w v ts) (hok : OkTxns ts) (htl : ts.length ≤ 4096) (hs : OwBs 0 w sv (sureM ts)) (hm : MapF w m L) (hi : i < ts.length) :
    Calls Try.prog 32 #[v, sv, .map (some m), .int .i64 i] w fun e w' => e = .returned (.tuple #[.bool (isM ts L i).1, .bool (isM ts L i).2]) ∧ Below w.heap.size w w' := by
  have HV := Lib.hid hv
  have HOK := Lib.hid hok
  have HM := Lib.hid hm
  have HS := Lib.hid hs
  obtain ⟨a, len, cap, rfl, rfl, hmm, hcl⟩ := hv.at
  obtain ⟨t, ht⟩ := some_at hi
  obtain ⟨b, off, oa, oc, rfl, hr, k0, k1, k2⟩ := hcl i t ht
  obtain ⟨sa, sc, rfl, hsc⟩ := OwBs.at hs
  have hsl := sureM_length ts
  obtain ⟨x, hx⟩ := some_at (l := sureM ts) (k := i) (by rw [hsl]; exact hi)
  obtain ⟨sb, so, rfl, x0⟩ := hsc i x hx
  rw [hsl]
  have HR := Lib.hid hr
  have HX := Lib.hid hx
  have HD := Lib.hid (deadB_at ht)
  have hok2 := (HOK.out.2 t (List.mem_of_getElem? ht)).2
  have hiI : (i : Int) < (ts.length : Int) := by omega
  clear hv hok hs hm hcl hsc hr hx ht hsl
  go_enter Try.func32, Try.ntmps32
  cases x with
  | true =>
    have he := Lib.hid (isM_sure (L := L) HX.out)
    go_wp2_with fail
    go_ret2
    exact ⟨by rw [he.out]; rfl, Below.refl _ _⟩
  | false =>
    go_upto_region 3 with fail
    go_cut [17] (fun r wx => r = .bool (deadB ts i) ∧ Below w.heap.size w wx)
    case first =>
      by_cases hs2 : t.state = 2
      · have h2 := beq_t hs2
        rw [h2] at HD
        clear hs2
        go_wp2_with fail
        go_meet
        exact ⟨by rw [HD.out]; rfl, Below.refl _ _⟩
      · have h2 := beq_f hs2
        rw [h2] at HD
        clear hs2
        go_wp2_with (go_at_call 27; refine (writes_call t.client t.state _ t.ops _ HR.out hok2).mono ?_; rintro e w2 ⟨v2, rfl, ho2, hb2⟩; have hr2 := ho2.rd; obtain ⟨a2, len2, cap2, rfl, rfl, hm2, -⟩ := hr2.at)
        go_meet
        exact ⟨by rw [HD.out]; first | rfl | simp, hb2⟩
    case rest =>
      obtain ⟨wx, rfl⟩ : ∃ wx : World, wx = wc := ⟨_, rfl⟩
      obtain ⟨rfl, hb⟩ := hcut
      have HB := Lib.hid hb
      cases hd : deadB ts i with
      | true =>
        have he := Lib.hid (isM_dead (L := L) HX.out hd)
        clear hd
        go_wp2_with fail
        go_ret2
        exact ⟨by rw [he.out]; rfl, HB.out⟩
      | false =>
        have he := Lib.hid (isM_fact (L := L) HX.out hd)
        have hl := (lookup_fact (HM.out.below hb HM.out.lt) (small_commit (i := i) (by omega))).1
        clear hd hb
        go_wp2_with fail
        go_ret2
        exact ⟨by rw [he.out]; rfl, HB.out⟩

theorem flat_bools : ∀ S : List Bool, S.flatMap bV = S.map Value.bool
  | [] => rfl
  | x :: S => by rw [List.flatMap_cons, flat_bools S]; rfl
/-- A slice of bools that flaws.Sure made, as an owned row. -/
theorem BoolB.own {w : World} {b : Nat} {S : List Bool} (h : BoolB w b S) (hl : S.length ≤ 4096) : OwBs 0 w (.slice (some ⟨b, 0, none⟩) S.length S.length) S := by
  have hf := flat_bools S
  refine ⟨by rw [hf]; simp, .inr ⟨b, S.length, (S.map Value.bool).toArray, rfl, Nat.zero_le _, h, Nat.le_refl _, by simp [maxLen]; omega, by simp, by rw [hf]; simp [List.take_of_length_le]⟩⟩

set_option maxRecDepth 100000 in
set_option maxHeartbeats 4000000 in
theorem Is_call (v : Value) (ts : List GTxn) (m : Nat) (L : FaL) (i : Nat) (w : World) (hv : RdTxns w v ts) (hok : OkTxns ts) (htl : ts.length ≤ 4096) (hm : MapF w m L) (hi : i < ts.length) :
    Calls Try.prog 14 #[v, .map (some m), .int .i64 i] w fun e w' => e = .returned (.tuple #[.bool (isM ts L i).1, .bool (isM ts L i).2]) ∧ Below w.heap.size w w' := by
  have HV := Lib.hid hv
  have HOK := Lib.hid hok
  have HM := Lib.hid hm
  have hsl := sureM_length ts
  clear hv hok hm
  go_enter Try.func14, Try.ntmps14
  go_wp2_with (first
    | (go_at_call 26; refine (sure_call _ _ _ HV.out HOK.out).mono ?_; rintro e w1 ⟨sb, rfl, hsb, hS, hb1⟩; have HB1 := Lib.hid hb1; have HS := Lib.hid (hS.own (by omega)); rw [hsl] at HS; have HV1 := Lib.hid (HV.out.later hb1); have HM1 := Lib.hid (HM.out.below hb1 HM.out.lt); clear hb1 hS)
    | (go_at_call 32; refine (is_call _ ts _ m L i _ HV1.out HOK.out htl HS.out HM1.out hi).mono ?_; rintro e w2 ⟨rfl, hb2⟩))
  go_ret2
  exact ⟨by rfl, HB1.out.trans (hb2.mono HB1.out.size)⟩

set_option maxRecDepth 100000 in
set_option maxHeartbeats 4000000 in
theorem refIs_call (v g : Value) (ts : List GTxn) (L : FaL) (i : Nat) (w : World) (hv : RdTxns w v ts) (hok : OkTxns ts) (hg : RdSaid w g L) (hi : i < ts.length) :
    Calls Try.prog 15 #[v, g, .int .i64 i] w fun e w' => e = .returned (vi (isI ts L i)) ∧ Below w.heap.size w w' := by
  have HV := Lib.hid hv
  have HOK := Lib.hid hok
  have HG := Lib.hid hg
  obtain ⟨a, len, cap, rfl, rfl, hmm, hcl⟩ := hv.at
  obtain ⟨t, ht⟩ := some_at hi
  obtain ⟨b, off, oa, oc, rfl, hr, k0', k1', k2'⟩ := hcl i t ht
  have HR := Lib.hid hr
  have K0 := Lib.hid k0'
  have K1 := Lib.hid k1'
  have K2 := Lib.hid k2'
  have HD := Lib.hid (deadB_at ht)
  have HSL := Lib.hid (refSureN_length ts ts.length)
  have hok2 := (HOK.out.2 t (List.mem_of_getElem? ht)).2
  have hiI : (i : Int) < (ts.length : Int) := by omega
  clear hv hok hg hcl hr k0' k1' k2' ht
  go_enter Try.func15, Try.ntmps15
  have HI := Lib.hid (show isI ts L i = (if (refSureN ts ts.length)[i]?.getD false then 1 else if deadB ts i then 0 else getI L ⟨1, 0, i, 0⟩) from rfl)
  obtain ⟨x, hx⟩ := some_at (l := refSureN ts ts.length) (k := i) (by rw [HSL.out]; exact hi)
  rw [hx] at HI
  have HX := Lib.hid hx
  clear hx
  cases x with
  | true =>
    go_wp2_with (go_at_call 29; refine (refSure_call _ ts _ HV.out HOK.out).mono ?_; rintro e w1 ⟨sv, rfl, hS, hb1⟩; obtain ⟨sa, sc, hsv, hsc⟩ := OwBs.at hS; rw [HSL.out] at hsv; subst hsv; obtain ⟨sb, so, rfl, x0⟩ := hsc i _ HX.out; have HB1 := Lib.hid hb1; have HG1 := Lib.hid (HG.out.later hb1); have HR1 := Lib.hid (HR.out.later hb1); have k0 := cell_later hb1 K0.out; have k1 := cell_later hb1 K1.out; have k2 := cell_later hb1 K2.out; clear hb1 hS hsc)
    go_ret
    exact ⟨by rw [HI.out]; rfl, HB1.out⟩
  | false =>
    go_upto_region 3 with (go_at_call 29; refine (refSure_call _ ts _ HV.out HOK.out).mono ?_; rintro e w1 ⟨sv, rfl, hS, hb1⟩; obtain ⟨sa, sc, hsv, hsc⟩ := OwBs.at hS; rw [HSL.out] at hsv; subst hsv; obtain ⟨sb, so, rfl, x0⟩ := hsc i _ HX.out; have HB1 := Lib.hid hb1; have HG1 := Lib.hid (HG.out.later hb1); have HR1 := Lib.hid (HR.out.later hb1); have k0 := cell_later hb1 K0.out; have k1 := cell_later hb1 K1.out; have k2 := cell_later hb1 K2.out; clear hb1 hS hsc)
    go_cut [26] (fun r wx => r = .bool (deadB ts i) ∧ Below w1.heap.size w1 wx)
    case first =>
      by_cases hs2 : t.state = 2
      · have h2 := beq_t hs2
        rw [h2] at HD
        clear hs2
        go_wp2_with fail
        go_meet
        exact ⟨by rw [HD.out]; rfl, Below.refl _ _⟩
      · have h2 := beq_f hs2
        rw [h2] at HD
        clear hs2
        go_wp2_with (go_at_call 30; refine (refWrites_call t.client t.state _ t.ops _ HR1.out hok2).mono ?_; rintro e w2 ⟨v2, rfl, ho2, hb2⟩; have hr2 := ho2.rd; obtain ⟨a2, len2, cap2, rfl, rfl, hm2, -⟩ := hr2.at)
        go_meet
        exact ⟨by rw [HD.out]; first | rfl | simp, hb2⟩
    case rest =>
      obtain ⟨wx, rfl⟩ : ∃ wx : World, wx = wc := ⟨_, rfl⟩
      obtain ⟨rfl, hb⟩ := hcut
      have HB := Lib.hid (HB1.out.trans (hb.mono HB1.out.size))
      have HG2 := Lib.hid (HG1.out.later hb)
      clear hb
      cases hd : deadB ts i with
      | true =>
        rw [hd] at HI
        clear hd
        go_wp2_with fail
        go_ret
        exact ⟨by rw [HI.out]; rfl, HB.out⟩
      | false =>
        rw [hd] at HI
        clear hd
        go_wp2_with (go_at_call 33; refine (get_call _ L ⟨1, 0, i, 0⟩ _ HG2.out).mono ?_; rintro e w3 ⟨rfl, hb3⟩)
        go_ret
        exact ⟨by rw [HI.out]; rfl, HB.out.trans (hb3.mono HB.out.size)⟩
end Go.Proofs.Ytafboehdihokhaa
