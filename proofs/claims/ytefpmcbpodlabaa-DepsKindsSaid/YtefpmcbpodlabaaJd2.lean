/- Texts of one proof, one behind the other: DpL4, DpL4b. -/
import Derived.Test.YtefpmcbpodlabaaJd1
import Derived.Test.YtefpmcbpodlabaaJc14
set_option linter.all false
/- cruciblelaw10.DepsKinds. -/
namespace Go.Proofs.Ytefpmcbpodlabaa.depsKinds
open Go.RowKit Go.Maps Go.Proofs.Ytefpmcbpodlabaa
attribute [local go_sem] Oper.semAt_some

def wC (key val : Int) (o : GOp) : Bool := (o.kind == 2 && o.key == key) && (decide (val < 0) || o.val == val)
def wrC (t : GTxn) (key val : Int) : Bool := t.ops.any (wC key val)
set_option maxRecDepth 100000 in
set_option maxHeartbeats 4000000 in
theorem wrote_call (ts : List GTxn) (v : Value) (tb i : Nat) (t : GTxn) (key val : Int) (w : World) (hv : RdTxns w v ts) (ht : ts[i]? = some t) (hb : w.heap[tb]? = some (.cells #[v] 33)) :
    Calls Try.prog 18 #[vi i, vi key, vi val, .pointer (some ⟨tb, 0, none⟩)] w fun e w' => e = .returned (.bool (wrC t key val)) ∧ Below w.heap.size w w' := by
  have hi := (List.getElem?_eq_some_iff.1 ht).1
  obtain ⟨a, n, cp, rfl, rfl, hm, hcl⟩ := hv.at
  obtain ⟨b, off, oa, oc, rfl, hr, c0, c1, c2⟩ := hcl i t ht
  have HR := Lib.hid hr
  have q0 : w.cell? ⟨tb, 0, none⟩ = some (.slice (some ⟨b, off, none⟩) ts.length cp) := by rw [cell_of hb]; rfl
  have i0 : (0 : Int) ≤ (i : Int) := by omega
  have i1 : (i : Int) < ts.length := by omega
  obtain ⟨_, _, _, e5, -, hml, -⟩ := hr.at
  clear e5
  clear hv ht hcl hr hb
  go_enter Try.func18, Try.ntmps18
  go_wp2_with fail
  clear q0 c0 c1 c2
  go_loopw [16] (fun i wr => ∃ k : Nat, k ≤ t.ops.length ∧ i = .int .i64 k ∧ Hid (Below w.heap.size w wr ∧ (t.ops.take k).any (wC key val) = false)) (fun i _ => t.ops.length - (intOf i).toNat)
  case atStart => exact ⟨0, Nat.zero_le _, rfl, Lib.hid ⟨Below.refl _ _, rfl⟩⟩
  case round =>
    obtain ⟨wj, rfl⟩ : ∃ wj : World, wj = wr := ⟨_, rfl⟩
    obtain ⟨k, hk, rfl, HJ⟩ := hrel
    have HBJ := Lib.hid HJ.out.1
    by_cases hlt : k < t.ops.length
    · have k1 : decide ((k : Int) < t.ops.length) = true := decide_eq_true (by omega)
      have k2 : (k : Int) < t.ops.length := by omega
      have hwk : IntKind.i64.wrap ((k : Int) + 1) = (k : Int) + 1 := IntWalk.i64_in _ (by omega)
      obtain ⟨o, ho⟩ := some_at hlt
      obtain ⟨_, _, _, e5, -, -, hcl⟩ := (HR.out.later HJ.out.1).at
      cases e5
      obtain ⟨b', off', rfl, y0, y1, y2⟩ := hcl k o ho
      have HNX := Lib.hid (show (t.ops.take (k + 1)).any (wC key val) = ((t.ops.take k).any (wC key val) || wC key val o) from by rw [take_at ho, List.any_append]; simp)
      have HM := Lib.hid (List.mem_of_getElem? ho)
      have HX := Lib.hid (alloc_at wj (.cells #[vi o.kind, vi o.key, vi o.val] 48))
      have HBA := Lib.hid (HJ.out.1.alloc HJ.out.1.size (.cells #[vi o.kind, vi o.key, vi o.val] 48))
      clear hcl ho
      go_upto_region 4 with fail
      clear y0 y1 y2
      generalize wj.alloc (.cells #[vi o.kind, vi o.key, vi o.val] 48) = wa at *
      obtain ⟨ob, hob⟩ : ∃ ob, ob = wj.heap.size := ⟨_, rfl⟩
      rw [← hob] at HX ⊢
      clear hob
      have z0 : wa.cell? ⟨ob, 0, none⟩ = some (vi o.kind) := by rw [cell_of HX.out]; rfl
      have z1 : wa.cell? ⟨ob, 1, none⟩ = some (vi o.key) := by rw [cell_of HX.out]; rfl
      have z2 : wa.cell? ⟨ob, 2, none⟩ = some (vi o.val) := by rw [cell_of HX.out]; rfl
      have no : wC key val o = false → (Hid (Below w.heap.size w wa ∧ (t.ops.take (k + 1)).any (wC key val) = false)) := fun h => Lib.hid ⟨HBA.out, by rw [HNX.out, h, HJ.out.2]; rfl⟩
      have NO := Lib.hid no
      clear no
      cases h1 : (o.kind == 2) with
      | false =>
        have HF := Lib.hid (NO.out (by unfold wC; rw [h1]; rfl))
        go_wp2_with fail
        exact ⟨⟨k + 1, by omega, by go_num, HF.out⟩, by simp only [intOf]; omega⟩
      | true =>
        cases h2 : (o.key == key) with
        | false =>
          have HF := Lib.hid (NO.out (by unfold wC; rw [h1, h2]; rfl))
          go_wp2_with fail
          exact ⟨⟨k + 1, by omega, by go_num, HF.out⟩, by simp only [intOf]; omega⟩
        | true =>
          cases h3 : decide (val < 0) with
          | true =>
            have HF := Lib.hid (show wrC t key val = true from List.any_eq_true.2 ⟨o, HM.out, by unfold wC; rw [h1, h2, h3]; rfl⟩)
            go_wp2_with fail
            go_ret
            exact ⟨by rw [HF.out]; rfl, HBA.out⟩
          | false =>
            cases h4 : (o.val == val) with
            | false =>
              have HF := Lib.hid (NO.out (by unfold wC; rw [h1, h2, h3, h4]; rfl))
              go_wp2_with fail
              exact ⟨⟨k + 1, by omega, by go_num, HF.out⟩, by simp only [intOf]; omega⟩
            | true =>
              have HF := Lib.hid (show wrC t key val = true from List.any_eq_true.2 ⟨o, HM.out, by unfold wC; rw [h1, h2, h3, h4]; rfl⟩)
              go_wp2_with fail
              go_ret
              exact ⟨by rw [HF.out]; rfl, HBA.out⟩
    · have k1 : decide ((k : Int) < t.ops.length) = false := decide_eq_false (by omega)
      have HF := Lib.hid (show wrC t key val = false from by
        have h := HJ.out.2
        rw [List.take_of_length_le (by omega)] at h
        exact h)
      go_wp2_with fail
      go_ret
      exact ⟨by rw [HF.out]; rfl, HBJ.out⟩

def k2 (ek : Int) (tf : GTxn) (o : GOp) : Bool := ek == 2 && (o.kind == 1 && wrC tf o.key o.val)
def k1 (ek : Int) (tf : GTxn) (o : GOp) : Bool := ek == 1 && (o.kind == 2 && wrC tf o.key (-1))
def k12 (ek : Int) (tf : GTxn) (o : GOp) : Bool := k2 ek tf o || k1 ek tf o
def k3 (ek : Int) (tt : GTxn) (o : GOp) : Bool := ek == 3 && (o.kind == 1 && wrC tt o.key (-1))
theorem wrC_of {t : GTxn} {key : Int} (h : wrB t key = true) : wrC t key (-1) = true := by
  obtain ⟨o, ho, hh⟩ := List.any_eq_true.1 h
  refine List.any_eq_true.2 ⟨o, ho, ?_⟩
  unfold wkB at hh
  unfold wC
  rw [hh]; rfl
theorem wrC_val {t : GTxn} {key val : Int} (h : t.ops.any (wroteB key val) = true) : wrC t key val = true := by
  obtain ⟨o, ho, hh⟩ := List.any_eq_true.1 h
  refine List.any_eq_true.2 ⟨o, ho, ?_⟩
  simp [wroteB] at hh
  simp [wC, hh]
theorem read_kind {t : GTxn} {o : GOp} (h : o ∈ readsM t) : o.kind ≠ 2 := by
  unfold readsM at h
  split at h
  · have : ∀ l : List GOp, ∀ o ∈ (readsS l).2, o.kind ≠ 2 := by
      intro l
      unfold readsS
      have gen : ∀ (l : List GOp) (s : List (Int × Bool) × List GOp), (∀ o ∈ s.2, o.kind ≠ 2) → ∀ o ∈ (l.foldl stepR s).2, o.kind ≠ 2 := by
        intro l
        induction l with
        | nil => intro s hs; exact hs
        | cons x l ih =>
          intro s hs
          rw [List.foldl_cons]
          refine ih _ ?_
          intro o ho
          unfold stepR at ho
          split at ho
          · exact hs o ho
          · rename_i hx
            split at ho
            · exact hs o ho
            · rcases List.mem_append.1 ho with ho | ho
              · exact hs o ho
              · rw [List.mem_singleton.1 ho]; exact hx
      exact gen l _ (fun o ho => by cases ho)
    exact this _ o h
  · simp at h
/-- Each dependency is what it says. -/
theorem kind_found {ts : List GTxn} {L : FaL} (hg : GoodTs ts) (hf : FaOk ts L) {e : GEdge} (he : e ∈ edgeL ts L) {f t : Nat} {tf tt : GTxn} (hef : e.f = f) (het : e.t = t) (htf : ts[f]? = some tf) (htt : ts[t]? = some tt) : (tt.ops.any (k12 e.k tf) || tf.ops.any (k3 e.k tt)) = true := by
  obtain ⟨a, b, k, ha, hb, h1, h3, hh, rfl⟩ := refE_mem.1 ((refE_iff hg hf e).2 he)
  obtain ⟨ta, tb, hta, htb, hab, hda, hdb, hk⟩ := hasAll_iff.1 hh
  have haf : a = f := by simp only at hef; omega
  have hbt : b = t := by simp only at het; omega
  subst haf hbt
  rw [hta] at htf; rw [htb] at htt
  cases htf; cases htt
  have one : ∀ {t : GTxn} {o : GOp}, t ∈ ts → o ∈ readsM t → o ∈ t.ops ∧ (o.kind == 1) = true := fun {t o} ht ho => by
    have h1 := readsM_mem ho
    have h2 := read_kind ho
    rcases ((hg.txn t ht).2.1 o h1).kind with h3 | h3
    · exact ⟨h1, by simp [h3]⟩
    · exact absurd h3 h2
  have h4 : k = 1 ∨ k = 2 ∨ k = 3 := by omega
  rw [Bool.or_eq_true]
  rcases h4 with rfl | rfl | rfl
  · rw [if_pos rfl] at hk
    obtain ⟨key, -, hw⟩ := List.any_eq_true.1 hk
    simp only [ww1, Bool.and_eq_true] at hw
    obtain ⟨o, ho, ho2⟩ := List.any_eq_true.1 hw.2.1
    simp [wkB] at ho2
    refine .inl (List.any_eq_true.2 ⟨o, ho, ?_⟩)
    unfold k12 k2 k1
    simp only [ho2.2, wrC_of hw.1, ho2.1]; rfl
  · rw [if_neg (by decide), if_pos rfl] at hk
    obtain ⟨o, ho, hr⟩ := List.any_eq_true.1 hk
    simp only [r2B, Bool.and_eq_true, bne_iff_ne, ne_eq, beq_iff_eq] at hr
    obtain ⟨o1, o2⟩ := one (List.mem_of_getElem? htb) ho
    obtain ⟨tn, htn, hwn⟩ := writer_some hr.2
    rw [hta] at htn; cases htn
    refine .inl (List.any_eq_true.2 ⟨o, o1, ?_⟩)
    unfold k12 k2
    simp only [o2, wrC_val hwn]; rfl
  · rw [if_neg (by decide), if_neg (by decide)] at hk
    obtain ⟨o, ho, hr⟩ := List.any_eq_true.1 hk
    obtain ⟨o1, o2⟩ := one (List.mem_of_getElem? hta) ho
    unfold r3B at hr
    rw [Bool.and_eq_true] at hr
    refine .inr (List.any_eq_true.2 ⟨o, o1, ?_⟩)
    unfold k3
    simp only [o2, wrC_of hr.1]; rfl
end Go.Proofs.Ytefpmcbpodlabaa.depsKinds

/- cruciblelaw10.DepsKinds, walked. -/
namespace Go.Proofs.Ytefpmcbpodlabaa.depsKinds
open Go.RowKit Go.Maps Go.Proofs.Ytefpmcbpodlabaa
attribute [local go_sem] Oper.semAt_some

set_option maxRecDepth 100000 in
set_option maxHeartbeats 16000000 in
theorem walk (v u : Value) (es : List GEvent) (picks : List Int) (w : World) (hv : RdEvents w v es) (hu : RdInts w u picks) :
    Calls Try.prog 5 #[v, u] w fun e w' => e = .returned (.bool true) ∧ Below w.heap.size w w' := by
  have HV := Lib.hid hv
  have HU := Lib.hid hu
  have hmf : ∀ (fn : Fn) (first cap : Array Value) (w : World), (Instr.makeFunc fn first cap).run Try.prog w = .ok (.func fn first cap) w := fun _ _ _ _ => rfl
  clear hv hu
  go_enter Try.func5, Try.ntmps5
  go_upto_region 3 with (go_at_call 12; refine (head10_call _).mono ?_; rintro e w1 ⟨rfl, hb1⟩; have HB1 := Lib.hid hb1; have HV1 := Lib.hid (HV.out.later hb1); clear hb1)
  go_upto_region 4 with (go_at_call 14; refine (made10_call _ es _ HV1.out).mono ?_; rintro e w2 ⟨v2, b, rfl, hg, ⟨sa, sn, sc, rfl⟩, hb2⟩; have HG := Lib.hid hg; have HB2' := Lib.hid (HB1.out.trans (hb2.mono HB1.out.size)); clear hg hb2)
  have hbo := (Below.refl w2.heap.size w2).alloc (Nat.le_refl _) (.cells #[.slice sa sn sc] 33)
  have HB2 := Lib.hid (HB2'.out.trans (hbo.mono HB2'.out.size))
  have HXT := Lib.hid (alloc_at w2 (.cells #[.slice sa sn sc] 33))
  have HG2 := Lib.hid (fun h => by obtain ⟨ts, h1, h2, h3⟩ := HG.out h; exact (⟨ts, h1.later hbo, h2⟩ : ∃ ts, RdTxns (w2.alloc (.cells #[.slice sa sn sc] 33)) (.slice sa sn sc) ts ∧ GoodTs ts))
  clear hbo HG
  generalize w2.alloc (.cells #[.slice sa sn sc] 33) = w3 at *
  obtain ⟨tb, htb⟩ : ∃ tb, tb = w2.heap.size := ⟨_, rfl⟩
  rw [← htb] at HXT ⊢
  clear htb
  cases b with
  | false =>
    go_wp2_with fail
    go_ret
    exact ⟨by rfl, HB2.out⟩
  | true =>
    obtain ⟨ts, hr, hgood⟩ := HG2.out rfl
    have HR := Lib.hid hr
    have HGD := Lib.hid hgood
    have HOK := Lib.hid hgood.ok
    have HUN := Lib.hid hgood.uniq
    have htl : ts.length ≤ 60 := hgood.len
    have b0 : w3.cell? ⟨tb, 0, none⟩ = some (.slice sa sn sc) := by rw [cell_of HXT.out]; rfl
    clear hr hgood HG2
    go_upto_region 7 with (go_at_call 15; refine (some10_call _ _ ts picks _ HR.out HOK.out (by omega) HUN.out (HU.out.later HB2.out)).mono ?_; rintro e w4 ⟨L, m, sv, rfl, hm0, hM, hS, hkeys, hll, hmem, hb4⟩; have HM := Lib.hid (FaV.of hM); have HB4 := Lib.hid (HB2.out.trans (hb4.mono HB2.out.size)); have HR4 := Lib.hid (HR.out.later hb4); have HX4 := Lib.hid ((hb4.block tb (Array.getElem?_eq_some_iff.1 HXT.out).1).trans HXT.out); have HFA := Lib.hid (show FaOk ts L from ⟨hmem, hkeys⟩); have HSM := Lib.hid (small_good (L := L) HGD.out (by omega)); clear hM hS hkeys hb4 hll hmem hm0)
    clear b0
    have b0 : w4.cell? ⟨tb, 0, none⟩ = some (.slice sa sn sc) := by rw [cell_of HX4.out]; rfl
    go_wp2_with (go_at_call 16; refine (edges_call _ _ ts L 12 w4 HR4.out HOK.out (by omega) HM.out HSM.out.ops HSM.out.room).mono ?_; rintro e5 w5 ⟨v5, l, rfl, ho5, he5, hb5⟩; have HO5 := Lib.hid ho5.rd; have HE5 := Lib.hid he5.2; have HB5 := Lib.hid (HB4.out.trans (hb5.mono HB4.out.size)); have HR5 := Lib.hid (HR4.out.later hb5); have HX5 := Lib.hid ((hb5.block tb (Array.getElem?_eq_some_iff.1 HX4.out).1).trans HX4.out); obtain ⟨a5, n5, c5, rfl, e9, hml, -⟩ := HO5.out.at; subst e9; clear ho5 he5 hb5)
    clear b0 hmf
    go_loopw [37] (fun i wr => ∃ k : Nat, k ≤ l.length ∧ i = .int .i64 k ∧ Hid (Below w5.heap.size w5 wr)) (fun i _ => l.length - (intOf i).toNat)
    case atStart => exact ⟨0, Nat.zero_le _, rfl, Lib.hid (Below.refl _ _)⟩
    case round =>
      obtain ⟨wj, rfl⟩ : ∃ wj : World, wj = wr := ⟨_, rfl⟩
      obtain ⟨k, hk, rfl, HJ⟩ := hrel
      have HBJ := Lib.hid (HB5.out.trans (HJ.out.mono HB5.out.size))
      by_cases hlt : k < l.length
      case neg =>
        have kl1 : decide ((k : Int) < l.length) = false := decide_eq_false (by omega)
        go_wp2_with fail
        go_ret
        exact ⟨rfl, HBJ.out⟩
      case pos =>
      have kl1 : decide ((k : Int) < l.length) = true := decide_eq_true (by omega)
      have kl2 : (k : Int) < l.length := by omega
      have hwk : IntKind.i64.wrap ((k : Int) + 1) = (k : Int) + 1 := IntWalk.i64_in _ (by omega)
      obtain ⟨e, he⟩ := some_at hlt
      obtain ⟨_, _, _, e5, -, -, hcl⟩ := (HO5.out.later HJ.out).at
      cases e5
      obtain ⟨b, off, rfl, y0, y1, y2⟩ := hcl k e he
      have HEL := Lib.hid ((HE5.out e).1 (List.mem_of_getElem? he))
      have HIN := Lib.hid (edge_in HEL.out)
      obtain ⟨ef, et, ek⟩ := e
      obtain ⟨f, hf⟩ : ∃ f : Nat, ef = f := ⟨ef.toNat, by have := HIN.out.1; simp only at this; omega⟩
      obtain ⟨t, ht⟩ : ∃ t : Nat, et = t := ⟨et.toNat, by have := HIN.out.2.1; simp only at this; omega⟩
      subst hf ht
      simp only at y0 y1 y2
      have hfl : f < ts.length := by have := HIN.out.1; simp only at this; omega
      have htl2 : t < ts.length := by have := HIN.out.2.1; simp only at this; omega
      have hft : f ≠ t := by have := HIN.out.2.2.2; simp only at this; omega
      have d0 : ((f : Int) == (t : Int)) = false := by simp; omega
      have f0 : (0 : Int) ≤ (f : Int) := by omega
      have f1 : (f : Int) < ts.length := by omega
      have t0 : (0 : Int) ≤ (t : Int) := by omega
      have t1 : (t : Int) < ts.length := by omega
      have d1 : decide ((f : Int) < 0) = false := decide_eq_false (by omega)
      have d2 : decide ((t : Int) < 0) = false := decide_eq_false (by omega)
      have d3 : decide ((ts.length : Int) ≤ (f : Int)) = false := decide_eq_false (by omega)
      have d4 : decide ((ts.length : Int) ≤ (t : Int)) = false := decide_eq_false (by omega)
      obtain ⟨tf, htf⟩ := some_at hfl
      obtain ⟨tt, htt⟩ := some_at htl2
      have HTF := Lib.hid htf
      have HTT := Lib.hid htt
      have HFD := Lib.hid (kind_found HGD.out HFA.out HEL.out rfl rfl htf htt)
      have hbe := (Below.refl wj.heap.size wj).alloc (Nat.le_refl _) (.cells #[vi f, vi t, vi ek] 27)
      have HX := Lib.hid (alloc_at wj (.cells #[vi f, vi t, vi ek] 27))
      have HBA := Lib.hid (HJ.out.trans (hbe.mono HJ.out.size))
      have HRA := Lib.hid (HR5.out.later HBA.out)
      have HXA := Lib.hid ((HBA.out.block tb (Array.getElem?_eq_some_iff.1 HX5.out).1).trans HX5.out)
      clear hcl he htf htt hbe
      go_upto_region 11 with fail
      clear y0 y1 y2
      generalize wj.alloc (.cells #[vi f, vi t, vi ek] 27) = wa at *
      obtain ⟨eb, heb⟩ : ∃ eb, eb = wj.heap.size := ⟨_, rfl⟩
      rw [← heb] at HX ⊢
      clear heb
      obtain ⟨_, _, _, e6, hsn, -, hcl⟩ := HRA.out.at
      cases e6
      subst hsn
      obtain ⟨gb, goff, oaf, ocf, rfl, hrf, p0, p1, p2⟩ := hcl f tf HTF.out
      obtain ⟨_, _, oat, oct, e7, hrt, q0, q1, q2⟩ := hcl t tt HTT.out
      cases e7
      have HRF := Lib.hid hrf
      have HRT := Lib.hid hrt
      have HP2 := Lib.hid p2
      have x0 : wa.cell? ⟨eb, 0, none⟩ = some (vi f) := by rw [cell_of HX.out]; rfl
      have x1 : wa.cell? ⟨eb, 1, none⟩ = some (vi t) := by rw [cell_of HX.out]; rfl
      have b0 : wa.cell? ⟨tb, 0, none⟩ = some (.slice (some ⟨gb, goff, none⟩) ts.length sc) := by rw [cell_of HXA.out]; rfl
      obtain ⟨_, _, _, e8, -, hmt, -⟩ := hrt.at
      clear e8
      obtain ⟨_, _, _, e8, -, hmf, -⟩ := hrf.at
      clear e8
      clear hcl hrf hrt p0 p1
      go_wp2_with fail
      clear x0 x1 b0 p2 q0 q1 q2
      go_loopw [12, 77] (fun x i wr => ∃ j : Nat, j ≤ tt.ops.length ∧ i = .int .i64 j ∧ x = .bool ((tt.ops.take j).any (k12 ek tf)) ∧ Hid (Below wa.heap.size wa wr)) (fun _ i _ => tt.ops.length - (intOf i).toNat)
      case atStart => exact ⟨0, Nat.zero_le _, rfl, rfl, Lib.hid (Below.refl _ _)⟩
      case round =>
        obtain ⟨wq, rfl⟩ : ∃ wq : World, wq = wr := ⟨_, rfl⟩
        obtain ⟨j, hj, rfl, rfl, HQ⟩ := hrel
        obtain ⟨fb, hfb⟩ : ∃ fb, fb = (tt.ops.take j).any (k12 ek tf) := ⟨_, rfl⟩
        have HFB := Lib.hid hfb
        rw [← hfb]
        by_cases hltj : j < tt.ops.length
        · clear hfb
          have j1 : decide ((j : Int) < tt.ops.length) = true := decide_eq_true (by omega)
          have j2 : (j : Int) < tt.ops.length := by omega
          have hwj : IntKind.i64.wrap ((j : Int) + 1) = (j : Int) + 1 := IntWalk.i64_in _ (by omega)
          obtain ⟨o, ho⟩ := some_at hltj
          obtain ⟨_, _, _, e5, -, -, hcl⟩ := (HRT.out.later HQ.out).at
          cases e5
          obtain ⟨b', off', rfl, z0, z1, z2⟩ := hcl j o ho
          have HNY := Lib.hid (show (tt.ops.take (j + 1)).any (k12 ek tf) = (fb || k12 ek tf o) from by rw [take_at ho, List.any_append, HFB.out]; simp)
          have hbg := (Below.refl wq.heap.size wq).alloc (Nat.le_refl _) (.cells #[vi o.kind, vi o.key, vi o.val] 48)
          have HXg := Lib.hid (alloc_at wq (.cells #[vi o.kind, vi o.key, vi o.val] 48))
          have HQg := Lib.hid (HQ.out.trans (hbg.mono HQ.out.size))
          clear hcl ho hbg
          go_upto_region 17 with fail
          clear z0 z1 z2
          generalize wq.alloc (.cells #[vi o.kind, vi o.key, vi o.val] 48) = wg at *
          obtain ⟨ob, hob⟩ : ∃ ob, ob = wq.heap.size := ⟨_, rfl⟩
          rw [← hob] at HXg ⊢
          clear hob
          have HEg := Lib.hid ((HQg.out.block eb (Array.getElem?_eq_some_iff.1 HX.out).1).trans HX.out)
          have HTg := Lib.hid ((HQg.out.block tb (Array.getElem?_eq_some_iff.1 HXA.out).1).trans HXA.out)
          have HRg := Lib.hid (HRA.out.later HQg.out)
          have u0 : wg.cell? ⟨ob, 0, none⟩ = some (vi o.kind) := by rw [cell_of HXg.out]; rfl
          have u1 : wg.cell? ⟨ob, 1, none⟩ = some (vi o.key) := by rw [cell_of HXg.out]; rfl
          have u2 : wg.cell? ⟨ob, 2, none⟩ = some (vi o.val) := by rw [cell_of HXg.out]; rfl
          have s0 : wg.cell? ⟨eb, 0, none⟩ = some (vi f) := by rw [cell_of HEg.out]; rfl
          have s1 : wg.cell? ⟨eb, 1, none⟩ = some (vi t) := by rw [cell_of HEg.out]; rfl
          have s2 : wg.cell? ⟨eb, 2, none⟩ = some (vi ek) := by rw [cell_of HEg.out]; rfl
          go_cut [12] (fun r wx => r = .bool (fb || k2 ek tf o) ∧ Hid (Below wg.heap.size wg wx))
          case first =>
            cases fb with
            | true =>
              go_wp2_with fail
              go_meet
              exact ⟨by simp, Lib.hid (Below.refl _ _)⟩
            | false =>
              cases h1 : (ek == 2) with
              | false =>
                have HE := Lib.hid (show (false || k2 ek tf o) = false from by unfold k2; rw [h1]; rfl)
                go_wp2_with fail
                go_meet
                exact ⟨by rw [HE.out], Lib.hid (Below.refl _ _)⟩
              | true =>
                cases h2 : (o.kind == 1) with
                | false =>
                  have HE := Lib.hid (show (false || k2 ek tf o) = false from by unfold k2; rw [h1, h2]; rfl)
                  go_wp2_with fail
                  go_meet
                  exact ⟨by rw [HE.out], Lib.hid (Below.refl _ _)⟩
                | true =>
                  have HE := Lib.hid (show (false || k2 ek tf o) = wrC tf o.key o.val from by unfold k2; rw [h1, h2]; rfl)
                  go_wp2_with (go_at_call 18; refine (wrote_call ts _ tb f tf o.key o.val wg HRg.out HTF.out HTg.out).mono ?_; rintro e8 w8 ⟨rfl, hb8⟩; have HB8 := Lib.hid hb8; clear hb8)
                  go_meet
                  exact ⟨by rw [HE.out], Lib.hid HB8.out⟩
          case rest =>
          obtain ⟨wx, rfl⟩ : ∃ wx : World, wx = wc := ⟨_, rfl⟩
          obtain ⟨rfl, HBX⟩ := hcut
          obtain ⟨fc, hfc⟩ : ∃ fc, fc = (fb || k2 ek tf o) := ⟨_, rfl⟩
          have HFC := Lib.hid hfc
          rw [← hfc]
          clear hfc u0 u1 u2 s0 s1 s2
          have HXx := Lib.hid ((HBX.out.block ob (Array.getElem?_eq_some_iff.1 HXg.out).1).trans HXg.out)
          have HEx := Lib.hid ((HBX.out.block eb (Array.getElem?_eq_some_iff.1 HEg.out).1).trans HEg.out)
          have HTx := Lib.hid ((HBX.out.block tb (Array.getElem?_eq_some_iff.1 HTg.out).1).trans HTg.out)
          have HRx := Lib.hid (HRg.out.later HBX.out)
          have HQx := Lib.hid (HQg.out.trans (HBX.out.mono HQg.out.size))
          have HFF := Lib.hid (show (tt.ops.take (j + 1)).any (k12 ek tf) = (fc || k1 ek tf o) from by rw [HNY.out, HFC.out]; unfold k12; rw [Bool.or_assoc])
          have u0 : wx.cell? ⟨ob, 0, none⟩ = some (vi o.kind) := by rw [cell_of HXx.out]; rfl
          have u1 : wx.cell? ⟨ob, 1, none⟩ = some (vi o.key) := by rw [cell_of HXx.out]; rfl
          have u2 : wx.cell? ⟨ob, 2, none⟩ = some (vi o.val) := by rw [cell_of HXx.out]; rfl
          have s0 : wx.cell? ⟨eb, 0, none⟩ = some (vi f) := by rw [cell_of HEx.out]; rfl
          have s1 : wx.cell? ⟨eb, 1, none⟩ = some (vi t) := by rw [cell_of HEx.out]; rfl
          have s2 : wx.cell? ⟨eb, 2, none⟩ = some (vi ek) := by rw [cell_of HEx.out]; rfl
          go_upto_region 18 with fail
          cases fc with
          | true =>
            go_wp2_with fail
            exact ⟨⟨j + 1, by omega, by go_num, by rw [HFF.out, Bool.true_or], Lib.hid (HQx.out.trans ((Below.refl _ _).mono HQx.out.size))⟩, by simp only [intOf]; omega⟩
          | false =>
            cases h1 : (ek == 1) with
            | false =>
              have HE := Lib.hid (show (false || k1 ek tf o) = false from by unfold k1; rw [h1]; rfl)
              go_wp2_with fail
              exact ⟨⟨j + 1, by omega, by go_num, by rw [HFF.out, HE.out], Lib.hid (HQx.out.trans ((Below.refl _ _).mono HQx.out.size))⟩, by simp only [intOf]; omega⟩
            | true =>
              cases h2 : (o.kind == 2) with
              | false =>
                have HE := Lib.hid (show (false || k1 ek tf o) = false from by unfold k1; rw [h1, h2]; rfl)
                go_wp2_with fail
                exact ⟨⟨j + 1, by omega, by go_num, by rw [HFF.out, HE.out], Lib.hid (HQx.out.trans ((Below.refl _ _).mono HQx.out.size))⟩, by simp only [intOf]; omega⟩
              | true =>
                have HE := Lib.hid (show (false || k1 ek tf o) = wrC tf o.key (-1) from by unfold k1; rw [h1, h2]; rfl)
                go_wp2_with (go_at_call 18; refine (wrote_call ts _ tb f tf o.key (-1) wx HRx.out HTF.out HTx.out).mono ?_; rintro e8 w8 ⟨rfl, hb8⟩; have HB8 := Lib.hid hb8; clear hb8)
                exact ⟨⟨j + 1, by omega, by go_num, by rw [HFF.out, HE.out], Lib.hid (HQx.out.trans (HB8.out.mono HQx.out.size))⟩, by simp only [intOf]; omega⟩
        · have j1 : decide ((j : Int) < tt.ops.length) = false := decide_eq_false (by omega)
          have HF2 := Lib.hid (show fb = tt.ops.any (k12 ek tf) from by rw [hfb, List.take_of_length_le (by omega)])
          clear hfb
          have HRq := Lib.hid (HRA.out.later HQ.out)
          have HEq := Lib.hid ((HQ.out.block eb (Array.getElem?_eq_some_iff.1 HX.out).1).trans HX.out)
          have HTq := Lib.hid ((HQ.out.block tb (Array.getElem?_eq_some_iff.1 HXA.out).1).trans HXA.out)
          have x0 : wq.cell? ⟨eb, 0, none⟩ = some (vi f) := by rw [cell_of HEq.out]; rfl
          have b0 : wq.cell? ⟨tb, 0, none⟩ = some (.slice (some ⟨gb, goff, none⟩) ts.length sc) := by rw [cell_of HTq.out]; rfl
          have p2 := cell_later HQ.out HP2.out
          go_wp2_with fail
          clear x0 b0 p2
          go_loopw [12, 129] (fun x i wr => ∃ q : Nat, q ≤ tf.ops.length ∧ i = .int .i64 q ∧ x = .bool (fb || (tf.ops.take q).any (k3 ek tt)) ∧ Hid (Below wq.heap.size wq wr)) (fun _ i _ => tf.ops.length - (intOf i).toNat)
          case atStart => exact ⟨0, Nat.zero_le _, rfl, by simp, Lib.hid (Below.refl _ _)⟩
          case round =>
            obtain ⟨wp, rfl⟩ : ∃ wp : World, wp = wr := ⟨_, rfl⟩
            obtain ⟨q, hq, rfl, rfl, HP⟩ := hrel
            obtain ⟨gc, hgc⟩ : ∃ gc, gc = (fb || (tf.ops.take q).any (k3 ek tt)) := ⟨_, rfl⟩
            have HGC := Lib.hid hgc
            rw [← hgc]
            by_cases hltq : q < tf.ops.length
            · clear hgc
              have j3 : decide ((q : Int) < tf.ops.length) = true := decide_eq_true (by omega)
              have j4 : (q : Int) < tf.ops.length := by omega
              have hwq : IntKind.i64.wrap ((q : Int) + 1) = (q : Int) + 1 := IntWalk.i64_in _ (by omega)
              obtain ⟨o, ho⟩ := some_at hltq
              obtain ⟨_, _, _, e5, -, -, hcl⟩ := (HRF.out.later (HQ.out.trans (HP.out.mono HQ.out.size))).at
              cases e5
              obtain ⟨b', off', rfl, z0, z1, z2⟩ := hcl q o ho
              have HNY := Lib.hid (show (fb || (tf.ops.take (q + 1)).any (k3 ek tt)) = (gc || k3 ek tt o) from by rw [take_at ho, List.any_append, HGC.out, Bool.or_assoc]; simp)
              have hbg := (Below.refl wp.heap.size wp).alloc (Nat.le_refl _) (.cells #[vi o.kind, vi o.key, vi o.val] 48)
              have HXg := Lib.hid (alloc_at wp (.cells #[vi o.kind, vi o.key, vi o.val] 48))
              have HQg := Lib.hid (HP.out.trans (hbg.mono HP.out.size))
              clear hcl ho hbg
              go_upto_region 23 with fail
              clear z0 z1 z2
              generalize wp.alloc (.cells #[vi o.kind, vi o.key, vi o.val] 48) = wg at *
              obtain ⟨ob, hob⟩ : ∃ ob, ob = wp.heap.size := ⟨_, rfl⟩
              rw [← hob] at HXg ⊢
              clear hob
              have HEg := Lib.hid ((HQg.out.block eb (Array.getElem?_eq_some_iff.1 HEq.out).1).trans HEq.out)
              have HTg := Lib.hid ((HQg.out.block tb (Array.getElem?_eq_some_iff.1 HTq.out).1).trans HTq.out)
              have HRg := Lib.hid (HRq.out.later HQg.out)
              have u0 : wg.cell? ⟨ob, 0, none⟩ = some (vi o.kind) := by rw [cell_of HXg.out]; rfl
              have u1 : wg.cell? ⟨ob, 1, none⟩ = some (vi o.key) := by rw [cell_of HXg.out]; rfl
              have u2 : wg.cell? ⟨ob, 2, none⟩ = some (vi o.val) := by rw [cell_of HXg.out]; rfl
              have s0 : wg.cell? ⟨eb, 0, none⟩ = some (vi f) := by rw [cell_of HEg.out]; rfl
              have s1 : wg.cell? ⟨eb, 1, none⟩ = some (vi t) := by rw [cell_of HEg.out]; rfl
              have s2 : wg.cell? ⟨eb, 2, none⟩ = some (vi ek) := by rw [cell_of HEg.out]; rfl
              cases gc with
              | true =>
                go_wp2_with fail
                exact ⟨⟨q + 1, by omega, by go_num, by rw [HNY.out, Bool.true_or], Lib.hid (HQg.out.trans ((Below.refl _ _).mono HQg.out.size))⟩, by simp only [intOf]; omega⟩
              | false =>
                cases h1 : (ek == 3) with
                | false =>
                  have HE := Lib.hid (show (false || k3 ek tt o) = false from by unfold k3; rw [h1]; rfl)
                  go_wp2_with fail
                  exact ⟨⟨q + 1, by omega, by go_num, by rw [HNY.out, HE.out], Lib.hid (HQg.out.trans ((Below.refl _ _).mono HQg.out.size))⟩, by simp only [intOf]; omega⟩
                | true =>
                  cases h2 : (o.kind == 1) with
                  | false =>
                    have HE := Lib.hid (show (false || k3 ek tt o) = false from by unfold k3; rw [h1, h2]; rfl)
                    go_wp2_with fail
                    exact ⟨⟨q + 1, by omega, by go_num, by rw [HNY.out, HE.out], Lib.hid (HQg.out.trans ((Below.refl _ _).mono HQg.out.size))⟩, by simp only [intOf]; omega⟩
                  | true =>
                    have HE := Lib.hid (show (false || k3 ek tt o) = wrC tt o.key (-1) from by unfold k3; rw [h1, h2]; rfl)
                    go_wp2_with (go_at_call 18; refine (wrote_call ts _ tb t tt o.key (-1) wg HRg.out HTT.out HTg.out).mono ?_; rintro e8 w8 ⟨rfl, hb8⟩; have HB8 := Lib.hid hb8; clear hb8)
                    exact ⟨⟨q + 1, by omega, by go_num, by rw [HNY.out, HE.out], Lib.hid (HQg.out.trans (HB8.out.mono HQg.out.size))⟩, by simp only [intOf]; omega⟩
            · have j3 : decide ((q : Int) < tf.ops.length) = false := decide_eq_false (by omega)
              have HGT : gc = true := by rw [hgc, List.take_of_length_le (by omega), HF2.out]; exact HFD.out
              subst HGT
              have HBP := Lib.hid (HBA.out.trans ((HQ.out.trans (HP.out.mono HQ.out.size)).mono HBA.out.size))
              clear hgc
              go_wp2_with fail
              exact ⟨⟨k + 1, by omega, by go_num, Lib.hid HBP.out⟩, by simp only [intOf]; omega⟩
end Go.Proofs.Ytefpmcbpodlabaa.depsKinds
