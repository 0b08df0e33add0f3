/- chains.Next. -/
import Derived.Test.YtafboehdihokhaaIs
namespace Go.Proofs.Ytafboehdihokhaa
open Go.RowKit Go.Maps

theorem find_first {α : Type} {f : α → Bool} {C : List α} {k : Nat} {c : α} (hc : C[k]? = some c) (hf : f c = true) (hno : ∀ (j : Nat) (d : α), j < k → C[j]? = some d → f d = false) : C.find? f = some c := by
  induction C generalizing k with
  | nil => simp at hc
  | cons d C ih =>
    cases k with
    | zero => simp at hc; subst hc; simp [hf]
    | succ k =>
      have h0 := hno 0 d (by omega) rfl
      rw [List.find?_cons, h0]
      exact ih (by simpa using hc) fun j d' hj hd => hno (j + 1) d' (by omega) (by simpa using hd)
theorem find_no {α : Type} {f : α → Bool} {C : List α} (hno : ∀ (j : Nat) (d : α), j < C.length → C[j]? = some d → f d = false) : C.find? f = none := by
  rw [List.find?_eq_none]
  intro d hd
  obtain ⟨j, hj⟩ := List.mem_iff_getElem?.1 hd
  rw [hno j d (List.getElem?_eq_some_iff.1 hj).1 hj]
  simp
/-- No one of the first k choices is open and counts. -/
def ShutK (f : GChoice → Bool) (C : List GChoice) (k : Nat) : Prop := ∀ (j : Nat) (d : GChoice), j < k → C[j]? = some d → f d = false
theorem ShutK.next {f : GChoice → Bool} {C : List GChoice} {k : Nat} {c : GChoice} (h : ShutK f C k) (hc : C[k]? = some c) (hf : f c = false) : ShutK f C (k + 1) := by
  intro j d hj hd
  rcases Nat.lt_or_ge j k with h' | h'
  · exact h j d h' hd
  · obtain rfl : j = k := by omega
    rw [hc] at hd; cases hd; exact hf

def zeroC : GChoice := ⟨0, 0, 0, 0⟩
def NextQ (o : Option GChoice) (w : World) (e : Ending) (w' : World) : Prop := e = .returned (.tuple #[chK (o.getD zeroC), .bool o.isSome]) ∧ Below w.heap.size w w'

set_option maxRecDepth 100000 in
set_option maxHeartbeats 4000000 in
theorem next_call (v : Value) (ts : List GTxn) (m : Nat) (L : FaL) (w : World) (hv : RdTxns w v ts) (hok : OkTxns ts) (htl : ts.length ≤ 4096) (hm : MapF w m L) :
    Calls Try.prog 16 #[v, .map (some m)] w (NextQ (nextM ts L) w) := by
  have HB0 := Lib.hid ((Below.refl w.heap.size w).alloc (Nat.le_refl _) (.cells #[vi 0, vi 0, vi 0, vi 0] 32))
  have HV := Lib.hid (hv.later HB0.out)
  have HOK := Lib.hid hok
  have HM := Lib.hid (hm.below HB0.out hm.lt)
  have hsl := sureM_length ts
  have HX0 := Lib.hid (alloc_at w (.cells #[vi 0, vi 0, vi 0, vi 0] 32))
  have hw0 : (w.alloc (.cells #[vi 0, vi 0, vi 0, vi 0] 32)).heap.size = w.heap.size + 1 := by simp
  clear hv hok hm
  go_enter Try.func16, Try.ntmps16
  go_upto_region 1 with fail
  generalize w.alloc (.cells #[vi 0, vi 0, vi 0, vi 0] 32) = w0 at *
  go_wp2_with (first
    | (go_at_call 26; refine (sure_call _ _ _ HV.out HOK.out).mono ?_; rintro e w1 ⟨sb, rfl, hsb, hS, hb1⟩; have HB1 := Lib.hid hb1; have HS := Lib.hid (hS.own (by omega)); rw [hsl] at HS; have HV1 := Lib.hid (HV.out.later hb1); have HM1 := Lib.hid (HM.out.below hb1 HM.out.lt); clear hb1 hS)
    | (go_at_call 10; refine (choices_call _ ts _ HV1.out HOK.out htl).mono ?_; rintro e w2 ⟨v2, rfl, ho2, hb2⟩; have HC2 := Lib.hid ho2.rd; have HS2 := Lib.hid (own_below HS.out hb2); have HV2 := Lib.hid (HV1.out.later hb2); have HM2 := Lib.hid (HM1.out.below hb2 HM1.out.lt); have HB2 := Lib.hid (HB1.out.trans (hb2.mono HB1.out.size)); obtain ⟨a2, len2, cap2, rfl, rfl, hm2, -⟩ := HC2.out.at; clear hb2 ho2))
  have HCO := Lib.hid (fun c (h : c ∈ choicesM ts) => choicesM_ok h)
  have HNX := Lib.hid (show nextM ts L = (choicesM ts).find? (openC ts L) from rfl)
  generalize choicesM ts = C at *
  have hw2 := HB2.out.size
  have HX2 := Lib.hid ((HB2.out.block w.heap.size (by omega)).trans HX0.out)
  go_loopw [8, 9, 10, 11, 12, 13, 14, 20] (fun _ _ _ _ _ _ _ n wr => ∃ k : Nat, k ≤ C.length ∧ n = .int .i64 k ∧ Hid (ShutK (openC ts L) C k) ∧ Below w2.heap.size w2 wr) (fun _ _ _ _ _ _ _ n _ => C.length - (intOf n).toNat)
  case atStart => exact ⟨0, Nat.zero_le _, rfl, Lib.hid (fun j d h => absurd h (Nat.not_lt_zero _)), Below.refl _ _⟩
  case round =>
    obtain ⟨wk, rfl⟩ : ∃ wk : World, wk = wr := ⟨_, rfl⟩
    obtain ⟨k, hk, rfl, HN, hb⟩ := hrel
    have HBk := Lib.hid hb
    have hwk := hb.size
    have HXk := Lib.hid ((hb.block w.heap.size (by omega)).trans HX2.out)
    clear hb
    by_cases hlt : k < C.length
    · obtain ⟨c, hc⟩ := some_at hlt
      have hco := HCO.out c (List.mem_of_getElem? hc)
      obtain ⟨kd, ky, ca, cb⟩ := c
      obtain ⟨an, rfl⟩ := Int.eq_ofNat_of_zero_le hco.a.1
      obtain ⟨bn, rfl⟩ := Int.eq_ofNat_of_zero_le hco.b.1
      have han : an < ts.length := by have := hco.a.2; simpa using this
      have hbn : bn < ts.length := by have := hco.b.2; simpa using this
      have hkd : kd = 1 ∨ kd = 2 := by rcases hco.kind with h | h; exact .inl h.1; exact .inr h.1
      have HSM := Lib.hid (hco.small htl)
      obtain ⟨_, _, _, e5, -, -, hcl⟩ := HC2.out.at
      cases e5
      obtain ⟨b, off, rfl, k0', k1', k2', k3'⟩ := hcl k _ hc
      have k0 := cell_later HBk.out k0'
      have k1 := cell_later HBk.out k1'
      have k2 := cell_later HBk.out k2'
      have k3 := cell_later HBk.out k3'
      have hkI : (k : Int) < (C.length : Int) := by omega
      have HP := Lib.hid hc
      have HOC := Lib.hid (show openC ts L ⟨kd, ky, an, bn⟩ = ((getM L ⟨kd, ky, an, bn⟩).isNone && (kd != 2 || (isM ts L an).1 && (isM ts L bn).1)) from rfl)
      have HBo := Lib.hid (HBk.out.alloc hwk (.cells #[vi kd, vi ky, vi an, vi bn] 32))
      have HXo := Lib.hid (alloc_at wk (.cells #[vi kd, vi ky, vi an, vi bn] 32))
      have hwo : (wk.alloc (.cells #[vi kd, vi ky, vi an, vi bn] 32)).heap.size = wk.heap.size + 1 := by simp
      have HXr := Lib.hid ((Below.heap_alloc wk (.cells #[vi kd, vi ky, vi an, vi bn] 32) w.heap.size (by omega)).trans HXk.out)
      clear hcl hc hco k0' k1' k2' k3'
      go_upto_region 5 with fail
      clear k0 k1 k2 k3
      generalize wk.alloc (.cells #[vi kd, vi ky, vi an, vi bn] 32) = wo at *
      have q0 : wo.cell? ⟨wk.heap.size, 0, none⟩ = some (vi kd) := by rw [cell_of HXo.out]; rfl
      have q1 : wo.cell? ⟨wk.heap.size, 1, none⟩ = some (vi ky) := by rw [cell_of HXo.out]; rfl
      have q2 : wo.cell? ⟨wk.heap.size, 2, none⟩ = some (vi an) := by rw [cell_of HXo.out]; rfl
      have q3 : wo.cell? ⟨wk.heap.size, 3, none⟩ = some (vi bn) := by rw [cell_of HXo.out]; rfl
      have HMo := Lib.hid (HM2.out.below HBo.out HM2.out.lt)
      have hlk := (lookup_fact HMo.out HSM.out).1
      have HQ0 := Lib.hid q0
      have HQ1 := Lib.hid q1
      have HQ2 := Lib.hid q2
      have HQ3 := Lib.hid q3
      cases hg : getM L ⟨kd, ky, an, bn⟩ with
      | some bb =>
        rw [hg] at hlk HOC
        clear hg
        go_wp2_with fail
        go_roundw
        case rel => exact ⟨k + 1, by omega, by go_num, Lib.hid (HN.out.next HP.out HOC.out), HBo.out⟩
        case measure => simp [intOf]; omega
      | none =>
        rw [hg] at hlk HOC
        clear hg
        rcases hkd with rfl | rfl
        · have he := Lib.hid (HNX.out.trans (find_first HP.out HOC.out HN.out))
          have HBZ := Lib.hid HBo.out
          have r0 : wo.cell? ⟨w.heap.size, 0, none⟩ = some (vi 0) := by rw [cell_of HXr.out]; rfl
          have r1 : wo.cell? ⟨w.heap.size, 1, none⟩ = some (vi 0) := by rw [cell_of HXr.out]; rfl
          have r2 : wo.cell? ⟨w.heap.size, 2, none⟩ = some (vi 0) := by rw [cell_of HXr.out]; rfl
          have r3 : wo.cell? ⟨w.heap.size, 3, none⟩ = some (vi 0) := by rw [cell_of HXr.out]; rfl
          have fz := fun j => free_of HXr.out j
          go_wp2_with fail
          refine bodyPost_ret (v := .tuple #[chK ⟨1, ky, an, bn⟩, .bool true]) (by simp [results, Try.results16, go_sem, r0, r1, r2, r3]) rfl ⟨by rw [he.out]; rfl, ?_⟩
          exact ((((HB0.out.trans ((HB2.out.trans (HBZ.out.mono HB2.out.size)).mono HB0.out.size)).setCell (Nat.le_refl _) _).setCell (Nat.le_refl _) _).setCell (Nat.le_refl _) _).setCell (Nat.le_refl _) _
        · have HVo := Lib.hid (HV2.out.later HBo.out)
          have HSo := Lib.hid (own_below HS2.out HBo.out)
          go_upto_region 9 with (go_at_call 32; refine (is_call _ ts _ m L an _ HVo.out HOK.out htl HSo.out HMo.out han).mono ?_; rintro e w5 ⟨rfl, hb5⟩)
          have HB5 := Lib.hid hb5
          have HV5 := Lib.hid (HVo.out.later hb5)
          have HS5 := Lib.hid (own_below HSo.out hb5)
          have HM5 := Lib.hid (HMo.out.below hb5 HMo.out.lt)
          replace q3 := cell_later hb5 HQ3.out
          clear hb5
          go_upto_region 10 with (go_at_call 32; refine (is_call _ ts _ m L bn _ HV5.out HOK.out htl HS5.out HM5.out hbn).mono ?_; rintro e w6 ⟨rfl, hb6⟩)
          have HB6 := Lib.hid (HB5.out.trans (hb6.mono HB5.out.size))
          have HBZ := Lib.hid (HBo.out.trans (HB6.out.mono HBo.out.size))
          clear hb6 q0 q1 q2 q3
          cases hA : (isM ts L an).1 with
          | false =>
            rw [hA] at HOC
            clear hA
            go_wp2_with fail
            go_roundw
            case rel => exact ⟨k + 1, by omega, by go_num, Lib.hid (HN.out.next HP.out HOC.out), HBZ.out⟩
            case measure => simp [intOf]; omega
          | true =>
            rw [hA] at HOC
            clear hA
            cases hC : (isM ts L bn).1 with
            | false =>
              rw [hC] at HOC
              clear hC
              go_wp2_with fail
              go_roundw
              case rel => exact ⟨k + 1, by omega, by go_num, Lib.hid (HN.out.next HP.out HOC.out), HBZ.out⟩
              case measure => simp [intOf]; omega
            | true =>
              rw [hC] at HOC
              clear hC
              have he := Lib.hid (HNX.out.trans (find_first HP.out HOC.out HN.out))
              have HX6 := Lib.hid ((HB6.out.block w.heap.size (by omega)).trans HXr.out)
              have q0 := cell_later HB6.out HQ0.out
              have q1 := cell_later HB6.out HQ1.out
              have q2 := cell_later HB6.out HQ2.out
              have q3 := cell_later HB6.out HQ3.out
              have r0 : w6.cell? ⟨w.heap.size, 0, none⟩ = some (vi 0) := by rw [cell_of HX6.out]; rfl
              have r1 : w6.cell? ⟨w.heap.size, 1, none⟩ = some (vi 0) := by rw [cell_of HX6.out]; rfl
              have r2 : w6.cell? ⟨w.heap.size, 2, none⟩ = some (vi 0) := by rw [cell_of HX6.out]; rfl
              have r3 : w6.cell? ⟨w.heap.size, 3, none⟩ = some (vi 0) := by rw [cell_of HX6.out]; rfl
              have fz := fun j => free_of HX6.out j
              go_wp2_with fail
              refine bodyPost_ret (v := .tuple #[chK ⟨2, ky, an, bn⟩, .bool true]) (by simp [results, Try.results16, go_sem, r0, r1, r2, r3]) rfl ⟨by rw [he.out]; rfl, ?_⟩
              exact ((((HB0.out.trans ((HB2.out.trans (HBZ.out.mono HB2.out.size)).mono HB0.out.size)).setCell (Nat.le_refl _) _).setCell (Nat.le_refl _) _).setCell (Nat.le_refl _) _).setCell (Nat.le_refl _) _
    · obtain rfl : k = C.length := by omega
      have he := Lib.hid (HNX.out.trans (find_no HN.out))
      have q0 : wk.cell? ⟨w.heap.size, 0, none⟩ = some (vi 0) := by rw [cell_of HXk.out]; rfl
      have q1 : wk.cell? ⟨w.heap.size, 1, none⟩ = some (vi 0) := by rw [cell_of HXk.out]; rfl
      have q2 : wk.cell? ⟨w.heap.size, 2, none⟩ = some (vi 0) := by rw [cell_of HXk.out]; rfl
      have q3 : wk.cell? ⟨w.heap.size, 3, none⟩ = some (vi 0) := by rw [cell_of HXk.out]; rfl
      have fz := fun j => free_of HXk.out j
      go_wp2_with fail
      refine bodyPost_ret (v := .tuple #[chK zeroC, .bool false]) (by simp [results, Try.results16, go_sem, q0, q1, q2, q3, zeroC]) rfl ⟨by rw [he.out]; rfl, ?_⟩
      exact ((((HB0.out.trans ((HB2.out.trans (HBk.out.mono HB2.out.size)).mono HB0.out.size)).setCell (Nat.le_refl _) _).setCell (Nat.le_refl _) _).setCell (Nat.le_refl _) _).setCell (Nat.le_refl _) _
end Go.Proofs.Ytafboehdihokhaa
