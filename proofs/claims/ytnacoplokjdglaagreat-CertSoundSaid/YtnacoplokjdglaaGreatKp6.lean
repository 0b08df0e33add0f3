/- Texts of one proof, one behind the other: Next, Some, IntS, ChVal, ChEq, ChFix. -/
import Derived.Test.YtnacoplokjdglaaGreatKp1
import Derived.Test.YtnacoplokjdglaaGreatKp2
import Derived.Test.YtnacoplokjdglaaGreatKp3
import Derived.Test.YtnacoplokjdglaaGreatKp4
import Derived.Test.YtnacoplokjdglaaGreatKp5
set_option linter.all false
namespace Go.Proofs.YtnacoplokjdglaaGreat
open Go.RowKit Go.Maps

theorem find_first {α : Type} {f : α → Bool} {C : List α} {k : Nat} {c : α} (hc : C[k]? = some c) (hf : f c = true) (hno : ∀ (j : Nat) (d : α), j < k → C[j]? = some d → f d = false) : C.find? f = some c := by
  induction C generalizing k with
  | nil => simp at hc
  | cons d C ih =>
    cases k with
    | zero => simp at hc; subst hc; simp [hf]
    | succ k =>
      have h0 := hno 0 d (by omega) rfl
      rw [List.find?_cons, h0]
      exact ih (by simpa using hc) fun j d' hj hd => hno (j + 1) d' (by omega) (by simpa using hd)
theorem find_no {α : Type} {f : α → Bool} {C : List α} (hno : ∀ (j : Nat) (d : α), j < C.length → C[j]? = some d → f d = false) : C.find? f = none := by
  rw [List.find?_eq_none]
  intro d hd
  obtain ⟨j, hj⟩ := List.mem_iff_getElem?.1 hd
  rw [hno j d (List.getElem?_eq_some_iff.1 hj).1 hj]
  simp
/-- No one of the first k choices is open and counts. -/
def ShutK (f : GChoice → Bool) (C : List GChoice) (k : Nat) : Prop := ∀ (j : Nat) (d : GChoice), j < k → C[j]? = some d → f d = false
theorem ShutK.next {f : GChoice → Bool} {C : List GChoice} {k : Nat} {c : GChoice} (h : ShutK f C k) (hc : C[k]? = some c) (hf : f c = false) : ShutK f C (k + 1) := by
  intro j d hj hd
  rcases Nat.lt_or_ge j k with h' | h'
  · exact h j d h' hd
  · obtain rfl : j = k := by omega
    rw [hc] at hd; cases hd; exact hf

def zeroC : GChoice := ⟨0, 0, 0, 0⟩
def NextQ (o : Option GChoice) (w : World) (e : Ending) (w' : World) : Prop := e = .returned (.tuple #[chK (o.getD zeroC), .bool o.isSome]) ∧ Below w.heap.size w w'

set_option maxRecDepth 100000 in
set_option maxHeartbeats 4000000 in
theorem next_call (v : Value) (ts : List GTxn) (m : Nat) (L : FaL) (w : World) (hv : RdTxns w v ts) (hok : OkTxns ts) (htl : ts.length ≤ 4096) (hm : MapF w m L) :
    Calls Tryz.prog 62 #[v, .map (some m)] w (NextQ (nextM ts L) w) := by
  have HB0 := Lib.hid ((Below.refl w.heap.size w).alloc (Nat.le_refl _) (.cells #[vi 0, vi 0, vi 0, vi 0] 128))
  have HV := Lib.hid (hv.later HB0.out)
  have HOK := Lib.hid hok
  have HM := Lib.hid (hm.below HB0.out hm.lt)
  have hsl := sureM_length ts
  have HX0 := Lib.hid (alloc_at w (.cells #[vi 0, vi 0, vi 0, vi 0] 128))
  have hw0 : (w.alloc (.cells #[vi 0, vi 0, vi 0, vi 0] 128)).heap.size = w.heap.size + 1 := by simp
  clear hv hok hm
  go_enter Tryz.func62, Tryz.ntmps62
  go_upto_region 1 with fail
  generalize w.alloc (.cells #[vi 0, vi 0, vi 0, vi 0] 128) = w0 at *
  go_wp2_with (first
    | (go_at_call 65; refine (sure_call _ _ _ HV.out HOK.out).mono ?_; rintro e w1 ⟨sb, rfl, hsb, hS, hb1⟩; have HB1 := Lib.hid hb1; have HS := Lib.hid (hS.own (by omega)); rw [hsl] at HS; have HV1 := Lib.hid (HV.out.later hb1); have HM1 := Lib.hid (HM.out.below hb1 HM.out.lt); clear hb1 hS)
    | (go_at_call 48; refine (choices_call _ ts _ HV1.out HOK.out htl).mono ?_; rintro e w2 ⟨v2, rfl, ho2, hb2⟩; have HC2 := Lib.hid ho2.rd; have HS2 := Lib.hid (own_below HS.out hb2); have HV2 := Lib.hid (HV1.out.later hb2); have HM2 := Lib.hid (HM1.out.below hb2 HM1.out.lt); have HB2 := Lib.hid (HB1.out.trans (hb2.mono HB1.out.size)); obtain ⟨a2, len2, cap2, rfl, rfl, hm2, -⟩ := HC2.out.at; clear hb2 ho2))
  have HCO := Lib.hid (fun c (h : c ∈ choicesM ts) => choicesM_ok h)
  have HNX := Lib.hid (show nextM ts L = (choicesM ts).find? (openC ts L) from rfl)
  generalize choicesM ts = C at *
  have hw2 := HB2.out.size
  have HX2 := Lib.hid ((HB2.out.block w.heap.size (by omega)).trans HX0.out)
  go_loopw [8, 9, 10, 11, 12, 13, 14, 20] (fun _ _ _ _ _ _ _ n wr => ∃ k : Nat, k ≤ C.length ∧ n = .int .i64 k ∧ Hid (ShutK (openC ts L) C k) ∧ Below w2.heap.size w2 wr) (fun _ _ _ _ _ _ _ n _ => C.length - (intOf n).toNat)
  case atStart => exact ⟨0, Nat.zero_le _, rfl, Lib.hid (fun j d h => absurd h (Nat.not_lt_zero _)), Below.refl _ _⟩
  case round =>
    obtain ⟨wk, rfl⟩ : ∃ wk : World, wk = wr := ⟨_, rfl⟩
    obtain ⟨k, hk, rfl, HN, hb⟩ := hrel
    have HBk := Lib.hid hb
    have hwk := hb.size
    have HXk := Lib.hid ((hb.block w.heap.size (by omega)).trans HX2.out)
    clear hb
    by_cases hlt : k < C.length
    · obtain ⟨c, hc⟩ := some_at hlt
      have hco := HCO.out c (List.mem_of_getElem? hc)
      obtain ⟨kd, ky, ca, cb⟩ := c
      obtain ⟨an, rfl⟩ := Int.eq_ofNat_of_zero_le hco.a.1
      obtain ⟨bn, rfl⟩ := Int.eq_ofNat_of_zero_le hco.b.1
      have han : an < ts.length := by have := hco.a.2; simpa using this
      have hbn : bn < ts.length := by have := hco.b.2; simpa using this
      have hkd : kd = 1 ∨ kd = 2 := by rcases hco.kind with h | h; exact .inl h.1; exact .inr h.1
      have HSM := Lib.hid (hco.small htl)
      obtain ⟨_, _, _, e5, -, -, hcl⟩ := HC2.out.at
      cases e5
      obtain ⟨b, off, rfl, k0', k1', k2', k3'⟩ := hcl k _ hc
      have k0 := cell_later HBk.out k0'
      have k1 := cell_later HBk.out k1'
      have k2 := cell_later HBk.out k2'
      have k3 := cell_later HBk.out k3'
      have hkI : (k : Int) < (C.length : Int) := by omega
      have HP := Lib.hid hc
      have HOC := Lib.hid (show openC ts L ⟨kd, ky, an, bn⟩ = ((getM L ⟨kd, ky, an, bn⟩).isNone && (kd != 2 || (isM ts L an).1 && (isM ts L bn).1)) from rfl)
      have HBo := Lib.hid (HBk.out.alloc hwk (.cells #[vi kd, vi ky, vi an, vi bn] 128))
      have HXo := Lib.hid (alloc_at wk (.cells #[vi kd, vi ky, vi an, vi bn] 128))
      have hwo : (wk.alloc (.cells #[vi kd, vi ky, vi an, vi bn] 128)).heap.size = wk.heap.size + 1 := by simp
      have HXr := Lib.hid ((Below.heap_alloc wk (.cells #[vi kd, vi ky, vi an, vi bn] 128) w.heap.size (by omega)).trans HXk.out)
      clear hcl hc hco k0' k1' k2' k3'
      go_upto_region 5 with fail
      clear k0 k1 k2 k3
      generalize wk.alloc (.cells #[vi kd, vi ky, vi an, vi bn] 128) = wo at *
      have q0 : wo.cell? ⟨wk.heap.size, 0, none⟩ = some (vi kd) := by rw [cell_of HXo.out]; rfl
      have q1 : wo.cell? ⟨wk.heap.size, 1, none⟩ = some (vi ky) := by rw [cell_of HXo.out]; rfl
      have q2 : wo.cell? ⟨wk.heap.size, 2, none⟩ = some (vi an) := by rw [cell_of HXo.out]; rfl
      have q3 : wo.cell? ⟨wk.heap.size, 3, none⟩ = some (vi bn) := by rw [cell_of HXo.out]; rfl
      have HMo := Lib.hid (HM2.out.below HBo.out HM2.out.lt)
      have hlk := (lookup_fact HMo.out HSM.out).1
      have HQ0 := Lib.hid q0
      have HQ1 := Lib.hid q1
      have HQ2 := Lib.hid q2
      have HQ3 := Lib.hid q3
      cases hg : getM L ⟨kd, ky, an, bn⟩ with
      | some bb =>
        rw [hg] at hlk HOC
        clear hg
        go_wp2_with fail
        go_roundw
        case rel => exact ⟨k + 1, by omega, by go_num, Lib.hid (HN.out.next HP.out HOC.out), HBo.out⟩
        case measure => simp [intOf]; omega
      | none =>
        rw [hg] at hlk HOC
        clear hg
        rcases hkd with rfl | rfl
        · have he := Lib.hid (HNX.out.trans (find_first HP.out HOC.out HN.out))
          have HBZ := Lib.hid HBo.out
          have r0 : wo.cell? ⟨w.heap.size, 0, none⟩ = some (vi 0) := by rw [cell_of HXr.out]; rfl
          have r1 : wo.cell? ⟨w.heap.size, 1, none⟩ = some (vi 0) := by rw [cell_of HXr.out]; rfl
          have r2 : wo.cell? ⟨w.heap.size, 2, none⟩ = some (vi 0) := by rw [cell_of HXr.out]; rfl
          have r3 : wo.cell? ⟨w.heap.size, 3, none⟩ = some (vi 0) := by rw [cell_of HXr.out]; rfl
          have fz := fun j => free_of HXr.out j
          go_wp2_with fail
          refine bodyPost_ret (v := .tuple #[chK ⟨1, ky, an, bn⟩, .bool true]) (by simp [results, Tryz.results62, go_sem, r0, r1, r2, r3]) rfl ⟨by rw [he.out]; rfl, ?_⟩
          exact ((((HB0.out.trans ((HB2.out.trans (HBZ.out.mono HB2.out.size)).mono HB0.out.size)).setCell (Nat.le_refl _) _).setCell (Nat.le_refl _) _).setCell (Nat.le_refl _) _).setCell (Nat.le_refl _) _
        · have HVo := Lib.hid (HV2.out.later HBo.out)
          have HSo := Lib.hid (own_below HS2.out HBo.out)
          go_upto_region 9 with (go_at_call 64; refine (is_call _ ts _ m L an _ HVo.out HOK.out htl HSo.out HMo.out han).mono ?_; rintro e w5 ⟨rfl, hb5⟩)
          have HB5 := Lib.hid hb5
          have HV5 := Lib.hid (HVo.out.later hb5)
          have HS5 := Lib.hid (own_below HSo.out hb5)
          have HM5 := Lib.hid (HMo.out.below hb5 HMo.out.lt)
          replace q3 := cell_later hb5 HQ3.out
          clear hb5
          go_upto_region 10 with (go_at_call 64; refine (is_call _ ts _ m L bn _ HV5.out HOK.out htl HS5.out HM5.out hbn).mono ?_; rintro e w6 ⟨rfl, hb6⟩)
          have HB6 := Lib.hid (HB5.out.trans (hb6.mono HB5.out.size))
          have HBZ := Lib.hid (HBo.out.trans (HB6.out.mono HBo.out.size))
          clear hb6 q0 q1 q2 q3
          cases hA : (isM ts L an).1 with
          | false =>
            rw [hA] at HOC
            clear hA
            go_wp2_with fail
            go_roundw
            case rel => exact ⟨k + 1, by omega, by go_num, Lib.hid (HN.out.next HP.out HOC.out), HBZ.out⟩
            case measure => simp [intOf]; omega
          | true =>
            rw [hA] at HOC
            clear hA
            cases hC : (isM ts L bn).1 with
            | false =>
              rw [hC] at HOC
              clear hC
              go_wp2_with fail
              go_roundw
              case rel => exact ⟨k + 1, by omega, by go_num, Lib.hid (HN.out.next HP.out HOC.out), HBZ.out⟩
              case measure => simp [intOf]; omega
            | true =>
              rw [hC] at HOC
              clear hC
              have he := Lib.hid (HNX.out.trans (find_first HP.out HOC.out HN.out))
              have HX6 := Lib.hid ((HB6.out.block w.heap.size (by omega)).trans HXr.out)
              have q0 := cell_later HB6.out HQ0.out
              have q1 := cell_later HB6.out HQ1.out
              have q2 := cell_later HB6.out HQ2.out
              have q3 := cell_later HB6.out HQ3.out
              have r0 : w6.cell? ⟨w.heap.size, 0, none⟩ = some (vi 0) := by rw [cell_of HX6.out]; rfl
              have r1 : w6.cell? ⟨w.heap.size, 1, none⟩ = some (vi 0) := by rw [cell_of HX6.out]; rfl
              have r2 : w6.cell? ⟨w.heap.size, 2, none⟩ = some (vi 0) := by rw [cell_of HX6.out]; rfl
              have r3 : w6.cell? ⟨w.heap.size, 3, none⟩ = some (vi 0) := by rw [cell_of HX6.out]; rfl
              have fz := fun j => free_of HX6.out j
              go_wp2_with fail
              refine bodyPost_ret (v := .tuple #[chK ⟨2, ky, an, bn⟩, .bool true]) (by simp [results, Tryz.results62, go_sem, r0, r1, r2, r3]) rfl ⟨by rw [he.out]; rfl, ?_⟩
              exact ((((HB0.out.trans ((HB2.out.trans (HBZ.out.mono HB2.out.size)).mono HB0.out.size)).setCell (Nat.le_refl _) _).setCell (Nat.le_refl _) _).setCell (Nat.le_refl _) _).setCell (Nat.le_refl _) _
    · obtain rfl : k = C.length := by omega
      have he := Lib.hid (HNX.out.trans (find_no HN.out))
      have q0 : wk.cell? ⟨w.heap.size, 0, none⟩ = some (vi 0) := by rw [cell_of HXk.out]; rfl
      have q1 : wk.cell? ⟨w.heap.size, 1, none⟩ = some (vi 0) := by rw [cell_of HXk.out]; rfl
      have q2 : wk.cell? ⟨w.heap.size, 2, none⟩ = some (vi 0) := by rw [cell_of HXk.out]; rfl
      have q3 : wk.cell? ⟨w.heap.size, 3, none⟩ = some (vi 0) := by rw [cell_of HXk.out]; rfl
      have fz := fun j => free_of HXk.out j
      go_wp2_with fail
      refine bodyPost_ret (v := .tuple #[chK zeroC, .bool false]) (by simp [results, Tryz.results62, go_sem, q0, q1, q2, q3, zeroC]) rfl ⟨by rw [he.out]; rfl, ?_⟩
      exact ((((HB0.out.trans ((HB2.out.trans (HBk.out.mono HB2.out.size)).mono HB0.out.size)).setCell (Nat.le_refl _) _).setCell (Nat.le_refl _) _).setCell (Nat.le_refl _) _).setCell (Nat.le_refl _) _
end Go.Proofs.YtnacoplokjdglaaGreat

namespace Go.Proofs.YtnacoplokjdglaaGreat
open Go.RowKit Go.Maps

abbrev RdInts (w : World) (v : Value) (xs : List Int) : Prop := RdS 1 EInt w v xs
theorem RdInts.at {w : World} {v : Value} {xs : List Int} (h : RdInts w v xs) : ∃ a len cap, v = .slice a len cap ∧ len = xs.length ∧ xs.length ≤ 9223372036854775807 ∧ ∀ j x, xs[j]? = some x → ∃ b off, a = some ⟨b, off, none⟩ ∧ w.cell? ⟨b, off + j, none⟩ = some (.int .i64 x) ∧ i64 x := by
  obtain ⟨a, len, cap, h1, h2, h3, h4, h5, h6⟩ := h
  refine ⟨a, len, cap, h1, h2, h3, fun j x hj => ?_⟩
  obtain ⟨b, off, cs, ha, hl, hc, rfl, hx⟩ := h6 j x hj
  exact ⟨b, off, ha, by have := hc 0 _ rfl; simpa using this, hx⟩
theorem RdInts.later {w w' : World} {v : Value} {xs : List Int} (h : RdInts w v xs) (hb : Below w.heap.size w w') : RdInts w' v xs := RdS.below h hb fun _ _ h => h
theorem map_apart {w : World} {b n m g : Nat} {e : TypeId} {v : Value} {xs : List Value} {L : FaL} (h : w.ownsRow b e n v m xs) (hM : MapF w g L) : some g ≠ v.ownBlock := by
  obtain ⟨es, clock, hb, _⟩ := hM
  rcases h.2 with ⟨hv, _⟩ | ⟨g', cap, cur, hv, _, hh, _⟩
  · rw [hv]; simp [Value.ownBlock]
  · rw [hv]
    intro e1
    have : g = g' := by simpa [Value.ownBlock] using e1
    subst this
    rw [hb] at hh
    simp at hh
theorem putM_new {L : FaL} {c : GChoice} {b : Bool} (h : getM L c = none) : putM L c b = L ++ [(c, b)] := by unfold putM; rw [h]; rfl

end Go.Proofs.YtnacoplokjdglaaGreat

namespace Go.Proofs.YtnacoplokjdglaaGreat
open Go.RowKit Go.Maps

theorem own_shapeY {w : World} {base e size n : Nat} {v : Value} {xs : List Value} (h : w.ownsRow base e size v n xs) : ∃ a c, v = .slice a n c ∧ (n ≠ 0 → ∃ g, a = some ⟨g, 0, none⟩ ∧ base ≤ g) := by
  rcases h.2 with ⟨hv, h0⟩ | ⟨g, cap, cur, hv, hg, _⟩
  · exact ⟨none, 0, by rw [hv, h0], fun h => absurd h0 h⟩
  · exact ⟨_, _, hv, fun _ => ⟨g, rfl, hg⟩⟩
theorem viY_map (l : List Int) : l.flatMap viC = l.map vi := by
  induction l with
  | nil => rfl
  | cons x l ih => simp [viC, ih]
theorem viY_one (l : List Int) : ∀ u ∈ l.flatMap viC, u.oneCell' = true := by
  intro u hu; rw [viY_map] at hu; simp at hu; obtain ⟨x, _, rfl⟩ := hu; rfl
theorem run_dropY {b off n c k : Nat} (hk : k ≤ n) (w : World) : (Instr.slice 58 (.slice (some ⟨b, off, none⟩) n c) (some (.int .i64 k)) none none).run Tryz.prog w = .ok (sliced (some ⟨b, off, none⟩) k n c 1) w := by
  have hs : ∀ w, (sizeOf 3).run Tryz.prog w = .ok 1 w := fun w => by
    obtain ⟨i0, hi, _, hz1, _⟩ := info_parts Tryz.infoI
    simp [sizeOf, typeInfo, hi, hz1]
  have he : Tryz.prog.elem 58 = 3 := by kernel_rfl
  rw [run_slice_l w _ _ _ _ (by rw [he]; exact Tryz.underlying58) .i64 _ (by omega) (by omega), he, hs]
  simp [Result.andThen]
theorem run_takeY {b off n c k : Nat} (hk : k ≤ c) (w : World) : (Instr.slice 58 (.slice (some ⟨b, off, none⟩) n c) none (some (.int .i64 k)) none).run Tryz.prog w = .ok (.slice (some ⟨b, off, none⟩) k c) w := by
  have hs : ∀ w, (sizeOf 3).run Tryz.prog w = .ok 1 w := fun w => by
    obtain ⟨i0, hi, _, hz1, _⟩ := info_parts Tryz.infoI
    simp [sizeOf, typeInfo, hi, hz1]
  have he : Tryz.prog.elem 58 = 3 := by kernel_rfl
  rw [run_slice_h w _ _ _ _ (by rw [he]; exact Tryz.underlying58) .i64 _ (by omega) (by omega), he, hs]
  simp [Result.andThen, sliced, Addr.add]
theorem slicedY (a : Option Addr) (k n c m : Nat) : ∃ a2 n2 c2, sliced a k n c m = .slice a2 n2 c2 := by unfold sliced; exact ⟨_, _, _, rfl⟩
theorem RdInts.src {w : World} {v : Value} {l : List Int} (h : RdInts w v l) : Src w v 1 l.length (l.flatMap viC) := by
  obtain ⟨a, len, cap, rfl, rfl, hm, hlc, hn, hc⟩ := h
  refine ⟨a, cap, rfl, by rw [viY_map]; simp, hn, fun ad had j u hu => ?_⟩
  rw [viY_map, List.getElem?_map] at hu
  cases hx : l[j]? with
  | none => rw [hx] at hu; cases hu
  | some x =>
    rw [hx] at hu
    cases hu
    obtain ⟨b, off, cs, hb, hl, hcell, rfl, _⟩ := hc j x hx
    rw [had] at hb
    cases hb
    have := hcell 0 _ rfl
    rw [addr_add]
    simpa using this
/-- A row of one's own is readable. -/
theorem OwI.rdY {base : Nat} {w : World} {v : Value} {l : List Int} (h : OwI base w v l) (hi : ∀ x ∈ l, i64 x) : RdInts w v l := by
  obtain ⟨a, len, cap, h1, h2, h3, h4, h5, h6⟩ := rds_of_own (V := viC) (fun _ => rfl) h
  refine ⟨a, len, cap, h1, h2, h3, h4, h5, fun j x hj => ?_⟩
  obtain ⟨b, off, cs, e1, e2, e3, e4⟩ := h6 j x hj
  have := hi x (List.mem_of_getElem? hj)
  exact ⟨b, off, cs, e1, e2, e3, e4, by unfold i64 at this; exact this⟩
theorem RdInts.i64s {w : World} {v : Value} {l : List Int} (h : RdInts w v l) : ∀ x ∈ l, i64 x := by
  intro x hx
  obtain ⟨a, len, cap, h1, h2, h3, h4, h5, h6⟩ := h
  obtain ⟨j, hj⟩ := List.mem_iff_getElem?.1 hx
  obtain ⟨b, off, cs, e1, e2, e3, e4⟩ := h6 j x hj
  exact e4.2
end Go.Proofs.YtnacoplokjdglaaGreat

namespace Go.Proofs.YtnacoplokjdglaaGreat
open Go.RowKit Go.Shelf Go.Maps
attribute [local go_sem] Oper.semAt_some

theorem take_atV {l : List Int} {k : Nat} {x : Int} (h : l[k]? = some x) : l.take (k + 1) = l.take k ++ [x] := by rw [List.take_add_one, h]; rfl

set_option maxRecDepth 100000 in
set_option maxHeartbeats 2000000 in
theorem values1_in (F : Fence) (n : Nat) (hF : F.fn 91) (hro : F.round = none) (hn : 1 ≤ n) (lp Bs n₀ : Nat) (a : Option Addr) (cap : Nat) (l : List Int) (hl : l.length ≤ 1048576) (J Jx : List Int → World → Prop)
    (hY : ∀ pre x W, J pre W → pre.length < l.length → YieldAt F (n - 1) Tryz.prog lp (encK x) W fun e W' =>
      (e = .returned (.bool true) ∧ J (pre ++ [x]) W' ∧ Below n₀ W W') ∨ (e = .returned (.bool false) ∧ Jx (pre ++ [x]) W'))
    (W : World) (hBs : W.cell? ⟨Bs, 0, none⟩ = some (.slice a l.length cap))
    (hc : ∀ j x, l[j]? = some x → ∃ b off, a = some ⟨b, off, none⟩ ∧ b < n₀ ∧ W.cell? ⟨b, off + j, none⟩ = some (vi x)) (h0 : J [] W) :
    CallsIn F n Tryz.prog 91 #[.func (.yield lp) #[] #[], .pointer (some ⟨Bs, 0, none⟩)] W fun e W' => (∃ v, e = .returned v) ∧
      ((∃ ys, ys = l ∧ J ys W') ∨ (∃ pre : List Int, True ∧ Jx pre W')) := by
  have HC := Lib.hid hc
  have HY := Lib.hid hY
  clear hc hY
  refine callsIn_of_wp Tryz.func91 rfl hF ?_ hro
  simp only [Tryz.ntmps91, List.size_toArray, List.length_cons, List.length_nil, Nat.reduceAdd, Nat.reduceSub, Array.replicate_succ, Array.replicate_zero, List.push_toArray, List.append_toArray, List.nil_append, List.cons_append]
  gi_wp2
  gi_loopw [4, 7] (fun _ i wr => ∃ k : Nat, k ≤ l.length ∧ i = .int .i64 k ∧ J (l.take k) wr ∧ Below n₀ W wr) (fun _ i _ => l.length - (intOf i).toNat)
  case atStart => exact ⟨0, Nat.zero_le _, rfl, by simpa using h0, Below.refl _ _⟩
  case round =>
    obtain ⟨k, hk, rfl, hJs, hkp⟩ := hrel
    have HKP := Lib.hid hkp
    have HJS := Lib.hid hJs
    clear hkp hJs
    by_cases hlt : k < l.length
    · obtain ⟨x, hx⟩ := some_at hlt
      obtain ⟨b, off, rfl, hb, k0'⟩ := HC.out k x hx
      have k0 := (HKP.out.cell (p := ⟨b, off + k, none⟩) hb).trans k0'
      obtain ⟨fn, tmps, assign, body, hy, hR⟩ := HY.out _ x wr HJS.out (by rw [List.length_take]; omega)
      have HT := Lib.hid (take_atV hx)
      have hki : (k : Int) < (l.length : Int) := by omega
      have wk1 : IntKind.i64.wrap ((k : Int) + 1) = ((k + 1 : Nat) : Int) := by rw [IntWalk.i64_in _ (by omega)]; omega
      clear k0' hx
      gi_wp2
      refine hR.mono ?_
      rintro e W3 (⟨rfl, hJ3, hk3⟩ | ⟨rfl, hJx3⟩)
      · have HK4 := Lib.hid (HKP.out.trans hk3)
        have HJ3 := Lib.hid hJ3
        clear hk3 hJ3
        gi_wp2
        go_roundw
        case rel => exact ⟨k + 1, by omega, rfl, by rw [HT.out]; exact HJ3.out, HK4.out⟩
        case measure => simp [intOf]; omega
      · have HX := Lib.hid hJx3
        clear hJx3
        gi_wp2
        refine bodyPost_ret (results_none rfl _ _ _) rfl ?_
        exact ⟨⟨_, rfl⟩, .inr ⟨_, trivial, HX.out⟩⟩
    · obtain rfl : k = l.length := by omega
      gi_wp2
      go_end0
      exact ⟨⟨_, rfl⟩, .inl ⟨_, rfl, by have := HJS.out; rwa [List.take_length] at this⟩⟩
theorem values_seq (F : Fence) (n : Nat) (hF : F.fn 91) (hro : F.round = none) (hn : 1 ≤ n) {Bs n₀ : Nat} {a : Option Addr} {cap : Nat} {l : List Int} {w : World} (hl : l.length ≤ 1048576) (hn₀ : n₀ ≤ w.heap.size)
    (hb : w.cell? ⟨Bs, 0, none⟩ = some (.slice a l.length cap)) (hc : ∀ j x, l[j]? = some x → ∃ b off, a = some ⟨b, off, none⟩ ∧ b < n₀ ∧ w.cell? ⟨b, off + j, none⟩ = some (vi x)) :
    SeqStopsK F n Tryz.prog 91 #[.pointer (some ⟨Bs, 0, none⟩)] encK (Below n₀) (fun ys => ys = l) (fun _ => True) l.length w := fun lp J Jx W hW hJ _ hY h0 =>
  values1_in F n hF hro hn lp Bs n₀ a cap l hl J Jx hY W (cell_later hW hb) (fun j x hj => by
    obtain ⟨b, off, h1, h2, h3⟩ := hc j x hj
    exact ⟨b, off, h1, h2, cell_later hW h3⟩) h0
theorem ownsRow_succY {w : World} {base e size n : Nat} {v : Value} {xs : List Value} (h : w.ownsRow base e size v (n + 1) xs) : ∃ g c, v = .slice (some ⟨g, 0, none⟩) (n + 1) c := by
  obtain ⟨a, c, rfl, h2⟩ := own_shapeY h
  obtain ⟨g, rfl, _⟩ := h2 (by omega)
  exact ⟨g, c, rfl⟩

set_option maxRecDepth 100000 in
set_option maxHeartbeats 4000000 in
theorem appendSeqV_call {Bs : Nat} {a : Option Addr} {cap : Nat} {l : List Int} (w : World) (hb : w.cell? ⟨Bs, 0, none⟩ = some (.slice a l.length cap)) (hc : ∀ j x, l[j]? = some x → ∃ b off, a = some ⟨b, off, none⟩ ∧ w.cell? ⟨b, off + j, none⟩ = some (vi x)) (hL : l.length ≤ 1048576) :
    Calls Tryz.prog 116 #[.slice none 0 0, .func (.func 91) #[] #[.pointer (some ⟨Bs, 0, none⟩)]] w fun e w' => ∃ v, e = .returned v ∧ OwI w.heap.size w' v l ∧ Below w.heap.size w w' := by
  have HB := Lib.hid ((Below.refl w.heap.size w).alloc (Nat.le_refl _) (.cells #[.slice none 0 0] 58))
  have HX := Lib.hid (alloc_atG w (.cells #[.slice none 0 0] 58))
  have HQ := Lib.hid (values_seq Fence.wide 7 trivial rfl (by omega) (n₀ := w.heap.size) (w := w.alloc (.cells #[.slice none 0 0] 58)) hL (by simp) (cell_later HB.out hb) (fun j x hj => by obtain ⟨b, off, h1, h2⟩ := hc j x hj; exact ⟨b, off, h1, World.block_lt_of_cell? w _ h2, cell_later HB.out h2⟩))
  have hs0 : (w.alloc (.cells #[.slice none 0 0] 58)).heap.size = w.heap.size + 1 := by simp
  clear hb hc
  refine (callsIn_wide (n := 8)).1 ?_
  refine callsIn_of_wp_marks Tryz.func116 rfl trivial ?_ rfl
  simp only [Tryz.ntmps116, List.size_toArray, List.length_cons, List.length_nil, Nat.reduceAdd, Nat.reduceSub, Array.replicate_succ, Array.replicate_zero, List.push_toArray, List.append_toArray, List.nil_append, List.cons_append]
  gi_wp2_with fail
  generalize w.alloc (.cells #[.slice none 0 0] 58) = w0 at *
  refine wpIn_rangeFunc_ownH rfl (by omega) (gf := 91) (lb := #[.pointer (some ⟨Bs, 0, none⟩)]) rfl trivial (enters_of Tryz.func91 (by kernel_rfl) rfl)
    HQ.out Below.trans (belowK_b (by omega)) (Below.refl _ _) (fun _ => rfl)
    (fun pre W => StL w pre W)
    (fun _ _ _ => False)
    (fun pre A B row hs hg hr => stL_own (base := w0.heap.size) (by omega) hs hg hr)
    (fun _ pre A B row hs _ _ => hs) ⟨⟨_, HX.out, World.ownsRow_nil _ _ _ _⟩, by omega, HB.out⟩
    (fun x a' W => a' = { tmps := #[.slice none 0 0, .func (.func 91) #[] #[.pointer (some ⟨Bs, 0, none⟩)], .pointer (some ⟨w.heap.size, 0, none⟩), undef, .slice none 0 0, vi x, .func (.func 91) #[] #[.pointer (some ⟨Bs, 0, none⟩)], vi x, undef, undef, undef, undef, undef], defers := [] })
    (fun x a' u A B row hs hg hr => hs)
    ?assign ?body ?done (fun _ _ _ _ _ _ h _ => h.elim)
  case assign =>
    rintro lp pre x W K h2 hK
    gi_wp2
    exact hK _ _ ((⟨Nat.le_refl _, fun _ _ h _ => h⟩ : KeepsOthers W W).from _) (Below.refl _ _) h2 rfl
  case body =>
    rintro lp pre x a' W hlp hrec h2 rfl hlen
    have HH := Lib.hid h2
    obtain ⟨vo, ho, hrow⟩ := h2.out
    have co : W.cell? ⟨w.heap.size, 0, none⟩ = some vo := cell_ofG ho 0
    have HROW := Lib.hid hrow
    have HO := Lib.hid ho
    have hsW := h2.size
    have hlW : (W.alloc (.cells #[vi x] 3)).heap.size = W.heap.size + 1 := by simp
    clear h2 hrow ho hrec
    gi_wp2_with (gi_at_builtin; refine wpListIn_append_src rfl _ _ 58 rfl eltI (w.heap.size + 1) pre.length _ (World.ownsRow.alloc HROW.out _) rfl 1 (viC x) (src_new (cs := #[vi x]) rfl rfl) rfl (by intro u hu; simp [viC] at hu; subst hu; rfl) (by omega) (by omega) (by omega) ?_; intro v' w1 hown' hgrow _; obtain ⟨g', cap', rfl⟩ := ownsRow_succY hown'; have q0 : w1.heap[w.heap.size]? = some (.cells #[vo] 58) := (hgrow.block w.heap.size (by omega) (fun e => by have := (World.ownsRow.lt HROW.out _ e.symm).1; omega)).trans ((Below.heap_alloc _ _ _ (by omega)).trans HO.out); have q1 : w1.cell? ⟨w.heap.size, 0, none⟩ = some vo := cell_ofG q0 0; have q2 : w1.frozen? ⟨w.heap.size, 0, none⟩ = false := free_of q0 0)
    have hk := keeps_put (v' := .slice (some ⟨g', 0, none⟩) (pre.length + 1) cap') (a := ⟨w.heap.size, 0, none⟩) HROW.out ⟨_, _, HO.out⟩ hgrow
    exact ⟨hk.from _, (((Below.refl w.heap.size W).alloc (by omega) _).grown hgrow (by omega) (fun j hj => by have := (World.ownsRow.lt HROW.out j hj).1; omega)).setCell (Nat.le_refl _) _, stL_put HH.out HROW.out HO.out hgrow hown'⟩
  case done =>
    rintro D ys W hD hys h1 hK
    have HK := Lib.hid hK
    have HH := Lib.hid h1
    have HP := Lib.hid hys
    obtain ⟨vo, ho, hrow⟩ := h1.out
    have HROW := Lib.hid hrow
    have c0 : W.cell? ⟨w.heap.size, 0, none⟩ = some vo := by rw [cell_ofG ho]; rfl
    clear h1 hK hys ho hrow
    gi_wp2
    refine leaves_marksG [D] W (fun D' hD' => by simp at hD'; subst hD'; exact HK.out) (by simp) (fun w' h1 h2 h3 h4 h5 => ?_)
    have hb : Below w.heap.size w w' := ⟨h1.trans HH.out.below.os, h2.trans HH.out.below.tape, h3.trans HH.out.below.output, by rw [h4]; exact HH.out.below.size, fun k hk => (h5 k (fun hD' => by simp at hD'; have := HB.out.size; omega)).trans (HH.out.below.block k hk)⟩
    obtain rfl := HP.out
    refine ⟨vo, by simp [results, Tryz.f116, go_sem], vo, rfl, ?_, hb⟩
    have hrow := HROW.out
    unfold OwI
    refine own_mono (b := w.heap.size + 1) ⟨hrow.1, ?_⟩ (by omega)
    rcases hrow.2 with h | ⟨g, cp, cur, hv, hg, hh, r⟩
    · exact .inl h
    · refine .inr ⟨g, cp, cur, hv, hg, ?_, r⟩
      rw [h5 g (fun hD' => by simp at hD'; subst hD'; have := HK.out; rw [hh] at this; cases this)]
      exact hh

set_option maxRecDepth 100000 in
set_option maxHeartbeats 2000000 in
theorem collectV_call {Bs : Nat} {a : Option Addr} {cap : Nat} {l : List Int} (w : World) (hb : w.cell? ⟨Bs, 0, none⟩ = some (.slice a l.length cap)) (hc : ∀ j x, l[j]? = some x → ∃ b off, a = some ⟨b, off, none⟩ ∧ w.cell? ⟨b, off + j, none⟩ = some (vi x)) (hL : l.length ≤ 1048576) :
    Calls Tryz.prog 89 #[.func (.func 91) #[] #[.pointer (some ⟨Bs, 0, none⟩)]] w fun e w' => ∃ v, e = .returned v ∧ OwI w.heap.size w' v l ∧ Below w.heap.size w w' := by
  have HA := Lib.hid (appendSeqV_call w hb hc hL)
  clear hb hc
  go_enter Tryz.func89, Tryz.ntmps89
  go_wp2_with (go_at_call 116; refine HA.out.mono ?_; rintro e w1 ⟨v, rfl, h1, h3⟩)
  go_ret
  exact ⟨v, rfl, h1, h3⟩

set_option maxRecDepth 100000 in
theorem values_call (a : Option Addr) (n cap : Nat) (w : World) :
    Calls Tryz.prog 74 #[.slice a n cap] w fun e w' => e = .returned (.func (.func 91) #[] #[.pointer (some ⟨w.heap.size, 0, none⟩)]) ∧ w' = w.alloc (.cells #[.slice a n cap] 58) := by
  go_enter Tryz.func74, Tryz.ntmps74
  go_wp2_with fail
  go_ret
  exact ⟨rfl, rfl⟩
end Go.Proofs.YtnacoplokjdglaaGreat

namespace Go.Proofs.YtnacoplokjdglaaGreat
open Go.RowKit Go.Maps
set_option maxRecDepth 100000 in
set_option maxHeartbeats 2000000 in
theorem sortedV_call {Bs : Nat} {a : Option Addr} {cap : Nat} {l : List Int} (w : World) (hb : w.cell? ⟨Bs, 0, none⟩ = some (.slice a l.length cap)) (hc : ∀ j x, l[j]? = some x → ∃ b off, a = some ⟨b, off, none⟩ ∧ w.cell? ⟨b, off + j, none⟩ = some (vi x)) (hL : l.length ≤ 1048576) :
    Calls Tryz.prog 73 #[.func (.func 91) #[] #[.pointer (some ⟨Bs, 0, none⟩)]] w fun e w' => ∃ v, e = .returned v ∧ OwI w.heap.size w' v (srt l) ∧ Below w.heap.size w w' := by
  have HC := Lib.hid (collectV_call w hb hc hL)
  clear hb hc
  go_enter Tryz.func73, Tryz.ntmps73
  go_upto_region 2 with (go_at_call 89; refine HC.out.mono ?_; rintro e w1 ⟨v, rfl, ho, hb⟩; have HO := Lib.hid ho; have HB := Lib.hid hb; clear ho hb)
  have HS := Lib.hid (sort_call v l w1 HO.out hL)
  go_wp2_with (go_at_call 90; refine HS.out.mono ?_; rintro e w2 ⟨rfl, ho2, hg2⟩)
  go_ret
  exact ⟨v, rfl, ho2, HB.out.grown hg2 HB.out.size (fun j hj => (World.ownsRow.lt HO.out j hj).1)⟩

set_option maxRecDepth 100000 in
set_option maxHeartbeats 2000000 in
theorem equalI_call (u v : Value) (l1 l2 : List Int) (w : World) (hu : RdInts w u l1) (hv : RdInts w v l2) :
    Calls Tryz.prog 72 #[u, v] w fun e w' => e = .returned (.bool (decide (l1 = l2))) ∧ Below w.heap.size w w' := by
  have HU := Lib.hid hu
  have HV := Lib.hid hv
  have mixed : Tryz.prog.follows .mixedOrders = true := by kernel_rfl
  obtain ⟨ua, ul, uc, rfl, rfl, hum, -⟩ := hu.at
  obtain ⟨va, vl, vc, rfl, rfl, hvm, -⟩ := hv.at
  clear hu hv
  go_enter Tryz.func72, Tryz.ntmps72
  by_cases hl : l1.length = l2.length
  · have e1 : ((l1.length : Int) == (l2.length : Int)) = true := beq_iff_eq.2 (by omega)
    have e2 : ((l1.length : Int) != (l2.length : Int)) = false := by rw [bne, e1]; rfl
    have HL := Lib.hid hl
    clear hl
    go_wp2_with fail
    go_loopw [5, 13] (fun _ kv wr => ∃ k : Nat, k ≤ l1.length ∧ kv = .int .i64 k ∧ Hid (l1.take k = l2.take k) ∧ Below w.heap.size w wr) (fun _ kv _ => l1.length - (intOf kv).toNat)
    case atStart => exact ⟨0, Nat.zero_le _, rfl, Lib.hid rfl, Below.refl _ _⟩
    case round =>
      obtain ⟨wk, rfl⟩ : ∃ wk : World, wk = wr := ⟨_, rfl⟩
      obtain ⟨k, hk, rfl, HT, hb⟩ := hrel
      have HBk := Lib.hid hb
      clear hb
      by_cases hlt : k < l1.length
      · obtain ⟨x, hx⟩ := some_at hlt
        obtain ⟨y, hy⟩ := some_at (l := l2) (k := k) (by rw [← HL.out]; exact hlt)
        obtain ⟨_, _, _, e5, -, -, hul⟩ := (HU.out.later HBk.out).at
        cases e5
        obtain ⟨ub, uo, rfl, x0, -⟩ := hul k x hx
        obtain ⟨_, _, _, e6, -, -, hvl⟩ := (HV.out.later HBk.out).at
        cases e6
        obtain ⟨vb, vo, rfl, y0, -⟩ := hvl k y hy
        have hkI : (k : Int) < (l1.length : Int) := by omega
        have hkJ : (k : Int) < (l2.length : Int) := by have := HL.out; omega
        have wk1 : IntKind.i64.wrap ((k : Int) + 1) = ((k + 1 : Nat) : Int) := by rw [IntWalk.i64_in _ (by omega)]; omega
        have HX := Lib.hid hx
        have HY := Lib.hid hy
        clear hul hvl hx hy
        go_upto_region 6 with fail
        cases hxy : (x == y) with
        | true =>
          have hne : (x != y) = false := by rw [bne, hxy]; rfl
          have HXY := Lib.hid (beq_iff_eq.1 hxy)
          go_quiet (fail)
          go_wp2_with fail
          exact ⟨⟨k + 1, by omega, rfl, Lib.hid (by rw [take_atV HX.out, take_atV HY.out, HT.out, HXY.out]), below_drewN HBk.out _⟩, by simp only [intOf]; omega⟩
        | false =>
          have hne : (x != y) = true := by rw [bne, hxy]; rfl
          have HNE := Lib.hid (show decide (l1 = l2) = false from decide_eq_false (fun e => by
            have h1 := HX.out
            rw [e, HY.out] at h1
            have := Option.some.inj h1
            rw [this] at hxy; simp at hxy))
          go_quiet (fail)
          go_wp2_with fail
          go_ret
          exact ⟨by rw [HNE.out]; rfl, below_drewN HBk.out _⟩
      · obtain rfl : k = l1.length := by omega
        have HE := Lib.hid (show decide (l1 = l2) = true from decide_eq_true (by
          have := HT.out
          rw [List.take_length, HL.out, List.take_length] at this
          exact this))
        go_wp2_with fail
        go_ret
        exact ⟨by rw [HE.out]; rfl, HBk.out⟩
  · have e1 : ((l1.length : Int) == (l2.length : Int)) = false := beq_eq_false_iff_ne.2 (by omega)
    have e2 : ((l1.length : Int) != (l2.length : Int)) = true := by rw [bne, e1]; rfl
    have HNE := Lib.hid (show decide (l1 = l2) = false from decide_eq_false (fun e => hl (by rw [e])))
    clear hl
    go_wp2_with fail
    go_ret
    exact ⟨by rw [HNE.out]; rfl, Below.refl _ _⟩

end Go.Proofs.YtnacoplokjdglaaGreat

namespace Go.Proofs.YtnacoplokjdglaaGreat
open Go.RowKit Go.Maps

abbrev MapO (w : World) (b : Nat) (O : OrdL) : Prop := MapT Tryz.prog 3 vi (fun x : Value × List Int => x.1) w b O
theorem zero_sl (w : World) : (zeroValue 58).run Tryz.prog w = .ok (.slice none 0 0) w := by kernel_rfl
set_option maxRecDepth 100000 in
set_option maxHeartbeats 2000000 in
theorem fix_short (a : Option Addr) (cap n : Nat) (d : Option Addr) (dc k : Nat) (ov : Value) (w : World) (h : k ≠ n) (hn : n ≤ 4096) (hk : k ≤ 4096) :
    Calls Tryz.prog 51 #[.slice a n cap, .slice d k dc, ov] w fun e w' => e = .returned (.tuple #[.map none, .bool false]) ∧ w' = w := by
  have e1 : ((k : Int) == (n : Int)) = false := beq_eq_false_iff_ne.2 (by omega)
  have e2 : ((k : Int) != (n : Int)) = true := by rw [bne, e1]; rfl
  clear h
  go_enter Tryz.func51, Tryz.ntmps51
  go_wp2_with fail
  go_ret2
  exact ⟨by rfl, rfl⟩

end Go.Proofs.YtnacoplokjdglaaGreat
