/- Texts of one proof, one behind the other: DpHasR, DpHasR2, DpRefE. -/
import Derived.Test.YtnacoplokjdglaaGreatKp1
import Derived.Test.YtnacoplokjdglaaGreatKp2
import Derived.Test.YtnacoplokjdglaaGreatKp3
import Derived.Test.YtnacoplokjdglaaGreatKp4
import Derived.Test.YtnacoplokjdglaaGreatKp5
import Derived.Test.YtnacoplokjdglaaGreatKp6
import Derived.Test.YtnacoplokjdglaaGreatKp8
import Derived.Test.YtnacoplokjdglaaGreatKp9
import Derived.Test.YtnacoplokjdglaaGreatKp10
import Derived.Test.YtnacoplokjdglaaGreatKp11
import Derived.Test.YtnacoplokjdglaaGreatKp12
import Derived.Test.YtnacoplokjdglaaGreatKp13
import Derived.Test.YtnacoplokjdglaaGreatKp14
import Derived.Test.YtnacoplokjdglaaGreatKp15
set_option linter.all false
namespace Go.Proofs.YtnacoplokjdglaaGreat
open Go.RowKit Go.Maps
attribute [local go_sem] Oper.semAt_some

def aheadB (G : FaL) (key a b : Int) : Bool := if a < b then getI G ⟨2, key, a, b⟩ == 1 else getI G ⟨2, key, b, a⟩ == 0
set_option maxRecDepth 100000 in
set_option maxHeartbeats 1000000 in
theorem aheadR_call (g : Value) (G : FaL) (key a b : Int) (w : World) (hg : RdSaid w g G) :
    Calls Tryz.prog 82 #[g, vi key, vi a, vi b] w fun e w' => e = .returned (.bool (aheadB G key a b)) ∧ Below w.heap.size w w' := by
  have HG := Lib.hid hg
  clear hg
  go_enter Tryz.func82, Tryz.ntmps82
  by_cases h : a < b
  · have d : decide (a < b) = true := decide_eq_true h
    have HE := Lib.hid (show aheadB G key a b = (getI G ⟨2, key, a, b⟩ == 1) from by unfold aheadB; rw [if_pos h])
    clear h
    go_wp2_with (go_at_call 80; refine (get_call _ G ⟨2, key, a, b⟩ _ HG.out).mono ?_; rintro e w1 ⟨rfl, hb1⟩)
    go_ret
    exact ⟨by rw [HE.out]; rfl, hb1⟩
  · have d : decide (a < b) = false := decide_eq_false h
    have HE := Lib.hid (show aheadB G key a b = (getI G ⟨2, key, b, a⟩ == 0) from by unfold aheadB; rw [if_neg h])
    clear h
    go_wp2_with (go_at_call 80; refine (get_call _ G ⟨2, key, b, a⟩ _ HG.out).mono ?_; rintro e w1 ⟨rfl, hb1⟩)
    go_ret
    exact ⟨by rw [HE.out]; rfl, hb1⟩

def wrB (t : GTxn) (key : Int) : Bool := t.ops.any (wkB key)
set_option maxRecDepth 100000 in
set_option maxHeartbeats 2000000 in
theorem wr10_call (t : GTxn) (v : Value) (key : Int) (w : World) (hv : RdOps w v t.ops) :
    Calls Tryz.prog 81 #[.agg #[vi t.client, vi t.state, v], vi key] w fun e w' => e = .returned (.bool (wrB t key)) ∧ Below w.heap.size w w' := by
  have HB0 := Lib.hid ((Below.refl w.heap.size w).alloc (Nat.le_refl _) (.cells #[vi t.client, vi t.state, v] 49))
  have HV := Lib.hid (hv.later HB0.out)
  have HX0 := Lib.hid (alloc_at w (.cells #[vi t.client, vi t.state, v] 49))
  obtain ⟨a, n, cp, rfl, rfl, hm, -⟩ := hv.at
  clear hv
  go_enter Tryz.func81, Tryz.ntmps81
  go_upto_region 1 with fail
  generalize w.alloc (.cells #[vi t.client, vi t.state, .slice a t.ops.length cp] 49) = w0 at *
  have x2 : w0.cell? ⟨w.heap.size, 2, none⟩ = some (.slice a t.ops.length cp) := by rw [cell_of HX0.out]; rfl
  go_wp2_with fail
  clear x2
  go_loopw [10] (fun i wr => ∃ k : Nat, k ≤ t.ops.length ∧ i = .int .i64 k ∧ Hid (Below w0.heap.size w0 wr ∧ (t.ops.take k).any (wkB key) = false)) (fun i _ => t.ops.length - (intOf i).toNat)
  case atStart => exact ⟨0, Nat.zero_le _, rfl, Lib.hid ⟨Below.refl _ _, rfl⟩⟩
  case round =>
    obtain ⟨wj, rfl⟩ : ∃ wj : World, wj = wr := ⟨_, rfl⟩
    obtain ⟨k, hk, rfl, HJ⟩ := hrel
    have HBJ := Lib.hid (HB0.out.trans (HJ.out.1.mono HB0.out.size))
    by_cases hlt : k < t.ops.length
    · have k1 : decide ((k : Int) < t.ops.length) = true := decide_eq_true (by omega)
      have k2 : (k : Int) < t.ops.length := by omega
      have hwk : IntKind.i64.wrap ((k : Int) + 1) = (k : Int) + 1 := IntWalk.i64_in _ (by omega)
      obtain ⟨o, ho⟩ := some_at hlt
      obtain ⟨_, _, _, e5, -, -, hcl⟩ := (HV.out.later HJ.out.1).at
      cases e5
      obtain ⟨b, off, rfl, y0, y1, y2⟩ := hcl k o ho
      have HNX := Lib.hid (show (t.ops.take (k + 1)).any (wkB key) = ((t.ops.take k).any (wkB key) || wkB key o) from by rw [take_at ho, List.any_append]; simp)
      have HM := Lib.hid (List.mem_of_getElem? ho)
      have HX := Lib.hid (alloc_at wj (.cells #[vi o.kind, vi o.key, vi o.val] 51))
      have HBA := Lib.hid (HJ.out.1.alloc HJ.out.1.size (.cells #[vi o.kind, vi o.key, vi o.val] 51))
      have HBB := Lib.hid (HBJ.out.alloc HBJ.out.size (.cells #[vi o.kind, vi o.key, vi o.val] 51))
      clear hcl ho
      go_upto_region 4 with fail
      clear y0 y1 y2
      generalize wj.alloc (.cells #[vi o.kind, vi o.key, vi o.val] 51) = wa at *
      obtain ⟨ob, hob⟩ : ∃ ob, ob = wj.heap.size := ⟨_, rfl⟩
      rw [← hob] at HX ⊢
      clear hob
      have z0 : wa.cell? ⟨ob, 0, none⟩ = some (vi o.kind) := by rw [cell_of HX.out]; rfl
      have z1 : wa.cell? ⟨ob, 1, none⟩ = some (vi o.key) := by rw [cell_of HX.out]; rfl
      cases h1 : (o.kind == 2) with
      | false =>
        have HF := Lib.hid (show wkB key o = false from by unfold wkB; rw [h1]; rfl)
        go_wp2_with fail
        exact ⟨⟨k + 1, by omega, by go_num, Lib.hid ⟨HBA.out, by rw [HNX.out, HF.out, HJ.out.2]; rfl⟩⟩, by simp only [intOf]; omega⟩
      | true =>
        cases h2 : (o.key == key) with
        | false =>
          have HF := Lib.hid (show wkB key o = false from by unfold wkB; rw [h1, h2]; rfl)
          go_wp2_with fail
          exact ⟨⟨k + 1, by omega, by go_num, Lib.hid ⟨HBA.out, by rw [HNX.out, HF.out, HJ.out.2]; rfl⟩⟩, by simp only [intOf]; omega⟩
        | true =>
          have HF := Lib.hid (show wrB t key = true from List.any_eq_true.2 ⟨o, HM.out, by unfold wkB; rw [h1, h2]; rfl⟩)
          go_wp2_with fail
          go_ret
          exact ⟨by rw [HF.out]; rfl, HBB.out⟩
    · have k1 : decide ((k : Int) < t.ops.length) = false := decide_eq_false (by omega)
      have HF := Lib.hid (show wrB t key = false from by
        have h := HJ.out.2
        rw [List.take_of_length_le (by omega)] at h
        exact h)
      go_wp2_with fail
      go_ret
      exact ⟨by rw [HF.out]; rfl, HBJ.out⟩

set_option maxRecDepth 100000 in
set_option maxHeartbeats 4000000 in
/-- Not two, or not both done. -/
theorem hasR_no (v g : Value) (ts : List GTxn) (G : FaL) (a b : Nat) (k : Int) (w : World) (hv : RdTxns w v ts) (hok : OkTxns ts) (hg : RdSaid w g G) (ha : a < ts.length) (hb : b < ts.length) (hno : a = b ∨ isI ts G a ≠ 1 ∨ isI ts G b ≠ 1) :
    Calls Tryz.prog 56 #[v, g, vi a, vi b, vi k] w fun e w' => e = .returned (.bool false) ∧ Below w.heap.size w w' := by
  have HV := Lib.hid hv
  have HG := Lib.hid hg
  have HOK := Lib.hid hok
  clear hv hg hok
  go_enter Tryz.func56, Tryz.ntmps56
  by_cases hab : a = b
  · have d : ((a : Int) == (b : Int)) = true := by simp [hab]
    clear hab hno
    go_wp2_with fail
    go_ret
    exact ⟨rfl, Below.refl _ _⟩
  · have d : ((a : Int) == (b : Int)) = false := by simp; omega
    by_cases hda : isI ts G a = 1
    · have hdb : isI ts G b ≠ 1 := by rcases hno with h | h | h; exact absurd h hab; exact absurd hda h; exact h
      have HDA := Lib.hid hda
      obtain ⟨z, hz⟩ : ∃ z, z = isI ts G b := ⟨_, rfl⟩
      have HZ := Lib.hid hz
      have d2 : (z != 1) = true := by rw [hz]; simpa using hdb
      clear hab hno hda hdb hz
      go_wp2_with (first
        | (go_at_call 55; ((with_reducible refine (refIs_call v g ts G b w1 (HV.out.later HB1.out) HOK.out (HG.out.later HB1.out) hb).mono ?_); rw [← HZ.out]; rintro e2 w2 ⟨rfl, hb2⟩; have HB2 := Lib.hid (HB1.out.trans (hb2.mono HB1.out.size)); clear hb2))
        | (go_at_call 55; ((with_reducible refine (refIs_call v g ts G a w HV.out HOK.out HG.out ha).mono ?_); rw [HDA.out]; rintro e1 w1 ⟨rfl, hb1⟩; have HB1 := Lib.hid hb1; clear hb1)))
      go_ret
      exact ⟨rfl, HB2.out⟩
    · obtain ⟨z, hz⟩ : ∃ z, z = isI ts G a := ⟨_, rfl⟩
      have HZ := Lib.hid hz
      have d2 : (z != 1) = true := by rw [hz]; simpa using hda
      clear hab hno hda hz
      go_wp2_with (go_at_call 55; ((with_reducible refine (refIs_call v g ts G a w HV.out HOK.out HG.out ha).mono ?_); rw [← HZ.out]; rintro e1 w1 ⟨rfl, hb1⟩; have HB1 := Lib.hid hb1; clear hb1))
      go_ret
      exact ⟨rfl, HB1.out⟩

def ww1 (G : FaL) (ta tb : GTxn) (a b key : Nat) : Bool := wrB ta key && (wrB tb key && aheadB G key a b)
def hasR1 (G : FaL) (ta tb : GTxn) (a b : Nat) : Bool := (List.range 16).any (ww1 G ta tb a b)
set_option maxRecDepth 100000 in
set_option maxHeartbeats 8000000 in
theorem hasR1_call (v g : Value) (ts : List GTxn) (G : FaL) (a b : Nat) (ta tb : GTxn) (w : World) (hv : RdTxns w v ts) (hok : OkTxns ts) (hg : RdSaid w g G) (hta : ts[a]? = some ta) (htb : ts[b]? = some tb) (hab : a ≠ b) (hda : isI ts G a = 1) (hdb : isI ts G b = 1) :
    Calls Tryz.prog 56 #[v, g, vi a, vi b, vi 1] w fun e w' => e = .returned (.bool (hasR1 G ta tb a b)) ∧ Below w.heap.size w w' := by
  have ha := (List.getElem?_eq_some_iff.1 hta).1
  have hb := (List.getElem?_eq_some_iff.1 htb).1
  obtain ⟨av, nv, cv, rfl, rfl, hm, -⟩ := hv.at
  have HV := Lib.hid hv
  have HG := Lib.hid hg
  have HOK := Lib.hid hok
  have HTA := Lib.hid hta
  have HTB := Lib.hid htb
  have d : ((a : Int) == (b : Int)) = false := by simp; omega
  have HDA := Lib.hid hda
  have HDB := Lib.hid hdb
  have a1 : (a : Int) < ts.length := by omega
  have a0 : (0 : Int) ≤ (a : Int) := by omega
  have b1 : (b : Int) < ts.length := by omega
  have b0 : (0 : Int) ≤ (b : Int) := by omega
  clear hv hg hok hta htb hda hdb hab
  go_enter Tryz.func56, Tryz.ntmps56
  go_wp2_with (first
    | (go_at_call 55; ((with_reducible refine (refIs_call _ g ts G b w1 (HV.out.later HB1.out) HOK.out (HG.out.later HB1.out) hb).mono ?_); rw [HDB.out]; rintro e2 w2 ⟨rfl, hb2⟩; have HB2 := Lib.hid (HB1.out.trans (hb2.mono HB1.out.size)); clear hb2))
    | (go_at_call 55; ((with_reducible refine (refIs_call _ g ts G a w HV.out HOK.out HG.out ha).mono ?_); rw [HDA.out]; rintro e1 w1 ⟨rfl, hb1⟩; have HB1 := Lib.hid hb1; clear hb1)))
  go_loopw [11] (fun i wr => ∃ k : Nat, k ≤ 16 ∧ i = vi k ∧ Hid (Below w.heap.size w wr ∧ (List.range k).any (ww1 G ta tb a b) = false)) (fun i _ => 16 - (intOf i).toNat)
  case atStart => exact ⟨0, by omega, rfl, Lib.hid ⟨HB2.out, rfl⟩⟩
  case round =>
    obtain ⟨wj, rfl⟩ : ∃ wj : World, wj = wr := ⟨_, rfl⟩
    obtain ⟨k, hk, rfl, HJ⟩ := hrel
    have HBJ := Lib.hid HJ.out.1
    by_cases hlt : k < 16
    · have k1 : decide ((k : Int) < 16) = true := decide_eq_true (by omega)
      have k2 : (k : Int) < 16 := by omega
      have hwk : IntKind.i64.wrap ((k : Int) + 1) = (k : Int) + 1 := IntWalk.i64_in _ (by omega)
      obtain ⟨_, _, _, e5, -, -, hcl⟩ := (HV.out.later HBJ.out).at
      cases e5
      obtain ⟨gb, off, oa, oc, rfl, hra, c0, c1, c2⟩ := hcl a ta HTA.out
      obtain ⟨gb', off', oa', oc', e8, hrb, y0', y1', y2'⟩ := hcl b tb HTB.out
      cases e8
      have HRA := Lib.hid hra
      have HRB := Lib.hid hrb
      have HNX := Lib.hid (show (List.range (k + 1)).any (ww1 G ta tb a b) = ((List.range k).any (ww1 G ta tb a b) || ww1 G ta tb a b k) from by rw [List.range_succ, List.any_append]; simp)
      have HYES := Lib.hid (show ww1 G ta tb a b k = true → hasR1 G ta tb a b = true from fun h => List.any_eq_true.2 ⟨k, List.mem_range.2 hlt, h⟩)
      clear hcl hra hrb
      cases h1 : wrB ta k with
      | false =>
        have HF := Lib.hid (show ww1 G ta tb a b k = false from by unfold ww1; rw [h1]; rfl)
        have H1 := Lib.hid h1
        clear h1
        go_wp2_with (go_at_call 81; ((with_reducible refine (wr10_call ta _ k wj HRA.out).mono ?_); rw [H1.out]; rintro e3 w3 ⟨rfl, hb3⟩; have HB3 := Lib.hid (HBJ.out.trans (hb3.mono HBJ.out.size)); clear hb3))
        exact ⟨⟨k + 1, by omega, by go_num, Lib.hid ⟨HB3.out, by rw [HNX.out, HF.out, HJ.out.2]; rfl⟩⟩, by simp only [intOf]; omega⟩
      | true =>
        have H1 := Lib.hid h1
        cases h2 : wrB tb k with
        | false =>
          have HF := Lib.hid (show ww1 G ta tb a b k = false from by unfold ww1; rw [h1, h2]; rfl)
          have H2 := Lib.hid h2
          clear h1 h2
          go_wp2_with (first
            | (go_at_call 81; ((with_reducible refine (wr10_call tb _ k w3 (HRB.out.later HB3a.out)).mono ?_); rw [H2.out]; rintro e4 w4 ⟨rfl, hb4⟩; have HB4 := Lib.hid (HB3.out.trans (hb4.mono HB3.out.size)); clear hb4))
            | (go_at_call 81; ((with_reducible refine (wr10_call ta _ k wj HRA.out).mono ?_); rw [H1.out]; rintro e3 w3 ⟨rfl, hb3⟩; have HB3a := Lib.hid hb3; have HB3 := Lib.hid (HBJ.out.trans (hb3.mono HBJ.out.size)); have y0 := cell_later hb3 y0'; have y1 := cell_later hb3 y1'; have y2 := cell_later hb3 y2'; clear hb3)))
          exact ⟨⟨k + 1, by omega, by go_num, Lib.hid ⟨HB4.out, by rw [HNX.out, HF.out, HJ.out.2]; rfl⟩⟩, by simp only [intOf]; omega⟩
        | true =>
          have H2 := Lib.hid h2
          obtain ⟨z, hz⟩ : ∃ z, z = aheadB G k a b := ⟨_, rfl⟩
          have HZ := Lib.hid hz
          have HW := Lib.hid (show ww1 G ta tb a b k = z from by unfold ww1; rw [h1, h2, hz]; rfl)
          clear h1 h2 hz
          cases z with
          | false =>
            go_wp2_with (first
              | (go_at_call 82; ((with_reducible refine (aheadR_call g G k a b w4 (HG.out.later HB4.out)).mono ?_); rw [← HZ.out]; rintro e5 w5 ⟨rfl, hb5⟩; have HB5 := Lib.hid (HB4.out.trans (hb5.mono HB4.out.size)); clear hb5))
              | (go_at_call 81; ((with_reducible refine (wr10_call tb _ k w3 (HRB.out.later HB3a.out)).mono ?_); rw [H2.out]; rintro e4 w4 ⟨rfl, hb4⟩; have HB4 := Lib.hid (HB3.out.trans (hb4.mono HB3.out.size)); clear hb4))
              | (go_at_call 81; ((with_reducible refine (wr10_call ta _ k wj HRA.out).mono ?_); rw [H1.out]; rintro e3 w3 ⟨rfl, hb3⟩; have HB3a := Lib.hid hb3; have HB3 := Lib.hid (HBJ.out.trans (hb3.mono HBJ.out.size)); have y0 := cell_later hb3 y0'; have y1 := cell_later hb3 y1'; have y2 := cell_later hb3 y2'; clear hb3)))
            exact ⟨⟨k + 1, by omega, by go_num, Lib.hid ⟨HB5.out, by rw [HNX.out, HW.out, HJ.out.2]; rfl⟩⟩, by simp only [intOf]; omega⟩
          | true =>
            go_wp2_with (first
              | (go_at_call 82; ((with_reducible refine (aheadR_call g G k a b w4 (HG.out.later HB4.out)).mono ?_); rw [← HZ.out]; rintro e5 w5 ⟨rfl, hb5⟩; have HB5 := Lib.hid (HB4.out.trans (hb5.mono HB4.out.size)); clear hb5))
              | (go_at_call 81; ((with_reducible refine (wr10_call tb _ k w3 (HRB.out.later HB3a.out)).mono ?_); rw [H2.out]; rintro e4 w4 ⟨rfl, hb4⟩; have HB4 := Lib.hid (HB3.out.trans (hb4.mono HB3.out.size)); clear hb4))
              | (go_at_call 81; ((with_reducible refine (wr10_call ta _ k wj HRA.out).mono ?_); rw [H1.out]; rintro e3 w3 ⟨rfl, hb3⟩; have HB3a := Lib.hid hb3; have HB3 := Lib.hid (HBJ.out.trans (hb3.mono HBJ.out.size)); have y0 := cell_later hb3 y0'; have y1 := cell_later hb3 y1'; have y2 := cell_later hb3 y2'; clear hb3)))
            go_ret
            exact ⟨by rw [HYES.out HW.out]; rfl, HB5.out⟩
    · have k1 : decide ((k : Int) < 16) = false := decide_eq_false (by omega)
      have HF := Lib.hid (show hasR1 G ta tb a b = false from by
        have h := HJ.out.2
        have hke : k = 16 := by omega
        rw [hke] at h
        exact h)
      go_wp2_with fail
      go_ret
      exact ⟨by rw [HF.out]; rfl, HBJ.out⟩
end Go.Proofs.YtnacoplokjdglaaGreat

namespace Go.Proofs.YtnacoplokjdglaaGreat
open Go.RowKit Go.Maps
attribute [local go_sem] Oper.semAt_some

def r2B (ts : List GTxn) (a : Nat) (o : GOp) : Bool := o.val != 0 && writerM ts o.key o.val == (a : Int)
def hasR2 (ts : List GTxn) (tb : GTxn) (a : Nat) : Bool := (readsM tb).any (r2B ts a)
set_option maxRecDepth 100000 in
set_option maxHeartbeats 8000000 in
theorem hasR2_call (v g : Value) (ts : List GTxn) (G : FaL) (a b : Nat) (ta tb : GTxn) (w : World) (hv : RdTxns w v ts) (hok : OkTxns ts) (hg : RdSaid w g G) (hta : ts[a]? = some ta) (htb : ts[b]? = some tb) (hab : a ≠ b) (hda : isI ts G a = 1) (hdb : isI ts G b = 1) :
    Calls Tryz.prog 56 #[v, g, vi a, vi b, vi 2] w fun e w' => e = .returned (.bool (hasR2 ts tb a)) ∧ Below w.heap.size w w' := by
  have ha := (List.getElem?_eq_some_iff.1 hta).1
  have hb := (List.getElem?_eq_some_iff.1 htb).1
  obtain ⟨av, nv, cv, rfl, rfl, hm, hcl⟩ := hv.at
  have hok2 := (hok.2 tb (List.mem_of_getElem? htb)).2
  obtain ⟨gb, off, oa, oc, rfl, hrb, y0', y1', y2'⟩ := hcl b tb htb
  have HRB := Lib.hid hrb
  have HV := Lib.hid hv
  have HG := Lib.hid hg
  have HOK := Lib.hid hok
  have d : ((a : Int) == (b : Int)) = false := by simp; omega
  have HDA := Lib.hid hda
  have HDB := Lib.hid hdb
  have b1 : (b : Int) < ts.length := by omega
  have b0 : (0 : Int) ≤ (b : Int) := by omega
  have HFB := Lib.hid (show hasR2 ts tb a = (readsM tb).any (r2B ts a) from rfl)
  clear hv hg hok hta htb hda hdb hab hrb hcl
  go_enter Tryz.func56, Tryz.ntmps56
  go_wp2_with (first
    | (go_at_call 55; ((with_reducible refine (refIs_call _ g ts G b w1 (HV.out.later HB1.out) HOK.out (HG.out.later HB1.out) hb).mono ?_); rw [HDB.out]; rintro e2 w2 ⟨rfl, hb2⟩; have HB2 := Lib.hid (HB1.out.trans (hb2.mono HB1.out.size)); have y0 := cell_later HB2.out y0'; have y1 := cell_later HB2.out y1'; have y2 := cell_later HB2.out y2'; clear hb2))
    | (go_at_call 55; ((with_reducible refine (refIs_call _ g ts G a w HV.out HOK.out HG.out ha).mono ?_); rw [HDA.out]; rintro e1 w1 ⟨rfl, hb1⟩; have HB1 := Lib.hid hb1; clear hb1))
    | (go_at_call 45; refine (refReads_call tb.client tb.state _ tb.ops w2 (HRB.out.later HB2.out) hok2).mono ?_; rintro e3 w3 ⟨v3, rfl, ho3, hb3⟩; obtain ⟨a3, l3, c3, rfl, e9, hm3, -⟩ := ho3.rd.at; subst e9; have HO3 := Lib.hid ho3.rd; have HB3 := Lib.hid (HB2.out.trans (hb3.mono HB2.out.size)); clear ho3 hb3))
  obtain ⟨rs, hrs⟩ : ∃ rs, rs = readsM tb := ⟨_, rfl⟩
  have HO4 := Lib.hid (show RdOps w3 (.slice a3 rs.length c3) rs from by rw [hrs]; exact HO3.out)
  have hrl : rs.length ≤ 9223372036854775807 := by rw [hrs]; exact hm3
  rw [show (readsM ⟨tb.client, tb.state, tb.ops⟩).length = rs.length from by rw [hrs]]
  rw [← hrs] at HFB
  clear hrs HO3 hm3 y0 y1 y2
  go_loopw [70] (fun i wr => ∃ k : Nat, k ≤ rs.length ∧ i = .int .i64 k ∧ Hid (Below w3.heap.size w3 wr ∧ (rs.take k).any (r2B ts a) = false)) (fun i _ => rs.length - (intOf i).toNat)
  case atStart => exact ⟨0, Nat.zero_le _, rfl, Lib.hid ⟨Below.refl _ _, rfl⟩⟩
  case round =>
    obtain ⟨wj, rfl⟩ : ∃ wj : World, wj = wr := ⟨_, rfl⟩
    obtain ⟨k, hk, rfl, HJ⟩ := hrel
    have HBJ := Lib.hid (HB3.out.trans (HJ.out.1.mono HB3.out.size))
    by_cases hlt : k < rs.length
    · have k1 : decide ((k : Int) < rs.length) = true := decide_eq_true (by omega)
      have k2 : (k : Int) < rs.length := by omega
      have hwk : IntKind.i64.wrap ((k : Int) + 1) = (k : Int) + 1 := IntWalk.i64_in _ (by omega)
      obtain ⟨o, ho⟩ := some_at hlt
      obtain ⟨_, _, _, e5, -, -, hcl⟩ := (HO4.out.later HJ.out.1).at
      cases e5
      obtain ⟨b', off', rfl, z0, z1, z2⟩ := hcl k o ho
      have HNX := Lib.hid (show (rs.take (k + 1)).any (r2B ts a) = ((rs.take k).any (r2B ts a) || r2B ts a o) from by rw [take_at ho, List.any_append]; simp)
      have HM := Lib.hid (List.mem_of_getElem? ho)
      have HX := Lib.hid (alloc_at wj (.cells #[vi o.kind, vi o.key, vi o.val] 51))
      have HBA := Lib.hid (HJ.out.1.alloc HJ.out.1.size (.cells #[vi o.kind, vi o.key, vi o.val] 51))
      have HBB := Lib.hid (HBJ.out.alloc HBJ.out.size (.cells #[vi o.kind, vi o.key, vi o.val] 51))
      clear hcl ho
      go_upto_region 14 with fail
      clear z0 z1 z2
      generalize wj.alloc (.cells #[vi o.kind, vi o.key, vi o.val] 51) = wa at *
      obtain ⟨ob, hob⟩ : ∃ ob, ob = wj.heap.size := ⟨_, rfl⟩
      rw [← hob] at HX ⊢
      clear hob
      have x1 : wa.cell? ⟨ob, 1, none⟩ = some (vi o.key) := by rw [cell_of HX.out]; rfl
      have x2 : wa.cell? ⟨ob, 2, none⟩ = some (vi o.val) := by rw [cell_of HX.out]; rfl
      cases h1 : (o.val != 0) with
      | false =>
        have HF := Lib.hid (show r2B ts a o = false from by unfold r2B; rw [h1]; rfl)
        go_wp2_with fail
        exact ⟨⟨k + 1, by omega, by go_num, Lib.hid ⟨HBA.out, by rw [HNX.out, HF.out, HJ.out.2]; rfl⟩⟩, by simp only [intOf]; omega⟩
      | true =>
        obtain ⟨z, hz⟩ : ∃ z, z = writerM ts o.key o.val := ⟨_, rfl⟩
        have HZ := Lib.hid hz
        cases h2 : (z == (a : Int)) with
        | false =>
          have HF := Lib.hid (show r2B ts a o = false from by unfold r2B; rw [h1, ← hz, h2]; rfl)
          clear hz
          go_wp2_with (go_at_call 46; refine (writer_call _ ts o.key o.val wa (HV.out.later HBB.out)).mono ?_; rw [← HZ.out]; rintro e5 w5 ⟨rfl, hb5⟩; have HB5 := Lib.hid (HBA.out.trans (hb5.mono HBA.out.size)); clear hb5)
          exact ⟨⟨k + 1, by omega, by go_num, Lib.hid ⟨HB5.out, by rw [HNX.out, HF.out, HJ.out.2]; rfl⟩⟩, by simp only [intOf]; omega⟩
        | true =>
          have HF := Lib.hid (show rs.any (r2B ts a) = true from List.any_eq_true.2 ⟨o, HM.out, by unfold r2B; rw [h1, ← hz, h2]; rfl⟩)
          clear hz
          go_wp2_with (go_at_call 46; refine (writer_call _ ts o.key o.val wa (HV.out.later HBB.out)).mono ?_; rw [← HZ.out]; rintro e5 w5 ⟨rfl, hb5⟩; have HB5 := Lib.hid (HBB.out.trans (hb5.mono HBB.out.size)); clear hb5)
          go_ret
          exact ⟨by rw [HFB.out, HF.out]; rfl, HB5.out⟩
    · have k1 : decide ((k : Int) < rs.length) = false := decide_eq_false (by omega)
      have HF := Lib.hid (show rs.any (r2B ts a) = false from by
        have h := HJ.out.2
        rw [List.take_of_length_le (by omega)] at h
        exact h)
      go_wp2_with fail
      go_ret
      exact ⟨by rw [HFB.out, HF.out]; rfl, HBJ.out⟩

def r3W (ts : List GTxn) (G : FaL) (b : Nat) (key z : Int) : Bool := decide (0 ≤ z) && (z != (b : Int) && (isI ts G z.toNat == 1 && aheadB G key z b))
def r3B (ts : List GTxn) (G : FaL) (tb : GTxn) (b : Nat) (o : GOp) : Bool := wrB tb o.key && (o.val == 0 || r3W ts G b o.key (writerM ts o.key o.val))
def hasR3 (ts : List GTxn) (G : FaL) (ta tb : GTxn) (b : Nat) : Bool := (readsM ta).any (r3B ts G tb b)
set_option maxRecDepth 100000 in
set_option maxHeartbeats 8000000 in
theorem hasR3_call (v g : Value) (ts : List GTxn) (G : FaL) (a b : Nat) (ta tb : GTxn) (w : World) (hv : RdTxns w v ts) (hok : OkTxns ts) (hg : RdSaid w g G) (hta : ts[a]? = some ta) (htb : ts[b]? = some tb) (hab : a ≠ b) (hda : isI ts G a = 1) (hdb : isI ts G b = 1) :
    Calls Tryz.prog 56 #[v, g, vi a, vi b, vi 3] w fun e w' => e = .returned (.bool (hasR3 ts G ta tb b)) ∧ Below w.heap.size w w' := by
  have ha := (List.getElem?_eq_some_iff.1 hta).1
  have hb := (List.getElem?_eq_some_iff.1 htb).1
  obtain ⟨av, nv, cv, rfl, rfl, hm, hcl⟩ := hv.at
  have hok2 := (hok.2 ta (List.mem_of_getElem? hta)).2
  obtain ⟨gb, off, oa, oc, rfl, hra, y0', y1', y2'⟩ := hcl a ta hta
  obtain ⟨gb', off'', oa', oc', e8, hrb, u0', u1', u2'⟩ := hcl b tb htb
  cases e8
  have HRA := Lib.hid hra
  have HRB := Lib.hid hrb
  have HV := Lib.hid hv
  have HG := Lib.hid hg
  have HOK := Lib.hid hok
  have d : ((a : Int) == (b : Int)) = false := by simp; omega
  have HDA := Lib.hid hda
  have HDB := Lib.hid hdb
  have a1 : (a : Int) < ts.length := by omega
  have a0 : (0 : Int) ≤ (a : Int) := by omega
  have b1 : (b : Int) < ts.length := by omega
  have b0 : (0 : Int) ≤ (b : Int) := by omega
  have HFB := Lib.hid (show hasR3 ts G ta tb b = (readsM ta).any (r3B ts G tb b) from rfl)
  clear hv hg hok hta htb hda hdb hab hra hrb hcl
  go_enter Tryz.func56, Tryz.ntmps56
  go_wp2_with (first
    | (go_at_call 55; ((with_reducible refine (refIs_call _ g ts G b w1 (HV.out.later HB1.out) HOK.out (HG.out.later HB1.out) hb).mono ?_); rw [HDB.out]; rintro e2 w2 ⟨rfl, hb2⟩; have HB2 := Lib.hid (HB1.out.trans (hb2.mono HB1.out.size)); have y0 := cell_later HB2.out y0'; have y1 := cell_later HB2.out y1'; have y2 := cell_later HB2.out y2'; clear hb2))
    | (go_at_call 55; ((with_reducible refine (refIs_call _ g ts G a w HV.out HOK.out HG.out ha).mono ?_); rw [HDA.out]; rintro e1 w1 ⟨rfl, hb1⟩; have HB1 := Lib.hid hb1; clear hb1))
    | (go_at_call 45; refine (refReads_call ta.client ta.state _ ta.ops w2 (HRA.out.later HB2.out) hok2).mono ?_; rintro e3 w3 ⟨v3, rfl, ho3, hb3⟩; obtain ⟨a3, l3, c3, rfl, e9, hm3, -⟩ := ho3.rd.at; subst e9; have HO3 := Lib.hid ho3.rd; have HB3 := Lib.hid (HB2.out.trans (hb3.mono HB2.out.size)); clear ho3 hb3))
  obtain ⟨rs, hrs⟩ : ∃ rs, rs = readsM ta := ⟨_, rfl⟩
  have HO4 := Lib.hid (show RdOps w3 (.slice a3 rs.length c3) rs from by rw [hrs]; exact HO3.out)
  have hrl : rs.length ≤ 9223372036854775807 := by rw [hrs]; exact hm3
  rw [show (readsM ⟨ta.client, ta.state, ta.ops⟩).length = rs.length from by rw [hrs]]
  rw [← hrs] at HFB
  clear hrs HO3 hm3 y0 y1 y2 y0' y1' y2'
  go_loopw [96] (fun i wr => ∃ k : Nat, k ≤ rs.length ∧ i = .int .i64 k ∧ Hid (Below w3.heap.size w3 wr ∧ (rs.take k).any (r3B ts G tb b) = false)) (fun i _ => rs.length - (intOf i).toNat)
  case atStart => exact ⟨0, Nat.zero_le _, rfl, Lib.hid ⟨Below.refl _ _, rfl⟩⟩
  case round =>
    obtain ⟨wj, rfl⟩ : ∃ wj : World, wj = wr := ⟨_, rfl⟩
    obtain ⟨k, hk, rfl, HJ⟩ := hrel
    have HBJ := Lib.hid (HB3.out.trans (HJ.out.1.mono HB3.out.size))
    by_cases hlt : k < rs.length
    · have k1 : decide ((k : Int) < rs.length) = true := decide_eq_true (by omega)
      have k2 : (k : Int) < rs.length := by omega
      have hwk : IntKind.i64.wrap ((k : Int) + 1) = (k : Int) + 1 := IntWalk.i64_in _ (by omega)
      obtain ⟨o, ho⟩ := some_at hlt
      obtain ⟨_, _, _, e5, -, -, hcl⟩ := (HO4.out.later HJ.out.1).at
      cases e5
      obtain ⟨b', off', rfl, z0, z1, z2⟩ := hcl k o ho
      have HNX := Lib.hid (show (rs.take (k + 1)).any (r3B ts G tb b) = ((rs.take k).any (r3B ts G tb b) || r3B ts G tb b o) from by rw [take_at ho, List.any_append]; simp)
      have HYES := Lib.hid (show r3B ts G tb b o = true → rs.any (r3B ts G tb b) = true from fun h => List.any_eq_true.2 ⟨o, List.mem_of_getElem? ho, h⟩)
      have HX := Lib.hid (alloc_at wj (.cells #[vi o.kind, vi o.key, vi o.val] 51))
      have HBA := Lib.hid (HJ.out.1.alloc HJ.out.1.size (.cells #[vi o.kind, vi o.key, vi o.val] 51))
      have HBB := Lib.hid (HBJ.out.alloc HBJ.out.size (.cells #[vi o.kind, vi o.key, vi o.val] 51))
      clear hcl ho
      go_upto_region 21 with fail
      clear z0 z1 z2
      generalize wj.alloc (.cells #[vi o.kind, vi o.key, vi o.val] 51) = wa at *
      obtain ⟨ob, hob⟩ : ∃ ob, ob = wj.heap.size := ⟨_, rfl⟩
      rw [← hob] at HX ⊢
      clear hob
      have x1 : wa.cell? ⟨ob, 1, none⟩ = some (vi o.key) := by rw [cell_of HX.out]; rfl
      have u0 := cell_later HBB.out u0'
      have u1 := cell_later HBB.out u1'
      have u2 := cell_later HBB.out u2'
      have HRD := Lib.hid (show RdOps wa.drew (.slice oa' tb.ops.length oc') tb.ops from (show RdOps wa (.slice oa' tb.ops.length oc') tb.ops from HRB.out.later HBB.out))
      cases h1 : wrB tb o.key with
      | false =>
        have HF := Lib.hid (show r3B ts G tb b o = false from by unfold r3B; rw [h1]; rfl)
        have H1 := Lib.hid h1
        clear h1
        go_still_tail 6, (by kernel_rfl)
        change wpList _ _ _ _ _ wa.drew
        go_wp2_with (go_at_call 81; refine (wr10_call tb _ o.key wa.drew HRD.out).mono ?_; rw [H1.out]; rintro e4 w4 ⟨rfl, hb4⟩; have HB4 := Lib.hid (HBA.out.trans ((((Below.refl wa.heap.size wa).drew).trans hb4).mono HBA.out.size)); clear hb4)
        exact ⟨⟨k + 1, by omega, by go_num, Lib.hid ⟨HB4.out, by rw [HNX.out, HF.out, HJ.out.2]; rfl⟩⟩, by simp only [intOf]; omega⟩
      | true =>
        have H1 := Lib.hid h1
        obtain ⟨z, hz⟩ : ∃ z, z = writerM ts o.key o.val := ⟨_, rfl⟩
        have HZ := Lib.hid hz
        have HZB := Lib.hid (show z = -1 ∨ ∃ n : Nat, z = n ∧ n < ts.length from by rw [hz]; exact writerM_lt)
        have HR3 := Lib.hid (show r3B ts G tb b o = (o.val == 0 || r3W ts G b o.key z) from by unfold r3B; rw [h1, ← hz]; rfl)
        clear h1 hz
        go_still_tail 6, (by kernel_rfl)
        change wpList _ _ _ _ _ wa.drew
        go_upto_region 23 with (first
          | (go_at_call 81; refine (wr10_call tb _ o.key wa.drew HRD.out).mono ?_; rw [H1.out]; rintro e4 w4 ⟨rfl, hb4⟩; have hb4' := ((Below.refl wa.heap.size wa).drew).trans hb4; have HB4 := Lib.hid (HBA.out.trans (hb4'.mono HBA.out.size)); have HBB4 := Lib.hid (HBB.out.trans (hb4'.mono HBB.out.size)); have HX4 := Lib.hid ((hb4'.block ob (Array.getElem?_eq_some_iff.1 HX.out).1).trans HX.out); have x1 : w4.cell? ⟨ob, 1, none⟩ = some (vi o.key) := (by rw [cell_of HX4.out]; rfl); have x2 : w4.cell? ⟨ob, 2, none⟩ = some (vi o.val) := (by rw [cell_of HX4.out]; rfl); clear hb4 hb4')
          | (go_at_call 46; refine (writer_call _ ts o.key o.val w4 (HV.out.later HBB4.out)).mono ?_; rw [← HZ.out]; rintro e5 w5 ⟨rfl, hb5⟩; have HB5 := Lib.hid (HB4.out.trans (hb5.mono HB4.out.size)); have HBB5 := Lib.hid (HBB4.out.trans (hb5.mono HBB4.out.size)); have HX5 := Lib.hid ((hb5.block ob (Array.getElem?_eq_some_iff.1 HX4.out).1).trans HX4.out); clear hb5))
        have x1 : w5.cell? ⟨ob, 1, none⟩ = some (vi o.key) := by rw [cell_of HX5.out]; rfl
        have x2 : w5.cell? ⟨ob, 2, none⟩ = some (vi o.val) := by rw [cell_of HX5.out]; rfl
        clear u0 u1 u2
        cases h2 : (o.val == 0) with
        | true =>
          have HF := Lib.hid (HYES.out (by rw [HR3.out, h2]; rfl))
          go_wp2_with fail
          go_ret
          exact ⟨by rw [HFB.out, HF.out]; rfl, HBB5.out⟩
        | false =>
          have HR4 := Lib.hid (show r3B ts G tb b o = r3W ts G b o.key z from by rw [HR3.out, h2]; rfl)
          rcases HZB.out with h3 | ⟨n, h3, hn⟩
          · subst h3
            have HF := Lib.hid (show r3B ts G tb b o = false from by rw [HR4.out]; rfl)
            go_wp2_with fail
            exact ⟨⟨k + 1, by omega, by go_num, Lib.hid ⟨HB5.out, by rw [HNX.out, HF.out, HJ.out.2]; rfl⟩⟩, by simp only [intOf]; omega⟩
          · subst h3
            have n0 : (0 : Int) ≤ (n : Int) := by omega
            have HR5 := Lib.hid (show r3B ts G tb b o = ((n : Int) != (b : Int) && (isI ts G n == 1 && aheadB G o.key n b)) from by rw [HR4.out]; unfold r3W; rw [decide_eq_true n0, Int.toNat_natCast]; rfl)
            cases h4 : ((n : Int) != (b : Int)) with
            | false =>
              have HF := Lib.hid (show r3B ts G tb b o = false from by rw [HR5.out, h4]; rfl)
              go_wp2_with fail
              exact ⟨⟨k + 1, by omega, by go_num, Lib.hid ⟨HB5.out, by rw [HNX.out, HF.out, HJ.out.2]; rfl⟩⟩, by simp only [intOf]; omega⟩
            | true =>
              obtain ⟨y, hy⟩ : ∃ y, y = isI ts G n := ⟨_, rfl⟩
              have HY := Lib.hid hy
              cases h5 : (y == 1) with
              | false =>
                have HF := Lib.hid (show r3B ts G tb b o = false from by rw [HR5.out, h4, ← hy, h5]; rfl)
                clear hy
                go_wp2_with (go_at_call 55; ((with_reducible refine (refIs_call _ g ts G n w5 (HV.out.later HBB5.out) HOK.out (HG.out.later HBB5.out) hn).mono ?_); rw [← HY.out]; rintro e6 w6 ⟨rfl, hb6⟩; have HB6 := Lib.hid (HB5.out.trans (hb6.mono HB5.out.size)); clear hb6))
                exact ⟨⟨k + 1, by omega, by go_num, Lib.hid ⟨HB6.out, by rw [HNX.out, HF.out, HJ.out.2]; rfl⟩⟩, by simp only [intOf]; omega⟩
              | true =>
                obtain ⟨q, hq⟩ : ∃ q, q = aheadB G o.key n b := ⟨_, rfl⟩
                have HQ := Lib.hid hq
                have HF := Lib.hid (show r3B ts G tb b o = q from by rw [HR5.out, h4, ← hy, h5, hq]; rfl)
                clear hy hq
                cases q with
                | false =>
                  go_wp2_with (first
                    | (go_at_call 82; ((with_reducible refine (aheadR_call g G o.key n b w6 (HG.out.later HBB6.out)).mono ?_); rw [← HQ.out]; rintro e7 w7 ⟨rfl, hb7⟩; have HB7 := Lib.hid (HB6.out.trans (hb7.mono HB6.out.size)); clear hb7))
                    | (go_at_call 55; ((with_reducible refine (refIs_call _ g ts G n w5 (HV.out.later HBB5.out) HOK.out (HG.out.later HBB5.out) hn).mono ?_); rw [← HY.out]; rintro e6 w6 ⟨rfl, hb6⟩; have HB6 := Lib.hid (HB5.out.trans (hb6.mono HB5.out.size)); have HBB6 := Lib.hid (HBB5.out.trans (hb6.mono HBB5.out.size)); have x1 : w6.cell? ⟨ob, 1, none⟩ = some (vi o.key) := (by rw [cell_of ((hb6.block ob (Array.getElem?_eq_some_iff.1 HX5.out).1).trans HX5.out)]; rfl); clear hb6)))
                  exact ⟨⟨k + 1, by omega, by go_num, Lib.hid ⟨HB7.out, by rw [HNX.out, HF.out, HJ.out.2]; rfl⟩⟩, by simp only [intOf]; omega⟩
                | true =>
                  go_wp2_with (first
                    | (go_at_call 82; ((with_reducible refine (aheadR_call g G o.key n b w6 (HG.out.later HBB6.out)).mono ?_); rw [← HQ.out]; rintro e7 w7 ⟨rfl, hb7⟩; have HBB7 := Lib.hid (HBB6.out.trans (hb7.mono HBB6.out.size)); clear hb7))
                    | (go_at_call 55; ((with_reducible refine (refIs_call _ g ts G n w5 (HV.out.later HBB5.out) HOK.out (HG.out.later HBB5.out) hn).mono ?_); rw [← HY.out]; rintro e6 w6 ⟨rfl, hb6⟩; have HB6 := Lib.hid (HB5.out.trans (hb6.mono HB5.out.size)); have HBB6 := Lib.hid (HBB5.out.trans (hb6.mono HBB5.out.size)); have x1 : w6.cell? ⟨ob, 1, none⟩ = some (vi o.key) := (by rw [cell_of ((hb6.block ob (Array.getElem?_eq_some_iff.1 HX5.out).1).trans HX5.out)]; rfl); clear hb6)))
                  go_ret
                  exact ⟨by rw [HFB.out, HYES.out HF.out]; rfl, HBB7.out⟩
    · have k1 : decide ((k : Int) < rs.length) = false := decide_eq_false (by omega)
      have HF := Lib.hid (show rs.any (r3B ts G tb b) = false from by
        have h := HJ.out.2
        rw [List.take_of_length_le (by omega)] at h
        exact h)
      go_wp2_with fail
      go_ret
      exact ⟨by rw [HFB.out, HF.out]; rfl, HBJ.out⟩
end Go.Proofs.YtnacoplokjdglaaGreat

namespace Go.Proofs.YtnacoplokjdglaaGreat
open Go.RowKit Go.Maps
attribute [local go_sem] Oper.semAt_some

def hasAll (ts : List GTxn) (G : FaL) (a b k : Nat) : Bool := match ts[a]?, ts[b]? with
  | some ta, some tb => if a = b ∨ isI ts G a ≠ 1 ∨ isI ts G b ≠ 1 then false else if k = 1 then hasR1 G ta tb a b else if k = 2 then hasR2 ts tb a else hasR3 ts G ta tb b
  | _, _ => false
theorem hasAll_call (v g : Value) (ts : List GTxn) (G : FaL) (a b k : Nat) (w : World) (hv : RdTxns w v ts) (hok : OkTxns ts) (hg : RdSaid w g G) (ha : a < ts.length) (hb : b < ts.length) (hk : 1 ≤ k ∧ k ≤ 3) :
    Calls Tryz.prog 56 #[v, g, vi a, vi b, vi k] w fun e w' => e = .returned (.bool (hasAll ts G a b k)) ∧ Below w.heap.size w w' := by
  obtain ⟨ta, hta⟩ := some_at ha
  obtain ⟨tb, htb⟩ := some_at hb
  have he : hasAll ts G a b k = if a = b ∨ isI ts G a ≠ 1 ∨ isI ts G b ≠ 1 then false else if k = 1 then hasR1 G ta tb a b else if k = 2 then hasR2 ts tb a else hasR3 ts G ta tb b := by unfold hasAll; rw [hta, htb]
  rw [he]
  by_cases hno : a = b ∨ isI ts G a ≠ 1 ∨ isI ts G b ≠ 1
  · rw [if_pos hno]
    exact hasR_no v g ts G a b k w hv hok hg ha hb hno
  · rw [if_neg hno]
    have h1 : a ≠ b := fun h => hno (.inl h)
    have h2 : isI ts G a = 1 := Classical.byContradiction fun h => hno (.inr (.inl h))
    have h3 : isI ts G b = 1 := Classical.byContradiction fun h => hno (.inr (.inr h))
    have h4 : k = 1 ∨ k = 2 ∨ k = 3 := by omega
    rcases h4 with rfl | rfl | rfl
    · exact hasR1_call v g ts G a b ta tb w hv hok hg hta htb h1 h2 h3
    · exact hasR2_call v g ts G a b ta tb w hv hok hg hta htb h1 h2 h3
    · exact hasR3_call v g ts G a b ta tb w hv hok hg hta htb h1 h2 h3
def kE (ts : List GTxn) (G : FaL) (a b m : Nat) : List GEdge := (List.range m).flatMap (fun j : Nat => if hasAll ts G a b (j + 1) then [⟨(a : Int), (b : Int), ((j + 1 : Nat) : Int)⟩] else [])
def bE (ts : List GTxn) (G : FaL) (a m : Nat) : List GEdge := (List.range m).flatMap (fun b : Nat => kE ts G a b 3)
def aE (ts : List GTxn) (G : FaL) (m : Nat) : List GEdge := (List.range m).flatMap (fun a : Nat => bE ts G a ts.length)
def refE (ts : List GTxn) (G : FaL) : List GEdge := aE ts G ts.length
theorem kE_next (ts : List GTxn) (G : FaL) (a b m : Nat) : kE ts G a b (m + 1) = kE ts G a b m ++ (if hasAll ts G a b (m + 1) then [⟨(a : Int), (b : Int), ((m + 1 : Nat) : Int)⟩] else []) := by
  unfold kE; rw [List.range_succ, List.flatMap_append]; simp
theorem bE_next (ts : List GTxn) (G : FaL) (a m : Nat) : bE ts G a (m + 1) = bE ts G a m ++ kE ts G a m 3 := by
  unfold bE; rw [List.range_succ, List.flatMap_append]; simp
theorem aE_next (ts : List GTxn) (G : FaL) (m : Nat) : aE ts G (m + 1) = aE ts G m ++ bE ts G m ts.length := by
  unfold aE; rw [List.range_succ, List.flatMap_append]; simp
theorem range_le {α : Type} (g : Nat → List α) (c : Nat) (h : ∀ i, (g i).length ≤ c) (n : Nat) : ((List.range n).flatMap g).length ≤ n * c := by
  have := flatMap_le c h (List.range n)
  simpa using this
theorem kE_len (ts : List GTxn) (G : FaL) (a b m : Nat) : (kE ts G a b m).length ≤ m := by
  have := range_le (fun j : Nat => if hasAll ts G a b (j + 1) then [(⟨(a : Int), (b : Int), ((j + 1 : Nat) : Int)⟩ : GEdge)] else []) 1 (fun j => by split <;> simp) m
  unfold kE; omega
theorem bE_len (ts : List GTxn) (G : FaL) (a m : Nat) : (bE ts G a m).length ≤ m * 3 := range_le _ 3 (fun b => kE_len ts G a b 3) m
theorem aE_len (ts : List GTxn) (G : FaL) (m : Nat) : (aE ts G m).length ≤ m * (ts.length * 3) := range_le _ _ (fun a => bE_len ts G a ts.length) m

set_option maxRecDepth 100000 in
set_option maxHeartbeats 8000000 in
theorem refEdges_call (v g : Value) (ts : List GTxn) (G : FaL) (w : World) (hv : RdTxns w v ts) (hok : OkTxns ts) (hg : RdSaid w g G) (htl : ts.length ≤ 4096) :
    Calls Tryz.prog 29 #[v, g] w fun e w' => ∃ v', e = .returned v' ∧ OwE w.heap.size w' v' (refE ts G) ∧ Below w.heap.size w w' := by
  have HV := Lib.hid hv
  have HG := Lib.hid hg
  have HOK := Lib.hid hok
  obtain ⟨ta, nt, tc, rfl, rfl, hm, -⟩ := hv.at
  have HN0 := Lib.hid (World.ownsRow_lit (base := w.heap.size) (e := 113) (size := 3) w #[] 0 (Nat.le_refl _) (by simp [maxLen]) rfl)
  have HB0 := Lib.hid ((Below.refl w.heap.size w).alloc (Nat.le_refl _) (.cells #[] 113))
  have HAL := Lib.hid (fun m (h : m ≤ 4096) => show (aE ts G m).length ≤ 67108864 from by
    have h1 := aE_len ts G m
    have h2 := Nat.mul_le_mul h (show ts.length * 3 ≤ 12288 by omega)
    omega)
  have HBL := Lib.hid (fun a m (h : m ≤ 4096) => show (bE ts G a m).length ≤ 12288 from by have := bE_len ts G a m; omega)
  have HKL := Lib.hid (fun a b m => kE_len ts G a b m)
  clear hv hg hok
  go_enter Tryz.func29, Tryz.ntmps29
  go_wp2_with fail
  generalize w.alloc (.cells #[] 113) = w0 at *
  go_loopw [5, 12] (fun x i wr => ∃ a : Nat, a ≤ ts.length ∧ i = .int .i64 a ∧ Hid (OwE w.heap.size wr x (aE ts G a) ∧ Below w.heap.size w wr)) (fun _ i _ => ts.length - (intOf i).toNat)
  case atStart => exact ⟨0, Nat.zero_le _, rfl, Lib.hid ⟨by have h := HN0.out; unfold OwE aE; simpa using h, HB0.out⟩⟩
  case round =>
    obtain ⟨wj, rfl⟩ : ∃ wj : World, wj = wr := ⟨_, rfl⟩
    obtain ⟨a, ha, rfl, HJ⟩ := hrel
    obtain ⟨A0, hA0⟩ : ∃ A0, A0 = aE ts G a := ⟨_, rfl⟩
    have HA0 := Lib.hid hA0
    have HA0L := Lib.hid (show A0.length ≤ 67108864 from by rw [hA0]; exact HAL.out a (by omega))
    rw [← hA0] at HJ
    obtain ⟨ax, cx, rfl⟩ := Gr.own_shape (show World.ownsRow _ _ _ _ _ A0.length _ from HJ.out.1)
    clear hA0
    by_cases hlt : a < ts.length
    · have k1 : decide ((a : Int) < ts.length) = true := decide_eq_true (by omega)
      have k2 : (a : Int) < ts.length := by omega
      have hwk : IntKind.i64.wrap ((a : Int) + 1) = (a : Int) + 1 := IntWalk.i64_in _ (by omega)
      have HNA := Lib.hid (aE_next ts G a)
      go_wp2_with fail
      go_loopw [5, 17] (fun x i wr => ∃ b : Nat, b ≤ ts.length ∧ i = .int .i64 b ∧ Hid (OwE w.heap.size wr x (A0 ++ bE ts G a b) ∧ Below w.heap.size w wr)) (fun _ i _ => ts.length - (intOf i).toNat)
      case atStart => exact ⟨0, Nat.zero_le _, rfl, Lib.hid ⟨by have h := HJ.out.1; simpa [bE] using h, HJ.out.2⟩⟩
      case round =>
        obtain ⟨wq, rfl⟩ : ∃ wq : World, wq = wr := ⟨_, rfl⟩
        obtain ⟨b, hb, rfl, HQ⟩ := hrel
        obtain ⟨B0, hB0⟩ : ∃ B0, B0 = A0 ++ bE ts G a b := ⟨_, rfl⟩
        have HB0' := Lib.hid hB0
        have HB0L := Lib.hid (show B0.length ≤ 67108864 + 12288 from by rw [hB0, List.length_append]; have := HBL.out a b (by omega); have := HA0L.out; omega)
        rw [← hB0] at HQ
        obtain ⟨aq, cq, rfl⟩ := Gr.own_shape (show World.ownsRow _ _ _ _ _ B0.length _ from HQ.out.1)
        clear hB0
        by_cases hltb : b < ts.length
        · have j1 : decide ((b : Int) < ts.length) = true := decide_eq_true (by omega)
          have j2 : (b : Int) < ts.length := by omega
          have hwj : IntKind.i64.wrap ((b : Int) + 1) = (b : Int) + 1 := IntWalk.i64_in _ (by omega)
          have HNB := Lib.hid (bE_next ts G a b)
          go_wp2_with fail
          go_loopw [5, 8] (fun x i wr => ∃ m : Nat, m ≤ 3 ∧ i = vi ((m + 1 : Nat) : Int) ∧ Hid (OwE w.heap.size wr x (B0 ++ kE ts G a b m) ∧ Below w.heap.size w wr)) (fun _ i _ => 4 - (intOf i).toNat)
          case atStart => exact ⟨0, by omega, rfl, Lib.hid ⟨by have h := HQ.out.1; simpa [kE] using h, HQ.out.2⟩⟩
          case round =>
            obtain ⟨wp, rfl⟩ : ∃ wp : World, wp = wr := ⟨_, rfl⟩
            obtain ⟨m, hm3, rfl, HP⟩ := hrel
            obtain ⟨C0, hC0⟩ : ∃ C0, C0 = B0 ++ kE ts G a b m := ⟨_, rfl⟩
            have HC0 := Lib.hid hC0
            have hcl : C0.length ≤ 67108864 + 12288 + 3 := by rw [hC0, List.length_append]; have := HKL.out a b m; have := HB0L.out; omega
            rw [← hC0] at HP
            obtain ⟨ap, cp, rfl⟩ := Gr.own_shape (show World.ownsRow _ _ _ _ _ C0.length _ from HP.out.1)
            clear hC0
            obtain ⟨q, hq⟩ : ∃ q : Nat, q = m + 1 := ⟨_, rfl⟩
            have HQQ := Lib.hid hq
            rw [← hq]
            have hq1 : 1 ≤ q := by omega
            have hq4 : q ≤ 4 := by omega
            by_cases hltm : m < 3
            · have i1 : decide ((q : Int) ≤ 3) = true := decide_eq_true (by omega)
              have i2 : (q : Int) ≤ 3 := by omega
              have i3 : q ≤ 3 := by omega
              have hwm : IntKind.i64.wrap ((q : Int) + 1) = (q : Int) + 1 := IntWalk.i64_in _ (by omega)
              have HNK := Lib.hid (show kE ts G a b (m + 1) = kE ts G a b m ++ (if hasAll ts G a b q then [⟨(a : Int), (b : Int), (q : Int)⟩] else []) from by rw [hq]; exact kE_next ts G a b m)
              clear hq
              cases hh : hasAll ts G a b q with
              | false =>
                have HH := Lib.hid hh
                clear hh
                go_wp2_with (go_at_call 56; refine (hasAll_call _ g ts G a b q wp (HV.out.later HP.out.2) HOK.out (HG.out.later HP.out.2) hlt hltb ⟨hq1, i3⟩).mono ?_; rw [HH.out]; rintro e1 w1 ⟨rfl, hb1⟩; have HO1 := Lib.hid (own_below HP.out.1 hb1); have HB1 := Lib.hid (HP.out.2.trans (hb1.mono HP.out.2.size)); clear hb1)
                refine ⟨⟨m + 1, by omega, ?_, Lib.hid ⟨?_, HB1.out⟩⟩, ?_⟩
                · have := HQQ.out; subst this; go_num
                · rw [HNK.out, HH.out, ← List.append_assoc, ← HC0.out]; simpa [OwE] using HO1.out
                · simp only [intOf]; omega
              | true =>
                have HH := Lib.hid hh
                clear hh
                go_wp2_with (first
                  | (go_at_call 56; refine (hasAll_call _ g ts G a b q wp (HV.out.later HP.out.2) HOK.out (HG.out.later HP.out.2) hlt hltb ⟨hq1, i3⟩).mono ?_; rw [HH.out]; rintro e1 w1 ⟨rfl, hb1⟩; have HO1 := Lib.hid (own_below HP.out.1 hb1); have HB1 := Lib.hid (HP.out.2.trans (hb1.mono HP.out.2.size)); clear hb1)
                  | (at_builtin; refine wpList_append_src rfl _ _ 65 rfl eltEdge w.heap.size C0.length _ (World.ownsRow.alloc HO1.out _) rfl 1 (edV ⟨a, b, q⟩) (src_new (cs := #[vi a, vi b, vi q]) rfl rfl) rfl (edV_one _) (by omega) (by omega) (by have := HB1.out.size; simp; omega) ?_; intro v2 w2 ho2 hg2 _; have HO2 := Lib.hid ho2; have HB2 := Lib.hid ((HB1.out.alloc HB1.out.size _).grown hg2 (by have := HB1.out.size; simp; omega) (fun j hj => (World.ownsRow.lt HO1.out j hj).1)); clear ho2 hg2))
                refine ⟨⟨m + 1, by omega, ?_, Lib.hid ⟨?_, HB2.out⟩⟩, ?_⟩
                · have := HQQ.out; subst this; go_num
                · rw [HNK.out, HH.out, ← List.append_assoc, ← HC0.out]; have h := HO2.out; unfold OwE; simpa using h
                · simp only [intOf]; omega
            · have i1 : decide ((q : Int) ≤ 3) = false := decide_eq_false (by omega)
              have HF := Lib.hid (show OwE w.heap.size wp (.slice ap C0.length cp) (A0 ++ bE ts G a (b + 1)) from by
                have hme : m = 3 := by omega
                have h2 : A0 ++ bE ts G a (b + 1) = C0 := by rw [HNB.out, HC0.out, HB0'.out, hme, List.append_assoc]
                rw [h2]; exact HP.out.1)
              clear hq
              go_wp2_with fail
              exact ⟨⟨b + 1, by omega, by go_num, Lib.hid ⟨HF.out, HP.out.2⟩⟩, by simp only [intOf]; omega⟩
        · have j1 : decide ((b : Int) < ts.length) = false := decide_eq_false (by omega)
          have HF := Lib.hid (show OwE w.heap.size wq (.slice aq B0.length cq) (aE ts G (a + 1)) from by
            have hbe : b = ts.length := by omega
            have h2 : aE ts G (a + 1) = B0 := by rw [HNA.out, HB0'.out, HA0.out, hbe]
            rw [h2]; exact HQ.out.1)
          go_wp2_with fail
          exact ⟨⟨a + 1, by omega, by go_num, Lib.hid ⟨HF.out, HQ.out.2⟩⟩, by simp only [intOf]; omega⟩
    · have k1 : decide ((a : Int) < ts.length) = false := decide_eq_false (by omega)
      have HF := Lib.hid (show OwE w.heap.size wj (.slice ax A0.length cx) (refE ts G) from by
        have hae : a = ts.length := by omega
        have h2 : refE ts G = A0 := by rw [HA0.out, hae]; rfl
        rw [h2]; exact HJ.out.1)
      go_wp2_with fail
      go_ret
      exact ⟨_, rfl, HF.out, HJ.out.2⟩
end Go.Proofs.YtnacoplokjdglaaGreat
