/- Texts of one proof, one behind the other: CtHd, CtP, CtN, CtV, CkL0, CtC0, CtLf, DpEx, RdEv. -/
import Derived.Deep.Strs
import Derived.Test.YtnacoplokjdglaaGreatKe1
import Derived.Test.YtnacoplokjdglaaGreatKe2
import Derived.Test.YtnacoplokjdglaaGreatKe3
import Derived.Test.YtnacoplokjdglaaGreatKe4
import Derived.Test.YtnacoplokjdglaaGreatKe5
import Derived.Test.YtnacoplokjdglaaGreatKe6
import Derived.Test.YtnacoplokjdglaaGreatKe7
import Derived.Test.YtnacoplokjdglaaGreatKe8
import Derived.Test.YtnacoplokjdglaaGreatKe9
import Derived.Test.YtnacoplokjdglaaGreatKe10
import Derived.Test.YtnacoplokjdglaaGreatKe11
import Derived.Test.YtnacoplokjdglaaGreatKe12
import Derived.Test.YtnacoplokjdglaaGreatKe13
import Derived.Test.YtnacoplokjdglaaGreatKe14
import Derived.Test.YtnacoplokjdglaaGreatKe15
import Derived.Test.YtnacoplokjdglaaGreatKe16
import Derived.Test.YtnacoplokjdglaaGreatKe17
import Derived.Test.YtnacoplokjdglaaGreatKe18
import Derived.Test.YtnacoplokjdglaaGreatKe19
import Derived.Test.YtnacoplokjdglaaGreatKe20
import Derived.Test.YtnacoplokjdglaaGreatKe21
import Derived.Test.YtnacoplokjdglaaGreatKe22
set_option linter.all false
namespace Go.Proofs.YtnacoplokjdglaaGreat
open Go.RowKit Go.Maps
attribute [local go_sem] Oper.semAt_some

set_option maxRecDepth 100000 in
set_option maxHeartbeats 1000000 in
theorem skew12_call (w : World) : Calls Tryz.prog 49 #[] w fun e w' => ∃ v, e = .returned v ∧ RdEvents w' v skewEv ∧ Below w.heap.size w w' := by
  have HT := Lib.hid (skew_rdE w)
  have HB := Lib.hid ((((Below.refl w.heap.size w).alloc (Nat.le_refl _) (.cells #[vi 1, vi 0, vi 0, vi 2, vi 1, vi 1] 51)).alloc (by simp) (.cells #[vi 1, vi 1, vi 0, vi 2, vi 0, vi 2] 51)).alloc (by simp; omega) (.cells #[vi 1, vi 1, .slice (some ⟨w.heap.size, 0, none⟩) 2 2, vi 1, vi 2, .slice (some ⟨w.heap.size + 1, 0, none⟩) 2 2, vi 2, vi 1, .slice (some ⟨w.heap.size, 0, none⟩) 2 2, vi 2, vi 2, .slice (some ⟨w.heap.size + 1, 0, none⟩) 2 2] 53))
  go_enter Tryz.func49, Tryz.ntmps49
  go_wp2_with fail
  go_ret
  exact ⟨_, rfl, HT.out, HB.out⟩

theorem skew_edges_is : EdgesOf skewT [] skewE := by
  have e0 : edgeL skewT [] = [⟨1, 0, 3⟩, ⟨0, 1, 3⟩] ∨ edgeL skewT [] = [⟨0, 1, 3⟩, ⟨1, 0, 3⟩] := by decide
  refine ⟨by simp [skewE, ltE], fun p => ?_⟩
  rcases e0 with e0 | e0 <;> rw [e0] <;> simp [skewE] <;> (constructor <;> (rintro (h | h) <;> simp [h]))
theorem sort_one (x : Int) : sortC [x] = [x] := by unfold sortC; rw [List.perm_singleton.1 (srt_perm [x])]; rfl
theorem skew_nt : nextT (sizeM skewT.length) (liftL skewE 2) = [[1], [0]] := by
  have h0 : sizeM skewT.length = 2 := by decide
  rw [h0]
  show [sortC (rawRow 2 (liftL skewE 2) 0), sortC (rawRow 2 (liftL skewE 2) 1)] = _
  rw [show rawRow 2 (liftL skewE 2) 0 = [1] from by decide, show rawRow 2 (liftL skewE 2) 1 = [0] from by decide, sort_one, sort_one]
theorem skew_isX {C : List Int} : IsCyc skewT [] 2 C ↔ isX (nextT (sizeM skewT.length) (liftL skewE 2)) C = true := isCyc_of skew_edges_is
theorem skew_t2 : treeC skewT 2 1 [] [[0, 1]] = some [] := by
  rw [treeC, if_pos (by decide), if_pos (skew_isX.2 (by rw [skew_nt]; decide))]
theorem skew_t1 : treeC skewT 2 1 [] [[0]] = none := by
  rw [treeC, if_pos (by decide), if_neg (fun h => absurd (skew_isX.1 h) (by rw [skew_nt]; decide))]
theorem skew_f2 : failB skewT 2 (0, 0, 0) [[0, 1]] = true := by
  rw [failB, if_pos skew_flaws]; exact (by rw [show ([[0, 1]] : List (List Int)).length = 1 from rfl, skew_t2]; rfl)
theorem skew_f1 : failB skewT 2 (0, 0, 0) [[0]] = false := by
  rw [failB, if_pos skew_flaws]; exact (by rw [show ([[0]] : List (List Int)).length = 1 from rfl, skew_t1]; rfl)

set_option maxRecDepth 100000 in
set_option maxHeartbeats 1000000 in
theorem failed_call (a : Option Addr) (n c : Nat) (C : List Int) (w : World) (hC : RdInts w (.slice a n c) C) : Calls Tryz.prog 50 #[.slice a n c] w fun e w' => ∃ (g : Nat), e = .returned (.agg #[vi 2, vi 0, vi 0, vi 0, vi 0, .slice (some ⟨g, 0, none⟩) 1 1, .slice none 0 0, .map none]) ∧ RdNodes w' (.slice (some ⟨g, 0, none⟩) 1 1) [C] ∧ Below w.heap.size w w' := by
  have HC := Lib.hid hC
  have HX := Lib.hid ((Below.heap_alloc (w.alloc (.cells #[vi 2, vi 0, vi 0, vi 0, vi 0, .slice (some ⟨w.heap.size + 1, 0, none⟩) 1 1, .slice none 0 0, .map none] 39)) (.cells #[.slice a n c] 70) w.heap.size (by simp)).trans (alloc_at w (.cells #[vi 2, vi 0, vi 0, vi 0, vi 0, .slice (some ⟨w.heap.size + 1, 0, none⟩) 1 1, .slice none 0 0, .map none] 39)))
  have HY := Lib.hid (show ((w.alloc (.cells #[vi 2, vi 0, vi 0, vi 0, vi 0, .slice (some ⟨w.heap.size + 1, 0, none⟩) 1 1, .slice none 0 0, .map none] 39)).alloc (.cells #[.slice a n c] 70)).heap[w.heap.size + 1]? = some (.cells #[.slice a n c] 70) from by
    have := alloc_at (w.alloc (.cells #[vi 2, vi 0, vi 0, vi 0, vi 0, .slice (some ⟨w.heap.size + 1, 0, none⟩) 1 1, .slice none 0 0, .map none] 39)) (.cells #[.slice a n c] 70)
    simpa using this)
  have HB := Lib.hid (((Below.refl w.heap.size w).alloc (Nat.le_refl _) (.cells #[vi 2, vi 0, vi 0, vi 0, vi 0, .slice (some ⟨w.heap.size + 1, 0, none⟩) 1 1, .slice none 0 0, .map none] 39)).alloc (by simp) (.cells #[.slice a n c] 70))
  clear hC
  go_enter Tryz.func50, Tryz.ntmps50
  go_wp2_with fail
  generalize (w.alloc (.cells #[vi 2, vi 0, vi 0, vi 0, vi 0, .slice (some ⟨w.heap.size + 1, 0, none⟩) 1 1, .slice none 0 0, .map none] 39)).alloc (.cells #[.slice a n c] 70) = W at *
  have x := fun j => cell_of HX.out j
  refine bodyPost_ret (v := .agg #[vi 2, vi 0, vi 0, vi 0, vi 0, .slice (some ⟨w.heap.size + 1, 0, none⟩) 1 1, .slice none 0 0, .map none]) (by simp [results, Tryz.results50, go_sem, x]) rfl ⟨w.heap.size + 1, rfl, ?_, HB.out⟩
  refine ⟨_, 1, 1, rfl, rfl, by simp, Nat.le_refl _, (fun h => (by cases h)), fun j D hj => ?_⟩
  match j, hj with
  | 0, hj =>
    cases hj
    refine ⟨w.heap.size + 1, 0, [.slice a n c], rfl, rfl, fun i u hu => ?_, _, rfl, RdS.below HC.out HB.out fun _ _ h => h⟩
    match i, hu with
    | 0, hu => cases hu; rw [cell_of HY.out]; rfl

set_option maxRecDepth 100000 in
set_option maxHeartbeats 8000000 in
theorem holds_short (v : Value) (es : List GEvent) (ts : List GTxn) (level s : Int) (f : Int × Int × Int) (na : Option Addr) (nn nc : Nat) (da : Option Addr) (dn dc : Nat) (om : Option Nat) (w : World) (hv : RdEvents w v es) (hes : es.length ≤ 60)
    (hh : histH es = some ts) (hlv : level = 1 ∨ level = 2) (hd : dn ≠ ts.length) (hdn : dn ≤ 4096) :
    Calls Tryz.prog 25 #[v, vi level, .agg #[vi 1, vi s, vi f.1, vi f.2.1, vi f.2.2, .slice na nn nc, .slice da dn dc, .map om]] w fun e w' => e = .returned (.bool false) ∧ Below w.heap.size w w' := by
  have HV := Lib.hid (hv.later ((Below.refl w.heap.size w).alloc (Nat.le_refl _) (.cells #[vi 1, vi s, vi f.1, vi f.2.1, vi f.2.2, .slice na nn nc, .slice da dn dc, .map om] 39)))
  have HX := Lib.hid (alloc_at w (.cells #[vi 1, vi s, vi f.1, vi f.2.1, vi f.2.2, .slice na nn nc, .slice da dn dc, .map om] 39))
  have HB0 := Lib.hid ((Below.refl w.heap.size w).alloc (Nat.le_refl _) (.cells #[vi 1, vi s, vi f.1, vi f.2.1, vi f.2.2, .slice na nn nc, .slice da dn dc, .map om] 39))
  have hw0 : (w.alloc (.cells #[vi 1, vi s, vi f.1, vi f.2.1, vi f.2.2, .slice na nn nc, .slice da dn dc, .map om] 39)).heap.size = w.heap.size + 1 := by simp
  have HH := Lib.hid hh
  have HG := Lib.hid (hist_good hes hh).1
  have hlen := HG.out.len
  clear hv hh
  go_enter Tryz.func25, Tryz.ntmps25
  go_upto_region 1 with fail
  generalize w.alloc (.cells #[vi 1, vi s, vi f.1, vi f.2.1, vi f.2.2, .slice na nn nc, .slice da dn dc, .map om] 39) = w0 at *
  go_upto_region 2 with (go_at_call 38; refine (hof_call _ es w0 HV.out hes).mono ?_; rintro e1 w1 ⟨v1, p1, err, rfl, hok1, hbad1, ⟨a1, n1, c1, rfl⟩, hb1⟩; have HOK := Lib.hid hok1; have HBAD := Lib.hid hbad1; have HB1 := Lib.hid (HB0.out.trans (hb1.mono HB0.out.size)); have HX1 := Lib.hid ((hb1.block _ (by omega)).trans HX.out); have hlt1 : w.heap.size < w1.heap.size := (by have := hb1.size; omega); clear hok1 hbad1 hb1)
  have h0 : err = 0 := by
    by_cases h : err = 0
    · exact h
    · have := HBAD.out h
      rw [HH.out] at this; cases this
  obtain ⟨ts', hts, hrd⟩ := HOK.out h0
  rw [HH.out] at hts
  cases hts
  have HRD := Lib.hid hrd
  obtain ⟨_, _, _, e5, e6, -, -⟩ := hrd.at
  cases e5
  subst e6
  subst h0
  clear hrd
  have hwb := HB1.out.size
  rcases hlv with rfl | rfl
  all_goals
    go_upto_region 5 with (go_at_call 39; refine (all_call _ ts w1 HRD.out HG.out.ok (by omega) HG.out.uniq).mono ?_; rintro e2 w2 ⟨v2, rfl, ho2, hb2⟩; have HB2 := Lib.hid (HB1.out.trans (hb2.mono hwb)); have HX2 := Lib.hid ((hb2.block _ hlt1).trans HX1.out); clear ho2 hb2)
    have x0 : w2.cell? ⟨w.heap.size, 0, none⟩ = some (vi 1) := by rw [cell_of HX2.out]; rfl
    have x6 : w2.cell? ⟨w.heap.size, 6, none⟩ = some (.slice da dn dc) := by rw [cell_of HX2.out]; rfl
    have x7 : w2.cell? ⟨w.heap.size, 7, none⟩ = some (.map om) := by rw [cell_of HX2.out]; rfl
    have HFX := Lib.hid (fix_short a1 c1 ts.length da dc dn (.map om) w2 hd (by omega) hdn)
    have HBX := HB2.out
    clear hd
    go_wp2_with (go_at_call 51; refine HFX.out.mono ?_; rintro e3 w3 ⟨rfl, rfl⟩)
    go_ret
    exact ⟨rfl, HBX⟩

theorem i64_0 : i64 0 := by unfold i64; omega
theorem i64_1 : i64 1 := by unfold i64; omega
theorem rdi_lit2 (w : World) (x y : Int) (hx1 : i64 x) (hy1 : i64 y) : RdInts (w.alloc (.cells #[vi x, vi y] 3)) (.slice (some ⟨w.heap.size, 0, none⟩) 2 2) [x, y] := by
  refine ⟨_, 2, 2, rfl, rfl, by simp, Nat.le_refl _, (fun h => (by cases h)), fun j D hj => ?_⟩
  have hx := alloc_at w (.cells #[vi x, vi y] 3)
  match j, hj with
  | 0, hj =>
    cases hj
    refine ⟨w.heap.size, 0, [vi x], rfl, rfl, fun i u hu => ?_, rfl, hx1⟩
    match i, hu with
    | 0, hu => cases hu; rw [cell_of hx]; rfl
  | 1, hj =>
    cases hj
    refine ⟨w.heap.size, 0, [vi y], rfl, rfl, fun i u hu => ?_, rfl, hy1⟩
    match i, hu with
    | 0, hu => cases hu; rw [cell_of hx]; rfl
theorem rdi_lit1 (w : World) (x : Int) (hx1 : i64 x) : RdInts (w.alloc (.cells #[vi x] 3)) (.slice (some ⟨w.heap.size, 0, none⟩) 1 1) [x] := by
  refine ⟨_, 1, 1, rfl, rfl, by simp, Nat.le_refl _, (fun h => (by cases h)), fun j D hj => ?_⟩
  have hx := alloc_at w (.cells #[vi x] 3)
  match j, hj with
  | 0, hj =>
    cases hj
    refine ⟨w.heap.size, 0, [vi x], rfl, rfl, fun i u hu => ?_, rfl, hx1⟩
    match i, hu with
    | 0, hu => cases hu; rw [cell_of hx]; rfl
theorem skew_holds2 (v : Value) (g : Nat) (w : World) (hv : RdEvents w v skewEv) (hN : RdNodes w (.slice (some ⟨g, 0, none⟩) 1 1) [[0, 1]]) : Calls Tryz.prog 25 #[v, vi 2, .agg #[vi 2, vi 0, vi 0, vi 0, vi 0, .slice (some ⟨g, 0, none⟩) 1 1, .slice none 0 0, .map none]] w fun e w' => e = .returned (.bool true) ∧ Below w.heap.size w w' :=
  (holds_fail v skewEv skewT 2 0 (0, 0, 0) _ _ _ none 0 0 none w hv (by decide) skew_hist (.inr rfl) [[0, 1]] hN (by decide)).mono (by rw [skew_f2]; exact fun _ _ h => h)
theorem skew_holds1 (v : Value) (g : Nat) (w : World) (hv : RdEvents w v skewEv) (hN : RdNodes w (.slice (some ⟨g, 0, none⟩) 1 1) [[0]]) : Calls Tryz.prog 25 #[v, vi 2, .agg #[vi 2, vi 0, vi 0, vi 0, vi 0, .slice (some ⟨g, 0, none⟩) 1 1, .slice none 0 0, .map none]] w fun e w' => e = .returned (.bool false) ∧ Below w.heap.size w w' :=
  (holds_fail v skewEv skewT 2 0 (0, 0, 0) _ _ _ none 0 0 none w hv (by decide) skew_hist (.inr rfl) [[0]] hN (by decide)).mono (by rw [skew_f1]; exact fun _ _ h => h)
theorem skew_holds0 (v : Value) (w : World) (hv : RdEvents w v skewEv) : Calls Tryz.prog 25 #[v, vi 2, .agg #[vi 1, vi 0, vi 0, vi 0, vi 0, .slice none 0 0, .slice none 0 0, .map none]] w fun e w' => e = .returned (.bool false) ∧ Below w.heap.size w w' :=
  holds_short v skewEv skewT 2 0 (0, 0, 0) none 0 0 none 0 0 none w hv (by decide) skew_hist (.inr rfl) (by decide) (by decide)

set_option maxRecDepth 100000 in
set_option maxHeartbeats 4000000 in
theorem head12_call (w : World) : Calls Tryz.prog 23 #[] w fun e w' => e = .returned (.bool true) ∧ Below w.heap.size w w' := by
  go_enter Tryz.func23, Tryz.ntmps23
  go_wp2_with (first
    | (go_at_call 25; ((with_reducible refine (skew_holds0 _ w7 HR7.out).mono ?_); rintro e8 w8 ⟨rfl, hb8⟩; have HB8 := Lib.hid (HB7.out.trans (hb8.mono HB7.out.size)); clear hb8))
    | (go_at_call 49; ((with_reducible refine (skew12_call w6).mono ?_); rintro e7 w7 ⟨v7, rfl, hr7, hb7⟩; have HR7 := Lib.hid hr7; have HB7 := Lib.hid (HB6.out.trans (hb7.mono HB6.out.size)); clear hr7 hb7))
    | (go_at_call 25; ((with_reducible refine (skew_holds1 _ g5 w5 HR5.out HN5.out).mono ?_); rintro e6 w6 ⟨rfl, hb6⟩; have HB6 := Lib.hid (HB5.out.trans (hb6.mono HB5.out.size)); clear hb6))
    | (go_at_call 50; refine (failed_call _ _ _ [0] _ (rdi_lit1 w4 0 i64_0)).mono ?_; rintro e5 w5 ⟨g5, rfl, hn5, hb5⟩; have HN5 := Lib.hid hn5; have hb45 := ((Below.refl w4.heap.size w4).alloc (Nat.le_refl _) (.cells #[vi 0] 3)).trans (hb5.mono (by simp)); have HB5 := Lib.hid (HB4.out.trans (hb45.mono HB4.out.size)); have HR5 := Lib.hid (HR4.out.later hb45); clear hn5 hb5 hb45)
    | (go_at_call 49; ((with_reducible refine (skew12_call w3).mono ?_); rintro e4 w4 ⟨v4, rfl, hr4, hb4⟩; have HR4 := Lib.hid hr4; have HB4 := Lib.hid (HB3.out.trans (hb4.mono HB3.out.size)); clear hr4 hb4))
    | (go_at_call 25; ((with_reducible refine (skew_holds2 _ g2 w2 HR2.out HN2.out).mono ?_); rintro e3 w3 ⟨rfl, hb3⟩; have HB3 := Lib.hid (HB2.out.trans (hb3.mono HB2.out.size)); clear hb3))
    | (go_at_call 50; refine (failed_call _ _ _ [0, 1] _ (rdi_lit2 w1 0 1 i64_0 i64_1)).mono ?_; rintro e2 w2 ⟨g2, rfl, hn2, hb2⟩; have HN2 := Lib.hid hn2; have hb12 := ((Below.refl w1.heap.size w1).alloc (Nat.le_refl _) (.cells #[vi 0, vi 1] 3)).trans (hb2.mono (by simp)); have HB2 := Lib.hid (HB1.out.trans (hb12.mono HB1.out.size)); have HR2 := Lib.hid (HR1.out.later hb12); clear hn2 hb2 hb12)
    | (go_at_call 49; refine (skew12_call w).mono ?_; rintro e1 w1 ⟨v1, rfl, hr1, hb1⟩; have HR1 := Lib.hid hr1; have HB1 := Lib.hid hb1; clear hr1 hb1))
  go_ret
  exact ⟨rfl, HB8.out⟩
end Go.Proofs.YtnacoplokjdglaaGreat

namespace Go.Proofs.YtnacoplokjdglaaGreat
open Go.RowKit Go.Maps
attribute [local go_sem] Oper.semAt_some

/-- A slice against nil. -/
theorem sl_nil_in (d : Nat) (a : Option Addr) (n c : Nat) (w : World) : (Op.equalIn (d + 1) 58 (.slice a n c) (.slice none 0 0)).run Tryz.prog w = .ok a.isNone w := by
  cases a <;> simp [Op.equalIn, run_underlying Tryz.underlying58, Result.andThen]
theorem sl_nil (a : Option Addr) (n c : Nat) (w : World) : (binOp .eql 58 (.slice a n c) (.slice none 0 0)).run Tryz.prog w = .ok (.bool a.isNone) w := by
  have h : (Op.equal 58 (.slice a n c) (.slice none 0 0)).run Tryz.prog w = .ok a.isNone w := sl_nil_in 9999 a n c w
  simp only [binOp]
  simp [h]
def HPassQ (ts : List GTxn) (level : Int) (dn : List Bool) (O : OrdL) (w : World) (e : Ending) (w' : World) : Prop := ∃ b : Bool, e = .returned (.bool b) ∧ (b = true ↔ passB ts level dn O) ∧ Below w.heap.size w w'

set_option maxRecDepth 100000 in
set_option maxHeartbeats 8000000 in
theorem holds_pass (v : Value) (es : List GEvent) (ts : List GTxn) (level s : Int) (f : Int × Int × Int) (na : Option Addr) (nn nc : Nat) (da : Option Addr) (dc : Nat) (om : Option Nat) (dn : List Bool) (O : OrdL) (w : World) (hv : RdEvents w v es) (hes : es.length ≤ 60)
    (hh : histH es = some ts) (hlv : level = 1 ∨ level = 2) (hd : RdB w (.slice da ts.length dc) dn) (hdl : dn.length = ts.length) (hO : LookO w (.map om) O) :
    Calls Tryz.prog 25 #[v, vi level, .agg #[vi 1, vi s, vi f.1, vi f.2.1, vi f.2.2, .slice na nn nc, .slice da ts.length dc, .map om]] w (HPassQ ts level dn O w) := by
  have HV := Lib.hid (hv.later ((Below.refl w.heap.size w).alloc (Nat.le_refl _) (.cells #[vi 1, vi s, vi f.1, vi f.2.1, vi f.2.2, .slice na nn nc, .slice da ts.length dc, .map om] 39)))
  have HX := Lib.hid (alloc_at w (.cells #[vi 1, vi s, vi f.1, vi f.2.1, vi f.2.2, .slice na nn nc, .slice da ts.length dc, .map om] 39))
  have HB0 := Lib.hid ((Below.refl w.heap.size w).alloc (Nat.le_refl _) (.cells #[vi 1, vi s, vi f.1, vi f.2.1, vi f.2.2, .slice na nn nc, .slice da ts.length dc, .map om] 39))
  have hw0 : (w.alloc (.cells #[vi 1, vi s, vi f.1, vi f.2.1, vi f.2.2, .slice na nn nc, .slice da ts.length dc, .map om] 39)).heap.size = w.heap.size + 1 := by simp
  have HH := Lib.hid hh
  have HG := Lib.hid (hist_good hes hh).1
  have hlen := HG.out.len
  have HD0 := Lib.hid (hd.later HB0.out)
  have HO0 := Lib.hid (hO.later HB0.out)
  clear hv hh hd hO
  go_enter Tryz.func25, Tryz.ntmps25
  go_upto_region 1 with fail
  generalize w.alloc (.cells #[vi 1, vi s, vi f.1, vi f.2.1, vi f.2.2, .slice na nn nc, .slice da ts.length dc, .map om] 39) = w0 at *
  go_upto_region 2 with (go_at_call 38; refine (hof_call _ es w0 HV.out hes).mono ?_; rintro e1 w1 ⟨v1, p1, err, rfl, hok1, hbad1, ⟨a1, n1, c1, rfl⟩, hb1⟩; have HOK := Lib.hid hok1; have HBAD := Lib.hid hbad1; have HB1 := Lib.hid (HB0.out.trans (hb1.mono HB0.out.size)); have HX1 := Lib.hid ((hb1.block _ (by omega)).trans HX.out); have hlt1 : w.heap.size < w1.heap.size := (by have := hb1.size; omega); have HD1 := Lib.hid (HD0.out.later hb1); have HO1 := Lib.hid (HO0.out.later hb1); clear hok1 hbad1 hb1)
  have h0 : err = 0 := by
    by_cases h : err = 0
    · exact h
    · have := HBAD.out h
      rw [HH.out] at this; cases this
  obtain ⟨ts', hts, hrd⟩ := HOK.out h0
  rw [HH.out] at hts
  cases hts
  have HRD := Lib.hid hrd
  obtain ⟨_, _, _, e5, e6, -, -⟩ := hrd.at
  cases e5
  subst e6
  subst h0
  clear hrd
  have hwb := HB1.out.size
  rcases hlv with rfl | rfl
  all_goals
    go_upto_region 5 with (go_at_call 39; refine (all_call _ ts w1 HRD.out HG.out.ok (by omega) HG.out.uniq).mono ?_; rintro e2 w2 ⟨v2, rfl, ho2, hb2⟩; obtain ⟨a2, c2, rfl⟩ := Gr.own_shape (show World.ownsRow _ _ _ _ _ (flawsM ts).length _ from ho2); have HB2 := Lib.hid (HB1.out.trans (hb2.mono hwb)); have HX2 := Lib.hid ((hb2.block _ hlt1).trans HX1.out); have HR2 := Lib.hid (HRD.out.later hb2); have HD2 := Lib.hid (HD1.out.later hb2); have HO2 := Lib.hid (HO1.out.later hb2); clear ho2 hb2)
    have x0 : w2.cell? ⟨w.heap.size, 0, none⟩ = some (vi 1) := by rw [cell_of HX2.out]; rfl
    have x6 : w2.cell? ⟨w.heap.size, 6, none⟩ = some (.slice da ts.length dc) := by rw [cell_of HX2.out]; rfl
    have x7 : w2.cell? ⟨w.heap.size, 7, none⟩ = some (.map om) := by rw [cell_of HX2.out]; rfl
    have HFX := Lib.hid (fixG_call (.slice a1 ts.length c1) ts da dc om dn O w2 HR2.out HG.out.ok (by omega) HD2.out hdl HO2.out)
    have hwb2 := HB2.out.size
    clear hdl
    go_upto_region 8 with (go_at_call 51; refine HFX.out.mono ?_; rintro e3 w3 ⟨r3, b3, rfl, hq3, hb3⟩; have HQ3 := Lib.hid hq3.out; have HB3 := Lib.hid (HB2.out.trans (hb3.mono hwb2)); have HR3 := Lib.hid (HR2.out.later hb3); clear hq3 hb3)
    have hwb3 := HB3.out.size
    cases b3 with
    | false =>
      go_wp2_with fail
      go_ret
      exact ⟨false, rfl, ⟨fun h => (by cases h), fun ⟨F, h, _⟩ => absurd h (HQ3.out.2 (by first | rfl | trivial) F)⟩, HB3.out⟩
    | true =>
      obtain ⟨m3, F, rfl, hm3, hf3⟩ := HQ3.out.1 rfl
      have HM3 := Lib.hid hm3
      have HF3 := Lib.hid hf3
      clear hm3 hf3
      by_cases hF : flawsM ts = []
      · have HF := Lib.hid hF
        rw [hF]
        clear hF
        have HFO := Lib.hid (HF3.out.faOk HG.out.uniq HM3.out.pairwise)
        have HSM := Lib.hid (small_good (L := F) HG.out (by have := HFO.out.len; omega))
        have HPB := Lib.hid (fun level => passB_of (level := level) HF3.out HM3.out.pairwise HF.out)
        have HFV := Lib.hid (FaV.of HM3.out)
        have HBK := Lib.hid (fun lv => broken_callN (.slice a1 ts.length c1) (.map (some m3)) ts F 12 lv w3 HR3.out HG.out.ok HFV.out HSM.out)
        clear x0 x6 x7 HFX
        go_wp2_with (go_at_call 52; refine (HBK.out _).mono ?_; rintro e4 w4 ⟨v4, l4, C, rfl, he4, ho4, hc4, hn4, hb4⟩; have HC4 := Lib.hid (show NodeC ts F _ C from ⟨l4, he4, hc4⟩); have HO4 := Lib.hid ho4; have HN4 := Lib.hid hn4; have HB4 := Lib.hid (HB3.out.trans (hb4.mono hwb3)); obtain ⟨a4, c4, rfl⟩ := Gr.own_shape (show World.ownsRow _ _ _ _ v4 C.length _ from ho4); have hsl := sl_nil a4 C.length c4; clear he4 hc4 ho4 hn4 hb4)
        go_ret
        have HBR := HC4.out.brk HG.out.len
        have hab : a4.isNone = true ↔ C = [] := by
          constructor
          · intro h
            apply Classical.byContradiction
            intro hC
            obtain ⟨g4, c5, e5⟩ := own_someB HO4.out (List.length_pos_iff.2 hC)
            cases e5; cases h
          · intro h
            have h5 := HN4.out h
            injection h5 with h6 _ _
            rw [h6]; rfl
        refine ⟨a4.isNone, rfl, ?_, HB4.out⟩
        rw [hab, HPB.out, ← HBR, ← List.length_eq_zero_iff]
        omega
      · have h0 : 0 < (flawsM ts).length := List.length_pos_iff.2 hF
        have h0I : (((flawsM ts).length : Int) == 0) = false := beq_eq_false_iff_ne.2 (by omega)
        have h0N : ((flawsM ts).length == 0) = false := beq_eq_false_iff_ne.2 (by omega)
        have h0E : flawsM ts ≠ [] := hF
        have HNF := Lib.hid hF
        clear hF
        go_wp2_with fail
        go_ret
        exact ⟨false, rfl, ⟨fun h => (by cases h), fun ⟨_, _, _, h, _⟩ => absurd h HNF.out⟩, HB3.out⟩
end Go.Proofs.YtnacoplokjdglaaGreat

namespace Go.Proofs.YtnacoplokjdglaaGreat
open Go.RowKit Go.Maps

theorem isX_closed {T : List (List Int)} {s0 : Nat} {C : List Nat} (h : Closed (ArcT T) s0 C) : isX T (C.map natI) = true := by
  have h0 : 0 < C.length := by
    cases C with
    | nil => have := h.head; cases this
    | cons _ _ => simp
  refine isX_true (by rw [List.length_map]; exact h0) fun j hj => ?_
  rw [List.length_map] at hj
  obtain ⟨v, hv⟩ := some_at hj
  have hmod : (j + 1) % C.length < C.length := Nat.mod_lt _ h0
  obtain ⟨x, hx⟩ := some_at hmod
  have harc : ArcT T v x := by
    by_cases hl : j + 1 < C.length
    · rw [Nat.mod_eq_of_lt hl] at hx
      exact chain1_at h.chain hv hx
    · have hj1 : j + 1 = C.length := by omega
      rw [hj1, Nat.mod_self] at hx
      have hs : x = s0 := by
        have := h.head
        rw [List.head?_eq_getElem?, hx] at this
        cases this; rfl
      subst hs
      refine h.shut v ?_
      rw [List.getLast?_eq_getElem?, ← hj1]
      exact hv
  obtain ⟨l, hl, hxl⟩ := harc
  refine (okX_iff (v := natI v) (x := natI x) (by rw [List.getElem?_map, hv]; rfl) (by rw [List.length_map, List.getElem?_map, hx]; rfl)).2 ⟨by unfold natI; omega, ⟨l, by unfold natI; simpa using hl, hxl⟩, fun i hi he => ?_⟩
  rw [List.getElem?_map, Option.map_eq_some_iff] at he
  obtain ⟨y, hy, hyv⟩ := he
  have hyv' : y = v := by unfold natI at hyv; omega
  subst hyv'
  have := (List.getElem?_inj (l := C) (List.getElem?_eq_some_iff.1 hy).1 h.nodup).1 (hy.trans hv.symm)
  omega
theorem isCyc_node {ts : List GTxn} {L : FaL} {level : Int} {C : List Nat} (h : NodeC ts L level C) (hC : C ≠ []) : IsCyc ts L level (C.map natI) := by
  obtain ⟨l, h1, h2⟩ := h
  rcases h2 with ⟨h2, -⟩ | ⟨s0, -, h3, -⟩
  · exact absurd h2 hC
  · exact ⟨l, h1, isX_closed h3⟩
/-- Steps, as cert.tree reads them. -/
def nodesI (l : List (List Nat)) : List (List Int) := l.map (fun C => C.map natI)
theorem nodes_tree {ts : List GTxn} {level : Int} : ∀ (n : Nat) (L : FaL) (l : List (List Nat)) (m : Nat) (r : List (List Int)), (treeM ts level n L).res = false → Nodes ts level (treeM ts level n L) l → l.length ≤ m → treeC ts level m L (nodesI l ++ r) = some r := by
  have leaf : ∀ (L : FaL) (l : List (List Nat)) (m : Nat) (r : List (List Int)), Nodes ts level (.bad L) l → l.length ≤ m → treeC ts level m L (nodesI l ++ r) = some r := by
    intro L l m r h hm
    obtain ⟨C, rfl, hC, hn⟩ := h
    match m, hm with
    | m + 1, hm =>
      have h0 : 0 < (C.map natI).length := by rw [List.length_map]; exact List.length_pos_iff.2 hC
      show treeC ts level (m + 1) L (C.map natI :: ([] ++ r)) = some r
      rw [treeC, if_pos h0, if_pos (isCyc_node hn hC)]; rfl
  intro n
  induction n with
  | zero =>
    intro L l m r hr hn hm
    unfold treeM at hr hn
    split at hr
    · rename_i hb
      rw [if_pos hb] at hn
      exact leaf L l m r hn hm
    · cases hr
  | succ n ih =>
    intro L l m r hr hn hm
    unfold treeM at hr hn
    split at hr
    · rename_i hb
      rw [if_pos hb] at hn
      exact leaf L l m r hn hm
    · rename_i hb
      rw [if_neg hb] at hn
      cases hx : nextM ts L with
      | none => rw [hx] at hr; cases hr
      | some c =>
        rw [hx] at hr hn
        simp only at hr hn
        obtain ⟨l1, l2, h1, h2, rfl⟩ := hn
        have hr' : (treeM ts level n ((c, true) :: L)).res = false ∧ (treeM ts level n ((c, false) :: L)).res = false := by
          have : ((treeM ts level n ((c, true) :: L)).res || (treeM ts level n ((c, false) :: L)).res) = false := hr
          simpa using this
        match m, hm with
        | m + 1, hm =>
          simp only [List.length_cons, List.length_append] at hm
          have e : nodesI ([] :: (l1 ++ l2)) ++ r = [] :: (nodesI l1 ++ (nodesI l2 ++ r)) := by simp [nodesI]
          rw [e, treeC, if_neg (by simp), hx]
          simp only
          rw [ih _ l1 m (nodesI l2 ++ r) hr'.1 h1 (by omega)]
          simp only
          exact ih _ l2 m r hr'.2 h2 (by omega)
/-- The steps that check.Check tells of a failing hold. -/
theorem tree0_holds {ts : List GTxn} {level : Int} {l : List (List Nat)} (hr : (tree0 ts level).res = false) (hn : Nodes ts level (tree0 ts level) l) (r : List (List Int)) : treeC ts level (nodesI l ++ r).length [] (nodesI l ++ r) = some r :=
  nodes_tree _ _ _ _ _ hr hn (by simp [nodesI])
end Go.Proofs.YtnacoplokjdglaaGreat

namespace Go.Proofs.YtnacoplokjdglaaGreat
open Go.RowKit Go.Maps

theorem closed_mem {T : List (List Int)} {s : Nat} {C : List Nat} (h : Closed (ArcT T) s C) {x : Nat} (hx : x ∈ C) : x < T.length := by
  obtain ⟨i, hi⟩ := List.mem_iff_getElem?.1 hx
  obtain ⟨b, -, l, hl, -⟩ := h.arc hi
  exact (List.getElem?_eq_some_iff.1 hl).1
theorem nodes_small {ts : List GTxn} {level : Int} (hn : ts.length ≤ 60) : ∀ (t : WT) (l : List (List Nat)), Nodes ts level t l → ∀ C ∈ l, C.length ≤ 60 ∧ ∀ x ∈ C, x ≤ 60
  | .bad L, l, h, C, hC => by
    obtain ⟨D, rfl, hD, lE, h1, h2⟩ := h
    simp at hC
    subst hC
    rcases h2 with ⟨h2, -⟩ | ⟨s0, -, h3, -⟩
    · exact absurd h2 hD
    · have hT : (nextT (sizeM ts.length) (liftL lE level)).length = sizeM ts.length := by simp [nextT]
      have hs : sizeM ts.length ≤ 60 := by unfold sizeM; (repeat' split) <;> omega
      refine ⟨by have := h3.len hT; omega, fun x hx => ?_⟩
      have := closed_mem h3 hx
      omega
  | .good L, l, h, C, hC => by
    have h : l = [[]] := h
    subst h
    simp at hC; subst hC
    exact ⟨by simp, fun x hx => by cases hx⟩
  | .node L a b, l, h, C, hC => by
    obtain ⟨l1, l2, h1, h2, rfl⟩ := h
    rcases List.mem_cons.1 hC with rfl | hC
    · exact ⟨by simp, fun x hx => by cases hx⟩
    · rcases List.mem_append.1 hC with hC | hC
      · exact nodes_small hn a l1 h1 C hC
      · exact nodes_small hn b l2 h2 C hC
theorem flat_one : ∀ T : List (Value × List Nat), T.flatMap (fun q => [q.1]) = T.map (·.1)
  | [] => rfl
  | a :: T => by rw [List.flatMap_cons, flat_one T]; rfl
theorem TreeV.rd {N : Nat} {W : World} {tr : Value} {l : List (List Nat)} (h : TreeV N W tr l) (hs : ∀ C ∈ l, C.length ≤ 60 ∧ ∀ x ∈ C, x ≤ 60) : RdNodes W tr (nodesI l) := by
  obtain ⟨T, rfl, h1, h2⟩ := h
  have h1' : W.ownsRow N 70 1 tr T.length (T.flatMap (fun q => [q.1])) := by
    rw [flat_one]
    exact h1
  obtain ⟨a, len, cap, e1, e2, e3, e4, e5, e6⟩ := rds_of_own (V := fun q : Value × List Nat => [q.1]) (fun _ => rfl) h1'
  refine ⟨a, len, cap, e1, by simp [nodesI, e2], by simpa [nodesI] using e3, e4, e5, fun j x hj => ?_⟩
  unfold nodesI at hj
  rw [List.map_map, List.getElem?_map, Option.map_eq_some_iff] at hj
  obtain ⟨q, hq, rfl⟩ := hj
  obtain ⟨b, off, cs, g1, g2, g3, rfl⟩ := e6 j q hq
  have hqm := List.mem_of_getElem? hq
  have hqs := hs q.2 (List.mem_map.2 ⟨q, hqm, rfl⟩)
  refine ⟨b, off, _, g1, g2, g3, q.1, rfl, ?_⟩
  have ho : OwI N W q.1 (q.2.map natI) := by
    have := h2 q hqm
    unfold OwI
    rw [List.length_map]; exact this
  exact ho.rdY fun x hx => by
    obtain ⟨y, hy, rfl⟩ := List.mem_map.1 hx
    have := hqs.2 y hy
    unfold natI i64; omega
theorem nodesI_small {l : List (List Nat)} (hs : ∀ C ∈ l, C.length ≤ 60 ∧ ∀ x ∈ C, x ≤ 60) : ∀ C ∈ nodesI l, C.length ≤ 1000000000 := fun C hC => by
  obtain ⟨D, hD, rfl⟩ := List.mem_map.1 hC
  have := (hs D hD).1
  rw [List.length_map]; omega
end Go.Proofs.YtnacoplokjdglaaGreat

namespace Go.Proofs.YtnacoplokjdglaaGreat
open Go.RowKit Go.Maps
attribute [local go_sem] Oper.semAt_some

theorem flaw_pos {ts : List GTxn} {f : Int × Int × Int} (h : f ∈ flawsM ts) : 0 < f.2.2 := by
  unfold flawsM at h
  obtain ⟨p, _, h⟩ := List.mem_flatMap.1 h
  unfold flawT at h
  obtain ⟨q, _, h⟩ := List.mem_flatMap.1 h
  unfold flaw1 at h
  split at h
  · rename_i hq; simp at h; subst h; exact hq
  · cases h
theorem end_res {t : WT} {s B : Int} (hb : endB t s B = false) (ho : endO t s B = false) : t.res = false ∧ endS t s B = s + t.size := by
  unfold endO at ho
  rw [decide_eq_false_iff_not] at ho
  unfold endB at hb
  rw [decide_eq_true (by omega), Bool.true_and] at hb
  exact ⟨hb, by unfold endS; rw [if_pos (by omega)]⟩
theorem end_yes {t : WT} {s B : Int} (hb : endB t s B = true) : t.res = true ∧ endS t s B = s + t.size ∧ s + t.size ≤ B := by
  unfold endB at hb
  rw [Bool.and_eq_true, decide_eq_true_eq] at hb
  exact ⟨hb.2, by unfold endS; rw [if_pos hb.1], hb.1⟩
theorem end_out {t : WT} {s B : Int} (ho : endO t s B = true) : endS t s B = max s B := by
  unfold endO at ho
  rw [decide_eq_true_eq] at ho
  unfold endS
  rw [if_neg (by omega)]
section
variable {v : Value} {es : List GEvent} {level B : Int} {w : World} {ts : List GTxn}
theorem check_no (hv : RdEvents w v es) (hes : es.length ≤ 60) (hB : i64 B) (hroom : B ≤ 34359738368 ∨ ∀ ts, histH es = some ts → ((tree0 ts level).size : Int) ≤ 34359738368) (hn : histH es = none ∨ ¬ (level = 1 ∨ level = 2)) :
    Calls Tryz.prog 18 #[v, vi level, vi B] w fun e w' => e = .returned (.agg #[vi 0, vi 0, vi 0, vi 0, vi 0, .slice none 0 0, .slice none 0 0, .map none]) ∧ Below w.heap.size w w' := by
  refine (check_call0 v es level B w hv hes hB hroom).mono ?_
  rintro e w' ⟨k, s, f, tr, dn, od, rfl, hc, hb⟩
  obtain ⟨rfl, rfl, rfl, rfl, rfl, rfl⟩ := hc.not_one hn
  exact ⟨rfl, hb⟩
theorem check_flaw (hv : RdEvents w v es) (hes : es.length ≤ 60) (hB : i64 B) (hroom : B ≤ 34359738368 ∨ ∀ ts, histH es = some ts → ((tree0 ts level).size : Int) ≤ 34359738368) (hh : histH es = some ts) (hl : level = 1 ∨ level = 2) {f : Int × Int × Int} {l : List (Int × Int × Int)} (hf : flawsM ts = f :: l) :
    Calls Tryz.prog 18 #[v, vi level, vi B] w fun e w' => e = .returned (.agg #[vi 2, vi 0, vi f.1, vi f.2.1, vi f.2.2, .slice none 0 0, .slice none 0 0, .map none]) ∧ Below w.heap.size w w' := by
  refine (check_call0 v es level B w hv hes hB hroom).mono ?_
  rintro e w' ⟨k, s, f, tr, dn, od, rfl, hc, hb⟩
  rw [hh] at hc
  obtain ⟨rfl, rfl, rfl, rfl, rfl, rfl⟩ := hc.flawed hl hf
  exact ⟨rfl, hb⟩
theorem check_over (hv : RdEvents w v es) (hes : es.length ≤ 60) (hB : i64 B) (hroom : B ≤ 34359738368 ∨ ∀ ts, histH es = some ts → ((tree0 ts level).size : Int) ≤ 34359738368) (hh : histH es = some ts) (hl : level = 1 ∨ level = 2) (hf : flawsM ts = []) (ho : endO (tree0 ts level) 0 B = true) :
    Calls Tryz.prog 18 #[v, vi level, vi B] w fun e w' => e = .returned (.agg #[vi 3, vi (max 0 B), vi 0, vi 0, vi 0, .slice none 0 0, .slice none 0 0, .map none]) ∧ Below w.heap.size w w' := by
  refine (check_call0 v es level B w hv hes hB hroom).mono ?_
  rintro e w' ⟨k, s, f, tr, dn, od, rfl, hc, hb⟩
  rw [hh] at hc
  obtain ⟨rfl, rfl, rfl, rfl, rfl, rfl⟩ := hc.overed hl hf ho
  exact ⟨by rw [end_out ho]; rfl, hb⟩
theorem check_pass (hv : RdEvents w v es) (hes : es.length ≤ 60) (hB : i64 B) (hroom : B ≤ 34359738368 ∨ ∀ ts, histH es = some ts → ((tree0 ts level).size : Int) ≤ 34359738368) (hh : histH es = some ts) (hl : level = 1 ∨ level = 2) (hf : flawsM ts = []) (hb0 : endB (tree0 ts level) 0 B = true) :
    Calls Tryz.prog 18 #[v, vi level, vi B] w fun e w' => ∃ (F : FaL) (db om : Nat) (O : OrdL), e = .returned (.agg #[vi 1, vi (tree0 ts level).size, vi 0, vi 0, vi 0, .slice none 0 0, .slice (some ⟨db, 0, none⟩) ts.length ts.length, .map (some om)]) ∧ (tree0 ts level).found = some F ∧ BoolB w' db ((List.range ts.length).map (dnM ts F)) ∧ MapO w' om O ∧ OrdC ts F 16 w.heap.size O w' ∧ Below w.heap.size w w' := by
  refine (check_call0 v es level B w hv hes hB hroom).mono ?_
  rintro e w' ⟨k, s, f, tr, dn, od, rfl, hc, hb⟩
  rw [hh] at hc
  obtain ⟨rfl, rfl, rfl, rfl, F, db, om, O, h1, h2, h3, h4, rfl, rfl⟩ := hc.passed hl hf hb0
  refine ⟨F, db, om, O, ?_, h1, h2, h3, h4, hb⟩
  rw [(end_yes hb0).2.1, Int.zero_add]; rfl
theorem check_fail (hv : RdEvents w v es) (hes : es.length ≤ 60) (hB : i64 B) (hroom : B ≤ 34359738368 ∨ ∀ ts, histH es = some ts → ((tree0 ts level).size : Int) ≤ 34359738368) (hh : histH es = some ts) (hl : level = 1 ∨ level = 2) (hf : flawsM ts = []) (hb0 : endB (tree0 ts level) 0 B = false) (ho : endO (tree0 ts level) 0 B = false) :
    Calls Tryz.prog 18 #[v, vi level, vi B] w fun e w' => ∃ (a : Option Addr) (c : Nat) (l : List (List Nat)), e = .returned (.agg #[vi 2, vi (tree0 ts level).size, vi 0, vi 0, vi 0, .slice a (tree0 ts level).size c, .slice none 0 0, .map none]) ∧ Nodes ts level (tree0 ts level) l ∧ l.length = (tree0 ts level).size ∧ TreeV w.heap.size w' (.slice a (tree0 ts level).size c) l ∧ Below w.heap.size w w' := by
  refine (check_call0 v es level B w hv hes hB hroom).mono ?_
  rintro e w' ⟨k, s, f, tr, dn, od, rfl, hc, hb⟩
  rw [hh] at hc
  obtain ⟨rfl, rfl, rfl, rfl, rfl, l, h1, T, h2, h3, h4⟩ := hc.failed hl hf hb0 ho
  have hr := end_res hb0 ho
  have hn := Nodes.len hr.1 h1
  have hTl : T.length = (tree0 ts level).size := by rw [← hn, ← h2, List.length_map]
  obtain ⟨a, c, rfl⟩ := Gr.own_shape h3
  refine ⟨a, c, l, ?_, h1, hn, ⟨T, h2, ?_, h4⟩, hb⟩
  · rw [hr.2, Int.zero_add, hTl]; rfl
  · rw [hTl] at h3 ⊢; exact h3
end
end Go.Proofs.YtnacoplokjdglaaGreat

namespace Go.Proofs.YtnacoplokjdglaaGreat
open Go.RowKit Go.Maps

theorem edges_empty (L : FaL) : EdgesOf [] L [] := by
  refine ⟨List.Pairwise.nil, fun e => ⟨fun h => (by cases h), fun h => ?_⟩⟩
  rcases edge_mem.1 h with ⟨r, hr, _⟩ | ⟨i, t, _, _, ht, _⟩ | ⟨p, _, a, b, _, hh, _⟩
  · obtain ⟨i, t, o, ht, _⟩ := rds_mem.1 hr; simp at ht
  · simp at ht
  · unfold hasM at hh
    rw [Bool.and_eq_true] at hh
    obtain ⟨n, t, _, ht, _⟩ := has1_iff.1 hh.1
    simp at ht
theorem no_brk (L : FaL) (level : Int) : ¬ Brk [] L level := by
  rintro ⟨l, he, a, hw⟩
  have : l = [] := edges_ext he.1 (edges_empty L).1 (fun p => (he.2 p).trans ((edges_empty L).2 p).symm)
  subst this
  have hn : ∀ u v, ¬ ArcK [] (level == 1) u v := fun u v h => by
    rcases h with ⟨e, he, _⟩ | ⟨_, e, he, _⟩ <;> cases he
  cases hw with
  | one h => exact hn _ _ h
  | more h _ => exact hn _ _ h
theorem res_some {ts : List GTxn} {level : Int} (h : (tree0 ts level).res = false) : 0 ≠ ts.length := by
  intro h0
  have : ts = [] := List.length_eq_zero_iff.1 h0.symm
  subst this
  have hn : nextM [] [] = none := by
    cases hx : nextM [] [] with
    | none => rfl
    | some c => have := (choicesM_ok (nextM_some hx).1).a; simp at this; omega
  rw [show tree0 [] level = .good [] from treeM_good (no_brk [] level) hn] at h
  cases h
theorem flaws_some {ts : List GTxn} {f : Int × Int × Int} {l : List (Int × Int × Int)} (h : flawsM ts = f :: l) : 0 ≠ ts.length := by
  intro h0
  have : ts = [] := List.length_eq_zero_iff.1 h0.symm
  subst this
  simp [flawsM] at h
theorem fail_nil {ts : List GTxn} {level : Int} {f : Int × Int × Int} : failB ts level f [] = (flawsM ts).any (fun o => o == f) := by
  unfold failB
  split
  · rename_i h; rw [h, show ([] : List (List Int)).length = 0 from rfl, treeC]; rfl
  · congr 1; funext o; rw [Bool.eq_iff_iff, beq_iff_eq, beq_iff_eq]; exact ⟨Eq.symm, Eq.symm⟩
theorem fail_none {ts : List GTxn} {level : Int} (h : flawsM ts = []) (f : Int × Int × Int) : failB ts level f [] = false := by rw [fail_nil, h]; rfl
theorem fail_first {ts : List GTxn} {level : Int} {f : Int × Int × Int} {l : List (Int × Int × Int)} (h : flawsM ts = f :: l) : failB ts level f [] = true := by rw [fail_nil, h]; simp
theorem fail_zero {ts : List GTxn} {level : Int} : failB ts level (0, 0, 0) [] = false := by
  rw [fail_nil, List.any_eq_false]
  intro o ho he
  have h1 := flaw_pos ho
  rw [beq_iff_eq] at he
  subst he
  simp at h1
theorem nodes_none0 (w : World) : RdNodes w (.slice none 0 0) [] := ⟨none, 0, 0, rfl, rfl, by simp, Nat.le_refl _, fun _ => ⟨rfl, rfl⟩, fun j x hj => by simp at hj⟩
theorem fail_shown {ts : List GTxn} {level : Int} {l : List (List Nat)} (hf : flawsM ts = []) (hr : (tree0 ts level).res = false) (hn : Nodes ts level (tree0 ts level) l) : failB ts level (0, 0, 0) (nodesI l) = true := by
  have h := tree0_holds hr hn []
  rw [List.append_nil] at h
  rw [failB, if_pos hf, h]; rfl
end Go.Proofs.YtnacoplokjdglaaGreat

namespace Go.Proofs.YtnacoplokjdglaaGreat
open Go.RowKit Go.Maps
/-- What is said of two writes is of two that are done. -/
def TwoD (ts : List GTxn) (L : FaL) : Prop := ∀ (c : GChoice) (so : Bool), c.kind ≠ 1 → getM L c = some so → dnM ts L c.a.toNat = true ∧ dnM ts L c.b.toNat = true
theorem next_open {ts : List GTxn} {L : FaL} {c : GChoice} (h : nextM ts L = some c) : openC ts L c = true := List.find?_some h
theorem up_cons {ts : List GTxn} {L : FaL} {c : GChoice} {so : Bool} (h : nextM ts L = some c) : ∀ d b, getM L d = some b → getM ((c, so) :: L) d = some b := fun d b hd => by
  rw [getM_cons]
  split
  · rename_i e
    simp only at e
    subst e
    rw [(nextM_some h).2] at hd; cases hd
  · exact hd
theorem TwoD.next {ts : List GTxn} {L : FaL} {c : GChoice} {so : Bool} (h : TwoD ts L) (hn : nextM ts L = some c) : TwoD ts ((c, so) :: L) := fun d s hk hd => by
  rw [getM_cons] at hd
  split at hd
  · rename_i e
    simp only at e
    subst e
    have ho := next_open hn
    unfold openC at ho
    have hk2 : (c.kind != 2) = false := by
      rcases (choicesM_ok (nextM_some hn).1).kind with ⟨h1, _⟩ | ⟨h1, _⟩
      · exact absurd h1 hk
      · rw [h1]; rfl
    rw [hk2, Bool.false_or, Bool.and_eq_true, Bool.and_eq_true] at ho
    exact ⟨dn_more (up_cons hn) _ ho.2.1, dn_more (up_cons hn) _ ho.2.2⟩
  · obtain ⟨h1, h2⟩ := h d s hk hd
    exact ⟨dn_more (up_cons hn) _ h1, dn_more (up_cons hn) _ h2⟩
theorem TwoD.leaf {ts : List GTxn} {σ : GChoice → Bool} : ∀ {n : Nat} {L : FaL}, TwoD ts L → TwoD ts (leafM ts σ n L)
  | 0, L, h => h
  | n + 1, L, h => by
    unfold leafM
    cases hn : nextM ts L with
    | none => exact h
    | some c => exact TwoD.leaf (h.next hn)
/-- Facts that say all, of choices of the history, and no cycle. -/
structure LeafF (ts : List GTxn) (level : Int) (F : FaL) : Prop where
  ok : FaOk ts F
  nb : ¬ Brk ts F level
  all : nextM ts F = none
  two : TwoD ts F
theorem leaf_found {ts : List GTxn} {level : Int} {F : FaL} (h : (tree0 ts level).found = some F) : LeafF ts level F := by
  obtain ⟨h1, h2, h3, -, σ, h5⟩ := tree_found (FaOk.nil ts) (by rw [said_nil]; omega) h
  refine ⟨h1, h2, h3, ?_⟩
  rw [← h5]
  exact TwoD.leaf (fun c so _ hc => by rw [getM_nil] at hc; cases hc)

theorem all_said {ts : List GTxn} {F : FaL} (h : nextM ts F = none) {c : GChoice} (hc : c ∈ choicesM ts) (h2 : c.kind = 1 ∨ dnM ts F c.a.toNat = true ∧ dnM ts F c.b.toNat = true) : ∃ so, getM F c = some so := by
  have h1 := List.find?_eq_none.1 h c hc
  cases hg : getM F c with
  | some so => exact ⟨so, rfl⟩
  | none =>
    exfalso
    apply h1
    unfold openC
    rw [hg]
    rcases h2 with h2 | ⟨h2, h3⟩
    · rw [h2]; rfl
    · unfold dnM at h2 h3
      rw [h2, h3]; simp
/-- An order that says of each two who is ahead, and never goes round, is a row. -/
theorem row_of {R : Int → Int → Bool} : ∀ {D : List Int}, D.Nodup → (∀ x ∈ D, ∀ y ∈ D, x ≠ y → R x y = true ∨ R y x = true) → (∀ x ∈ D, ∀ y ∈ D, ∀ z ∈ D, R x y = true → R y z = true → R x z = true) → ∃ E, D.Perm E ∧ E.Pairwise (fun x y => R x y = true)
  | [], _, _, _ => ⟨[], List.Perm.refl _, List.Pairwise.nil⟩
  | x :: D, hn, ht, hr => by
    rw [List.nodup_cons] at hn
    obtain ⟨E, hp, hE⟩ := row_of hn.2 (fun a ha b hb => ht a (List.mem_cons_of_mem _ ha) b (List.mem_cons_of_mem _ hb)) (fun a ha b hb c hc => hr a (List.mem_cons_of_mem _ ha) b (List.mem_cons_of_mem _ hb) c (List.mem_cons_of_mem _ hc))
    have hx : x ∈ x :: D := List.mem_cons_self
    have hm : ∀ y ∈ E, y ∈ x :: D := fun y hy => List.mem_cons_of_mem _ (hp.mem_iff.2 hy)
    have hne : ∀ y ∈ E, y ≠ x := fun y hy e => by subst e; exact hn.1 (hp.mem_iff.2 hy)
    refine ⟨E.filter (fun y => R y x) ++ x :: E.filter (fun y => !(R y x)), ?_, ?_⟩
    · have h1 : (E.filter (fun y => R y x) ++ E.filter (fun y => !(R y x))).Perm E := List.filter_append_perm _ _
      exact ((hp.trans h1.symm).cons x).trans List.perm_middle.symm
    · rw [List.pairwise_append]
      refine ⟨hE.filter _, ?_, ?_⟩
      · rw [List.pairwise_cons]
        refine ⟨fun y hy => ?_, hE.filter _⟩
        rw [List.mem_filter] at hy
        rcases ht y (hm y hy.1) x hx (hne y hy.1) with h | h
        · rw [h] at hy; simp at hy
        · exact h
      · intro a ha b hb
        rw [List.mem_filter] at ha
        rcases List.mem_cons.1 hb with rfl | hb
        · exact ha.2
        · rw [List.mem_filter] at hb
          rcases ht b (hm b hb.1) x hx (hne b hb.1) with h | h
          · rw [h] at hb; simp at hb
          · exact hr a (hm a ha.1) x hx b (hm b hb.1) ha.2 h

section
variable {ts : List GTxn} {level : Int} {F : FaL}
theorem in_wrl {key x : Int} : x ∈ wrl ts F key ↔ ∃ i : Nat, i < ts.length ∧ x = i ∧ dnM ts F i = true ∧ wrOf ts i key = true := by
  rw [wrl_mem]
  unfold inW dnM
  simp only [Bool.and_eq_true]
theorem LeafF.pair (hu : Uniq ts) (h : LeafF ts level F) {key : Nat} (hk : key < 16) {x y : Int} (hx : x ∈ wrl ts F key) (hy : y ∈ wrl ts F key) (hxy : x ≠ y) : ∃ so, getM F ⟨2, key, min x y, max x y⟩ = some so := by
  obtain ⟨i, hi, rfl, di, wi⟩ := in_wrl.1 hx
  obtain ⟨j, hj, rfl, dj, wj⟩ := in_wrl.1 hy
  have si := is_alive hu (F := F) (i := i) di
  have sj := is_alive hu (F := F) (i := j) dj
  have hij : i ≠ j := fun e => hxy (by rw [e])
  have c : ∀ {a b : Nat}, wrOf ts a key = true → stOf ts a ≠ 2 → wrOf ts b key = true → stOf ts b ≠ 2 → condB ts key a b = true := fun wa sa wb sb => by
    unfold condB
    rw [wa, wb, bne_iff_ne.2 sa, bne_iff_ne.2 sb]; rfl
  rcases Nat.lt_or_gt_of_ne hij with h2 | h2
  · rw [show min (i : Int) j = i by omega, show max (i : Int) j = j by omega]
    exact all_said h.all (befK_in hk h2 hj (c wi si wj sj)) (.inr ⟨by simpa using di, by simpa using dj⟩)
  · rw [show min (i : Int) j = j by omega, show max (i : Int) j = i by omega]
    exact all_said h.all (befK_in hk h2 hi (c wj sj wi si)) (.inr ⟨by simpa using dj, by simpa using di⟩)
theorem wr_any {i : Nat} {key : Int} (h : wrOf ts i key = true) : ∃ t, ts[i]? = some t ∧ t.ops.any (wkB key) = true := by
  unfold wrOf at h
  cases ht : ts[i]? with
  | none => rw [ht] at h; cases h
  | some t => rw [ht] at h; exact ⟨t, rfl, h⟩
/-- Who is ahead of whom by the facts is so by an edge. -/
theorem ahead_edge {key x y : Int} (hx : x ∈ wrl ts F key) (hy : y ∈ wrl ts F key) (h : aheadOf F key x y = true) : (⟨x, y, 1⟩ : GEdge) ∈ edgeL ts F := by
  unfold aheadOf at h
  cases hg : getM F ⟨2, key, min x y, max x y⟩ with
  | none => rw [hg] at h; cases h
  | some so =>
    rw [hg] at h
    simp only [Bool.and_eq_true, bne_iff_ne, ne_eq, beq_iff_eq] at h
    obtain ⟨hne, hso⟩ := h
    have hw : ∀ {z : Int}, z ∈ wrl ts F key → has1 ts (dnM ts F) key z = true := fun hz => by
      obtain ⟨i, hi, rfl, di, wi⟩ := in_wrl.1 hz
      obtain ⟨t, ht, ha⟩ := wr_any wi
      exact has1_iff.2 ⟨i, t, rfl, ht, di, ha⟩
    refine edge_mem.2 (.inr (.inr ⟨(⟨2, key, min x y, max x y⟩, so), getM_some hg, x, y, rfl, ?_, ?_, .inl ⟨fun e => hne e.symm, rfl⟩⟩))
    · unfold hasM
      rcases Int.le_total x y with h1 | h1
      · rw [show min x y = x by omega, show max x y = y by omega, Bool.and_eq_true]; exact ⟨hw hx, hw hy⟩
      · rw [show min x y = y by omega, show max x y = x by omega, Bool.and_eq_true]; exact ⟨hw hy, hw hx⟩
    · rcases Int.lt_or_gt_of_ne hne with h1 | h1
      · right
        have : decide (x < y) = false := decide_eq_false (by omega)
        exact ⟨by rw [hso, this], by show x = max x y; omega, by show y = min x y; omega⟩
      · left
        have : decide (x < y) = true := decide_eq_true (by omega)
        exact ⟨by rw [hso, this], by show x = min x y; omega, by show y = max x y; omega⟩
theorem LeafF.row (hg : GoodTs ts) (hE : ∃ l, EdgesOf ts F l) (h : LeafF ts level F) {key : Nat} (hk : key < 16) : onceB F key (wrl ts F key) = true := by
  obtain ⟨l, hl⟩ := hE
  have tot : ∀ x ∈ wrl ts F key, ∀ y ∈ wrl ts F key, x ≠ y → aheadOf F key x y = true ∨ aheadOf F key y x = true := fun x hx y hy hxy => by
    obtain ⟨so, hs⟩ := h.pair hg.uniq hk hx hy hxy
    have hs' : getM F ⟨2, key, min y x, max y x⟩ = some so := by rw [Int.min_comm y x, Int.max_comm y x]; exact hs
    unfold aheadOf
    rw [hs, hs']
    simp only [Bool.and_eq_true, bne_iff_ne, ne_eq, beq_iff_eq]
    rcases Int.lt_or_gt_of_ne hxy with h1 | h1
    · have e1 : decide (x < y) = true := decide_eq_true h1
      have e2 : decide (y < x) = false := decide_eq_false (by omega)
      rw [e1, e2]
      cases so
      · exact .inr ⟨hxy, rfl⟩
      · exact .inl ⟨fun e => hxy e.symm, rfl⟩
    · have e1 : decide (x < y) = false := decide_eq_false (by omega)
      have e2 : decide (y < x) = true := decide_eq_true h1
      rw [e1, e2]
      cases so
      · exact .inl ⟨fun e => hxy e.symm, rfl⟩
      · exact .inr ⟨hxy, rfl⟩
  have arc : ∀ {x y : Int}, x ∈ wrl ts F key → y ∈ wrl ts F key → aheadOf F key x y = true → ArcK l (level == 1) x y := fun hx hy ha => .inl ⟨_, (hl.2 _).2 (ahead_edge hx hy ha), .inr (by show ¬ ((1 : Int) = 3); decide), rfl, rfl⟩
  have tr : ∀ x ∈ wrl ts F key, ∀ y ∈ wrl ts F key, ∀ z ∈ wrl ts F key, aheadOf F key x y = true → aheadOf F key y z = true → aheadOf F key x z = true := fun x hx y hy z hz h1 h2 => by
    by_cases hxz : x = z
    · subst hxz
      rw [aheadOf_asy F key x y h1] at h2; cases h2
    · rcases tot x hx z hz hxz with h3 | h3
      · exact h3
      · exact absurd ⟨l, hl, x, .more (arc hx hy h1) (.more (arc hy hz h2) (.one (arc hz hx h3)))⟩ h.nb
  obtain ⟨E, hp, hE⟩ := row_of (wrlK_nodup ts F key _) tot tr
  exact chain_once hp hE

/-- Who is done by some facts. -/
def dnL (ts : List GTxn) (F : FaL) : List Bool := (List.range ts.length).map (dnM ts F)
theorem dnL_at {i : Nat} (hi : i < ts.length) : (dnL ts F)[i]?.getD false = dnM ts F i := by
  unfold dnL
  rw [List.getElem?_map, List.getElem?_range hi]; rfl
theorem wrl_want (key : Int) : wrl ts F key = wantL ts (dnL ts F) key ts.length := by
  have h : ∀ n, n ≤ ts.length → wrlK ts F key n = wantL ts (dnL ts F) key n := by
    intro n
    induction n with
    | zero => intro _; rfl
    | succ n ih =>
      intro hn
      rw [wrlK_succ, wantL_succ, ih (by omega), dnL_at (by omega)]; rfl
  exact h _ (Nat.le_refl _)
theorem want_sorted (dn : List Bool) (key : Int) : ∀ n, (wantL ts dn key n).Pairwise (fun x y => x ≤ y) := by
  intro n
  induction n with
  | zero => simp [wantL]
  | succ n ih =>
    rw [wantL_succ, List.pairwise_append]
    refine ⟨ih, by split <;> simp, fun x hx y hy => ?_⟩
    obtain ⟨i, h1, rfl, _⟩ := wantL_mem.1 hx
    split at hy
    · simp at hy; subst hy; omega
    · simp at hy
theorem srt_is {dn : List Bool} {key : Int} {n : Nat} {l : List Int} (h : l.Perm (wantL ts dn key n)) : srt l = wantL ts dn key n :=
  ((srt_perm l).trans h).eq_of_pairwise (fun a b _ _ h1 h2 => by omega) (srt_sorted l) (want_sorted dn key n)
/-- The orders that check.Check tells. -/
theorem OrdC.row {N : Nat} {O : OrdL} {W : World} (hg : GoodTs ts) (hE : ∃ l, EdgesOf ts F l) (h : LeafF ts level F) (hO : OrdC ts F 16 N O W) {key : Nat} (hk : key < 16) : (wrl ts F key).Perm (ordL O key) ∧ (ordL O key).Pairwise (fun x y => aheadOf F key x y = true) := by
  obtain ⟨E, h1, _, h3, h4⟩ := hO.at_ key hk
  obtain ⟨h5, h6⟩ := h1 (h.row hg hE hk)
  have he : ordL O key = E := by
    by_cases hz : E = []
    · unfold ordL; rw [h3 hz, hz]; rfl
    · obtain ⟨v, h7, _⟩ := h4 hz
      exact ordL_of h7
  rw [he]; exact ⟨h5, h6⟩
theorem LeafF.fix {N : Nat} {O : OrdL} {W : World} (hg : GoodTs ts) (hE : ∃ l, EdgesOf ts F l) (h : LeafF ts level F) (hO : OrdC ts F 16 N O W) : FixF ts (dnL ts F) O F := by
  refine ⟨fun c hk => ?_, fun i hi => (dnL_at hi).symm, fun key hk => ?_, fun key hk b a x y hab hb ha hbb => ?_, fun c so hk hc => ?_⟩
  · by_cases hc : c ∈ choicesM ts
    · rw [if_pos hc]
      obtain ⟨so, hs⟩ := all_said h.all hc (.inl hk)
      rw [hs]
      have hc0 := hc
      unfold choicesM at hc0
      rw [List.mem_append] at hc0
      rcases hc0 with h1 | h1
      · unfold cmS at h1
        rw [List.mem_filterMap] at h1
        obtain ⟨i, hi, h1⟩ := h1
        rw [List.mem_range] at hi
        cases ht : ts[i]? with
        | none => rw [ht] at h1; cases h1
        | some t =>
          rw [ht] at h1
          simp only [Option.bind_some] at h1
          split at h1
          · rename_i ho
            cases h1
            unfold openB at ho
            simp only [Bool.and_eq_true, Bool.not_eq_true', decide_eq_true_eq, beq_iff_eq] at ho
            rw [Int.toNat_natCast, dnL_at hi]
            unfold dnM isM
            rw [if_neg (by rw [ho.1.2]; simp), if_neg ?_, hs]
            · rfl
            · unfold deadB stOf
              rw [ht]
              simp only [Option.map_some, Option.getD_some, Bool.or_eq_true, beq_iff_eq, not_or]
              omega
          · cases h1
      · obtain ⟨k, a, b, _, _, _, rfl⟩ := befK_mem h1
        simp at hk
    · rw [if_neg hc]
      cases hs : getM F c with
      | none => rfl
      | some so => exact absurd (h.ok.mem _ (getM_some hs)) hc
  · have h1 := (hO.row hg hE h hk).1
    exact srt_is (by rw [← wrl_want]; exact h1.symm)
  · have h1 := List.pairwise_iff_getElem.1 (hO.row hg hE h hk).2
    have la := (List.getElem?_eq_some_iff.1 ha).1
    have lb := (List.getElem?_eq_some_iff.1 hbb).1
    have h2 := h1 a b la lb hab
    rw [(List.getElem?_eq_some_iff.1 ha).2, (List.getElem?_eq_some_iff.1 hbb).2] at h2
    unfold aheadOf at h2
    cases hs : getM F ⟨2, key, min x y, max x y⟩ with
    | none => rw [hs] at h2; cases h2
    | some so =>
      rw [hs] at h2
      simp only [Bool.and_eq_true, beq_iff_eq] at h2
      rw [h2.2]
  · have hm := h.ok.mem _ (getM_some hc)
    obtain ⟨da, db⟩ := h.two c so hk hc
    unfold choicesM at hm
    rw [List.mem_append] at hm
    rcases hm with h1 | h1
    · obtain ⟨i, _, _, h2⟩ := cmS_mem h1
      simp only at h2
      subst h2; simp at hk
    · unfold befK at h1
      obtain ⟨key, hkey, h1⟩ := List.mem_flatMap.1 h1
      unfold befB at h1
      obtain ⟨b, hb, h1⟩ := List.mem_flatMap.1 h1
      unfold befA at h1
      obtain ⟨a, ha, h1⟩ := List.mem_filterMap.1 h1
      rw [List.mem_range] at hkey ha hb
      split at h1
      · rename_i hcond
        have h2 := Option.some.inj h1
        simp only at h2
        subst h2
        unfold condB at hcond
        simp only [Bool.and_eq_true] at hcond
        have p := (hO.row hg hE h hkey).1
        refine ⟨key, hkey, a, b, p.mem_iff.1 (in_wrl.2 ⟨a, by omega, rfl, by simpa using da, hcond.1.2⟩), p.mem_iff.1 (in_wrl.2 ⟨b, hb, rfl, by simpa using db, hcond.2⟩), by omega, ?_⟩
        rw [show min (a : Int) b = a by omega, show max (a : Int) b = b by omega]
      · cases h1
/-- What check.Check passes is shown. -/
theorem LeafF.pass {N : Nat} {O : OrdL} {W : World} (hg : GoodTs ts) (hE : ∃ l, EdgesOf ts F l) (hf : flawsM ts = []) (h : LeafF ts level F) (hO : OrdC ts F 16 N O W) : passB ts level (dnL ts F) O :=
  ⟨F, h.fix hg hE hO, h.ok.pw, hf, h.nb⟩
theorem OrdC.ordG {N : Nat} {O : OrdL} {W : World} (htl : ts.length ≤ 60) (hO : OrdC ts F 16 N O W) : OrdG W O := fun key v l hk hg => by
  obtain ⟨E, h1, h2, h3, h4⟩ := hO.at_ key hk
  by_cases hz : E = []
  · rw [h3 hz] at hg; cases hg
  · obtain ⟨v', h5, h6⟩ := h4 hz
    rw [h5] at hg
    cases hg
    have ho : onceB F key (wrl ts F key) = true := by
      cases hb : onceB F key (wrl ts F key) with
      | true => rfl
      | false => exact absurd (h2 hb) hz
    have p := (h1 ho).1
    have hl : l.length ≤ ts.length := by rw [← p.length_eq]; exact wrlK_le _ _ _ _
    refine ⟨h6.rdY (fun x hx => ?_), by omega⟩
    obtain ⟨i, hi, rfl, _⟩ := wrl_mem.1 (p.mem_iff.2 hx)
    unfold i64; omega
end
end Go.Proofs.YtnacoplokjdglaaGreat

namespace Go.Proofs.YtnacoplokjdglaaGreat
open Go.RowKit Go.Maps

theorem ltE_tri {a b : GEdge} (h : a ≠ b) : ltE a b ∨ ltE b a := by
  obtain ⟨f, t, k⟩ := a
  obtain ⟨f', t', k'⟩ := b
  unfold ltE
  simp only
  have : ¬ (f = f' ∧ t = t' ∧ k = k') := fun ⟨h1, h2, h3⟩ => h (by rw [h1, h2, h3])
  omega
open Classical in
theorem row_ex : ∀ xs : List GEdge, ∃ l : List GEdge, l.Pairwise ltE ∧ ∀ e, e ∈ l ↔ e ∈ xs
  | [] => ⟨[], List.Pairwise.nil, fun _ => Iff.rfl⟩
  | x :: xs => by
    obtain ⟨l, h1, h2⟩ := row_ex xs
    by_cases hx : x ∈ l
    · exact ⟨l, h1, fun e => by
        rw [List.mem_cons, h2]
        exact ⟨.inr, fun h => h.elim (fun e1 => by rw [e1]; exact (h2 x).1 hx) id⟩⟩
    · refine ⟨l.filter (fun y => decide (ltE y x)) ++ x :: l.filter (fun y => decide (ltE x y)), ?_, fun e => ?_⟩
      · rw [List.pairwise_append, List.pairwise_cons]
        refine ⟨h1.filter _, ⟨fun y hy => ?_, h1.filter _⟩, fun a ha b hb => ?_⟩
        · rw [List.mem_filter, decide_eq_true_eq] at hy; exact hy.2
        · rw [List.mem_filter, decide_eq_true_eq] at ha
          rcases List.mem_cons.1 hb with rfl | hb
          · exact ha.2
          · rw [List.mem_filter, decide_eq_true_eq] at hb
            exact ltE_trans ha.2 hb.2
      · rw [List.mem_append, List.mem_cons, List.mem_filter, List.mem_filter, List.mem_cons, ← h2, decide_eq_true_eq, decide_eq_true_eq]
        constructor
        · rintro (h | h | h)
          · exact .inr h.1
          · exact .inl h
          · exact .inr h.1
        · rintro (h | h)
          · exact .inr (.inl h)
          · by_cases he : e = x
            · exact .inr (.inl he)
            · rcases ltE_tri he with h3 | h3
              · exact .inl ⟨h, h3⟩
              · exact .inr (.inr ⟨h, h3⟩)
theorem edges_ex (ts : List GTxn) (L : FaL) : ∃ l, EdgesOf ts L l := row_ex (edgeL ts L)
end Go.Proofs.YtnacoplokjdglaaGreat

namespace Go.Proofs.YtnacoplokjdglaaGreat
open Go.RowKit
open Go.ChangeShapes Go.WideShapes
section
variable {H : Type} {enc : TypeId × Value → H} {w : World} {spare : Nat → Bool} {held : Bool}

theorem int_cell {m : Nat} {c : Value} {y : DataW H × List MemPlace} (h : DataW.trod enc Tryz.prog w 0 spare held m 3 [c] = some y) : ∃ n, c = vi n := by
  obtain ⟨n, hc, -, -⟩ := DataW.trod_int Tryz.underlying3 h
  exact ⟨n, by simpa using hc⟩

theorem cells_int : Tryz.prog.cellsOf 3 = 1 := by kernel_rfl
theorem cells_op : Tryz.prog.cellsOf 51 = 3 := by kernel_rfl
theorem cells_ops : Tryz.prog.cellsOf 47 = 1 := by kernel_rfl
theorem cells_event : Tryz.prog.cellsOf 53 = 3 := by kernel_rfl

set_option maxRecDepth 100000 in
theorem op_cells {m : Nat} {cs : List Value} {y : DataW H × List MemPlace} (hl : cs.length = 3) (h : DataW.trod enc Tryz.prog w 0 spare held m 51 cs = some y) : ∃ o, EOp w cs o := by
  obtain ⟨y0, y1, y2, n, -, -, h0, h1, h2⟩ := Deep.trod_struct3 Tryz.underlying51 h
  match cs, hl with
  | [c0, c1, c2], _ =>
    dsimp only at h0 h1 h2
    rw [cells_int] at h0 h1 h2
    obtain ⟨a, rfl⟩ := int_cell h0
    obtain ⟨b, rfl⟩ := int_cell h1
    obtain ⟨c, rfl⟩ := int_cell h2
    exact ⟨⟨a, b, c⟩, rfl⟩

set_option maxRecDepth 100000 in
theorem ops_read {m : Nat} {v : Value} {y : DataW H × List MemPlace} (h : DataW.trod enc Tryz.prog w 0 spare held m 47 [v] = some y) : ∃ l, RdOps w v l :=
  rds_of_trod Tryz.underlying47 cells_op (by omega) h fun _ _ _ hl hy => op_cells hl hy

set_option maxRecDepth 100000 in
theorem event_cells {m : Nat} {cs : List Value} {y : DataW H × List MemPlace} (hl : cs.length = 3) (h : DataW.trod enc Tryz.prog w 0 spare held m 53 cs = some y) : ∃ e, EEvent w cs e := by
  obtain ⟨y0, y1, y2, n, -, -, h0, h1, h2⟩ := Deep.trod_struct3 Tryz.underlying53 h
  match cs, hl with
  | [c0, c1, c2], _ =>
    dsimp only at h0 h1 h2
    rw [cells_int] at h0 h1
    rw [cells_ops] at h2
    obtain ⟨a, rfl⟩ := int_cell h0
    obtain ⟨b, rfl⟩ := int_cell h1
    obtain ⟨l, hr⟩ := ops_read h2
    exact ⟨⟨a, b, l⟩, c2, rfl, hr⟩

set_option maxRecDepth 100000 in
theorem events_of_trod {v : Value} {d : DataW H} {ps : List MemPlace} (hv : ∃ a l c, v = .slice a l c) (h : DataW.Trod enc Tryz.prog w 0 spare held 22 v d ps) : ∃ es, RdEvents w v es := by
  obtain ⟨fuel, hf⟩ := h
  obtain ⟨a, l, c, rfl⟩ := hv
  exact rds_of_trod Tryz.underlying22 cells_event (by omega) hf fun _ _ _ hl hy => event_cells hl hy
end
set_option maxRecDepth 100000 in
theorem events_of_row {H : Type} {enc : TypeId × Value → H} {w : World} {spare : Nat → Bool} {held : Bool} {base : Nat} {v : Value} {d : DataW H} {ps : List MemPlace} (hk : Value.okWide Tryz.prog w .any base 22 v) (h : DataW.Trod enc Tryz.prog w 0 spare held 22 v d ps) : ∃ es, RdEvents w v es :=
  events_of_trod (okWide_slice Tryz.underlying22 hk) h
end Go.Proofs.YtnacoplokjdglaaGreat
