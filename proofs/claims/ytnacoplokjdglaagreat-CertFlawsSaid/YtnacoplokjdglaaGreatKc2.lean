/- Texts of one proof, one behind the other: CtHd, L12f. -/
import Derived.RangeFuncNested
import Derived.RangeFuncBound
import Derived.RangeFuncCalls
import Derived.RangeFuncLeaves
import Derived.RangeFuncBox
import Derived.Shelf.Abstract
import Derived.Shelf.RegionOpen
import Derived.OwnWalkIn
import Derived.TacticsInMore
import Derived.LoopNIn
import Derived.LoopIn
import Derived.Test.YtnacoplokjdglaaGreatKa1
import Derived.Test.YtnacoplokjdglaaGreatKa2
import Derived.Test.YtnacoplokjdglaaGreatKa3
import Derived.Test.YtnacoplokjdglaaGreatKa4
import Derived.Test.YtnacoplokjdglaaGreatKa5
import Derived.Test.YtnacoplokjdglaaGreatKa6
import Derived.Test.YtnacoplokjdglaaGreatKa7
import Derived.Test.YtnacoplokjdglaaGreatKa8
import Derived.Test.YtnacoplokjdglaaGreatKa9
import Derived.Test.YtnacoplokjdglaaGreatKa10
import Derived.Test.YtnacoplokjdglaaGreatKa11
import Derived.Test.YtnacoplokjdglaaGreatKa12
import Derived.Test.YtnacoplokjdglaaGreatKa13
import Derived.Test.YtnacoplokjdglaaGreatKa14
import Derived.Test.YtnacoplokjdglaaGreatKa15
import Derived.Test.YtnacoplokjdglaaGreatKa16
import Derived.Test.YtnacoplokjdglaaGreatKa17
import Derived.Test.YtnacoplokjdglaaGreatKa18
import Derived.Test.YtnacoplokjdglaaGreatKa19
import Derived.Test.YtnacoplokjdglaaGreatKa20
import Derived.Test.YtnacoplokjdglaaGreatKa21
import Derived.Test.YtnacoplokjdglaaGreatKa22
import Derived.Test.YtnacoplokjdglaaGreatKa23
import Derived.Test.YtnacoplokjdglaaGreatKa24
import Derived.Test.YtnacoplokjdglaaGreatKc1
set_option linter.all false
namespace Go.Proofs.YtnacoplokjdglaaGreat
open Go.RowKit Go.Maps
attribute [local go_sem] Oper.semAt_some

set_option maxRecDepth 100000 in
set_option maxHeartbeats 1000000 in
theorem skew12_call (w : World) : Calls Tryz.prog 49 #[] w fun e w' => ∃ v, e = .returned v ∧ RdEvents w' v skewEv ∧ Below w.heap.size w w' := by
  have HT := Lib.hid (skew_rdE w)
  have HB := Lib.hid ((((Below.refl w.heap.size w).alloc (Nat.le_refl _) (.cells #[vi 1, vi 0, vi 0, vi 2, vi 1, vi 1] 51)).alloc (by simp) (.cells #[vi 1, vi 1, vi 0, vi 2, vi 0, vi 2] 51)).alloc (by simp; omega) (.cells #[vi 1, vi 1, .slice (some ⟨w.heap.size, 0, none⟩) 2 2, vi 1, vi 2, .slice (some ⟨w.heap.size + 1, 0, none⟩) 2 2, vi 2, vi 1, .slice (some ⟨w.heap.size, 0, none⟩) 2 2, vi 2, vi 2, .slice (some ⟨w.heap.size + 1, 0, none⟩) 2 2] 53))
  go_enter Tryz.func49, Tryz.ntmps49
  go_wp2_with fail
  go_ret
  exact ⟨_, rfl, HT.out, HB.out⟩

theorem skew_edges_is : EdgesOf skewT [] skewE := by
  have e0 : edgeL skewT [] = [⟨1, 0, 3⟩, ⟨0, 1, 3⟩] ∨ edgeL skewT [] = [⟨0, 1, 3⟩, ⟨1, 0, 3⟩] := by decide
  refine ⟨by simp [skewE, ltE], fun p => ?_⟩
  rcases e0 with e0 | e0 <;> rw [e0] <;> simp [skewE] <;> (constructor <;> (rintro (h | h) <;> simp [h]))
theorem sort_one (x : Int) : sortC [x] = [x] := by unfold sortC; rw [List.perm_singleton.1 (srt_perm [x])]; rfl
theorem skew_nt : nextT (sizeM skewT.length) (liftL skewE 2) = [[1], [0]] := by
  have h0 : sizeM skewT.length = 2 := by decide
  rw [h0]
  show [sortC (rawRow 2 (liftL skewE 2) 0), sortC (rawRow 2 (liftL skewE 2) 1)] = _
  rw [show rawRow 2 (liftL skewE 2) 0 = [1] from by decide, show rawRow 2 (liftL skewE 2) 1 = [0] from by decide, sort_one, sort_one]
theorem skew_isX {C : List Int} : IsCyc skewT [] 2 C ↔ isX (nextT (sizeM skewT.length) (liftL skewE 2)) C = true := isCyc_of skew_edges_is
theorem skew_t2 : treeC skewT 2 1 [] [[0, 1]] = some [] := by
  rw [treeC, if_pos (by decide), if_pos (skew_isX.2 (by rw [skew_nt]; decide))]
theorem skew_t1 : treeC skewT 2 1 [] [[0]] = none := by
  rw [treeC, if_pos (by decide), if_neg (fun h => absurd (skew_isX.1 h) (by rw [skew_nt]; decide))]
theorem skew_f2 : failB skewT 2 (0, 0, 0) [[0, 1]] = true := by
  rw [failB, if_pos skew_flaws]; exact (by rw [show ([[0, 1]] : List (List Int)).length = 1 from rfl, skew_t2]; rfl)
theorem skew_f1 : failB skewT 2 (0, 0, 0) [[0]] = false := by
  rw [failB, if_pos skew_flaws]; exact (by rw [show ([[0]] : List (List Int)).length = 1 from rfl, skew_t1]; rfl)

set_option maxRecDepth 100000 in
set_option maxHeartbeats 1000000 in
theorem failed_call (a : Option Addr) (n c : Nat) (C : List Int) (w : World) (hC : RdInts w (.slice a n c) C) : Calls Tryz.prog 50 #[.slice a n c] w fun e w' => ∃ (g : Nat), e = .returned (.agg #[vi 2, vi 0, vi 0, vi 0, vi 0, .slice (some ⟨g, 0, none⟩) 1 1, .slice none 0 0, .map none]) ∧ RdNodes w' (.slice (some ⟨g, 0, none⟩) 1 1) [C] ∧ Below w.heap.size w w' := by
  have HC := Lib.hid hC
  have HX := Lib.hid ((Below.heap_alloc (w.alloc (.cells #[vi 2, vi 0, vi 0, vi 0, vi 0, .slice (some ⟨w.heap.size + 1, 0, none⟩) 1 1, .slice none 0 0, .map none] 39)) (.cells #[.slice a n c] 70) w.heap.size (by simp)).trans (alloc_at w (.cells #[vi 2, vi 0, vi 0, vi 0, vi 0, .slice (some ⟨w.heap.size + 1, 0, none⟩) 1 1, .slice none 0 0, .map none] 39)))
  have HY := Lib.hid (show ((w.alloc (.cells #[vi 2, vi 0, vi 0, vi 0, vi 0, .slice (some ⟨w.heap.size + 1, 0, none⟩) 1 1, .slice none 0 0, .map none] 39)).alloc (.cells #[.slice a n c] 70)).heap[w.heap.size + 1]? = some (.cells #[.slice a n c] 70) from by
    have := alloc_at (w.alloc (.cells #[vi 2, vi 0, vi 0, vi 0, vi 0, .slice (some ⟨w.heap.size + 1, 0, none⟩) 1 1, .slice none 0 0, .map none] 39)) (.cells #[.slice a n c] 70)
    simpa using this)
  have HB := Lib.hid (((Below.refl w.heap.size w).alloc (Nat.le_refl _) (.cells #[vi 2, vi 0, vi 0, vi 0, vi 0, .slice (some ⟨w.heap.size + 1, 0, none⟩) 1 1, .slice none 0 0, .map none] 39)).alloc (by simp) (.cells #[.slice a n c] 70))
  clear hC
  go_enter Tryz.func50, Tryz.ntmps50
  go_wp2_with fail
  generalize (w.alloc (.cells #[vi 2, vi 0, vi 0, vi 0, vi 0, .slice (some ⟨w.heap.size + 1, 0, none⟩) 1 1, .slice none 0 0, .map none] 39)).alloc (.cells #[.slice a n c] 70) = W at *
  have x := fun j => cell_of HX.out j
  refine bodyPost_ret (v := .agg #[vi 2, vi 0, vi 0, vi 0, vi 0, .slice (some ⟨w.heap.size + 1, 0, none⟩) 1 1, .slice none 0 0, .map none]) (by simp [results, Tryz.results50, go_sem, x]) rfl ⟨w.heap.size + 1, rfl, ?_, HB.out⟩
  refine ⟨_, 1, 1, rfl, rfl, by simp, Nat.le_refl _, (fun h => (by cases h)), fun j D hj => ?_⟩
  match j, hj with
  | 0, hj =>
    cases hj
    refine ⟨w.heap.size + 1, 0, [.slice a n c], rfl, rfl, fun i u hu => ?_, _, rfl, RdS.below HC.out HB.out fun _ _ h => h⟩
    match i, hu with
    | 0, hu => cases hu; rw [cell_of HY.out]; rfl

set_option maxRecDepth 100000 in
set_option maxHeartbeats 8000000 in
theorem holds_short (v : Value) (es : List GEvent) (ts : List GTxn) (level s : Int) (f : Int × Int × Int) (na : Option Addr) (nn nc : Nat) (da : Option Addr) (dn dc : Nat) (om : Option Nat) (w : World) (hv : RdEvents w v es) (hes : es.length ≤ 60)
    (hh : histH es = some ts) (hlv : level = 1 ∨ level = 2) (hd : dn ≠ ts.length) (hdn : dn ≤ 4096) :
    Calls Tryz.prog 25 #[v, vi level, .agg #[vi 1, vi s, vi f.1, vi f.2.1, vi f.2.2, .slice na nn nc, .slice da dn dc, .map om]] w fun e w' => e = .returned (.bool false) ∧ Below w.heap.size w w' := by
  have HV := Lib.hid (hv.later ((Below.refl w.heap.size w).alloc (Nat.le_refl _) (.cells #[vi 1, vi s, vi f.1, vi f.2.1, vi f.2.2, .slice na nn nc, .slice da dn dc, .map om] 39)))
  have HX := Lib.hid (alloc_at w (.cells #[vi 1, vi s, vi f.1, vi f.2.1, vi f.2.2, .slice na nn nc, .slice da dn dc, .map om] 39))
  have HB0 := Lib.hid ((Below.refl w.heap.size w).alloc (Nat.le_refl _) (.cells #[vi 1, vi s, vi f.1, vi f.2.1, vi f.2.2, .slice na nn nc, .slice da dn dc, .map om] 39))
  have hw0 : (w.alloc (.cells #[vi 1, vi s, vi f.1, vi f.2.1, vi f.2.2, .slice na nn nc, .slice da dn dc, .map om] 39)).heap.size = w.heap.size + 1 := by simp
  have HH := Lib.hid hh
  have HG := Lib.hid (hist_good hes hh).1
  have hlen := HG.out.len
  clear hv hh
  go_enter Tryz.func25, Tryz.ntmps25
  go_upto_region 1 with fail
  generalize w.alloc (.cells #[vi 1, vi s, vi f.1, vi f.2.1, vi f.2.2, .slice na nn nc, .slice da dn dc, .map om] 39) = w0 at *
  go_upto_region 2 with (go_at_call 38; refine (hof_call _ es w0 HV.out hes).mono ?_; rintro e1 w1 ⟨v1, p1, err, rfl, hok1, hbad1, ⟨a1, n1, c1, rfl⟩, hb1⟩; have HOK := Lib.hid hok1; have HBAD := Lib.hid hbad1; have HB1 := Lib.hid (HB0.out.trans (hb1.mono HB0.out.size)); have HX1 := Lib.hid ((hb1.block _ (by omega)).trans HX.out); have hlt1 : w.heap.size < w1.heap.size := (by have := hb1.size; omega); clear hok1 hbad1 hb1)
  have h0 : err = 0 := by
    by_cases h : err = 0
    · exact h
    · have := HBAD.out h
      rw [HH.out] at this; cases this
  obtain ⟨ts', hts, hrd⟩ := HOK.out h0
  rw [HH.out] at hts
  cases hts
  have HRD := Lib.hid hrd
  obtain ⟨_, _, _, e5, e6, -, -⟩ := hrd.at
  cases e5
  subst e6
  subst h0
  clear hrd
  have hwb := HB1.out.size
  rcases hlv with rfl | rfl
  all_goals
    go_upto_region 5 with (go_at_call 39; refine (all_call _ ts w1 HRD.out HG.out.ok (by omega) HG.out.uniq).mono ?_; rintro e2 w2 ⟨v2, rfl, ho2, hb2⟩; have HB2 := Lib.hid (HB1.out.trans (hb2.mono hwb)); have HX2 := Lib.hid ((hb2.block _ hlt1).trans HX1.out); clear ho2 hb2)
    have x0 : w2.cell? ⟨w.heap.size, 0, none⟩ = some (vi 1) := by rw [cell_of HX2.out]; rfl
    have x6 : w2.cell? ⟨w.heap.size, 6, none⟩ = some (.slice da dn dc) := by rw [cell_of HX2.out]; rfl
    have x7 : w2.cell? ⟨w.heap.size, 7, none⟩ = some (.map om) := by rw [cell_of HX2.out]; rfl
    have HFX := Lib.hid (fix_short a1 c1 ts.length da dc dn (.map om) w2 hd (by omega) hdn)
    have HBX := HB2.out
    clear hd
    go_wp2_with (go_at_call 51; refine HFX.out.mono ?_; rintro e3 w3 ⟨rfl, rfl⟩)
    go_ret
    exact ⟨rfl, HBX⟩

theorem i64_0 : i64 0 := by unfold i64; omega
theorem i64_1 : i64 1 := by unfold i64; omega
theorem rdi_lit2 (w : World) (x y : Int) (hx1 : i64 x) (hy1 : i64 y) : RdInts (w.alloc (.cells #[vi x, vi y] 3)) (.slice (some ⟨w.heap.size, 0, none⟩) 2 2) [x, y] := by
  refine ⟨_, 2, 2, rfl, rfl, by simp, Nat.le_refl _, (fun h => (by cases h)), fun j D hj => ?_⟩
  have hx := alloc_at w (.cells #[vi x, vi y] 3)
  match j, hj with
  | 0, hj =>
    cases hj
    refine ⟨w.heap.size, 0, [vi x], rfl, rfl, fun i u hu => ?_, rfl, hx1⟩
    match i, hu with
    | 0, hu => cases hu; rw [cell_of hx]; rfl
  | 1, hj =>
    cases hj
    refine ⟨w.heap.size, 0, [vi y], rfl, rfl, fun i u hu => ?_, rfl, hy1⟩
    match i, hu with
    | 0, hu => cases hu; rw [cell_of hx]; rfl
theorem rdi_lit1 (w : World) (x : Int) (hx1 : i64 x) : RdInts (w.alloc (.cells #[vi x] 3)) (.slice (some ⟨w.heap.size, 0, none⟩) 1 1) [x] := by
  refine ⟨_, 1, 1, rfl, rfl, by simp, Nat.le_refl _, (fun h => (by cases h)), fun j D hj => ?_⟩
  have hx := alloc_at w (.cells #[vi x] 3)
  match j, hj with
  | 0, hj =>
    cases hj
    refine ⟨w.heap.size, 0, [vi x], rfl, rfl, fun i u hu => ?_, rfl, hx1⟩
    match i, hu with
    | 0, hu => cases hu; rw [cell_of hx]; rfl
theorem skew_holds2 (v : Value) (g : Nat) (w : World) (hv : RdEvents w v skewEv) (hN : RdNodes w (.slice (some ⟨g, 0, none⟩) 1 1) [[0, 1]]) : Calls Tryz.prog 25 #[v, vi 2, .agg #[vi 2, vi 0, vi 0, vi 0, vi 0, .slice (some ⟨g, 0, none⟩) 1 1, .slice none 0 0, .map none]] w fun e w' => e = .returned (.bool true) ∧ Below w.heap.size w w' :=
  (holds_fail v skewEv skewT 2 0 (0, 0, 0) _ _ _ none 0 0 none w hv (by decide) skew_hist (.inr rfl) [[0, 1]] hN (by decide)).mono (by rw [skew_f2]; exact fun _ _ h => h)
theorem skew_holds1 (v : Value) (g : Nat) (w : World) (hv : RdEvents w v skewEv) (hN : RdNodes w (.slice (some ⟨g, 0, none⟩) 1 1) [[0]]) : Calls Tryz.prog 25 #[v, vi 2, .agg #[vi 2, vi 0, vi 0, vi 0, vi 0, .slice (some ⟨g, 0, none⟩) 1 1, .slice none 0 0, .map none]] w fun e w' => e = .returned (.bool false) ∧ Below w.heap.size w w' :=
  (holds_fail v skewEv skewT 2 0 (0, 0, 0) _ _ _ none 0 0 none w hv (by decide) skew_hist (.inr rfl) [[0]] hN (by decide)).mono (by rw [skew_f1]; exact fun _ _ h => h)
theorem skew_holds0 (v : Value) (w : World) (hv : RdEvents w v skewEv) : Calls Tryz.prog 25 #[v, vi 2, .agg #[vi 1, vi 0, vi 0, vi 0, vi 0, .slice none 0 0, .slice none 0 0, .map none]] w fun e w' => e = .returned (.bool false) ∧ Below w.heap.size w w' :=
  holds_short v skewEv skewT 2 0 (0, 0, 0) none 0 0 none 0 0 none w hv (by decide) skew_hist (.inr rfl) (by decide) (by decide)

set_option maxRecDepth 100000 in
set_option maxHeartbeats 4000000 in
theorem head12_call (w : World) : Calls Tryz.prog 23 #[] w fun e w' => e = .returned (.bool true) ∧ Below w.heap.size w w' := by
  go_enter Tryz.func23, Tryz.ntmps23
  go_wp2_with (first
    | (go_at_call 25; ((with_reducible refine (skew_holds0 _ w7 HR7.out).mono ?_); rintro e8 w8 ⟨rfl, hb8⟩; have HB8 := Lib.hid (HB7.out.trans (hb8.mono HB7.out.size)); clear hb8))
    | (go_at_call 49; ((with_reducible refine (skew12_call w6).mono ?_); rintro e7 w7 ⟨v7, rfl, hr7, hb7⟩; have HR7 := Lib.hid hr7; have HB7 := Lib.hid (HB6.out.trans (hb7.mono HB6.out.size)); clear hr7 hb7))
    | (go_at_call 25; ((with_reducible refine (skew_holds1 _ g5 w5 HR5.out HN5.out).mono ?_); rintro e6 w6 ⟨rfl, hb6⟩; have HB6 := Lib.hid (HB5.out.trans (hb6.mono HB5.out.size)); clear hb6))
    | (go_at_call 50; refine (failed_call _ _ _ [0] _ (rdi_lit1 w4 0 i64_0)).mono ?_; rintro e5 w5 ⟨g5, rfl, hn5, hb5⟩; have HN5 := Lib.hid hn5; have hb45 := ((Below.refl w4.heap.size w4).alloc (Nat.le_refl _) (.cells #[vi 0] 3)).trans (hb5.mono (by simp)); have HB5 := Lib.hid (HB4.out.trans (hb45.mono HB4.out.size)); have HR5 := Lib.hid (HR4.out.later hb45); clear hn5 hb5 hb45)
    | (go_at_call 49; ((with_reducible refine (skew12_call w3).mono ?_); rintro e4 w4 ⟨v4, rfl, hr4, hb4⟩; have HR4 := Lib.hid hr4; have HB4 := Lib.hid (HB3.out.trans (hb4.mono HB3.out.size)); clear hr4 hb4))
    | (go_at_call 25; ((with_reducible refine (skew_holds2 _ g2 w2 HR2.out HN2.out).mono ?_); rintro e3 w3 ⟨rfl, hb3⟩; have HB3 := Lib.hid (HB2.out.trans (hb3.mono HB2.out.size)); clear hb3))
    | (go_at_call 50; refine (failed_call _ _ _ [0, 1] _ (rdi_lit2 w1 0 1 i64_0 i64_1)).mono ?_; rintro e2 w2 ⟨g2, rfl, hn2, hb2⟩; have HN2 := Lib.hid hn2; have hb12 := ((Below.refl w1.heap.size w1).alloc (Nat.le_refl _) (.cells #[vi 0, vi 1] 3)).trans (hb2.mono (by simp)); have HB2 := Lib.hid (HB1.out.trans (hb12.mono HB1.out.size)); have HR2 := Lib.hid (HR1.out.later hb12); clear hn2 hb2 hb12)
    | (go_at_call 49; refine (skew12_call w).mono ?_; rintro e1 w1 ⟨v1, rfl, hr1, hb1⟩; have HR1 := Lib.hid hr1; have HB1 := Lib.hid hb1; clear hr1 hb1))
  go_ret
  exact ⟨rfl, HB8.out⟩
end Go.Proofs.YtnacoplokjdglaaGreat

namespace Go.Proofs.YtnacoplokjdglaaGreat
open Go.RowKit Go.Maps
theorem eqInt12 (d : Nat) (a b : Int) (w : World) : (Op.equalIn (d + 1) 3 (vi a) (vi b)).run Tryz.prog w = .ok (a == b) w := by
  simp [Op.equalIn, run_underlying Tryz.underlying3]
set_option maxRecDepth 100000 in
theorem eqB3_in (d : Nat) (x y : Int × Int × Int) (w : World) : (Op.equalIn (d + 1 + 1) 46 (flA x) (flA y)).run Tryz.prog w = .ok (x == y) w := by
  have p0 : ∀ a b c w, (part 3 #[vi a, vi b, vi c] 0).run Tryz.prog w = .ok (vi a) w := fun _ _ _ _ => by kernel_rfl
  have p1 : ∀ a b c w, (part 3 #[vi a, vi b, vi c] 1).run Tryz.prog w = .ok (vi b) w := fun _ _ _ _ => by kernel_rfl
  have p2 : ∀ a b c w, (part 3 #[vi a, vi b, vi c] 2).run Tryz.prog w = .ok (vi c) w := fun _ _ _ _ => by kernel_rfl
  have hsz : ∀ w, (sizeOf 3).run Tryz.prog w = .ok 1 w := fun _ => by kernel_rfl
  have hd : (x == y) = (x.1 == y.1 && (x.2.1 == y.2.1 && x.2.2 == y.2.2)) := by
    obtain ⟨a, b, c⟩ := x; obtain ⟨a', b', c'⟩ := y
    rw [Bool.eq_iff_iff]; simp
  rw [hd]
  unfold Op.equalIn flA
  by_cases h1 : x.1 = y.1 <;> by_cases h2 : x.2.1 = y.2.1 <;> by_cases h3 : x.2.2 = y.2.2 <;> simp [run_underlying Tryz.underlying46, hsz, eqInt12, p0, p1, p2, h1, h2, h3, Result.andThen, List.range', List.forIn_cons, List.forIn_nil]
theorem eqB3 (x y : Int × Int × Int) (w : World) : (binOp .eql 46 (.agg #[vi x.1, vi x.2.1, vi x.2.2]) (.agg #[vi y.1, vi y.2.1, vi y.2.2])).run Tryz.prog w = .ok (.bool (x == y)) w := by
  have h : (Op.equal 46 (.agg #[vi x.1, vi x.2.1, vi x.2.2]) (.agg #[vi y.1, vi y.2.1, vi y.2.2])).run Tryz.prog w = .ok (x == y) w := eqB3_in 9998 x y w
  simp only [binOp]
  simp [h]
/-- A flaw, as the row reads it. -/
def FwV (v : Value) (f : Int × Int × Int) : Prop := v = flA f
section
open Go.ChangeShapes Go.WideShapes
variable {H : Type} {enc : TypeId × Value → H} {w : World} {spare : Nat → Bool} {held : Bool}
theorem cells_flaw : Tryz.prog.cellsOf 32 = 3 := by kernel_rfl
set_option maxRecDepth 100000 in
theorem flaw_cells {m : Nat} {cs : List Value} {y : DataW H × List MemPlace} (hl : cs.length = 3) (h : DataW.trod enc Tryz.prog w 0 spare held m 32 cs = some y) : ∃ f : Int × Int × Int, cs = [vi f.1, vi f.2.1, vi f.2.2] := by
  obtain ⟨y0, y1, y2, n, -, -, h0, h1, h2⟩ := Deep.trod_struct3 Tryz.underlying32 h
  match cs, hl with
  | [c0, c1, c2], _ =>
    dsimp only at h0 h1 h2
    rw [cells_int] at h0 h1 h2
    obtain ⟨a, rfl⟩ := int_cell h0
    obtain ⟨b, rfl⟩ := int_cell h1
    obtain ⟨c, rfl⟩ := int_cell h2
    exact ⟨(a, b, c), rfl⟩
set_option maxRecDepth 100000 in
theorem flaw_of_row {base : Nat} {v : Value} {d : DataW H} {ps : List MemPlace} (hk : Value.okWide Tryz.prog w .any base 32 v) (h : DataW.Trod enc Tryz.prog w 0 spare held 32 v d ps) : ∃ f, FwV v f := by
  obtain ⟨cs, rfl, hsz⟩ := okWide_struct Tryz.underlying32 hk
  obtain ⟨fuel, hf⟩ := h
  obtain ⟨e, he⟩ := flaw_cells (cs := cs.toList) (by rw [Array.length_toList]; exact hsz.trans cells_flaw) hf
  refine ⟨e, ?_⟩
  unfold FwV flA
  rw [← he]
end
theorem any_sym (f : Int × Int × Int) (l : List (Int × Int × Int)) : l.any (fun o => f == o) = l.any (fun o => o == f) := by
  congr 1; funext o; rw [Bool.eq_iff_iff, beq_iff_eq, beq_iff_eq]; exact ⟨Eq.symm, Eq.symm⟩
theorem failB_nil (ts : List GTxn) (level : Int) (f : Int × Int × Int) : failB ts level f [] = (flawsM ts).any (fun o => o == f) := by
  unfold failB
  split
  · rename_i h; rw [h, show ([] : List (List Int)).length = 0 from rfl, treeC]; rfl
  · exact any_sym _ _
theorem RdNodes.none0 (w : World) : RdNodes w (.slice none 0 0) [] := ⟨none, 0, 0, rfl, rfl, by simp, Nat.le_refl _, fun _ => ⟨rfl, rfl⟩, fun j x hj => by simp at hj⟩
end Go.Proofs.YtnacoplokjdglaaGreat
namespace Go.Proofs.YtnacoplokjdglaaGreat.certFlaws
open Go.RowKit Go.Maps
attribute [local go_sem] Oper.semAt_some

set_option maxRecDepth 100000 in
set_option maxHeartbeats 8000000 in
theorem walk (v fv : Value) (es : List GEvent) (f : Int × Int × Int) (w : World) (hv : RdEvents w v es) (hf : FwV fv f) :
    Calls Tryz.prog 10 #[v, fv] w fun e w' => e = .returned (.bool true) ∧ Below w.heap.size w w' := by
  cases hf
  have HV := Lib.hid hv
  obtain ⟨a, n, c, rfl, rfl, hm, -⟩ := hv.at
  have HX0 := Lib.hid (alloc_at w (.cells #[vi f.1, vi f.2.1, vi f.2.2] 32))
  have HB0 := Lib.hid ((Below.refl w.heap.size w).alloc (Nat.le_refl _) (.cells #[vi f.1, vi f.2.1, vi f.2.2] 32))
  have hw0 : (w.alloc (.cells #[vi f.1, vi f.2.1, vi f.2.2] 32)).heap.size = w.heap.size + 1 := by simp
  clear hv
  unfold flA
  go_enter Tryz.func10, Tryz.ntmps10
  go_upto_region 1 with fail
  generalize w.alloc (.cells #[vi f.1, vi f.2.1, vi f.2.2] 32) = w0 at *
  go_upto_region 3 with (go_at_call 23; refine (head12_call w0).mono ?_; rintro e1 w1 ⟨rfl, hb1⟩; have HB1 := Lib.hid (HB0.out.trans (hb1.mono HB0.out.size)); have HX1 := Lib.hid ((hb1.block _ (by omega)).trans HX0.out); have hlt1 : w.heap.size < w1.heap.size := (by have := hb1.size; omega); clear hb1)
  have HR1 := Lib.hid (HV.out.later HB1.out)
  go_upto_region 4 with (go_at_call 14; refine (of_callA _ es w1 HR1.out).mono ?_; rintro e2 w2 ⟨v2, p2, err, rfl, hok2, hbad2, ⟨a2, n2, c2, rfl⟩, hb2⟩; have HOK2 := Lib.hid hok2; have HB2 := Lib.hid (HB1.out.trans (hb2.mono HB1.out.size)); have HX2 := Lib.hid ((hb2.block _ hlt1).trans HX1.out); have hlt2 : w.heap.size < w2.heap.size := (by have := hb2.size; omega); clear hok2 hbad2 hb2)
  by_cases h0 : err = 0
  case neg =>
    have c0 := bne_t h0
    clear h0
    go_wp2_with fail
    go_ret
    exact ⟨rfl, HB2.out⟩
  obtain ⟨ts, hts, hrd⟩ := HOK2.out h0
  have HTS := Lib.hid hts
  have HRD := Lib.hid hrd
  obtain ⟨_, _, _, e5, e6, -, -⟩ := hrd.at
  cases e5
  subst e6
  subst h0
  clear hts hrd
  by_cases h1 : (60 : Int) < es.length
  case pos =>
    have d1 : decide ((60 : Int) < es.length) = true := decide_eq_true h1
    clear h1
    go_wp2_with fail
    go_ret
    exact ⟨rfl, HB2.out⟩
  have d1 : decide ((60 : Int) < es.length) = false := decide_eq_false h1
  have hes : es.length ≤ 60 := by omega
  clear h1
  have HG := Lib.hid (hist_good hes HTS.out).1
  have hlen := HG.out.len
  obtain ⟨F, hF⟩ : ∃ F, flawsM ts = F := ⟨_, rfl⟩
  have HF := Lib.hid hF
  clear hF
  go_upto_region 8 with (go_at_call 21; refine (flaws_call _ ts w2 HRD.out HG.out.ok (by omega)).mono ?_; rw [HF.out]; rintro e3 w3 ⟨v3, rfl, ho3, hb3⟩; have HB3 := Lib.hid (HB2.out.trans (hb3.mono HB2.out.size)); have HX3 := Lib.hid ((hb3.block _ hlt2).trans HX2.out); have hlt3 : w.heap.size < w3.heap.size := (by have := hb3.size; omega); have HR3 := Lib.hid (HV.out.later HB3.out); have HO3 := Lib.hid (show RdFw w3 v3 F from rds_of_own (V := flV) (fun _ => rfl) ho3); obtain ⟨a3, c3, rfl⟩ := Gr.own_shape (show w3.ownsRow w2.heap.size 46 3 v3 F.length _ from ho3); clear ho3 hb3)
  obtain ⟨_, _, _, e5, _, hFl, -⟩ := HO3.out.at
  cases e5
  go_wp2_with fail
  go_loopw [8, 32] (fun m i wr => ∃ k : Nat, k ≤ F.length ∧ i = .int .i64 k ∧ m = .bool ((F.take k).any (fun o => o == f)) ∧ Below w3.heap.size w3 wr) (fun _ i _ => F.length - (intOf i).toNat)
  case atStart => exact ⟨0, Nat.zero_le _, rfl, by simp, Below.refl _ _⟩
  case round =>
    obtain ⟨wj, rfl⟩ : ∃ wj : World, wj = wr := ⟨_, rfl⟩
    obtain ⟨k, hk, rfl, rfl, hb⟩ := hrel
    have HBj := Lib.hid hb
    have HXj := Lib.hid ((hb.block _ hlt3).trans HX3.out)
    have hltj : w.heap.size < wj.heap.size := by have := hb.size; omega
    clear hb
    by_cases hlt : k < F.length
    · have hltI : (k : Int) < (F.length : Int) := by omega
      obtain ⟨o, ho⟩ := some_at hlt
      obtain ⟨_, _, _, e5, _, -, hcl⟩ := HO3.out.at
      cases e5
      obtain ⟨b, off, rfl, k0', k1', k2'⟩ := hcl k o ho
      have k0 := cell_later HBj.out k0'
      have k1 := cell_later HBj.out k1'
      have k2 := cell_later HBj.out k2'
      have HA := Lib.hid ((Below.refl wj.heap.size wj).alloc (Nat.le_refl _) (.cells #[vi o.1, vi o.2.1, vi o.2.2] 46))
      have HY := Lib.hid (alloc_at wj (.cells #[vi o.1, vi o.2.1, vi o.2.2] 46))
      have HTK := Lib.hid (show (F.take (k + 1)).any (fun o => o == f) = ((F.take k).any (fun o => o == f) || (o == f)) from by
        rw [List.take_add_one, ho]; simp)
      have HBn := Lib.hid (HBj.out.trans (HA.out.mono HBj.out.size))
      have HXn := Lib.hid ((HA.out.block _ hltj).trans HXj.out)
      clear hcl ho k0' k1' k2'
      go_upto_region 11 with fail
      clear k0 k1 k2
      generalize wj.alloc (.cells #[vi o.1, vi o.2.1, vi o.2.2] 46) = wn at *
      have x0 : wn.cell? ⟨w.heap.size, 0, none⟩ = some (vi f.1) := by rw [cell_of HXn.out]; rfl
      have x1 : wn.cell? ⟨w.heap.size, 1, none⟩ = some (vi f.2.1) := by rw [cell_of HXn.out]; rfl
      have x2 : wn.cell? ⟨w.heap.size, 2, none⟩ = some (vi f.2.2) := by rw [cell_of HXn.out]; rfl
      have y0 : wn.cell? ⟨wj.heap.size, 0, none⟩ = some (vi o.1) := by rw [cell_of HY.out]; rfl
      have y1 : wn.cell? ⟨wj.heap.size, 1, none⟩ = some (vi o.2.1) := by rw [cell_of HY.out]; rfl
      have y2 : wn.cell? ⟨wj.heap.size, 2, none⟩ = some (vi o.2.2) := by rw [cell_of HY.out]; rfl
      cases hp : (F.take k).any (fun o => o == f) with
      | true =>
        rw [hp] at HTK
        clear hp
        go_wp2_with fail
        go_roundw
        case rel => exact ⟨k + 1, by omega, by go_num, by rw [HTK.out]; rfl, HBn.out⟩
        case measure => simp [intOf]; omega
      | false =>
        have hq := eqB3 o f
        rw [hp] at HTK
        cases hh : (o == f) with
        | true =>
          rw [hh] at hq HTK
          clear hh hp
          go_wp2_with fail
          go_roundw
          case rel => exact ⟨k + 1, by omega, by go_num, by rw [HTK.out]; rfl, HBn.out⟩
          case measure => simp [intOf]; omega
        | false =>
          rw [hh] at hq HTK
          clear hh hp
          go_wp2_with fail
          go_roundw
          case rel => exact ⟨k + 1, by omega, by go_num, by rw [HTK.out]; rfl, HBn.out⟩
          case measure => simp [intOf]; omega
    · obtain rfl : k = F.length := by omega
      have HBW := Lib.hid (HB3.out.trans (HBj.out.mono HB3.out.size))
      have HRj := Lib.hid (HV.out.later HBW.out)
      rw [List.take_length]
      obtain ⟨m, hm⟩ : ∃ m, F.any (fun o => o == f) = m := ⟨_, rfl⟩
      have HM := Lib.hid (show ∀ lv, failB ts lv f [] = m from fun lv => by rw [failB_nil, HF.out, hm])
      rw [hm]
      clear hm
      have x0 : wj.cell? ⟨w.heap.size, 0, none⟩ = some (vi f.1) := by rw [cell_of HXj.out]; rfl
      have x1 : wj.cell? ⟨w.heap.size, 1, none⟩ = some (vi f.2.1) := by rw [cell_of HXj.out]; rfl
      have x2 : wj.cell? ⟨w.heap.size, 2, none⟩ = some (vi f.2.2) := by rw [cell_of HXj.out]; rfl
      have HA := Lib.hid ((Below.refl wj.heap.size wj).alloc (Nat.le_refl _) (.cells #[vi 2, vi 0, vi f.1, vi f.2.1, vi f.2.2, .slice none 0 0, .slice none 0 0, .map none] 39))
      have HY := Lib.hid (alloc_at wj (.cells #[vi 2, vi 0, vi f.1, vi f.2.1, vi f.2.2, .slice none 0 0, .slice none 0 0, .map none] 39))
      have hwa : (wj.alloc (.cells #[vi 2, vi 0, vi f.1, vi f.2.1, vi f.2.2, .slice none 0 0, .slice none 0 0, .map none] 39)).heap.size = wj.heap.size + 1 := by simp
      go_upto_region 14 with fail
      clear x0 x1 x2
      generalize wj.alloc (.cells #[vi 2, vi 0, vi f.1, vi f.2.1, vi f.2.2, .slice none 0 0, .slice none 0 0, .map none] 39) = wa at *
      have HBA := Lib.hid (HBW.out.trans (HA.out.mono HBW.out.size))
      have HRA := Lib.hid (HV.out.later HBA.out)
      have y := fun j => cell_of HY.out j
      have hlta : wj.heap.size < wa.heap.size := by omega
      cases m
      all_goals
        go_wp2_with (first
          | (go_at_call 25; refine (holds_fail _ es ts 1 0 f none 0 0 none 0 0 none w5 (HRA.out.later HB5.out) hes HTS.out (.inl rfl) [] (RdNodes.none0 w5) (fun _ h => by cases h)).mono ?_; rw [HM.out]; rintro e6 w6 ⟨rfl, hb6⟩; have HB6 := Lib.hid (HBA.out.trans ((HB5.out.trans (hb6.mono HB5.out.size)).mono HBA.out.size)); clear hb6)
          | (go_at_call 25; refine (holds_fail _ es ts 2 0 f none 0 0 none 0 0 none wa HRA.out hes HTS.out (.inr rfl) [] (RdNodes.none0 wa) (fun _ h => by cases h)).mono ?_; rw [HM.out]; rintro e5 w5 ⟨rfl, hb5⟩; have HB5 := Lib.hid hb5; have HY5 := Lib.hid ((hb5.block _ hlta).trans HY.out); have y5 := fun j => cell_of HY5.out j; clear hb5))
        go_ret
        exact ⟨rfl, HB6.out⟩
end Go.Proofs.YtnacoplokjdglaaGreat.certFlaws
