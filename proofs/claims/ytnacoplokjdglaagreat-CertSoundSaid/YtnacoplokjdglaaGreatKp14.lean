/- Texts of one proof, one behind the other: DpEd5, DpEd6, DpEd7, DpEd8. -/
import Derived.Test.YtnacoplokjdglaaGreatKp1
import Derived.Test.YtnacoplokjdglaaGreatKp2
import Derived.Test.YtnacoplokjdglaaGreatKp3
import Derived.Test.YtnacoplokjdglaaGreatKp4
import Derived.Test.YtnacoplokjdglaaGreatKp5
import Derived.Test.YtnacoplokjdglaaGreatKp6
import Derived.Test.YtnacoplokjdglaaGreatKp8
import Derived.Test.YtnacoplokjdglaaGreatKp9
import Derived.Test.YtnacoplokjdglaaGreatKp10
import Derived.Test.YtnacoplokjdglaaGreatKp11
import Derived.Test.YtnacoplokjdglaaGreatKp12
import Derived.Test.YtnacoplokjdglaaGreatKp13
set_option linter.all false
namespace Go.Proofs.YtnacoplokjdglaaGreat
open Go.RowKit Go.Maps
attribute [local go_sem] Oper.semAt_some

theorem rwR_len (i : Nat) (key : Int) (r : GRd) : (rwR i key r).length ≤ 1 := by
  unfold rwR; split
  · exact addE_len _ _ _
  · simp
theorem rwO_len (R : List GRd) (i : Nat) (o : GOp) : (rwO R i o).length ≤ R.length := by
  have := flatMap_le 1 (rwR_len i o.key) R
  unfold rwO; omega
noncomputable def cEdM : Code := (Tryz.f77.body.bind (blockOf 10)).getD .skip
noncomputable def cEdN : Code := (Tryz.f77.body.bind (blockOf 8)).getD .skip
theorem EdS.ops {w A B : World} {b0 : Nat} {ts : List GTxn} {dn : Nat → Bool} {dv rv wv : Value} {E : List GEdge} {R : List GRd} {ws : List GOp} (h : EdS w b0 ts dn dv rv E R A) (ht : EdT w.heap.size b0 A B) (hw : OwOps w.heap.size A wv ws) : OwOps w.heap.size B wv ws := by
  obtain ⟨v, hb, -⟩ := h.ed.box
  exact ht.row hw (by decide) (rowNe hw hb (by decide))
theorem OwOps.laterD {N : Nat} {A B : World} {wv : Value} {ws : List GOp} (h : OwOps N A wv ws) (hb : Below A.heap.size A B) : OwOps N B wv ws := own_below h hb

set_option maxRecDepth 1000000 in
set_option maxHeartbeats 8000000 in
theorem edM (w : World) (b0 ob : Nat) (ts : List GTxn) (mv dv tsv wv : Value) (dn : Nat → Bool) (E1 : List GEdge) (R : List GRd) (ra : Option Addr) (rc i j : Nat) (o : GOp) (ws : List GOp) (f : Nat → Value) (W : World) (K : Act → World → Prop) (hS : EdS w b0 ts dn dv (.slice ra R.length rc) E1 R W) (hw : OwOps w.heap.size W wv ws) (hob : W.heap[ob]? = some (.cells #[vi o.kind, vi o.key, vi o.val] 51)) (hl : E1.length + R.length ≤ 1000000000)
    (e0 : f 0 = tsv) (e1 : f 1 = mv) (e5 : f 5 = .pointer (some ⟨b0, 0, none⟩)) (e6 : f 6 = dv) (e8 : f 8 = cloE b0) (e9 : f 9 = .slice ra R.length rc) (e16 : f 16 = vi (i : Int)) (e19 : f 19 = .pointer (some ⟨ob, 0, none⟩)) (e100 : f 100 = tsv) (e101 : f 101 = .int .i64 (ts.length : Int)) (e102 : f 102 = .int .i64 (i : Int)) (e113 : f 113 = wv) (e114 : f 114 = .int .i64 (ws.length : Int)) (e115 : f 115 = .int .i64 (j : Int)) (e119 : f 119 = .slice ra R.length rc) (e120 : f 120 = .int .i64 (R.length : Int)) (e121 : f 121 = .int .i64 0)
    (hK : ∀ (g : Nat → Value) W', g 0 = tsv → g 1 = mv → g 5 = .pointer (some ⟨b0, 0, none⟩) → g 6 = dv → g 8 = cloE b0 → g 9 = .slice ra R.length rc → g 16 = vi (i : Int) → g 100 = tsv → g 101 = .int .i64 (ts.length : Int) → g 102 = .int .i64 (i : Int) → g 113 = wv → g 114 = .int .i64 (ws.length : Int) → g 115 = .int .i64 (j : Int) → EdS w b0 ts dn dv (.slice ra R.length rc) (E1 ++ rwO R i o) R W' → OwOps w.heap.size W' wv ws → K (frN 199 g) W') :
    Code.wp Tryz.prog cEdM (OnlyN K) (frN 199 f) W := by
  rw [fr199, e0, e1, e5, e6, e8, e9, e16, e19, e100, e101, e102, e113, e114, e115, e119, e120, e121]
  clear e0 e1 e5 e6 e8 e9 e16 e19 e100 e101 e102 e113 e114 e115 e119 e120 e121
  have HK := Lib.hid hK
  have HS := Lib.hid hS
  have HW := Lib.hid hw
  have HX := Lib.hid hob
  clear hK hS hw hob
  conv => arg 2; whnf
  go_wp2_with fail
  refine wp_loopF 199 (fun m g wr => g 0 = tsv ∧ g 1 = mv ∧ g 5 = .pointer (some ⟨b0, 0, none⟩) ∧ g 6 = dv ∧ g 8 = cloE b0 ∧ g 9 = .slice ra R.length rc ∧ g 16 = vi (i : Int) ∧ g 19 = .pointer (some ⟨ob, 0, none⟩) ∧ g 100 = tsv ∧ g 101 = .int .i64 (ts.length : Int) ∧ g 102 = .int .i64 (i : Int) ∧ g 113 = wv ∧ g 114 = .int .i64 (ws.length : Int) ∧ g 115 = .int .i64 (j : Int) ∧ g 119 = .slice ra R.length rc ∧ g 120 = .int .i64 (R.length : Int) ∧
    ∃ k : Nat, k ≤ R.length ∧ m = R.length - k ∧ g 121 = .int .i64 k ∧ EdS w b0 ts dn dv (.slice ra R.length rc) (E1 ++ (R.take k).flatMap (rwR i o.key)) R wr ∧ OwOps w.heap.size wr wv ws ∧ wr.heap[ob]? = some (.cells #[vi o.kind, vi o.key, vi o.val] 51)) _ rfl R.length ?start ?round
  case start => exact ⟨rfl, rfl, rfl, rfl, rfl, rfl, rfl, rfl, rfl, rfl, rfl, rfl, rfl, rfl, rfl, rfl, 0, Nat.zero_le _, rfl, rfl, by simpa using HS.out, HW.out, HX.out⟩
  case round =>
    rintro gm g wr ⟨g0, g1, g5, g6, g8, g9, g16, g19, g100, g101, g102, g113, g114, g115, g119, g120, k, hk, hgm, g121, hS, hW, hX⟩ JJ KK HJ HKK
    have HJJ := Lib.hid HJ
    have HGM := Lib.hid hgm
    have HSk := Lib.hid hS
    have HWk := Lib.hid hW
    have HXk := Lib.hid hX
    clear HJ hgm hS hW hX
    by_cases hlt : k < R.length
    · rw [fr199, g0, g1, g5, g6, g8, g9, g16, g19, g100, g101, g102, g113, g114, g115, g119, g120, g121]
      clear g0 g1 g5 g6 g8 g9 g16 g19 g100 g101 g102 g113 g114 g115 g119 g120 g121
      have k1 : decide ((k : Int) < R.length) = true := decide_eq_true (by omega)
      have k2 : (k : Int) < R.length := by omega
      have hwk : IntKind.i64.wrap ((k : Int) + 1) = (k : Int) + 1 := IntWalk.i64_in _ (by omega)
      obtain ⟨x, hx⟩ := some_at hlt
      obtain ⟨_, _, e7, hcl⟩ := HSk.out.rr.at
      cases e7
      obtain ⟨gb, off, rfl, c0, c1, c2⟩ := hcl k x hx
      have HNX := Lib.hid (show (R.take (k + 1)).flatMap (rwR i o.key) = (R.take k).flatMap (rwR i o.key) ++ rwR i o.key x from by rw [take_at hx, List.flatMap_append]; simp)
      have hlen : (E1 ++ (R.take k).flatMap (rwR i o.key)).length + 1 ≤ 68719476736 := by
        have h1 := flatMap_le 1 (rwR_len i o.key) (R.take k)
        have h2 : (R.take k).length ≤ R.length := by simp; omega
        rw [List.length_append]; omega
      obtain ⟨E2, hE2⟩ : ∃ E2, E2 = E1 ++ (R.take k).flatMap (rwR i o.key) := ⟨_, rfl⟩
      have HE2 := Lib.hid hE2
      rw [← hE2] at HSk hlen
      have HBl := Lib.hid ((Below.refl wr.heap.size wr).alloc (Nat.le_refl _) (.cells #[vi x.by_, vi x.of_, vi x.key] 169))
      have HSa := Lib.hid (HSk.out.later HBl.out)
      have HWa := Lib.hid (HWk.out.laterD HBl.out)
      have HXa := Lib.hid ((Below.heap_alloc wr (.cells #[vi x.by_, vi x.of_, vi x.key] 169) ob (Array.getElem?_eq_some_iff.1 HXk.out).1).trans HXk.out)
      have HXx := Lib.hid (alloc_at wr (.cells #[vi x.by_, vi x.of_, vi x.key] 169))
      clear hcl hx hE2 HBl
      go_upto_region 33 with fail
      clear c0 c1 c2
      generalize wr.alloc (.cells #[vi x.by_, vi x.of_, vi x.key] 169) = wa at *
      obtain ⟨xb, hxb⟩ : ∃ xb, xb = wr.heap.size := ⟨_, rfl⟩
      rw [← hxb] at HXx ⊢
      clear hxb
      have x0 : wa.cell? ⟨xb, 0, none⟩ = some (vi x.by_) := by rw [cell_of HXx.out]; rfl
      have x1 : wa.cell? ⟨xb, 1, none⟩ = some (vi x.of_) := by rw [cell_of HXx.out]; rfl
      have x2 : wa.cell? ⟨xb, 2, none⟩ = some (vi x.key) := by rw [cell_of HXx.out]; rfl
      have y1 : wa.cell? ⟨ob, 1, none⟩ = some (vi o.key) := by rw [cell_of HXa.out]; rfl
      have next : ∀ (l : List Value) (W2 : World) (E3 : List GEdge), l.length = 199 → slotsOf l 0 = tsv ∧ slotsOf l 1 = mv ∧ slotsOf l 5 = .pointer (some ⟨b0, 0, none⟩) ∧ slotsOf l 6 = dv ∧ slotsOf l 8 = cloE b0 ∧ slotsOf l 9 = .slice (some ⟨gb, off, none⟩) R.length rc ∧ slotsOf l 16 = vi (i : Int) ∧ slotsOf l 19 = .pointer (some ⟨ob, 0, none⟩) ∧ slotsOf l 100 = tsv ∧ slotsOf l 101 = .int .i64 (ts.length : Int) ∧ slotsOf l 102 = .int .i64 (i : Int) ∧ slotsOf l 113 = wv ∧ slotsOf l 114 = .int .i64 (ws.length : Int) ∧ slotsOf l 115 = .int .i64 (j : Int) ∧ slotsOf l 119 = .slice (some ⟨gb, off, none⟩) R.length rc ∧ slotsOf l 120 = .int .i64 (R.length : Int) → slotsOf l 121 = .int .i64 ((k : Int) + 1) → E3 = E2 ++ rwR i o.key x → EdS w b0 ts dn dv (.slice (some ⟨gb, off, none⟩) R.length rc) E3 R W2 → OwOps w.heap.size W2 wv ws → W2.heap[ob]? = some (.cells #[vi o.kind, vi o.key, vi o.val] 51) → Handed JJ gm ⟨l.toArray, []⟩ W2 := fun l W2 E3 hl' hc h121 hE3 h1 h2 h3 => by
        obtain ⟨t0, t1, t5, t6, t8, t9, t16, t19, t100, t101, t102, t113, t114, t115, t119, t120⟩ := hc
        exact Handed.intro (R.length - (k + 1)) (by rw [HGM.out]; omega) (HJJ.out _ _ _ hl' ⟨t0, t1, t5, t6, t8, t9, t16, t19, t100, t101, t102, t113, t114, t115, t119, t120, k + 1, by omega, rfl, by rw [h121]; go_num, by rw [HNX.out, ← List.append_assoc, ← HE2.out, ← hE3]; exact h1, h2, h3⟩)
      have NEXT := Lib.hid next
      clear next
      by_cases hof : x.of_ < 0
      · have d1 : decide (x.of_ < 0) = true := decide_eq_true hof
        by_cases hky : x.key = o.key
        · have d2 : (x.key == o.key) = true := by simp [hky]
          have HWW := Lib.hid (show rwR i o.key x = addE x.by_ i 3 from by unfold rwR; rw [if_pos ⟨hof, hky⟩])
          clear hof hky
          unfold cloE
          go_wp2_with (go_at_call 97; refine (add_call x.by_ i 3 w.heap.size b0 E2 _ HSa.out.ed HSa.out.bel.size hlen).mono ?_; rintro e1 w1 ⟨rfl, hi, ht⟩; have HI := Lib.hid (HSa.out.add hi ht); have HXi := Lib.hid (HSa.out.keep ht HXa.out (fun _ _ h => by cases h) (fun _ _ h => by cases h)); have HWi := Lib.hid (HSa.out.ops ht HWa.out); clear hi ht)
          exact NEXT.out _ _ _ rfl ⟨rfl, rfl, rfl, rfl, rfl, rfl, rfl, rfl, rfl, rfl, rfl, rfl, rfl, rfl, rfl, rfl⟩ rfl (by rw [HWW.out]) HI.out HWi.out HXi.out
        · have d2 : (x.key == o.key) = false := by simp [hky]
          have HWW := Lib.hid (show rwR i o.key x = [] from by unfold rwR; rw [if_neg (fun h => hky h.2)])
          clear hof hky
          go_wp2_with fail
          exact NEXT.out _ _ _ rfl ⟨rfl, rfl, rfl, rfl, rfl, rfl, rfl, rfl, rfl, rfl, rfl, rfl, rfl, rfl, rfl, rfl⟩ rfl (by rw [HWW.out, List.append_nil]) HSa.out HWa.out HXa.out
      · have d1 : decide (x.of_ < 0) = false := decide_eq_false hof
        have HWW := Lib.hid (show rwR i o.key x = [] from by unfold rwR; rw [if_neg (fun h => hof h.1)])
        clear hof
        go_wp2_with fail
        exact NEXT.out _ _ _ rfl ⟨rfl, rfl, rfl, rfl, rfl, rfl, rfl, rfl, rfl, rfl, rfl, rfl, rfl, rfl, rfl, rfl⟩ rfl (by rw [HWW.out, List.append_nil]) HSa.out HWa.out HXa.out
    · have k1 : decide ((k : Int) < R.length) = false := decide_eq_false (by omega)
      have HFIN := Lib.hid (show EdS w b0 ts dn dv (.slice ra R.length rc) (E1 ++ rwO R i o) R wr from by
        have h := HSk.out
        have hke : k = R.length := by omega
        rw [hke, List.take_length] at h
        exact h)
      have hcc : ∀ (l : List Value), l.length = 199 → slotsOf l 0 = tsv ∧ slotsOf l 1 = mv ∧ slotsOf l 5 = .pointer (some ⟨b0, 0, none⟩) ∧ slotsOf l 6 = dv ∧ slotsOf l 8 = cloE b0 ∧ slotsOf l 9 = .slice ra R.length rc ∧ slotsOf l 16 = vi (i : Int) ∧ slotsOf l 100 = tsv ∧ slotsOf l 101 = .int .i64 (ts.length : Int) ∧ slotsOf l 102 = .int .i64 (i : Int) ∧ slotsOf l 113 = wv ∧ slotsOf l 114 = .int .i64 (ws.length : Int) ∧ slotsOf l 115 = .int .i64 (j : Int) → K ⟨l.toArray, []⟩ wr := fun l hl' hc => by
        obtain ⟨t0, t1, t5, t6, t8, t9, t16, t100, t101, t102, t113, t114, t115⟩ := hc
        rw [frN_of 199 l hl']
        exact HK.out _ _ t0 t1 t5 t6 t8 t9 t16 t100 t101 t102 t113 t114 t115 HFIN.out HWk.out
      have HCC := Lib.hid hcc
      rw [fr199, g0, g1, g5, g6, g8, g9, g16, g19, g100, g101, g102, g113, g114, g115, g119, g120, g121]
      clear hcc g0 g1 g5 g6 g8 g9 g16 g19 g100 g101 g102 g113 g114 g115 g119 g120 g121
      go_wp2_with fail
      exact HCC.out _ rfl ⟨rfl, rfl, rfl, rfl, rfl, rfl, rfl, rfl, rfl, rfl, rfl, rfl, rfl⟩

set_option maxRecDepth 1000000 in
set_option maxHeartbeats 8000000 in
theorem edN (w : World) (b0 : Nat) (ts : List GTxn) (mv dv tsv wv : Value) (dn : Nat → Bool) (E1 : List GEdge) (R : List GRd) (ra : Option Addr) (rc i : Nat) (ws : List GOp) (f : Nat → Value) (W : World) (K : Act → World → Prop) (hS : EdS w b0 ts dn dv (.slice ra R.length rc) E1 R W) (hw : OwOps w.heap.size W wv ws) (hl : E1.length + ws.length * R.length ≤ 900000000) (hwl : ws.length ≤ 16)  (hrl : R.length ≤ 100000000)
    (e0 : f 0 = tsv) (e1 : f 1 = mv) (e5 : f 5 = .pointer (some ⟨b0, 0, none⟩)) (e6 : f 6 = dv) (e8 : f 8 = cloE b0) (e9 : f 9 = .slice ra R.length rc) (e16 : f 16 = vi (i : Int)) (e100 : f 100 = tsv) (e101 : f 101 = .int .i64 (ts.length : Int)) (e102 : f 102 = .int .i64 (i : Int)) (e113 : f 113 = wv) (e114 : f 114 = .int .i64 (ws.length : Int)) (e115 : f 115 = .int .i64 0)
    (hK : ∀ (g : Nat → Value) W', g 0 = tsv → g 1 = mv → g 5 = .pointer (some ⟨b0, 0, none⟩) → g 6 = dv → g 8 = cloE b0 → g 9 = .slice ra R.length rc → g 100 = tsv → g 101 = .int .i64 (ts.length : Int) → g 102 = .int .i64 (i : Int) → EdS w b0 ts dn dv (.slice ra R.length rc) (E1 ++ ws.flatMap (rwO R i)) R W' → K (frN 199 g) W') :
    Code.wp Tryz.prog cEdN (OnlyN K) (frN 199 f) W := by
  rw [fr199, e0, e1, e5, e6, e8, e9, e16, e100, e101, e102, e113, e114, e115]
  clear e0 e1 e5 e6 e8 e9 e16 e100 e101 e102 e113 e114 e115
  have HK := Lib.hid hK
  have HS := Lib.hid hS
  have HW := Lib.hid hw
  have HL := Lib.hid hl
  clear hK hS hw hl
  conv => arg 2; whnf
  go_wp2_with fail
  refine wp_loopF 199 (fun m g wr => g 0 = tsv ∧ g 1 = mv ∧ g 5 = .pointer (some ⟨b0, 0, none⟩) ∧ g 6 = dv ∧ g 8 = cloE b0 ∧ g 9 = .slice ra R.length rc ∧ g 16 = vi (i : Int) ∧ g 100 = tsv ∧ g 101 = .int .i64 (ts.length : Int) ∧ g 102 = .int .i64 (i : Int) ∧ g 113 = wv ∧ g 114 = .int .i64 (ws.length : Int) ∧
    ∃ k : Nat, k ≤ ws.length ∧ m = ws.length - k ∧ g 115 = .int .i64 k ∧ EdS w b0 ts dn dv (.slice ra R.length rc) (E1 ++ (ws.take k).flatMap (rwO R i)) R wr ∧ OwOps w.heap.size wr wv ws) _ rfl ws.length ?start ?round
  case start => exact ⟨rfl, rfl, rfl, rfl, rfl, rfl, rfl, rfl, rfl, rfl, rfl, rfl, 0, Nat.zero_le _, rfl, rfl, by simpa using HS.out, HW.out⟩
  case round =>
    rintro gm g wr ⟨g0, g1, g5, g6, g8, g9, g16, g100, g101, g102, g113, g114, k, hk, hgm, g115, hS, hW⟩ JJ KK HJ HKK
    have HJJ := Lib.hid HJ
    have HKK2 := Lib.hid HKK
    have HGM := Lib.hid hgm
    have HSk := Lib.hid hS
    have HWk := Lib.hid hW
    clear HJ hgm hS hW HKK
    by_cases hlt : k < ws.length
    · have k1 : decide ((k : Int) < ws.length) = true := decide_eq_true (by omega)
      have k2 : (k : Int) < ws.length := by omega
      have hwk : IntKind.i64.wrap ((k : Int) + 1) = (k : Int) + 1 := IntWalk.i64_in _ (by omega)
      obtain ⟨o, ho⟩ := some_at hlt
      obtain ⟨_, _, _, e7, e8, -, hcl⟩ := HWk.out.rd.at
      subst e7 e8
      obtain ⟨gb, off, rfl, c0, c1, c2⟩ := hcl k o ho
      rw [fr199, g0, g1, g5, g6, g8, g9, g16, g100, g101, g102, g113, g114, g115]
      clear g0 g1 g5 g6 g8 g9 g16 g100 g101 g102 g113 g114 g115
      have HNX := Lib.hid (show (ws.take (k + 1)).flatMap (rwO R i) = (ws.take k).flatMap (rwO R i) ++ rwO R i o from by rw [take_at ho, List.flatMap_append]; simp)
      have hlen : (E1 ++ (ws.take k).flatMap (rwO R i)).length + R.length ≤ 1000000000 := by
        have h1 := flatMap_le R.length (rwO_len R i) (ws.take k)
        have h2 : (ws.take k).length ≤ ws.length := by simp; omega
        have h3 := Nat.mul_le_mul_right R.length h2
        have h4 := HL.out
        rw [List.length_append]; omega
      obtain ⟨E2, hE2⟩ : ∃ E2, E2 = E1 ++ (ws.take k).flatMap (rwO R i) := ⟨_, rfl⟩
      have HE2 := Lib.hid hE2
      rw [← hE2] at HSk hlen
      have HBl := Lib.hid ((Below.refl wr.heap.size wr).alloc (Nat.le_refl _) (.cells #[vi o.kind, vi o.key, vi o.val] 51))
      have HSa := Lib.hid (HSk.out.later HBl.out)
      have HWa := Lib.hid (HWk.out.laterD HBl.out)
      have HXx := Lib.hid (alloc_at wr (.cells #[vi o.kind, vi o.key, vi o.val] 51))
      have HLN := Lib.hid hlen
      clear hcl ho hE2 HBl hlen
      go_upto_region 30 with fail
      clear c0 c1 c2
      generalize wr.alloc (.cells #[vi o.kind, vi o.key, vi o.val] 51) = wa at *
      obtain ⟨ob, hob⟩ : ∃ ob, ob = wr.heap.size := ⟨_, rfl⟩
      rw [← hob] at HXx ⊢
      clear hob
      go_upto_block 10 with fail
      rename_i K9 hK9
      have HK9 := Lib.hid hK9
      clear hK9
      have next : ∀ (l : List Value) (W2 : World) (E3 : List GEdge), l.length = 199 → slotsOf l 0 = tsv ∧ slotsOf l 1 = mv ∧ slotsOf l 5 = .pointer (some ⟨b0, 0, none⟩) ∧ slotsOf l 6 = dv ∧ slotsOf l 8 = cloE b0 ∧ slotsOf l 9 = .slice ra R.length rc ∧ slotsOf l 16 = vi (i : Int) ∧ slotsOf l 100 = tsv ∧ slotsOf l 101 = .int .i64 (ts.length : Int) ∧ slotsOf l 102 = .int .i64 (i : Int) ∧ slotsOf l 113 = _ ∧ slotsOf l 114 = .int .i64 (ws.length : Int) → slotsOf l 115 = .int .i64 ((k : Int) + 1) → E3 = E2 ++ rwO R i o → EdS w b0 ts dn dv (.slice ra R.length rc) E3 R W2 → OwOps w.heap.size W2 _ ws → Handed JJ gm ⟨l.toArray, []⟩ W2 := fun l W2 E3 hl' hc h115 hE3 h1 h2 => by
        obtain ⟨t0, t1, t5, t6, t8, t9, t16, t100, t101, t102, t113, t114⟩ := hc
        exact Handed.intro (ws.length - (k + 1)) (by rw [HGM.out]; omega) (HJJ.out _ _ _ hl' ⟨t0, t1, t5, t6, t8, t9, t16, t100, t101, t102, t113, t114, k + 1, by omega, rfl, by rw [h115]; go_num, by rw [HNX.out, ← List.append_assoc, ← HE2.out, ← hE3]; exact h1, h2⟩)
      have NEXT := Lib.hid next
      clear next
      refine wp_onlyN ?_ (fun _ _ h => h)
      refine wp_fr 199 _ rfl ?_
      refine edM w b0 ob ts mv dv tsv _ dn E2 R ra rc i k o ws _ _ _ HSa.out HWa.out HXx.out HLN.out rfl rfl rfl rfl rfl rfl rfl rfl rfl rfl rfl rfl rfl rfl rfl rfl rfl ?_
      intro g' W' h0 h1 h5 h6 h8 h9 h16 h100 h101 h102 h113 h114 h115 hSf hWf
      refine HK9.out _ _ ?_
      have HSF := Lib.hid hSf
      have HWF := Lib.hid hWf
      clear hSf hWf
      rw [fr199, h0, h1, h5, h6, h8, h9, h16, h100, h101, h102, h113, h114, h115]
      go_wp2_with fail
      exact HKK2.out _ _ (NEXT.out _ _ _ rfl ⟨rfl, rfl, rfl, rfl, rfl, rfl, rfl, rfl, rfl, rfl, rfl, rfl⟩ rfl rfl HSF.out HWF.out)
    · have k1 : decide ((k : Int) < ws.length) = false := decide_eq_false (by omega)
      have HFIN := Lib.hid (show EdS w b0 ts dn dv (.slice ra R.length rc) (E1 ++ ws.flatMap (rwO R i)) R wr from by
        have h := HSk.out
        have hke : k = ws.length := by omega
        rw [hke, List.take_length] at h
        exact h)
      have hcc : ∀ (l : List Value), l.length = 199 → slotsOf l 0 = tsv ∧ slotsOf l 1 = mv ∧ slotsOf l 5 = .pointer (some ⟨b0, 0, none⟩) ∧ slotsOf l 6 = dv ∧ slotsOf l 8 = cloE b0 ∧ slotsOf l 9 = .slice ra R.length rc ∧ slotsOf l 100 = tsv ∧ slotsOf l 101 = .int .i64 (ts.length : Int) ∧ slotsOf l 102 = .int .i64 (i : Int) → K ⟨l.toArray, []⟩ wr := fun l hl' hc => by
        obtain ⟨t0, t1, t5, t6, t8, t9, t100, t101, t102⟩ := hc
        rw [frN_of 199 l hl']
        exact HK.out _ _ t0 t1 t5 t6 t8 t9 t100 t101 t102 HFIN.out
      have HCC := Lib.hid hcc
      rw [fr199, g0, g1, g5, g6, g8, g9, g16, g100, g101, g102, g113, g114, g115]
      clear hcc g0 g1 g5 g6 g8 g9 g16 g100 g101 g102 g113 g114 g115
      go_wp2_with fail
      exact HCC.out _ rfl ⟨rfl, rfl, rfl, rfl, rfl, rfl, rfl, rfl, rfl⟩
end Go.Proofs.YtnacoplokjdglaaGreat

namespace Go.Proofs.YtnacoplokjdglaaGreat
open Go.RowKit Go.Maps
attribute [local go_sem] Oper.semAt_some

theorem rwT_len (dn : Nat → Bool) (R : List GRd) (p : GTxn × Nat) : (rwT dn R p).length ≤ 16 * R.length := by
  unfold rwT
  split
  · have h1 := flatMap_le R.length (rwO_len R p.2) (writesM p.1.ops)
    have h2 : (writesM p.1.ops).length ≤ 16 := writesTo_le _ _
    exact Nat.le_trans h1 (Nat.mul_le_mul_right _ h2)
  · simp
theorem rwT_take (ts : List GTxn) (dn : Nat → Bool) (R : List GRd) {k : Nat} {t : GTxn} (h : ts[k]? = some t) : (ts.take (k + 1)).zipIdx.flatMap (rwT dn R) = (ts.take k).zipIdx.flatMap (rwT dn R) ++ rwT dn R (t, k) := by
  rw [zipIdx_take_succ h, List.flatMap_append]; simp
theorem zip_le {α : Type} (g : GTxn × Nat → List α) (c : Nat) (h : ∀ p, (g p).length ≤ c) (ts : List GTxn) (k : Nat) : ((ts.take k).zipIdx.flatMap g).length ≤ k * c := by
  have h1 := flatMap_le c h (ts.take k).zipIdx
  have h2 : (ts.take k).zipIdx.length ≤ k := by simp; omega
  exact Nat.le_trans h1 (Nat.mul_le_mul_right _ h2)

set_option maxRecDepth 1000000 in
set_option maxHeartbeats 8000000 in
theorem edB (w : World) (b0 : Nat) (ts : List GTxn) (L : FaL) (mv dv : Value) (ta : Option Addr) (tc : Nat) (dn : Nat → Bool) (Ea : List GEdge) (R : List GRd) (ra : Option Addr) (rc : Nat) (f : Nat → Value) (W : World) (hS : EdS w b0 ts dn dv (.slice ra R.length rc) Ea R W)
    (hv : RdTxns w (.slice ta ts.length tc) ts) (hok : OkTxns ts) (htl : ts.length ≤ 4096) (hm : FaV w mv L) (hR : R.length ≤ 100000000) (hB : Ea.length + ts.length * (16 * R.length) + L.length * (1 + R.length) ≤ 800000000) (hfin : ∀ V : FaL, (∀ p, p ∈ V ↔ p ∈ L) → ∀ e, e ∈ (Ea ++ ts.zipIdx.flatMap (rwT dn R)) ++ V.flatMap (factE ts dn R) ↔ e ∈ edgeL ts L)
    (e0 : f 0 = .slice ta ts.length tc) (e1 : f 1 = mv) (e5 : f 5 = .pointer (some ⟨b0, 0, none⟩)) (e6 : f 6 = dv) (e8 : f 8 = cloE b0) (e9 : f 9 = .slice ra R.length rc) :
    Code.wp Tryz.prog cEd2 (bodyPost Tryz.prog Tryz.f77 (EdQ ts L w)) (frN 199 f) W := by
  rw [fr199, e0, e1, e5, e6, e8, e9]
  clear e0 e1 e5 e6 e8 e9
  have HS := Lib.hid hS
  have HV := Lib.hid hv
  have HM := Lib.hid hm
  have HOK := Lib.hid hok
  have HFN := Lib.hid hfin
  have HBB := Lib.hid hB
  clear hS hv hm hfin hB hok
  conv => arg 2; whnf
  go_wp2_with fail
  rename_i KB hKB
  have HKB := Lib.hid hKB
  clear hKB
  refine wp_loopF 199 (fun m g wr => g 0 = .slice ta ts.length tc ∧ g 1 = mv ∧ g 5 = .pointer (some ⟨b0, 0, none⟩) ∧ g 6 = dv ∧ g 8 = cloE b0 ∧ g 9 = .slice ra R.length rc ∧ g 100 = .slice ta ts.length tc ∧ g 101 = .int .i64 (ts.length : Int) ∧
    ∃ k : Nat, k ≤ ts.length ∧ m = ts.length - k ∧ g 102 = .int .i64 k ∧ EdS w b0 ts dn dv (.slice ra R.length rc) (Ea ++ (ts.take k).zipIdx.flatMap (rwT dn R)) R wr) _ rfl ts.length ?start ?round
  case start => exact ⟨rfl, rfl, rfl, rfl, rfl, rfl, rfl, rfl, 0, Nat.zero_le _, rfl, rfl, by simpa using HS.out⟩
  case round =>
    rintro gm g wr ⟨g0, g1, g5, g6, g8, g9, g100, g101, k, hk, hgm, g102, hS⟩ JJ KK HJ HKK
    have HJJ := Lib.hid HJ
    have HKK2 := Lib.hid HKK
    have HGM := Lib.hid hgm
    have HSk := Lib.hid hS
    clear HJ hgm hS HKK
    by_cases hlt : k < ts.length
    · have k1 : decide ((k : Int) < ts.length) = true := decide_eq_true (by omega)
      have k2 : (k : Int) < ts.length := by omega
      have k3 : (0 : Int) ≤ (k : Int) := by omega
      have hwk : IntKind.i64.wrap ((k : Int) + 1) = (k : Int) + 1 := IntWalk.i64_in _ (by omega)
      obtain ⟨t, ht⟩ := some_at hlt
      obtain ⟨_, _, _, e7, e8, -, hcl⟩ := (HV.out.later HSk.out.bel).at
      cases e7
      clear e8
      obtain ⟨gb, off, oa, oc, rfl, hr, c0, c1, c2⟩ := hcl k t ht
      have HRO := Lib.hid hr
      obtain ⟨da, dc, hdv, hdc⟩ := OwBs.at HSk.out.dr
      have hdl : ((List.range ts.length).map dn).length = ts.length := by simp
      rw [hdl] at hdv
      subst hdv
      obtain ⟨db, doff, rfl, z0⟩ := hdc k _ (dn_at hlt)
      rw [fr199, g0, g1, g5, g6, g8, g9, g100, g101, g102]
      clear g0 g1 g5 g6 g8 g9 g100 g101 g102 hdc hdl
      have HNX := Lib.hid (rwT_take ts dn R ht)
      have hok2 := (HOK.out.2 t (List.mem_of_getElem? ht)).2
      have HRM := Lib.hid (show (Ea ++ (ts.take k).zipIdx.flatMap (rwT dn R)).length + 16 * R.length ≤ 800000000 from by
        have h1 := zip_le (rwT dn R) (16 * R.length) (rwT_len dn R) ts k
        have h2 := Nat.mul_le_mul_right (16 * R.length) (show k + 1 ≤ ts.length from hlt)
        rw [Nat.add_mul, Nat.one_mul] at h2
        have h3 := HBB.out
        rw [List.length_append]; omega)
      obtain ⟨E2, hE2⟩ : ∃ E2, E2 = Ea ++ (ts.take k).zipIdx.flatMap (rwT dn R) := ⟨_, rfl⟩
      have HE2 := Lib.hid hE2
      rw [← hE2] at HSk HRM
      have HBl := Lib.hid ((Below.refl wr.heap.size wr).alloc (Nat.le_refl _) (.cells #[vi t.client, vi t.state, .slice oa t.ops.length oc] 49))
      have HSa := Lib.hid (HSk.out.later HBl.out)
      have HXx := Lib.hid (alloc_at wr (.cells #[vi t.client, vi t.state, .slice oa t.ops.length oc] 49))
      have HROa := Lib.hid (HRO.out.later HBl.out)
      have z1 := cell_later HBl.out z0
      clear hcl ht hE2 hr
      go_upto_region 26 with fail
      clear c0 c1 c2 z0
      generalize wr.alloc (.cells #[vi t.client, vi t.state, .slice oa t.ops.length oc] 49) = wa at *
      obtain ⟨tb, htb⟩ : ∃ tb, tb = wr.heap.size := ⟨_, rfl⟩
      rw [← htb] at HXx ⊢
      clear htb HBl
      have x0 : wa.cell? ⟨tb, 0, none⟩ = some (vi t.client) := by rw [cell_of HXx.out]; rfl
      have x1 : wa.cell? ⟨tb, 1, none⟩ = some (vi t.state) := by rw [cell_of HXx.out]; rfl
      have x2 : wa.cell? ⟨tb, 2, none⟩ = some (.slice oa t.ops.length oc) := by rw [cell_of HXx.out]; rfl
      have next : ∀ (l : List Value) (W2 : World) (E3 : List GEdge), l.length = 199 → slotsOf l 0 = .slice (some ⟨gb, off, none⟩) ts.length tc ∧ slotsOf l 1 = mv ∧ slotsOf l 5 = .pointer (some ⟨b0, 0, none⟩) ∧ slotsOf l 6 = .slice (some ⟨db, doff, none⟩) ts.length dc ∧ slotsOf l 8 = cloE b0 ∧ slotsOf l 9 = .slice ra R.length rc ∧ slotsOf l 100 = .slice (some ⟨gb, off, none⟩) ts.length tc ∧ slotsOf l 101 = .int .i64 (ts.length : Int) → slotsOf l 102 = .int .i64 ((k : Int) + 1) → E3 = E2 ++ rwT dn R (t, k) → EdS w b0 ts dn (.slice (some ⟨db, doff, none⟩) ts.length dc) (.slice ra R.length rc) E3 R W2 → Handed JJ gm ⟨l.toArray, []⟩ W2 := fun l W2 E3 hl' hc h102 hE3 h1 => by
        obtain ⟨t0, t1, t5, t6, t8, t9, t100, t101⟩ := hc
        exact Handed.intro (ts.length - (k + 1)) (by rw [HGM.out]; omega) (HJJ.out _ _ _ hl' ⟨t0, t1, t5, t6, t8, t9, t100, t101, k + 1, by omega, rfl, by rw [h102]; go_num, by rw [HNX.out, ← List.append_assoc, ← HE2.out, ← hE3]; exact h1⟩)
      have NEXT := Lib.hid next
      clear next
      cases hdn : dn k with
      | false =>
        rw [hdn] at z1
        have HW := Lib.hid (show rwT dn R (t, k) = [] from by unfold rwT; rw [if_neg (by simp [hdn])])
        clear hdn
        go_wp2_with fail
        exact HKK2.out _ _ (NEXT.out _ _ _ rfl ⟨rfl, rfl, rfl, rfl, rfl, rfl, rfl, rfl⟩ rfl (by rw [HW.out, List.append_nil]) HSa.out)
      | true =>
        rw [hdn] at z1
        have HW := Lib.hid (show rwT dn R (t, k) = (writesM t.ops).flatMap (rwO R k) from by unfold rwT; rw [if_pos hdn])
        clear hdn
        have HWL := Lib.hid (show (writesM t.ops).length ≤ 16 from writesTo_le _ _)
        go_upto_block 8 with (go_at_call 71; refine (writes_call t.client t.state _ t.ops wa HROa.out hok2).mono ?_; rintro e1 w3 ⟨v3, rfl, ho3, hb3⟩; obtain ⟨a3, l3, c3, rfl, e9, -, -⟩ := ho3.rd.at; subst e9; have HO3 := Lib.hid (own_mono ho3 HSa.out.bel.size); have HS3 := Lib.hid (HSa.out.later hb3); clear ho3 hb3)
        rename_i K9 hK9
        have HK9 := Lib.hid hK9
        clear hK9
        refine wp_onlyN ?_ (fun _ _ h => h)
        refine wp_fr 199 _ rfl ?_
        refine edN w b0 ts mv _ _ _ dn E2 R ra rc k (writesM t.ops) _ _ _ HS3.out HO3.out ?_ HWL.out hR rfl rfl rfl rfl rfl rfl rfl rfl rfl rfl rfl rfl rfl ?_
        · have h1 := HRM.out
          have h2 := Nat.mul_le_mul_right R.length HWL.out
          omega
        · intro g' W' h0 h1 h5 h6 h8 h9 h100 h101 h102 hSf
          refine HK9.out _ _ ?_
          have HSF := Lib.hid hSf
          clear hSf
          rw [fr199, h0, h1, h5, h6, h8, h9, h100, h101, h102]
          go_wp2_with fail
          exact HKK2.out _ _ (NEXT.out _ _ _ rfl ⟨rfl, rfl, rfl, rfl, rfl, rfl, rfl, rfl⟩ rfl (by rw [HW.out]) HSF.out)
    · have k1 : decide ((k : Int) < ts.length) = false := decide_eq_false (by omega)
      have HFIN := Lib.hid (show EdS w b0 ts dn dv (.slice ra R.length rc) (Ea ++ ts.zipIdx.flatMap (rwT dn R)) R wr from by
        have h := HSk.out
        have hke : k = ts.length := by omega
        rw [hke, List.take_length] at h
        exact h)
      have hcc : ∀ (l : List Value), l.length = 199 → slotsOf l 0 = .slice ta ts.length tc ∧ slotsOf l 1 = mv ∧ slotsOf l 5 = .pointer (some ⟨b0, 0, none⟩) ∧ slotsOf l 6 = dv ∧ slotsOf l 8 = cloE b0 ∧ slotsOf l 9 = .slice ra R.length rc → Code.wp Tryz.prog cEd3 (bodyPost Tryz.prog Tryz.f77 (EdQ ts L w)) ⟨l.toArray, []⟩ wr := fun l hl' hc => by
        obtain ⟨t0, t1, t5, t6, t8, t9⟩ := hc
        rw [frN_of 199 l hl']
        refine edC w b0 ts L mv dv _ dn _ R ra rc _ wr HFIN.out HV.out htl HM.out ?_ HFN.out t0 t1 t5 t6 t8 t9
        have h1 := zip_le (rwT dn R) (16 * R.length) (rwT_len dn R) ts ts.length
        have h2 := HBB.out
        rw [List.take_length] at h1
        rw [List.length_append]; omega
      have HCC := Lib.hid hcc
      rw [fr199, g0, g1, g5, g6, g8, g9, g100, g101, g102]
      clear hcc g0 g1 g5 g6 g8 g9 g100 g101 g102
      go_wp2_with fail
      exact HKB.out _ _ (HCC.out _ rfl ⟨rfl, rfl, rfl, rfl, rfl, rfl⟩)
end Go.Proofs.YtnacoplokjdglaaGreat

namespace Go.Proofs.YtnacoplokjdglaaGreat
open Go.RowKit Go.Maps
attribute [local go_sem] Oper.semAt_some

noncomputable def cEdI : Code := (Tryz.f77.body.bind (blockOf 4)).getD .skip
theorem readOf_len (ts : List GTxn) (dn : Nat → Bool) (i : Nat) (o : GOp) : (readOf ts dn i o).length ≤ 1 := by unfold readOf; split <;> simp
theorem wrEdge_len (r : GRd) : (wrEdge r).length ≤ 1 := by
  unfold wrEdge; split
  · exact addE_len _ _ _
  · simp
/-- One read more. -/
theorem EdS.grow {w A B : World} {b0 : Nat} {ts : List GTxn} {dn : Nat → Bool} {dv rv rv' : Value} {E : List GEdge} {R : List GRd} {x : GRd} (h : EdS w b0 ts dn dv rv E R A) (o : Obj) (hg : (A.alloc o).grownBy B rv.ownBlock) (hr : B.ownsRow w.heap.size 169 3 rv' (R.length + 1) (R.flatMap rdV ++ rdV x)) : EdS w b0 ts dn dv rv' E (R ++ [x]) B := by
  have hA := h.alloc o
  obtain ⟨v, hb, ho⟩ := hA.ed.box
  have hrb : ∀ g, rv.ownBlock = some g → ∃ cur, (A.alloc o).heap[g]? = some (.cells cur 169) := fun g hg => by
    rcases hA.rr.2 with ⟨h1, _⟩ | ⟨g', cap, cur, h1, _, hh, _⟩
    · rw [h1] at hg; cases hg
    · rw [h1] at hg; cases hg; exact ⟨cur, hh⟩
  have other : ∀ (e : TypeId) (v : Value) (k n : Nat) (xs : List Value), e ≠ 169 → (A.alloc o).ownsRow w.heap.size e k v n xs → B.ownsRow w.heap.size e k v n xs := fun e v k n xs he hv => hv.kept hg (by
    cases hvo : v.ownBlock with
    | none => exact .inl rfl
    | some g =>
      refine .inr (fun e2 => ?_)
      obtain ⟨cur, hc⟩ := hrb g e2.symm
      exact rowNe hv hc he g hvo rfl)
  refine ⟨⟨⟨v, (hg.block b0 hA.lt (fun e => ?_)).trans hb, other _ _ _ _ _ (by decide) ho⟩, h.ed.own⟩, other _ _ _ _ _ (by decide) hA.dr, by unfold OwR; simpa using hr, hA.bel.grown hg hA.bel.size (fun j hj => (World.ownsRow.lt hA.rr j hj).1)⟩
  obtain ⟨cur, hc⟩ := hrb b0 e.symm
  rw [hb] at hc
  cases hc
theorem EdS.growOps {w A B : World} {b0 : Nat} {ts : List GTxn} {dn : Nat → Bool} {dv rv wv : Value} {E : List GEdge} {R : List GRd} {ws : List GOp} (h : EdS w b0 ts dn dv rv E R A) (o : Obj) (hg : (A.alloc o).grownBy B rv.ownBlock) (hw : OwOps w.heap.size A wv ws) : OwOps w.heap.size B wv ws := by
  have hA := h.alloc o
  have hw' : OwOps w.heap.size (A.alloc o) wv ws := World.ownsRow.alloc hw o
  exact World.ownsRow.kept hw' hg (by
    cases hvo : wv.ownBlock with
    | none => exact .inl rfl
    | some g =>
      refine .inr (fun e2 => ?_)
      rcases hA.rr.2 with ⟨h1, _⟩ | ⟨g', cap, cur, h1, _, hh, _⟩
      · rw [h1] at e2; cases e2
      · rw [h1] at e2
        have e3 : g = g' := by simpa [Value.ownBlock] using e2
        subst e3
        exact rowNe hw' hh (by decide) g hvo rfl)

set_option maxRecDepth 1000000 in
set_option maxHeartbeats 8000000 in
theorem edI (w : World) (b0 : Nat) (ts : List GTxn) (mv dv rv0 tsv pv : Value) (dn : Nat → Bool) (R0 : List GRd) (i : Nat) (rs : List GOp) (f : Nat → Value) (W : World) (K : Act → World → Prop) (hS : EdS w b0 ts dn dv rv0 (R0.flatMap wrEdge) R0 W) (hw : OwOps w.heap.size W pv rs)
    (hv : RdTxns w tsv ts) (hok : OkTxns ts) (htl : ts.length ≤ 4096) (hrs : ∀ o ∈ rs, i64 o.key ∧ i64 o.val) (hl : R0.length + rs.length ≤ 200000000)
    (e0 : f 0 = tsv) (e1 : f 1 = mv) (e5 : f 5 = .pointer (some ⟨b0, 0, none⟩)) (e6 : f 6 = dv) (e8 : f 8 = cloE b0) (e9 : f 9 = rv0) (e10 : f 10 = vi (i : Int)) (e48 : f 48 = tsv) (e49 : f 49 = .int .i64 (ts.length : Int)) (e50 : f 50 = .int .i64 (i : Int)) (e56 : f 56 = pv) (e57 : f 57 = .int .i64 (rs.length : Int)) (e58 : f 58 = .int .i64 0)
    (hK : ∀ (g : Nat → Value) W' rv, g 0 = tsv → g 1 = mv → g 5 = .pointer (some ⟨b0, 0, none⟩) → g 6 = dv → g 8 = cloE b0 → g 48 = tsv → g 49 = .int .i64 (ts.length : Int) → g 50 = .int .i64 (i : Int) → g 9 = rv → EdS w b0 ts dn dv rv ((R0 ++ rs.flatMap (readOf ts dn i)).flatMap wrEdge) (R0 ++ rs.flatMap (readOf ts dn i)) W' → K (frN 199 g) W') :
    Code.wp Tryz.prog cEdI (OnlyN K) (frN 199 f) W := by
  rw [fr199, e0, e1, e5, e6, e8, e9, e10, e48, e49, e50, e56, e57, e58]
  clear e0 e1 e5 e6 e8 e9 e10 e48 e49 e50 e56 e57 e58
  have HK := Lib.hid hK
  have HS := Lib.hid hS
  have HW := Lib.hid hw
  have HV := Lib.hid hv
  have HOK := Lib.hid hok
  have HRS := Lib.hid hrs
  clear hK hS hw hv hok hrs
  conv => arg 2; whnf
  go_wp2_with fail
  refine wp_loopF 199 (fun m g wr => g 0 = tsv ∧ g 1 = mv ∧ g 5 = .pointer (some ⟨b0, 0, none⟩) ∧ g 6 = dv ∧ g 8 = cloE b0 ∧ g 10 = vi (i : Int) ∧ g 48 = tsv ∧ g 49 = .int .i64 (ts.length : Int) ∧ g 50 = .int .i64 (i : Int) ∧ g 56 = pv ∧ g 57 = .int .i64 (rs.length : Int) ∧
    ∃ (k : Nat) (rv : Value), k ≤ rs.length ∧ m = rs.length - k ∧ g 58 = .int .i64 k ∧ g 9 = rv ∧ EdS w b0 ts dn dv rv ((R0 ++ (rs.take k).flatMap (readOf ts dn i)).flatMap wrEdge) (R0 ++ (rs.take k).flatMap (readOf ts dn i)) wr ∧ OwOps w.heap.size wr pv rs) _ rfl rs.length ?start ?round
  case start => exact ⟨rfl, rfl, rfl, rfl, rfl, rfl, rfl, rfl, rfl, rfl, rfl, 0, rv0, Nat.zero_le _, rfl, rfl, rfl, by simpa using HS.out, HW.out⟩
  case round =>
    rintro gm g wr ⟨g0, g1, g5, g6, g8, g10, g48, g49, g50, g56, g57, k, rv, hk, hgm, g58, g9, hS, hW⟩ JJ KK HJ HKK
    have HJJ := Lib.hid HJ
    have HKK2 := Lib.hid HKK
    have HGM := Lib.hid hgm
    have HSk := Lib.hid hS
    have HWk := Lib.hid hW
    clear HJ hgm hS hW HKK
    by_cases hlt : k < rs.length
    · have k1 : decide ((k : Int) < rs.length) = true := decide_eq_true (by omega)
      have k2 : (k : Int) < rs.length := by omega
      have hwk : IntKind.i64.wrap ((k : Int) + 1) = (k : Int) + 1 := IntWalk.i64_in _ (by omega)
      obtain ⟨o, ho⟩ := some_at hlt
      obtain ⟨_, _, pc, e7, e8, -, hcl⟩ := HWk.out.rd.at
      subst e8
      subst e7
      obtain ⟨gb, off, rfl, c0, c1, c2⟩ := hcl k o ho
      obtain ⟨hko, hvo⟩ := HRS.out o (List.mem_of_getElem? ho)
      obtain ⟨R2, hR2⟩ : ∃ R2, R2 = R0 ++ (rs.take k).flatMap (readOf ts dn i) := ⟨_, rfl⟩
      have HR2 := Lib.hid hR2
      rw [← hR2] at HSk
      obtain ⟨ra, rc, rfl⟩ := Gr.own_shape (show World.ownsRow _ _ _ _ _ R2.length _ from HSk.out.rr)
      have hrl : R2.length + 1 ≤ 200000001 := by
        have h1 := flatMap_le 1 (readOf_len ts dn i) (rs.take k)
        have h2 : (rs.take k).length ≤ rs.length := by simp; omega
        rw [hR2, List.length_append]; omega
      have hel : (R2.flatMap wrEdge).length + 1 ≤ 68719476736 := by
        have h1 := flatMap_le 1 wrEdge_len R2
        omega
      have HNX := Lib.hid (show (rs.take (k + 1)).flatMap (readOf ts dn i) = (rs.take k).flatMap (readOf ts dn i) ++ readOf ts dn i o from by rw [take_at ho, List.flatMap_append]; simp)
      obtain ⟨s, hs⟩ : ∃ s, s = srcM ts o.key o.val := ⟨_, rfl⟩
      have HSM := Lib.hid hs
      have HRD := Lib.hid (show readOf ts dn i o = if s.2 && !(decide (0 ≤ s.1) && !dn s.1.toNat) then [⟨i, s.1, o.key⟩] else [] from by rw [hs]; rfl)
      have HSB := Lib.hid (show s.2 = true → s.1 = -1 ∨ ∃ n : Nat, s.1 = n ∧ n < ts.length from by
        rw [hs]; unfold srcM
        split
        · intro _; exact .inl rfl
        · cases hg : getM (byN ts ts.length) (o.key, o.val) with
          | none => intro h; cases h
          | some z => intro _; exact .inr (byN_lt ts _ z ts.length (Nat.le_refl _) hg))
      obtain ⟨s1, s2⟩ := s
      rw [fr199, g0, g1, g5, g6, g8, g10, g48, g49, g50, g56, g57, g58, g9]
      clear g0 g1 g5 g6 g8 g10 g48 g49 g50 g56 g57 g58 g9
      have HBl := Lib.hid ((Below.refl wr.heap.size wr).alloc (Nat.le_refl _) (.cells #[vi o.kind, vi o.key, vi o.val] 51))
      have HSa := Lib.hid (HSk.out.later HBl.out)
      have HWa := Lib.hid (HWk.out.laterD HBl.out)
      have HXx := Lib.hid (alloc_at wr (.cells #[vi o.kind, vi o.key, vi o.val] 51))
      clear hcl ho hR2 hs
      go_upto_region 16 with fail
      clear c0 c1 c2
      generalize wr.alloc (.cells #[vi o.kind, vi o.key, vi o.val] 51) = wa at *
      obtain ⟨ob, hob⟩ : ∃ ob, ob = wr.heap.size := ⟨_, rfl⟩
      rw [← hob] at HXx ⊢
      clear hob HBl
      have x1 : wa.cell? ⟨ob, 1, none⟩ = some (vi o.key) := by rw [cell_of HXx.out]; rfl
      have x2 : wa.cell? ⟨ob, 2, none⟩ = some (vi o.val) := by rw [cell_of HXx.out]; rfl
      go_upto_region 17 with (go_at_call 98; refine (source_call tsv ts o.key o.val _ (HV.out.later HSa.out.bel) HOK.out hko hvo).mono ?_; rw [← HSM.out]; rintro e1 w3 ⟨rfl, hb3⟩; have HS3 := Lib.hid (HSa.out.later hb3); have HW3 := Lib.hid (HWa.out.laterD hb3); have HX3 := Lib.hid ((hb3.block ob (Array.getElem?_eq_some_iff.1 HXx.out).1).trans HXx.out); clear hb3)
      have y1 : w3.cell? ⟨ob, 1, none⟩ = some (vi o.key) := by rw [cell_of HX3.out]; rfl
      have y2 : w3.cell? ⟨ob, 2, none⟩ = some (vi o.val) := by rw [cell_of HX3.out]; rfl
      clear x1 x2
      have next : ∀ (l : List Value) (W2 : World) (rv' : Value), l.length = 199 → slotsOf l 0 = tsv ∧ slotsOf l 1 = mv ∧ slotsOf l 5 = .pointer (some ⟨b0, 0, none⟩) ∧ slotsOf l 6 = dv ∧ slotsOf l 8 = cloE b0 ∧ slotsOf l 10 = vi (i : Int) ∧ slotsOf l 48 = tsv ∧ slotsOf l 49 = .int .i64 (ts.length : Int) ∧ slotsOf l 50 = .int .i64 (i : Int) ∧ slotsOf l 56 = _ ∧ slotsOf l 57 = .int .i64 (rs.length : Int) → slotsOf l 58 = .int .i64 ((k : Int) + 1) → slotsOf l 9 = rv' → EdS w b0 ts dn dv rv' ((R2 ++ readOf ts dn i o).flatMap wrEdge) (R2 ++ readOf ts dn i o) W2 → OwOps w.heap.size W2 _ rs → Handed JJ gm ⟨l.toArray, []⟩ W2 := fun l W2 rv' hl' hc h58 h9 h1 h2 => by
        obtain ⟨t0, t1, t5, t6, t8, t10, t48, t49, t50, t56, t57⟩ := hc
        exact Handed.intro (rs.length - (k + 1)) (by rw [HGM.out]; omega) (HJJ.out _ _ _ hl' ⟨t0, t1, t5, t6, t8, t10, t48, t49, t50, t56, t57, k + 1, rv', by omega, rfl, by rw [h58]; go_num, h9, by rw [HNX.out, ← List.append_assoc, ← HR2.out]; exact h1, h2⟩)
      have NEXT := Lib.hid next
      clear next
      cases s2 with
      | false =>
        have HE := Lib.hid (show readOf ts dn i o = [] from HRD.out)
        go_wp2_with fail
        exact HKK2.out _ _ (NEXT.out _ _ _ rfl ⟨rfl, rfl, rfl, rfl, rfl, rfl, rfl, rfl, rfl, rfl, rfl⟩ rfl rfl (by rw [HE.out, List.append_nil]; exact HS3.out) HW3.out)
      | true =>
        rcases HSB.out rfl with h1 | ⟨n, h1, hn⟩
        · try simp only at h1
          subst h1
          have HE := Lib.hid (show readOf ts dn i o = [⟨i, -1, o.key⟩] from HRD.out)
          have HWE := Lib.hid (show (R2 ++ readOf ts dn i o).flatMap wrEdge = R2.flatMap wrEdge from by rw [HE.out, List.flatMap_append]; simp [wrEdge])
          go_wp2_with (at_builtin; refine wpList_append_src rfl _ _ 166 rfl eltRead w.heap.size R2.length _ (World.ownsRow.alloc HS3.out.rr _) rfl 1 (rdV ⟨i, -1, o.key⟩) (src_new (cs := #[vi i, vi (-1), vi o.key]) rfl rfl) rfl (rdV_one _) (by omega) (by omega) (by have := HS3.out.bel.size; simp; omega) ?_; intro v4 w4 ho4 hg4 _; have HS4 := Lib.hid (HS3.out.grow _ hg4 ho4); have HW4 := Lib.hid (HS3.out.growOps _ hg4 HW3.out); clear ho4 hg4)
          exact HKK2.out _ _ (NEXT.out _ _ _ rfl ⟨rfl, rfl, rfl, rfl, rfl, rfl, rfl, rfl, rfl, rfl, rfl⟩ rfl rfl (by rw [HWE.out, HE.out]; exact HS4.out) HW4.out)
        · try simp only at h1
          subst h1
          have n0 : decide ((0 : Int) ≤ (n : Int)) = true := decide_eq_true (by omega)
          have n1 : (0 : Int) ≤ (n : Int) := by omega
          have n2 : (n : Int) < ts.length := by omega
          obtain ⟨da, dc, hdv, hdc⟩ := OwBs.at HS3.out.dr
          have hdl : ((List.range ts.length).map dn).length = ts.length := by simp
          rw [hdl] at hdv
          obtain ⟨db, doff, rfl, z0⟩ := hdc n _ (dn_at hn)
          have HDV := Lib.hid hdv
          rw [hdv]
          clear hdc hdl hdv
          cases hdn : dn n with
          | false =>
            rw [hdn] at z0
            have HE := Lib.hid (show readOf ts dn i o = [] from by rw [HRD.out]; simp [hdn])
            clear hdn
            go_wp2_with fail
            exact HKK2.out _ _ (NEXT.out _ _ _ rfl ⟨rfl, rfl, rfl, HDV.out.symm, rfl, rfl, rfl, rfl, rfl, rfl, rfl⟩ rfl rfl (by rw [HE.out, List.append_nil]; exact HS3.out) HW3.out)
          | true =>
            rw [hdn] at z0
            have HE := Lib.hid (show readOf ts dn i o = [⟨i, n, o.key⟩] from by rw [HRD.out]; simp [hdn])
            have HWE := Lib.hid (show (R2 ++ readOf ts dn i o).flatMap wrEdge = R2.flatMap wrEdge ++ addE n i 2 from by rw [HE.out, List.flatMap_append]; simp [wrEdge])
            clear hdn
            unfold cloE
            go_wp2_with (first | (go_at_call 97; refine (add_call n i 2 w.heap.size b0 (R2.flatMap wrEdge) _ HS4.out.ed HS4.out.bel.size hel).mono ?_; rintro e5 w5 ⟨rfl, hi, ht⟩; have HI := Lib.hid (HS4.out.add hi ht); have HW5 := Lib.hid (HS4.out.ops ht HW4.out); clear hi ht) | (at_builtin; refine wpList_append_src rfl _ _ 166 rfl eltRead w.heap.size R2.length _ (World.ownsRow.alloc HS3.out.rr _) rfl 1 (rdV ⟨i, n, o.key⟩) (src_new (cs := #[vi i, vi n, vi o.key]) rfl rfl) rfl (rdV_one _) (by omega) (by omega) (by have := HS3.out.bel.size; simp; omega) ?_; intro v4 w4 ho4 hg4 _; have HS4 := Lib.hid (HS3.out.grow _ hg4 ho4); have HW4 := Lib.hid (HS3.out.growOps _ hg4 HW3.out); clear ho4 hg4))
            exact HKK2.out _ _ (NEXT.out _ _ _ rfl ⟨rfl, rfl, rfl, HDV.out.symm, rfl, rfl, rfl, rfl, rfl, rfl, rfl⟩ rfl rfl (by rw [HWE.out, HE.out]; exact HI.out) HW5.out)
    · have k1 : decide ((k : Int) < rs.length) = false := decide_eq_false (by omega)
      have HFIN := Lib.hid (show EdS w b0 ts dn dv rv ((R0 ++ rs.flatMap (readOf ts dn i)).flatMap wrEdge) (R0 ++ rs.flatMap (readOf ts dn i)) wr from by
        have h := HSk.out
        have hke : k = rs.length := by omega
        rw [hke, List.take_length] at h
        exact h)
      have hcc : ∀ (l : List Value), l.length = 199 → slotsOf l 0 = tsv ∧ slotsOf l 1 = mv ∧ slotsOf l 5 = .pointer (some ⟨b0, 0, none⟩) ∧ slotsOf l 6 = dv ∧ slotsOf l 8 = cloE b0 ∧ slotsOf l 48 = tsv ∧ slotsOf l 49 = .int .i64 (ts.length : Int) ∧ slotsOf l 50 = .int .i64 (i : Int) ∧ slotsOf l 9 = rv → K ⟨l.toArray, []⟩ wr := fun l hl' hc => by
        obtain ⟨t0, t1, t5, t6, t8, t48, t49, t50, t9⟩ := hc
        rw [frN_of 199 l hl']
        exact HK.out _ _ rv t0 t1 t5 t6 t8 t48 t49 t50 t9 HFIN.out
      have HCC := Lib.hid hcc
      rw [fr199, g0, g1, g5, g6, g8, g10, g48, g49, g50, g56, g57, g58, g9]
      clear hcc g0 g1 g5 g6 g8 g10 g48 g49 g50 g56 g57 g58 g9
      go_wp2_with fail
      exact HCC.out _ rfl ⟨rfl, rfl, rfl, rfl, rfl, rfl, rfl, rfl, rfl⟩
end Go.Proofs.YtnacoplokjdglaaGreat

namespace Go.Proofs.YtnacoplokjdglaaGreat
open Go.RowKit Go.Maps
attribute [local go_sem] Oper.semAt_some

theorem readsOf_len (ts : List GTxn) (dn : Nat → Bool) (c : Nat) (hc : ∀ t ∈ ts, t.ops.length ≤ c) : ∀ p : GTxn × Nat, p.1 ∈ ts → (readsOf ts dn p).length ≤ c := fun p hp => by
  unfold readsOf
  have h1 := flatMap_le 1 (readOf_len ts dn p.2) (readsM p.1)
  have h2 : (readsM p.1).length ≤ p.1.ops.length := by
    unfold readsM; split
    · exact readsS_le _
    · simp
  have := hc p.1 hp
  omega
theorem reads_le (ts : List GTxn) (dn : Nat → Bool) (c : Nat) (hc : ∀ t ∈ ts, t.ops.length ≤ c) (k : Nat) (hk : k ≤ ts.length) : ((ts.take k).zipIdx.flatMap (readsOf ts dn)).length ≤ k * c := by
  induction k with
  | zero => simp
  | succ k ih =>
    obtain ⟨t, ht⟩ := some_at (show k < ts.length by omega)
    rw [zipIdx_take_succ ht, List.flatMap_append, List.length_append, Nat.add_mul, Nat.one_mul]
    have h1 := ih (by omega)
    have h2 := readsOf_len ts dn c hc (t, k) (List.mem_of_getElem? ht)
    have h3 : ([(t, k)].flatMap (readsOf ts dn)) = readsOf ts dn (t, k) := by simp
    rw [h3]; omega
theorem readsM_short (t : GTxn) : (readsM t).length ≤ t.ops.length := by
  unfold readsM; split
  · exact readsS_le _
  · simp

set_option maxRecDepth 1000000 in
set_option maxHeartbeats 8000000 in
theorem edAA (w : World) (b0 : Nat) (ts : List GTxn) (L : FaL) (mv dv : Value) (ta : Option Addr) (tc : Nat) (dn : Nat → Bool) (c : Nat) (f : Nat → Value) (W : World) (hS : EdS w b0 ts dn dv (.slice none 0 0) [] [] W)
    (hv : RdTxns w (.slice ta ts.length tc) ts) (hok : OkTxns ts) (htl : ts.length ≤ 4096) (hm : FaV w mv L) (hc : ∀ t ∈ ts, t.ops.length ≤ c) (hB : ts.length * c ≤ 100000000 ∧ ts.length * c + ts.length * (16 * (ts.length * c)) + L.length * (1 + ts.length * c) ≤ 800000000) (hfin : ∀ V : FaL, (∀ p, p ∈ V ↔ p ∈ L) → ∀ e, e ∈ ((rdsL ts dn).flatMap wrEdge ++ ts.zipIdx.flatMap (rwT dn (rdsL ts dn))) ++ V.flatMap (factE ts dn (rdsL ts dn)) ↔ e ∈ edgeL ts L)
    (e0 : f 0 = .slice ta ts.length tc) (e1 : f 1 = mv) (e5 : f 5 = .pointer (some ⟨b0, 0, none⟩)) (e6 : f 6 = dv) :
    Code.wp Tryz.prog cEd1 (bodyPost Tryz.prog Tryz.f77 (EdQ ts L w)) (frN 199 f) W := by
  rw [fr199, e0, e1, e5, e6]
  clear e0 e1 e5 e6
  have HS := Lib.hid hS
  have HV := Lib.hid hv
  have HM := Lib.hid hm
  have HOK := Lib.hid hok
  have HFN := Lib.hid hfin
  have HBB := Lib.hid hB
  have HC := Lib.hid hc
  have hmf : ∀ (fn : Fn) (first cap : Array Value) (w : World), (Instr.makeFunc fn first cap).run Tryz.prog w = .ok (.func fn first cap) w := fun _ _ _ _ => rfl
  clear hS hv hm hfin hB hok hc
  conv => arg 2; whnf
  go_wp2_with fail
  rename_i KB hKB
  have HKB := Lib.hid hKB
  clear hKB hmf
  refine wp_loopF 199 (fun m g wr => g 0 = .slice ta ts.length tc ∧ g 1 = mv ∧ g 5 = .pointer (some ⟨b0, 0, none⟩) ∧ g 6 = dv ∧ g 8 = cloE b0 ∧ g 48 = .slice ta ts.length tc ∧ g 49 = .int .i64 (ts.length : Int) ∧
    ∃ (k : Nat) (rv : Value), k ≤ ts.length ∧ m = ts.length - k ∧ g 50 = .int .i64 k ∧ g 9 = rv ∧ EdS w b0 ts dn dv rv (((ts.take k).zipIdx.flatMap (readsOf ts dn)).flatMap wrEdge) ((ts.take k).zipIdx.flatMap (readsOf ts dn)) wr) _ rfl ts.length ?start ?round
  case start => exact ⟨rfl, rfl, rfl, rfl, rfl, rfl, rfl, 0, .slice none 0 0, Nat.zero_le _, rfl, rfl, rfl, by simpa using HS.out⟩
  case round =>
    rintro gm g wr ⟨g0, g1, g5, g6, g8, g48, g49, k, rv, hk, hgm, g50, g9, hS⟩ JJ KK HJ HKK
    have HJJ := Lib.hid HJ
    have HKK2 := Lib.hid HKK
    have HGM := Lib.hid hgm
    have HSk := Lib.hid hS
    clear HJ hgm hS HKK
    by_cases hlt : k < ts.length
    · have k1 : decide ((k : Int) < ts.length) = true := decide_eq_true (by omega)
      have k2 : (k : Int) < ts.length := by omega
      have hwk : IntKind.i64.wrap ((k : Int) + 1) = (k : Int) + 1 := IntWalk.i64_in _ (by omega)
      obtain ⟨t, ht⟩ := some_at hlt
      obtain ⟨_, _, _, e7, e8, -, hcl⟩ := (HV.out.later HSk.out.bel).at
      cases e7
      clear e8
      obtain ⟨gb, off, oa, oc, rfl, hr, c0, c1, c2⟩ := hcl k t ht
      have HRO := Lib.hid hr
      rw [fr199, g0, g1, g5, g6, g8, g48, g49, g50, g9]
      clear g0 g1 g5 g6 g8 g48 g49 g50 g9
      obtain ⟨R2, hR2⟩ : ∃ R2, R2 = (ts.take k).zipIdx.flatMap (readsOf ts dn) := ⟨_, rfl⟩
      have HR2 := Lib.hid hR2
      rw [← hR2] at HSk
      have HNX := Lib.hid (show (ts.take (k + 1)).zipIdx.flatMap (readsOf ts dn) = R2 ++ (readsM t).flatMap (readOf ts dn k) from by rw [zipIdx_take_succ ht, List.flatMap_append, hR2]; simp [readsOf])
      have htm := List.mem_of_getElem? ht
      obtain ⟨hok1, hok2⟩ := HOK.out.2 t htm
      have HOP := Lib.hid (show ∀ o ∈ readsM t, i64 o.key ∧ i64 o.val from fun o ho => (hok1 o (readsM_mem ho)).2)
      have HO1 := Lib.hid hok1
      have HLN := Lib.hid (show R2.length + (readsM t).length ≤ 200000000 from by
        have h1 := reads_le ts dn c HC.out k (by omega)
        have h2 := readsM_short t
        have h3 := HC.out t htm
        have h4 := HBB.out.1
        have h5 := Nat.mul_le_mul_right c (show k + 1 ≤ ts.length from hlt)
        rw [Nat.add_mul, Nat.one_mul] at h5
        rw [hR2]; omega)
      have HBl := Lib.hid ((Below.refl wr.heap.size wr).alloc (Nat.le_refl _) (.cells #[vi t.client, vi t.state, .slice oa t.ops.length oc] 49))
      have HSa := Lib.hid (HSk.out.later HBl.out)
      have HXx := Lib.hid (alloc_at wr (.cells #[vi t.client, vi t.state, .slice oa t.ops.length oc] 49))
      have HROa := Lib.hid ((HRO.out).later HBl.out)
      clear hcl ht hR2 hr hok1 htm
      go_upto_region 13 with fail
      clear c0 c1 c2
      generalize wr.alloc (.cells #[vi t.client, vi t.state, .slice oa t.ops.length oc] 49) = wa at *
      obtain ⟨tb, htb⟩ : ∃ tb, tb = wr.heap.size := ⟨_, rfl⟩
      rw [← htb] at HXx ⊢
      clear htb HBl
      have x0 : wa.cell? ⟨tb, 0, none⟩ = some (vi t.client) := by rw [cell_of HXx.out]; rfl
      have x1 : wa.cell? ⟨tb, 1, none⟩ = some (vi t.state) := by rw [cell_of HXx.out]; rfl
      have x2 : wa.cell? ⟨tb, 2, none⟩ = some (.slice oa t.ops.length oc) := by rw [cell_of HXx.out]; rfl
      have next : ∀ (l : List Value) (W2 : World) (rv' : Value), l.length = 199 → slotsOf l 0 = .slice (some ⟨gb, off, none⟩) ts.length tc ∧ slotsOf l 1 = mv ∧ slotsOf l 5 = .pointer (some ⟨b0, 0, none⟩) ∧ slotsOf l 6 = dv ∧ slotsOf l 8 = cloE b0 ∧ slotsOf l 48 = .slice (some ⟨gb, off, none⟩) ts.length tc ∧ slotsOf l 49 = .int .i64 (ts.length : Int) → slotsOf l 50 = .int .i64 ((k : Int) + 1) → slotsOf l 9 = rv' → EdS w b0 ts dn dv rv' ((R2 ++ (readsM t).flatMap (readOf ts dn k)).flatMap wrEdge) (R2 ++ (readsM t).flatMap (readOf ts dn k)) W2 → Handed JJ gm ⟨l.toArray, []⟩ W2 := fun l W2 rv' hl' hc h50 h9 h1 => by
        obtain ⟨t0, t1, t5, t6, t8, t48, t49⟩ := hc
        exact Handed.intro (ts.length - (k + 1)) (by rw [HGM.out]; omega) (HJJ.out _ _ _ hl' ⟨t0, t1, t5, t6, t8, t48, t49, k + 1, rv', by omega, rfl, by rw [h50]; go_num, h9, by rw [HNX.out]; exact h1⟩)
      have NEXT := Lib.hid next
      clear next
      go_upto_block 4 with (go_at_call 61; refine (reads_call t.client t.state _ t.ops wa HROa.out HO1.out hok2).mono ?_; rintro e1 w3 ⟨v3, rfl, ho3, hb3⟩; obtain ⟨a3, l3, c3, rfl, e9, -, -⟩ := ho3.rd.at; subst e9; have HO3 := Lib.hid (own_mono ho3 HSa.out.bel.size); have HS3 := Lib.hid (HSa.out.later hb3); clear ho3 hb3)
      rename_i K9 hK9
      have HK9 := Lib.hid hK9
      clear hK9
      refine wp_onlyN ?_ (fun _ _ h => h)
      refine wp_fr 199 _ rfl ?_
      refine edI w b0 ts mv dv rv _ _ dn R2 k (readsM t) _ _ _ HS3.out HO3.out HV.out HOK.out htl HOP.out HLN.out rfl rfl rfl rfl rfl rfl rfl rfl rfl rfl rfl rfl rfl ?_
      intro g' W' rv' h0 h1 h5 h6 h8 h48 h49 h50 h9 hSf
      refine HK9.out _ _ ?_
      have HSF := Lib.hid hSf
      clear hSf
      rw [fr199, h0, h1, h5, h6, h8, h48, h49, h50, h9]
      go_wp2_with fail
      exact HKK2.out _ _ (NEXT.out _ _ _ rfl ⟨rfl, rfl, rfl, rfl, rfl, rfl, rfl⟩ rfl rfl HSF.out)
    · have k1 : decide ((k : Int) < ts.length) = false := decide_eq_false (by omega)
      have HFIN := Lib.hid (show EdS w b0 ts dn dv rv ((rdsL ts dn).flatMap wrEdge) (rdsL ts dn) wr from by
        have h := HSk.out
        have hke : k = ts.length := by omega
        rw [hke, List.take_length] at h
        exact h)
      obtain ⟨ra, rc, rfl⟩ := Gr.own_shape (show World.ownsRow _ _ _ _ _ (rdsL ts dn).length _ from HFIN.out.rr)
      have hcc : ∀ (l : List Value), l.length = 199 → slotsOf l 0 = .slice ta ts.length tc ∧ slotsOf l 1 = mv ∧ slotsOf l 5 = .pointer (some ⟨b0, 0, none⟩) ∧ slotsOf l 6 = dv ∧ slotsOf l 8 = cloE b0 ∧ slotsOf l 9 = .slice ra (rdsL ts dn).length rc → Code.wp Tryz.prog cEd2 (bodyPost Tryz.prog Tryz.f77 (EdQ ts L w)) ⟨l.toArray, []⟩ wr := fun l hl' hc => by
        obtain ⟨t0, t1, t5, t6, t8, t9⟩ := hc
        rw [frN_of 199 l hl']
        have h1 := reads_le ts dn c HC.out ts.length (Nat.le_refl _)
        rw [List.take_length] at h1
        have h1' : (rdsL ts dn).length ≤ ts.length * c := h1
        have h2 := HBB.out
        have h3 := flatMap_le 1 wrEdge_len (rdsL ts dn)
        have h4 := Nat.mul_le_mul_left ts.length (Nat.mul_le_mul_left 16 h1')
        have h5 := Nat.mul_le_mul_left L.length (Nat.add_le_add_left h1' 1)
        exact edB w b0 ts L mv dv ta tc dn _ (rdsL ts dn) ra rc _ wr HFIN.out HV.out HOK.out htl HM.out (by omega) (by omega) HFN.out t0 t1 t5 t6 t8 t9
      have HCC := Lib.hid hcc
      rw [fr199, g0, g1, g5, g6, g8, g48, g49, g50, g9]
      clear hcc g0 g1 g5 g6 g8 g48 g49 g50 g9
      go_wp2_with fail
      exact HKB.out _ _ (HCC.out _ rfl ⟨rfl, rfl, rfl, rfl, rfl, rfl⟩)
end Go.Proofs.YtnacoplokjdglaaGreat
