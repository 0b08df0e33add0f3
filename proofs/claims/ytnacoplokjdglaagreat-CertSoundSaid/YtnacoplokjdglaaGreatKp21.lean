/- Texts of one proof, one behind the other: CtF, CtH, CkHd, CtHd, CtP, CkL0, CtC0, CtDel, ChRight, ChOrd. -/
import Derived.Shelf.SlSortCmp.Insertion
import Derived.Sort.Walk13a
import Derived.Sort.AssemblyPlain
import Derived.Shelf.SlSortCmp.Kit1
import Derived.Sort.WalkA
import Derived.Sort.Lot0
import Derived.Shelf.SlSortCmp.BreakPatterns1
import Derived.Sort.LotD1
import Derived.Sort.Walk13
import Derived.Sort.WalkB2
import Derived.Sort.WalkB12
import Derived.BigQuiet
import Derived.Sort.WalkB3
import Derived.Shelf.SlGeneric
import Derived.Shelf.SlLaysF
import Derived.Test.YtnacoplokjdglaaGreatProg
import Derived.Test.YtnacoplokjdglaaGreatKp1
import Derived.Test.YtnacoplokjdglaaGreatKp2
import Derived.Test.YtnacoplokjdglaaGreatKp3
import Derived.Test.YtnacoplokjdglaaGreatKp4
import Derived.Test.YtnacoplokjdglaaGreatKp5
import Derived.Test.YtnacoplokjdglaaGreatKp6
import Derived.Test.YtnacoplokjdglaaGreatKp7
import Derived.Test.YtnacoplokjdglaaGreatKp8
import Derived.Test.YtnacoplokjdglaaGreatKp9
import Derived.Test.YtnacoplokjdglaaGreatKp10
import Derived.Test.YtnacoplokjdglaaGreatKp11
import Derived.Test.YtnacoplokjdglaaGreatKp12
import Derived.Test.YtnacoplokjdglaaGreatKp13
import Derived.Test.YtnacoplokjdglaaGreatKp14
import Derived.Test.YtnacoplokjdglaaGreatKp15
import Derived.Test.YtnacoplokjdglaaGreatKp16
import Derived.Test.YtnacoplokjdglaaGreatKp17
import Derived.Test.YtnacoplokjdglaaGreatKp18
import Derived.Test.YtnacoplokjdglaaGreatKp19
import Derived.Test.YtnacoplokjdglaaGreatKp20
set_option linter.all false
namespace Go.Proofs.YtnacoplokjdglaaGreat
open Go.RowKit Go.Maps

def flA (x : Int × Int × Int) : Value := .agg #[vi x.1, vi x.2.1, vi x.2.2]
theorem eqInF (d : Nat) (a b : Int) (w : World) : (Op.equalIn (d + 1) 3 (vi a) (vi b)).run Tryz.prog w = .ok (a == b) w := by
  simp [Op.equalIn, run_underlying Tryz.underlying3]
set_option maxRecDepth 100000 in
theorem eqF_in (d : Nat) (x y : Int × Int × Int) (w : World) : (Op.equalIn (d + 1 + 1) 32 (flA x) (flA y)).run Tryz.prog w = .ok (x == y) w := by
  have hs : Tryz.prog.stoodInHeld 32 = false := by kernel_rfl
  have p0 : ∀ a b c w, (part 3 #[vi a, vi b, vi c] 0).run Tryz.prog w = .ok (vi a) w := fun _ _ _ _ => by kernel_rfl
  have p1 : ∀ a b c w, (part 3 #[vi a, vi b, vi c] 1).run Tryz.prog w = .ok (vi b) w := fun _ _ _ _ => by kernel_rfl
  have p2 : ∀ a b c w, (part 3 #[vi a, vi b, vi c] 2).run Tryz.prog w = .ok (vi c) w := fun _ _ _ _ => by kernel_rfl
  have hd : (x == y) = (x.1 == y.1 && (x.2.1 == y.2.1 && x.2.2 == y.2.2)) := by
    obtain ⟨a, b, c⟩ := x; obtain ⟨a', b', c'⟩ := y
    rw [Bool.eq_iff_iff]; simp
  rw [hd]
  unfold Op.equalIn flA
  by_cases h1 : x.1 = y.1 <;> by_cases h2 : x.2.1 = y.2.1 <;> by_cases h3 : x.2.2 = y.2.2 <;> simp [run_underlying Tryz.underlying32, hs, eqInF, p0, p1, p2, h1, h2, h3, Result.andThen]
theorem eqlF (x y : Int × Int × Int) (w : World) : (binOp .eql 32 (.agg #[vi x.1, vi x.2.1, vi x.2.2]) (.agg #[vi y.1, vi y.2.1, vi y.2.2])).run Tryz.prog w = .ok (.bool (x == y)) w := by
  have h : (Op.equal 32 (.agg #[vi x.1, vi x.2.1, vi x.2.2]) (.agg #[vi y.1, vi y.2.1, vi y.2.2])).run Tryz.prog w = .ok (x == y) w := eqF_in 9998 x y w
  simp only [binOp]
  simp [h]
def idxF (q : Int × Int × Int → Bool) (l : List (Int × Int × Int)) : Int := match l.findIdx? q with | some i => (i : Int) | none => -1
theorem idxF_any (q : Int × Int × Int → Bool) (l : List (Int × Int × Int)) : decide (0 ≤ idxF q l) = l.any q := by
  unfold idxF
  cases h : l.findIdx? q with
  | none =>
    rw [List.findIdx?_eq_none_iff] at h
    simp only [show ¬ ((0 : Int) ≤ -1) from by decide, decide_false]
    symm; rw [List.any_eq_false]; exact fun x hx => by simp [h x hx]
  | some i =>
    have hs : (l.findIdx? q).isSome = true := by rw [h]; rfl
    rw [List.findIdx?_isSome] at hs
    rw [hs]; simp
abbrev RdFw (w : World) (v : Value) (l : List (Int × Int × Int)) : Prop := RdS 3 (fun _ cs x => cs = flV x) w v l
theorem RdFw.at {w : World} {v : Value} {l : List (Int × Int × Int)} (h : RdFw w v l) : ∃ a len cap, v = .slice a len cap ∧ len = l.length ∧ l.length ≤ 9223372036854775807 ∧ ∀ j x, l[j]? = some x → ∃ b off, a = some ⟨b, off, none⟩ ∧ w.cell? ⟨b, off + j * 3, none⟩ = some (vi x.1) ∧ w.cell? ⟨b, off + j * 3 + 1, none⟩ = some (vi x.2.1) ∧ w.cell? ⟨b, off + j * 3 + 2, none⟩ = some (vi x.2.2) := by
  obtain ⟨a, len, cap, h1, h2, h3, h4, h5, h6⟩ := h
  refine ⟨a, len, cap, h1, h2, h3, fun j x hj => ?_⟩
  obtain ⟨b, off, cs, ha, hl, hc, rfl⟩ := h6 j x hj
  exact ⟨b, off, ha, by simpa using hc 0 _ rfl, by simpa [Nat.add_assoc] using hc 1 _ rfl, by simpa [Nat.add_assoc] using hc 2 _ rfl⟩
theorem OwFw.rd {base : Nat} {w : World} {v : Value} {l : List (Int × Int × Int)} (h : OwFw base w v l) : RdFw w v l := rds_of_own (V := flV) (fun _ => rfl) h
attribute [local go_sem] Oper.semAt_some

set_option maxRecDepth 100000 in
set_option maxHeartbeats 2000000 in
theorem indexF_call (v : Value) (l : List (Int × Int × Int)) (z : Int × Int × Int) (w : World) (hv : RdFw w v l) :
    Calls Tryz.prog 78 #[v, .agg #[vi z.1, vi z.2.1, vi z.2.2]] w fun e w' => e = .returned (.int .i64 (idxF (fun o => z == o) l)) ∧ Below w.heap.size w w' := by
  have HV := Lib.hid hv
  obtain ⟨a, n, cap, rfl, rfl, hm, -⟩ := hv.at
  have HX := Lib.hid (alloc_at w (.cells #[vi z.1, vi z.2.1, vi z.2.2] 32))
  have HB0 := Lib.hid ((Below.refl w.heap.size w).alloc (Nat.le_refl _) (.cells #[vi z.1, vi z.2.1, vi z.2.2] 32))
  have hw0 : (w.alloc (.cells #[vi z.1, vi z.2.1, vi z.2.2] 32)).heap.size = w.heap.size + 1 := by simp
  clear hv
  go_enter Tryz.func78, Tryz.ntmps78
  go_wp2_with fail
  generalize w.alloc (.cells #[vi z.1, vi z.2.1, vi z.2.2] 32) = w0 at *
  go_loopw [5, 8] (fun _ i wr => ∃ k : Nat, k ≤ l.length ∧ i = .int .i64 k ∧ (∀ j o, j < k → l[j]? = some o → (z == o) = false) ∧ Below w0.heap.size w0 wr) (fun _ i _ => l.length - (intOf i).toNat)
  case atStart => exact ⟨0, Nat.zero_le _, rfl, fun j o hj => absurd hj (Nat.not_lt_zero _), Below.refl _ _⟩
  case round =>
    obtain ⟨wj, rfl⟩ : ∃ wj : World, wj = wr := ⟨_, rfl⟩
    obtain ⟨k, hk, rfl, hno, hb⟩ := hrel
    have HBj := Lib.hid hb
    have HB := Lib.hid (HB0.out.trans (hb.mono HB0.out.size))
    have HN := Lib.hid hno
    have HXj := Lib.hid ((hb.block _ (by omega)).trans HX.out)
    clear hb hno
    by_cases hlt : k < l.length
    · obtain ⟨o, ho⟩ := some_at hlt
      obtain ⟨_, _, _, e5, _, -, hcl⟩ := HV.out.at
      cases e5
      obtain ⟨b, off, rfl, k0', k1', k2'⟩ := hcl k o ho
      have k0 := cell_later HB.out k0'
      have k1 := cell_later HB.out k1'
      have k2 := cell_later HB.out k2'
      have x0 : wj.cell? ⟨w.heap.size, 0, none⟩ = some (vi z.1) := by rw [cell_of HXj.out]; rfl
      have x1 : wj.cell? ⟨w.heap.size, 1, none⟩ = some (vi z.2.1) := by rw [cell_of HXj.out]; rfl
      have x2 : wj.cell? ⟨w.heap.size, 2, none⟩ = some (vi z.2.2) := by rw [cell_of HXj.out]; rfl
      have HO := Lib.hid ho
      have hq := eqlF z o
      have hltI : (k : Int) < (l.length : Int) := by omega
      clear hcl ho k0' k1' k2'
      cases hh : (z == o) with
      | true =>
        have HH := Lib.hid hh
        rw [hh] at hq
        clear hh
        go_wp2
        go_quiet (fail)
        go_wp2
        go_ret
        have : idxF (fun o => z == o) l = k := by
          unfold idxF
          have : l.findIdx? (fun o => z == o) = some k := by
            rw [List.findIdx?_eq_some_iff_getElem]
            have hg := List.getElem?_eq_some_iff.1 HO.out
            refine ⟨hlt, by rw [hg.2]; exact HH.out, fun j hj => ?_⟩
            have := HN.out j l[j] hj (List.getElem?_eq_getElem _)
            simp [this]
          rw [this]
        exact ⟨by rw [this]; rfl, below_drewN HB.out _⟩
      | false =>
        have HH := Lib.hid hh
        rw [hh] at hq
        clear hh
        go_wp2
        go_quiet (fail)
        go_wp2
        go_roundw
        case rel =>
          refine ⟨k + 1, by omega, by go_num, ?_, below_drewN HBj.out _⟩
          intro j o' hj ho'
          rcases Nat.lt_or_ge j k with h | h
          · exact HN.out j o' h ho'
          · obtain rfl : j = k := by omega
            rw [HO.out] at ho'; cases ho'; exact HH.out
        case measure => simp [intOf]; omega
    · obtain rfl : k = l.length := by omega
      go_wp2_with fail
      go_ret
      have : idxF (fun o => z == o) l = -1 := by
        unfold idxF
        have : l.findIdx? (fun o => z == o) = none := by
          rw [List.findIdx?_eq_none_iff]
          intro x hx
          obtain ⟨j, hj, rfl⟩ := List.mem_iff_getElem.1 hx
          exact HN.out j l[j] hj (List.getElem?_eq_getElem _)
        rw [this]
      exact ⟨by rw [this]; rfl, HB.out⟩

set_option maxRecDepth 100000 in
theorem containsF_call (v : Value) (l : List (Int × Int × Int)) (z : Int × Int × Int) (w : World) (hv : RdFw w v l) :
    Calls Tryz.prog 53 #[v, .agg #[vi z.1, vi z.2.1, vi z.2.2]] w fun e w' => e = .returned (.bool (l.any (fun o => z == o))) ∧ Below w.heap.size w w' := by
  have HV := Lib.hid (RdS.below hv ((Below.refl w.heap.size w).alloc (Nat.le_refl _) (.cells #[vi z.1, vi z.2.1, vi z.2.2] 32)) fun _ _ h => h)
  have HX := Lib.hid (alloc_at w (.cells #[vi z.1, vi z.2.1, vi z.2.2] 32))
  have HB0 := Lib.hid ((Below.refl w.heap.size w).alloc (Nat.le_refl _) (.cells #[vi z.1, vi z.2.1, vi z.2.2] 32))
  clear hv
  go_enter Tryz.func53, Tryz.ntmps53
  go_upto_region 1 with fail
  generalize w.alloc (.cells #[vi z.1, vi z.2.1, vi z.2.2] 32) = w0 at *
  have x0 : w0.cell? ⟨w.heap.size, 0, none⟩ = some (vi z.1) := by rw [cell_of HX.out]; rfl
  have x1 : w0.cell? ⟨w.heap.size, 1, none⟩ = some (vi z.2.1) := by rw [cell_of HX.out]; rfl
  have x2 : w0.cell? ⟨w.heap.size, 2, none⟩ = some (vi z.2.2) := by rw [cell_of HX.out]; rfl
  go_wp2_with (go_at_call 78; refine (indexF_call v l z w0 HV.out).mono ?_; rintro e w1 ⟨rfl, hb1⟩; have HB1 := Lib.hid (HB0.out.trans (hb1.mono HB0.out.size)); clear hb1)
  go_ret
  exact ⟨by rw [← idxF_any]; first | rfl | simp, HB1.out⟩
end Go.Proofs.YtnacoplokjdglaaGreat

namespace Go.Proofs.YtnacoplokjdglaaGreat
open Go.RowKit Go.Maps
attribute [local go_sem] Oper.semAt_some

/-- Is a failing shown: by a flaw, or by steps? -/
noncomputable def failB (ts : List GTxn) (level : Int) (f : Int × Int × Int) (N : List (List Int)) : Bool := if flawsM ts = [] then treeC ts level N.length [] N == some [] else (flawsM ts).any (fun o => f == o)
set_option maxRecDepth 100000 in
set_option maxHeartbeats 8000000 in
theorem holds_other (v : Value) (es : List GEvent) (ts : List GTxn) (level k s : Int) (f : Int × Int × Int) (na : Option Addr) (nn nc : Nat) (da : Option Addr) (dn dc : Nat) (om : Option Nat) (w : World) (hv : RdEvents w v es) (hes : es.length ≤ 60)
    (hh : histH es = some ts) (hlv : level = 1 ∨ level = 2) (hk1 : k ≠ 1) (hk2 : k ≠ 2) :
    Calls Tryz.prog 25 #[v, vi level, .agg #[vi k, vi s, vi f.1, vi f.2.1, vi f.2.2, .slice na nn nc, .slice da dn dc, .map om]] w fun e w' => e = .returned (.bool false) ∧ Below w.heap.size w w' := by
  have HV := Lib.hid (hv.later ((Below.refl w.heap.size w).alloc (Nat.le_refl _) (.cells #[vi k, vi s, vi f.1, vi f.2.1, vi f.2.2, .slice na nn nc, .slice da dn dc, .map om] 39)))
  have HX := Lib.hid (alloc_at w (.cells #[vi k, vi s, vi f.1, vi f.2.1, vi f.2.2, .slice na nn nc, .slice da dn dc, .map om] 39))
  have HB0 := Lib.hid ((Below.refl w.heap.size w).alloc (Nat.le_refl _) (.cells #[vi k, vi s, vi f.1, vi f.2.1, vi f.2.2, .slice na nn nc, .slice da dn dc, .map om] 39))
  have hw0 : (w.alloc (.cells #[vi k, vi s, vi f.1, vi f.2.1, vi f.2.2, .slice na nn nc, .slice da dn dc, .map om] 39)).heap.size = w.heap.size + 1 := by simp
  have HH := Lib.hid hh
  have HG := Lib.hid (hist_good hes hh).1
  have hlen := HG.out.len
  have q1 := beq_f hk1
  have q2 := beq_f hk2
  clear hv hh hk1 hk2
  go_enter Tryz.func25, Tryz.ntmps25
  go_upto_region 1 with fail
  generalize w.alloc (.cells #[vi k, vi s, vi f.1, vi f.2.1, vi f.2.2, .slice na nn nc, .slice da dn dc, .map om] 39) = w0 at *
  go_upto_region 2 with (go_at_call 38; refine (hof_call _ es w0 HV.out hes).mono ?_; rintro e1 w1 ⟨v1, p1, err, rfl, hok1, hbad1, ⟨a1, n1, c1, rfl⟩, hb1⟩; have HOK := Lib.hid hok1; have HBAD := Lib.hid hbad1; have HB1 := Lib.hid (HB0.out.trans (hb1.mono HB0.out.size)); have HX1 := Lib.hid ((hb1.block _ (by omega)).trans HX.out); have hlt1 : w.heap.size < w1.heap.size := (by have := hb1.size; omega); clear hok1 hbad1 hb1)
  have h0 : err = 0 := by
    by_cases h : err = 0
    · exact h
    · have := HBAD.out h
      rw [HH.out] at this; cases this
  obtain ⟨ts', hts, hrd⟩ := HOK.out h0
  rw [HH.out] at hts
  cases hts
  have HRD := Lib.hid hrd
  obtain ⟨_, _, _, e5, e6, -, -⟩ := hrd.at
  cases e5
  subst e6
  subst h0
  clear hrd
  have hwb := HB1.out.size
  rcases hlv with rfl | rfl
  all_goals
    go_upto_region 5 with (go_at_call 39; refine (all_call _ ts w1 HRD.out HG.out.ok (by omega) HG.out.uniq).mono ?_; rintro e2 w2 ⟨v2, rfl, ho2, hb2⟩; have HB2 := Lib.hid (HB1.out.trans (hb2.mono hwb)); have HX2 := Lib.hid ((hb2.block _ hlt1).trans HX1.out); clear ho2 hb2)
    have x0 : w2.cell? ⟨w.heap.size, 0, none⟩ = some (vi k) := by rw [cell_of HX2.out]; rfl
    go_wp2_with fail
    go_ret
    exact ⟨rfl, HB2.out⟩
set_option maxRecDepth 100000 in
set_option maxHeartbeats 8000000 in
theorem holds_fail (v : Value) (es : List GEvent) (ts : List GTxn) (level s : Int) (f : Int × Int × Int) (na : Option Addr) (nn nc : Nat) (da : Option Addr) (dn dc : Nat) (om : Option Nat) (w : World) (hv : RdEvents w v es) (hes : es.length ≤ 60)
    (hh : histH es = some ts) (hlv : level = 1 ∨ level = 2) (N : List (List Int)) (hN : RdNodes w (.slice na nn nc) N) (hCs : ∀ C ∈ N, C.length ≤ 1000000000) :
    Calls Tryz.prog 25 #[v, vi level, .agg #[vi 2, vi s, vi f.1, vi f.2.1, vi f.2.2, .slice na nn nc, .slice da dn dc, .map om]] w fun e w' => e = .returned (.bool (failB ts level f N)) ∧ Below w.heap.size w w' := by
  have HV := Lib.hid (hv.later ((Below.refl w.heap.size w).alloc (Nat.le_refl _) (.cells #[vi 2, vi s, vi f.1, vi f.2.1, vi f.2.2, .slice na nn nc, .slice da dn dc, .map om] 39)))
  have HX := Lib.hid (alloc_at w (.cells #[vi 2, vi s, vi f.1, vi f.2.1, vi f.2.2, .slice na nn nc, .slice da dn dc, .map om] 39))
  have HB0 := Lib.hid ((Below.refl w.heap.size w).alloc (Nat.le_refl _) (.cells #[vi 2, vi s, vi f.1, vi f.2.1, vi f.2.2, .slice na nn nc, .slice da dn dc, .map om] 39))
  have hw0 : (w.alloc (.cells #[vi 2, vi s, vi f.1, vi f.2.1, vi f.2.2, .slice na nn nc, .slice da dn dc, .map om] 39)).heap.size = w.heap.size + 1 := by simp
  have HH := Lib.hid hh
  have HG := Lib.hid (hist_good hes hh).1
  have hlen := HG.out.len
  have HN0 := Lib.hid (hN.later HB0.out)
  obtain ⟨_, _, _, e5, e6, hnm, -⟩ := id hN
  cases e5
  subst e6
  have HCS := Lib.hid hCs
  clear hv hh hN hCs hnm
  go_enter Tryz.func25, Tryz.ntmps25
  go_upto_region 1 with fail
  generalize w.alloc (.cells #[vi 2, vi s, vi f.1, vi f.2.1, vi f.2.2, .slice na N.length nc, .slice da dn dc, .map om] 39) = w0 at *
  go_upto_region 2 with (go_at_call 38; refine (hof_call _ es w0 HV.out hes).mono ?_; rintro e1 w1 ⟨v1, p1, err, rfl, hok1, hbad1, ⟨a1, n1, c1, rfl⟩, hb1⟩; have HOK := Lib.hid hok1; have HBAD := Lib.hid hbad1; have HB1 := Lib.hid (HB0.out.trans (hb1.mono HB0.out.size)); have HX1 := Lib.hid ((hb1.block _ (by omega)).trans HX.out); have HN1 := Lib.hid (HN0.out.later hb1); have hlt1 : w.heap.size < w1.heap.size := (by have := hb1.size; omega); clear hok1 hbad1 hb1)
  have h0 : err = 0 := by
    by_cases h : err = 0
    · exact h
    · have := HBAD.out h
      rw [HH.out] at this; cases this
  obtain ⟨ts', hts, hrd⟩ := HOK.out h0
  rw [HH.out] at hts
  cases hts
  have HRD := Lib.hid hrd
  obtain ⟨_, _, _, e5, e6, -, -⟩ := hrd.at
  cases e5
  subst e6
  subst h0
  clear hrd
  have hwb := HB1.out.size
  obtain ⟨o, ho⟩ : ∃ o, treeC ts level N.length [] N = o := ⟨_, rfl⟩
  have HT := Lib.hid ho
  clear ho
  rcases hlv with rfl | rfl
  all_goals
    go_upto_region 5 with (go_at_call 39; refine (all_call _ ts w1 HRD.out HG.out.ok (by omega) HG.out.uniq).mono ?_; rintro e2 w2 ⟨v2, rfl, ho2, hb2⟩; obtain ⟨a2, c2, rfl⟩ := Gr.own_shape (show World.ownsRow _ _ _ _ _ (flawsM ts).length _ from ho2); have HO2 := Lib.hid (OwFw.rd ho2); have HB2 := Lib.hid (HB1.out.trans (hb2.mono hwb)); have HX2 := Lib.hid ((hb2.block _ hlt1).trans HX1.out); have HR2 := Lib.hid (HRD.out.later hb2); have HN2 := Lib.hid (HN1.out.later hb2); clear ho2 hb2)
    have x0 : w2.cell? ⟨w.heap.size, 0, none⟩ = some (vi 2) := by rw [cell_of HX2.out]; rfl
    have hwb2 := HB2.out.size
    by_cases hF : flawsM ts = []
    · have HF := Lib.hid hF
      rw [hF]
      have hmk := @run_makeMap Tryz.prog
      have HA3 := Lib.hid ((Below.refl w2.heap.size w2).alloc (Nat.le_refl _) (.map #[] 0))
      have HM3 := Lib.hid (show MapF (w2.alloc (.map #[] 0)) w2.heap.size [] from MapT.made w2)
      have HT3 := Lib.hid (fun lv => tree_call ts lv (.slice a1 ts.length c1) w2 HG.out HR2.out N.length [] [] w2.heap.size (.slice na N.length nc) N (w2.alloc (.map #[] 0)) HA3.out HM3.out (SameF.refl _) (FaOk.nil ts) (HN2.out.later HA3.out) (Nat.le_refl _) HCS.out)
      have x5 : w2.cell? ⟨w.heap.size, 5, none⟩ = some (.slice na N.length nc) := by rw [cell_of HX2.out]; rfl
      have x5' := cell_later HA3.out x5
      clear hF
      go_upto_region 13 with (go_at_call 54; ((with_reducible refine (HT3.out _).mono ?_); rintro e4 w4 ⟨a4, k4, c4, rfl, hr4, hb4⟩; have HR4 := Lib.hid hr4; have HB4 := Lib.hid (HB2.out.trans ((HA3.out.trans (hb4.mono HA3.out.size)).mono hwb2)); clear hr4 hb4))
      rw [HT.out] at HR4 ⊢
      have HFB := Lib.hid (show ∀ lv o, treeC ts lv N.length [] N = o → failB ts lv f N = (o == some []) from fun lv o h => by rw [failB, if_pos HF.out, h])
      cases o with
      | none =>
        go_wp2_with fail
        go_ret
        exact ⟨by rw [HFB.out _ _ HT.out]; rfl, HB4.out⟩
      | some r =>
        obtain ⟨_, _, _, e7, e8, -, -⟩ := HR4.out r rfl
        cases e7
        subst e8
        cases r with
        | nil =>
          go_wp2_with fail
          go_ret
          exact ⟨by rw [HFB.out _ _ HT.out]; rfl, HB4.out⟩
        | cons C0 r0 =>
          have hl0 : (((r0.length + 1 : Nat) : Int) == 0) = false := by simp; omega
          have HQ := Lib.hid (show (some (C0 :: r0) == some ([] : List (List Int))) = false from rfl)
          simp only [List.length_cons]
          go_wp2_with fail
          go_ret
          exact ⟨by rw [HFB.out _ _ HT.out, HQ.out]; rfl, HB4.out⟩
    · have h0 : 0 < (flawsM ts).length := List.length_pos_iff.2 hF
      have h0I : (0 : Int) < ((flawsM ts).length : Int) := by omega
      have HF := Lib.hid (show ∀ lv N, failB ts lv f N = (flawsM ts).any (fun o => f == o) from fun lv N => if_neg hF)
      have x2 : w2.cell? ⟨w.heap.size, 2, none⟩ = some (vi f.1) := by rw [cell_of HX2.out]; rfl
      have x3 : w2.cell? ⟨w.heap.size, 3, none⟩ = some (vi f.2.1) := by rw [cell_of HX2.out]; rfl
      have x4 : w2.cell? ⟨w.heap.size, 4, none⟩ = some (vi f.2.2) := by rw [cell_of HX2.out]; rfl
      clear hF
      go_wp2_with (go_at_call 53; refine (containsF_call _ (flawsM ts) f w2 HO2.out).mono ?_; rintro e3 w3 ⟨rfl, hb3⟩; have HB3 := Lib.hid (HB2.out.trans (hb3.mono hwb2)); clear hb3)
      go_ret
      exact ⟨by rw [HF.out]; rfl, HB3.out⟩
end Go.Proofs.YtnacoplokjdglaaGreat

namespace Go.Proofs.YtnacoplokjdglaaGreat
open Go.RowKit Go.Maps
attribute [local go_sem] Oper.semAt_some

theorem rd_events_own {base : Nat} {w : World} {v : Value} {L : List (GEvent × Value)} (h : w.ownsRow base 53 3 v L.length (L.flatMap (fun p => [vi p.1.kind, vi p.1.client, p.2]))) (ho : ∀ p ∈ L, RdOps w p.2 p.1.ops) : RdEvents w v (L.map (·.1)) := by
  obtain ⟨a, len, cap, h1, h2, h3, h4, h5, h6⟩ := rds_of_own (V := fun p : GEvent × Value => [vi p.1.kind, vi p.1.client, p.2]) (fun _ => rfl) h
  refine ⟨a, len, cap, h1, by simpa using h2, by simpa using h3, h4, h5, fun j x hj => ?_⟩
  rw [List.getElem?_map, Option.map_eq_some_iff] at hj
  obtain ⟨p, hp, rfl⟩ := hj
  obtain ⟨b, off, cs, ha, hl, hc, rfl⟩ := h6 j p hp
  exact ⟨b, off, _, ha, hl, hc, p.2, rfl, ho p (List.mem_of_getElem? hp)⟩
theorem skew_rdE (w : World) : RdEvents (((w.alloc (.cells #[vi 1, vi 0, vi 0, vi 2, vi 1, vi 1] 51)).alloc (.cells #[vi 1, vi 1, vi 0, vi 2, vi 0, vi 2] 51)).alloc (.cells #[vi 1, vi 1, .slice (some ⟨w.heap.size, 0, none⟩) 2 2, vi 1, vi 2, .slice (some ⟨w.heap.size + 1, 0, none⟩) 2 2, vi 2, vi 1, .slice (some ⟨w.heap.size, 0, none⟩) 2 2, vi 2, vi 2, .slice (some ⟨w.heap.size + 1, 0, none⟩) 2 2] 53)) (.slice (some ⟨w.heap.size + 2, 0, none⟩) 4 4) skewEv := by
  have h1 : OwOps w.heap.size (w.alloc (.cells #[vi 1, vi 0, vi 0, vi 2, vi 1, vi 1] 51)) (.slice (some ⟨w.heap.size, 0, none⟩) 2 2) skA := World.ownsRow_lit w #[vi 1, vi 0, vi 0, vi 2, vi 1, vi 1] 2 (Nat.le_refl _) (by simp [maxLen]) rfl
  have h2 : OwOps w.heap.size ((w.alloc (.cells #[vi 1, vi 0, vi 0, vi 2, vi 1, vi 1] 51)).alloc (.cells #[vi 1, vi 1, vi 0, vi 2, vi 0, vi 2] 51)) (.slice (some ⟨w.heap.size + 1, 0, none⟩) 2 2) skB := by
    have := World.ownsRow_lit (base := w.heap.size) (e := 51) (size := 3) (w.alloc (.cells #[vi 1, vi 0, vi 0, vi 2, vi 1, vi 1] 51)) #[vi 1, vi 1, vi 0, vi 2, vi 0, vi 2] 2 (by simp) (by simp [maxLen]) rfl
    simpa [OwOps, opV, skB] using this
  have h3 := World.ownsRow_lit (base := w.heap.size) (e := 53) (size := 3) ((w.alloc (.cells #[vi 1, vi 0, vi 0, vi 2, vi 1, vi 1] 51)).alloc (.cells #[vi 1, vi 1, vi 0, vi 2, vi 0, vi 2] 51)) #[vi 1, vi 1, .slice (some ⟨w.heap.size, 0, none⟩) 2 2, vi 1, vi 2, .slice (some ⟨w.heap.size + 1, 0, none⟩) 2 2, vi 2, vi 1, .slice (some ⟨w.heap.size, 0, none⟩) 2 2, vi 2, vi 2, .slice (some ⟨w.heap.size + 1, 0, none⟩) 2 2] 4 (by simp; omega) (by simp [maxLen]) rfl
  refine rd_events_own (base := w.heap.size) (L := [(⟨1, 1, skA⟩, .slice (some ⟨w.heap.size, 0, none⟩) 2 2), (⟨1, 2, skB⟩, .slice (some ⟨w.heap.size + 1, 0, none⟩) 2 2), (⟨2, 1, skA⟩, .slice (some ⟨w.heap.size, 0, none⟩) 2 2), (⟨2, 2, skB⟩, .slice (some ⟨w.heap.size + 1, 0, none⟩) 2 2)]) (by simpa using h3) fun p hp => ?_
  have ha := OwOps.rd (World.ownsRow.alloc (World.ownsRow.alloc h1 (.cells #[vi 1, vi 1, vi 0, vi 2, vi 0, vi 2] 51)) (.cells #[vi 1, vi 1, .slice (some ⟨w.heap.size, 0, none⟩) 2 2, vi 1, vi 2, .slice (some ⟨w.heap.size + 1, 0, none⟩) 2 2, vi 2, vi 1, .slice (some ⟨w.heap.size, 0, none⟩) 2 2, vi 2, vi 2, .slice (some ⟨w.heap.size + 1, 0, none⟩) 2 2] 53))
  have hb := OwOps.rd (World.ownsRow.alloc h2 (.cells #[vi 1, vi 1, .slice (some ⟨w.heap.size, 0, none⟩) 2 2, vi 1, vi 2, .slice (some ⟨w.heap.size + 1, 0, none⟩) 2 2, vi 2, vi 1, .slice (some ⟨w.heap.size, 0, none⟩) 2 2, vi 2, vi 2, .slice (some ⟨w.heap.size + 1, 0, none⟩) 2 2] 53))
  simp at hp
  rcases hp with rfl | rfl | rfl | rfl
  · exact ha
  · exact hb
  · exact ha
  · exact hb
end Go.Proofs.YtnacoplokjdglaaGreat

namespace Go.Proofs.YtnacoplokjdglaaGreat
open Go.RowKit Go.Maps
attribute [local go_sem] Oper.semAt_some

set_option maxRecDepth 100000 in
set_option maxHeartbeats 1000000 in
theorem skew12_call (w : World) : Calls Tryz.prog 49 #[] w fun e w' => ∃ v, e = .returned v ∧ RdEvents w' v skewEv ∧ Below w.heap.size w w' := by
  have HT := Lib.hid (skew_rdE w)
  have HB := Lib.hid ((((Below.refl w.heap.size w).alloc (Nat.le_refl _) (.cells #[vi 1, vi 0, vi 0, vi 2, vi 1, vi 1] 51)).alloc (by simp) (.cells #[vi 1, vi 1, vi 0, vi 2, vi 0, vi 2] 51)).alloc (by simp; omega) (.cells #[vi 1, vi 1, .slice (some ⟨w.heap.size, 0, none⟩) 2 2, vi 1, vi 2, .slice (some ⟨w.heap.size + 1, 0, none⟩) 2 2, vi 2, vi 1, .slice (some ⟨w.heap.size, 0, none⟩) 2 2, vi 2, vi 2, .slice (some ⟨w.heap.size + 1, 0, none⟩) 2 2] 53))
  go_enter Tryz.func49, Tryz.ntmps49
  go_wp2_with fail
  go_ret
  exact ⟨_, rfl, HT.out, HB.out⟩

theorem skew_edges_is : EdgesOf skewT [] skewE := by
  have e0 : edgeL skewT [] = [⟨1, 0, 3⟩, ⟨0, 1, 3⟩] ∨ edgeL skewT [] = [⟨0, 1, 3⟩, ⟨1, 0, 3⟩] := by decide
  refine ⟨by simp [skewE, ltE], fun p => ?_⟩
  rcases e0 with e0 | e0 <;> rw [e0] <;> simp [skewE] <;> (constructor <;> (rintro (h | h) <;> simp [h]))
theorem sort_one (x : Int) : sortC [x] = [x] := by unfold sortC; rw [List.perm_singleton.1 (srt_perm [x])]; rfl
theorem skew_nt : nextT (sizeM skewT.length) (liftL skewE 2) = [[1], [0]] := by
  have h0 : sizeM skewT.length = 2 := by decide
  rw [h0]
  show [sortC (rawRow 2 (liftL skewE 2) 0), sortC (rawRow 2 (liftL skewE 2) 1)] = _
  rw [show rawRow 2 (liftL skewE 2) 0 = [1] from by decide, show rawRow 2 (liftL skewE 2) 1 = [0] from by decide, sort_one, sort_one]
theorem skew_isX {C : List Int} : IsCyc skewT [] 2 C ↔ isX (nextT (sizeM skewT.length) (liftL skewE 2)) C = true := isCyc_of skew_edges_is
theorem skew_t2 : treeC skewT 2 1 [] [[0, 1]] = some [] := by
  rw [treeC, if_pos (by decide), if_pos (skew_isX.2 (by rw [skew_nt]; decide))]
theorem skew_t1 : treeC skewT 2 1 [] [[0]] = none := by
  rw [treeC, if_pos (by decide), if_neg (fun h => absurd (skew_isX.1 h) (by rw [skew_nt]; decide))]
theorem skew_f2 : failB skewT 2 (0, 0, 0) [[0, 1]] = true := by
  rw [failB, if_pos skew_flaws]; exact (by rw [show ([[0, 1]] : List (List Int)).length = 1 from rfl, skew_t2]; rfl)
theorem skew_f1 : failB skewT 2 (0, 0, 0) [[0]] = false := by
  rw [failB, if_pos skew_flaws]; exact (by rw [show ([[0]] : List (List Int)).length = 1 from rfl, skew_t1]; rfl)

set_option maxRecDepth 100000 in
set_option maxHeartbeats 1000000 in
theorem failed_call (a : Option Addr) (n c : Nat) (C : List Int) (w : World) (hC : RdInts w (.slice a n c) C) : Calls Tryz.prog 50 #[.slice a n c] w fun e w' => ∃ (g : Nat), e = .returned (.agg #[vi 2, vi 0, vi 0, vi 0, vi 0, .slice (some ⟨g, 0, none⟩) 1 1, .slice none 0 0, .map none]) ∧ RdNodes w' (.slice (some ⟨g, 0, none⟩) 1 1) [C] ∧ Below w.heap.size w w' := by
  have HC := Lib.hid hC
  have HX := Lib.hid ((Below.heap_alloc (w.alloc (.cells #[vi 2, vi 0, vi 0, vi 0, vi 0, .slice (some ⟨w.heap.size + 1, 0, none⟩) 1 1, .slice none 0 0, .map none] 39)) (.cells #[.slice a n c] 70) w.heap.size (by simp)).trans (alloc_at w (.cells #[vi 2, vi 0, vi 0, vi 0, vi 0, .slice (some ⟨w.heap.size + 1, 0, none⟩) 1 1, .slice none 0 0, .map none] 39)))
  have HY := Lib.hid (show ((w.alloc (.cells #[vi 2, vi 0, vi 0, vi 0, vi 0, .slice (some ⟨w.heap.size + 1, 0, none⟩) 1 1, .slice none 0 0, .map none] 39)).alloc (.cells #[.slice a n c] 70)).heap[w.heap.size + 1]? = some (.cells #[.slice a n c] 70) from by
    have := alloc_at (w.alloc (.cells #[vi 2, vi 0, vi 0, vi 0, vi 0, .slice (some ⟨w.heap.size + 1, 0, none⟩) 1 1, .slice none 0 0, .map none] 39)) (.cells #[.slice a n c] 70)
    simpa using this)
  have HB := Lib.hid (((Below.refl w.heap.size w).alloc (Nat.le_refl _) (.cells #[vi 2, vi 0, vi 0, vi 0, vi 0, .slice (some ⟨w.heap.size + 1, 0, none⟩) 1 1, .slice none 0 0, .map none] 39)).alloc (by simp) (.cells #[.slice a n c] 70))
  clear hC
  go_enter Tryz.func50, Tryz.ntmps50
  go_wp2_with fail
  generalize (w.alloc (.cells #[vi 2, vi 0, vi 0, vi 0, vi 0, .slice (some ⟨w.heap.size + 1, 0, none⟩) 1 1, .slice none 0 0, .map none] 39)).alloc (.cells #[.slice a n c] 70) = W at *
  have x := fun j => cell_of HX.out j
  refine bodyPost_ret (v := .agg #[vi 2, vi 0, vi 0, vi 0, vi 0, .slice (some ⟨w.heap.size + 1, 0, none⟩) 1 1, .slice none 0 0, .map none]) (by simp [results, Tryz.results50, go_sem, x]) rfl ⟨w.heap.size + 1, rfl, ?_, HB.out⟩
  refine ⟨_, 1, 1, rfl, rfl, by simp, Nat.le_refl _, (fun h => (by cases h)), fun j D hj => ?_⟩
  match j, hj with
  | 0, hj =>
    cases hj
    refine ⟨w.heap.size + 1, 0, [.slice a n c], rfl, rfl, fun i u hu => ?_, _, rfl, RdS.below HC.out HB.out fun _ _ h => h⟩
    match i, hu with
    | 0, hu => cases hu; rw [cell_of HY.out]; rfl

set_option maxRecDepth 100000 in
set_option maxHeartbeats 8000000 in
theorem holds_short (v : Value) (es : List GEvent) (ts : List GTxn) (level s : Int) (f : Int × Int × Int) (na : Option Addr) (nn nc : Nat) (da : Option Addr) (dn dc : Nat) (om : Option Nat) (w : World) (hv : RdEvents w v es) (hes : es.length ≤ 60)
    (hh : histH es = some ts) (hlv : level = 1 ∨ level = 2) (hd : dn ≠ ts.length) (hdn : dn ≤ 4096) :
    Calls Tryz.prog 25 #[v, vi level, .agg #[vi 1, vi s, vi f.1, vi f.2.1, vi f.2.2, .slice na nn nc, .slice da dn dc, .map om]] w fun e w' => e = .returned (.bool false) ∧ Below w.heap.size w w' := by
  have HV := Lib.hid (hv.later ((Below.refl w.heap.size w).alloc (Nat.le_refl _) (.cells #[vi 1, vi s, vi f.1, vi f.2.1, vi f.2.2, .slice na nn nc, .slice da dn dc, .map om] 39)))
  have HX := Lib.hid (alloc_at w (.cells #[vi 1, vi s, vi f.1, vi f.2.1, vi f.2.2, .slice na nn nc, .slice da dn dc, .map om] 39))
  have HB0 := Lib.hid ((Below.refl w.heap.size w).alloc (Nat.le_refl _) (.cells #[vi 1, vi s, vi f.1, vi f.2.1, vi f.2.2, .slice na nn nc, .slice da dn dc, .map om] 39))
  have hw0 : (w.alloc (.cells #[vi 1, vi s, vi f.1, vi f.2.1, vi f.2.2, .slice na nn nc, .slice da dn dc, .map om] 39)).heap.size = w.heap.size + 1 := by simp
  have HH := Lib.hid hh
  have HG := Lib.hid (hist_good hes hh).1
  have hlen := HG.out.len
  clear hv hh
  go_enter Tryz.func25, Tryz.ntmps25
  go_upto_region 1 with fail
  generalize w.alloc (.cells #[vi 1, vi s, vi f.1, vi f.2.1, vi f.2.2, .slice na nn nc, .slice da dn dc, .map om] 39) = w0 at *
  go_upto_region 2 with (go_at_call 38; refine (hof_call _ es w0 HV.out hes).mono ?_; rintro e1 w1 ⟨v1, p1, err, rfl, hok1, hbad1, ⟨a1, n1, c1, rfl⟩, hb1⟩; have HOK := Lib.hid hok1; have HBAD := Lib.hid hbad1; have HB1 := Lib.hid (HB0.out.trans (hb1.mono HB0.out.size)); have HX1 := Lib.hid ((hb1.block _ (by omega)).trans HX.out); have hlt1 : w.heap.size < w1.heap.size := (by have := hb1.size; omega); clear hok1 hbad1 hb1)
  have h0 : err = 0 := by
    by_cases h : err = 0
    · exact h
    · have := HBAD.out h
      rw [HH.out] at this; cases this
  obtain ⟨ts', hts, hrd⟩ := HOK.out h0
  rw [HH.out] at hts
  cases hts
  have HRD := Lib.hid hrd
  obtain ⟨_, _, _, e5, e6, -, -⟩ := hrd.at
  cases e5
  subst e6
  subst h0
  clear hrd
  have hwb := HB1.out.size
  rcases hlv with rfl | rfl
  all_goals
    go_upto_region 5 with (go_at_call 39; refine (all_call _ ts w1 HRD.out HG.out.ok (by omega) HG.out.uniq).mono ?_; rintro e2 w2 ⟨v2, rfl, ho2, hb2⟩; have HB2 := Lib.hid (HB1.out.trans (hb2.mono hwb)); have HX2 := Lib.hid ((hb2.block _ hlt1).trans HX1.out); clear ho2 hb2)
    have x0 : w2.cell? ⟨w.heap.size, 0, none⟩ = some (vi 1) := by rw [cell_of HX2.out]; rfl
    have x6 : w2.cell? ⟨w.heap.size, 6, none⟩ = some (.slice da dn dc) := by rw [cell_of HX2.out]; rfl
    have x7 : w2.cell? ⟨w.heap.size, 7, none⟩ = some (.map om) := by rw [cell_of HX2.out]; rfl
    have HFX := Lib.hid (fix_short a1 c1 ts.length da dc dn (.map om) w2 hd (by omega) hdn)
    have HBX := HB2.out
    clear hd
    go_wp2_with (go_at_call 51; refine HFX.out.mono ?_; rintro e3 w3 ⟨rfl, rfl⟩)
    go_ret
    exact ⟨rfl, HBX⟩

theorem i64_0 : i64 0 := by unfold i64; omega
theorem i64_1 : i64 1 := by unfold i64; omega
theorem rdi_lit2 (w : World) (x y : Int) (hx1 : i64 x) (hy1 : i64 y) : RdInts (w.alloc (.cells #[vi x, vi y] 3)) (.slice (some ⟨w.heap.size, 0, none⟩) 2 2) [x, y] := by
  refine ⟨_, 2, 2, rfl, rfl, by simp, Nat.le_refl _, (fun h => (by cases h)), fun j D hj => ?_⟩
  have hx := alloc_at w (.cells #[vi x, vi y] 3)
  match j, hj with
  | 0, hj =>
    cases hj
    refine ⟨w.heap.size, 0, [vi x], rfl, rfl, fun i u hu => ?_, rfl, hx1⟩
    match i, hu with
    | 0, hu => cases hu; rw [cell_of hx]; rfl
  | 1, hj =>
    cases hj
    refine ⟨w.heap.size, 0, [vi y], rfl, rfl, fun i u hu => ?_, rfl, hy1⟩
    match i, hu with
    | 0, hu => cases hu; rw [cell_of hx]; rfl
theorem rdi_lit1 (w : World) (x : Int) (hx1 : i64 x) : RdInts (w.alloc (.cells #[vi x] 3)) (.slice (some ⟨w.heap.size, 0, none⟩) 1 1) [x] := by
  refine ⟨_, 1, 1, rfl, rfl, by simp, Nat.le_refl _, (fun h => (by cases h)), fun j D hj => ?_⟩
  have hx := alloc_at w (.cells #[vi x] 3)
  match j, hj with
  | 0, hj =>
    cases hj
    refine ⟨w.heap.size, 0, [vi x], rfl, rfl, fun i u hu => ?_, rfl, hx1⟩
    match i, hu with
    | 0, hu => cases hu; rw [cell_of hx]; rfl
theorem skew_holds2 (v : Value) (g : Nat) (w : World) (hv : RdEvents w v skewEv) (hN : RdNodes w (.slice (some ⟨g, 0, none⟩) 1 1) [[0, 1]]) : Calls Tryz.prog 25 #[v, vi 2, .agg #[vi 2, vi 0, vi 0, vi 0, vi 0, .slice (some ⟨g, 0, none⟩) 1 1, .slice none 0 0, .map none]] w fun e w' => e = .returned (.bool true) ∧ Below w.heap.size w w' :=
  (holds_fail v skewEv skewT 2 0 (0, 0, 0) _ _ _ none 0 0 none w hv (by decide) skew_hist (.inr rfl) [[0, 1]] hN (by decide)).mono (by rw [skew_f2]; exact fun _ _ h => h)
theorem skew_holds1 (v : Value) (g : Nat) (w : World) (hv : RdEvents w v skewEv) (hN : RdNodes w (.slice (some ⟨g, 0, none⟩) 1 1) [[0]]) : Calls Tryz.prog 25 #[v, vi 2, .agg #[vi 2, vi 0, vi 0, vi 0, vi 0, .slice (some ⟨g, 0, none⟩) 1 1, .slice none 0 0, .map none]] w fun e w' => e = .returned (.bool false) ∧ Below w.heap.size w w' :=
  (holds_fail v skewEv skewT 2 0 (0, 0, 0) _ _ _ none 0 0 none w hv (by decide) skew_hist (.inr rfl) [[0]] hN (by decide)).mono (by rw [skew_f1]; exact fun _ _ h => h)
theorem skew_holds0 (v : Value) (w : World) (hv : RdEvents w v skewEv) : Calls Tryz.prog 25 #[v, vi 2, .agg #[vi 1, vi 0, vi 0, vi 0, vi 0, .slice none 0 0, .slice none 0 0, .map none]] w fun e w' => e = .returned (.bool false) ∧ Below w.heap.size w w' :=
  holds_short v skewEv skewT 2 0 (0, 0, 0) none 0 0 none 0 0 none w hv (by decide) skew_hist (.inr rfl) (by decide) (by decide)

set_option maxRecDepth 100000 in
set_option maxHeartbeats 4000000 in
theorem head12_call (w : World) : Calls Tryz.prog 23 #[] w fun e w' => e = .returned (.bool true) ∧ Below w.heap.size w w' := by
  go_enter Tryz.func23, Tryz.ntmps23
  go_wp2_with (first
    | (go_at_call 25; ((with_reducible refine (skew_holds0 _ w7 HR7.out).mono ?_); rintro e8 w8 ⟨rfl, hb8⟩; have HB8 := Lib.hid (HB7.out.trans (hb8.mono HB7.out.size)); clear hb8))
    | (go_at_call 49; ((with_reducible refine (skew12_call w6).mono ?_); rintro e7 w7 ⟨v7, rfl, hr7, hb7⟩; have HR7 := Lib.hid hr7; have HB7 := Lib.hid (HB6.out.trans (hb7.mono HB6.out.size)); clear hr7 hb7))
    | (go_at_call 25; ((with_reducible refine (skew_holds1 _ g5 w5 HR5.out HN5.out).mono ?_); rintro e6 w6 ⟨rfl, hb6⟩; have HB6 := Lib.hid (HB5.out.trans (hb6.mono HB5.out.size)); clear hb6))
    | (go_at_call 50; refine (failed_call _ _ _ [0] _ (rdi_lit1 w4 0 i64_0)).mono ?_; rintro e5 w5 ⟨g5, rfl, hn5, hb5⟩; have HN5 := Lib.hid hn5; have hb45 := ((Below.refl w4.heap.size w4).alloc (Nat.le_refl _) (.cells #[vi 0] 3)).trans (hb5.mono (by simp)); have HB5 := Lib.hid (HB4.out.trans (hb45.mono HB4.out.size)); have HR5 := Lib.hid (HR4.out.later hb45); clear hn5 hb5 hb45)
    | (go_at_call 49; ((with_reducible refine (skew12_call w3).mono ?_); rintro e4 w4 ⟨v4, rfl, hr4, hb4⟩; have HR4 := Lib.hid hr4; have HB4 := Lib.hid (HB3.out.trans (hb4.mono HB3.out.size)); clear hr4 hb4))
    | (go_at_call 25; ((with_reducible refine (skew_holds2 _ g2 w2 HR2.out HN2.out).mono ?_); rintro e3 w3 ⟨rfl, hb3⟩; have HB3 := Lib.hid (HB2.out.trans (hb3.mono HB2.out.size)); clear hb3))
    | (go_at_call 50; refine (failed_call _ _ _ [0, 1] _ (rdi_lit2 w1 0 1 i64_0 i64_1)).mono ?_; rintro e2 w2 ⟨g2, rfl, hn2, hb2⟩; have HN2 := Lib.hid hn2; have hb12 := ((Below.refl w1.heap.size w1).alloc (Nat.le_refl _) (.cells #[vi 0, vi 1] 3)).trans (hb2.mono (by simp)); have HB2 := Lib.hid (HB1.out.trans (hb12.mono HB1.out.size)); have HR2 := Lib.hid (HR1.out.later hb12); clear hn2 hb2 hb12)
    | (go_at_call 49; refine (skew12_call w).mono ?_; rintro e1 w1 ⟨v1, rfl, hr1, hb1⟩; have HR1 := Lib.hid hr1; have HB1 := Lib.hid hb1; clear hr1 hb1))
  go_ret
  exact ⟨rfl, HB8.out⟩
end Go.Proofs.YtnacoplokjdglaaGreat

namespace Go.Proofs.YtnacoplokjdglaaGreat
open Go.RowKit Go.Maps
attribute [local go_sem] Oper.semAt_some

/-- A slice against nil. -/
theorem sl_nil_in (d : Nat) (a : Option Addr) (n c : Nat) (w : World) : (Op.equalIn (d + 1) 58 (.slice a n c) (.slice none 0 0)).run Tryz.prog w = .ok a.isNone w := by
  cases a <;> simp [Op.equalIn, run_underlying Tryz.underlying58, Result.andThen]
theorem sl_nil (a : Option Addr) (n c : Nat) (w : World) : (binOp .eql 58 (.slice a n c) (.slice none 0 0)).run Tryz.prog w = .ok (.bool a.isNone) w := by
  have h : (Op.equal 58 (.slice a n c) (.slice none 0 0)).run Tryz.prog w = .ok a.isNone w := sl_nil_in 9999 a n c w
  simp only [binOp]
  simp [h]
def HPassQ (ts : List GTxn) (level : Int) (dn : List Bool) (O : OrdL) (w : World) (e : Ending) (w' : World) : Prop := ∃ b : Bool, e = .returned (.bool b) ∧ (b = true ↔ passB ts level dn O) ∧ Below w.heap.size w w'

set_option maxRecDepth 100000 in
set_option maxHeartbeats 8000000 in
theorem holds_pass (v : Value) (es : List GEvent) (ts : List GTxn) (level s : Int) (f : Int × Int × Int) (na : Option Addr) (nn nc : Nat) (da : Option Addr) (dc : Nat) (om : Option Nat) (dn : List Bool) (O : OrdL) (w : World) (hv : RdEvents w v es) (hes : es.length ≤ 60)
    (hh : histH es = some ts) (hlv : level = 1 ∨ level = 2) (hd : RdB w (.slice da ts.length dc) dn) (hdl : dn.length = ts.length) (hO : LookO w (.map om) O) :
    Calls Tryz.prog 25 #[v, vi level, .agg #[vi 1, vi s, vi f.1, vi f.2.1, vi f.2.2, .slice na nn nc, .slice da ts.length dc, .map om]] w (HPassQ ts level dn O w) := by
  have HV := Lib.hid (hv.later ((Below.refl w.heap.size w).alloc (Nat.le_refl _) (.cells #[vi 1, vi s, vi f.1, vi f.2.1, vi f.2.2, .slice na nn nc, .slice da ts.length dc, .map om] 39)))
  have HX := Lib.hid (alloc_at w (.cells #[vi 1, vi s, vi f.1, vi f.2.1, vi f.2.2, .slice na nn nc, .slice da ts.length dc, .map om] 39))
  have HB0 := Lib.hid ((Below.refl w.heap.size w).alloc (Nat.le_refl _) (.cells #[vi 1, vi s, vi f.1, vi f.2.1, vi f.2.2, .slice na nn nc, .slice da ts.length dc, .map om] 39))
  have hw0 : (w.alloc (.cells #[vi 1, vi s, vi f.1, vi f.2.1, vi f.2.2, .slice na nn nc, .slice da ts.length dc, .map om] 39)).heap.size = w.heap.size + 1 := by simp
  have HH := Lib.hid hh
  have HG := Lib.hid (hist_good hes hh).1
  have hlen := HG.out.len
  have HD0 := Lib.hid (hd.later HB0.out)
  have HO0 := Lib.hid (hO.later HB0.out)
  clear hv hh hd hO
  go_enter Tryz.func25, Tryz.ntmps25
  go_upto_region 1 with fail
  generalize w.alloc (.cells #[vi 1, vi s, vi f.1, vi f.2.1, vi f.2.2, .slice na nn nc, .slice da ts.length dc, .map om] 39) = w0 at *
  go_upto_region 2 with (go_at_call 38; refine (hof_call _ es w0 HV.out hes).mono ?_; rintro e1 w1 ⟨v1, p1, err, rfl, hok1, hbad1, ⟨a1, n1, c1, rfl⟩, hb1⟩; have HOK := Lib.hid hok1; have HBAD := Lib.hid hbad1; have HB1 := Lib.hid (HB0.out.trans (hb1.mono HB0.out.size)); have HX1 := Lib.hid ((hb1.block _ (by omega)).trans HX.out); have hlt1 : w.heap.size < w1.heap.size := (by have := hb1.size; omega); have HD1 := Lib.hid (HD0.out.later hb1); have HO1 := Lib.hid (HO0.out.later hb1); clear hok1 hbad1 hb1)
  have h0 : err = 0 := by
    by_cases h : err = 0
    · exact h
    · have := HBAD.out h
      rw [HH.out] at this; cases this
  obtain ⟨ts', hts, hrd⟩ := HOK.out h0
  rw [HH.out] at hts
  cases hts
  have HRD := Lib.hid hrd
  obtain ⟨_, _, _, e5, e6, -, -⟩ := hrd.at
  cases e5
  subst e6
  subst h0
  clear hrd
  have hwb := HB1.out.size
  rcases hlv with rfl | rfl
  all_goals
    go_upto_region 5 with (go_at_call 39; refine (all_call _ ts w1 HRD.out HG.out.ok (by omega) HG.out.uniq).mono ?_; rintro e2 w2 ⟨v2, rfl, ho2, hb2⟩; obtain ⟨a2, c2, rfl⟩ := Gr.own_shape (show World.ownsRow _ _ _ _ _ (flawsM ts).length _ from ho2); have HB2 := Lib.hid (HB1.out.trans (hb2.mono hwb)); have HX2 := Lib.hid ((hb2.block _ hlt1).trans HX1.out); have HR2 := Lib.hid (HRD.out.later hb2); have HD2 := Lib.hid (HD1.out.later hb2); have HO2 := Lib.hid (HO1.out.later hb2); clear ho2 hb2)
    have x0 : w2.cell? ⟨w.heap.size, 0, none⟩ = some (vi 1) := by rw [cell_of HX2.out]; rfl
    have x6 : w2.cell? ⟨w.heap.size, 6, none⟩ = some (.slice da ts.length dc) := by rw [cell_of HX2.out]; rfl
    have x7 : w2.cell? ⟨w.heap.size, 7, none⟩ = some (.map om) := by rw [cell_of HX2.out]; rfl
    have HFX := Lib.hid (fixG_call (.slice a1 ts.length c1) ts da dc om dn O w2 HR2.out HG.out.ok (by omega) HD2.out hdl HO2.out)
    have hwb2 := HB2.out.size
    clear hdl
    go_upto_region 8 with (go_at_call 51; refine HFX.out.mono ?_; rintro e3 w3 ⟨r3, b3, rfl, hq3, hb3⟩; have HQ3 := Lib.hid hq3.out; have HB3 := Lib.hid (HB2.out.trans (hb3.mono hwb2)); have HR3 := Lib.hid (HR2.out.later hb3); clear hq3 hb3)
    have hwb3 := HB3.out.size
    cases b3 with
    | false =>
      go_wp2_with fail
      go_ret
      exact ⟨false, rfl, ⟨fun h => (by cases h), fun ⟨F, h, _⟩ => absurd h (HQ3.out.2 (by first | rfl | trivial) F)⟩, HB3.out⟩
    | true =>
      obtain ⟨m3, F, rfl, hm3, hf3⟩ := HQ3.out.1 rfl
      have HM3 := Lib.hid hm3
      have HF3 := Lib.hid hf3
      clear hm3 hf3
      by_cases hF : flawsM ts = []
      · have HF := Lib.hid hF
        rw [hF]
        clear hF
        have HFO := Lib.hid (HF3.out.faOk HG.out.uniq HM3.out.pairwise)
        have HSM := Lib.hid (small_good (L := F) HG.out (by have := HFO.out.len; omega))
        have HPB := Lib.hid (fun level => passB_of (level := level) HF3.out HM3.out.pairwise HF.out)
        have HFV := Lib.hid (FaV.of HM3.out)
        have HBK := Lib.hid (fun lv => broken_callN (.slice a1 ts.length c1) (.map (some m3)) ts F 12 lv w3 HR3.out HG.out.ok HFV.out HSM.out)
        clear x0 x6 x7 HFX
        go_wp2_with (go_at_call 52; refine (HBK.out _).mono ?_; rintro e4 w4 ⟨v4, l4, C, rfl, he4, ho4, hc4, hn4, hb4⟩; have HC4 := Lib.hid (show NodeC ts F _ C from ⟨l4, he4, hc4⟩); have HO4 := Lib.hid ho4; have HN4 := Lib.hid hn4; have HB4 := Lib.hid (HB3.out.trans (hb4.mono hwb3)); obtain ⟨a4, c4, rfl⟩ := Gr.own_shape (show World.ownsRow _ _ _ _ v4 C.length _ from ho4); have hsl := sl_nil a4 C.length c4; clear he4 hc4 ho4 hn4 hb4)
        go_ret
        have HBR := HC4.out.brk HG.out.len
        have hab : a4.isNone = true ↔ C = [] := by
          constructor
          · intro h
            apply Classical.byContradiction
            intro hC
            obtain ⟨g4, c5, e5⟩ := own_someB HO4.out (List.length_pos_iff.2 hC)
            cases e5; cases h
          · intro h
            have h5 := HN4.out h
            injection h5 with h6 _ _
            rw [h6]; rfl
        refine ⟨a4.isNone, rfl, ?_, HB4.out⟩
        rw [hab, HPB.out, ← HBR, ← List.length_eq_zero_iff]
        omega
      · have h0 : 0 < (flawsM ts).length := List.length_pos_iff.2 hF
        have h0I : (((flawsM ts).length : Int) == 0) = false := beq_eq_false_iff_ne.2 (by omega)
        have h0N : ((flawsM ts).length == 0) = false := beq_eq_false_iff_ne.2 (by omega)
        have h0E : flawsM ts ≠ [] := hF
        have HNF := Lib.hid hF
        clear hF
        go_wp2_with fail
        go_ret
        exact ⟨false, rfl, ⟨fun h => (by cases h), fun ⟨_, _, _, h, _⟩ => absurd h HNF.out⟩, HB3.out⟩
end Go.Proofs.YtnacoplokjdglaaGreat

namespace Go.Proofs.YtnacoplokjdglaaGreat
open Go.RowKit Go.Maps
attribute [local go_sem] Oper.semAt_some

theorem and1 (x : Int) : ∃ y, bits .and .i64 x 1 = y ∧ (y = 0 ∨ y = 1) := by
  have : ∃ m : Nat, m ≤ 1 ∧ bits .and .i64 x 1 = IntKind.i64.wrap (m : Int) := ⟨(BitVec.ofInt 64 x &&& BitVec.ofInt 64 1).toNat, by rw [BitVec.toNat_and]; exact Nat.le_trans Nat.and_le_right (by decide), rfl⟩
  obtain ⟨m, h1, h2⟩ := this
  refine ⟨m, ?_, by omega⟩
  rw [h2, IntKind.wrap_i64]; omega
section
variable {v : Value} {es : List GEvent} {level B : Int} {w : World} {ts : List GTxn}
end
end Go.Proofs.YtnacoplokjdglaaGreat

namespace Go.Proofs.YtnacoplokjdglaaGreat
open Go.RowKit Go.Maps

theorem nodes_none0 (w : World) : RdNodes w (.slice none 0 0) [] := ⟨none, 0, 0, rfl, rfl, by simp, Nat.le_refl _, fun _ => ⟨rfl, rfl⟩, fun j x hj => by simp at hj⟩
end Go.Proofs.YtnacoplokjdglaaGreat

namespace Go.Proofs.YtnacoplokjdglaaGreat
open Go.RowKit Go.Maps

theorem heap_setCell_sameD (w : World) (b o : Nat) (cur : Array Value) (T : TypeId) (v : Value) (h : w.heap[b]? = some (.cells cur T)) : (w.setCell ⟨b, o, none⟩ v).heap[b]? = some (.cells (cur.setIfInBounds o v) T) := by
  simp [World.setCell, Array.getElem?_modify, h]
theorem heap_setCell_otherD (w : World) (a : Addr) (k : Nat) (v : Value) (h : k ≠ a.block) : (w.setCell a v).heap[k]? = w.heap[k]? := Below.heap_setCell w a v k h
theorem setCells_blockD {b : Nat} {T : TypeId} : ∀ (vs : List Value) (o : Nat) (w : World) (cur : Array Value), w.heap[b]? = some (.cells cur T) →
    ∃ cur', (w.setCells b o vs).heap[b]? = some (.cells cur' T) ∧ cur'.size = cur.size ∧ ∀ j, cur'[j]? = if o ≤ j ∧ j < o + vs.length ∧ j < cur.size then vs[j - o]? else cur[j]?
  | [], o, w, cur, h => ⟨cur, h, rfl, fun j => by rw [if_neg (by simp; omega)]⟩
  | v :: vs, o, w, cur, h => by
    have h1 := heap_setCell_sameD w b o cur T v h
    obtain ⟨cur', h2, h3, h4⟩ := setCells_blockD vs (o + 1) (w.setCell ⟨b, o, none⟩ v) _ h1
    refine ⟨cur', h2, by rw [h3]; simp, fun j => ?_⟩
    rw [h4 j]
    simp only [Array.size_setIfInBounds, List.length_cons]
    by_cases hj : o = j
    · subst hj
      rw [if_neg (by omega)]
      by_cases hc : o < cur.size
      · rw [if_pos (by omega)]; simp [Array.getElem?_setIfInBounds, hc]
      · rw [if_neg (by omega)]; simp [Array.getElem?_setIfInBounds, hc]
    · have e1 : (cur.setIfInBounds o v)[j]? = cur[j]? := by simp [Array.getElem?_setIfInBounds, hj]
      rw [e1]
      by_cases hc : o + 1 ≤ j ∧ j < o + 1 + vs.length ∧ j < cur.size
      · rw [if_pos hc, if_pos (by omega)]
        have : j - o = (j - (o + 1)) + 1 := by omega
        rw [this]; simp
      · rw [if_neg hc, if_neg (by omega)]
theorem setCells_grownD (b : Nat) : ∀ (vs : List Value) (o : Nat) (w : World), w.grownBy (w.setCells b o vs) (some b) ∧ (w.setCells b o vs).heap.size = w.heap.size
  | [], o, w => ⟨⟨rfl, rfl, rfl, Nat.le_refl _, fun _ _ _ => rfl⟩, rfl⟩
  | v :: vs, o, w => by
    obtain ⟨h, hs⟩ := setCells_grownD b vs (o + 1) (w.setCell ⟨b, o, none⟩ v)
    have h0 : w.grownBy (w.setCell ⟨b, o, none⟩ v) (some b) := ⟨rfl, rfl, rfl, by simp, fun k _ hk => heap_setCell_otherD w ⟨b, o, none⟩ k v (fun e => hk (by simp [e]))⟩
    refine ⟨⟨h.os.trans h0.os, h.tape.trans h0.tape, h.output.trans h0.output, Nat.le_trans h0.size h.size, fun k hk hne => (h.block k (Nat.lt_of_lt_of_le hk h0.size) hne).trans (h0.block k hk hne)⟩, ?_⟩
    show ((w.setCell ⟨b, o, none⟩ v).setCells b (o + 1) vs).heap.size = _
    rw [hs]; simp

/-- append(l[:i], l[i+1:]...) in a row of one's own. -/
structure DelR (base g c i : Nat) (l : List Int) (w : World) (A : Addr) (news : List Value) : Prop where
  at_ : (if c = i + 1 then some (⟨g, 0, none⟩ : Addr) else some ⟨g, i + 1, none⟩) = some A
  len : news.length = (l.length - (i + 1)) * 1
  src : ∀ t u, news[t]? = some u → w.cell? (A.add t) = some u
  one : ∀ u ∈ news, u.oneCell' = true
  room : ∀ t, t < news.length → (w.cell? ⟨g, 0 + i * 1 + t, none⟩).isSome = true ∧ w.frozen? ⟨g, 0 + i * 1 + t, none⟩ = false
  fits : i + (l.length - (i + 1)) ≤ c
  row : OwI base (w.setCells g (0 + i * 1) news) (.slice (some ⟨g, 0, none⟩) (i + (l.length - (i + 1))) c) (l.eraseIdx i)
  grown : w.grownBy (w.setCells g (0 + i * 1) news) (some g)
theorem del_room {base g c i : Nat} {l : List Int} {w : World} (h : OwI base w (.slice (some ⟨g, 0, none⟩) l.length c) l) (hi : i < l.length) : ∃ A news, DelR base g c i l w A news := by
  unfold OwI at h
  rw [viY_map] at h
  obtain ⟨hl, hv⟩ := id h
  rcases hv with ⟨h', _⟩ | ⟨g', cap', cur, h', hbg, hg, hnc, hcm, hcs, htake⟩
  · simp at h'
  simp only [Value.slice.injEq, Option.some.injEq, Addr.mk.injEq, and_true, true_and] at h'
  obtain ⟨rfl, rfl⟩ := h'
  have hcur : ∀ j, j < l.length → cur[j]? = (l.map vi)[j]? := fun j hj => by
    have := congrArg (fun l => l[j]?) htake
    simp only [List.getElem?_take, Nat.mul_one, if_pos hj, Array.getElem?_toList] at this
    exact this
  obtain ⟨news, hnews⟩ : ∃ news, news = (l.map vi).drop (i + 1) := ⟨_, rfl⟩
  have hnl : news.length = l.length - (i + 1) := by rw [hnews]; simp
  have hcs' : cur.size = c := by simpa using hcs
  obtain ⟨A, hA, hsrc⟩ : ∃ A : Addr, (if c = i + 1 then some (⟨g, 0, none⟩ : Addr) else some ⟨g, i + 1, none⟩) = some A ∧ (∀ t u, news[t]? = some u → w.cell? (A.add t) = some u) := by
    by_cases hc : c = i + 1
    · refine ⟨⟨g, 0, none⟩, by simp [hc], fun t u hu => ?_⟩
      have : news = [] := List.length_eq_zero_iff.1 (by omega)
      rw [this] at hu; simp at hu
    · refine ⟨⟨g, i + 1, none⟩, by simp [hc], fun t u hu => ?_⟩
      have ht := (List.getElem?_eq_some_iff.1 hu).1
      rw [addr_add, cell_of hg, hcur _ (by omega)]
      rw [hnews, List.getElem?_drop] at hu
      exact hu
  refine ⟨A, news, hA, by omega, hsrc, fun u hu => ?_, fun t ht => ⟨?_, free_of hg _⟩, by omega, ?_, (setCells_grownD g news (0 + i * 1) w).1⟩
  · have := List.mem_of_mem_drop (by rw [← hnews]; exact hu)
    rw [List.mem_map] at this
    obtain ⟨x, _, rfl⟩ := this; rfl
  · rw [cell_of hg, hcur _ (by omega), List.getElem?_eq_getElem (by simp; omega)]; rfl
  · obtain ⟨cur1, hc1, hc2, hc3⟩ := setCells_blockD news (0 + i * 1) w cur hg
    have hel : (l.eraseIdx i).length = l.length - 1 := by rw [List.length_eraseIdx, if_pos hi]
    unfold OwI
    rw [viY_map, hel]
    have hn1 : i + (l.length - (i + 1)) = l.length - 1 := by omega
    rw [hn1]
    refine ⟨by rw [List.length_map, hel, Nat.mul_one], .inr ⟨g, c, cur1, rfl, hbg, hc1, by omega, hcm, by rw [hc2]; exact hcs, ?_⟩⟩
    apply List.ext_getElem?
    intro q
    rw [List.getElem?_take, Nat.mul_one, List.getElem?_map, List.getElem?_eraseIdx]
    by_cases hj : q < l.length - 1
    · rw [if_pos hj, Array.getElem?_toList, hc3 q]
      by_cases hji : q < i
      · rw [if_neg (by omega), if_pos hji, hcur q (by omega), List.getElem?_map]
      · rw [if_pos (by omega), if_neg hji, hnews, List.getElem?_drop, List.getElem?_map]
        congr 2; omega
    · rw [if_neg hj]
      split
      · omega
      · rw [List.getElem?_eq_none (by omega)]; rfl
end Go.Proofs.YtnacoplokjdglaaGreat

namespace Go.Proofs.YtnacoplokjdglaaGreat
open Go.RowKit Go.Maps

theorem refWk_good {ts : List GTxn} (hg : GoodTs ts) {i : Nat} {t : GTxn} (ht : ts[i]? = some t) (key : Int) : refWk t.ops key = wrOf ts i key := by
  rw [wrOf_at ht]
  by_cases hk : 0 ≤ key ∧ key < 16
  · obtain ⟨k, rfl⟩ := Int.eq_ofNat_of_zero_le hk.1
    rw [refWk_eq t.ops k (by omega)]; rfl
  · have h1 : writesK t key = false := by
      unfold writesK
      rw [List.any_eq_false]
      intro o ho
      have := ((hg.txn t (List.mem_of_getElem? ht)).2.1 o ho)
      unfold hitK
      have k0 := this.key0
      have k1 := this.key1
      simp
      intro _ e
      exact hk (by rw [← e]; omega)
    rw [h1]
    unfold refWk
    rw [List.any_eq_false]
    intro o ho
    have := ((hg.txn t (List.mem_of_getElem? ht)).2.1 o (writesM_mem ho))
    have k0 := this.key0
    have k1 := this.key1
    simp
    intro e
    exact hk (by rw [← e]; omega)

end Go.Proofs.YtnacoplokjdglaaGreat

namespace Go.Proofs.YtnacoplokjdglaaGreat
open Go.RowKit Go.Maps
set_option maxRecDepth 100000 in
set_option maxHeartbeats 4000000 in
theorem refWriters_call (v g : Value) (ts : List GTxn) (G : FaL) (key : Int) (w : World) (hv : RdTxns w v ts) (hgood : GoodTs ts) (hg : RdSaid w g G) :
    Calls Tryz.prog 27 #[v, g, vi key] w fun e w' => ∃ v', e = .returned v' ∧ OwI w.heap.size w' v' (wrl ts G key) ∧ Below w.heap.size w w' := by
  have HV := Lib.hid hv
  have HG := Lib.hid hg
  have HGD := Lib.hid hgood
  have HOK := Lib.hid hgood.ok
  have htl : ts.length ≤ 60 := hgood.len
  obtain ⟨a, len, cap, rfl, rfl, hmm, -⟩ := hv.at
  have HO0 := Lib.hid (World.ownsRow_lit (base := w.heap.size) (e := 3) (size := 1) w #[] 0 (Nat.le_refl _) (by simp [maxLen]) rfl)
  have HB0 := Lib.hid ((Below.refl w.heap.size w).alloc (Nat.le_refl _) (.cells #[] 3))
  clear hv hgood hg
  go_enter Tryz.func27, Tryz.ntmps27
  go_wp2_with fail
  have HS0 := Lib.hid (show OwI w.heap.size (w.alloc (.cells #[] 3)) (.slice (some ⟨w.heap.size, 0, none⟩) 0 0) (wrlK ts G key 0) from by simpa [OwI, wrlK] using HO0.out)
  generalize w.alloc (.cells #[] 3) = w0 at *
  go_loopw [7, 8, 12] (fun ov _ kv wr => ∃ k : Nat, k ≤ ts.length ∧ kv = .int .i64 k ∧ OwI w.heap.size wr ov (wrlK ts G key k) ∧ Below w.heap.size w wr) (fun _ _ kv _ => ts.length - (intOf kv).toNat)
  case atStart => exact ⟨0, Nat.zero_le _, rfl, HS0.out, HB0.out⟩
  case round =>
    obtain ⟨wk, rfl⟩ : ∃ wk : World, wk = wr := ⟨_, rfl⟩
    obtain ⟨k, hk, rfl, ho, hb⟩ := hrel
    have HBk := Lib.hid hb
    have HO := Lib.hid ho
    have hbs := hb.size
    obtain ⟨ao, co, rfl⟩ : ∃ a c, u7 = .slice a (wrlK ts G key k).length c := by
      rcases ho.2 with ⟨hv, h0⟩ | ⟨g, cap, cur, hv, _⟩
      · exact ⟨none, 0, by rw [hv, h0]⟩
      · exact ⟨_, _, hv⟩
    clear ho hb
    by_cases hlt : k < ts.length
    · obtain ⟨t, ht⟩ := some_at hlt
      obtain ⟨_, _, _, e5, -, -, hcl⟩ := HV.out.at
      cases e5
      obtain ⟨b, off, oa, oc, rfl, hr, k0', k1', k2'⟩ := hcl k t ht
      have hkI : (k : Int) < (ts.length : Int) := by omega
      have wk1 : IntKind.i64.wrap ((k : Int) + 1) = ((k + 1 : Nat) : Int) := by rw [IntWalk.i64_in _ (by omega)]; omega
      have HN := Lib.hid (wrlK_succ ts G key k)
      have hwl := wrlK_le ts G key k
      have HWK := Lib.hid (refWk_good HGD.out ht key)
      have HI := Lib.hid (refIs_call _ _ ts G k wk (HV.out.later HBk.out) HOK.out (HG.out.later HBk.out) hlt)
      have HI1 := Lib.hid (isI_one HGD.out.uniq G k)
      have HINW := Lib.hid (show inW ts G key k = ((isM ts G k).1 && wrOf ts k key) from rfl)
      have hopl := ((HGD.out.txn t (List.mem_of_getElem? ht)).2.2)
      have HR := Lib.hid hr
      have HK0 := Lib.hid k0'
      have HK1 := Lib.hid k1'
      have HK2 := Lib.hid k2'
      clear hcl ht hr k0' k1' k2'
      have SKIP := Lib.hid (fun (h : inW ts G key k = false) => show wrlK ts G key (k + 1) = wrlK ts G key k from by rw [HN.out, h]; simp)
      have PUT := Lib.hid (fun (h : inW ts G key k = true) => show wrlK ts G key (k + 1) = wrlK ts G key k ++ [(k : Int)] from by rw [HN.out, h]; rfl)
      clear HN
      generalize isI ts G k = q at *
      cases h1 : (q == 1) with
      | false =>
        rw [h1] at HI1
        have HS := Lib.hid (SKIP.out (by rw [HINW.out, ← HI1.out]; rfl))
        go_wp2_with (go_at_call 55; refine HI.out.mono ?_; rintro e w3 ⟨rfl, hb3⟩)
        exact ⟨⟨k + 1, by omega, rfl, by rw [HS.out]; exact own_below HO.out hb3, HBk.out.trans (hb3.mono HBk.out.size)⟩, by simp only [intOf]; omega⟩
      | true =>
        rw [h1] at HI1
        obtain ⟨wb, hwb⟩ : ∃ b, wrOf ts k key = b := ⟨_, rfl⟩
        rw [hwb] at HWK HINW
        clear hwb
        cases wb with
        | false =>
          have HS := Lib.hid (SKIP.out (by rw [HINW.out]; simp))
          go_wp2_with (first
            | (go_at_call 55; refine HI.out.mono ?_; rintro e w3 ⟨rfl, hb3⟩; have HB3 := Lib.hid (HBk.out.trans (hb3.mono HBk.out.size)); have HO3 := Lib.hid (own_below HO.out hb3); have k0 := cell_later HB3.out HK0.out; have k1 := cell_later HB3.out HK1.out; have k2 := cell_later HB3.out HK2.out; clear hb3)
            | (go_at_call 37; refine (refWk_call t.client t.state _ t.ops key _ (HR.out.later HB3.out) (by omega)).mono ?_; rw [HWK.out]; rintro e w4 ⟨rfl, hb4⟩))
          exact ⟨⟨k + 1, by omega, rfl, by rw [HS.out]; exact own_below HO3.out hb4, HB3.out.trans (hb4.mono HB3.out.size)⟩, by simp only [intOf]; omega⟩
        | true =>
          have HS := Lib.hid (PUT.out (by rw [HINW.out, ← HI1.out]; rfl))
          clear HI1 HINW SKIP PUT
          generalize wrlK ts G key k = acc at *
          go_upto_region 6 with (first
            | (go_at_call 55; refine HI.out.mono ?_; rintro e w3 ⟨rfl, hb3⟩; have HB3 := Lib.hid (HBk.out.trans (hb3.mono HBk.out.size)); have HO3 := Lib.hid (own_below HO.out hb3); have k0 := cell_later HB3.out HK0.out; have k1 := cell_later HB3.out HK1.out; have k2 := cell_later HB3.out HK2.out; clear hb3)
            | (go_at_call 37; refine (refWk_call t.client t.state _ t.ops key _ (HR.out.later HB3.out) (by omega)).mono ?_; rw [HWK.out]; rintro e w4 ⟨rfl, hb4⟩))
          have HB4 := Lib.hid (HB3.out.trans (hb4.mono HB3.out.size))
          have HO4 := Lib.hid (own_below HO3.out hb4)
          have h4s := HB4.out.size
          clear hb4 k0 k1 k2
          go_wp2_with (at_builtin; refine wpList_append_src rfl _ _ 58 rfl eltI w.heap.size acc.length _ (HO4.out.alloc _) rfl 1 (viC k) (src_new (cs := #[vi k]) rfl rfl) rfl (by intro u hu; simp [viC] at hu; subst hu; rfl) (by omega) (by omega) (by simp; omega) ?_; intro v5 w5 ho5 hg5 _)
          exact ⟨⟨k + 1, by omega, rfl, by rw [HS.out]; simpa [OwI] using ho5, (HB4.out.alloc h4s _).grown hg5 (by simp; omega) (fun j hj => (World.ownsRow.lt HO4.out j hj).1)⟩, by simp only [intOf]; omega⟩
    · obtain rfl : k = ts.length := by omega
      go_wp2_with fail
      go_ret
      exact ⟨_, rfl, HO.out, HBk.out⟩

end Go.Proofs.YtnacoplokjdglaaGreat
