/- Texts of one proof, one behind the other: With, DpEd1, DpEd2, DpEd3, DpEd4. -/
import Derived.Test.YtnacoplokjdglaaGreatKp1
import Derived.Test.YtnacoplokjdglaaGreatKp2
import Derived.Test.YtnacoplokjdglaaGreatKp3
import Derived.Test.YtnacoplokjdglaaGreatKp4
import Derived.Test.YtnacoplokjdglaaGreatKp5
import Derived.Test.YtnacoplokjdglaaGreatKp6
import Derived.Test.YtnacoplokjdglaaGreatKp8
import Derived.Test.YtnacoplokjdglaaGreatKp9
import Derived.Test.YtnacoplokjdglaaGreatKp10
import Derived.Test.YtnacoplokjdglaaGreatKp11
import Derived.Test.YtnacoplokjdglaaGreatKp12
set_option linter.all false
namespace Go.Proofs.YtnacoplokjdglaaGreat
open Go.RowKit Go.Maps

theorem getM_of_mem {L : FaL} (hp : L.Pairwise (fun p q => p.1 ≠ q.1)) {p : GChoice × Bool} (h : p ∈ L) : getM L p.1 = some p.2 := by
  induction L with
  | nil => cases h
  | cons q L ih =>
    rw [List.pairwise_cons] at hp
    rw [getM_cons]
    rcases List.mem_cons.1 h with rfl | h
    · rw [if_pos rfl]
    · rw [if_neg (hp.1 p h)]; exact ih hp.2 h
theorem getM_same {L V : FaL} (_hL : L.Pairwise (fun p q => p.1 ≠ q.1)) (hV : V.Pairwise (fun p q => p.1 ≠ q.1)) (h1 : ∀ p ∈ V, p ∈ L) (h2 : ∀ p ∈ L, p ∈ V) (k : GChoice) : getM V k = getM L k := by
  cases hg : getM L k with
  | none =>
    rw [getM_none] at hg ⊢
    exact fun p hp => hg p (h1 p hp)
  | some b => exact getM_of_mem hV (h2 _ (getM_some hg))
theorem nodup_of_keys {L : FaL} (hL : L.Pairwise (fun p q => p.1 ≠ q.1)) : L.Nodup := hL.imp fun h e => h (by rw [e])
theorem length_same {L V : FaL} (hL : L.Pairwise (fun p q => p.1 ≠ q.1)) (hV : V.Pairwise (fun p q => p.1 ≠ q.1)) (h1 : ∀ p ∈ V, p ∈ L) (h2 : ∀ p ∈ L, p ∈ V) : V.length = L.length :=
  (List.perm_ext_iff_of_nodup (nodup_of_keys hV) (nodup_of_keys hL) |>.2 fun p => ⟨h1 p, h2 p⟩).length_eq

/-- What Facts.With makes, of facts that say nothing of the choice. -/
def WithQ (L : FaL) (c : GChoice) (so : Bool) (w : World) (e : Ending) (w' : World) : Prop := ∃ (H : FaL) (m : Nat), e = .returned (.map (some m)) ∧ w.heap.size ≤ m ∧ MapF w' m H ∧ (∀ k, getM H k = if c = k then some so else getM L k) ∧ H.length = L.length + 1 ∧ Below w.heap.size w w'

abbrev RangeF (w : World) (b r : Nat) (L V : FaL) : Prop := RangeT Tryz.prog 128 chK Value.bool w b r L V

set_option maxRecDepth 100000 in
set_option maxHeartbeats 4000000 in
theorem with_call (m : Nat) (L : FaL) (c : GChoice) (so : Bool) (w : World) (hm : MapF w m L) (hsm : SmallCh c) (hno : getM L c = none) :
    Calls Tryz.prog 63 #[.map (some m), chK c, .bool so] w (WithQ L c so w) := by
  have hml := hm.lt
  have HM := Lib.hid hm
  have HNO := Lib.hid hno
  obtain ⟨kl, hkl⟩ := choiceKey hsm
  have HB0 := Lib.hid ((Below.refl w.heap.size w).alloc (Nat.le_refl _) (.cells #[vi c.kind, vi c.key, vi c.a, vi c.b] 128))
  have HX0 := Lib.hid (alloc_at w (.cells #[vi c.kind, vi c.key, vi c.a, vi c.b] 128))
  have hw0 : (w.alloc (.cells #[vi c.kind, vi c.key, vi c.a, vi c.b] 128)).heap.size = w.heap.size + 1 := by simp
  have hmm := @run_makeMap Tryz.prog
  clear hm hno
  go_enter Tryz.func63, Tryz.ntmps63
  go_upto_region 1 with fail
  generalize w.alloc (.cells #[vi c.kind, vi c.key, vi c.a, vi c.b] 128) = w0 at *
  obtain ⟨w1, hrun1, hM1, hg1⟩ := (MapT.made (P := Tryz.prog) (k := 128) (eK := chK) (eV := Value.bool) w0).update choiceKeyed chK_inj (t := 87) (e := 4) Tryz.underlying87 c hkl so
  rw [hw0] at hrun1 hM1 hg1
  have hq : ∀ o' j, (w0.alloc o').cell? ⟨w.heap.size, j, none⟩ = (#[vi c.kind, vi c.key, vi c.a, vi c.b] : Array Value)[j]? := fun o' j => by rw [World.cell?_alloc_past _ _ _ (by show w.heap.size < w0.heap.size; omega), cell_of HX0.out]
  have q0 := fun o' => (hq o' 0).trans (by rfl : _ = some (vi c.kind))
  have q1 := fun o' => (hq o' 1).trans (by rfl : _ = some (vi c.key))
  have q2 := fun o' => (hq o' 2).trans (by rfl : _ = some (vi c.a))
  have q3 := fun o' => (hq o' 3).trans (by rfl : _ = some (vi c.b))
  clear hq
  go_upto_region 2 with fail
  have hw1 : w.heap.size + 2 ≤ w1.heap.size := by have := hg1.size; simp at this; omega
  have hBa : Below (w.heap.size + 1) w0 (w0.alloc (.map #[] 0)) := (Below.refl _ _).alloc (by omega) _
  have hB1 : Below (w.heap.size + 1) w0 w1 := hBa.grown hg1 (by simp; omega) (fun j hj => by cases hj; omega)
  have HB1 := Lib.hid (HB0.out.trans (hB1.mono (by omega)))
  have HX1 := Lib.hid ((hB1.block w.heap.size (by omega)).trans HX0.out)
  have HM1 := Lib.hid hM1
  have hmf := HM.out.below HB1.out hml
  obtain ⟨w2, hrun2, hR2, hg2, hsz2⟩ := hmf.range (t := 87) (e := 4) Tryz.underlying87
  have HB2 := Lib.hid (HB1.out.grown hg2 HB1.out.size (fun j hj => by cases hj))
  have HX2 := Lib.hid ((hg2.block w.heap.size (by omega) (by simp)).trans HX1.out)
  have HM2 := Lib.hid (HM1.out.kept hg2 (by simp))
  have HR2 := Lib.hid hR2
  have hh : putM ([] : FaL) c so = [(c, so)] := rfl
  rw [hh] at HM1 HM2
  clear hrun1 hBa hB1 hM1 hg1 hmf q0 q1 q2 q3
  go_wp2_with fail
  clear hrun2
  have HPW := Lib.hid HM.out.pairwise
  go_loopw [8, 9] (fun _ _ wr => ∃ V : FaL, RangeF wr m w1.heap.size L V ∧ MapF wr (w.heap.size + 1) ((c, so) :: V) ∧ wr.heap[w.heap.size]? = some (.cells #[vi c.kind, vi c.key, vi c.a, vi c.b] 128) ∧ Below w.heap.size w wr) (fun _ _ wr => wr.rangeLeft m w1.heap.size)
  case atStart => exact ⟨[], HR2.out, HM2.out, HX2.out, HB2.out⟩
  case round =>
    obtain ⟨wk, rfl⟩ : ∃ wk : World, wk = wr := ⟨_, rfl⟩
    obtain ⟨V, hR, hM, hX, hB⟩ := hrel
    have HR := Lib.hid hR
    have HMk := Lib.hid hM
    have HXk := Lib.hid hX
    have HBk := Lib.hid hB
    have hrl := hR.lt
    have hwk := hB.size
    clear hM hX hB
    rcases hR.next chK_inj 0 with ⟨hall, hrun⟩ | ⟨p, w3, hpL, hfresh, hrun, hR3, hlt3, hg3, hsz3, hent⟩
    · have HA := Lib.hid hall
      clear hR hall
      go_wp2_with fail
      go_ret
      obtain ⟨es, clock, since, seen, c0, _, _, _, _, _, _, _, _, _, hsub, hpw⟩ := HR.out
      refine ⟨(c, so) :: V, w.heap.size + 1, rfl, by omega, HMk.out, fun k => ?_, ?_, HBk.out⟩
      · rw [getM_cons, getM_same HPW.out hpw hsub HA.out]
      · rw [List.length_cons, length_same HPW.out hpw hsub HA.out]
    · have hpc := getM_none.1 HNO.out p hpL
      obtain ⟨kp, hkp⟩ := HM.out.keyed hpL
      have HKP := Lib.hid hkp
      have HX3 := Lib.hid ((hg3.block w.heap.size (by omega) (by simp; omega)).trans HXk.out)
      have HM3 := Lib.hid (HMk.out.kept hg3 (by simp; omega))
      have HB3 := Lib.hid (HBk.out.grown hg3 hwk (fun j hj => by cases hj; omega))
      have HFR := Lib.hid (show getM ((c, so) :: V) p.1 = none from getM_none.2 fun q hq => by
        rcases List.mem_cons.1 hq with rfl | hq
        · exact fun e => hpc e.symm
        · exact hfresh q hq)
      have HPC := Lib.hid hpc
      have HR3 := Lib.hid hR3
      have HL3 := Lib.hid hlt3
      have HX5 := Lib.hid ((Below.heap_alloc w3 (.cells #[vi p.1.kind, vi p.1.key, vi p.1.a, vi p.1.b] 128) w.heap.size (by omega)).trans HX3.out)
      have HP5 := Lib.hid (alloc_at w3 (.cells #[vi p.1.kind, vi p.1.key, vi p.1.a, vi p.1.b] 128))
      have HM5 := Lib.hid (HM3.out.frame (Below.heap_alloc w3 (.cells #[vi p.1.kind, vi p.1.key, vi p.1.a, vi p.1.b] 128) _ HM3.out.lt))
      have hf5m := Below.heap_alloc w3 (.cells #[vi p.1.kind, vi p.1.key, vi p.1.a, vi p.1.b] 128) m (by omega)
      have hf5r := Below.heap_alloc w3 (.cells #[vi p.1.kind, vi p.1.key, vi p.1.a, vi p.1.b] 128) w1.heap.size (by omega)
      have HR5 := Lib.hid (HR3.out.frame hf5m hf5r)
      have HE5 := Lib.hid (Go.Proofs.YtnacoplokjdglaaGreat.rangeLeft_frame hf5m hf5r)
      have HB5 := Lib.hid (HB3.out.alloc (by omega) (.cells #[vi p.1.kind, vi p.1.key, vi p.1.a, vi p.1.b] 128))
      have hw5 : (w3.alloc (.cells #[vi p.1.kind, vi p.1.key, vi p.1.a, vi p.1.b] 128)).heap.size = w3.heap.size + 1 := by simp
      clear hR hpL hfresh hR3 hlt3 hg3 hpc hkp hf5m hf5r
      go_upto_region 5 with fail
      clear hrun hent
      generalize w3.alloc (.cells #[vi p.1.kind, vi p.1.key, vi p.1.a, vi p.1.b] 128) = w5 at *
      have p0 : w5.cell? ⟨wk.heap.size, 0, none⟩ = some (vi p.1.kind) := by rw [← hsz3, cell_of HP5.out]; rfl
      have p1 : w5.cell? ⟨wk.heap.size, 1, none⟩ = some (vi p.1.key) := by rw [← hsz3, cell_of HP5.out]; rfl
      have p2 : w5.cell? ⟨wk.heap.size, 2, none⟩ = some (vi p.1.a) := by rw [← hsz3, cell_of HP5.out]; rfl
      have p3 : w5.cell? ⟨wk.heap.size, 3, none⟩ = some (vi p.1.b) := by rw [← hsz3, cell_of HP5.out]; rfl
      have c0 : w5.cell? ⟨w.heap.size, 0, none⟩ = some (vi c.kind) := by rw [cell_of HX5.out]; rfl
      have c1 : w5.cell? ⟨w.heap.size, 1, none⟩ = some (vi c.key) := by rw [cell_of HX5.out]; rfl
      have c2 : w5.cell? ⟨w.heap.size, 2, none⟩ = some (vi c.a) := by rw [cell_of HX5.out]; rfl
      have c3 : w5.cell? ⟨w.heap.size, 3, none⟩ = some (vi c.b) := by rw [cell_of HX5.out]; rfl
      go_cut [23] from 16 to 26 (fun r wx => r = .bool true ∧ wx = w5)
      case first =>
        by_cases g0 : p.1.kind = c.kind
        case neg =>
          have f0 : (p.1.kind == c.kind) = false := by simp [g0]
          clear g0
          go_wp2_with fail
          go_meet
          exact ⟨rfl, rfl⟩
        have f0 : (p.1.kind == c.kind) = true := by simp [g0]
        have G0 := Lib.hid g0
        clear g0
        by_cases g1 : p.1.key = c.key
        case neg =>
          have f1 : (p.1.key == c.key) = false := by simp [g1]
          clear g1
          go_wp2_with fail
          go_meet
          exact ⟨rfl, rfl⟩
        have f1 : (p.1.key == c.key) = true := by simp [g1]
        have G1 := Lib.hid g1
        clear g1
        by_cases g2 : p.1.a = c.a
        case neg =>
          have f2 : (p.1.a == c.a) = false := by simp [g2]
          clear g2
          go_wp2_with fail
          go_meet
          exact ⟨rfl, rfl⟩
        have f2 : (p.1.a == c.a) = true := by simp [g2]
        have G2 := Lib.hid g2
        clear g2
        by_cases g3 : p.1.b = c.b
        case neg =>
          have f3 : (p.1.b == c.b) = false := by simp [g3]
          clear g3
          go_wp2_with fail
          go_meet
          exact ⟨rfl, rfl⟩
        have f3 : (p.1.b == c.b) = true := by simp [g3]
        have G3 := Lib.hid g3
        clear g3
        exact absurd (GChoice.ext' G0.out G1.out G2.out G3.out) HPC.out
      case rest =>
        obtain ⟨rfl, hwx⟩ := hcut
        replace hwx := hwx.symm
        subst hwx
        go_wp2_with (at_mapUpdate; refine wpList_mapUpdate_T (b := w.heap.size + 1) (eK := chK) (eV := Value.bool) rfl _ _ _ rfl choiceKeyed chK_inj Tryz.underlying87 HM5.out rfl p.1 HKP.out rfl p.2 rfl ?_; intro w6 hM6 hg6)
        rw [putM_new HFR.out] at hM6
        have HM6 := Lib.hid hM6
        have hb6 := hg6.block m (by omega) (by simp; omega)
        have hr6 := hg6.block w1.heap.size (by omega) (by simp; omega)
        go_roundw
        case rel => exact ⟨_, _, _, _, _, _, _, _, _, _, _, _, _, ⟨V ++ [p], HR5.out.frame hb6 hr6, HM6.out, (hg6.block w.heap.size (by omega) (by simp)).trans HX5.out, HB5.out.grown hg6 HB5.out.size (fun j hj => by cases hj; omega)⟩, rfl⟩
        case measure =>
          have := HL3.out
          have := HE5.out
          have := Go.Proofs.YtnacoplokjdglaaGreat.rangeLeft_frame hb6 hr6
          omega
end Go.Proofs.YtnacoplokjdglaaGreat

namespace Go.Proofs.YtnacoplokjdglaaGreat
open Go.RowKit Go.Maps
attribute [local go_sem] Oper.semAt_some

set_option maxRecDepth 100000 in
theorem fr199 (f : Nat → Value) : frN 199 f = (⟨#[f 0, f 1, f 2, f 3, f 4, f 5, f 6, f 7, f 8, f 9, f 10, f 11, f 12, f 13, f 14, f 15, f 16, f 17, f 18, f 19, f 20, f 21, f 22, f 23, f 24, f 25, f 26, f 27, f 28, f 29, f 30, f 31, f 32, f 33, f 34, f 35, f 36, f 37, f 38, f 39, f 40, f 41, f 42, f 43, f 44, f 45, f 46, f 47, f 48, f 49, f 50, f 51, f 52, f 53, f 54, f 55, f 56, f 57, f 58, f 59, f 60, f 61, f 62, f 63, f 64, f 65, f 66, f 67, f 68, f 69, f 70, f 71, f 72, f 73, f 74, f 75, f 76, f 77, f 78, f 79, f 80, f 81, f 82, f 83, f 84, f 85, f 86, f 87, f 88, f 89, f 90, f 91, f 92, f 93, f 94, f 95, f 96, f 97, f 98, f 99, f 100, f 101, f 102, f 103, f 104, f 105, f 106, f 107, f 108, f 109, f 110, f 111, f 112, f 113, f 114, f 115, f 116, f 117, f 118, f 119, f 120, f 121, f 122, f 123, f 124, f 125, f 126, f 127, f 128, f 129, f 130, f 131, f 132, f 133, f 134, f 135, f 136, f 137, f 138, f 139, f 140, f 141, f 142, f 143, f 144, f 145, f 146, f 147, f 148, f 149, f 150, f 151, f 152, f 153, f 154, f 155, f 156, f 157, f 158, f 159, f 160, f 161, f 162, f 163, f 164, f 165, f 166, f 167, f 168, f 169, f 170, f 171, f 172, f 173, f 174, f 175, f 176, f 177, f 178, f 179, f 180, f 181, f 182, f 183, f 184, f 185, f 186, f 187, f 188, f 189, f 190, f 191, f 192, f 193, f 194, f 195, f 196, f 197, f 198], []⟩ : Act) := rfl
noncomputable def cEd4 : Code := (Tryz.f77.body.bind (afterBlock 12)).getD .skip
noncomputable def cEd3 : Code := (Tryz.f77.body.bind (afterBlock 6)).getD .skip
noncomputable def cEd2 : Code := (Tryz.f77.body.bind (afterBlock 2)).getD .skip
noncomputable def cEd1 : Code := (Tryz.f77.body.bind (afterBlock 0)).getD .skip

def rdV (r : GRd) : List Value := [vi r.by_, vi r.of_, vi r.key]
theorem rdV_one (r : GRd) : ∀ u ∈ rdV r, u.oneCell' = true := by
  intro u hu; simp [rdV] at hu; rcases hu with rfl | rfl | rfl <;> rfl
theorem Tryz.infoRead : (Tryz.prog.info? 169).map (fun i => (i.zero, i.size, i.bytes)) = some (some (.agg #[vi 0, vi 0, vi 0]), 3, 24) := by kernel_rfl
theorem eltRead : Elt Tryz.prog 166 169 3 24 (.agg #[vi 0, vi 0, vi 0]) := by
  obtain ⟨i0, hi, hz0, hz1, hz2⟩ := info_parts Tryz.infoRead
  exact ⟨Tryz.underlying166, by decide, rfl, i0, hi, hz0, hz1, hz2⟩
def OwR (base : Nat) (w : World) (v : Value) (l : List GRd) : Prop := w.ownsRow base 169 3 v l.length (l.flatMap rdV)
theorem OwR.at {base : Nat} {w : World} {v : Value} {l : List GRd} (h : OwR base w v l) : ∃ a cap, v = .slice a l.length cap ∧ ∀ j x, l[j]? = some x → ∃ b off, a = some ⟨b, off, none⟩ ∧ w.cell? ⟨b, off + j * 3, none⟩ = some (vi x.by_) ∧ w.cell? ⟨b, off + j * 3 + 1, none⟩ = some (vi x.of_) ∧ w.cell? ⟨b, off + j * 3 + 2, none⟩ = some (vi x.key) := by
  have h1 : RdS 3 (fun _ cs x => cs = rdV x) w v l := rds_of_own (V := rdV) (fun _ => rfl) h
  obtain ⟨a, len, cap, e1, e2, -, -, -, e6⟩ := h1
  subst e2
  refine ⟨a, cap, e1, fun j x hj => ?_⟩
  obtain ⟨b, off, cs, ha, hl, hc, rfl⟩ := e6 j x hj
  exact ⟨b, off, ha, by simpa using hc 0 _ rfl, by simpa [Nat.add_assoc] using hc 1 _ rfl, by simpa [Nat.add_assoc] using hc 2 _ rfl⟩

structure EdS (w : World) (b0 : Nat) (ts : List GTxn) (dn : Nat → Bool) (dv rv : Value) (E : List GEdge) (R : List GRd) (W : World) : Prop where
  ed : EdI w.heap.size b0 E W
  dr : OwDn w.heap.size W dv ts dn
  rr : OwR w.heap.size W rv R
  bel : Below w.heap.size w W
section
variable {w A B : World} {b0 : Nat} {ts : List GTxn} {dn : Nat → Bool} {dv rv : Value} {E X : List GEdge} {R : List GRd}
theorem EdS.later (h : EdS w b0 ts dn dv rv E R A) (hb : Below A.heap.size A B) : EdS w b0 ts dn dv rv E R B :=
  ⟨h.ed.later hb, own_below h.dr hb, own_below h.rr hb, h.bel.trans (hb.mono h.bel.size)⟩
theorem EdS.alloc (h : EdS w b0 ts dn dv rv E R A) (o : Obj) : EdS w b0 ts dn dv rv E R (A.alloc o) := h.later ((Below.refl _ _).alloc (Nat.le_refl _) o)
theorem EdS.drewN (h : EdS w b0 ts dn dv rv E R A) (n : Nat) : EdS w b0 ts dn dv rv E R (A.drewN n) := h.later (below_drewN (Below.refl _ _) n)
theorem EdS.add (h : EdS w b0 ts dn dv rv E R A) (hi : EdI w.heap.size b0 X B) (ht : EdT w.heap.size b0 A B) : EdS w b0 ts dn dv rv X R B := by
  obtain ⟨v, hb, -⟩ := h.ed.box
  exact ⟨hi, ht.row h.dr (by decide) (rowNe h.dr hb (by decide)), ht.row h.rr (by decide) (rowNe h.rr hb (by decide)), h.bel.trans ht.below⟩
theorem EdS.lt (h : EdS w b0 ts dn dv rv E R A) : b0 < A.heap.size := by
  obtain ⟨v, hb, -⟩ := h.ed.box
  exact (Array.getElem?_eq_some_iff.1 hb).1
/-- A block of another type stays. -/
theorem EdS.keep (h : EdS w b0 ts dn dv rv E R A) (ht : EdT w.heap.size b0 A B) {j : Nat} {o : Obj} (hj : A.heap[j]? = some o) (h1 : ∀ cs fr, o ≠ .cells cs 65 fr) (h2 : ∀ cs fr, o ≠ .cells cs 113 fr) : B.heap[j]? = some o := by
  obtain ⟨v, hb, -⟩ := h.ed.box
  exact ht.keep j o hj (fun e => by subst e; rw [hb] at hj; exact h1 _ _ (Option.some.inj hj).symm) h2
end
def cloE (b0 : Nat) : Value := .func (.func 97) #[] #[.pointer (some ⟨b0, 0, none⟩)]

/-- What deps.Edges hands back. -/
def EdQ (ts : List GTxn) (L : FaL) (w : World) (e : Ending) (w' : World) : Prop := ∃ v' l, e = .returned v' ∧ OwE w.heap.size w' v' l ∧ EdgesOf ts L l ∧ Below w.heap.size w w'

set_option maxRecDepth 1000000 in
set_option maxHeartbeats 4000000 in
theorem edD (w : World) (ts : List GTxn) (L : FaL) (E : List GEdge) (b0 : Nat) (f : Nat → Value) (W : World) (hE : EdI w.heap.size b0 E W) (hB : Below w.heap.size w W) (hl : E.length ≤ 68719476736) (hsp : ∀ e, e ∈ E ↔ e ∈ edgeL ts L)
    (e5 : f 5 = .pointer (some ⟨b0, 0, none⟩)) :
    Code.wp Tryz.prog cEd4 (bodyPost Tryz.prog Tryz.f77 (EdQ ts L w)) (frN 199 f) W := by
  rw [fr199, e5]
  clear e5
  obtain ⟨⟨v, hb, ho⟩, hN0⟩ := hE
  obtain ⟨a, c, rfl⟩ := Gr.own_shape ho
  have c0 : W.cell? ⟨b0, 0, none⟩ = some (.slice a E.length c) := by rw [cell_of hb]; rfl
  have HO := Lib.hid ho
  have HB := Lib.hid hB
  have HX := Lib.hid hb
  have HSP := Lib.hid hsp
  clear ho hB hb hsp
  conv => arg 2; whnf
  go_upto_region 53 with (go_at_call 100; refine (sortE_call (base := w.heap.size) _ E W HO.out HB.out.size hl).mono ?_; rintro e1 w1 ⟨rfl, ks, ho1, hp1, hs1, hkl1, hb1, hg1⟩; have HO1 := Lib.hid ho1; have HP1 := Lib.hid hp1; have HS1 := Lib.hid hs1; have HB1 := Lib.hid hb1; have HK1 := Lib.hid hkl1; have HX1 := Lib.hid ((hg1.block b0 (Array.getElem?_eq_some_iff.1 HX.out).1 (fun e => rowNe HO.out HX.out (by decide) b0 e.symm rfl)).trans HX.out); clear ho1 hp1 hs1 hb1 hkl1 hg1)
  have c1 : w1.cell? ⟨b0, 0, none⟩ = some (.slice a E.length c) := by rw [cell_of HX1.out]; rfl
  have hB1 := Nat.le_trans HB.out.size HB1.out.size
  clear c0
  go_wp2_with (go_at_call 102; refine (compactE_call (base := w.heap.size) _ ks w1 HO1.out (by rw [HK1.out]; exact hl) hB1).mono ?_; rintro e2 w2 ⟨v2, rfl, ho2, hb2⟩; have HO2 := Lib.hid ho2; have HB2 := Lib.hid hb2; clear ho2 hb2)
  go_ret
  have hsort : ks.Pairwise (fun x y => ¬ ltE y x) := HS1.out.imp (fun {x y} h => by rw [ltE_of] at h; simpa using h)
  obtain ⟨q1, q2⟩ := cptL_spec hsort
  exact ⟨v2, cptL ks, rfl, HO2.out, ⟨q1, fun e => by rw [q2, HP1.out.mem_iff, HSP.out]⟩, (HB.out.trans HB1.out).trans HB2.out⟩
end Go.Proofs.YtnacoplokjdglaaGreat

namespace Go.Proofs.YtnacoplokjdglaaGreat
open Go.RowKit Go.Maps
attribute [local go_sem] Oper.semAt_some

theorem run_range_nil {P : Program} {t k e : TypeId} (w : World) (ht : P.underlying t = some (.map k e)) : (Instr.range t (.map none)).run P w = .ok (.pointer (some ⟨w.heap.size, 0, none⟩)) (w.alloc (.mapIter none 0 #[] 0)) := by
  simp [Instr.range, run_underlying ht, Result.andThen]
theorem run_next_nil {P : Program} {r : Nat} {w : World} (ty : TypeId) (h : w.heap[r]? = some (.mapIter none 0 #[] 0)) : (Instr.next (.pointer (some ⟨r, 0, none⟩)) false ty).run P w = .ok (.tuple #[.bool false]) w := by
  simp [Instr.next, getObj, Sem.run_bind, Sem.run, h, Result.andThen]
/-- A range over whatever facts, in the tape's order: what has come out so far. -/
def RngV (w : World) (mv : Value) (r : Nat) (L V : FaL) : Prop :=
  (mv = .map none ∧ L = [] ∧ V = [] ∧ w.heap[r]? = some (.mapIter none 0 #[] 0)) ∨ ∃ m, mv = .map (some m) ∧ RangeF w m r L V
theorem RngV.start {w : World} {mv : Value} {L : FaL} (h : FaV w mv L) :
    ∃ w', (Instr.range 87 mv).run Tryz.prog w = .ok (.pointer (some ⟨w.heap.size, 0, none⟩)) w' ∧ RngV w' mv w.heap.size L [] ∧ Below w.heap.size w w' := by
  rcases h with ⟨rfl, rfl⟩ | ⟨m, rfl, hm⟩
  · refine ⟨w.alloc (.mapIter none 0 #[] 0), ?_, .inl ⟨rfl, rfl, rfl, alloc_at _ _⟩, (Below.refl _ _).alloc (Nat.le_refl _) _⟩
    exact run_range_nil w Tryz.underlying87
  · obtain ⟨w', h1, h2, h3, h4⟩ := hm.range (t := 87) (e := 4) Tryz.underlying87
    exact ⟨w', h1, .inr ⟨m, rfl, h2⟩, (Below.refl _ _).grown h3 (Nat.le_refl _) (fun j hj => by cases hj)⟩
theorem RngV.keep {w w' : World} {mv : Value} {r : Nat} {L V : FaL} (h : RngV w mv r L V) (hk : ∀ (j : Nat) (o : Obj), w.heap[j]? = some o → (∀ cs e fr, o ≠ Obj.cells cs e fr) → w'.heap[j]? = some o) : RngV w' mv r L V := by
  rcases h with ⟨h1, h2, h3, h4⟩ | ⟨m, h1, h2⟩
  · exact .inl ⟨h1, h2, h3, hk r _ h4 (fun _ _ _ h => by cases h)⟩
  · refine .inr ⟨m, h1, ?_⟩
    obtain ⟨es, clock, since, seen, c0, a1, a2, a3, a4, a5, rest⟩ := h2
    exact ⟨es, clock, since, seen, c0, hk m _ a1 (fun _ _ _ h => by cases h), a2, a3, a4, hk r _ a5 (fun _ _ _ h => by cases h), rest⟩
theorem RngV.below {w w' : World} {mv : Value} {r : Nat} {L V : FaL} (h : RngV w mv r L V) (hb : Below w.heap.size w w') : RngV w' mv r L V :=
  h.keep fun j o hj _ => (hb.block j (Array.getElem?_eq_some_iff.1 hj).1).trans hj
theorem RngV.sub {w : World} {mv : Value} {r : Nat} {L V : FaL} (h : RngV w mv r L V) : (∀ p ∈ V, p ∈ L) ∧ V.Nodup := by
  rcases h with ⟨h1, h2, h3, h4⟩ | ⟨m, h1, h2⟩
  · subst h2; subst h3; exact ⟨fun _ h => h, List.nodup_nil⟩
  · obtain ⟨es, clock, since, seen, c0, _, _, _, _, _, _, _, _, _, hsub, hpw⟩ := h2
    exact ⟨hsub, nodup_of_keys hpw⟩
theorem RngV.len {w : World} {mv : Value} {r : Nat} {L V : FaL} (h : RngV w mv r L V) : V.length ≤ L.length := nodup_len V L h.sub.2 h.sub.1
/-- The step. -/
theorem RngV.next {w : World} {mv : Value} {r : Nat} {L V : FaL} (h : RngV w mv r L V) (ty : TypeId) :
    ((∀ p ∈ L, p ∈ V) ∧ (Instr.next (.pointer (some ⟨r, 0, none⟩)) false ty).run Tryz.prog w = .ok (.tuple #[.bool false]) w) ∨
    ∃ p w', p ∈ L ∧ (Instr.next (.pointer (some ⟨r, 0, none⟩)) false ty).run Tryz.prog w = .ok (.tuple #[.bool true, chK p.1, .bool p.2]) w' ∧
      RngV w' mv r L (V ++ [p]) ∧ w.grownBy w' (some r) ∧ w'.heap.size = w.heap.size ∧ (Instr.entry (.pointer (some ⟨r, 0, none⟩))).run Tryz.prog w' = .ok (.tuple #[chK p.1, .bool p.2]) w' := by
  rcases h with ⟨h1, h2, h3, h4⟩ | ⟨m, rfl, h2⟩
  · subst h2
    refine .inl ⟨fun _ h => (by cases h), ?_⟩
    exact run_next_nil ty h4
  · rcases h2.next chK_inj ty with h | ⟨p, w', a1, a2, a3, a4, a5, a6, a7, a8⟩
    · exact .inl h
    · exact .inr ⟨p, w', a1, a3, .inr ⟨m, rfl, a4⟩, a6, a7, a8⟩
end Go.Proofs.YtnacoplokjdglaaGreat

namespace Go.Proofs.YtnacoplokjdglaaGreat
open Go.RowKit Go.Maps
attribute [local go_sem] Oper.semAt_some

theorem addE_len (f t k : Int) : (addE f t k).length ≤ 1 := by unfold addE; split <;> simp
theorem wwR_len (a b key : Int) (r : GRd) : (wwR a b key r).length ≤ 1 := by
  unfold wwR; split
  · exact addE_len _ _ _
  · simp
theorem flatMap_le {α β : Type} {g : α → List β} (c : Nat) (h : ∀ x, (g x).length ≤ c) : ∀ l : List α, (l.flatMap g).length ≤ l.length * c
  | [] => by simp
  | x :: l => by
    have := flatMap_le c h l
    have := h x
    rw [List.flatMap_cons, List.length_append, List.length_cons, Nat.add_mul, Nat.one_mul]; omega
theorem wwL_len (R : List GRd) (a b key : Int) : (wwL R a b key).length ≤ 1 + R.length := by
  unfold wwL
  rw [List.length_append]
  have h1 := addE_len a b 1
  have h2 := flatMap_le 1 (wwR_len a b key) R
  omega
theorem factE_len (ts : List GTxn) (dn : Nat → Bool) (R : List GRd) (p : GChoice × Bool) : (factE ts dn R p).length ≤ 1 + R.length := by
  unfold factE
  split
  · split
    · exact wwL_len _ _ _ _
    · exact wwL_len _ _ _ _
  · simp
theorem factE_none1 {ts : List GTxn} {dn : Nat → Bool} {R : List GRd} {p : GChoice × Bool} (h : p.1.kind ≠ 2) : factE ts dn R p = [] := by unfold factE; rw [if_neg (fun hh => h hh.1)]
theorem factE_none2 {ts : List GTxn} {dn : Nat → Bool} {R : List GRd} {p : GChoice × Bool} (h : hasM ts dn p.1 = false) : factE ts dn R p = [] := by unfold factE; rw [if_neg (fun hh => by rw [h] at hh; exact absurd hh.2 (by simp))]
theorem factE_yes {ts : List GTxn} {dn : Nat → Bool} {R : List GRd} {p : GChoice × Bool} (h : p.1.kind = 2) (h2 : hasM ts dn p.1 = true) : factE ts dn R p = wwL R (if p.2 then p.1.a else p.1.b) (if p.2 then p.1.b else p.1.a) p.1.key := by
  unfold factE; rw [if_pos ⟨h, h2⟩]; cases p.2 <;> rfl
theorem fact_room {ts : List GTxn} {dn : Nat → Bool} {R : List GRd} {E0 : List GEdge} {V L : FaL} (hB : E0.length + L.length * (1 + R.length) ≤ 1000000000) (hV : V.length + 1 ≤ L.length) : (E0 ++ V.flatMap (factE ts dn R)).length + (1 + R.length) ≤ 1000000000 := by
  have h1 := flatMap_le (1 + R.length) (factE_len ts dn R) V
  have h2 := Nat.mul_le_mul_right (1 + R.length) hV
  rw [Nat.add_mul, Nat.one_mul] at h2
  rw [List.length_append]; omega
noncomputable def cEdL : Code := (Tryz.f77.body.bind (blockOf 14)).getD .skip

set_option maxRecDepth 1000000 in
set_option maxHeartbeats 8000000 in
/-- The reads that one write stands ahead of another one's. -/
theorem edL (w : World) (b0 r kb : Nat) (ts : List GTxn) (L V : FaL) (mv dv tsv : Value) (dn : Nat → Bool) (E1 : List GEdge) (R : List GRd) (ra : Option Addr) (rc : Nat) (c : GChoice) (a b : Int) (f : Nat → Value) (W : World) (K : Act → World → Prop) (hS : EdS w b0 ts dn dv (.slice ra R.length rc) E1 R W)
    (hr : RngV W mv r L V) (hkb : W.heap[kb]? = some (.cells #[vi c.kind, vi c.key, vi c.a, vi c.b] 128)) (hl : E1.length + R.length ≤ 1000000000)
    (e0 : f 0 = tsv) (e5 : f 5 = .pointer (some ⟨b0, 0, none⟩)) (e6 : f 6 = dv) (e8 : f 8 = cloE b0) (e9 : f 9 = .slice ra R.length rc) (e22 : f 22 = .pointer (some ⟨kb, 0, none⟩)) (e24 : f 24 = vi a) (e25 : f 25 = vi b) (e144 : f 144 = .pointer (some ⟨r, 0, none⟩)) (e172 : f 172 = .slice ra R.length rc) (e173 : f 173 = .int .i64 R.length) (e174 : f 174 = .int .i64 0)
    (hK : ∀ (g : Nat → Value) W', g 0 = tsv → g 5 = .pointer (some ⟨b0, 0, none⟩) → g 6 = dv → g 8 = cloE b0 → g 9 = .slice ra R.length rc → g 144 = .pointer (some ⟨r, 0, none⟩) → EdS w b0 ts dn dv (.slice ra R.length rc) (E1 ++ R.flatMap (wwR a b c.key)) R W' → RngV W' mv r L V → K (frN 199 g) W') :
    Code.wp Tryz.prog cEdL (OnlyN K) (frN 199 f) W := by
  rw [fr199, e0, e5, e6, e8, e9, e22, e24, e25, e144, e172, e173, e174]
  clear e0 e5 e6 e8 e9 e22 e24 e25 e144 e172 e173 e174
  have HK := Lib.hid hK
  have HS := Lib.hid hS
  have HR := Lib.hid hr
  have HX := Lib.hid hkb
  have HRR := Lib.hid (show OwR w.heap.size W (.slice ra R.length rc) R from hS.rr)
  clear hK hS hr hkb
  conv => arg 2; whnf
  go_wp2_with fail
  refine wp_loopF 199 (fun m g wr => g 0 = tsv ∧ g 5 = .pointer (some ⟨b0, 0, none⟩) ∧ g 6 = dv ∧ g 8 = cloE b0 ∧ g 9 = .slice ra R.length rc ∧ g 22 = .pointer (some ⟨kb, 0, none⟩) ∧ g 24 = vi a ∧ g 25 = vi b ∧ g 144 = .pointer (some ⟨r, 0, none⟩) ∧ g 172 = .slice ra R.length rc ∧ g 173 = .int .i64 R.length ∧
    ∃ k : Nat, k ≤ R.length ∧ m = R.length - k ∧ g 174 = .int .i64 k ∧ EdS w b0 ts dn dv (.slice ra R.length rc) (E1 ++ (R.take k).flatMap (wwR a b c.key)) R wr ∧ RngV wr mv r L V ∧ wr.heap[kb]? = some (.cells #[vi c.kind, vi c.key, vi c.a, vi c.b] 128)) _ rfl R.length ?start ?round
  case start => exact ⟨rfl, rfl, rfl, rfl, rfl, rfl, rfl, rfl, rfl, rfl, rfl, 0, Nat.zero_le _, rfl, rfl, by simpa using HS.out, HR.out, HX.out⟩
  case round =>
    rintro gm g wr ⟨g0, g5, g6, g8, g9, g22, g24, g25, g144, g172, g173, k, hk, hgm, g174, hS, hR, hX⟩ JJ KK HJ HKK
    have HJJ := Lib.hid HJ
    have HGM := Lib.hid hgm
    have HSk := Lib.hid hS
    have HRk := Lib.hid hR
    have HXk := Lib.hid hX
    clear HJ hgm hS hR hX
    by_cases hlt : k < R.length
    · rw [fr199, g0, g5, g6, g8, g9, g22, g24, g25, g144, g172, g173, g174]
      clear g0 g5 g6 g8 g9 g22 g24 g25 g144 g172 g173 g174
      have k1 : decide ((k : Int) < R.length) = true := decide_eq_true (by omega)
      have k2 : (k : Int) < R.length := by omega
      have hwk : IntKind.i64.wrap ((k : Int) + 1) = (k : Int) + 1 := IntWalk.i64_in _ (by omega)
      obtain ⟨x, hx⟩ := some_at hlt
      obtain ⟨_, _, e7, hcl⟩ := HSk.out.rr.at
      cases e7
      obtain ⟨gb, off, rfl, c0, c1, c2⟩ := hcl k x hx
      have HNX := Lib.hid (show (R.take (k + 1)).flatMap (wwR a b c.key) = (R.take k).flatMap (wwR a b c.key) ++ wwR a b c.key x from by rw [take_at hx, List.flatMap_append]; simp)
      have hlen : (E1 ++ (R.take k).flatMap (wwR a b c.key)).length + 1 ≤ 68719476736 := by
        have h1 := flatMap_le 1 (wwR_len a b c.key) (R.take k)
        have h2 : (R.take k).length ≤ R.length := by simp; omega
        rw [List.length_append]; omega
      obtain ⟨E2, hE2⟩ : ∃ E2, E2 = E1 ++ (R.take k).flatMap (wwR a b c.key) := ⟨_, rfl⟩
      have HE2 := Lib.hid hE2
      rw [← hE2] at HSk hlen
      have HSa := Lib.hid (HSk.out.alloc (.cells #[vi x.by_, vi x.of_, vi x.key] 169))
      have HRa := Lib.hid (HRk.out.below ((Below.refl wr.heap.size wr).alloc (Nat.le_refl _) (.cells #[vi x.by_, vi x.of_, vi x.key] 169)))
      have HXa := Lib.hid ((Below.heap_alloc wr (.cells #[vi x.by_, vi x.of_, vi x.key] 169) kb (Array.getElem?_eq_some_iff.1 HXk.out).1).trans HXk.out)
      have HXx := Lib.hid (alloc_at wr (.cells #[vi x.by_, vi x.of_, vi x.key] 169))
      clear hcl hx hE2
      go_upto_region 49 with fail
      clear c0 c1 c2
      generalize wr.alloc (.cells #[vi x.by_, vi x.of_, vi x.key] 169) = wa at *
      obtain ⟨xb, hxb⟩ : ∃ xb, xb = wr.heap.size := ⟨_, rfl⟩
      rw [← hxb] at HXx ⊢
      clear hxb
      have x0 : wa.cell? ⟨xb, 0, none⟩ = some (vi x.by_) := by rw [cell_of HXx.out]; rfl
      have x1 : wa.cell? ⟨xb, 1, none⟩ = some (vi x.of_) := by rw [cell_of HXx.out]; rfl
      have x2 : wa.cell? ⟨xb, 2, none⟩ = some (vi x.key) := by rw [cell_of HXx.out]; rfl
      have y1 : wa.cell? ⟨kb, 1, none⟩ = some (vi c.key) := by rw [cell_of HXa.out]; rfl
      have next : ∀ (l : List Value) (W2 : World) (E3 : List GEdge), l.length = 199 → slotsOf l 0 = tsv ∧ slotsOf l 5 = .pointer (some ⟨b0, 0, none⟩) ∧ slotsOf l 6 = dv ∧ slotsOf l 8 = cloE b0 ∧ slotsOf l 9 = .slice (some ⟨gb, off, none⟩) R.length rc ∧ slotsOf l 22 = .pointer (some ⟨kb, 0, none⟩) ∧ slotsOf l 24 = vi a ∧ slotsOf l 25 = vi b ∧ slotsOf l 144 = .pointer (some ⟨r, 0, none⟩) ∧ slotsOf l 172 = .slice (some ⟨gb, off, none⟩) R.length rc ∧ slotsOf l 173 = .int .i64 R.length → slotsOf l 174 = .int .i64 ((k : Int) + 1) → E3 = E2 ++ wwR a b c.key x → EdS w b0 ts dn dv (.slice (some ⟨gb, off, none⟩) R.length rc) E3 R W2 → RngV W2 mv r L V → W2.heap[kb]? = some (.cells #[vi c.kind, vi c.key, vi c.a, vi c.b] 128) → Handed JJ gm ⟨l.toArray, []⟩ W2 := fun l W2 E3 hl' hc h174 hE3 h1 h2 h3 => by
        obtain ⟨t0, t1, t2, t3, t4, t5, t6, t7, t8, t9, t10⟩ := hc
        exact Handed.intro (R.length - (k + 1)) (by rw [HGM.out]; omega) (HJJ.out _ _ _ hl' ⟨t0, t1, t2, t3, t4, t5, t6, t7, t8, t9, t10, k + 1, by omega, rfl, by rw [h174]; go_num, by rw [HNX.out, ← List.append_assoc, ← HE2.out, ← hE3]; exact h1, h2, h3⟩)
      have NEXT := Lib.hid next
      clear next
      by_cases hof : x.of_ = a
      · have d1 : (x.of_ == a) = true := by simp [hof]
        by_cases hky : x.key = c.key
        · have d2 : (x.key == c.key) = true := by simp [hky]
          have HW := Lib.hid (show wwR a b c.key x = addE x.by_ b 3 from by unfold wwR; rw [if_pos ⟨hof, hky⟩])
          clear hof hky
          unfold cloE
          go_wp2_with (go_at_call 97; refine (add_call x.by_ b 3 w.heap.size b0 E2 _ HSa.out.ed HSa.out.bel.size hlen).mono ?_; rintro e1 w1 ⟨rfl, hi, ht⟩; have HI := Lib.hid (HSa.out.add hi ht); have HXi := Lib.hid (HSa.out.keep ht HXa.out (fun _ _ h => by cases h) (fun _ _ h => by cases h)); have HRi := Lib.hid (HRa.out.keep (fun j o hj hn => HSa.out.keep ht hj (fun _ _ => hn _ _ _) (fun _ _ => hn _ _ _))); clear hi ht)
          exact NEXT.out _ _ _ rfl ⟨rfl, rfl, rfl, rfl, rfl, rfl, rfl, rfl, rfl, rfl, rfl⟩ rfl (by rw [HW.out]) HI.out HRi.out HXi.out
        · have d2 : (x.key == c.key) = false := by simp [hky]
          have HW := Lib.hid (show wwR a b c.key x = [] from by unfold wwR; rw [if_neg (fun h => hky h.2)])
          clear hof hky
          go_wp2_with fail
          exact NEXT.out _ _ _ rfl ⟨rfl, rfl, rfl, rfl, rfl, rfl, rfl, rfl, rfl, rfl, rfl⟩ rfl (by rw [HW.out, List.append_nil]) HSa.out HRa.out HXa.out
      · have d1 : (x.of_ == a) = false := by simp [hof]
        have HW := Lib.hid (show wwR a b c.key x = [] from by unfold wwR; rw [if_neg (fun h => hof h.1)])
        clear hof
        go_wp2_with fail
        exact NEXT.out _ _ _ rfl ⟨rfl, rfl, rfl, rfl, rfl, rfl, rfl, rfl, rfl, rfl, rfl⟩ rfl (by rw [HW.out, List.append_nil]) HSa.out HRa.out HXa.out
    · have k1 : decide ((k : Int) < R.length) = false := decide_eq_false (by omega)
      have HFIN := Lib.hid (show EdS w b0 ts dn dv (.slice ra R.length rc) (E1 ++ R.flatMap (wwR a b c.key)) R wr from by
        have h := HSk.out
        have hke : k = R.length := by omega
        rw [hke, List.take_length] at h
        exact h)
      have hcc : ∀ (l : List Value), l.length = 199 → slotsOf l 0 = tsv → slotsOf l 5 = .pointer (some ⟨b0, 0, none⟩) → slotsOf l 6 = dv → slotsOf l 8 = cloE b0 → slotsOf l 9 = .slice ra R.length rc → slotsOf l 144 = .pointer (some ⟨r, 0, none⟩) → K ⟨l.toArray, []⟩ wr := fun l hl' h0 h5 h6 h8 h9 h144 => by
        rw [frN_of 199 l hl']
        exact HK.out _ _ h0 h5 h6 h8 h9 h144 HFIN.out HRk.out
      have HCC := Lib.hid hcc
      rw [fr199, g0, g5, g6, g8, g9, g22, g24, g25, g144, g172, g173, g174]
      clear hcc g0 g5 g6 g8 g9 g22 g24 g25 g144 g172 g173 g174
      go_wp2_with fail
      exact HCC.out _ rfl rfl rfl rfl rfl rfl rfl
end Go.Proofs.YtnacoplokjdglaaGreat

namespace Go.Proofs.YtnacoplokjdglaaGreat
open Go.RowKit Go.Maps
attribute [local go_sem] Oper.semAt_some

theorem slots_fr (n : Nat) (g : Nat → Value) (i : Nat) (h : i < n) : slotsOf ((List.range n).map g) i = g i := by
  unfold slotsOf; rw [List.getElem?_map, List.getElem?_range h]; rfl
theorem RngV.iter {w : World} {mv : Value} {r : Nat} {L V : FaL} (h : RngV w mv r L V) : ∃ a b c d, w.heap[r]? = some (.mapIter a b c d) := by
  rcases h with ⟨h1, h2, h3, h4⟩ | ⟨m, h1, h2⟩
  · exact ⟨_, _, _, _, h4⟩
  · obtain ⟨es, clock, since, seen, c0, _, _, _, _, a5, _⟩ := h2
    exact ⟨_, _, _, _, a5⟩
theorem own_iter {N e k n r : Nat} {w w' : World} {v : Value} {xs : List Value} (ho : w.ownsRow N e k v n xs) (hg : w.grownBy w' (some r)) (hr : ∃ a b c d, w.heap[r]? = some (.mapIter a b c d)) : w'.ownsRow N e k v n xs :=
  ho.kept hg (by
    rcases ho.2 with ⟨h1, _⟩ | ⟨g', cap, cur, h1, _, hh, _⟩
    · rw [h1]; exact .inl rfl
    · rw [h1]
      refine .inr (fun e => ?_)
      have e2 : g' = r := by simpa [Value.ownBlock] using e
      subst e2
      obtain ⟨a, b, c, d, h⟩ := hr
      rw [h] at hh; cases hh)
theorem EdS.iter {w A B : World} {b0 r : Nat} {ts : List GTxn} {dn : Nat → Bool} {dv rv : Value} {E : List GEdge} {R : List GRd} (h : EdS w b0 ts dn dv rv E R A) (hg : A.grownBy B (some r)) (hr : ∃ a b c d, A.heap[r]? = some (.mapIter a b c d)) (hrw : w.heap.size ≤ r) : EdS w b0 ts dn dv rv E R B := by
  obtain ⟨v, hb, ho⟩ := h.ed.box
  refine ⟨⟨⟨v, (hg.block b0 h.lt (fun e => ?_)).trans hb, own_iter ho hg hr⟩, h.ed.own⟩, own_iter h.dr hg hr, own_iter h.rr hg hr, h.bel.grown hg h.bel.size (fun j hj => by cases hj; exact hrw)⟩
  have e2 := Option.some.inj e
  subst e2
  obtain ⟨a, b, c, d, h⟩ := hr
  rw [h] at hb; cases hb

set_option maxRecDepth 1000000 in
set_option maxHeartbeats 8000000 in
theorem edC (w : World) (b0 : Nat) (ts : List GTxn) (L : FaL) (mv dv tsv : Value) (dn : Nat → Bool) (E0 : List GEdge) (R : List GRd) (ra : Option Addr) (rc : Nat) (f : Nat → Value) (W : World) (hS : EdS w b0 ts dn dv (.slice ra R.length rc) E0 R W)
    (hv : RdTxns w tsv ts) (htl : ts.length ≤ 4096) (hm : FaV w mv L) (hB : E0.length + L.length * (1 + R.length) ≤ 1000000000) (hfin : ∀ V : FaL, (∀ p, p ∈ V ↔ p ∈ L) → ∀ e, e ∈ E0 ++ V.flatMap (factE ts dn R) ↔ e ∈ edgeL ts L)
    (e0 : f 0 = tsv) (e1 : f 1 = mv) (e5 : f 5 = .pointer (some ⟨b0, 0, none⟩)) (e6 : f 6 = dv) (e8 : f 8 = cloE b0) (e9 : f 9 = .slice ra R.length rc) :
    Code.wp Tryz.prog cEd3 (bodyPost Tryz.prog Tryz.f77 (EdQ ts L w)) (frN 199 f) W := by
  rw [fr199, e0, e1, e5, e6, e8, e9]
  clear e0 e1 e5 e6 e8 e9
  have HS := Lib.hid hS
  have HV := Lib.hid hv
  have HFN := Lib.hid hfin
  have HBB := Lib.hid hB
  obtain ⟨W1, hrun, hR1, hb1⟩ := RngV.start (hm.later hS.bel)
  have HR1 := Lib.hid hR1
  have HS1 := Lib.hid (hS.later hb1)
  have hrw : w.heap.size ≤ W.heap.size := hS.bel.size
  clear hS hv hm hfin hB hR1 hb1
  conv => arg 2; whnf
  go_wp2_with fail
  clear hrun
  obtain ⟨r, hr⟩ : ∃ r, r = W.heap.size := ⟨_, rfl⟩
  rw [← hr] at HR1 hrw ⊢
  clear hr
  rename_i KB hKB
  have HKB := Lib.hid hKB
  clear hKB
  refine wp_loopF 199 (fun m g wr => g 0 = tsv ∧ g 5 = .pointer (some ⟨b0, 0, none⟩) ∧ g 6 = dv ∧ g 8 = cloE b0 ∧ g 9 = .slice ra R.length rc ∧ g 144 = .pointer (some ⟨r, 0, none⟩) ∧
    ∃ V : FaL, m = L.length - V.length ∧ EdS w b0 ts dn dv (.slice ra R.length rc) (E0 ++ V.flatMap (factE ts dn R)) R wr ∧ RngV wr mv r L V) _ rfl L.length ?start ?round
  case start => exact ⟨rfl, rfl, rfl, rfl, rfl, rfl, [], rfl, by simpa using HS1.out, HR1.out⟩
  case round =>
    rintro gm g wr ⟨g0, g5, g6, g8, g9, g144, V, hgm, hS, hR⟩ JJ KK HJ HKK
    have HJJ := Lib.hid HJ
    have HKK2 := Lib.hid HKK
    have HGM := Lib.hid hgm
    have HSk := Lib.hid hS
    have HRk := Lib.hid hR
    clear HJ hgm hS HKK
    rcases hR.next 0 with ⟨hall, hrun⟩ | ⟨p, w3, hpL, hrun, hR3, hg3, hsz3, hent⟩
    · have hcc : ∀ (l : List Value), l.length = 199 → slotsOf l 5 = .pointer (some ⟨b0, 0, none⟩) → Code.wp Tryz.prog cEd4 (bodyPost Tryz.prog Tryz.f77 (EdQ ts L w)) ⟨l.toArray, []⟩ wr := fun l hl' h5 => by
        rw [frN_of 199 l hl']
        refine edD w ts L _ b0 _ wr HSk.out.ed HSk.out.bel ?_ (HFN.out V (fun p => ⟨HRk.out.sub.1 p, hall p⟩)) h5
        have h1 := flatMap_le (1 + R.length) (factE_len ts dn R) V
        have h2 := Nat.mul_le_mul_right (1 + R.length) HRk.out.len
        have h3 := HBB.out
        rw [List.length_append]; omega
      have HCC := Lib.hid hcc
      rw [fr199, g0, g5, g6, g8, g9, g144]
      clear hcc g0 g5 g6 g8 g9 g144 hR hall
      go_wp2_with fail
      exact HKB.out _ _ (HCC.out _ rfl rfl)
    · rw [fr199, g0, g5, g6, g8, g9, g144]
      clear g0 g5 g6 g8 g9 g144 hR
      have HR3 := Lib.hid hR3
      have HPL := Lib.hid hpL
      have HS3 := Lib.hid (HSk.out.iter hg3 HRk.out.iter hrw)
      have HVL := Lib.hid (show V.length + 1 ≤ L.length from by have := hR3.len; simpa using this)
      have HRM := Lib.hid (fact_room (ts := ts) (dn := dn) (E0 := E0) HBB.out HVL.out)
      have HFX := Lib.hid (show (V ++ [p]).flatMap (factE ts dn R) = V.flatMap (factE ts dn R) ++ factE ts dn R p from by rw [List.flatMap_append]; simp)
      obtain ⟨E2, hE2⟩ : ∃ E2, E2 = E0 ++ V.flatMap (factE ts dn R) := ⟨_, rfl⟩
      have HE2 := Lib.hid hE2
      rw [← hE2] at HS3 HRM
      have HS5 := Lib.hid (HS3.out.alloc (.cells #[vi p.1.kind, vi p.1.key, vi p.1.a, vi p.1.b] 128))
      have HR5 := Lib.hid (HR3.out.below ((Below.refl w3.heap.size w3).alloc (Nat.le_refl _) (.cells #[vi p.1.kind, vi p.1.key, vi p.1.a, vi p.1.b] 128)))
      have HX5 := Lib.hid (alloc_at w3 (.cells #[vi p.1.kind, vi p.1.key, vi p.1.a, vi p.1.b] 128))
      clear hR3 hg3 hpL hE2
      go_upto_region 41 with fail
      clear hrun hent
      generalize w3.alloc (.cells #[vi p.1.kind, vi p.1.key, vi p.1.a, vi p.1.b] 128) = w5 at *
      rw [hsz3] at HX5
      obtain ⟨kb, hkb⟩ : ∃ kb, kb = wr.heap.size := ⟨_, rfl⟩
      rw [← hkb] at HX5 ⊢
      clear hkb hsz3
      have k0 : w5.cell? ⟨kb, 0, none⟩ = some (vi p.1.kind) := by rw [cell_of HX5.out]; rfl
      have k1 : w5.cell? ⟨kb, 1, none⟩ = some (vi p.1.key) := by rw [cell_of HX5.out]; rfl
      have k2 : w5.cell? ⟨kb, 2, none⟩ = some (vi p.1.a) := by rw [cell_of HX5.out]; rfl
      have k3 : w5.cell? ⟨kb, 3, none⟩ = some (vi p.1.b) := by rw [cell_of HX5.out]; rfl
      have next : ∀ (l : List Value) (W2 : World) (E3 : List GEdge), l.length = 199 → slotsOf l 0 = tsv ∧ slotsOf l 5 = .pointer (some ⟨b0, 0, none⟩) ∧ slotsOf l 6 = dv ∧ slotsOf l 8 = cloE b0 ∧ slotsOf l 9 = .slice ra R.length rc ∧ slotsOf l 144 = .pointer (some ⟨r, 0, none⟩) → E3 = E2 ++ factE ts dn R p → EdS w b0 ts dn dv (.slice ra R.length rc) E3 R W2 → RngV W2 mv r L (V ++ [p]) → Handed JJ gm ⟨l.toArray, []⟩ W2 := fun l W2 E3 hl' hc hE3 h1 h2 => by
        obtain ⟨t0, t1, t2, t3, t4, t5⟩ := hc
        exact Handed.intro (L.length - (V ++ [p]).length) (by rw [HGM.out]; have := HVL.out; simp; omega) (HJJ.out _ _ _ hl' ⟨t0, t1, t2, t3, t4, t5, V ++ [p], rfl, by rw [HFX.out, ← List.append_assoc, ← HE2.out, ← hE3]; exact h1, h2⟩)
      have NEXT := Lib.hid next
      clear next
      by_cases hk2 : p.1.kind = 2
      case neg =>
        have d1 : (p.1.kind != 2) = true := by simp [hk2]
        have HN := Lib.hid (factE_none1 (ts := ts) (dn := dn) (R := R) hk2)
        clear hk2
        go_wp2_with fail
        exact HKK2.out _ _ (NEXT.out _ _ _ rfl ⟨rfl, rfl, rfl, rfl, rfl, rfl⟩ (by rw [HN.out, List.append_nil]) HS5.out HR5.out)
      case pos =>
      have d1 : (p.1.kind != 2) = false := by simp [hk2]
      have HK2 := Lib.hid hk2
      clear hk2
      cases hh : hasM ts dn p.1 with
      | false =>
        have HH := Lib.hid hh
        have HN := Lib.hid (factE_none2 (ts := ts) (dn := dn) (R := R) hh)
        clear hh
        go_wp2_with (go_at_call 99; refine (has_call tsv dv ts dn w.heap.size p.1 _ (HV.out.later HS5.out.bel) HS5.out.dr htl).mono ?_; rw [HH.out]; rintro e1 w6 ⟨rfl, hb6⟩; have HS6 := Lib.hid (HS5.out.later hb6); have HR6 := Lib.hid (HR5.out.below hb6); clear hb6)
        exact HKK2.out _ _ (NEXT.out _ _ _ rfl ⟨rfl, rfl, rfl, rfl, rfl, rfl⟩ (by rw [HN.out, List.append_nil]) HS6.out HR6.out)
      | true =>
        have HH := Lib.hid hh
        have HN := Lib.hid (factE_yes (R := R) HK2.out hh)
        clear hh
        go_upto_region 42 with (go_at_call 99; refine (has_call tsv dv ts dn w.heap.size p.1 _ (HV.out.later HS5.out.bel) HS5.out.dr htl).mono ?_; rw [HH.out]; rintro e1 w6 ⟨rfl, hb6⟩; have HS6 := Lib.hid (HS5.out.later hb6); have HR6 := Lib.hid (HR5.out.below hb6); have HX6 := Lib.hid ((hb6.block kb (Array.getElem?_eq_some_iff.1 HX5.out).1).trans HX5.out); clear hb6)
        have m2 : w6.cell? ⟨kb, 2, none⟩ = some (vi p.1.a) := by rw [cell_of HX6.out]; rfl
        have m3 : w6.cell? ⟨kb, 3, none⟩ = some (vi p.1.b) := by rw [cell_of HX6.out]; rfl
        go_quiet (fail)
        have HS7 := Lib.hid (HS6.out.drewN nq)
        have HR7 := Lib.hid (HR6.out.below (below_drewN (Below.refl _ _) nq))
        have HX7 := Lib.hid (show (w6.drewN nq).heap[kb]? = some (.cells #[vi p.1.kind, vi p.1.key, vi p.1.a, vi p.1.b] 128) from HX6.out)
        clear m2 m3 k0 k1 k2 k3 HX6 HR6 HS6
        generalize w6.drewN nq = w7 at *
        have hln : E2.length + 1 ≤ 68719476736 := by have := HRM.out; omega
        unfold cloE at *
        obtain ⟨so, hso⟩ : ∃ so, so = p.2 := ⟨_, rfl⟩
        rw [← hso] at HN ⊢
        clear hso
        cases so with
        | true =>
          have HNT := Lib.hid (show factE ts dn R p = addE p.1.a p.1.b 1 ++ R.flatMap (wwR p.1.a p.1.b p.1.key) from HN.out)
          go_upto_block 14 with (go_at_call 97; refine (add_call p.1.a p.1.b 1 w.heap.size b0 E2 _ HS7.out.ed HS7.out.bel.size hln).mono ?_; rintro e2 w8 ⟨rfl, hi, ht⟩; have HI := Lib.hid (HS7.out.add hi ht); have HXi := Lib.hid (HS7.out.keep ht HX7.out (fun _ _ h => by cases h) (fun _ _ h => by cases h)); have HRi := Lib.hid (HR7.out.keep (fun j o hj hn => HS7.out.keep ht hj (fun _ _ => hn _ _ _) (fun _ _ => hn _ _ _))); clear hi ht)
          refine wp_onlyN ?_ (fun _ _ h => h)
          refine wp_fr 199 _ rfl ?_
          refine edL w b0 r kb ts L (V ++ [p]) mv dv tsv dn (E2 ++ addE p.1.a p.1.b 1) R ra rc p.1 p.1.a p.1.b _ _ _ HI.out HRi.out HXi.out ?_ rfl rfl rfl rfl rfl rfl rfl rfl rfl rfl rfl rfl ?_
          · have := HRM.out; have := addE_len p.1.a p.1.b 1; rw [List.length_append]; omega
          · intro g W' h0 h5 h6 h8 h9 h144 hSf hRf
            refine HKK2.out _ _ (NEXT.out ((List.range 199).map g) W' _ (by simp) ⟨(slots_fr 199 g 0 (by omega)).trans h0, (slots_fr 199 g 5 (by omega)).trans h5, (slots_fr 199 g 6 (by omega)).trans h6, (slots_fr 199 g 8 (by omega)).trans h8, (slots_fr 199 g 9 (by omega)).trans h9, (slots_fr 199 g 144 (by omega)).trans h144⟩ ?_ hSf hRf)
            rw [HNT.out, List.append_assoc]
        | false =>
          have HNT := Lib.hid (show factE ts dn R p = addE p.1.b p.1.a 1 ++ R.flatMap (wwR p.1.b p.1.a p.1.key) from HN.out)
          go_upto_block 14 with (go_at_call 97; refine (add_call p.1.b p.1.a 1 w.heap.size b0 E2 _ HS7.out.ed HS7.out.bel.size hln).mono ?_; rintro e2 w8 ⟨rfl, hi, ht⟩; have HI := Lib.hid (HS7.out.add hi ht); have HXi := Lib.hid (HS7.out.keep ht HX7.out (fun _ _ h => by cases h) (fun _ _ h => by cases h)); have HRi := Lib.hid (HR7.out.keep (fun j o hj hn => HS7.out.keep ht hj (fun _ _ => hn _ _ _) (fun _ _ => hn _ _ _))); clear hi ht)
          refine wp_onlyN ?_ (fun _ _ h => h)
          refine wp_fr 199 _ rfl ?_
          refine edL w b0 r kb ts L (V ++ [p]) mv dv tsv dn (E2 ++ addE p.1.b p.1.a 1) R ra rc p.1 p.1.b p.1.a _ _ _ HI.out HRi.out HXi.out ?_ rfl rfl rfl rfl rfl rfl rfl rfl rfl rfl rfl rfl ?_
          · have := HRM.out; have := addE_len p.1.b p.1.a 1; rw [List.length_append]; omega
          · intro g W' h0 h5 h6 h8 h9 h144 hSf hRf
            refine HKK2.out _ _ (NEXT.out ((List.range 199).map g) W' _ (by simp) ⟨(slots_fr 199 g 0 (by omega)).trans h0, (slots_fr 199 g 5 (by omega)).trans h5, (slots_fr 199 g 6 (by omega)).trans h6, (slots_fr 199 g 8 (by omega)).trans h8, (slots_fr 199 g 9 (by omega)).trans h9, (slots_fr 199 g 144 (by omega)).trans h144⟩ ?_ hSf hRf)
            rw [HNT.out, List.append_assoc]
end Go.Proofs.YtnacoplokjdglaaGreat
