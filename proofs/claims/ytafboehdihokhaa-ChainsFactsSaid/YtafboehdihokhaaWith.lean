/- Facts.With: a range over a map, in the order of the tape. -/
import Derived.Test.YtafboehdihokhaaSome
namespace Go.Proofs.Ytafboehdihokhaa
open Go.RowKit Go.Maps

theorem getM_of_mem {L : FaL} (hp : L.Pairwise (fun p q => p.1 ≠ q.1)) {p : GChoice × Bool} (h : p ∈ L) : getM L p.1 = some p.2 := by
  induction L with
  | nil => cases h
  | cons q L ih =>
    rw [List.pairwise_cons] at hp
    rw [getM_cons]
    rcases List.mem_cons.1 h with rfl | h
    · rw [if_pos rfl]
    · rw [if_neg (hp.1 p h)]; exact ih hp.2 h
theorem getM_same {L V : FaL} (hL : L.Pairwise (fun p q => p.1 ≠ q.1)) (hV : V.Pairwise (fun p q => p.1 ≠ q.1)) (h1 : ∀ p ∈ V, p ∈ L) (h2 : ∀ p ∈ L, p ∈ V) (k : GChoice) : getM V k = getM L k := by
  cases hg : getM L k with
  | none =>
    rw [getM_none] at hg ⊢
    exact fun p hp => hg p (h1 p hp)
  | some b => exact getM_of_mem hV (h2 _ (getM_some hg))
theorem nodup_of_keys {L : FaL} (hL : L.Pairwise (fun p q => p.1 ≠ q.1)) : L.Nodup := hL.imp fun h e => h (by rw [e])
theorem length_same {L V : FaL} (hL : L.Pairwise (fun p q => p.1 ≠ q.1)) (hV : V.Pairwise (fun p q => p.1 ≠ q.1)) (h1 : ∀ p ∈ V, p ∈ L) (h2 : ∀ p ∈ L, p ∈ V) : V.length = L.length :=
  (List.perm_ext_iff_of_nodup (nodup_of_keys hV) (nodup_of_keys hL) |>.2 fun p => ⟨h1 p, h2 p⟩).length_eq

theorem len_fact {w : World} {m : Nat} {L : FaL} (h : MapF w m L) (ty : TypeId) : (Builtin.len_ #[38] ty #[.map (some m)]).run Try.prog w = .ok (.int .i64 L.length) w := by
  obtain ⟨es, clock, hb, hs⟩ := h.size
  rw [← hs]
  simp [Builtin.len_, run_underlying Try.underlying38, MapKept.run_getObj_map hb, goInt, Result.andThen]

/-- What Facts.With makes, of facts that say nothing of the choice. -/
def WithQ (L : FaL) (c : GChoice) (so : Bool) (w : World) (e : Ending) (w' : World) : Prop := ∃ (H : FaL) (m : Nat), e = .returned (.map (some m)) ∧ w.heap.size ≤ m ∧ MapF w' m H ∧ (∀ k, getM H k = if c = k then some so else getM L k) ∧ H.length = L.length + 1 ∧ Below w.heap.size w w'

abbrev RangeF (w : World) (b r : Nat) (L V : FaL) : Prop := RangeT Try.prog 32 chK Value.bool w b r L V

set_option maxRecDepth 100000 in
set_option maxHeartbeats 4000000 in
theorem with_call (m : Nat) (L : FaL) (c : GChoice) (so : Bool) (w : World) (hm : MapF w m L) (hsm : SmallCh c) (hno : getM L c = none) :
    Calls Try.prog 18 #[.map (some m), chK c, .bool so] w (WithQ L c so w) := by
  have hml := hm.lt
  have HM := Lib.hid hm
  have HNO := Lib.hid hno
  obtain ⟨kl, hkl⟩ := choiceKey hsm
  have HB0 := Lib.hid ((Below.refl w.heap.size w).alloc (Nat.le_refl _) (.cells #[vi c.kind, vi c.key, vi c.a, vi c.b] 32))
  have HX0 := Lib.hid (alloc_at w (.cells #[vi c.kind, vi c.key, vi c.a, vi c.b] 32))
  have hw0 : (w.alloc (.cells #[vi c.kind, vi c.key, vi c.a, vi c.b] 32)).heap.size = w.heap.size + 1 := by simp
  have hmm := @run_makeMap Try.prog
  clear hm hno
  go_enter Try.func18, Try.ntmps18
  go_upto_region 1 with fail
  generalize w.alloc (.cells #[vi c.kind, vi c.key, vi c.a, vi c.b] 32) = w0 at *
  obtain ⟨w1, hrun1, hM1, hg1⟩ := (MapT.made (P := Try.prog) (k := 32) (eK := chK) (eV := Value.bool) w0).update choiceKeyed chK_inj (t := 38) (e := 4) Try.underlying38 c hkl so
  rw [hw0] at hrun1 hM1 hg1
  have hq : ∀ o' j, (w0.alloc o').cell? ⟨w.heap.size, j, none⟩ = (#[vi c.kind, vi c.key, vi c.a, vi c.b] : Array Value)[j]? := fun o' j => by rw [World.cell?_alloc_past _ _ _ (by show w.heap.size < w0.heap.size; omega), cell_of HX0.out]
  have q0 := fun o' => (hq o' 0).trans (by rfl : _ = some (vi c.kind))
  have q1 := fun o' => (hq o' 1).trans (by rfl : _ = some (vi c.key))
  have q2 := fun o' => (hq o' 2).trans (by rfl : _ = some (vi c.a))
  have q3 := fun o' => (hq o' 3).trans (by rfl : _ = some (vi c.b))
  clear hq
  go_upto_region 2 with fail
  have hw1 : w.heap.size + 2 ≤ w1.heap.size := by have := hg1.size; simp at this; omega
  have hBa : Below (w.heap.size + 1) w0 (w0.alloc (.map #[] 0)) := (Below.refl _ _).alloc (by omega) _
  have hB1 : Below (w.heap.size + 1) w0 w1 := hBa.grown hg1 (by simp; omega) (fun j hj => by cases hj; omega)
  have HB1 := Lib.hid (HB0.out.trans (hB1.mono (by omega)))
  have HX1 := Lib.hid ((hB1.block w.heap.size (by omega)).trans HX0.out)
  have HM1 := Lib.hid hM1
  have hmf := HM.out.below HB1.out hml
  obtain ⟨w2, hrun2, hR2, hg2, hsz2⟩ := hmf.range (t := 38) (e := 4) Try.underlying38
  have HB2 := Lib.hid (HB1.out.grown hg2 HB1.out.size (fun j hj => by cases hj))
  have HX2 := Lib.hid ((hg2.block w.heap.size (by omega) (by simp)).trans HX1.out)
  have HM2 := Lib.hid (HM1.out.kept hg2 (by simp))
  have HR2 := Lib.hid hR2
  have hh : putM ([] : FaL) c so = [(c, so)] := rfl
  rw [hh] at HM1 HM2
  clear hrun1 hBa hB1 hM1 hg1 hmf q0 q1 q2 q3
  go_wp2_with fail
  clear hrun2
  have HPW := Lib.hid HM.out.pairwise
  go_loopw [8, 9] (fun _ _ wr => ∃ V : FaL, RangeF wr m w1.heap.size L V ∧ MapF wr (w.heap.size + 1) ((c, so) :: V) ∧ wr.heap[w.heap.size]? = some (.cells #[vi c.kind, vi c.key, vi c.a, vi c.b] 32) ∧ Below w.heap.size w wr) (fun _ _ wr => wr.rangeLeft m w1.heap.size)
  case atStart => exact ⟨[], HR2.out, HM2.out, HX2.out, HB2.out⟩
  case round =>
    obtain ⟨wk, rfl⟩ : ∃ wk : World, wk = wr := ⟨_, rfl⟩
    obtain ⟨V, hR, hM, hX, hB⟩ := hrel
    have HR := Lib.hid hR
    have HMk := Lib.hid hM
    have HXk := Lib.hid hX
    have HBk := Lib.hid hB
    have hrl := hR.lt
    have hwk := hB.size
    clear hM hX hB
    rcases hR.next chK_inj 0 with ⟨hall, hrun⟩ | ⟨p, w3, hpL, hfresh, hrun, hR3, hlt3, hg3, hsz3, hent⟩
    · have HA := Lib.hid hall
      clear hR hall
      go_wp2_with fail
      go_ret
      obtain ⟨es, clock, since, seen, c0, _, _, _, _, _, _, _, _, _, hsub, hpw⟩ := HR.out
      refine ⟨(c, so) :: V, w.heap.size + 1, rfl, by omega, HMk.out, fun k => ?_, ?_, HBk.out⟩
      · rw [getM_cons, getM_same HPW.out hpw hsub HA.out]
      · rw [List.length_cons, length_same HPW.out hpw hsub HA.out]
    · have hpc := getM_none.1 HNO.out p hpL
      obtain ⟨kp, hkp⟩ := HM.out.keyed hpL
      have HKP := Lib.hid hkp
      have HX3 := Lib.hid ((hg3.block w.heap.size (by omega) (by simp; omega)).trans HXk.out)
      have HM3 := Lib.hid (HMk.out.kept hg3 (by simp; omega))
      have HB3 := Lib.hid (HBk.out.grown hg3 hwk (fun j hj => by cases hj; omega))
      have HFR := Lib.hid (show getM ((c, so) :: V) p.1 = none from getM_none.2 fun q hq => by
        rcases List.mem_cons.1 hq with rfl | hq
        · exact fun e => hpc e.symm
        · exact hfresh q hq)
      have HPC := Lib.hid hpc
      have HR3 := Lib.hid hR3
      have HL3 := Lib.hid hlt3
      have HX5 := Lib.hid ((Below.heap_alloc w3 (.cells #[vi p.1.kind, vi p.1.key, vi p.1.a, vi p.1.b] 32) w.heap.size (by omega)).trans HX3.out)
      have HP5 := Lib.hid (alloc_at w3 (.cells #[vi p.1.kind, vi p.1.key, vi p.1.a, vi p.1.b] 32))
      have HM5 := Lib.hid (HM3.out.frame (Below.heap_alloc w3 (.cells #[vi p.1.kind, vi p.1.key, vi p.1.a, vi p.1.b] 32) _ HM3.out.lt))
      have hf5m := Below.heap_alloc w3 (.cells #[vi p.1.kind, vi p.1.key, vi p.1.a, vi p.1.b] 32) m (by omega)
      have hf5r := Below.heap_alloc w3 (.cells #[vi p.1.kind, vi p.1.key, vi p.1.a, vi p.1.b] 32) w1.heap.size (by omega)
      have HR5 := Lib.hid (HR3.out.frame hf5m hf5r)
      have HE5 := Lib.hid (Go.Proofs.Ytafboehdihokhaa.rangeLeft_frame hf5m hf5r)
      have HB5 := Lib.hid (HB3.out.alloc (by omega) (.cells #[vi p.1.kind, vi p.1.key, vi p.1.a, vi p.1.b] 32))
      have hw5 : (w3.alloc (.cells #[vi p.1.kind, vi p.1.key, vi p.1.a, vi p.1.b] 32)).heap.size = w3.heap.size + 1 := by simp
      clear hR hpL hfresh hR3 hlt3 hg3 hpc hkp hf5m hf5r
      go_upto_region 5 with fail
      clear hrun hent
      generalize w3.alloc (.cells #[vi p.1.kind, vi p.1.key, vi p.1.a, vi p.1.b] 32) = w5 at *
      have p0 : w5.cell? ⟨wk.heap.size, 0, none⟩ = some (vi p.1.kind) := by rw [← hsz3, cell_of HP5.out]; rfl
      have p1 : w5.cell? ⟨wk.heap.size, 1, none⟩ = some (vi p.1.key) := by rw [← hsz3, cell_of HP5.out]; rfl
      have p2 : w5.cell? ⟨wk.heap.size, 2, none⟩ = some (vi p.1.a) := by rw [← hsz3, cell_of HP5.out]; rfl
      have p3 : w5.cell? ⟨wk.heap.size, 3, none⟩ = some (vi p.1.b) := by rw [← hsz3, cell_of HP5.out]; rfl
      have c0 : w5.cell? ⟨w.heap.size, 0, none⟩ = some (vi c.kind) := by rw [cell_of HX5.out]; rfl
      have c1 : w5.cell? ⟨w.heap.size, 1, none⟩ = some (vi c.key) := by rw [cell_of HX5.out]; rfl
      have c2 : w5.cell? ⟨w.heap.size, 2, none⟩ = some (vi c.a) := by rw [cell_of HX5.out]; rfl
      have c3 : w5.cell? ⟨w.heap.size, 3, none⟩ = some (vi c.b) := by rw [cell_of HX5.out]; rfl
      go_cut [23] from 16 to 26 (fun r wx => r = .bool true ∧ wx = w5)
      case first =>
        by_cases g0 : p.1.kind = c.kind
        case neg =>
          have f0 : (p.1.kind == c.kind) = false := by simp [g0]
          clear g0
          go_wp2_with fail
          go_meet
          exact ⟨rfl, rfl⟩
        have f0 : (p.1.kind == c.kind) = true := by simp [g0]
        have G0 := Lib.hid g0
        clear g0
        by_cases g1 : p.1.key = c.key
        case neg =>
          have f1 : (p.1.key == c.key) = false := by simp [g1]
          clear g1
          go_wp2_with fail
          go_meet
          exact ⟨rfl, rfl⟩
        have f1 : (p.1.key == c.key) = true := by simp [g1]
        have G1 := Lib.hid g1
        clear g1
        by_cases g2 : p.1.a = c.a
        case neg =>
          have f2 : (p.1.a == c.a) = false := by simp [g2]
          clear g2
          go_wp2_with fail
          go_meet
          exact ⟨rfl, rfl⟩
        have f2 : (p.1.a == c.a) = true := by simp [g2]
        have G2 := Lib.hid g2
        clear g2
        by_cases g3 : p.1.b = c.b
        case neg =>
          have f3 : (p.1.b == c.b) = false := by simp [g3]
          clear g3
          go_wp2_with fail
          go_meet
          exact ⟨rfl, rfl⟩
        have f3 : (p.1.b == c.b) = true := by simp [g3]
        have G3 := Lib.hid g3
        clear g3
        exact absurd (GChoice.ext' G0.out G1.out G2.out G3.out) HPC.out
      case rest =>
        obtain ⟨rfl, hwx⟩ := hcut
        replace hwx := hwx.symm
        subst hwx
        go_wp2_with (at_mapUpdate; refine wpList_mapUpdate_T (b := w.heap.size + 1) (eK := chK) (eV := Value.bool) rfl _ _ _ rfl choiceKeyed chK_inj Try.underlying38 HM5.out rfl p.1 HKP.out rfl p.2 rfl ?_; intro w6 hM6 hg6)
        rw [putM_new HFR.out] at hM6
        have HM6 := Lib.hid hM6
        have hb6 := hg6.block m (by omega) (by simp; omega)
        have hr6 := hg6.block w1.heap.size (by omega) (by simp; omega)
        go_roundw
        case rel => exact ⟨_, _, _, _, _, _, _, _, _, _, _, _, _, ⟨V ++ [p], HR5.out.frame hb6 hr6, HM6.out, (hg6.block w.heap.size (by omega) (by simp)).trans HX5.out, HB5.out.grown hg6 HB5.out.size (fun j hj => by cases hj; omega)⟩, rfl⟩
        case measure =>
          have := HL3.out
          have := HE5.out
          have := Go.Proofs.Ytafboehdihokhaa.rangeLeft_frame hb6 hr6
          omega
end Go.Proofs.Ytafboehdihokhaa
