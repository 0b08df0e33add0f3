/- Texts of one proof, one behind the other: With, ChAllP. -/
import Derived.Test.YtjpmimanigjjoaaJo6
import Derived.Test.YtjpmimanigjjoaaJo5
set_option linter.all false
/- Facts.With: a range over a map, in the order of the tape. -/
namespace Go.Proofs.Ytjpmimanigjjoaa
open Go.RowKit Go.Maps

theorem getM_of_mem {L : FaL} (hp : L.Pairwise (fun p q => p.1 ≠ q.1)) {p : GChoice × Bool} (h : p ∈ L) : getM L p.1 = some p.2 := by
  induction L with
  | nil => cases h
  | cons q L ih =>
    rw [List.pairwise_cons] at hp
    rw [getM_cons]
    rcases List.mem_cons.1 h with rfl | h
    · rw [if_pos rfl]
    · rw [if_neg (hp.1 p h)]; exact ih hp.2 h
theorem getM_same {L V : FaL} (_hL : L.Pairwise (fun p q => p.1 ≠ q.1)) (hV : V.Pairwise (fun p q => p.1 ≠ q.1)) (h1 : ∀ p ∈ V, p ∈ L) (h2 : ∀ p ∈ L, p ∈ V) (k : GChoice) : getM V k = getM L k := by
  cases hg : getM L k with
  | none =>
    rw [getM_none] at hg ⊢
    exact fun p hp => hg p (h1 p hp)
  | some b => exact getM_of_mem hV (h2 _ (getM_some hg))
theorem nodup_of_keys {L : FaL} (hL : L.Pairwise (fun p q => p.1 ≠ q.1)) : L.Nodup := hL.imp fun h e => h (by rw [e])
theorem length_same {L V : FaL} (hL : L.Pairwise (fun p q => p.1 ≠ q.1)) (hV : V.Pairwise (fun p q => p.1 ≠ q.1)) (h1 : ∀ p ∈ V, p ∈ L) (h2 : ∀ p ∈ L, p ∈ V) : V.length = L.length :=
  (List.perm_ext_iff_of_nodup (nodup_of_keys hV) (nodup_of_keys hL) |>.2 fun p => ⟨h1 p, h2 p⟩).length_eq

theorem len_fact {w : World} {m : Nat} {L : FaL} (h : MapF w m L) (ty : TypeId) : (Builtin.len_ #[29] ty #[.map (some m)]).run Try.prog w = .ok (.int .i64 L.length) w := by
  obtain ⟨es, clock, hb, hs⟩ := h.size
  rw [← hs]
  simp [Builtin.len_, run_underlying Try.underlying29, MapKept.run_getObj_map hb, goInt, Result.andThen]

/-- What Facts.With makes, of facts that say nothing of the choice. -/
def WithQ (L : FaL) (c : GChoice) (so : Bool) (w : World) (e : Ending) (w' : World) : Prop := ∃ (H : FaL) (m : Nat), e = .returned (.map (some m)) ∧ w.heap.size ≤ m ∧ MapF w' m H ∧ (∀ k, getM H k = if c = k then some so else getM L k) ∧ H.length = L.length + 1 ∧ Below w.heap.size w w'

abbrev RangeF (w : World) (b r : Nat) (L V : FaL) : Prop := RangeT Try.prog 43 chK Value.bool w b r L V

set_option maxRecDepth 100000 in
set_option maxHeartbeats 4000000 in
theorem with_call (m : Nat) (L : FaL) (c : GChoice) (so : Bool) (w : World) (hm : MapF w m L) (hsm : SmallCh c) (hno : getM L c = none) :
    Calls Try.prog 17 #[.map (some m), chK c, .bool so] w (WithQ L c so w) := by
  have hml := hm.lt
  have HM := Lib.hid hm
  have HNO := Lib.hid hno
  obtain ⟨kl, hkl⟩ := choiceKey hsm
  have HB0 := Lib.hid ((Below.refl w.heap.size w).alloc (Nat.le_refl _) (.cells #[vi c.kind, vi c.key, vi c.a, vi c.b] 43))
  have HX0 := Lib.hid (alloc_at w (.cells #[vi c.kind, vi c.key, vi c.a, vi c.b] 43))
  have hw0 : (w.alloc (.cells #[vi c.kind, vi c.key, vi c.a, vi c.b] 43)).heap.size = w.heap.size + 1 := by simp
  have hmm := @run_makeMap Try.prog
  clear hm hno
  go_enter Try.func17, Try.ntmps17
  go_upto_region 1 with fail
  generalize w.alloc (.cells #[vi c.kind, vi c.key, vi c.a, vi c.b] 43) = w0 at *
  obtain ⟨w1, hrun1, hM1, hg1⟩ := (MapT.made (P := Try.prog) (k := 43) (eK := chK) (eV := Value.bool) w0).update choiceKeyed chK_inj (t := 29) (e := 4) Try.underlying29 c hkl so
  rw [hw0] at hrun1 hM1 hg1
  have hq : ∀ o' j, (w0.alloc o').cell? ⟨w.heap.size, j, none⟩ = (#[vi c.kind, vi c.key, vi c.a, vi c.b] : Array Value)[j]? := fun o' j => by rw [World.cell?_alloc_past _ _ _ (by show w.heap.size < w0.heap.size; omega), cell_of HX0.out]
  have q0 := fun o' => (hq o' 0).trans (by rfl : _ = some (vi c.kind))
  have q1 := fun o' => (hq o' 1).trans (by rfl : _ = some (vi c.key))
  have q2 := fun o' => (hq o' 2).trans (by rfl : _ = some (vi c.a))
  have q3 := fun o' => (hq o' 3).trans (by rfl : _ = some (vi c.b))
  clear hq
  go_upto_region 2 with fail
  have hw1 : w.heap.size + 2 ≤ w1.heap.size := by have := hg1.size; simp at this; omega
  have hBa : Below (w.heap.size + 1) w0 (w0.alloc (.map #[] 0)) := (Below.refl _ _).alloc (by omega) _
  have hB1 : Below (w.heap.size + 1) w0 w1 := hBa.grown hg1 (by simp; omega) (fun j hj => by cases hj; omega)
  have HB1 := Lib.hid (HB0.out.trans (hB1.mono (by omega)))
  have HX1 := Lib.hid ((hB1.block w.heap.size (by omega)).trans HX0.out)
  have HM1 := Lib.hid hM1
  have hmf := HM.out.below HB1.out hml
  obtain ⟨w2, hrun2, hR2, hg2, hsz2⟩ := hmf.range (t := 29) (e := 4) Try.underlying29
  have HB2 := Lib.hid (HB1.out.grown hg2 HB1.out.size (fun j hj => by cases hj))
  have HX2 := Lib.hid ((hg2.block w.heap.size (by omega) (by simp)).trans HX1.out)
  have HM2 := Lib.hid (HM1.out.kept hg2 (by simp))
  have HR2 := Lib.hid hR2
  have hh : putM ([] : FaL) c so = [(c, so)] := rfl
  rw [hh] at HM1 HM2
  clear hrun1 hBa hB1 hM1 hg1 hmf q0 q1 q2 q3
  go_wp2_with fail
  clear hrun2
  have HPW := Lib.hid HM.out.pairwise
  go_loopw [8, 9] (fun _ _ wr => ∃ V : FaL, RangeF wr m w1.heap.size L V ∧ MapF wr (w.heap.size + 1) ((c, so) :: V) ∧ wr.heap[w.heap.size]? = some (.cells #[vi c.kind, vi c.key, vi c.a, vi c.b] 43) ∧ Below w.heap.size w wr) (fun _ _ wr => wr.rangeLeft m w1.heap.size)
  case atStart => exact ⟨[], HR2.out, HM2.out, HX2.out, HB2.out⟩
  case round =>
    obtain ⟨wk, rfl⟩ : ∃ wk : World, wk = wr := ⟨_, rfl⟩
    obtain ⟨V, hR, hM, hX, hB⟩ := hrel
    have HR := Lib.hid hR
    have HMk := Lib.hid hM
    have HXk := Lib.hid hX
    have HBk := Lib.hid hB
    have hrl := hR.lt
    have hwk := hB.size
    clear hM hX hB
    rcases hR.next chK_inj 0 with ⟨hall, hrun⟩ | ⟨p, w3, hpL, hfresh, hrun, hR3, hlt3, hg3, hsz3, hent⟩
    · have HA := Lib.hid hall
      clear hR hall
      go_wp2_with fail
      go_ret
      obtain ⟨es, clock, since, seen, c0, _, _, _, _, _, _, _, _, _, hsub, hpw⟩ := HR.out
      refine ⟨(c, so) :: V, w.heap.size + 1, rfl, by omega, HMk.out, fun k => ?_, ?_, HBk.out⟩
      · rw [getM_cons, getM_same HPW.out hpw hsub HA.out]
      · rw [List.length_cons, length_same HPW.out hpw hsub HA.out]
    · have hpc := getM_none.1 HNO.out p hpL
      obtain ⟨kp, hkp⟩ := HM.out.keyed hpL
      have HKP := Lib.hid hkp
      have HX3 := Lib.hid ((hg3.block w.heap.size (by omega) (by simp; omega)).trans HXk.out)
      have HM3 := Lib.hid (HMk.out.kept hg3 (by simp; omega))
      have HB3 := Lib.hid (HBk.out.grown hg3 hwk (fun j hj => by cases hj; omega))
      have HFR := Lib.hid (show getM ((c, so) :: V) p.1 = none from getM_none.2 fun q hq => by
        rcases List.mem_cons.1 hq with rfl | hq
        · exact fun e => hpc e.symm
        · exact hfresh q hq)
      have HPC := Lib.hid hpc
      have HR3 := Lib.hid hR3
      have HL3 := Lib.hid hlt3
      have HX5 := Lib.hid ((Below.heap_alloc w3 (.cells #[vi p.1.kind, vi p.1.key, vi p.1.a, vi p.1.b] 43) w.heap.size (by omega)).trans HX3.out)
      have HP5 := Lib.hid (alloc_at w3 (.cells #[vi p.1.kind, vi p.1.key, vi p.1.a, vi p.1.b] 43))
      have HM5 := Lib.hid (HM3.out.frame (Below.heap_alloc w3 (.cells #[vi p.1.kind, vi p.1.key, vi p.1.a, vi p.1.b] 43) _ HM3.out.lt))
      have hf5m := Below.heap_alloc w3 (.cells #[vi p.1.kind, vi p.1.key, vi p.1.a, vi p.1.b] 43) m (by omega)
      have hf5r := Below.heap_alloc w3 (.cells #[vi p.1.kind, vi p.1.key, vi p.1.a, vi p.1.b] 43) w1.heap.size (by omega)
      have HR5 := Lib.hid (HR3.out.frame hf5m hf5r)
      have HE5 := Lib.hid (Go.Proofs.Ytjpmimanigjjoaa.rangeLeft_frame hf5m hf5r)
      have HB5 := Lib.hid (HB3.out.alloc (by omega) (.cells #[vi p.1.kind, vi p.1.key, vi p.1.a, vi p.1.b] 43))
      have hw5 : (w3.alloc (.cells #[vi p.1.kind, vi p.1.key, vi p.1.a, vi p.1.b] 43)).heap.size = w3.heap.size + 1 := by simp
      clear hR hpL hfresh hR3 hlt3 hg3 hpc hkp hf5m hf5r
      go_upto_region 5 with fail
      clear hrun hent
      generalize w3.alloc (.cells #[vi p.1.kind, vi p.1.key, vi p.1.a, vi p.1.b] 43) = w5 at *
      have p0 : w5.cell? ⟨wk.heap.size, 0, none⟩ = some (vi p.1.kind) := by rw [← hsz3, cell_of HP5.out]; rfl
      have p1 : w5.cell? ⟨wk.heap.size, 1, none⟩ = some (vi p.1.key) := by rw [← hsz3, cell_of HP5.out]; rfl
      have p2 : w5.cell? ⟨wk.heap.size, 2, none⟩ = some (vi p.1.a) := by rw [← hsz3, cell_of HP5.out]; rfl
      have p3 : w5.cell? ⟨wk.heap.size, 3, none⟩ = some (vi p.1.b) := by rw [← hsz3, cell_of HP5.out]; rfl
      have c0 : w5.cell? ⟨w.heap.size, 0, none⟩ = some (vi c.kind) := by rw [cell_of HX5.out]; rfl
      have c1 : w5.cell? ⟨w.heap.size, 1, none⟩ = some (vi c.key) := by rw [cell_of HX5.out]; rfl
      have c2 : w5.cell? ⟨w.heap.size, 2, none⟩ = some (vi c.a) := by rw [cell_of HX5.out]; rfl
      have c3 : w5.cell? ⟨w.heap.size, 3, none⟩ = some (vi c.b) := by rw [cell_of HX5.out]; rfl
      go_cut [23] from 16 to 26 (fun r wx => r = .bool true ∧ wx = w5)
      case first =>
        by_cases g0 : p.1.kind = c.kind
        case neg =>
          have f0 : (p.1.kind == c.kind) = false := by simp [g0]
          clear g0
          go_wp2_with fail
          go_meet
          exact ⟨rfl, rfl⟩
        have f0 : (p.1.kind == c.kind) = true := by simp [g0]
        have G0 := Lib.hid g0
        clear g0
        by_cases g1 : p.1.key = c.key
        case neg =>
          have f1 : (p.1.key == c.key) = false := by simp [g1]
          clear g1
          go_wp2_with fail
          go_meet
          exact ⟨rfl, rfl⟩
        have f1 : (p.1.key == c.key) = true := by simp [g1]
        have G1 := Lib.hid g1
        clear g1
        by_cases g2 : p.1.a = c.a
        case neg =>
          have f2 : (p.1.a == c.a) = false := by simp [g2]
          clear g2
          go_wp2_with fail
          go_meet
          exact ⟨rfl, rfl⟩
        have f2 : (p.1.a == c.a) = true := by simp [g2]
        have G2 := Lib.hid g2
        clear g2
        by_cases g3 : p.1.b = c.b
        case neg =>
          have f3 : (p.1.b == c.b) = false := by simp [g3]
          clear g3
          go_wp2_with fail
          go_meet
          exact ⟨rfl, rfl⟩
        have f3 : (p.1.b == c.b) = true := by simp [g3]
        have G3 := Lib.hid g3
        clear g3
        exact absurd (GChoice.ext' G0.out G1.out G2.out G3.out) HPC.out
      case rest =>
        obtain ⟨rfl, hwx⟩ := hcut
        replace hwx := hwx.symm
        subst hwx
        go_wp2_with (at_mapUpdate; refine wpList_mapUpdate_T (b := w.heap.size + 1) (eK := chK) (eV := Value.bool) rfl _ _ _ rfl choiceKeyed chK_inj Try.underlying29 HM5.out rfl p.1 HKP.out rfl p.2 rfl ?_; intro w6 hM6 hg6)
        rw [putM_new HFR.out] at hM6
        have HM6 := Lib.hid hM6
        have hb6 := hg6.block m (by omega) (by simp; omega)
        have hr6 := hg6.block w1.heap.size (by omega) (by simp; omega)
        go_roundw
        case rel => exact ⟨_, _, _, _, _, _, _, _, _, _, _, _, _, ⟨V ++ [p], HR5.out.frame hb6 hr6, HM6.out, (hg6.block w.heap.size (by omega) (by simp)).trans HX5.out, HB5.out.grown hg6 HB5.out.size (fun j hj => by cases hj; omega)⟩, rfl⟩
        case measure =>
          have := HL3.out
          have := HE5.out
          have := Go.Proofs.Ytjpmimanigjjoaa.rangeLeft_frame hb6 hr6
          omega
end Go.Proofs.Ytjpmimanigjjoaa

/- How many choices are said; with none left all is known. Plain. -/
namespace Go.Proofs.Ytjpmimanigjjoaa
open Go.RowKit Go.Maps

theorem countP_one {α : Type} [DecidableEq α] {p q : α → Bool} {c : α} (hq : ∀ d, q d = (decide (c = d) || p d)) (hp : p c = false) : ∀ {C : List α}, C.Nodup → (c ∈ C → C.countP q = C.countP p + 1) ∧ (c ∉ C → C.countP q = C.countP p)
  | [], _ => ⟨fun h => by simp at h, fun _ => rfl⟩
  | d :: C, hn => by
    rw [List.nodup_cons] at hn
    have ih := countP_one hq hp hn.2
    refine ⟨fun h => ?_, fun h => ?_⟩
    · by_cases hd : c = d
      · subst hd
        rw [List.countP_cons, List.countP_cons, (ih).2 hn.1, hq c, hp]
        simp
      · have hc : c ∈ C := by
          rcases List.mem_cons.1 h with h | h
          · exact absurd h hd
          · exact h
        rw [List.countP_cons, List.countP_cons, ih.1 hc, hq d]
        simp [hd]; omega
    · have h1 : c ≠ d := fun e => h (by rw [e]; exact List.mem_cons_self)
      have h2 : c ∉ C := fun e => h (List.mem_cons_of_mem _ e)
      rw [List.countP_cons, List.countP_cons, ih.2 h2, hq d]
      simp [h1]
theorem countP_lt {α : Type} {p : α → Bool} {c : α} {C : List α} (hc : c ∈ C) (hp : p c = false) : C.countP p < C.length := by
  rcases Nat.lt_or_ge (C.countP p) C.length with h | h
  · exact h
  · have := List.countP_eq_length.1 (Nat.le_antisymm List.countP_le_length h) c hc
    rw [hp] at this; cases this

/-- How many of a history's choices are said. -/
def saidN (ts : List GTxn) (L : FaL) : Nat := (choicesM ts).countP (fun c => (getM L c).isSome)
theorem nextM_some {ts : List GTxn} {L : FaL} {c : GChoice} (h : nextM ts L = some c) : c ∈ choicesM ts ∧ getM L c = none := by
  unfold nextM at h
  refine ⟨List.mem_of_find?_eq_some h, ?_⟩
  have h1 := List.find?_some h
  unfold openC at h1
  cases hg : getM L c with
  | none => rfl
  | some b => rw [hg] at h1; simp at h1
theorem said_next {ts : List GTxn} {L H : FaL} {c : GChoice} {so : Bool} (h : nextM ts L = some c) (hH : ∀ d, getM H d = if c = d then some so else getM L d) : saidN ts H = saidN ts L + 1 ∧ saidN ts L < (choicesM ts).length := by
  obtain ⟨h1, h2⟩ := nextM_some h
  refine ⟨(countP_one (c := c) (fun d => ?_) (by rw [h2]; rfl) (choicesM_nodup ts)).1 h1, countP_lt h1 (by rw [h2]; rfl)⟩
  rw [hH d]
  by_cases hd : c = d <;> simp [hd]
theorem said_nil (ts : List GTxn) : saidN ts [] = 0 := by
  unfold saidN
  rw [List.countP_eq_zero]
  intro c _
  simp [getM_nil]
theorem done_sure {ts : List GTxn} (hu : Uniq ts) {i : Nat} {t : GTxn} (ht : ts[i]? = some t) (hs : t.state = 1) : (sureM ts)[i]?.getD false = true := by
  have hi := (List.getElem?_eq_some_iff.1 ht).1
  rw [sure_eq hu]
  unfold refSureN
  rw [List.getElem?_map, List.getElem?_range hi]
  show refSure1 ts i = true
  unfold refSure1 stOf
  rw [ht]
  simp [hs]
theorem open_choice {ts : List GTxn} (hg : GoodTs ts) {L : FaL} {k : Nat} (hk : k < ts.length) (h : (isM ts L k).2 = false) : (⟨1, 0, k, 0⟩ : GChoice) ∈ choicesM ts ∧ getM L ⟨1, 0, k, 0⟩ = none := by
  obtain ⟨t, ht⟩ := some_at hk
  have hst := (hg.txn t (List.mem_of_getElem? ht)).1
  unfold isM at h
  cases hsu : (sureM ts)[k]?.getD false with
  | true => rw [hsu] at h; simp at h
  | false =>
    rw [hsu] at h
    cases hd : deadB ts k with
    | true => rw [hd] at h; simp at h
    | false =>
      rw [hd] at h
      have hgm : getM L ⟨1, 0, k, 0⟩ = none := by
        cases hq : getM L ⟨1, 0, k, 0⟩ with
        | none => rfl
        | some b => rw [hq] at h; simp at h
      refine ⟨?_, hgm⟩
      unfold choicesM
      rw [List.mem_append]
      left
      unfold cmS
      rw [List.mem_filterMap]
      refine ⟨k, List.mem_range.2 hk, ?_⟩
      rw [ht, Option.bind_some]
      have hns : t.state ≠ 1 := fun e => by rw [done_sure hg.uniq ht e] at hsu; cases hsu
      rw [deadB_at ht] at hd
      simp only [Bool.or_eq_false_iff, beq_eq_false_iff_ne] at hd
      have h0 : t.state = 0 := by omega
      have hw : 0 < (writesM t.ops).length := by have := hd.2; omega
      have : openB (sureM ts) k t = true := by unfold openB; rw [hsu, h0]; simp [hw]
      rw [if_pos this]
theorem none_known {ts : List GTxn} (hg : GoodTs ts) {L : FaL} (h : nextM ts L = none) {k : Nat} (hk : k < ts.length) : (isM ts L k).2 = true := by
  cases hq : (isM ts L k).2 with
  | true => rfl
  | false =>
    obtain ⟨h1, h2⟩ := open_choice hg hk hq
    unfold nextM at h
    rw [List.find?_eq_none] at h
    exact absurd (by unfold openC; rw [h2]; rfl) (h _ h1)
end Go.Proofs.Ytjpmimanigjjoaa
