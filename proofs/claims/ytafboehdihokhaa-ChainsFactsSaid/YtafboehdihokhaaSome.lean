/- cruciblelaw09.some: facts about a history, as a map and as a list that say the same. -/
import Derived.Test.YtafboehdihokhaaRefN
namespace Go.Proofs.Ytafboehdihokhaa
open Go.RowKit Go.Maps

abbrev RdInts (w : World) (v : Value) (xs : List Int) : Prop := RdS 1 EInt w v xs
theorem RdInts.at {w : World} {v : Value} {xs : List Int} (h : RdInts w v xs) : ∃ a len cap, v = .slice a len cap ∧ len = xs.length ∧ xs.length ≤ 9223372036854775807 ∧ ∀ j x, xs[j]? = some x → ∃ b off, a = some ⟨b, off, none⟩ ∧ w.cell? ⟨b, off + j, none⟩ = some (.int .i64 x) ∧ i64 x := by
  obtain ⟨a, len, cap, h1, h2, h3, h4, h5, h6⟩ := h
  refine ⟨a, len, cap, h1, h2, h3, fun j x hj => ?_⟩
  obtain ⟨b, off, cs, ha, hl, hc, rfl, hx⟩ := h6 j x hj
  exact ⟨b, off, ha, by have := hc 0 _ rfl; simpa using this, hx⟩
theorem RdInts.later {w w' : World} {v : Value} {xs : List Int} (h : RdInts w v xs) (hb : Below w.heap.size w w') : RdInts w' v xs := RdS.below h hb fun _ _ h => h
theorem map_apart {w : World} {b n m g : Nat} {e : TypeId} {v : Value} {xs : List Value} {L : FaL} (h : w.ownsRow b e n v m xs) (hM : MapF w g L) : some g ≠ v.ownBlock := by
  obtain ⟨es, clock, hb, _⟩ := hM
  rcases h.2 with ⟨hv, _⟩ | ⟨g', cap, cur, hv, _, hh, _⟩
  · rw [hv]; simp [Value.ownBlock]
  · rw [hv]
    intro e1
    have : g = g' := by simpa [Value.ownBlock] using e1
    subst this
    rw [hb] at hh
    simp at hh
theorem putM_new {L : FaL} {c : GChoice} {b : Bool} (h : getM L c = none) : putM L c b = L ++ [(c, b)] := by unfold putM; rw [h]; rfl

/-- What is kept of the facts made of the first k choices. -/
structure SomeS (w : World) (C : List GChoice) (m : Nat) (k : Nat) (v : Value) (L : FaL) (W : World) : Prop where
  map : MapF W m L
  row : OwSaid w.heap.size W v L
  below : Below w.heap.size w W
  len : L.length ≤ k
  keys : (L.map (·.1)).Nodup
  mem : ∀ p ∈ L, ∃ j, j < k ∧ C[j]? = some p.1
theorem SomeS.later {w A B : World} {C : List GChoice} {m k : Nat} {v : Value} {L : FaL} (h : SomeS w C m k v L A) (hb : Below A.heap.size A B) : SomeS w C m k v L B :=
  ⟨h.map.below hb h.map.lt, own_below h.row hb, h.below.trans (hb.mono h.below.size), h.len, h.keys, h.mem⟩
theorem SomeS.skip {w A : World} {C : List GChoice} {m k : Nat} {v : Value} {L : FaL} (h : SomeS w C m k v L A) : SomeS w C m (k + 1) v L A :=
  ⟨h.map, h.row, h.below, by have := h.len; omega, h.keys, fun p hp => by obtain ⟨j, h1, h2⟩ := h.mem p hp; exact ⟨j, by omega, h2⟩⟩
theorem SomeS.none {w A : World} {C : List GChoice} {m k : Nat} {v : Value} {L : FaL} {c : GChoice} (h : SomeS w C m k v L A) (hC : C.Nodup) (hc : C[k]? = some c) : getM L c = none := by
  rw [getM_none]
  intro p hp hpc
  obtain ⟨j, h1, h2⟩ := h.mem p hp
  rw [hpc] at h2
  obtain ⟨a1, a2⟩ := List.getElem?_eq_some_iff.1 hc
  obtain ⟨b1, b2⟩ := List.getElem?_eq_some_iff.1 h2
  have := List.getElem_inj (h₀ := b1) (h₁ := a1) (h := hC) |>.1 (by rw [b2, a2])
  omega
theorem SomeS.push {w A B D : World} {C : List GChoice} {m k : Nat} {v v' : Value} {L : FaL} {c : GChoice} {b : Bool} (h : SomeS w C m k v L A) (hC : C.Nodup) (hc : C[k]? = some c) (hm : w.heap.size ≤ m)
    (hg : A.grownBy B (some m)) (hM : MapF B m (putM L c b)) (o : Obj) (hg2 : (B.alloc o).grownBy D v.ownBlock) (hr : D.ownsRow w.heap.size 76 5 v' (L.length + 1) (L.flatMap saidV ++ saidV (c, b))) : SomeS w C m (k + 1) v' (L ++ [(c, b)]) D := by
  have hn := h.none hC hc
  rw [putM_new hn] at hM
  have hrow : OwSaid w.heap.size B v L := World.ownsRow.kept h.row hg (.inr (fun e => map_apart h.row h.map e.symm))
  have hM2 : MapF (B.alloc o) m (L ++ [(c, b)]) := hM.frame (Below.heap_alloc _ _ _ hM.lt)
  refine ⟨hM2.kept hg2 (map_apart (hrow.alloc o) hM2), by simpa [OwSaid] using hr, ?_, by have := h.len; simp; omega, ?_, ?_⟩
  · exact ((h.below.grown hg h.below.size (fun j hj => by cases hj; exact hm)).alloc (Nat.le_trans h.below.size hg.size) o).grown hg2 (by have := h.below.size; have := hg.size; simp; omega) (fun j hj => (World.ownsRow.lt hrow j hj).1)
  · rw [List.map_append, List.nodup_append]
    refine ⟨h.keys, by simp, fun x hx y hy => ?_⟩
    simp at hy; subst hy
    rw [List.mem_map] at hx
    obtain ⟨p, hp, rfl⟩ := hx
    exact getM_none.1 hn p hp
  · intro p hp
    rw [List.mem_append] at hp
    rcases hp with hp | hp
    · obtain ⟨j, h1, h2⟩ := h.mem p hp; exact ⟨j, by omega, h2⟩
    · simp at hp; subst hp; exact ⟨k, by omega, hc⟩

def SomeQ (C : List GChoice) (w : World) (e : Ending) (w' : World) : Prop := ∃ (L : FaL) (m : Nat) (v : Value), e = .returned (.tuple #[.map (some m), v]) ∧ w.heap.size ≤ m ∧ MapF w' m L ∧ RdSaid w' v L ∧ (L.map (·.1)).Nodup ∧ L.length ≤ C.length ∧ Below w.heap.size w w'

set_option maxRecDepth 100000 in
set_option maxHeartbeats 4000000 in
theorem some_call (v u : Value) (ts : List GTxn) (picks : List Int) (w : World) (hv : RdTxns w v ts) (hok : OkTxns ts) (htl : ts.length ≤ 4096) (hun : Uniq ts) (hu : RdInts w u picks) :
    Calls Try.prog 13 #[v, u] w (SomeQ (choicesM ts) w) := by
  have HV := Lib.hid hv
  have HOK := Lib.hid hok
  have HU := Lib.hid hu
  have HE := Lib.hid (choices_eq hun).symm
  obtain ⟨ua, ul, uc, rfl, rfl, hum, -⟩ := hu.at
  have hmm := @run_makeMap Try.prog
  have hM0 : MapF (w.alloc (.map #[] 0)) w.heap.size [] := MapT.made w
  have HO0 := Lib.hid (World.ownsRow_lit (base := w.heap.size) (e := 76) (size := 5) (w.alloc (.map #[] 0)) #[] 0 (by simp) (by simp [maxLen]) rfl)
  have HB0 := Lib.hid (((Below.refl w.heap.size w).alloc (Nat.le_refl _) (.map #[] 0)).alloc (by simp) (.cells #[] 76))
  have HM0 := Lib.hid (hM0.frame (Below.heap_alloc (w.alloc (.map #[] 0)) (.cells #[] 76) _ (by simp)))
  clear hv hok hun hu hM0
  go_enter Try.func13, Try.ntmps13
  go_upto_region 3 with fail
  have HST := Lib.hid (show SomeS w [] w.heap.size 0 (.slice (some ⟨w.heap.size + 1, 0, none⟩) 0 0) [] ((w.alloc (.map #[] 0)).alloc (.cells #[] 76)) from ⟨HM0.out, by simpa [OwSaid] using HO0.out, HB0.out, by simp, by simp, by simp⟩)
  clear hmm
  generalize (w.alloc (.map #[] 0)).alloc (.cells #[] 76) = w0 at *
  go_wp2_with (go_at_call 11; refine (refChoices_call _ ts _ (HV.out.later HB0.out) HOK.out htl).mono ?_; rw [HE.out]; rintro e w2 ⟨v2, rfl, ho2, hb2⟩; have HC2 := Lib.hid ho2.rd; have HO2 := Lib.hid ho2; have HB2 := Lib.hid hb2; have HS2 := Lib.hid (HST.out.later hb2); obtain ⟨a2, len2, cap2, rfl, rfl, hm2, -⟩ := HC2.out.at; clear hb2 ho2)
  have HND := Lib.hid (choicesM_nodup ts)
  have HCO := Lib.hid (fun c (h : c ∈ choicesM ts) => choicesM_ok h)
  have hCl := choicesM_le ts htl
  generalize choicesM ts = C at *
  go_loopw [7, 8, 9, 10, 16] (fun gv _ _ _ n wr => ∃ (k : Nat) (L : FaL), k ≤ C.length ∧ n = .int .i64 k ∧ SomeS w C w.heap.size k gv L wr ∧ OwCh 33 w0.heap.size wr (.slice a2 C.length cap2) C) (fun _ _ _ _ n _ => C.length - (intOf n).toNat)
  case atStart => exact ⟨0, [], Nat.zero_le _, rfl, ⟨HS2.out.map, HS2.out.row, HS2.out.below, by simp, by simp, by simp⟩, HO2.out⟩
  case round =>
    obtain ⟨wk, rfl⟩ : ∃ wk : World, wk = wr := ⟨_, rfl⟩
    obtain ⟨k, L, hk, rfl, hst, hoc⟩ := hrel
    have HSk := Lib.hid hst
    have HOk := Lib.hid hoc
    have HBk := Lib.hid hst.below
    have hwk := hst.below.size
    have hLk := hst.len
    have hml := hst.map.lt
    obtain ⟨_, _, _, e5, -, -, hcl⟩ := hoc.rd.at
    cases e5
    clear hst hoc
    by_cases hlt : k < C.length
    · obtain ⟨c, hc⟩ := some_at hlt
      obtain ⟨b, off, rfl, k0, k1, k2, k3⟩ := hcl k c hc
      have HSM := Lib.hid ((HCO.out c (List.mem_of_getElem? hc)).small htl)
      have hkI : (k : Int) < (C.length : Int) := by omega
      have hk0 : (0 : Int) ≤ (k : Int) := by omega
      have HP := Lib.hid hc
      have HSo := Lib.hid (HSk.out.later ((Below.refl wk.heap.size wk).alloc (Nat.le_refl _) (.cells #[vi c.kind, vi c.key, vi c.a, vi c.b] 33)))
      have HOo := Lib.hid (HOk.out.alloc (.cells #[vi c.kind, vi c.key, vi c.a, vi c.b] 33))
      have HXo := Lib.hid (alloc_at wk (.cells #[vi c.kind, vi c.key, vi c.a, vi c.b] 33))
      have hwo : (wk.alloc (.cells #[vi c.kind, vi c.key, vi c.a, vi c.b] 33)).heap.size = wk.heap.size + 1 := by simp
      have HUo := Lib.hid ((HU.out.later HBk.out).later ((Below.refl wk.heap.size wk).alloc (Nat.le_refl _) (.cells #[vi c.kind, vi c.key, vi c.a, vi c.b] 33)))
      clear hcl hc
      go_upto_region 7 with fail
      clear k0 k1 k2 k3
      generalize wk.alloc (.cells #[vi c.kind, vi c.key, vi c.a, vi c.b] 33) = wo at *
      go_upto_if 24 with fail
      go_cut [10] (fun pv wx => (∃ p : Int, pv = .int .i64 p) ∧ wx = wo)
      case first =>
        by_cases hpl : (k : Int) < (picks.length : Int)
        · obtain ⟨x, hx⟩ := some_at (l := picks) (k := k) (by omega)
          obtain ⟨_, _, _, e5, -, -, hul⟩ := HUo.out.at
          cases e5
          obtain ⟨ub, uo, rfl, x0, -⟩ := hul k x hx
          clear hul hx
          go_wp2_with fail
          go_meet
          exact ⟨⟨_, rfl⟩, rfl⟩
        · go_wp2_with fail
          go_meet
          exact ⟨⟨_, rfl⟩, rfl⟩
      case rest =>
        obtain ⟨⟨p, rfl⟩, hwx⟩ := hcut
        replace hwx := hwx.symm
        subst hwx
        have q0 : wo.cell? ⟨wk.heap.size, 0, none⟩ = some (vi c.kind) := by rw [cell_of HXo.out]; rfl
        have q1 : wo.cell? ⟨wk.heap.size, 1, none⟩ = some (vi c.key) := by rw [cell_of HXo.out]; rfl
        have q2 : wo.cell? ⟨wk.heap.size, 2, none⟩ = some (vi c.a) := by rw [cell_of HXo.out]; rfl
        have q3 : wo.cell? ⟨wk.heap.size, 3, none⟩ = some (vi c.b) := by rw [cell_of HXo.out]; rfl
        by_cases hp2 : p < 2
        · obtain ⟨kl, hkl⟩ := choiceKey HSM.out
          have HK := Lib.hid hkl
          clear hkl
          go_upto_region 11 with (at_mapUpdate; refine wpList_mapUpdate_T (b := w.heap.size) (eK := chK) (eV := Value.bool) rfl _ _ _ rfl choiceKeyed chK_inj Try.underlying38 HSo.out.map rfl c HK.out rfl (p == 1) rfl ?_; intro w4 hM4 hg4)
          have HX4 := Lib.hid ((hg4.block wk.heap.size (by omega) (by simp; omega)).trans HXo.out)
          have hw4 := hg4.size
          have HR4 := Lib.hid (show OwSaid w.heap.size w4 u7 L from World.ownsRow.kept HSo.out.row hg4 (.inr (fun e => map_apart HSo.out.row HSo.out.map e.symm)))
          have HO4 := Lib.hid (World.ownsRow.kept HOo.out hg4 (.inr (fun e => map_apart HOo.out HSo.out.map e.symm)))
          have HG4 := Lib.hid hg4
          have HM4 := Lib.hid hM4
          clear q0 q1 q2 q3 hg4 hM4
          have q0 : w4.cell? ⟨wk.heap.size, 0, none⟩ = some (vi c.kind) := by rw [cell_of HX4.out]; rfl
          have q1 : w4.cell? ⟨wk.heap.size, 1, none⟩ = some (vi c.key) := by rw [cell_of HX4.out]; rfl
          have q2 : w4.cell? ⟨wk.heap.size, 2, none⟩ = some (vi c.a) := by rw [cell_of HX4.out]; rfl
          have q3 : w4.cell? ⟨wk.heap.size, 3, none⟩ = some (vi c.b) := by rw [cell_of HX4.out]; rfl
          go_upto_region 12 with (at_builtin; refine wpList_append_src rfl _ _ 39 rfl eltSaid w.heap.size L.length _ (HR4.out.alloc _) rfl 1 (saidV (c, p == 1)) (src_new (cs := #[vi c.kind, vi c.key, vi c.a, vi c.b, .bool (p == 1)]) rfl rfl) rfl (saidV_one _) (by omega) (by omega) (by simp; omega) ?_; intro v5 w5 ho5 hg5 _)
          have HS5 := Lib.hid (HSo.out.push HND.out HP.out (Nat.le_refl _) HG4.out HM4.out _ hg5 ho5)
          have HO5 := Lib.hid (World.ownsRow.kept (HO4.out.alloc _) hg5 (own_apart HR4.out HO4.out (by decide)))
          clear ho5 hg5
          go_wp2_with fail
          go_roundw
          case rel => exact ⟨k + 1, _, by omega, by go_num, HS5.out, HO5.out⟩
          case measure => simp [intOf]; omega
        · go_wp2_with fail
          go_roundw
          case rel => exact ⟨k + 1, L, by omega, by go_num, HSo.out.skip, HOo.out⟩
          case measure => simp [intOf]; omega
    · obtain rfl : k = C.length := by omega
      go_wp2_with fail
      go_ret2
      exact ⟨L, w.heap.size, _, rfl, Nat.le_refl _, HSk.out.map, HSk.out.row.rd, HSk.out.keys, HSk.out.len, HBk.out⟩
end Go.Proofs.Ytafboehdihokhaa
