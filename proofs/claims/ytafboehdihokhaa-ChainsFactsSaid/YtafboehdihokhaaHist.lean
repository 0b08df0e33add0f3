import Derived.Test.YtafboehdihokhaaData
namespace Go.Proofs.Ytafboehdihokhaa
open Go.RowKit Go.Maps

def i64 (n : Int) : Prop := -9223372036854775808 ≤ n ∧ n ≤ 9223372036854775807
def OkOps (l : List GOp) : Prop := ∀ o ∈ l, i64 o.kind ∧ i64 o.key ∧ i64 o.val

theorem intKeyed : Keyed Try.prog 3 := int_keyed Try.underlying3
theorem intKey {n : Int} (h : i64 n) : keyOf Try.prog 3 (vi n) = some (.int .i64 n) :=
  keyOf_int_mk Try.underlying3 (by simp [Lit.wf, IntKind.min, IntKind.max, IntKind.signed, IntKind.bits]; exact h)
theorem zeroB (w : World) : (zeroValue 4).run Try.prog w = .ok (.bool false) w := by kernel_rfl
theorem zeroI (w : World) : (zeroValue 3).run Try.prog w = .ok (vi 0) w := by kernel_rfl
theorem vi_inj (x y : Int) (h : vi x = vi y) : x = y := by cases h; rfl

/-- One operation in Reads: what was written so far, what was read. -/
def stepR (s : List (Int × Bool) × List GOp) (o : GOp) : List (Int × Bool) × List GOp :=
  if o.kind = 2 then (putM s.1 o.key true, s.2) else if (getM s.1 o.key).isSome then s else (s.1, s.2 ++ [o])
def readsS (l : List GOp) : List (Int × Bool) × List GOp := l.foldl stepR ([], [])
/-- hist.Reads. -/
def readsM (t : GTxn) : List GOp := if t.state = 1 then (readsS t.ops).2 else []

theorem readsS_next {l : List GOp} {k : Nat} {o : GOp} (h : l[k]? = some o) : readsS (l.take (k + 1)) = stepR (readsS (l.take k)) o := by
  rw [take_at h]; unfold readsS; rw [List.foldl_append]; rfl

theorem readsS_true (l : List GOp) (x : Int) (b : Bool) (h : getM (readsS l).1 x = some b) : b = true := by
  unfold readsS at h
  have : ∀ (l : List GOp) (s : List (Int × Bool) × List GOp), (∀ x b, getM s.1 x = some b → b = true) → ∀ x b, getM (l.foldl stepR s).1 x = some b → b = true := by
    intro l
    induction l with
    | nil => intro s h; exact h
    | cons o l ih =>
      intro s h
      refine ih _ ?_
      unfold stepR
      split
      · intro x b hb
        rw [getM_put] at hb
        split at hb
        · cases hb; rfl
        · exact h x b hb
      · split
        · exact h
        · exact h
  exact this l ([], []) (fun x b h => by simp [getM_nil] at h) x b h

theorem readsS_le (l : List GOp) : (readsS l).2.length ≤ l.length := by
  have : ∀ (l : List GOp) (s : List (Int × Bool) × List GOp), (l.foldl stepR s).2.length ≤ s.2.length + l.length := by
    intro l
    induction l with
    | nil => intro s; simp
    | cons o l ih =>
      intro s
      rw [List.foldl_cons]
      refine Nat.le_trans (ih _) ?_
      unfold stepR
      split
      · simp
      · split <;> simp <;> omega
  have := this l ([], [])
  simpa [readsS] using this

set_option maxRecDepth 100000 in
set_option maxHeartbeats 1000000 in
theorem reads_call (c s : Int) (v : Value) (l : List GOp) (w : World) (hv : RdOps w v l) (hok : OkOps l) (hl : l.length ≤ 1048576) :
    Calls Try.prog 46 #[.agg #[vi c, vi s, v]] w fun e w' => ∃ v', e = .returned v' ∧ OwOps w.heap.size w' v' (readsM ⟨c, s, l⟩) ∧ Below w.heap.size w w' := by
  have HV := Lib.hid hv
  have HOK := Lib.hid hok
  obtain ⟨a, len, cap, rfl, rfl, hm, -⟩ := hv.at
  clear hv hok
  by_cases hs : s = 1
  · subst hs
    have hmm := @run_makeMap Try.prog
    go_enter Try.func46, Try.ntmps46
    go_wp2
    go_loopw [3, 6, 15] (fun v _ i wr => ∃ k : Nat, k ≤ l.length ∧ i = .int .i64 k ∧ wr.ownsRow (w.heap.size + 2) 64 3 v (readsS (l.take k)).2.length ((readsS (l.take k)).2.flatMap opV) ∧ MapT Try.prog 3 vi Value.bool wr (w.heap.size + 1) (readsS (l.take k)).1 ∧ w.heap.size + 2 ≤ wr.heap.size ∧ Below w.heap.size w wr) (fun _ _ i _ => l.length - (intOf i).toNat)
    case atStart => exact ⟨0, Nat.zero_le _, rfl, World.ownsRow_nil _ _ _ _, by simpa [readsS] using MapT.made (P := Try.prog) (k := 3) (eK := vi) (eV := Value.bool) (w.alloc (.cells #[vi c, vi 1, .slice a l.length cap] 62)), by simp, ((Below.refl _ _).alloc (Nat.le_refl _) _).alloc (by simp) _⟩
    case round =>
      obtain ⟨k, hk, rfl, ho, hM, hsz, hb⟩ := hrel
      have HO := Lib.hid ho
      have HM := Lib.hid hM
      have HB := Lib.hid hb
      clear ho hM hb
      by_cases hlt : k < l.length
      · obtain ⟨o, hok⟩ := some_at hlt
        obtain ⟨_, _, _, e5, -, -, hcl⟩ := (HV.out.later HB.out).at
        cases e5
        obtain ⟨b, off, rfl, k0, k1, k2⟩ := hcl k o hok
        have HN := Lib.hid (readsS_next hok)
        have HK := Lib.hid (intKey ((HOK.out o (List.mem_of_getElem? hok)).2.1))
        clear hcl hok
        by_cases h2 : o.kind = 2
        · have h2' : (o.kind == 2) = true := by simp [h2]
          have HS := Lib.hid (show stepR (readsS (l.take k)) o = (putM (readsS (l.take k)).1 o.key true, (readsS (l.take k)).2) by unfold stepR; rw [if_pos h2])
          clear h2
          go_wp2_with (at_mapUpdate; refine wpList_mapUpdate_T (b := w.heap.size + 1) (eK := vi) (eV := Value.bool) rfl _ _ _ rfl intKeyed vi_inj Try.underlying110 (HM.out.frame (Below.heap_alloc _ _ _ (by omega))) rfl o.key HK.out rfl true rfl ?_; intro w1 hM1 hg1)
          go_roundw
          case rel =>
            refine ⟨k + 1, by omega, by go_num, ?_, ?_, ?_, ?_⟩
            · rw [HN.out, HS.out]; exact own_keptBelow (HO.out.alloc _) hg1 (by omega)
            · rw [HN.out, HS.out]; exact hM1
            · have := hg1.size; simp at this; omega
            · exact (HB.out.alloc (by omega) _).grown hg1 (by simp; omega) (fun j hj => by cases hj; omega)
          case measure => simp [intOf]; omega
        · have h2' : (o.kind == 2) = false := by simp [h2]
          have hlk := fun o' => (MapT.lookup intKeyed vi_inj Try.underlying110 (HM.out.frame (Below.heap_alloc wr o' _ (by omega))) o.key HK.out (zeroB _)).1
          cases hg : getM (readsS (l.take k)).1 o.key with
          | some b =>
            obtain rfl := readsS_true _ _ _ hg
            have HS := Lib.hid (show stepR (readsS (l.take k)) o = readsS (l.take k) by unfold stepR; rw [if_neg h2, if_pos (by simp [hg])])
            rw [hg] at hlk
            simp only [Option.map_some, Option.getD_some] at hlk
            clear h2 hg
            go_wp2
            go_roundw
            case rel =>
              refine ⟨k + 1, by omega, by go_num, ?_, ?_, by simp; omega, HB.out.alloc (by omega) _⟩
              · rw [HN.out, HS.out]; exact HO.out.alloc _
              · rw [HN.out, HS.out]; exact HM.out.frame (Below.heap_alloc _ _ _ (by omega))
            case measure => simp [intOf]; omega
          | none =>
            have HS := Lib.hid (show stepR (readsS (l.take k)) o = ((readsS (l.take k)).1, (readsS (l.take k)).2 ++ [o]) by unfold stepR; rw [if_neg h2, if_neg (by simp [hg])])
            rw [hg] at hlk
            simp only [Option.map_none, Option.getD_none] at hlk
            have hle := readsS_le (l.take k)
            have htl : (l.take k).length ≤ k := List.length_take_le _ _
            clear h2 hg
            go_wp2_with (at_builtin; refine wpList_append_src rfl _ _ 60 rfl eltOp (w.heap.size + 2) (readsS (l.take k)).2.length _ ((HO.out.alloc _).alloc _) rfl 1 (opV o) (src_new (cs := #[vi o.kind, vi o.key, vi o.val]) rfl (by simp)) rfl (by intro u hu; simp [opV] at hu; rcases hu with rfl | rfl | rfl <;> rfl) (by omega) (by omega) (by simp; omega) ?_; intro v1 w1 ho1 hg1 _)
            have hbl : ∀ j, u3.ownBlock = some j → w.heap.size + 2 ≤ j := fun j hj => (HO.out.lt j hj).1
            go_roundw
            case rel =>
              refine ⟨k + 1, by omega, by go_num, ?_, ?_, ?_, ?_⟩
              · rw [HN.out, HS.out]; simpa using ho1
              · rw [HN.out, HS.out]; exact (HM.out.frame (by rw [Below.heap_alloc _ _ _ (by simp; omega), Below.heap_alloc _ _ _ (by omega)])).kept hg1 (fun e => by have := hbl _ e.symm; omega)
              · have := hg1.size; simp at this; omega
              · exact ((HB.out.alloc (by omega) _).alloc (by simp; omega) _).grown hg1 (by simp; omega) (fun j hj => by have := hbl _ hj; omega)
            case measure => simp [intOf]; omega
      · have hkl : k = l.length := by omega
        subst hkl
        have HE := Lib.hid (show readsM ⟨c, 1, l⟩ = (readsS l).2 by unfold readsM; rw [if_pos rfl])
        go_wp2
        go_ret
        refine ⟨_, rfl, ?_, HB.out⟩
        have := HO.out
        rw [List.take_length] at this
        rw [HE.out]
        exact own_mono this (by omega)
  · have hs' : (s == 1) = false := by simp [hs]
    have hs'' : (s != 1) = true := by simp [hs]
    have HM := Lib.hid (show readsM ⟨c, s, l⟩ = [] by unfold readsM; rw [if_neg hs])
    clear hs
    go_enter Try.func46, Try.ntmps46
    go_wp2
    go_ret
    exact ⟨_, rfl, by rw [HM.out]; exact World.ownsRow_nil _ _ _ _, (Below.refl _ _).alloc (Nat.le_refl _) _⟩
end Go.Proofs.Ytafboehdihokhaa
