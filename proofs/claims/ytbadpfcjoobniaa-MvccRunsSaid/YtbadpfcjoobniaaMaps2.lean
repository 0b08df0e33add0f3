/- More on typed maps: m[k] = append(m[k], ..) (an entry found, then stored), delete. Names no program. -/
import Derived.Test.YtbadpfcjoobniaaMaps
import Derived.Test.YtbadpfcjoobniaaRange
namespace Go.Proofs.Ytbadpfcjoobniaa
open Go.RowKit Go.MapKept
open Go.Maps (Keyed)
open Go.ChangeMaps (setBlock)

/-- Block b is a map that holds L, and the entry at key x bears this stamp. -/
def EntryT {κ ν : Type} (P : Program) (k : TypeId) (eK : κ → Value) (eV : ν → Value) (w : World) (b : Nat) (L : List (κ × ν)) (x : κ) (stamp : Nat) : Prop :=
  ∃ (es : Array MapEntry) (clock j : Nat) (e0 : MapEntry), w.heap[b]? = some (.map es clock) ∧ Stamped es clock ∧ (∀ y ∈ es.toList, ∃ kl, keyOf P k y.key = some kl) ∧ es.toList.map (fun y => (y.key, y.val)) = L.map (fun y => (eK y.1, eV y.2)) ∧
    es.toList[j]? = some e0 ∧ e0.key = eK x ∧ e0.born = stamp

section laws0
variable {κ ν : Type} {P : Program} {k : TypeId} {eK : κ → Value} {eV : ν → Value} {w : World} {b : Nat} {L : List (κ × ν)}

theorem EntryT.map {x : κ} {stamp : Nat} (h : EntryT P k eK eV w b L x stamp) : MapT P k eK eV w b L := by
  obtain ⟨es, clock, j, e0, h1, h2, h3, h4, _⟩ := h; exact ⟨es, clock, h1, h2, h3, h4⟩
theorem EntryT.frame {w' : World} {x : κ} {stamp : Nat} (h : EntryT P k eK eV w b L x stamp) (hw : w'.heap[b]? = w.heap[b]?) : EntryT P k eK eV w' b L x stamp := by
  obtain ⟨es, clock, j, e0, hb, r⟩ := h; exact ⟨es, clock, j, e0, hw.trans hb, r⟩
end laws0

section laws
variable {κ ν : Type} [DecidableEq κ] {P : Program} {k e t : TypeId} {eK : κ → Value} {eV : ν → Value} {w : World} {b : Nat} {L : List (κ × ν)}

theorem putM_same {x : κ} {v : ν} (hp : L.Pairwise (fun p q => p.1 ≠ q.1)) (h : getM L x = some v) : putM L x v = L := by
  unfold putM
  rw [h]
  simp only [Option.isSome_some, if_true]
  have hm := getM_some h
  have : ∀ p ∈ L, (if p.1 = x then (x, v) else p) = p := by
    intro p hpL
    by_cases hx : p.1 = x
    · rw [if_pos hx]
      obtain ⟨i, hi⟩ := List.mem_iff_getElem?.1 hpL
      obtain ⟨j, hj⟩ := List.mem_iff_getElem?.1 hm
      obtain ⟨hi1, hi2⟩ := List.getElem?_eq_some_iff.1 hi
      obtain ⟨hj1, hj2⟩ := List.getElem?_eq_some_iff.1 hj
      have hn := List.pairwise_iff_getElem.1 hp
      rcases Nat.lt_trichotomy i j with hlt | rfl | hlt
      · exact absurd (by rw [hi2, hj2]; exact hx) (hn i j hi1 hj1 hlt)
      · rw [hi] at hj; cases hj; rfl
      · exact absurd (by rw [hi2, hj2]; exact hx.symm) (hn j i hj1 hi1 hlt)
    · rw [if_neg hx]
  rw [List.map_congr_left this]; simp

/-- m[x], found or laid, to be stored to. -/
theorem MapT.mapEntry (hK : Keyed P k) (hinj : ∀ x y, eK x = eK y → x = y) (ht : P.underlying t = some (.map k e)) (h : MapT P k eK eV w b L) (x : κ) {kl : Lit} (hx : keyOf P k (eK x) = some kl) (z : ν) (hz : (zeroValue e).run P w = .ok (eV z) w) :
    ∃ w' stamp, (Instr.mapEntry t (.map (some b)) (eK x)).run P w = .ok (.tuple #[eV ((getM L x).getD z), goInt (stamp : Nat)]) w' ∧ EntryT P k eK eV w' b (putM L x ((getM L x).getD z)) x stamp ∧ w.grownBy w' (some b) ∧ w'.heap.size = w.heap.size := by
  obtain ⟨es, clock, hb, hs, hk, hL, h1 | ⟨j, e0, u, h1, h2, h3, h4, h5, h6, hu⟩⟩ := h.find hK hinj x hx
  · refine ⟨setBlock w b (.map (es.push ⟨eK x, eV z, clock⟩) (clock + 1)), clock, ?_, ⟨_, _, es.size, ⟨eK x, eV z, clock⟩, ChangeMaps.heap_setBlock_same hb _, stamped_push hs h1.2.2, ?_, ?_, ?_, rfl, rfl⟩, ⟨rfl, rfl, rfl, by simp [setBlock], fun i _ hi => ChangeMaps.heap_setBlock_other hb _ (fun e => hi (by rw [e]))⟩, by simp [setBlock]⟩
    · rw [h1.2.1]
      simp [Instr.mapEntry, run_underlying ht, MapKept.run_getObj_map hb, hK.check w false hx, h1.1 w, hz, MapKept.run_setObj_map _ hb, Result.andThen, setBlock]
    · intro y hy
      simp only [Array.toList_push, List.mem_append, List.mem_singleton] at hy
      rcases hy with hy | rfl
      · exact hk y hy
      · exact ⟨kl, hx⟩
    · rw [h1.2.1]
      have : putM L x z = L ++ [(x, z)] := by unfold putM; rw [h1.2.1]; rfl
      rw [Option.getD_none, this, List.map_append, ← hL]; simp
    · simp
  · have hj : es[j]? = some e0 := by simpa using h2
    have hlist : (es.modify j (fun e' => { e' with key := eK x })).toList = es.toList.set j { e0 with key := eK x } := by
      rw [Array.toList_modify, ChangeMaps.modify_eq_set _ _ _ _ h2]
    have he0 : ({ e0 with key := eK x } : MapEntry) = e0 := by rw [← h3]
    have hes : (es.modify j (fun e' => { e' with key := eK x })).toList = es.toList := by
      rw [hlist, he0]
      apply List.ext_getElem?
      intro i
      rw [List.getElem?_set]
      by_cases hij : j = i
      · subst hij; rw [if_pos rfl, if_pos (List.getElem?_eq_some_iff.1 h2).1, h2]
      · simp [hij]
    have hes' : es.modify j (fun e' => { e' with key := eK x }) = es := by
      apply Array.toList_inj.1; exact hes
    have hborn : ((es[j]?.map (·.born)).getD 0) = e0.born := by rw [hj]; rfl
    refine ⟨setBlock w b (.map es clock), e0.born, ?_, ⟨es, clock, j, e0, ChangeMaps.heap_setBlock_same hb _, hs, hk, ?_, h2, h3, rfl⟩, ⟨rfl, rfl, rfl, by simp [setBlock], fun i _ hi => ChangeMaps.heap_setBlock_other hb _ (fun e => hi (by rw [e]))⟩, by simp [setBlock]⟩
    · rw [h6]
      simp [Instr.mapEntry, run_underlying ht, MapKept.run_getObj_map hb, hK.check w false hx, h1 w, hj, h3, hK.stays w hx, MapKept.run_setObj_map _ hb, Result.andThen, setBlock, hes', h5]
    · rw [h6, Option.getD_some, putM_same h.pairwise h6, hL]

/-- The entry is stored to. -/
theorem EntryT.store (hinj : ∀ x y, eK x = eK y → x = y) {x : κ} {stamp : Nat} (h : EntryT P k eK eV w b L x stamp) (v : ν) (hm : (getM L x).isSome = true) :
    ∃ w', (Instr.entryStore t (.map (some b)) (goInt (stamp : Nat)) (eV v)).run P w = .ok () w' ∧ MapT P k eK eV w' b (putM L x v) ∧ w.grownBy w' (some b) ∧ w'.heap.size = w.heap.size := by
  have hmap := h.map
  obtain ⟨es, clock, j, e0, hb, hs, hk, hL, h2, h3, rfl⟩ := h
  have hj : es[j]? = some e0 := by simpa using h2
  have hbi := ((stamped_iff es clock).1 hs).2.1
  have hfi : es.findIdx? (fun e => ((e.born : Int) == (e0.born : Int))) = some j := by
    rw [Array.findIdx?_eq_some_iff_getElem]
    obtain ⟨hjl, hje⟩ := List.getElem?_eq_some_iff.1 h2
    have hjl' : j < es.size := by simpa using hjl
    refine ⟨hjl', ?_, fun i hi => ?_⟩
    · have : es[j] = e0 := by simpa using hje
      simp [this]
    · intro hc
      have hc' : (es[i]'(by omega)).born = e0.born := by have := hc; simp at this; omega
      have hil : i < es.toList.length := by simp; omega
      have h1 := List.pairwise_iff_getElem.1 (List.nodup_iff_pairwise_ne.1 hbi) i j (by simpa using hil) (by simpa using hjl) hi
      apply h1
      simp only [List.getElem_map]
      rw [show es.toList[j] = e0 from hje]
      simpa using hc'
  have hlist : (es.modify j (fun e' => { e' with val := eV v })).toList = es.toList.set j { e0 with val := eV v } := by
    rw [Array.toList_modify, ChangeMaps.modify_eq_set _ _ _ _ h2]
  refine ⟨setBlock w b (.map (es.modify j (fun e' => { e' with val := eV v })) clock), ?_, ⟨_, _, ChangeMaps.heap_setBlock_same hb _, stamped_modify hs _ _ (fun _ _ => rfl) (fun e' _ _ => rfl), ?_, ?_⟩, ⟨rfl, rfl, rfl, by simp [setBlock], fun i _ hi => ChangeMaps.heap_setBlock_other hb _ (fun e => hi (by rw [e]))⟩, by simp [setBlock]⟩
  · simp [Instr.entryStore, MapKept.run_getObj_map hb, goInt, asInt, asIntOf, hfi, MapKept.run_setObj_map _ hb, Result.andThen, setBlock]
  · intro y hy
    rw [hlist] at hy
    rcases List.mem_or_eq_of_mem_set hy with hy | rfl
    · exact hk y hy
    · exact hk e0 (List.mem_of_getElem? h2)
  · have hp : putM L x v = L.map (fun p => if p.1 = x then (x, v) else p) := by unfold putM; rw [hm]; rfl
    rw [hp, hlist, List.map_set, hL]
    apply List.ext_getElem?
    intro i
    rw [List.getElem?_set, List.getElem?_map, List.getElem?_map, List.getElem?_map]
    have hlen : es.toList.length = L.length := by simpa using congrArg List.length hL
    by_cases hij : j = i
    · subst hij
      obtain ⟨hjl, _⟩ := List.getElem?_eq_some_iff.1 h2
      have hjL : j < L.length := by omega
      have hkey : (L[j]).1 = x := by
        have h1 : (es.toList.map (fun y => (y.key, y.val)))[j]? = some (e0.key, e0.val) := by simp [h2]
        rw [hL, List.getElem?_map, List.getElem?_eq_getElem hjL] at h1
        simp only [Option.map_some, Option.some.injEq, Prod.mk.injEq] at h1
        exact hinj _ _ (h1.1.trans h3)
      simp [hjL, hkey, h3]
    · simp only [hij, if_false]
      cases hl : L[i]? with
      | none => rfl
      | some p =>
        have : ¬ p.1 = x := by
          intro hpx
          have h1 : (L.map (fun y => (eK y.1, eV y.2)))[i]? = some (eK p.1, eV p.2) := by simp [hl]
          rw [← hL, List.getElem?_map] at h1
          cases hes : es.toList[i]? with
          | none => simp [hes] at h1
          | some a =>
            simp only [hes, Option.map_some, Option.some.injEq, Prod.mk.injEq] at h1
            have hkk : a.key = e0.key := by rw [h1.1, hpx, h3]
            have := entry_eq_of_key ((stamped_iff es clock).1 hs).2.2 (List.mem_of_getElem? hes) (List.mem_of_getElem? h2) hkk
            subst this
            obtain ⟨a1, a2⟩ := List.getElem?_eq_some_iff.1 hes
            obtain ⟨b1, b2⟩ := List.getElem?_eq_some_iff.1 h2
            have hn := List.pairwise_iff_getElem.1 ((stamped_iff es clock).1 hs).2.2
            rcases Nat.lt_trichotomy i j with hlt | he | hlt
            · exact hn i j a1 b1 hlt (by rw [a2, b2])
            · exact hij he.symm
            · exact hn j i b1 a1 hlt (by rw [a2, b2])
        simp [this]

/-- delete(m, x). -/
theorem MapT.delete (hK : Keyed P k) (hinj : ∀ x y, eK x = eK y → x = y) (ht : P.underlying t = some (.map k e)) (h : MapT P k eK eV w b L) (x : κ) {kl : Lit} (hx : keyOf P k (eK x) = some kl) (ty : TypeId) :
    ∃ w', (Builtin.delete_ #[t, k] ty #[.map (some b), eK x]).run P w = .ok (.tuple #[]) w' ∧ MapT P k eK eV w' b (delM L x) ∧ w.grownBy w' (some b) ∧ w'.heap.size = w.heap.size := by
  obtain ⟨es, clock, hb, hs, hk, hL, h1 | ⟨j, e0, u, h1, h2, h3, h4, h5, h6, hu⟩⟩ := h.find hK hinj x hx
  · refine ⟨setBlock w b (.map es clock), ?_, ⟨es, clock, ChangeMaps.heap_setBlock_same hb _, hs, hk, ?_⟩, ⟨rfl, rfl, rfl, by simp [setBlock], fun i _ hi => ChangeMaps.heap_setBlock_other hb _ (fun e => hi (by rw [e]))⟩, by simp [setBlock]⟩
    · simp [Builtin.delete_, run_underlying ht, MapKept.run_getObj_map hb, hK.check w _ hx, h1.1 w, MapKept.run_setObj_map _ hb, Result.andThen, setBlock]
    · have : delM L x = L := by
        unfold delM
        rw [List.filter_eq_self]
        intro p hp
        simpa using getM_none.1 h1.2.1 p hp
      rw [this, hL]
  · have hjl : j < es.toList.length := (List.getElem?_eq_some_iff.1 h2).1
    have hjs : j < es.size := by simpa using hjl
    have hsub : (es.eraseIdxIfInBounds j).toList = es.toList.eraseIdx j := by
      unfold Array.eraseIdxIfInBounds
      rw [dif_pos hjs]
      simp
    have hdel : delM L x = L.eraseIdx j := by
      have hjL : j < L.length := (List.getElem?_eq_some_iff.1 h4).1
      have hs1 : L = L.take j ++ (x, u) :: L.drop (j + 1) := by
        conv => lhs; rw [← List.take_append_drop j L]
        rw [List.drop_eq_getElem_cons hjL, (List.getElem?_eq_some_iff.1 h4).2]
      have hf1 : (L.take j).filter (fun p => decide (p.1 ≠ x)) = L.take j := by
        rw [List.filter_eq_self]
        intro p hp
        obtain ⟨i, hi⟩ := List.mem_iff_getElem?.1 hp
        have hij : i < j := by have := (List.getElem?_eq_some_iff.1 hi).1; simp at this; omega
        rw [List.getElem?_take, if_pos hij] at hi
        have : p.1 ≠ x := fun e => by have := hu i p hi e; omega
        simpa using this
      have hf2 : (L.drop (j + 1)).filter (fun p => decide (p.1 ≠ x)) = L.drop (j + 1) := by
        rw [List.filter_eq_self]
        intro p hp
        obtain ⟨i, hi⟩ := List.mem_iff_getElem?.1 hp
        rw [List.getElem?_drop] at hi
        have : p.1 ≠ x := fun e => by have := hu _ p hi e; omega
        simpa using this
      unfold delM
      rw [List.eraseIdx_eq_take_drop_succ]
      conv => lhs; rw [hs1]
      rw [List.filter_append, List.filter_cons, hf1, hf2]
      simp
    refine ⟨setBlock w b (.map (es.eraseIdxIfInBounds j) clock), ?_, ⟨_, clock, ChangeMaps.heap_setBlock_same hb _, stamped_erase hs j, ?_, ?_⟩, ⟨rfl, rfl, rfl, by simp [setBlock], fun i _ hi => ChangeMaps.heap_setBlock_other hb _ (fun e => hi (by rw [e]))⟩, by simp [setBlock]⟩
    · simp [Builtin.delete_, run_underlying ht, MapKept.run_getObj_map hb, hK.check w _ hx, h1, MapKept.run_setObj_map _ hb, Result.andThen, setBlock]
    · intro y hy
      rw [hsub] at hy
      exact hk y ((List.eraseIdx_sublist _ _).subset hy)
    · rw [hdel, hsub, ChangeMaps.map_eraseIdx, ChangeMaps.map_eraseIdx, hL]
end laws
end Go.Proofs.Ytbadpfcjoobniaa
