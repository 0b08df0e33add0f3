/- Texts of one proof, one behind the other: Range, Maps2, MvData, MvBits, BtSeq. -/
import Derived.Test.YtdkkpkgfiodlbaaJb1
import Derived.Maps.Range
import Derived.Maps.Keyed
import Derived.Test.YtdkkpkgfiodlbaaJb2
set_option linter.all false
/- 'for k, v := range m' over a typed map (MapT), in the order of the tape. Names no program. -/
namespace Go.Proofs.Ytdkkpkgfiodlbaa
open Go.RowKit Go.MapKept
open Go.Maps (Keyed)
open Go.ChangeMaps (setBlock)
/-- Block b is a map that holds L, block r an iterator over it, and the pairs of V have come out, in this order. -/
def RangeT {κ ν : Type} (P : Program) (k : TypeId) (eK : κ → Value) (eV : ν → Value) (w : World) (b r : Nat) (L V : List (κ × ν)) : Prop :=
  ∃ es clock since seen c0, w.heap[b]? = some (.map es clock) ∧ Stamped es clock ∧ (∀ x ∈ es.toList, ∃ kl, keyOf P k x.key = some kl) ∧ es.toList.map (fun x => (x.key, x.val)) = L.map (fun x => (eK x.1, eV x.2)) ∧
    w.heap[r]? = some (.mapIter (some b) since seen c0) ∧ (∀ x ∈ es.toList, x.born < since) ∧ since ≤ c0 ∧ since ≤ clock ∧
    (∀ (i : Nat) (x : MapEntry) (p : κ × ν), es.toList[i]? = some x → L[i]? = some p → (seen.contains x.born = true ↔ p ∈ V)) ∧ (∀ p ∈ V, p ∈ L) ∧ V.Pairwise (fun p q => p.1 ≠ q.1)

section laws
variable {κ ν : Type} {P : Program} {k e t : TypeId} {eK : κ → Value} {eV : ν → Value} {w : World} {b r : Nat} {L V : List (κ × ν)}

theorem RangeT.map (h : RangeT P k eK eV w b r L V) : MapT P k eK eV w b L := by
  obtain ⟨es, clock, _, _, _, h1, h2, h3, h4, _⟩ := h; exact ⟨es, clock, h1, h2, h3, h4⟩
theorem RangeT.lt (h : RangeT P k eK eV w b r L V) : r < w.heap.size := by
  obtain ⟨es, clock, since, seen, c0, _, _, _, _, hr, _⟩ := h
  exact (Array.getElem?_eq_some_iff.1 hr).1
theorem RangeT.ne (h : RangeT P k eK eV w b r L V) : r ≠ b := by
  obtain ⟨es, clock, since, seen, c0, hb, _, _, _, hr, _⟩ := h
  intro e
  rw [e, hb] at hr
  cases hr
theorem RangeT.frame {w' : World} (h : RangeT P k eK eV w b r L V) (hb : w'.heap[b]? = w.heap[b]?) (hr : w'.heap[r]? = w.heap[r]?) : RangeT P k eK eV w' b r L V := by
  obtain ⟨es, clock, since, seen, c0, h1, h2, h3, h4, h5, rest⟩ := h
  exact ⟨es, clock, since, seen, c0, hb.trans h1, h2, h3, h4, hr.trans h5, rest⟩

theorem rangeLeft_frame {w' : World} (hb : w'.heap[b]? = w.heap[b]?) (hr : w'.heap[r]? = w.heap[r]?) : w'.rangeLeft b r = w.rangeLeft b r := by unfold World.rangeLeft; rw [hb, hr]
theorem MapT.keyed (h : MapT P k eK eV w b L) {p : κ × ν} (hp : p ∈ L) : ∃ kl, keyOf P k (eK p.1) = some kl := by
  obtain ⟨es, clock, hb, hs, hk, hL⟩ := h
  have : (eK p.1, eV p.2) ∈ L.map (fun x => (eK x.1, eV x.2)) := List.mem_map.2 ⟨p, hp, rfl⟩
  rw [← hL, List.mem_map] at this
  obtain ⟨x, hx, hxe⟩ := this
  simp only [Prod.mk.injEq] at hxe
  rw [← hxe.1]
  exact hk x hx
theorem MapT.pairwise (h : MapT P k eK eV w b L) : L.Pairwise (fun p q => p.1 ≠ q.1) := by
  obtain ⟨es, clock, hb, hs, hk, hL⟩ := h
  have hlen : es.toList.length = L.length := by simpa using congrArg List.length hL
  have hn := List.pairwise_iff_getElem.1 ((stamped_iff es clock).1 hs).2.2
  rw [List.pairwise_iff_getElem]
  intro i j hi hj hlt he
  have key : ∀ (n : Nat) (h1 : n < L.length), (es.toList[n]'(by omega)).key = eK (L[n]).1 := by
    intro n h1
    have h2 : (es.toList.map (fun y => (y.key, y.val)))[n]? = some ((es.toList[n]'(by omega)).key, (es.toList[n]'(by omega)).val) := by simp [List.getElem?_eq_getElem (by omega : n < es.toList.length)]
    rw [hL, List.getElem?_map, List.getElem?_eq_getElem h1] at h2
    simp only [Option.map_some, Option.some.injEq, Prod.mk.injEq] at h2
    exact h2.1.symm
  exact hn i j (by omega) (by omega) hlt (by rw [key i hi, key j hj, he])

/-- 'range m'. -/
theorem MapT.range (h : MapT P k eK eV w b L) (ht : P.underlying t = some (.map k e)) :
    ∃ w', (Instr.range t (.map (some b))).run P w = .ok (.pointer (some ⟨w.heap.size, 0, none⟩)) w' ∧ RangeT P k eK eV w' b w.heap.size L [] ∧ w.grownBy w' none ∧ w'.heap.size = w.heap.size + 1 := by
  have hlt := h.lt
  obtain ⟨es, clock, hb, hs, hk, hL⟩ := h
  refine ⟨_, run_range_map w t k e b es clock ht hb, ⟨es, clock, clock, #[], clock, ((MapKept.heap_alloc w _).2 b hlt).trans hb, hs, hk, hL, (MapKept.heap_alloc w _).1, hs.1, Nat.le_refl _, Nat.le_refl _, ?_, (fun p hp => by cases hp), List.Pairwise.nil⟩, World.grownBy_alloc w _ none, by simp⟩
  intro i x p _ _
  simp

theorem RangeT.key_uniq (h : MapT P k eK eV w b L) {p q : κ × ν} (hp : p ∈ L) (hq : q ∈ L) (hpq : p.1 = q.1) : p = q := by
  obtain ⟨es, clock, hb, hs, hk, hL⟩ := h
  obtain ⟨i, hi⟩ := List.mem_iff_getElem?.1 hp
  obtain ⟨j, hj⟩ := List.mem_iff_getElem?.1 hq
  have hlen : es.toList.length = L.length := by simpa using congrArg List.length hL
  have hi1 := (List.getElem?_eq_some_iff.1 hi).1
  have hj1 := (List.getElem?_eq_some_iff.1 hj).1
  have ei : (es.toList[i]'(by omega)).key = eK p.1 := by
    have h1 : (L.map (fun y => (eK y.1, eV y.2)))[i]? = some (eK p.1, eV p.2) := by simp [hi]
    rw [← hL, List.getElem?_map, List.getElem?_eq_getElem (by omega : i < es.toList.length)] at h1
    simpa using congrArg (fun o => o.map (·.1)) h1
  have ej : (es.toList[j]'(by omega)).key = eK q.1 := by
    have h1 : (L.map (fun y => (eK y.1, eV y.2)))[j]? = some (eK q.1, eV q.2) := by simp [hj]
    rw [← hL, List.getElem?_map, List.getElem?_eq_getElem (by omega : j < es.toList.length)] at h1
    simpa using congrArg (fun o => o.map (·.1)) h1
  have hn := List.pairwise_iff_getElem.1 ((stamped_iff es clock).1 hs).2.2
  rcases Nat.lt_trichotomy i j with hlt | rfl | hlt
  · exact absurd (by rw [ei, ej, hpq]) (hn i j (by omega) (by omega) hlt)
  · rw [hi] at hj; cases hj; rfl
  · exact absurd (by rw [ei, ej, hpq]) (hn j i (by omega) (by omega) hlt)

/-- The step. -/
theorem RangeT.next (hinj : ∀ x y, eK x = eK y → x = y) (h : RangeT P k eK eV w b r L V) (ty : TypeId) :
    ((∀ p ∈ L, p ∈ V) ∧ (Instr.next (.pointer (some ⟨r, 0, none⟩)) false ty).run P w = .ok (.tuple #[.bool false]) w) ∨
    ∃ p w', p ∈ L ∧ (∀ q ∈ V, q.1 ≠ p.1) ∧ (Instr.next (.pointer (some ⟨r, 0, none⟩)) false ty).run P w = .ok (.tuple #[.bool true, eK p.1, eV p.2]) w' ∧
      RangeT P k eK eV w' b r L (V ++ [p]) ∧ w'.rangeLeft b r < w.rangeLeft b r ∧ w.grownBy w' (some r) ∧ w'.heap.size = w.heap.size ∧ (Instr.entry (.pointer (some ⟨r, 0, none⟩))).run P w' = .ok (.tuple #[eK p.1, eV p.2]) w' := by
  have hne := h.ne
  have hmap := h.map
  obtain ⟨es, clock, since, seen, c0, hb, hs, hk, hL, hr, hold, hsc, hsk, hseen, hsub, hpw⟩ := h
  have hlen : es.toList.length = L.length := by simpa using congrArg List.length hL
  have entry : ∀ (i : Nat) (x : MapEntry) (p : κ × ν), es.toList[i]? = some x → L[i]? = some p → x.key = eK p.1 ∧ x.val = eV p.2 := by
    intro i x p hx hp
    have h1 : (es.toList.map (fun y => (y.key, y.val)))[i]? = some (x.key, x.val) := by simp [hx]
    rw [hL] at h1
    simp [hp] at h1
    exact ⟨h1.1.symm, h1.2.symm⟩
  rcases run_next_at (P := P) w ty r b since c0 seen es clock hr hb hold hsc with ⟨h0, hrun⟩ | ⟨x, hx, w1, hal, hrun⟩
  · refine .inl ⟨fun p hp => ?_, hrun⟩
    obtain ⟨i, hi⟩ := List.mem_iff_getElem?.1 hp
    have hi1 := (List.getElem?_eq_some_iff.1 hi).1
    obtain ⟨x, hx⟩ : ∃ x, es.toList[i]? = some x := ⟨_, List.getElem?_eq_getElem (by omega)⟩
    exact (hseen i x p hx hi).1 (all_seen es seen h0 x (List.mem_of_getElem? hx))
  · obtain ⟨hem, hes⟩ := mem_left hx
    obtain ⟨i, hi⟩ := List.mem_iff_getElem?.1 hem
    have hi1 := (List.getElem?_eq_some_iff.1 hi).1
    obtain ⟨p, hp⟩ : ∃ p, L[i]? = some p := ⟨_, List.getElem?_eq_getElem (by omega)⟩
    obtain ⟨ek, ev⟩ := entry i x p hi hp
    have hpV : p ∉ V := fun h => by
      have := (hseen i x p hi hp).2 h
      rw [hes] at this; cases this
    have hr1 : w1.heap[r]? = some (.mapIter (some b) since seen c0) := by rcases hal with rfl | rfl <;> exact hr
    have hb1 : w1.heap[b]? = some (.map es clock) := by rcases hal with rfl | rfl <;> exact hb
    have hset := heap_set (o' := .mapIter (some b) since (seen.push x.born) clock) hr1
    have hb' : (setBlock w1 r (.mapIter (some b) since (seen.push x.born) clock)).heap[b]? = some (.map es clock) := (hset.2 b (fun e1 => hne e1.symm)).trans hb1
    have hfresh : ∀ q ∈ V, q.1 ≠ p.1 := fun q hq hqp => hpV (RangeT.key_uniq hmap (hsub q hq) (List.mem_of_getElem? hp) hqp ▸ hq)
    have hbi := ((stamped_iff es clock).1 hs).2.1
    refine .inr ⟨p, _, List.mem_of_getElem? hp, hfresh, by rw [← ek, ← ev]; exact hrun,
      ⟨es, clock, since, seen.push x.born, clock, hb', hs, hk, hL, hset.1, hold, hsk, hsk, ?_, ?_, ?_⟩, ?_, ?_, ?_, by rw [← ek, ← ev]; exact run_entry_at _ r b since seen es clock x hset.1 hb' hem hbi⟩
    · intro j y q hy hq
      rw [contains_push, List.mem_append, List.mem_singleton, Bool.or_eq_true, hseen j y q hy hq]
      constructor
      · rintro (h | h)
        · exact .inl h
        · have hyx : y = x := born_inj hbi (List.mem_of_getElem? hy) hem (by simpa using h)
          right
          have e1 := (entry j y q hy hq).1
          have : q.1 = p.1 := hinj _ _ (by rw [← e1, ← ek, hyx])
          exact RangeT.key_uniq hmap (List.mem_of_getElem? hq) (List.mem_of_getElem? hp) this
      · rintro (h | h)
        · exact .inl h
        · right
          subst h
          have hji : y.key = x.key := by rw [(entry j y q hy hq).1, ek]
          have := entry_eq_of_key ((stamped_iff es clock).1 hs).2.2 (List.mem_of_getElem? hy) hem hji
          simp [this]
    · intro q hq
      rw [List.mem_append, List.mem_singleton] at hq
      rcases hq with hq | rfl
      · exact hsub q hq
      · exact List.mem_of_getElem? hp
    · rw [List.pairwise_append]
      exact ⟨hpw, List.pairwise_singleton _ _, fun q hq q' hq' => by simp at hq'; subst hq'; exact hfresh q hq⟩
    · unfold World.rangeLeft
      rw [hb', hb, hr, show (setBlock w1 r (.mapIter (some b) since (seen.push x.born) clock)).heap[r]? = _ from hset.1]
      exact left_shrinks es seen x hx
    · rcases hal with rfl | rfl <;> exact ⟨rfl, rfl, rfl, by simp [setBlock], fun i _ hi => hset.2 i (fun e1 => hi (by rw [e1]))⟩
    · rcases hal with rfl | rfl <;> simp [setBlock]
end laws
end Go.Proofs.Ytdkkpkgfiodlbaa

/- More on typed maps: m[k] = append(m[k], ..) (an entry found, then stored), delete. Names no program. -/
namespace Go.Proofs.Ytdkkpkgfiodlbaa
open Go.RowKit Go.MapKept
open Go.Maps (Keyed)
open Go.ChangeMaps (setBlock)
/-- Block b is a map that holds L, and the entry at key x bears this stamp. -/
def EntryT {κ ν : Type} (P : Program) (k : TypeId) (eK : κ → Value) (eV : ν → Value) (w : World) (b : Nat) (L : List (κ × ν)) (x : κ) (stamp : Nat) : Prop :=
  ∃ (es : Array MapEntry) (clock j : Nat) (e0 : MapEntry), w.heap[b]? = some (.map es clock) ∧ Stamped es clock ∧ (∀ y ∈ es.toList, ∃ kl, keyOf P k y.key = some kl) ∧ es.toList.map (fun y => (y.key, y.val)) = L.map (fun y => (eK y.1, eV y.2)) ∧
    es.toList[j]? = some e0 ∧ e0.key = eK x ∧ e0.born = stamp

section laws0
variable {κ ν : Type} {P : Program} {k : TypeId} {eK : κ → Value} {eV : ν → Value} {w : World} {b : Nat} {L : List (κ × ν)}

theorem EntryT.map {x : κ} {stamp : Nat} (h : EntryT P k eK eV w b L x stamp) : MapT P k eK eV w b L := by
  obtain ⟨es, clock, j, e0, h1, h2, h3, h4, _⟩ := h; exact ⟨es, clock, h1, h2, h3, h4⟩
theorem EntryT.frame {w' : World} {x : κ} {stamp : Nat} (h : EntryT P k eK eV w b L x stamp) (hw : w'.heap[b]? = w.heap[b]?) : EntryT P k eK eV w' b L x stamp := by
  obtain ⟨es, clock, j, e0, hb, r⟩ := h; exact ⟨es, clock, j, e0, hw.trans hb, r⟩
end laws0
section laws
variable {κ ν : Type} [DecidableEq κ] {P : Program} {k e t : TypeId} {eK : κ → Value} {eV : ν → Value} {w : World} {b : Nat} {L : List (κ × ν)}

theorem putM_same {x : κ} {v : ν} (hp : L.Pairwise (fun p q => p.1 ≠ q.1)) (h : getM L x = some v) : putM L x v = L := by
  unfold putM
  rw [h]
  simp only [Option.isSome_some, if_true]
  have hm := getM_some h
  have : ∀ p ∈ L, (if p.1 = x then (x, v) else p) = p := by
    intro p hpL
    by_cases hx : p.1 = x
    · rw [if_pos hx]
      obtain ⟨i, hi⟩ := List.mem_iff_getElem?.1 hpL
      obtain ⟨j, hj⟩ := List.mem_iff_getElem?.1 hm
      obtain ⟨hi1, hi2⟩ := List.getElem?_eq_some_iff.1 hi
      obtain ⟨hj1, hj2⟩ := List.getElem?_eq_some_iff.1 hj
      have hn := List.pairwise_iff_getElem.1 hp
      rcases Nat.lt_trichotomy i j with hlt | rfl | hlt
      · exact absurd (by rw [hi2, hj2]; exact hx) (hn i j hi1 hj1 hlt)
      · rw [hi] at hj; cases hj; rfl
      · exact absurd (by rw [hi2, hj2]; exact hx.symm) (hn j i hj1 hi1 hlt)
    · rw [if_neg hx]
  rw [List.map_congr_left this]; simp

/-- m[x], found or laid, to be stored to. -/
theorem MapT.mapEntry (hK : Keyed P k) (hinj : ∀ x y, eK x = eK y → x = y) (ht : P.underlying t = some (.map k e)) (h : MapT P k eK eV w b L) (x : κ) {kl : Lit} (hx : keyOf P k (eK x) = some kl) (z : ν) (hz : (zeroValue e).run P w = .ok (eV z) w) :
    ∃ w' stamp, (Instr.mapEntry t (.map (some b)) (eK x)).run P w = .ok (.tuple #[eV ((getM L x).getD z), goInt (stamp : Nat)]) w' ∧ EntryT P k eK eV w' b (putM L x ((getM L x).getD z)) x stamp ∧ w.grownBy w' (some b) ∧ w'.heap.size = w.heap.size := by
  obtain ⟨es, clock, hb, hs, hk, hL, h1 | ⟨j, e0, u, h1, h2, h3, h4, h5, h6, hu⟩⟩ := h.find hK hinj x hx
  · refine ⟨setBlock w b (.map (es.push ⟨eK x, eV z, clock⟩) (clock + 1)), clock, ?_, ⟨_, _, es.size, ⟨eK x, eV z, clock⟩, ChangeMaps.heap_setBlock_same hb _, stamped_push hs h1.2.2, ?_, ?_, ?_, rfl, rfl⟩, ⟨rfl, rfl, rfl, by simp [setBlock], fun i _ hi => ChangeMaps.heap_setBlock_other hb _ (fun e => hi (by rw [e]))⟩, by simp [setBlock]⟩
    · rw [h1.2.1]
      simp [Instr.mapEntry, run_underlying ht, MapKept.run_getObj_map hb, hK.check w false hx, h1.1 w, hz, MapKept.run_setObj_map _ hb, Result.andThen, setBlock]
    · intro y hy
      simp only [Array.toList_push, List.mem_append, List.mem_singleton] at hy
      rcases hy with hy | rfl
      · exact hk y hy
      · exact ⟨kl, hx⟩
    · rw [h1.2.1]
      have : putM L x z = L ++ [(x, z)] := by unfold putM; rw [h1.2.1]; rfl
      rw [Option.getD_none, this, List.map_append, ← hL]; simp
    · simp
  · have hj : es[j]? = some e0 := by simpa using h2
    have hlist : (es.modify j (fun e' => { e' with key := eK x })).toList = es.toList.set j { e0 with key := eK x } := by
      rw [Array.toList_modify, ChangeMaps.modify_eq_set _ _ _ _ h2]
    have he0 : ({ e0 with key := eK x } : MapEntry) = e0 := by rw [← h3]
    have hes : (es.modify j (fun e' => { e' with key := eK x })).toList = es.toList := by
      rw [hlist, he0]
      apply List.ext_getElem?
      intro i
      rw [List.getElem?_set]
      by_cases hij : j = i
      · subst hij; rw [if_pos rfl, if_pos (List.getElem?_eq_some_iff.1 h2).1, h2]
      · simp [hij]
    have hes' : es.modify j (fun e' => { e' with key := eK x }) = es := by
      apply Array.toList_inj.1; exact hes
    have hborn : ((es[j]?.map (·.born)).getD 0) = e0.born := by rw [hj]; rfl
    refine ⟨setBlock w b (.map es clock), e0.born, ?_, ⟨es, clock, j, e0, ChangeMaps.heap_setBlock_same hb _, hs, hk, ?_, h2, h3, rfl⟩, ⟨rfl, rfl, rfl, by simp [setBlock], fun i _ hi => ChangeMaps.heap_setBlock_other hb _ (fun e => hi (by rw [e]))⟩, by simp [setBlock]⟩
    · rw [h6]
      simp [Instr.mapEntry, run_underlying ht, MapKept.run_getObj_map hb, hK.check w false hx, h1 w, hj, h3, hK.stays w hx, MapKept.run_setObj_map _ hb, Result.andThen, setBlock, hes', h5]
    · rw [h6, Option.getD_some, putM_same h.pairwise h6, hL]

/-- The entry is stored to. -/
theorem EntryT.store (hinj : ∀ x y, eK x = eK y → x = y) {x : κ} {stamp : Nat} (h : EntryT P k eK eV w b L x stamp) (v : ν) (hm : (getM L x).isSome = true) :
    ∃ w', (Instr.entryStore t (.map (some b)) (goInt (stamp : Nat)) (eV v)).run P w = .ok () w' ∧ MapT P k eK eV w' b (putM L x v) ∧ w.grownBy w' (some b) ∧ w'.heap.size = w.heap.size := by
  have hmap := h.map
  obtain ⟨es, clock, j, e0, hb, hs, hk, hL, h2, h3, rfl⟩ := h
  have hj : es[j]? = some e0 := by simpa using h2
  have hbi := ((stamped_iff es clock).1 hs).2.1
  have hfi : es.findIdx? (fun e => ((e.born : Int) == (e0.born : Int))) = some j := by
    rw [Array.findIdx?_eq_some_iff_getElem]
    obtain ⟨hjl, hje⟩ := List.getElem?_eq_some_iff.1 h2
    have hjl' : j < es.size := by simpa using hjl
    refine ⟨hjl', ?_, fun i hi => ?_⟩
    · have : es[j] = e0 := by simpa using hje
      simp [this]
    · intro hc
      have hc' : (es[i]'(by omega)).born = e0.born := by have := hc; simp at this; omega
      have hil : i < es.toList.length := by simp; omega
      have h1 := List.pairwise_iff_getElem.1 (List.nodup_iff_pairwise_ne.1 hbi) i j (by simpa using hil) (by simpa using hjl) hi
      apply h1
      simp only [List.getElem_map]
      rw [show es.toList[j] = e0 from hje]
      simpa using hc'
  have hlist : (es.modify j (fun e' => { e' with val := eV v })).toList = es.toList.set j { e0 with val := eV v } := by
    rw [Array.toList_modify, ChangeMaps.modify_eq_set _ _ _ _ h2]
  refine ⟨setBlock w b (.map (es.modify j (fun e' => { e' with val := eV v })) clock), ?_, ⟨_, _, ChangeMaps.heap_setBlock_same hb _, stamped_modify hs _ _ (fun _ _ => rfl) (fun e' _ _ => rfl), ?_, ?_⟩, ⟨rfl, rfl, rfl, by simp [setBlock], fun i _ hi => ChangeMaps.heap_setBlock_other hb _ (fun e => hi (by rw [e]))⟩, by simp [setBlock]⟩
  · simp [Instr.entryStore, MapKept.run_getObj_map hb, goInt, asInt, asIntOf, hfi, MapKept.run_setObj_map _ hb, Result.andThen, setBlock]
  · intro y hy
    rw [hlist] at hy
    rcases List.mem_or_eq_of_mem_set hy with hy | rfl
    · exact hk y hy
    · exact hk e0 (List.mem_of_getElem? h2)
  · have hp : putM L x v = L.map (fun p => if p.1 = x then (x, v) else p) := by unfold putM; rw [hm]; rfl
    rw [hp, hlist, List.map_set, hL]
    apply List.ext_getElem?
    intro i
    rw [List.getElem?_set, List.getElem?_map, List.getElem?_map, List.getElem?_map]
    have hlen : es.toList.length = L.length := by simpa using congrArg List.length hL
    by_cases hij : j = i
    · subst hij
      obtain ⟨hjl, _⟩ := List.getElem?_eq_some_iff.1 h2
      have hjL : j < L.length := by omega
      have hkey : (L[j]).1 = x := by
        have h1 : (es.toList.map (fun y => (y.key, y.val)))[j]? = some (e0.key, e0.val) := by simp [h2]
        rw [hL, List.getElem?_map, List.getElem?_eq_getElem hjL] at h1
        simp only [Option.map_some, Option.some.injEq, Prod.mk.injEq] at h1
        exact hinj _ _ (h1.1.trans h3)
      simp [hjL, hkey, h3]
    · simp only [hij, if_false]
      cases hl : L[i]? with
      | none => rfl
      | some p =>
        have : ¬ p.1 = x := by
          intro hpx
          have h1 : (L.map (fun y => (eK y.1, eV y.2)))[i]? = some (eK p.1, eV p.2) := by simp [hl]
          rw [← hL, List.getElem?_map] at h1
          cases hes : es.toList[i]? with
          | none => simp [hes] at h1
          | some a =>
            simp only [hes, Option.map_some, Option.some.injEq, Prod.mk.injEq] at h1
            have hkk : a.key = e0.key := by rw [h1.1, hpx, h3]
            have := entry_eq_of_key ((stamped_iff es clock).1 hs).2.2 (List.mem_of_getElem? hes) (List.mem_of_getElem? h2) hkk
            subst this
            obtain ⟨a1, a2⟩ := List.getElem?_eq_some_iff.1 hes
            obtain ⟨b1, b2⟩ := List.getElem?_eq_some_iff.1 h2
            have hn := List.pairwise_iff_getElem.1 ((stamped_iff es clock).1 hs).2.2
            rcases Nat.lt_trichotomy i j with hlt | he | hlt
            · exact hn i j a1 b1 hlt (by rw [a2, b2])
            · exact hij he.symm
            · exact hn j i b1 a1 hlt (by rw [a2, b2])
        simp [this]

/-- delete(m, x). -/
theorem MapT.delete (hK : Keyed P k) (hinj : ∀ x y, eK x = eK y → x = y) (ht : P.underlying t = some (.map k e)) (h : MapT P k eK eV w b L) (x : κ) {kl : Lit} (hx : keyOf P k (eK x) = some kl) (ty : TypeId) :
    ∃ w', (Builtin.delete_ #[t, k] ty #[.map (some b), eK x]).run P w = .ok (.tuple #[]) w' ∧ MapT P k eK eV w' b (delM L x) ∧ w.grownBy w' (some b) ∧ w'.heap.size = w.heap.size := by
  obtain ⟨es, clock, hb, hs, hk, hL, h1 | ⟨j, e0, u, h1, h2, h3, h4, h5, h6, hu⟩⟩ := h.find hK hinj x hx
  · refine ⟨setBlock w b (.map es clock), ?_, ⟨es, clock, ChangeMaps.heap_setBlock_same hb _, hs, hk, ?_⟩, ⟨rfl, rfl, rfl, by simp [setBlock], fun i _ hi => ChangeMaps.heap_setBlock_other hb _ (fun e => hi (by rw [e]))⟩, by simp [setBlock]⟩
    · simp [Builtin.delete_, run_underlying ht, MapKept.run_getObj_map hb, hK.check w _ hx, h1.1 w, MapKept.run_setObj_map _ hb, Result.andThen, setBlock]
    · have : delM L x = L := by
        unfold delM
        rw [List.filter_eq_self]
        intro p hp
        simpa using getM_none.1 h1.2.1 p hp
      rw [this, hL]
  · have hjl : j < es.toList.length := (List.getElem?_eq_some_iff.1 h2).1
    have hjs : j < es.size := by simpa using hjl
    have hsub : (es.eraseIdxIfInBounds j).toList = es.toList.eraseIdx j := by
      unfold Array.eraseIdxIfInBounds
      rw [dif_pos hjs]
      simp
    have hdel : delM L x = L.eraseIdx j := by
      have hjL : j < L.length := (List.getElem?_eq_some_iff.1 h4).1
      have hs1 : L = L.take j ++ (x, u) :: L.drop (j + 1) := by
        conv => lhs; rw [← List.take_append_drop j L]
        rw [List.drop_eq_getElem_cons hjL, (List.getElem?_eq_some_iff.1 h4).2]
      have hf1 : (L.take j).filter (fun p => decide (p.1 ≠ x)) = L.take j := by
        rw [List.filter_eq_self]
        intro p hp
        obtain ⟨i, hi⟩ := List.mem_iff_getElem?.1 hp
        have hij : i < j := by have := (List.getElem?_eq_some_iff.1 hi).1; simp at this; omega
        rw [List.getElem?_take, if_pos hij] at hi
        have : p.1 ≠ x := fun e => by have := hu i p hi e; omega
        simpa using this
      have hf2 : (L.drop (j + 1)).filter (fun p => decide (p.1 ≠ x)) = L.drop (j + 1) := by
        rw [List.filter_eq_self]
        intro p hp
        obtain ⟨i, hi⟩ := List.mem_iff_getElem?.1 hp
        rw [List.getElem?_drop] at hi
        have : p.1 ≠ x := fun e => by have := hu _ p hi e; omega
        simpa using this
      unfold delM
      rw [List.eraseIdx_eq_take_drop_succ]
      conv => lhs; rw [hs1]
      rw [List.filter_append, List.filter_cons, hf1, hf2]
      simp
    refine ⟨setBlock w b (.map (es.eraseIdxIfInBounds j) clock), ?_, ⟨_, clock, ChangeMaps.heap_setBlock_same hb _, stamped_erase hs j, ?_, ?_⟩, ⟨rfl, rfl, rfl, by simp [setBlock], fun i _ hi => ChangeMaps.heap_setBlock_other hb _ (fun e => hi (by rw [e]))⟩, by simp [setBlock]⟩
    · simp [Builtin.delete_, run_underlying ht, MapKept.run_getObj_map hb, hK.check w _ hx, h1, MapKept.run_setObj_map _ hb, Result.andThen, setBlock]
    · intro y hy
      rw [hsub] at hy
      exact hk y ((List.eraseIdx_sublist _ _).subset hy)
    · rw [hdel, hsub, ChangeMaps.map_eraseIdx, ChangeMaps.map_eraseIdx, hL]
end laws
end Go.Proofs.Ytdkkpkgfiodlbaa

/- A store of versions in memory: its block, its three maps, the rows that they hold. mvcc.New; what is kept of cells. -/
namespace Go.Proofs.Ytdkkpkgfiodlbaa
open Go.RowKit Go.Maps
open Go.ChangeShapes Go.WideShapes

def i64 (n : Int) : Prop := -9223372036854775808 ≤ n ∧ n ≤ 9223372036854775807
theorem alloc_at (w : World) (o : Obj) : (w.alloc o).heap[w.heap.size]? = some o := by show (w.heap.push o)[w.heap.size]? = some o; simp
theorem cell_of {w : World} {b : Nat} {cs : Array Value} {T : TypeId} {fz : Nat × Nat} (h : w.heap[b]? = some (.cells cs T fz)) (o : Nat) : w.cell? ⟨b, o, none⟩ = cs[o]? := by
  simp [World.cell?, h]
theorem free_of {w : World} {b : Nat} {cs : Array Value} {T : TypeId} (h : w.heap[b]? = some (.cells cs T)) (o : Nat) : w.frozen? ⟨b, o, none⟩ = false := by
  simp [World.frozen?, h]

theorem intKeyed : Keyed Try.prog 3 := int_keyed Try.underlying3
theorem vi_inj (x y : Int) (h : vi x = vi y) : x = y := by simpa using h
theorem wf_of {n : Int} (h : i64 n) : (Lit.int .i64 n).wf = true := by
  simp [Lit.wf, IntKind.min, IntKind.max, IntKind.signed, IntKind.bits]; exact h
theorem intKey {n : Int} (h : i64 n) : ∃ kl, keyOf Try.prog 3 (vi n) = some kl := ⟨_, keyOf_int_mk Try.underlying3 (wf_of h)⟩

/-- All cells stay as they were (maps may turn). -/
def Solid (w w' : World) : Prop := ∀ (j : Nat) (cs : Array Value) (T : TypeId) (fz : Nat × Nat), w.heap[j]? = some (.cells cs T fz) → w'.heap[j]? = some (.cells cs T fz)
theorem Solid.refl (w : World) : Solid w w := fun _ _ _ _ h => h
theorem Solid.trans {a b c : World} (h : Solid a b) (k : Solid b c) : Solid a c := fun j cs T fz h1 => k j cs T fz (h j cs T fz h1)
theorem Solid.later {w A B : World} (h : Solid w A) (hb : Below A.heap.size A B) : Solid w B := fun j cs T fz h1 => by
  have := h j cs T fz h1
  exact (hb.block j (Array.getElem?_eq_some_iff.1 this).1).trans this
theorem Solid.below {A B : World} (hb : Below A.heap.size A B) : Solid A B := (Solid.refl A).later hb
theorem Solid.map {w A B : World} {m c : Nat} {es : Array MapEntry} (h : Solid w A) (hm : A.heap[m]? = some (.map es c)) (hg : A.grownBy B (some m)) : Solid w B := fun j cs T fz h1 => by
  have h3 := h j cs T fz h1
  refine (hg.block j (Array.getElem?_eq_some_iff.1 h3).1 fun e => ?_).trans h3
  have : j = m := by simpa using e
  subst this
  rw [hm] at h3; cases h3
theorem Solid.cell {A B : World} (h : Solid A B) {b o : Nat} {v : Value} (hc : A.cell? ⟨b, o, none⟩ = some v) : B.cell? ⟨b, o, none⟩ = some v := by
  unfold World.cell? at hc ⊢
  cases hA : A.heap[b]? with
  | none => simp [hA] at hc
  | some ob =>
    cases ob with
    | cells cs T fz => rw [h b _ _ _ hA]; simpa [hA] using hc
    | _ => simp [hA] at hc
theorem RdS.solid {α : Type} {n : Nat} {E : World → List Value → α → Prop} {A B : World} {v : Value} {xs : List α} (h : RdS n E A v xs) (hs : Solid A B) (hE : ∀ cs x, E A cs x → E B cs x) : RdS n E B v xs := by
  obtain ⟨a, len, cap, h1, h2, h3, h4, h5, h6⟩ := h
  refine ⟨a, len, cap, h1, h2, h3, h4, h5, fun j x hj => ?_⟩
  obtain ⟨b, off, cs, ha, hl, hc, he⟩ := h6 j x hj
  exact ⟨b, off, cs, ha, hl, fun i u hu => hs.cell (hc i u hu), hE _ _ he⟩
theorem RdOps.solid {A B : World} {v : Value} {l : List GOp} (h : RdOps A v l) (hs : Solid A B) : RdOps B v l := RdS.solid h hs fun _ _ h => h

abbrev RdInts (w : World) (v : Value) (xs : List Int) : Prop := RdS 1 EInt w v xs
theorem RdInts.at {w : World} {v : Value} {xs : List Int} (h : RdInts w v xs) : ∃ a len cap, v = .slice a len cap ∧ len = xs.length ∧ xs.length ≤ 9223372036854775807 ∧ ∀ j x, xs[j]? = some x → ∃ b off, a = some ⟨b, off, none⟩ ∧ w.cell? ⟨b, off + j, none⟩ = some (.int .i64 x) ∧ i64 x := by
  obtain ⟨a, len, cap, h1, h2, h3, h4, h5, h6⟩ := h
  refine ⟨a, len, cap, h1, h2, h3, fun j x hj => ?_⟩
  obtain ⟨b, off, cs, ha, hl, hc, rfl, hx⟩ := h6 j x hj
  exact ⟨b, off, ha, by have := hc 0 _ rfl; simpa using this, hx⟩
theorem RdInts.later {w w' : World} {v : Value} {xs : List Int} (h : RdInts w v xs) (hb : Below w.heap.size w w') : RdInts w' v xs := RdS.below h hb fun _ _ h => h
theorem RdInts.solid {A B : World} {v : Value} {l : List Int} (h : RdInts A v l) (hs : Solid A B) : RdInts B v l := RdS.solid h hs fun _ _ h => h

/-- A version: from which time on, the value. -/
abbrev Ver := Int × Int
def verV (x : Ver) : List Value := [vi x.1, vi x.2]
def EVer (_ : World) (cs : List Value) (x : Ver) : Prop := cs = verV x ∧ i64 x.1
abbrev RdVer (w : World) (v : Value) (l : List Ver) : Prop := RdS 2 EVer w v l
theorem RdVer.later {w w' : World} {v : Value} {xs : List Ver} (h : RdVer w v xs) (hb : Below w.heap.size w w') : RdVer w' v xs := RdS.below h hb fun _ _ h => h
theorem RdVer.solid {A B : World} {v : Value} {l : List Ver} (h : RdVer A v l) (hs : Solid A B) : RdVer B v l := RdS.solid h hs fun _ _ h => h
theorem RdVer.at {w : World} {v : Value} {xs : List Ver} (h : RdVer w v xs) : ∃ a len cap, v = .slice a len cap ∧ len = xs.length ∧ xs.length ≤ 9223372036854775807 ∧ ∀ j x, xs[j]? = some x → ∃ b off, a = some ⟨b, off, none⟩ ∧ w.cell? ⟨b, off + j * 2, none⟩ = some (vi x.1) ∧ w.cell? ⟨b, off + j * 2 + 1, none⟩ = some (vi x.2) ∧ i64 x.1 := by
  obtain ⟨a, len, cap, h1, h2, h3, h4, h5, h6⟩ := h
  refine ⟨a, len, cap, h1, h2, h3, fun j x hj => ?_⟩
  obtain ⟨b, off, cs, ha, hl, hc, rfl, hx⟩ := h6 j x hj
  exact ⟨b, off, ha, by simpa using hc 0 _ rfl, by simpa [Nat.add_assoc] using hc 1 _ rfl, hx⟩

/-- A transaction that waits. -/
structure Rdy where
  txn : Int
  home : Int
  start : Int
  writes : List GOp
  reads : List Int
/-- .. and the slice values that its lists lie in. -/
structure RV where
  wv : Value
  rv : Value
  r : Rdy
def rdyC (x : RV) : Array Value := #[vi x.r.txn, vi x.r.home, vi x.r.start, x.wv, x.rv]
def rdyV (x : RV) : Value := .agg (rdyC x)
structure RdyS (W : World) (x : RV) : Prop where
  ws : RdOps W x.wv x.r.writes
  rs : RdInts W x.rv x.r.reads
theorem RdyS.solid {A B : World} {x : RV} (h : RdyS A x) (hs : Solid A B) : RdyS B x := ⟨h.ws.solid hs, h.rs.solid hs⟩
theorem RdyS.later {A B : World} {x : RV} (h : RdyS A x) (hb : Below A.heap.size A B) : RdyS B x := h.solid (Solid.below hb)
/-- What became of a transaction. -/
structure EndM where
  txn : Int
  commit : Bool
  at_ : Int
deriving DecidableEq
def endV (e : EndM) : Value := .agg #[vi e.txn, .bool e.commit, vi e.at_]

abbrev KV := Value × List Ver
abbrev KeysL := List (Int × KV)
abbrev RdyL := List (Int × RV)
abbrev EndL := List (Int × EndM)
abbrev MapK (w : World) (b : Nat) (L : KeysL) : Prop := MapT Try.prog 3 vi (fun x : KV => x.1) w b L
abbrev MapR (w : World) (b : Nat) (L : RdyL) : Prop := MapT Try.prog 3 vi rdyV w b L
abbrev MapE (w : World) (b : Nat) (L : EndL) : Prop := MapT Try.prog 3 vi endV w b L

structure MvS (base p mk mr me : Nat) (serial : Bool) (bugs : Int) (K : KeysL) (R : RdyL) (E : EndL) (W : World) : Prop where
  blk : W.heap[p]? = some (.cells #[.bool serial, vi bugs, .map (some mk), .map (some mr), .map (some me)] 112)
  keys : MapK W mk K
  ready : MapR W mr R
  ends : MapE W me E
  krow : ∀ x ∈ K, RdVer W x.2.1 x.2.2
  rrow : ∀ x ∈ R, RdyS W x.2
  bp : base ≤ p
  bk : base ≤ mk
  br : base ≤ mr
  be : base ≤ me
  kr : mk ≠ mr
  ke : mk ≠ me
  re : mr ≠ me
theorem MvS.later {base p mk mr me : Nat} {serial : Bool} {bugs : Int} {K : KeysL} {R : RdyL} {E : EndL} {A B : World} (h : MvS base p mk mr me serial bugs K R E A) (hb : Below A.heap.size A B) : MvS base p mk mr me serial bugs K R E B :=
  ⟨(hb.block p (Array.getElem?_eq_some_iff.1 h.blk).1).trans h.blk, h.keys.below hb h.keys.lt, h.ready.below hb h.ready.lt, h.ends.below hb h.ends.lt, fun x hx => (h.krow x hx).later hb, fun x hx => (h.rrow x hx).later hb, h.bp, h.bk, h.br, h.be, h.kr, h.ke, h.re⟩

theorem MapT.obj {κ ν : Type} {P : Program} {k : TypeId} {eK : κ → Value} {eV : ν → Value} {w : World} {b : Nat} {L : List (κ × ν)} (h : MapT P k eK eV w b L) : ∃ es c, w.heap[b]? = some (.map es c) := by
  obtain ⟨es, c, hb, _⟩ := h; exact ⟨es, c, hb⟩

theorem Try.infoI : (Try.prog.info? 3).map (fun i => (i.zero, i.size, i.bytes)) = some (some (vi 0), 1, 8) := by kernel_rfl
theorem eltI : Elt Try.prog 27 3 1 8 (vi 0) := by
  obtain ⟨i0, hi, hz0, hz1, hz2⟩ := info_parts Try.infoI
  exact ⟨Try.underlying27, by decide, rfl, i0, hi, hz0, hz1, hz2⟩
theorem Try.infoVer : (Try.prog.info? 135).map (fun i => (i.zero, i.size, i.bytes)) = some (some (.agg #[vi 0, vi 0]), 2, 16) := by kernel_rfl
theorem eltVer : Elt Try.prog 133 135 2 16 (.agg #[vi 0, vi 0]) := by
  obtain ⟨i0, hi, hz0, hz1, hz2⟩ := info_parts Try.infoVer
  exact ⟨Try.underlying133, by decide, rfl, i0, hi, hz0, hz1, hz2⟩
def viC (p : Int) : List Value := [vi p]
/-- A row of ints that the call owns. -/
def OwI (base : Nat) (w : World) (v : Value) (xs : List Int) : Prop := w.ownsRow base 3 1 v xs.length (xs.flatMap viC)

def NewQ (w : World) (serial : Bool) (bugs : Int) (e : Ending) (w' : World) : Prop := ∃ p mk mr me, e = .returned (.pointer (some ⟨p, 0, none⟩)) ∧ MvS w.heap.size p mk mr me serial bugs [] [] [] w' ∧ Below w.heap.size w w'

set_option maxRecDepth 100000 in
set_option maxHeartbeats 1000000 in
theorem new_call (serial : Bool) (bugs : Int) (w : World) : Calls Try.prog 28 #[.bool serial, vi bugs] w (NewQ w serial bugs) := by
  have hmm := @run_makeMap Try.prog
  go_enter Try.func28, Try.ntmps28
  go_wp2_with fail
  go_ret
  have h1 : MapK (w.alloc (.map #[] 0)) w.heap.size [] := MapT.made w
  have h2 : MapR ((w.alloc (.map #[] 0)).alloc (.map #[] 0)) (w.alloc (.map #[] 0)).heap.size [] := MapT.made _
  have h3 : MapE (((w.alloc (.map #[] 0)).alloc (.map #[] 0)).alloc (.map #[] 0)) ((w.alloc (.map #[] 0)).alloc (.map #[] 0)).heap.size [] := MapT.made _
  refine ⟨w.heap.size + 3, w.heap.size, w.heap.size + 1, w.heap.size + 2, rfl, ⟨?_, ?_, ?_, ?_, (fun x hx => by cases hx), (fun x hx => by cases hx), by omega, Nat.le_refl _, by omega, by omega, by omega, by omega, by omega⟩, ?_⟩
  · have := alloc_at (((w.alloc (.map #[] 0)).alloc (.map #[] 0)).alloc (.map #[] 0)) (.cells #[.bool serial, vi bugs, .map (some w.heap.size), .map (some (w.heap.size + 1)), .map (some (w.heap.size + 2))] 112)
    simpa using this
  · exact h1.below ((((Below.refl (w.alloc (.map #[] 0)).heap.size (w.alloc (.map #[] 0))).alloc (Nat.le_refl _) _).alloc (by simp) _).alloc (by simp <;> omega) _) h1.lt
  · have := h2.below (((Below.refl ((w.alloc (.map #[] 0)).alloc (.map #[] 0)).heap.size ((w.alloc (.map #[] 0)).alloc (.map #[] 0))).alloc (Nat.le_refl _) (.map #[] 0)).alloc (by simp) (.cells #[.bool serial, vi bugs, .map (some w.heap.size), .map (some (w.heap.size + 1)), .map (some (w.heap.size + 2))] 112)) h2.lt
    simpa using this
  · have := h3.below ((Below.refl (((w.alloc (.map #[] 0)).alloc (.map #[] 0)).alloc (.map #[] 0)).heap.size (((w.alloc (.map #[] 0)).alloc (.map #[] 0)).alloc (.map #[] 0))).alloc (Nat.le_refl _) (.cells #[.bool serial, vi bugs, .map (some w.heap.size), .map (some (w.heap.size + 1)), .map (some (w.heap.size + 2))] 112)) h3.lt
    simpa using this
  · exact ((((Below.refl _ _).alloc (Nat.le_refl _) _).alloc (by simp) _).alloc (by simp <;> omega) _).alloc (by simp <;> omega) _
end Go.Proofs.Ytdkkpkgfiodlbaa

/- (mvcc.Ready).Bits. -/
namespace Go.Proofs.Ytdkkpkgfiodlbaa
open Go.RowKit

def opL (o : GOp) : List Bool := intL o.key ++ intL o.val
def opsBL (ws : List GOp) : List Bool := ws.flatMap opL
def intsBL (rs : List Int) : List Bool := rs.flatMap intL
/-- A transaction that waits, in bits. -/
def rdyBL (r : Rdy) : List Bool := intL r.txn ++ intL r.home ++ intL r.start ++ numL r.writes.length ++ opsBL r.writes ++ numL r.reads.length ++ intsBL r.reads
theorem intL_length {z : Int} (h : IntOk z) : (intL z).length ≤ 129 := numL_length _ (zig_lt h.1 h.2)
theorem opsBL_length : ∀ ws : List GOp, (∀ o ∈ ws, IntOk o.key ∧ IntOk o.val) → (opsBL ws).length ≤ 258 * ws.length
  | [], _ => by simp [opsBL]
  | o :: ws, h => by
    have h1 := h o (by simp)
    have := opsBL_length ws (fun x hx => h x (by simp [hx]))
    have a := intL_length h1.1
    have b := intL_length h1.2
    simp only [opsBL, List.flatMap_cons, List.length_append, opL, List.length_cons] at *
    omega
theorem intsBL_length : ∀ rs : List Int, (∀ o ∈ rs, IntOk o) → (intsBL rs).length ≤ 129 * rs.length
  | [], _ => by simp [intsBL]
  | o :: ws, h => by
    have h1 := h o (by simp)
    have := intsBL_length ws (fun x hx => h x (by simp [hx]))
    have a := intL_length h1
    simp only [intsBL, List.flatMap_cons, List.length_append, List.length_cons] at *
    omega
theorem opsBL_snoc {ws : List GOp} {k : Nat} {o : GOp} (h : ws[k]? = some o) : opsBL (ws.take (k + 1)) = opsBL (ws.take k) ++ (intL o.key ++ intL o.val) := by
  rw [take_at h]; simp [opsBL, opL]
theorem intsBL_snoc {ws : List Int} {k : Nat} {o : Int} (h : ws[k]? = some o) : intsBL (ws.take (k + 1)) = intsBL (ws.take k) ++ intL o := by
  rw [take_at h]; simp [intsBL]
theorem opsBL_take (ws : List GOp) (k : Nat) : (opsBL (ws.take k)).length ≤ (opsBL ws).length := by
  have h : opsBL ws = opsBL (ws.take k) ++ opsBL (ws.drop k) := by unfold opsBL; rw [← List.flatMap_append, List.take_append_drop]
  rw [h, List.length_append]; omega
theorem intsBL_take (ws : List Int) (k : Nat) : (intsBL (ws.take k)).length ≤ (intsBL ws).length := by
  have h : intsBL ws = intsBL (ws.take k) ++ intsBL (ws.drop k) := by unfold intsBL; rw [← List.flatMap_append, List.take_append_drop]
  rw [h, List.length_append]; omega
/-- What the numbers of a transaction are within. -/
structure RdyOk (r : Rdy) : Prop where
  txn : IntOk r.txn
  home : IntOk r.home
  start : IntOk r.start
  ws : ∀ o ∈ r.writes, IntOk o.key ∧ IntOk o.val
  rs : ∀ k ∈ r.reads, IntOk k
theorem FrW.alloc {base p : Nat} {a b : World} (h : FrW base p a b) (o : Obj) : FrW base p a (b.alloc o) := h.trans (FrW.below ((Below.refl _ _).alloc (Nat.le_refl _) o))
theorem WrS.alloc {base p : Nat} {L : List Bool} {A : World} (h : WrS base p L A) (o : Obj) : WrS base p L (A.alloc o) := h.later ((Below.refl _ _).alloc (Nat.le_refl _) o)

set_option maxRecDepth 100000 in
set_option maxHeartbeats 8000000 in
theorem rdyBits_call2 {base p : Nat} {L : List Bool} (x : RV) (w : World) (hw : WrS base p L w) (hb : base ≤ w.heap.size) (hx : ∀ W, Below base w W → RdyS W x) (hi : RdyOk x.r) (hT : L.length + (rdyBL x.r).length ≤ 1000000) :
    Calls Try.prog 34 #[rdyV x, .pointer (some ⟨p, 0, none⟩)] w (PutQ base p (L ++ rdyBL x.r) w) := by
  obtain ⟨wv, rv, r⟩ := x
  have hx0 := hx w (Below.refl _ _)
  obtain ⟨aw, nw, cw, hwv, rfl, hmw, -⟩ := (show RdOps w wv r.writes from hx0.ws).at
  obtain ⟨ar, nr, cr, hrv, rfl, hmr, -⟩ := (show RdInts w rv r.reads from hx0.rs).at
  subst hwv hrv
  clear hx0
  have HX := Lib.hid (Bt.alloc_at w (.cells (rdyC ⟨.slice aw r.writes.length cw, .slice ar r.reads.length cr, r⟩) 29))
  have HW := Lib.hid (hw.alloc (.cells (rdyC ⟨.slice aw r.writes.length cw, .slice ar r.reads.length cr, r⟩) 29))
  have HF := Lib.hid ((FrW.refl base p w).alloc (.cells (rdyC ⟨.slice aw r.writes.length cw, .slice ar r.reads.length cr, r⟩) 29))
  have hne := hw.lt
  have HRD := Lib.hid hx
  have HI := Lib.hid hi
  have hl1 := intL_length hi.txn
  have hl2 := intL_length hi.home
  have hl3 := intL_length hi.start
  have hl4 := numL_length r.writes.length (by omega)
  have hl5 := numL_length r.reads.length (by omega)
  simp only at hT
  have hlen := Lib.hid (show (rdyBL r).length = (intL r.txn).length + (intL r.home).length + (intL r.start).length + (numL r.writes.length).length + (opsBL r.writes).length + (numL r.reads.length).length + (intsBL r.reads).length by simp [rdyBL]; omega)
  have hsum : L.length + ((intL r.txn).length + (intL r.home).length + (intL r.start).length + (numL r.writes.length).length + (opsBL r.writes).length + (numL r.reads.length).length + (intsBL r.reads).length) ≤ 1000000 := by rw [← hlen.out]; exact hT
  have hba : base ≤ (w.alloc (.cells (rdyC ⟨.slice aw r.writes.length cw, .slice ar r.reads.length cr, r⟩) 29)).heap.size := by simp; omega
  clear hx hi
  unfold rdyV at *
  unfold rdyC at *
  simp only at HX HW HF hba
  go_enter Try.func34, Try.ntmps34
  go_upto_region 1 with fail
  generalize w.alloc (.cells #[vi r.txn, vi r.home, vi r.start, .slice aw r.writes.length cw, .slice ar r.reads.length cr] 29) = w1 at *
  obtain ⟨X, hX⟩ : ∃ X, X = w.heap.size := ⟨_, rfl⟩
  rw [← hX] at HX hne ⊢
  have hnX : X ≠ p := by omega
  have hbX : base ≤ X := by omega
  have HXE := Lib.hid hX
  clear hX hb hw
  have x0 : w1.cell? ⟨X, 0, none⟩ = some (vi r.txn) := by rw [Bt.cell_of HX.out]; rfl
  go_upto_region 2 with (go_at_call 33; refine (int_call (L := L) r.txn w1 HW.out HI.out.txn.1 HI.out.txn.2 (by omega) hba).mono ?_; rintro e2 w2 ⟨rfl, hw2, hf2⟩; have HW2 := Lib.hid hw2; have HF2 := Lib.hid hf2; have hz2 := Nat.le_trans hba hf2.size; have x1 : w2.cell? ⟨X, 1, none⟩ = some (vi r.home) := (by rw [Bt.cell_of (hf2.cells HX.out hnX (by decide))]; rfl); have HX2 := Lib.hid (hf2.cells HX.out hnX (by decide)); clear hw2 hf2)
  go_upto_region 3 with (go_at_call 33; refine (int_call (L := L ++ intL r.txn) r.home w2 HW2.out HI.out.home.1 HI.out.home.2 (by simp; omega) hz2).mono ?_; rintro e3 w3 ⟨rfl, hw3, hf3⟩; have HW3 := Lib.hid hw3; have HF3 := Lib.hid hf3; have hz3 := Nat.le_trans hz2 hf3.size; have x2 : w3.cell? ⟨X, 2, none⟩ = some (vi r.start) := (by rw [Bt.cell_of (hf3.cells HX2.out hnX (by decide))]; rfl); have HX3 := Lib.hid (hf3.cells HX2.out hnX (by decide)); clear hw3 hf3)
  go_upto_region 4 with (go_at_call 33; refine (int_call (L := L ++ intL r.txn ++ intL r.home) r.start w3 HW3.out HI.out.start.1 HI.out.start.2 (by simp; omega) hz3).mono ?_; rintro e4 w4 ⟨rfl, hw4, hf4⟩; have HW4 := Lib.hid hw4; have HF4 := Lib.hid hf4; have hz4 := Nat.le_trans hz3 hf4.size; have x3 : w4.cell? ⟨X, 3, none⟩ = some (.slice aw r.writes.length cw) := (by rw [Bt.cell_of (hf4.cells HX3.out hnX (by decide))]; rfl); have HX4 := Lib.hid (hf4.cells HX3.out hnX (by decide)); clear hw4 hf4)
  have hwr1 : IntKind.u64.wrap (r.writes.length : Int) = (r.writes.length : Int) := by rw [IntKind.wrap_u64]; omega
  go_upto_region 5 with (go_at_call 54; refine (num_call (L := L ++ intL r.txn ++ intL r.home ++ intL r.start) r.writes.length w4 HW4.out (by omega) (by simp; omega) hz4).mono ?_; rintro e5 w5 ⟨rfl, hw5, hf5⟩; have HW5 := Lib.hid hw5; have HF5 := Lib.hid hf5; have hz5 := Nat.le_trans hz4 hf5.size; have x3' : w5.cell? ⟨X, 3, none⟩ = some (.slice aw r.writes.length cw) := (by rw [Bt.cell_of (hf5.cells HX4.out hnX (by decide))]; rfl); have HX5 := Lib.hid (hf5.cells HX4.out hnX (by decide)); clear hw5 hf5)
  have HFA := Lib.hid ((((HF.out.trans HF2.out).trans HF3.out).trans HF4.out).trans HF5.out)
  have HW5' := HW5
  clear x0 x1 x2 x3 HW HW2 HW3 HW4 HF HF2 HF3 HF4 HF5 HX HX2 HX3 HX4 hba hz2 hz3 hz4 hwr1
  obtain ⟨L5, hL5⟩ : ∃ L5, L5 = L ++ intL r.txn ++ intL r.home ++ intL r.start ++ numL r.writes.length := ⟨_, rfl⟩
  rw [← hL5] at HW5
  have hl55 : L5.length = L.length + (intL r.txn).length + (intL r.home).length + (intL r.start).length + (numL r.writes.length).length := by rw [hL5]; simp; omega
  have HLL5 := Lib.hid hl55
  have HL5 := Lib.hid hL5
  have hl5m : L5.length + (opsBL r.writes).length + (numL r.reads.length).length + (intsBL r.reads).length ≤ 1000000 := by omega
  clear hL5 hl55 HW5'
  go_wp2_with fail
  go_loopw [29] (fun i wr => ∃ k : Nat, k ≤ r.writes.length ∧ i = vi k ∧ Hid (WrS base p (L5 ++ opsBL (r.writes.take k)) wr ∧ FrW base p w wr ∧ wr.heap[X]? = some (.cells #[vi r.txn, vi r.home, vi r.start, .slice aw r.writes.length cw, .slice ar r.reads.length cr] 29))) (fun i _ => r.writes.length - (intOf i).toNat)
  case atStart => exact ⟨0, Nat.zero_le _, rfl, Lib.hid ⟨by simpa [opsBL] using HW5.out, HFA.out, HX5.out⟩⟩
  case round =>
    obtain ⟨wj, rfl⟩ : ∃ wj : World, wj = wr := ⟨_, rfl⟩
    obtain ⟨k, hk, rfl, HJ⟩ := hrel
    have HBJ := Lib.hid (HJ.out.2.1.toBelow (by have := HXE.out; omega) HJ.out.1.1)
    by_cases hlt : k < r.writes.length
    · have k1 : decide ((k : Int) < r.writes.length) = true := decide_eq_true (by omega)
      have hwk : IntKind.i64.wrap ((k : Int) + 1) = (k : Int) + 1 := IntWalk.i64_in _ (by omega)
      obtain ⟨o, ho⟩ := some_at hlt
      have HO := Lib.hid ho
      have hoi := HI.out.ws o (List.mem_of_getElem? ho)
      obtain ⟨a', n', c', he, _, _, hcells⟩ := (show RdOps wj (.slice aw r.writes.length cw) r.writes from (HRD.out wj HBJ.out).ws).at
      obtain ⟨b, off, ha, k2, k3, k4⟩ := hcells k o ho
      simp only [Value.slice.injEq] at he
      obtain ⟨rfl, -, -⟩ := he
      subst ha
      clear hcells ho
      have hpj := HJ.out.1.lt
      have HWA := Lib.hid (HJ.out.1.alloc (.cells #[vi o.kind, vi o.key, vi o.val] 104))
      have HYA := Lib.hid (Bt.alloc_at wj (.cells #[vi o.kind, vi o.key, vi o.val] 104))
      have HFA1 := Lib.hid ((FrW.refl base p wj).alloc (.cells #[vi o.kind, vi o.key, vi o.val] 104))
      have hjb : base ≤ (wj.alloc (.cells #[vi o.kind, vi o.key, vi o.val] 104)).heap.size := by have := HBJ.out.size; have := HXE.out; simp; omega
      have htk := opsBL_snoc HO.out
      have hlk : (opsBL (r.writes.take k)).length ≤ (opsBL r.writes).length := opsBL_take _ _
      have hla := intL_length hoi.1
      have HTK := Lib.hid htk
      clear htk
      go_upto_region 8 with fail
      generalize wj.alloc (.cells #[vi o.kind, vi o.key, vi o.val] 104) = wa at *
      obtain ⟨Y, hY⟩ : ∃ Y, Y = wj.heap.size := ⟨_, rfl⟩
      rw [← hY] at HYA hpj ⊢
      have hnY : Y ≠ p := by omega
      have y1 : wa.cell? ⟨Y, 1, none⟩ = some (vi o.key) := by rw [Bt.cell_of HYA.out]; rfl
      have HY := Lib.hid hY
      clear hY
      go_wp2_with (first
        | (go_at_call 33; refine (int_call (L := L5 ++ opsBL (r.writes.take k) ++ intL o.key) o.val wb HWB.out hoi.2.1 hoi.2.2 (by simp; omega) hzb).mono ?_; rintro ec wc ⟨rfl, hwc, hfc⟩; have HWC := Lib.hid hwc; have HFC := Lib.hid hfc; clear hwc hfc)
        | (go_at_call 33; refine (int_call (L := L5 ++ opsBL (r.writes.take k)) o.key wa HWA.out hoi.1.1 hoi.1.2 (by simp; omega) hjb).mono ?_; rintro eb wb ⟨rfl, hwb, hfb⟩; have HWB := Lib.hid hwb; have HFB := Lib.hid hfb; have hzb := Nat.le_trans hjb hfb.size; have y2 : wb.cell? ⟨Y, 2, none⟩ = some (vi o.val) := (by rw [Bt.cell_of (hfb.cells HYA.out hnY (by decide))]; rfl); clear hwb hfb))
      refine ⟨⟨k + 1, by omega, by go_num, Lib.hid ⟨?_, ?_, ?_⟩⟩, by simp only [intOf]; omega⟩
      · rw [HTK.out, ← List.append_assoc, ← List.append_assoc]; exact HWC.out
      · exact ((HJ.out.2.1.trans HFA1.out).trans HFB.out).trans HFC.out
      · exact ((HFA1.out.trans HFB.out).trans HFC.out).cells HJ.out.2.2 hnX (by decide)
    · have k1 : decide ((k : Int) < r.writes.length) = false := decide_eq_false (by omega)
      have hke := Lib.hid (show k = r.writes.length by omega)
      have HWJ := Lib.hid HJ.out.1
      have hjb : base ≤ wj.heap.size := by have := HBJ.out.size; have := HXE.out; omega
      have HWJ2 : Hid (WrS base p (L5 ++ opsBL r.writes) wj) := by have := HJ.out.1; rw [hke.out, List.take_length] at this; exact Lib.hid this
      have HFJ := Lib.hid HJ.out.2.1
      have HXJ := Lib.hid HJ.out.2.2
      have x4 : wj.cell? ⟨X, 4, none⟩ = some (.slice ar r.reads.length cr) := by rw [Bt.cell_of HJ.out.2.2]; rfl
      have hwr2 : IntKind.u64.wrap (r.reads.length : Int) = (r.reads.length : Int) := by rw [IntKind.wrap_u64]; omega
      have HJ0 := HJ
      clear HJ0 HJ HWJ
      go_upto_region 12 with (go_at_call 54; refine (num_call (L := L5 ++ opsBL r.writes) r.reads.length wj HWJ2.out (by omega) (by simp; omega) hjb).mono ?_; rintro e6 w6 ⟨rfl, hw6, hf6⟩; have HW6 := Lib.hid hw6; have HF6 := Lib.hid hf6; have hz6 := Nat.le_trans hjb hf6.size; have x4' : w6.cell? ⟨X, 4, none⟩ = some (.slice ar r.reads.length cr) := (by rw [Bt.cell_of (hf6.cells HXJ.out hnX (by decide))]; rfl); clear hw6 hf6)
      obtain ⟨L6, hL6⟩ : ∃ L6, L6 = L5 ++ opsBL r.writes ++ numL r.reads.length := ⟨_, rfl⟩
      rw [← hL6] at HW6
      have hl66 : L6.length = L5.length + (opsBL r.writes).length + (numL r.reads.length).length := by rw [hL6]; simp; omega
      have hl6m : L6.length + (intsBL r.reads).length ≤ 1000000 := by omega
      have HL6 := Lib.hid hL6
      have HF6J := Lib.hid (HFJ.out.trans HF6.out)
      clear hL6 hl66
      go_wp2_with fail
      go_loopw [51] (fun i wr => ∃ k : Nat, k ≤ r.reads.length ∧ i = vi k ∧ Hid (WrS base p (L6 ++ intsBL (r.reads.take k)) wr ∧ FrW base p w wr)) (fun i _ => r.reads.length - (intOf i).toNat)
      case atStart => exact ⟨0, Nat.zero_le _, rfl, Lib.hid ⟨by simpa [intsBL] using HW6.out, HF6J.out⟩⟩
      case round =>
        obtain ⟨wq, rfl⟩ : ∃ wq : World, wq = wr := ⟨_, rfl⟩
        obtain ⟨q, hq, rfl, HQ⟩ := hrel
        have HBQ := Lib.hid (HQ.out.2.toBelow (by have := HXE.out; omega) HQ.out.1.1)
        by_cases hlt2 : q < r.reads.length
        · have k1 : decide ((q : Int) < r.reads.length) = true := decide_eq_true (by omega)
          have hwk : IntKind.i64.wrap ((q : Int) + 1) = (q : Int) + 1 := IntWalk.i64_in _ (by omega)
          obtain ⟨o, ho⟩ := some_at hlt2
          have HO := Lib.hid ho
          have hoi := HI.out.rs o (List.mem_of_getElem? ho)
          obtain ⟨a', n', c', he, _, _, hcells⟩ := (show RdInts wq (.slice ar r.reads.length cr) r.reads from (HRD.out wq HBQ.out).rs).at
          obtain ⟨b, off, ha, k2, _⟩ := hcells q o ho
          simp only [Value.slice.injEq] at he
          obtain ⟨rfl, -, -⟩ := he
          subst ha
          have htk := intsBL_snoc ho
          have hlk : (intsBL (r.reads.take q)).length ≤ (intsBL r.reads).length := intsBL_take _ _
          have hqb : base ≤ wq.heap.size := by have := HBQ.out.size; have := HXE.out; omega
          have HTK := Lib.hid htk
          clear hcells ho htk
          go_wp2_with (go_at_call 33; refine (int_call (L := L6 ++ intsBL (r.reads.take q)) o wq HQ.out.1 hoi.1 hoi.2 (by simp; omega) hqb).mono ?_; rintro eb wb ⟨rfl, hwb, hfb⟩; have HWB := Lib.hid hwb; have HFB := Lib.hid hfb; clear hwb hfb)
          refine ⟨⟨q + 1, by omega, by go_num, Lib.hid ⟨?_, HQ.out.2.trans HFB.out⟩⟩, by simp only [intOf]; omega⟩
          rw [HTK.out, ← List.append_assoc]; exact HWB.out
        · have k1 : decide ((q : Int) < r.reads.length) = false := decide_eq_false (by omega)
          have hqe := Lib.hid (show q = r.reads.length by omega)
          go_wp2_with fail
          go_end0
          refine ⟨rfl, ?_, HQ.out.2⟩
          have h1 := HQ.out.1
          rw [hqe.out, List.take_length] at h1
          have h2 : L ++ rdyBL r = L6 ++ intsBL r.reads := by rw [HL6.out, HL5.out]; simp [rdyBL]
          show WrS base p (L ++ rdyBL r) wq
          rw [h2]; exact h1
theorem rdyBits_call {base p : Nat} {L : List Bool} (x : RV) (w : World) (hw : WrS base p L w) (hb : base ≤ w.heap.size) (hx : ∀ W, Below base w W → RdyS W x) (hi : RdyOk x.r) (hlw : x.r.writes.length ≤ 1000) (hlr : x.r.reads.length ≤ 1000) (hL : L.length ≤ 500000) :
    Calls Try.prog 34 #[rdyV x, .pointer (some ⟨p, 0, none⟩)] w (PutQ base p (L ++ rdyBL x.r) w) := by
  have l1 := intL_length hi.txn
  have l2 := intL_length hi.home
  have l3 := intL_length hi.start
  have l4 := numL_length x.r.writes.length (by omega)
  have l5 := numL_length x.r.reads.length (by omega)
  have l6 := opsBL_length x.r.writes hi.ws
  have l7 := intsBL_length x.r.reads hi.rs
  exact rdyBits_call2 x w hw hb hx hi (by simp only [rdyBL, List.length_append]; omega)
end Go.Proofs.Ytdkkpkgfiodlbaa

/- Readings one behind the other. Plain. -/
namespace Go.Proofs.Ytdkkpkgfiodlbaa

theorem RdOK.seq {α β : Type} {e1 : α → List Bool} {o1 : α → Prop} {e2 : β → List Bool} {o2 : β → Prop} {s s1 s2 : Rd} {x : α} {y : β} (h : RdOK e1 o1 s s1 x) (k : RdOK e2 o2 s1 s2 y) :
    RdOK (fun z : α × β => e1 z.1 ++ e2 z.2) (fun z => o1 z.1 ∧ o2 z.2) s s2 (x, y) := by
  refine ⟨fun h0 z t hz e => ?_, fun h0 => ?_⟩
  · obtain ⟨a, b, c⟩ := h.1 h0 z.1 (e2 z.2 ++ t) hz.1 (by rw [e, List.append_assoc])
    obtain ⟨a', b', c'⟩ := k.1 c z.2 t hz.2 b
    exact ⟨by rw [a, a'], b', c'⟩
  · obtain ⟨a, b, c⟩ := k.2 h0
    obtain ⟨a', b', c'⟩ := h.2 a
    exact ⟨a', ⟨b', b⟩, by rw [c', c, List.append_assoc]⟩
/-- The same reading told of another kind of thing. -/
theorem RdOK.map {α β : Type} {e1 : α → List Bool} {o1 : α → Prop} {e2 : β → List Bool} {o2 : β → Prop} {s s1 : Rd} {x : α} (h : RdOK e1 o1 s s1 x) (f : α → β) (g : β → α) (hg : ∀ y, o2 y → o1 (g y) ∧ e2 y = e1 (g y) ∧ f (g y) = y) (hf : ∀ x, o1 x → o2 (f x) ∧ e2 (f x) = e1 x) : RdOK e2 o2 s s1 (f x) := by
  refine ⟨fun h0 y t hy e => ?_, fun h0 => ?_⟩
  · obtain ⟨p, q, r⟩ := hg y hy
    obtain ⟨a, b, c⟩ := h.1 h0 (g y) t p (by rw [e, q])
    exact ⟨by rw [a, r], b, c⟩
  · obtain ⟨a, b, c⟩ := h.2 h0
    obtain ⟨p, q⟩ := hf x b
    exact ⟨a, p, by rw [q, c]⟩
abbrev LenOk {α : Type} (ok : α → Prop) (n : Nat) (l : List α) : Prop := l.length = n ∧ ∀ x ∈ l, ok x
theorem RdOK.none {α : Type} {enc : α → List Bool} {ok : α → Prop} (s : Rd) : RdOK (fun l : List α => l.flatMap enc) (LenOk ok 0) s s [] := by
  refine ⟨fun h0 y t hy e => ?_, fun h0 => ⟨h0, ⟨rfl, fun x h => by cases h⟩, by simp⟩⟩
  obtain rfl := List.length_eq_zero_iff.1 hy.1
  exact ⟨rfl, by simpa using e, h0⟩
theorem RdOK.snoc {α : Type} {enc : α → List Bool} {ok : α → Prop} {k : Nat} {s s1 s2 : Rd} {l : List α} {x : α} (h : RdOK (fun l : List α => l.flatMap enc) (LenOk ok k) s s1 l) (hx : RdOK enc ok s1 s2 x) :
    RdOK (fun l : List α => l.flatMap enc) (LenOk ok (k + 1)) s s2 (l ++ [x]) := by
  refine ⟨fun h0 y t hy e => ?_, fun h0 => ?_⟩
  · obtain ⟨l', x', rfl⟩ : ∃ l' x', y = l' ++ [x'] := by
      have hne : y ≠ [] := fun e => by have := hy.1; rw [e] at this; cases this
      exact ⟨y.dropLast, y.getLast hne, (List.dropLast_concat_getLast hne).symm⟩
    have hl : l'.length = k := by have := hy.1; simp at this; exact this
    obtain ⟨a, b, c⟩ := h.1 h0 l' (enc x' ++ t) ⟨hl, fun z hz => hy.2 z (by simp [hz])⟩ (by rw [e]; simp)
    obtain ⟨a', b', c'⟩ := hx.1 c x' t (hy.2 x' (by simp)) b
    exact ⟨by rw [a, a'], b', c'⟩
  · obtain ⟨a, b, c⟩ := hx.2 h0
    obtain ⟨a', b', c'⟩ := h.2 a
    refine ⟨a', ⟨by simp [b'.1], fun z hz => ?_⟩, by rw [c', c]; simp⟩
    rcases List.mem_append.1 hz with hz | hz
    · exact b'.2 z hz
    · simp at hz; subst hz; exact b
theorem RdOK.cut {α : Type} {enc : α → List Bool} {ok : α → Prop} {k n : Nat} {s s1 : Rd} {l : List α} (h : RdOK (fun l : List α => l.flatMap enc) (LenOk ok k) s s1 l) (hb : s1.bad ≠ 0) (hk : k ≤ n) :
    RdOK (fun l : List α => l.flatMap enc) (LenOk ok n) s s1 l := by
  refine ⟨fun h0 y t hy e => ?_, fun h0 => absurd h0 hb⟩
  obtain ⟨a, b, c⟩ := h.1 h0 (y.take k) ((y.drop k).flatMap enc ++ t) ⟨by rw [List.length_take, hy.1]; omega, fun z hz => hy.2 z (List.mem_of_mem_take hz)⟩ (by
    rw [e, ← List.append_assoc, ← List.flatMap_append, List.take_append_drop])
  exact absurd c hb
def seqL {α : Type} (enc : α → List Bool) (l : List α) : List Bool := numL l.length ++ l.flatMap enc
abbrev SeqOk {α : Type} (ok : α → Prop) (l : List α) : Prop := l.length < 2 ^ 64 ∧ ∀ x ∈ l, ok x
theorem RdOK.dep {α : Type} {enc : α → List Bool} {ok : α → Prop} {n : Nat} {s s1 s2 : Rd} {l : List α} (h : RdOK numL NumOk s s1 n) (k : RdOK (fun l : List α => l.flatMap enc) (LenOk ok n) s1 s2 l) : RdOK (seqL enc) (SeqOk ok) s s2 l := by
  refine ⟨fun h0 y t hy e => ?_, fun h0 => ?_⟩
  · obtain ⟨a, b, c⟩ := h.1 h0 y.length (y.flatMap enc ++ t) hy.1 (by rw [e, seqL, List.append_assoc])
    exact k.1 c y t ⟨a.symm, hy.2⟩ b
  · obtain ⟨a, b, c⟩ := k.2 h0
    obtain ⟨a', b', c'⟩ := h.2 a
    exact ⟨a', ⟨by rw [b.1]; exact b', b.2⟩, by rw [c', c, seqL, b.1, List.append_assoc]⟩
/-- Nothing is read without a bit, unless it is written in none. -/
theorem RdOK.less {α : Type} {enc : α → List Bool} {ok : α → Prop} {s s1 : Rd} {x : α} (h : RdOK enc ok s s1 x) (h0 : s1.bad = 0) : s.rest.length = (enc x).length + s1.rest.length := by
  rw [(h.2 h0).2.2, List.length_append]
theorem RdOK.was {α : Type} {enc : α → List Bool} {ok : α → Prop} {s s1 : Rd} {x : α} (h : RdOK enc ok s s1 x) (h0 : s.bad ≠ 0) : s1.bad ≠ 0 := fun e => h0 (h.2 e).1
theorem numL_pos {x : Nat} (h : x < 2 ^ 64) : 1 ≤ (numL x).length := by
  obtain ⟨m, tl, _, _, _, _, e⟩ := numL_form h
  rw [e]; simp; omega
end Go.Proofs.Ytdkkpkgfiodlbaa
