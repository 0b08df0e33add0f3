/- 'for k, v := range m' over a typed map (MapT), in the order of the tape. Names no program. -/
import Derived.Test.YtbadpfcjoobniaaMaps
import Derived.Maps.Range
namespace Go.Proofs.Ytbadpfcjoobniaa
open Go.RowKit Go.MapKept
open Go.Maps (Keyed)
open Go.ChangeMaps (setBlock)

/-- Block b is a map that holds L, block r an iterator over it, and the pairs of V have come out, in this order. -/
def RangeT {κ ν : Type} (P : Program) (k : TypeId) (eK : κ → Value) (eV : ν → Value) (w : World) (b r : Nat) (L V : List (κ × ν)) : Prop :=
  ∃ es clock since seen c0, w.heap[b]? = some (.map es clock) ∧ Stamped es clock ∧ (∀ x ∈ es.toList, ∃ kl, keyOf P k x.key = some kl) ∧ es.toList.map (fun x => (x.key, x.val)) = L.map (fun x => (eK x.1, eV x.2)) ∧
    w.heap[r]? = some (.mapIter (some b) since seen c0) ∧ (∀ x ∈ es.toList, x.born < since) ∧ since ≤ c0 ∧ since ≤ clock ∧
    (∀ (i : Nat) (x : MapEntry) (p : κ × ν), es.toList[i]? = some x → L[i]? = some p → (seen.contains x.born = true ↔ p ∈ V)) ∧ (∀ p ∈ V, p ∈ L) ∧ V.Pairwise (fun p q => p.1 ≠ q.1)

section laws
variable {κ ν : Type} {P : Program} {k e t : TypeId} {eK : κ → Value} {eV : ν → Value} {w : World} {b r : Nat} {L V : List (κ × ν)}

theorem RangeT.map (h : RangeT P k eK eV w b r L V) : MapT P k eK eV w b L := by
  obtain ⟨es, clock, _, _, _, h1, h2, h3, h4, _⟩ := h; exact ⟨es, clock, h1, h2, h3, h4⟩
theorem RangeT.lt (h : RangeT P k eK eV w b r L V) : r < w.heap.size := by
  obtain ⟨es, clock, since, seen, c0, _, _, _, _, hr, _⟩ := h
  exact (Array.getElem?_eq_some_iff.1 hr).1
theorem RangeT.ne (h : RangeT P k eK eV w b r L V) : r ≠ b := by
  obtain ⟨es, clock, since, seen, c0, hb, _, _, _, hr, _⟩ := h
  intro e
  rw [e, hb] at hr
  cases hr
theorem RangeT.frame {w' : World} (h : RangeT P k eK eV w b r L V) (hb : w'.heap[b]? = w.heap[b]?) (hr : w'.heap[r]? = w.heap[r]?) : RangeT P k eK eV w' b r L V := by
  obtain ⟨es, clock, since, seen, c0, h1, h2, h3, h4, h5, rest⟩ := h
  exact ⟨es, clock, since, seen, c0, hb.trans h1, h2, h3, h4, hr.trans h5, rest⟩

theorem rangeLeft_frame {w' : World} (hb : w'.heap[b]? = w.heap[b]?) (hr : w'.heap[r]? = w.heap[r]?) : w'.rangeLeft b r = w.rangeLeft b r := by unfold World.rangeLeft; rw [hb, hr]
theorem MapT.keyed (h : MapT P k eK eV w b L) {p : κ × ν} (hp : p ∈ L) : ∃ kl, keyOf P k (eK p.1) = some kl := by
  obtain ⟨es, clock, hb, hs, hk, hL⟩ := h
  have : (eK p.1, eV p.2) ∈ L.map (fun x => (eK x.1, eV x.2)) := List.mem_map.2 ⟨p, hp, rfl⟩
  rw [← hL, List.mem_map] at this
  obtain ⟨x, hx, hxe⟩ := this
  simp only [Prod.mk.injEq] at hxe
  rw [← hxe.1]
  exact hk x hx
theorem MapT.pairwise (h : MapT P k eK eV w b L) : L.Pairwise (fun p q => p.1 ≠ q.1) := by
  obtain ⟨es, clock, hb, hs, hk, hL⟩ := h
  have hlen : es.toList.length = L.length := by simpa using congrArg List.length hL
  have hn := List.pairwise_iff_getElem.1 ((stamped_iff es clock).1 hs).2.2
  rw [List.pairwise_iff_getElem]
  intro i j hi hj hlt he
  have key : ∀ (n : Nat) (h1 : n < L.length), (es.toList[n]'(by omega)).key = eK (L[n]).1 := by
    intro n h1
    have h2 : (es.toList.map (fun y => (y.key, y.val)))[n]? = some ((es.toList[n]'(by omega)).key, (es.toList[n]'(by omega)).val) := by simp [List.getElem?_eq_getElem (by omega : n < es.toList.length)]
    rw [hL, List.getElem?_map, List.getElem?_eq_getElem h1] at h2
    simp only [Option.map_some, Option.some.injEq, Prod.mk.injEq] at h2
    exact h2.1.symm
  exact hn i j (by omega) (by omega) hlt (by rw [key i hi, key j hj, he])

/-- 'range m'. -/
theorem MapT.range (h : MapT P k eK eV w b L) (ht : P.underlying t = some (.map k e)) :
    ∃ w', (Instr.range t (.map (some b))).run P w = .ok (.pointer (some ⟨w.heap.size, 0, none⟩)) w' ∧ RangeT P k eK eV w' b w.heap.size L [] ∧ w.grownBy w' none ∧ w'.heap.size = w.heap.size + 1 := by
  have hlt := h.lt
  obtain ⟨es, clock, hb, hs, hk, hL⟩ := h
  refine ⟨_, run_range_map w t k e b es clock ht hb, ⟨es, clock, clock, #[], clock, ((MapKept.heap_alloc w _).2 b hlt).trans hb, hs, hk, hL, (MapKept.heap_alloc w _).1, hs.1, Nat.le_refl _, Nat.le_refl _, ?_, (fun p hp => by cases hp), List.Pairwise.nil⟩, World.grownBy_alloc w _ none, by simp⟩
  intro i x p _ _
  simp

theorem RangeT.key_uniq (h : MapT P k eK eV w b L) {p q : κ × ν} (hp : p ∈ L) (hq : q ∈ L) (hpq : p.1 = q.1) : p = q := by
  obtain ⟨es, clock, hb, hs, hk, hL⟩ := h
  obtain ⟨i, hi⟩ := List.mem_iff_getElem?.1 hp
  obtain ⟨j, hj⟩ := List.mem_iff_getElem?.1 hq
  have hlen : es.toList.length = L.length := by simpa using congrArg List.length hL
  have hi1 := (List.getElem?_eq_some_iff.1 hi).1
  have hj1 := (List.getElem?_eq_some_iff.1 hj).1
  have ei : (es.toList[i]'(by omega)).key = eK p.1 := by
    have h1 : (L.map (fun y => (eK y.1, eV y.2)))[i]? = some (eK p.1, eV p.2) := by simp [hi]
    rw [← hL, List.getElem?_map, List.getElem?_eq_getElem (by omega : i < es.toList.length)] at h1
    simpa using congrArg (fun o => o.map (·.1)) h1
  have ej : (es.toList[j]'(by omega)).key = eK q.1 := by
    have h1 : (L.map (fun y => (eK y.1, eV y.2)))[j]? = some (eK q.1, eV q.2) := by simp [hj]
    rw [← hL, List.getElem?_map, List.getElem?_eq_getElem (by omega : j < es.toList.length)] at h1
    simpa using congrArg (fun o => o.map (·.1)) h1
  have hn := List.pairwise_iff_getElem.1 ((stamped_iff es clock).1 hs).2.2
  rcases Nat.lt_trichotomy i j with hlt | rfl | hlt
  · exact absurd (by rw [ei, ej, hpq]) (hn i j (by omega) (by omega) hlt)
  · rw [hi] at hj; cases hj; rfl
  · exact absurd (by rw [ei, ej, hpq]) (hn j i (by omega) (by omega) hlt)

/-- The step. -/
theorem RangeT.next (hinj : ∀ x y, eK x = eK y → x = y) (h : RangeT P k eK eV w b r L V) (ty : TypeId) :
    ((∀ p ∈ L, p ∈ V) ∧ (Instr.next (.pointer (some ⟨r, 0, none⟩)) false ty).run P w = .ok (.tuple #[.bool false]) w) ∨
    ∃ p w', p ∈ L ∧ (∀ q ∈ V, q.1 ≠ p.1) ∧ (Instr.next (.pointer (some ⟨r, 0, none⟩)) false ty).run P w = .ok (.tuple #[.bool true, eK p.1, eV p.2]) w' ∧
      RangeT P k eK eV w' b r L (V ++ [p]) ∧ w'.rangeLeft b r < w.rangeLeft b r ∧ w.grownBy w' (some r) ∧ w'.heap.size = w.heap.size ∧ (Instr.entry (.pointer (some ⟨r, 0, none⟩))).run P w' = .ok (.tuple #[eK p.1, eV p.2]) w' := by
  have hne := h.ne
  have hmap := h.map
  obtain ⟨es, clock, since, seen, c0, hb, hs, hk, hL, hr, hold, hsc, hsk, hseen, hsub, hpw⟩ := h
  have hlen : es.toList.length = L.length := by simpa using congrArg List.length hL
  have entry : ∀ (i : Nat) (x : MapEntry) (p : κ × ν), es.toList[i]? = some x → L[i]? = some p → x.key = eK p.1 ∧ x.val = eV p.2 := by
    intro i x p hx hp
    have h1 : (es.toList.map (fun y => (y.key, y.val)))[i]? = some (x.key, x.val) := by simp [hx]
    rw [hL] at h1
    simp [hp] at h1
    exact ⟨h1.1.symm, h1.2.symm⟩
  rcases run_next_at (P := P) w ty r b since c0 seen es clock hr hb hold hsc with ⟨h0, hrun⟩ | ⟨x, hx, w1, hal, hrun⟩
  · refine .inl ⟨fun p hp => ?_, hrun⟩
    obtain ⟨i, hi⟩ := List.mem_iff_getElem?.1 hp
    have hi1 := (List.getElem?_eq_some_iff.1 hi).1
    obtain ⟨x, hx⟩ : ∃ x, es.toList[i]? = some x := ⟨_, List.getElem?_eq_getElem (by omega)⟩
    exact (hseen i x p hx hi).1 (all_seen es seen h0 x (List.mem_of_getElem? hx))
  · obtain ⟨hem, hes⟩ := mem_left hx
    obtain ⟨i, hi⟩ := List.mem_iff_getElem?.1 hem
    have hi1 := (List.getElem?_eq_some_iff.1 hi).1
    obtain ⟨p, hp⟩ : ∃ p, L[i]? = some p := ⟨_, List.getElem?_eq_getElem (by omega)⟩
    obtain ⟨ek, ev⟩ := entry i x p hi hp
    have hpV : p ∉ V := fun h => by
      have := (hseen i x p hi hp).2 h
      rw [hes] at this; cases this
    have hr1 : w1.heap[r]? = some (.mapIter (some b) since seen c0) := by rcases hal with rfl | rfl <;> exact hr
    have hb1 : w1.heap[b]? = some (.map es clock) := by rcases hal with rfl | rfl <;> exact hb
    have hset := heap_set (o' := .mapIter (some b) since (seen.push x.born) clock) hr1
    have hb' : (setBlock w1 r (.mapIter (some b) since (seen.push x.born) clock)).heap[b]? = some (.map es clock) := (hset.2 b (fun e1 => hne e1.symm)).trans hb1
    have hfresh : ∀ q ∈ V, q.1 ≠ p.1 := fun q hq hqp => hpV (RangeT.key_uniq hmap (hsub q hq) (List.mem_of_getElem? hp) hqp ▸ hq)
    have hbi := ((stamped_iff es clock).1 hs).2.1
    refine .inr ⟨p, _, List.mem_of_getElem? hp, hfresh, by rw [← ek, ← ev]; exact hrun,
      ⟨es, clock, since, seen.push x.born, clock, hb', hs, hk, hL, hset.1, hold, hsk, hsk, ?_, ?_, ?_⟩, ?_, ?_, ?_, by rw [← ek, ← ev]; exact run_entry_at _ r b since seen es clock x hset.1 hb' hem hbi⟩
    · intro j y q hy hq
      rw [contains_push, List.mem_append, List.mem_singleton, Bool.or_eq_true, hseen j y q hy hq]
      constructor
      · rintro (h | h)
        · exact .inl h
        · have hyx : y = x := born_inj hbi (List.mem_of_getElem? hy) hem (by simpa using h)
          right
          have e1 := (entry j y q hy hq).1
          have : q.1 = p.1 := hinj _ _ (by rw [← e1, ← ek, hyx])
          exact RangeT.key_uniq hmap (List.mem_of_getElem? hq) (List.mem_of_getElem? hp) this
      · rintro (h | h)
        · exact .inl h
        · right
          subst h
          have hji : y.key = x.key := by rw [(entry j y q hy hq).1, ek]
          have := entry_eq_of_key ((stamped_iff es clock).1 hs).2.2 (List.mem_of_getElem? hy) hem hji
          simp [this]
    · intro q hq
      rw [List.mem_append, List.mem_singleton] at hq
      rcases hq with hq | rfl
      · exact hsub q hq
      · exact List.mem_of_getElem? hp
    · rw [List.pairwise_append]
      exact ⟨hpw, List.pairwise_singleton _ _, fun q hq q' hq' => by simp at hq'; subst hq'; exact hfresh q hq⟩
    · unfold World.rangeLeft
      rw [hb', hb, hr, show (setBlock w1 r (.mapIter (some b) since (seen.push x.born) clock)).heap[r]? = _ from hset.1]
      exact left_shrinks es seen x hx
    · rcases hal with rfl | rfl <;> exact ⟨rfl, rfl, rfl, by simp [setBlock], fun i _ hi => hset.2 i (fun e1 => hi (by rw [e1]))⟩
    · rcases hal with rfl | rfl <;> simp [setBlock]
end laws
end Go.Proofs.Ytbadpfcjoobniaa
