/- Typed words on a map's block: MapT says that block b is a map that holds just the pairs of a list, each key once. Laws on lookup, store, delete and len. Names no program. -/
import Derived.Test.YtbadpfcjoobniaaMem
import Derived.Maps.Own
namespace Go.Proofs.Ytbadpfcjoobniaa
open Go.RowKit Go.MapKept
open Go.Maps (Keyed)
open Go.ChangeMaps (setBlock)

/-- Block b of w is a map whose entries are the pairs of L, keys by eK, elements by eV; each key once. -/
def MapT {κ ν : Type} (P : Program) (k : TypeId) (eK : κ → Value) (eV : ν → Value) (w : World) (b : Nat) (L : List (κ × ν)) : Prop :=
  ∃ es clock, w.heap[b]? = some (.map es clock) ∧ Stamped es clock ∧ (∀ x ∈ es.toList, ∃ kl, keyOf P k x.key = some kl) ∧ es.toList.map (fun x => (x.key, x.val)) = L.map (fun x => (eK x.1, eV x.2))

section lists
variable {κ ν : Type} [DecidableEq κ]
/-- What a list of pairs holds for a key. -/
def getM (L : List (κ × ν)) (x : κ) : Option ν := (L.find? (fun p => decide (p.1 = x))).map (·.2)
/-- The pairs behind a store. -/
def putM (L : List (κ × ν)) (x : κ) (v : ν) : List (κ × ν) := if (getM L x).isSome then L.map (fun p => if p.1 = x then (x, v) else p) else L ++ [(x, v)]
/-- The pairs behind a delete. -/
def delM (L : List (κ × ν)) (x : κ) : List (κ × ν) := L.filter (fun p => decide (p.1 ≠ x))

theorem getM_none {L : List (κ × ν)} {x : κ} : getM L x = none ↔ ∀ p ∈ L, p.1 ≠ x := by simp [getM]

theorem getM_some {L : List (κ × ν)} {x : κ} {v : ν} (h : getM L x = some v) : (x, v) ∈ L := by
  unfold getM at h
  rw [Option.map_eq_some_iff] at h
  obtain ⟨p, hp, rfl⟩ := h
  have h1 := List.mem_of_find?_eq_some hp
  have h2 := List.find?_some hp
  simp at h2
  subst h2
  exact h1

theorem getM_nil (x : κ) : getM ([] : List (κ × ν)) x = none := rfl

theorem getM_cons (p : κ × ν) (L : List (κ × ν)) (x : κ) : getM (p :: L) x = if p.1 = x then some p.2 else getM L x := by
  unfold getM; rw [List.find?_cons]; by_cases h : p.1 = x <;> simp [h]

theorem getM_append (L M : List (κ × ν)) (x : κ) : getM (L ++ M) x = (getM L x).or (getM M x) := by
  induction L with
  | nil => simp [getM_nil]
  | cons p L ih => rw [List.cons_append, getM_cons, getM_cons]; split <;> simp [ih]

theorem getM_map_put (L : List (κ × ν)) (x y : κ) (v : ν) : getM (L.map (fun p => if p.1 = x then (x, v) else p)) y = if x = y then (getM L x).map (fun _ => v) else getM L y := by
  induction L with
  | nil => by_cases h : x = y <;> simp [getM_nil, h]
  | cons p L ih =>
    rw [List.map_cons, getM_cons, ih, getM_cons, getM_cons]
    by_cases h : x = y
    · subst h
      by_cases hp : p.1 = x <;> simp [hp]
    · by_cases hp : p.1 = x
      · simp [hp, h]
      · simp [hp, h]

theorem getM_put (L : List (κ × ν)) (x y : κ) (v : ν) : getM (putM L x v) y = if x = y then some v else getM L y := by
  unfold putM
  split
  · rename_i h
    rw [getM_map_put]
    by_cases hxy : x = y
    · subst hxy
      obtain ⟨u, hu⟩ := Option.isSome_iff_exists.1 h
      simp [hu]
    · simp [hxy]
  · rename_i h
    rw [getM_append, getM_cons, getM_nil]
    by_cases hxy : x = y
    · subst hxy
      simp at h; simp [h]
    · simp [hxy]

theorem putM_length (L : List (κ × ν)) (x : κ) (v : ν) : (putM L x v).length = L.length + if (getM L x).isSome then 0 else 1 := by
  unfold putM; split <;> simp

theorem getM_del (L : List (κ × ν)) (x y : κ) : getM (delM L x) y = if x = y then none else getM L y := by
  unfold delM
  induction L with
  | nil => simp [getM_nil]
  | cons p L ih =>
    rw [List.filter_cons]
    by_cases hp : p.1 = x
    · simp only [hp, ne_eq, not_true_eq_false, decide_false, Bool.false_eq_true, if_false]
      rw [ih, getM_cons]
      by_cases hxy : x = y
      · simp [hxy]
      · simp [hp, hxy]
    · simp only [hp, ne_eq, not_false_eq_true, decide_true, if_true]
      rw [getM_cons, getM_cons, ih]
      by_cases hxy : x = y
      · subst hxy; simp [hp]
      · simp [hxy]
end lists

section laws0
variable {κ ν : Type} {P : Program} {k e t : TypeId} {eK : κ → Value} {eV : ν → Value} {w : World} {b : Nat} {L : List (κ × ν)}

theorem MapT.lt (h : MapT P k eK eV w b L) : b < w.heap.size := by
  obtain ⟨es, clock, hb, _⟩ := h; exact (Array.getElem?_eq_some_iff.1 hb).1

theorem MapT.frame {w' : World} (h : MapT P k eK eV w b L) (hw : w'.heap[b]? = w.heap[b]?) : MapT P k eK eV w' b L := by
  obtain ⟨es, clock, hb, r⟩ := h; exact ⟨es, clock, hw.trans hb, r⟩

theorem MapT.below {w' : World} {B : Nat} (h : MapT P k eK eV w b L) (hw : Below B w w') (hb : b < B) : MapT P k eK eV w' b L := h.frame (hw.block b hb)

theorem MapT.kept {w' : World} {row : Option Nat} (h : MapT P k eK eV w b L) (hg : w.grownBy w' row) (hne : some b ≠ row) : MapT P k eK eV w' b L :=
  h.frame (hg.block b h.lt hne)

theorem MapT.made (w : World) : MapT P k eK eV (w.alloc (.map #[] 0)) w.heap.size ([] : List (κ × ν)) :=
  ⟨#[], 0, (MapKept.heap_alloc w _).1, stamped_empty 0, by simp, rfl⟩

theorem MapT.size (h : MapT P k eK eV w b L) : ∃ es clock, w.heap[b]? = some (.map es clock) ∧ es.size = L.length := by
  obtain ⟨es, clock, hb, _, _, hL⟩ := h
  refine ⟨es, clock, hb, ?_⟩
  have := congrArg List.length hL
  simpa using this
end laws0

section laws
variable {κ ν : Type} [DecidableEq κ] {P : Program} {k e t : TypeId} {eK : κ → Value} {eV : ν → Value} {w : World} {b : Nat} {L : List (κ × ν)}

/-- Where a key stands among the entries. -/
theorem MapT.find (hK : Keyed P k) (hinj : ∀ x y, eK x = eK y → x = y) (h : MapT P k eK eV w b L) (x : κ) {kl : Lit} (hx : keyOf P k (eK x) = some kl) :
    ∃ es clock, w.heap[b]? = some (.map es clock) ∧ Stamped es clock ∧ (∀ y ∈ es.toList, ∃ kl, keyOf P k y.key = some kl) ∧ es.toList.map (fun y => (y.key, y.val)) = L.map (fun y => (eK y.1, eV y.2)) ∧
      ((∀ w, (Instr.findKey k (eK x) es.toList).run P w = .ok none w) ∧ getM L x = none ∧ (∀ y ∈ es.toList, y.key ≠ eK x) ∨
       ∃ j e0 v, (∀ w, (Instr.findKey k (eK x) es.toList).run P w = .ok (some (j, e0.val)) w) ∧ es.toList[j]? = some e0 ∧ e0.key = eK x ∧ L[j]? = some (x, v) ∧ e0.val = eV v ∧ getM L x = some v ∧ ∀ i p, L[i]? = some p → p.1 = x → i = j) := by
  obtain ⟨es, clock, hb, hs, hk, hL⟩ := h
  refine ⟨es, clock, hb, hs, hk, hL, ?_⟩
  have key : ∀ w1, ((Instr.findKey k (eK x) es.toList).run P w1 = .ok none w1 ∧ ∀ y ∈ es.toList, y.key ≠ eK x) ∨ ∃ j e0, (Instr.findKey k (eK x) es.toList).run P w1 = .ok (some (j, e0.val)) w1 ∧ es.toList[j]? = some e0 ∧ e0.key = eK x := fun w1 => hK.find w1 hx es.toList hk
  have uniq : ∀ (i j : Nat) (a c : MapEntry), es.toList[i]? = some a → es.toList[j]? = some c → a.key = c.key → i = j := by
    intro i j a c hi hj hac
    have hn := List.pairwise_iff_getElem.1 ((stamped_iff es clock).1 hs).2.2
    obtain ⟨hi1, hi2⟩ := List.getElem?_eq_some_iff.1 hi
    obtain ⟨hj1, hj2⟩ := List.getElem?_eq_some_iff.1 hj
    rcases Nat.lt_trichotomy i j with hlt | rfl | hlt
    · exact absurd (by rw [hi2, hj2]; exact hac) (hn i j hi1 hj1 hlt)
    · rfl
    · exact absurd (by rw [hi2, hj2]; exact hac.symm) (hn j i hj1 hi1 hlt)
  rcases key w with ⟨h1, h2⟩ | ⟨j, e0, h1, h2, h3⟩
  · refine .inl ⟨fun w1 => ?_, ?_, h2⟩
    · rcases key w1 with ⟨h, _⟩ | ⟨j, e0, _, h2', h3'⟩
      · exact h
      · exact absurd h3' (h2 e0 (List.mem_of_getElem? h2'))
    · rw [getM_none]
      intro p hp hpx
      obtain ⟨i, hi⟩ := List.mem_iff_getElem?.1 hp
      have : (L.map (fun y => (eK y.1, eV y.2)))[i]? = some (eK p.1, eV p.2) := by simp [hi]
      rw [← hL, List.getElem?_map] at this
      cases hes : es.toList[i]? with
      | none => simp [hes] at this
      | some a =>
        simp only [hes, Option.map_some, Option.some.injEq, Prod.mk.injEq] at this
        exact h2 a (List.mem_of_getElem? hes) (by rw [this.1, hpx])
  · have hLj : ∃ v, L[j]? = some (x, v) ∧ e0.val = eV v := by
      have : (es.toList.map (fun y => (y.key, y.val)))[j]? = some (e0.key, e0.val) := by simp [h2]
      rw [hL, List.getElem?_map] at this
      cases hl : L[j]? with
      | none => simp [hl] at this
      | some p =>
        simp only [hl, Option.map_some, Option.some.injEq, Prod.mk.injEq] at this
        have hp : p.1 = x := hinj _ _ (this.1.trans h3)
        exact ⟨p.2, by rw [← hp], this.2.symm⟩
    obtain ⟨v, hv1, hv2⟩ := hLj
    have huniq : ∀ i p, L[i]? = some p → p.1 = x → i = j := by
      intro i p hi hpx
      have : (L.map (fun y => (eK y.1, eV y.2)))[i]? = some (eK p.1, eV p.2) := by simp [hi]
      rw [← hL, List.getElem?_map] at this
      cases hes : es.toList[i]? with
      | none => simp [hes] at this
      | some a =>
        simp only [hes, Option.map_some, Option.some.injEq, Prod.mk.injEq] at this
        exact uniq i j a e0 hes h2 (by rw [this.1, hpx, h3])
    refine .inr ⟨j, e0, v, fun w1 => ?_, h2, h3, hv1, hv2, ?_, huniq⟩
    · rcases key w1 with ⟨_, h⟩ | ⟨j', e0', h, h2', h3'⟩
      · exact absurd h3 (h e0 (List.mem_of_getElem? h2))
      · have := uniq j' j e0' e0 h2' h2 (h3'.trans h3.symm)
        subst this
        rw [h2] at h2'; cases h2'
        exact h
    · cases hg : getM L x with
      | none => exact absurd rfl (getM_none.1 hg (x, v) (List.mem_of_getElem? hv1))
      | some u =>
        obtain ⟨i, hi⟩ := List.mem_iff_getElem?.1 (getM_some hg)
        have := huniq i _ hi rfl
        subst this
        rw [hv1] at hi; cases hi; rfl

/-- m[x] and m[x] with ok. -/
theorem MapT.lookup (hK : Keyed P k) (hinj : ∀ x y, eK x = eK y → x = y) (ht : P.underlying t = some (.map k e)) (h : MapT P k eK eV w b L) (x : κ) {kl : Lit} (hx : keyOf P k (eK x) = some kl) {z : Value} (hz : (zeroValue e).run P w = .ok z w) :
    (Instr.lookup t (.map (some b)) (eK x) false).run P w = .ok (((getM L x).map eV).getD z) w ∧ (Instr.lookup t (.map (some b)) (eK x) true).run P w = .ok (.tuple #[((getM L x).map eV).getD z, .bool (getM L x).isSome]) w := by
  obtain ⟨es, clock, hb, _, _, _, h1 | ⟨j, e0, v, h1, h2, h3, h4, h5, h6, _⟩⟩ := h.find hK hinj x hx
  · constructor <;> simp [Instr.lookup, run_underlying ht, MapKept.run_getObj_map hb, hK.check w _ hx, h1.1 w, hz, Result.andThen, h1.2.1]
  · constructor <;> simp [Instr.lookup, run_underlying ht, MapKept.run_getObj_map hb, hK.check w _ hx, h1 w, Result.andThen, h6, h5]

/-- m[x] = v. -/
theorem MapT.update (hK : Keyed P k) (hinj : ∀ x y, eK x = eK y → x = y) (ht : P.underlying t = some (.map k e)) (h : MapT P k eK eV w b L) (x : κ) {kl : Lit} (hx : keyOf P k (eK x) = some kl) (v : ν) :
    ∃ w', (Instr.mapUpdate t (.map (some b)) (eK x) (eV v)).run P w = .ok () w' ∧ MapT P k eK eV w' b (putM L x v) ∧ w.grownBy w' (some b) := by
  obtain ⟨es, clock, hb, hs, hk, hL, h1 | ⟨j, e0, u, h1, h2, h3, h4, h5, h6, hu⟩⟩ := h.find hK hinj x hx
  · refine ⟨setBlock w b (.map (es.push ⟨eK x, eV v, clock⟩) (clock + 1)), ?_, ⟨_, _, ChangeMaps.heap_setBlock_same hb _, stamped_push hs h1.2.2, ?_, ?_⟩, ⟨rfl, rfl, rfl, by simp [setBlock], fun i _ hi => ChangeMaps.heap_setBlock_other hb _ (fun e => hi (by rw [e]))⟩⟩
    · simp [Instr.mapUpdate, run_underlying ht, MapKept.run_getObj_map hb, hK.check w false hx, h1.1 w, MapKept.run_setObj_map _ hb, Result.andThen, setBlock]
    · intro y hy
      simp only [Array.toList_push, List.mem_append, List.mem_singleton] at hy
      rcases hy with hy | rfl
      · exact hk y hy
      · exact ⟨kl, hx⟩
    · have : putM L x v = L ++ [(x, v)] := by unfold putM; rw [h1.2.1]; rfl
      rw [this, List.map_append, ← hL]; simp
  · have hj : es[j]? = some e0 := by simpa using h2
    have hlist : (es.modify j (fun e' => { e' with key := eK x, val := eV v })).toList = es.toList.set j { e0 with key := eK x, val := eV v } := by
      rw [Array.toList_modify, ChangeMaps.modify_eq_set _ _ _ _ h2]
    have hkeyf : ∀ e', es[j]? = some e' → ({ e' with key := eK x, val := eV v } : MapEntry).key = e'.key := fun e' he' => by rw [hj] at he'; cases he'; exact h3.symm
    refine ⟨setBlock w b (.map (es.modify j (fun e' => { e' with key := eK x, val := eV v })) clock), ?_, ⟨_, _, ChangeMaps.heap_setBlock_same hb _, stamped_modify hs _ _ (fun _ _ => rfl) (fun e' _ he' => hkeyf e' he'), ?_, ?_⟩, ⟨rfl, rfl, rfl, by simp [setBlock], fun i _ hi => ChangeMaps.heap_setBlock_other hb _ (fun e => hi (by rw [e]))⟩⟩
    · simp [Instr.mapUpdate, run_underlying ht, MapKept.run_getObj_map hb, hK.check w false hx, h1 w, hj, h3, hK.stays w hx, MapKept.run_setObj_map _ hb, Result.andThen, setBlock]
    · intro y hy
      rw [hlist] at hy
      rcases List.mem_or_eq_of_mem_set hy with hy | rfl
      · exact hk y hy
      · exact ⟨kl, hx⟩
    · have hp : putM L x v = L.map (fun p => if p.1 = x then (x, v) else p) := by unfold putM; rw [h6]; rfl
      rw [hp, hlist, List.map_set, hL]
      apply List.ext_getElem?
      intro i
      rw [List.getElem?_set, List.getElem?_map, List.getElem?_map, List.getElem?_map]
      by_cases hij : j = i
      · subst hij
        obtain ⟨hjl, hje⟩ := List.getElem?_eq_some_iff.1 h4
        simp [hjl, hje]
      · simp only [hij, if_false]
        cases hl : L[i]? with
        | none => rfl
        | some p =>
          have : ¬ p.1 = x := fun e => hij (hu i p hl e).symm
          simp [this]

/-- m[x] = v at the operation, for the walk. -/
theorem wpList_mapUpdate_T {ops : Array Oper} {rest : List Oper} {o : Oper} {a : Act} {Q : Exit → Act → World → Prop} (hg : o.guard = none) (m x v : Operand) (hop : o.op = Op.mapUpdate t m x v)
    (hK : Keyed P k) (hinj : ∀ x y, eK x = eK y → x = y) (ht : P.underlying t = some (.map k e)) (hT : MapT P k eK eV w b L) (hm : a.eval m = .map (some b)) (key : κ) {kl : Lit} (hkl : keyOf P k (eK key) = some kl) (hx : a.eval x = eK key)
    (val : ν) (hv : a.eval v = eV val) (h : ∀ w', MapT P k eK eV w' b (putM L key val) → w.grownBy w' (some b) → wpList P ops Q rest (a.put o.dst undef) w') :
    wpList P ops Q (o :: rest) a w := by
  refine wpList_plain hg fun K' hK' => ?_
  obtain ⟨w', hrun, r1, r2⟩ := hT.update hK hinj ht key hkl val
  unfold Oper.wp
  simp [execOp, hop, hm, hx, hv, hrun, Result.andThen]
  exact hK' _ _ (h w' r1 r2)
end laws
end Go.Proofs.Ytbadpfcjoobniaa
