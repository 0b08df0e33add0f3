/- copy(d, s) at elements of k cells, into a block that is known whole. Names no program. -/
import Derived.Test.YtbadpfcjoobniaaMem
import Derived.Laws.CopyOwn
namespace Go.Proofs.Ytbadpfcjoobniaa
open Go.RowKit

/-- Whatever memory: all is read, then all is written. -/
theorem run_copyK {P : Program} (w : World) (dT sT ty elem : TypeId) (k b o dLen dCap : Nat) (a : Addr) (sLen sCap : Nat) (cs : List Value)
    (hu : P.underlying dT = some (.slice elem)) (hs : (P.info? elem).map (·.size) = some k) (hn : cs.length = Nat.min sLen dLen * k)
    (hsrc : ∀ j v, cs[j]? = some v → w.cell? (a.add j) = some v) (hc : ∀ j, j < cs.length → (w.cell? ⟨b, o + j, none⟩).isSome = true) (hf : ∀ j, j < cs.length → w.frozen? ⟨b, o + j, none⟩ = false) (h1 : ∀ v ∈ cs, v.oneCell' = true) :
    (Builtin.copy_ #[dT, sT] ty #[.slice (some ⟨b, o, none⟩) dLen dCap, .slice (some a) sLen sCap]).run P w = .ok (goInt (Nat.min sLen dLen : Nat)) (w.setCells b o cs) := by
  have e1 := run_loadCells_list (P := P) w a cs hsrc
  have e2 := run_storeCells_cells (P := P) b o cs 0 w (by simpa using hc) (by simpa using hf) h1
  cases q : P.info? elem with
  | none => simp [q] at hs
  | some i =>
    have hi : i.size = k := by simpa [q] using hs
    rw [hn] at e1
    simp [Builtin.copy_, run_underlying hu, Builtin.lenOf, Builtin.firstCells, sizeOf, typeInfo, q, hi, e1, e2]

theorem frozen_setCells' (b : Nat) (cs : List Value) (o : Nat) (w : World) (x : Addr) : (w.setCells b o cs).frozen? x = w.frozen? x := World.frozen?_setCells _ _ _ _ _

/-- What lies in a block behind some stores into it. -/
theorem setCells_block (b : Nat) (T : TypeId) (fz : Nat × Nat) : ∀ (cs : List Value) (o : Nat) (w : World) (cur : Array Value), w.heap[b]? = some (.cells cur T fz) → o + cs.length ≤ cur.size →
    (w.setCells b o cs).heap[b]? = some (.cells (splice cur.toList o cs).toArray T fz)
  | [], o, w, cur, h, _ => by simp [World.setCells, splice, h]
  | v :: cs, o, w, cur, h, hl => by
    rw [World.setCells]
    have h2 : (w.setCell ⟨b, o, none⟩ v).heap[b]? = some (.cells (cur.setIfInBounds o v) T fz) := by
      simp [World.setCell, Array.getElem?_modify, h]
    have hlen : o < cur.size := by simp at hl; omega
    rw [setCells_block b T fz cs (o + 1) _ _ h2 (by simp at hl ⊢; omega)]
    congr 2
    unfold splice
    have ha : cur.toList.length = cur.size := by simp
    have hs : (cur.setIfInBounds o v).toList = cur.toList.set o v := by simp
    rw [hs]
    apply Array.ext'
    simp only [List.length_cons]
    apply List.ext_getElem?
    intro j
    have lt1 : (List.take (o + 1) (cur.toList.set o v)).length = o + 1 := by rw [List.length_take, List.length_set]; omega
    have lt2 : (List.take o cur.toList).length = o := by rw [List.length_take]; omega
    by_cases h3 : j < o
    · rw [List.getElem?_append_left (l₁ := List.take (o + 1) (cur.toList.set o v)) (by omega), List.getElem?_append_left (l₁ := List.take o cur.toList) (by omega), List.getElem?_take_of_lt (by omega), List.getElem?_take_of_lt h3, List.getElem?_set_ne (by omega)]
    · by_cases h4 : j = o
      · subst h4
        rw [List.getElem?_append_left (l₁ := List.take (j + 1) (cur.toList.set j v)) (by omega), List.getElem?_take_of_lt (by omega), List.getElem?_set_self (by omega), List.getElem?_append_right (l₁ := List.take j cur.toList) (by omega), lt2]
        simp
      · rw [List.getElem?_append_right (l₁ := List.take (o + 1) (cur.toList.set o v)) (by omega), List.getElem?_append_right (l₁ := List.take o cur.toList) (by omega), lt1, lt2]
        have e2 : j - o = (j - (o + 1)) + 1 := by omega
        rw [e2, List.cons_append, List.getElem?_cons_succ]
        by_cases h5 : j - (o + 1) < cs.length
        · rw [List.getElem?_append_left h5, List.getElem?_append_left h5]
        · rw [List.getElem?_append_right (by omega), List.getElem?_append_right (by omega), List.getElem?_drop, List.getElem?_drop, List.getElem?_set_ne (by omega)]
          congr 1; omega

theorem setCells_other (b : Nat) : ∀ (cs : List Value) (o : Nat) (w : World) (j : Nat), j ≠ b → (w.setCells b o cs).heap[j]? = w.heap[j]?
  | [], _, _, _, _ => rfl
  | v :: cs, o, w, j, h => by rw [World.setCells, setCells_other b cs _ _ _ h]; exact Below.heap_setCell _ _ _ _ h
theorem setCells_size (b : Nat) : ∀ (cs : List Value) (o : Nat) (w : World), (w.setCells b o cs).heap.size = w.heap.size
  | [], _, _ => rfl
  | v :: cs, o, w => by rw [World.setCells, setCells_size b cs]; simp [World.setCell]
theorem setCells_env (b : Nat) : ∀ (cs : List Value) (o : Nat) (w : World), (w.setCells b o cs).os = w.os ∧ (w.setCells b o cs).tape = w.tape ∧ (w.setCells b o cs).output = w.output
  | [], _, _ => ⟨rfl, rfl, rfl⟩
  | v :: cs, o, w => by rw [World.setCells]; exact setCells_env b cs _ _
theorem setCells_grown (b : Nat) (cs : List Value) (o : Nat) (w : World) : w.grownBy (w.setCells b o cs) (some b) :=
  ⟨(setCells_env b cs o w).1, (setCells_env b cs o w).2.1, (setCells_env b cs o w).2.2, by rw [setCells_size]; exact Nat.le_refl _, fun k _ hne => setCells_other b cs o w k (fun e => hne (by rw [e]))⟩

/-- copy(d, s) into a block that is known whole. -/
theorem run_copyR {P : Program} (w : World) (dT sT ty elem : TypeId) (k b o dLen dCap : Nat) (sp : Option Addr) (sLen sCap : Nat) (cs : List Value) (cur : Array Value) (T : TypeId)
    (hu : P.underlying dT = some (.slice elem)) (hs : (P.info? elem).map (·.size) = some k) (hn : cs.length = Nat.min sLen dLen * k) (hb : w.heap[b]? = some (.cells cur T (0, 0)))
    (hsrc : ∃ a, sp = some a ∧ ∀ j v, cs[j]? = some v → w.cell? (a.add j) = some v) (hfit : o + cs.length ≤ cur.size) (h1 : ∀ v ∈ cs, v.oneCell' = true) :
    ∃ w', (Builtin.copy_ #[dT, sT] ty #[.slice (some ⟨b, o, none⟩) dLen dCap, .slice sp sLen sCap]).run P w = .ok (goInt (Nat.min sLen dLen : Nat)) w' ∧ Hid (w'.heap[b]? = some (.cells (splice cur.toList o cs).toArray T (0, 0)) ∧ w.grownBy w' (some b) ∧ w'.heap.size = w.heap.size) := by
  obtain ⟨a, rfl, hsrc⟩ := hsrc
  refine ⟨_, run_copyK w dT sT ty elem k b o dLen dCap a sLen sCap cs hu hs hn hsrc (fun j hj => ?_) (fun j hj => ?_) h1, Lib.hid ⟨setCells_block b T (0, 0) cs o w cur hb hfit, setCells_grown b cs o w, setCells_size b cs o w⟩⟩
  · simp [World.cell?, hb]; omega
  · simp [World.frozen?, hb]

theorem wpList_copy_run {P : Program} {w : World} {ops : Array Oper} {rest : List Oper} {o : Oper} {a : Act} {Q : Exit → Act → World → Prop} (hgd : o.guard = none) (d s : Operand) (t t' : TypeId)
    (ho : o.op = .call { callee := .builtin .copy, args := #[d, s], argTypes := #[t, t'] }) (v u : Value) (hd : a.eval d = v) (hs : a.eval s = u) {v' : Value} {w' : World}
    (hr : (Builtin.copy_ #[t, t'] o.type #[v, u]).run P w = .ok v' w') (h : wpList P ops Q rest (a.put o.dst v') w') : wpList P ops Q (o :: rest) a w := by
  refine wpList_plain hgd fun K hK => ?_
  unfold Oper.wp
  simp [execOp, ho, resolve, invoke, builtin, hd, hs, hr, Result.andThen]
  exact hK _ _ h
theorem step_copy_run {P : Program} {ops : Array Oper} {o : Oper} {a : Act} {w : World} {K : Act → World → Prop} {Q : Exit → Act → World → Prop} {E : Prop} (hgd : o.guard = none) (d s : Operand) (t t' : TypeId)
    (ho : o.op = .call { callee := .builtin .copy, args := #[d, s], argTypes := #[t, t'] }) (v u : Value) (hd : a.eval d = v) (hs : a.eval s = u) {v' : Value} {w' : World}
    (hr : (Builtin.copy_ #[t, t'] o.type #[v, u]).run P w = .ok v' w') (hK : K (a.put o.dst v') w') : if Region.wanted o (yielded ops a.tmps) = true then Oper.wp P o a w K Q else E := by
  rw [if_pos (by simp [Region.wanted, hgd])]
  unfold Oper.wp
  simp [execOp, ho, resolve, invoke, builtin, hd, hs, hr, Result.andThen]
  exact hK
end Go.Proofs.Ytbadpfcjoobniaa
