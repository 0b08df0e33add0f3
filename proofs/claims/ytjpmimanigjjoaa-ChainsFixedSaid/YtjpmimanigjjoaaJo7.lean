/- Texts of one proof, one behind the other: Maps2, GdMvData, IntS, Tour, ChWrl, ChRight, GdApAt. -/
import Derived.Test.YtjpmimanigjjoaaJo1
import Derived.Test.YtjpmimanigjjoaaJo5
import Derived.Maps.Keyed
import Derived.Test.YtjpmimanigjjoaaJo6
import Derived.Test.YtjpmimanigjjoaaJo3
import Derived.Shelf.SlSortCmp.Insertion
import Derived.Test.YtjpmimanigjjoaaJo4
import Derived.Test.YtjpmimanigjjoaaJo2
import Derived.Maps.AppendAt
set_option linter.all false
/- More on typed maps: m[k] = append(m[k], ..) (an entry found, then stored), delete. Names no program. -/
namespace Go.Proofs.Ytjpmimanigjjoaa
open Go.RowKit Go.MapKept
open Go.Maps (Keyed)
open Go.ChangeMaps (setBlock)

/-- Block b is a map that holds L, and the entry at key x bears this stamp. -/
def EntryT {κ ν : Type} (P : Program) (k : TypeId) (eK : κ → Value) (eV : ν → Value) (w : World) (b : Nat) (L : List (κ × ν)) (x : κ) (stamp : Nat) : Prop :=
  ∃ (es : Array MapEntry) (clock j : Nat) (e0 : MapEntry), w.heap[b]? = some (.map es clock) ∧ Stamped es clock ∧ (∀ y ∈ es.toList, ∃ kl, keyOf P k y.key = some kl) ∧ es.toList.map (fun y => (y.key, y.val)) = L.map (fun y => (eK y.1, eV y.2)) ∧
    es.toList[j]? = some e0 ∧ e0.key = eK x ∧ e0.born = stamp

section laws0
variable {κ ν : Type} {P : Program} {k : TypeId} {eK : κ → Value} {eV : ν → Value} {w : World} {b : Nat} {L : List (κ × ν)}

theorem EntryT.map {x : κ} {stamp : Nat} (h : EntryT P k eK eV w b L x stamp) : MapT P k eK eV w b L := by
  obtain ⟨es, clock, j, e0, h1, h2, h3, h4, _⟩ := h; exact ⟨es, clock, h1, h2, h3, h4⟩
theorem EntryT.frame {w' : World} {x : κ} {stamp : Nat} (h : EntryT P k eK eV w b L x stamp) (hw : w'.heap[b]? = w.heap[b]?) : EntryT P k eK eV w' b L x stamp := by
  obtain ⟨es, clock, j, e0, hb, r⟩ := h; exact ⟨es, clock, j, e0, hw.trans hb, r⟩
end laws0

section laws
variable {κ ν : Type} [DecidableEq κ] {P : Program} {k e t : TypeId} {eK : κ → Value} {eV : ν → Value} {w : World} {b : Nat} {L : List (κ × ν)}

theorem putM_same {x : κ} {v : ν} (hp : L.Pairwise (fun p q => p.1 ≠ q.1)) (h : getM L x = some v) : putM L x v = L := by
  unfold putM
  rw [h]
  simp only [Option.isSome_some, if_true]
  have hm := getM_some h
  have : ∀ p ∈ L, (if p.1 = x then (x, v) else p) = p := by
    intro p hpL
    by_cases hx : p.1 = x
    · rw [if_pos hx]
      obtain ⟨i, hi⟩ := List.mem_iff_getElem?.1 hpL
      obtain ⟨j, hj⟩ := List.mem_iff_getElem?.1 hm
      obtain ⟨hi1, hi2⟩ := List.getElem?_eq_some_iff.1 hi
      obtain ⟨hj1, hj2⟩ := List.getElem?_eq_some_iff.1 hj
      have hn := List.pairwise_iff_getElem.1 hp
      rcases Nat.lt_trichotomy i j with hlt | rfl | hlt
      · exact absurd (by rw [hi2, hj2]; exact hx) (hn i j hi1 hj1 hlt)
      · rw [hi] at hj; cases hj; rfl
      · exact absurd (by rw [hi2, hj2]; exact hx.symm) (hn j i hj1 hi1 hlt)
    · rw [if_neg hx]
  rw [List.map_congr_left this]; simp

/-- m[x], found or laid, to be stored to. -/
theorem MapT.mapEntry (hK : Keyed P k) (hinj : ∀ x y, eK x = eK y → x = y) (ht : P.underlying t = some (.map k e)) (h : MapT P k eK eV w b L) (x : κ) {kl : Lit} (hx : keyOf P k (eK x) = some kl) (z : ν) (hz : (zeroValue e).run P w = .ok (eV z) w) :
    ∃ w' stamp, (Instr.mapEntry t (.map (some b)) (eK x)).run P w = .ok (.tuple #[eV ((getM L x).getD z), goInt (stamp : Nat)]) w' ∧ EntryT P k eK eV w' b (putM L x ((getM L x).getD z)) x stamp ∧ w.grownBy w' (some b) ∧ w'.heap.size = w.heap.size := by
  obtain ⟨es, clock, hb, hs, hk, hL, h1 | ⟨j, e0, u, h1, h2, h3, h4, h5, h6, hu⟩⟩ := h.find hK hinj x hx
  · refine ⟨setBlock w b (.map (es.push ⟨eK x, eV z, clock⟩) (clock + 1)), clock, ?_, ⟨_, _, es.size, ⟨eK x, eV z, clock⟩, ChangeMaps.heap_setBlock_same hb _, stamped_push hs h1.2.2, ?_, ?_, ?_, rfl, rfl⟩, ⟨rfl, rfl, rfl, by simp [setBlock], fun i _ hi => ChangeMaps.heap_setBlock_other hb _ (fun e => hi (by rw [e]))⟩, by simp [setBlock]⟩
    · rw [h1.2.1]
      simp [Instr.mapEntry, run_underlying ht, MapKept.run_getObj_map hb, hK.check w false hx, h1.1 w, hz, MapKept.run_setObj_map _ hb, Result.andThen, setBlock]
    · intro y hy
      simp only [Array.toList_push, List.mem_append, List.mem_singleton] at hy
      rcases hy with hy | rfl
      · exact hk y hy
      · exact ⟨kl, hx⟩
    · rw [h1.2.1]
      have : putM L x z = L ++ [(x, z)] := by unfold putM; rw [h1.2.1]; rfl
      rw [Option.getD_none, this, List.map_append, ← hL]; simp
    · simp
  · have hj : es[j]? = some e0 := by simpa using h2
    have hlist : (es.modify j (fun e' => { e' with key := eK x })).toList = es.toList.set j { e0 with key := eK x } := by
      rw [Array.toList_modify, ChangeMaps.modify_eq_set _ _ _ _ h2]
    have he0 : ({ e0 with key := eK x } : MapEntry) = e0 := by rw [← h3]
    have hes : (es.modify j (fun e' => { e' with key := eK x })).toList = es.toList := by
      rw [hlist, he0]
      apply List.ext_getElem?
      intro i
      rw [List.getElem?_set]
      by_cases hij : j = i
      · subst hij; rw [if_pos rfl, if_pos (List.getElem?_eq_some_iff.1 h2).1, h2]
      · simp [hij]
    have hes' : es.modify j (fun e' => { e' with key := eK x }) = es := by
      apply Array.toList_inj.1; exact hes
    have hborn : ((es[j]?.map (·.born)).getD 0) = e0.born := by rw [hj]; rfl
    refine ⟨setBlock w b (.map es clock), e0.born, ?_, ⟨es, clock, j, e0, ChangeMaps.heap_setBlock_same hb _, hs, hk, ?_, h2, h3, rfl⟩, ⟨rfl, rfl, rfl, by simp [setBlock], fun i _ hi => ChangeMaps.heap_setBlock_other hb _ (fun e => hi (by rw [e]))⟩, by simp [setBlock]⟩
    · rw [h6]
      simp [Instr.mapEntry, run_underlying ht, MapKept.run_getObj_map hb, hK.check w false hx, h1 w, hj, h3, hK.stays w hx, MapKept.run_setObj_map _ hb, Result.andThen, setBlock, hes', h5]
    · rw [h6, Option.getD_some, putM_same h.pairwise h6, hL]

/-- The entry is stored to. -/
theorem EntryT.store (hinj : ∀ x y, eK x = eK y → x = y) {x : κ} {stamp : Nat} (h : EntryT P k eK eV w b L x stamp) (v : ν) (hm : (getM L x).isSome = true) :
    ∃ w', (Instr.entryStore t (.map (some b)) (goInt (stamp : Nat)) (eV v)).run P w = .ok () w' ∧ MapT P k eK eV w' b (putM L x v) ∧ w.grownBy w' (some b) ∧ w'.heap.size = w.heap.size := by
  have hmap := h.map
  obtain ⟨es, clock, j, e0, hb, hs, hk, hL, h2, h3, rfl⟩ := h
  have hj : es[j]? = some e0 := by simpa using h2
  have hbi := ((stamped_iff es clock).1 hs).2.1
  have hfi : es.findIdx? (fun e => ((e.born : Int) == (e0.born : Int))) = some j := by
    rw [Array.findIdx?_eq_some_iff_getElem]
    obtain ⟨hjl, hje⟩ := List.getElem?_eq_some_iff.1 h2
    have hjl' : j < es.size := by simpa using hjl
    refine ⟨hjl', ?_, fun i hi => ?_⟩
    · have : es[j] = e0 := by simpa using hje
      simp [this]
    · intro hc
      have hc' : (es[i]'(by omega)).born = e0.born := by have := hc; simp at this; omega
      have hil : i < es.toList.length := by simp; omega
      have h1 := List.pairwise_iff_getElem.1 (List.nodup_iff_pairwise_ne.1 hbi) i j (by simpa using hil) (by simpa using hjl) hi
      apply h1
      simp only [List.getElem_map]
      rw [show es.toList[j] = e0 from hje]
      simpa using hc'
  have hlist : (es.modify j (fun e' => { e' with val := eV v })).toList = es.toList.set j { e0 with val := eV v } := by
    rw [Array.toList_modify, ChangeMaps.modify_eq_set _ _ _ _ h2]
  refine ⟨setBlock w b (.map (es.modify j (fun e' => { e' with val := eV v })) clock), ?_, ⟨_, _, ChangeMaps.heap_setBlock_same hb _, stamped_modify hs _ _ (fun _ _ => rfl) (fun e' _ _ => rfl), ?_, ?_⟩, ⟨rfl, rfl, rfl, by simp [setBlock], fun i _ hi => ChangeMaps.heap_setBlock_other hb _ (fun e => hi (by rw [e]))⟩, by simp [setBlock]⟩
  · simp [Instr.entryStore, MapKept.run_getObj_map hb, goInt, asInt, asIntOf, hfi, MapKept.run_setObj_map _ hb, Result.andThen, setBlock]
  · intro y hy
    rw [hlist] at hy
    rcases List.mem_or_eq_of_mem_set hy with hy | rfl
    · exact hk y hy
    · exact hk e0 (List.mem_of_getElem? h2)
  · have hp : putM L x v = L.map (fun p => if p.1 = x then (x, v) else p) := by unfold putM; rw [hm]; rfl
    rw [hp, hlist, List.map_set, hL]
    apply List.ext_getElem?
    intro i
    rw [List.getElem?_set, List.getElem?_map, List.getElem?_map, List.getElem?_map]
    have hlen : es.toList.length = L.length := by simpa using congrArg List.length hL
    by_cases hij : j = i
    · subst hij
      obtain ⟨hjl, _⟩ := List.getElem?_eq_some_iff.1 h2
      have hjL : j < L.length := by omega
      have hkey : (L[j]).1 = x := by
        have h1 : (es.toList.map (fun y => (y.key, y.val)))[j]? = some (e0.key, e0.val) := by simp [h2]
        rw [hL, List.getElem?_map, List.getElem?_eq_getElem hjL] at h1
        simp only [Option.map_some, Option.some.injEq, Prod.mk.injEq] at h1
        exact hinj _ _ (h1.1.trans h3)
      simp [hjL, hkey, h3]
    · simp only [hij, if_false]
      cases hl : L[i]? with
      | none => rfl
      | some p =>
        have : ¬ p.1 = x := by
          intro hpx
          have h1 : (L.map (fun y => (eK y.1, eV y.2)))[i]? = some (eK p.1, eV p.2) := by simp [hl]
          rw [← hL, List.getElem?_map] at h1
          cases hes : es.toList[i]? with
          | none => simp [hes] at h1
          | some a =>
            simp only [hes, Option.map_some, Option.some.injEq, Prod.mk.injEq] at h1
            have hkk : a.key = e0.key := by rw [h1.1, hpx, h3]
            have := entry_eq_of_key ((stamped_iff es clock).1 hs).2.2 (List.mem_of_getElem? hes) (List.mem_of_getElem? h2) hkk
            subst this
            obtain ⟨a1, a2⟩ := List.getElem?_eq_some_iff.1 hes
            obtain ⟨b1, b2⟩ := List.getElem?_eq_some_iff.1 h2
            have hn := List.pairwise_iff_getElem.1 ((stamped_iff es clock).1 hs).2.2
            rcases Nat.lt_trichotomy i j with hlt | he | hlt
            · exact hn i j a1 b1 hlt (by rw [a2, b2])
            · exact hij he.symm
            · exact hn j i b1 a1 hlt (by rw [a2, b2])
        simp [this]

/-- delete(m, x). -/
theorem MapT.delete (hK : Keyed P k) (hinj : ∀ x y, eK x = eK y → x = y) (ht : P.underlying t = some (.map k e)) (h : MapT P k eK eV w b L) (x : κ) {kl : Lit} (hx : keyOf P k (eK x) = some kl) (ty : TypeId) :
    ∃ w', (Builtin.delete_ #[t, k] ty #[.map (some b), eK x]).run P w = .ok (.tuple #[]) w' ∧ MapT P k eK eV w' b (delM L x) ∧ w.grownBy w' (some b) ∧ w'.heap.size = w.heap.size := by
  obtain ⟨es, clock, hb, hs, hk, hL, h1 | ⟨j, e0, u, h1, h2, h3, h4, h5, h6, hu⟩⟩ := h.find hK hinj x hx
  · refine ⟨setBlock w b (.map es clock), ?_, ⟨es, clock, ChangeMaps.heap_setBlock_same hb _, hs, hk, ?_⟩, ⟨rfl, rfl, rfl, by simp [setBlock], fun i _ hi => ChangeMaps.heap_setBlock_other hb _ (fun e => hi (by rw [e]))⟩, by simp [setBlock]⟩
    · simp [Builtin.delete_, run_underlying ht, MapKept.run_getObj_map hb, hK.check w _ hx, h1.1 w, MapKept.run_setObj_map _ hb, Result.andThen, setBlock]
    · have : delM L x = L := by
        unfold delM
        rw [List.filter_eq_self]
        intro p hp
        simpa using getM_none.1 h1.2.1 p hp
      rw [this, hL]
  · have hjl : j < es.toList.length := (List.getElem?_eq_some_iff.1 h2).1
    have hjs : j < es.size := by simpa using hjl
    have hsub : (es.eraseIdxIfInBounds j).toList = es.toList.eraseIdx j := by
      unfold Array.eraseIdxIfInBounds
      rw [dif_pos hjs]
      simp
    have hdel : delM L x = L.eraseIdx j := by
      have hjL : j < L.length := (List.getElem?_eq_some_iff.1 h4).1
      have hs1 : L = L.take j ++ (x, u) :: L.drop (j + 1) := by
        conv => lhs; rw [← List.take_append_drop j L]
        rw [List.drop_eq_getElem_cons hjL, (List.getElem?_eq_some_iff.1 h4).2]
      have hf1 : (L.take j).filter (fun p => decide (p.1 ≠ x)) = L.take j := by
        rw [List.filter_eq_self]
        intro p hp
        obtain ⟨i, hi⟩ := List.mem_iff_getElem?.1 hp
        have hij : i < j := by have := (List.getElem?_eq_some_iff.1 hi).1; simp at this; omega
        rw [List.getElem?_take, if_pos hij] at hi
        have : p.1 ≠ x := fun e => by have := hu i p hi e; omega
        simpa using this
      have hf2 : (L.drop (j + 1)).filter (fun p => decide (p.1 ≠ x)) = L.drop (j + 1) := by
        rw [List.filter_eq_self]
        intro p hp
        obtain ⟨i, hi⟩ := List.mem_iff_getElem?.1 hp
        rw [List.getElem?_drop] at hi
        have : p.1 ≠ x := fun e => by have := hu _ p hi e; omega
        simpa using this
      unfold delM
      rw [List.eraseIdx_eq_take_drop_succ]
      conv => lhs; rw [hs1]
      rw [List.filter_append, List.filter_cons, hf1, hf2]
      simp
    refine ⟨setBlock w b (.map (es.eraseIdxIfInBounds j) clock), ?_, ⟨_, clock, ChangeMaps.heap_setBlock_same hb _, stamped_erase hs j, ?_, ?_⟩, ⟨rfl, rfl, rfl, by simp [setBlock], fun i _ hi => ChangeMaps.heap_setBlock_other hb _ (fun e => hi (by rw [e]))⟩, by simp [setBlock]⟩
    · simp [Builtin.delete_, run_underlying ht, MapKept.run_getObj_map hb, hK.check w _ hx, h1, MapKept.run_setObj_map _ hb, Result.andThen, setBlock]
    · intro y hy
      rw [hsub] at hy
      exact hk y ((List.eraseIdx_sublist _ _).subset hy)
    · rw [hdel, hsub, ChangeMaps.map_eraseIdx, ChangeMaps.map_eraseIdx, hL]
end laws
end Go.Proofs.Ytjpmimanigjjoaa

/- A store of versions in memory: its block, its three maps, the rows that they hold. mvcc.New; what is kept of cells. -/
namespace Go.Proofs.Ytjpmimanigjjoaa
open Go.RowKit Go.Maps
open Go.ChangeShapes Go.WideShapes

def i64G (n : Int) : Prop := -9223372036854775808 ≤ n ∧ n ≤ 9223372036854775807
theorem alloc_atG (w : World) (o : Obj) : (w.alloc o).heap[w.heap.size]? = some o := by show (w.heap.push o)[w.heap.size]? = some o; simp
theorem cell_ofG {w : World} {b : Nat} {cs : Array Value} {T : TypeId} {fz : Nat × Nat} (h : w.heap[b]? = some (.cells cs T fz)) (o : Nat) : w.cell? ⟨b, o, none⟩ = cs[o]? := by
  simp [World.cell?, h]
theorem free_ofG {w : World} {b : Nat} {cs : Array Value} {T : TypeId} (h : w.heap[b]? = some (.cells cs T)) (o : Nat) : w.frozen? ⟨b, o, none⟩ = false := by
  simp [World.frozen?, h]

theorem intKeyedG : Keyed Try.prog 3 := int_keyed Try.underlying3
theorem vi_injG (x y : Int) (h : vi x = vi y) : x = y := by simpa using h
theorem wf_ofG {n : Int} (h : i64G n) : (Lit.int .i64 n).wf = true := by
  simp [Lit.wf, IntKind.min, IntKind.max, IntKind.signed, IntKind.bits]; exact h
theorem intKeyG {n : Int} (h : i64G n) : ∃ kl, keyOf Try.prog 3 (vi n) = some kl := ⟨_, keyOf_int_mk Try.underlying3 (wf_ofG h)⟩

/-- All cells stay as they were (maps may turn). -/
def Solid (w w' : World) : Prop := ∀ (j : Nat) (cs : Array Value) (T : TypeId) (fz : Nat × Nat), w.heap[j]? = some (.cells cs T fz) → w'.heap[j]? = some (.cells cs T fz)
theorem Solid.refl (w : World) : Solid w w := fun _ _ _ _ h => h
theorem Solid.trans {a b c : World} (h : Solid a b) (k : Solid b c) : Solid a c := fun j cs T fz h1 => k j cs T fz (h j cs T fz h1)
theorem Solid.later {w A B : World} (h : Solid w A) (hb : Below A.heap.size A B) : Solid w B := fun j cs T fz h1 => by
  have := h j cs T fz h1
  exact (hb.block j (Array.getElem?_eq_some_iff.1 this).1).trans this
theorem Solid.below {A B : World} (hb : Below A.heap.size A B) : Solid A B := (Solid.refl A).later hb
theorem Solid.map {w A B : World} {m c : Nat} {es : Array MapEntry} (h : Solid w A) (hm : A.heap[m]? = some (.map es c)) (hg : A.grownBy B (some m)) : Solid w B := fun j cs T fz h1 => by
  have h3 := h j cs T fz h1
  refine (hg.block j (Array.getElem?_eq_some_iff.1 h3).1 fun e => ?_).trans h3
  have : j = m := by simpa using e
  subst this
  rw [hm] at h3; cases h3
theorem Solid.cell {A B : World} (h : Solid A B) {b o : Nat} {v : Value} (hc : A.cell? ⟨b, o, none⟩ = some v) : B.cell? ⟨b, o, none⟩ = some v := by
  unfold World.cell? at hc ⊢
  cases hA : A.heap[b]? with
  | none => simp [hA] at hc
  | some ob =>
    cases ob with
    | cells cs T fz => rw [h b _ _ _ hA]; simpa [hA] using hc
    | _ => simp [hA] at hc
theorem RdS.solid {α : Type} {n : Nat} {E : World → List Value → α → Prop} {A B : World} {v : Value} {xs : List α} (h : RdS n E A v xs) (hs : Solid A B) (hE : ∀ cs x, E A cs x → E B cs x) : RdS n E B v xs := by
  obtain ⟨a, len, cap, h1, h2, h3, h4, h5, h6⟩ := h
  refine ⟨a, len, cap, h1, h2, h3, h4, h5, fun j x hj => ?_⟩
  obtain ⟨b, off, cs, ha, hl, hc, he⟩ := h6 j x hj
  exact ⟨b, off, cs, ha, hl, fun i u hu => hs.cell (hc i u hu), hE _ _ he⟩
theorem RdOps.solid {A B : World} {v : Value} {l : List GOp} (h : RdOps A v l) (hs : Solid A B) : RdOps B v l := RdS.solid h hs fun _ _ h => h

abbrev RdIntsG (w : World) (v : Value) (xs : List Int) : Prop := RdS 1 EInt w v xs
theorem RdIntsG.at {w : World} {v : Value} {xs : List Int} (h : RdIntsG w v xs) : ∃ a len cap, v = .slice a len cap ∧ len = xs.length ∧ xs.length ≤ 9223372036854775807 ∧ ∀ j x, xs[j]? = some x → ∃ b off, a = some ⟨b, off, none⟩ ∧ w.cell? ⟨b, off + j, none⟩ = some (.int .i64 x) ∧ i64G x := by
  obtain ⟨a, len, cap, h1, h2, h3, h4, h5, h6⟩ := h
  refine ⟨a, len, cap, h1, h2, h3, fun j x hj => ?_⟩
  obtain ⟨b, off, cs, ha, hl, hc, rfl, hx⟩ := h6 j x hj
  exact ⟨b, off, ha, by have := hc 0 _ rfl; simpa using this, hx⟩
theorem RdIntsG.later {w w' : World} {v : Value} {xs : List Int} (h : RdIntsG w v xs) (hb : Below w.heap.size w w') : RdIntsG w' v xs := RdS.below h hb fun _ _ h => h
theorem RdIntsG.solid {A B : World} {v : Value} {l : List Int} (h : RdIntsG A v l) (hs : Solid A B) : RdIntsG B v l := RdS.solid h hs fun _ _ h => h

/-- A version: from which time on, the value. -/
abbrev Ver := Int × Int
def verV (x : Ver) : List Value := [vi x.1, vi x.2]
def EVer (_ : World) (cs : List Value) (x : Ver) : Prop := cs = verV x ∧ i64G x.1
abbrev RdVer (w : World) (v : Value) (l : List Ver) : Prop := RdS 2 EVer w v l
theorem RdVer.later {w w' : World} {v : Value} {xs : List Ver} (h : RdVer w v xs) (hb : Below w.heap.size w w') : RdVer w' v xs := RdS.below h hb fun _ _ h => h
theorem RdVer.solid {A B : World} {v : Value} {l : List Ver} (h : RdVer A v l) (hs : Solid A B) : RdVer B v l := RdS.solid h hs fun _ _ h => h
theorem RdVer.at {w : World} {v : Value} {xs : List Ver} (h : RdVer w v xs) : ∃ a len cap, v = .slice a len cap ∧ len = xs.length ∧ xs.length ≤ 9223372036854775807 ∧ ∀ j x, xs[j]? = some x → ∃ b off, a = some ⟨b, off, none⟩ ∧ w.cell? ⟨b, off + j * 2, none⟩ = some (vi x.1) ∧ w.cell? ⟨b, off + j * 2 + 1, none⟩ = some (vi x.2) ∧ i64G x.1 := by
  obtain ⟨a, len, cap, h1, h2, h3, h4, h5, h6⟩ := h
  refine ⟨a, len, cap, h1, h2, h3, fun j x hj => ?_⟩
  obtain ⟨b, off, cs, ha, hl, hc, rfl, hx⟩ := h6 j x hj
  exact ⟨b, off, ha, by simpa using hc 0 _ rfl, by simpa [Nat.add_assoc] using hc 1 _ rfl, hx⟩

/-- A transaction that waits. -/
structure Rdy where
  txn : Int
  home : Int
  start : Int
  writes : List GOp
  reads : List Int
/-- .. and the slice values that its lists lie in. -/
structure RV where
  wv : Value
  rv : Value
  r : Rdy
def rdyC (x : RV) : Array Value := #[vi x.r.txn, vi x.r.home, vi x.r.start, x.wv, x.rv]
def rdyV (x : RV) : Value := .agg (rdyC x)
structure RdyS (W : World) (x : RV) : Prop where
  ws : RdOps W x.wv x.r.writes
  rs : RdIntsG W x.rv x.r.reads
theorem RdyS.solid {A B : World} {x : RV} (h : RdyS A x) (hs : Solid A B) : RdyS B x := ⟨h.ws.solid hs, h.rs.solid hs⟩
theorem RdyS.later {A B : World} {x : RV} (h : RdyS A x) (hb : Below A.heap.size A B) : RdyS B x := h.solid (Solid.below hb)
/-- What became of a transaction. -/
structure EndM where
  txn : Int
  commit : Bool
  at_ : Int
deriving DecidableEq
def endV (e : EndM) : Value := .agg #[vi e.txn, .bool e.commit, vi e.at_]

abbrev KV := Value × List Ver
abbrev KeysL := List (Int × KV)
abbrev RdyL := List (Int × RV)
abbrev EndL := List (Int × EndM)
abbrev MapK (w : World) (b : Nat) (L : KeysL) : Prop := MapT Try.prog 3 vi (fun x : KV => x.1) w b L
abbrev MapR (w : World) (b : Nat) (L : RdyL) : Prop := MapT Try.prog 3 vi rdyV w b L
abbrev MapE (w : World) (b : Nat) (L : EndL) : Prop := MapT Try.prog 3 vi endV w b L

theorem MapT.obj {κ ν : Type} {P : Program} {k : TypeId} {eK : κ → Value} {eV : ν → Value} {w : World} {b : Nat} {L : List (κ × ν)} (h : MapT P k eK eV w b L) : ∃ es c, w.heap[b]? = some (.map es c) := by
  obtain ⟨es, c, hb, _⟩ := h; exact ⟨es, c, hb⟩

theorem Try.infoI : (Try.prog.info? 3).map (fun i => (i.zero, i.size, i.bytes)) = some (some (vi 0), 1, 8) := by kernel_rfl
theorem eltI : Elt Try.prog 23 3 1 8 (vi 0) := by
  obtain ⟨i0, hi, hz0, hz1, hz2⟩ := info_parts Try.infoI
  exact ⟨Try.underlying23, by decide, rfl, i0, hi, hz0, hz1, hz2⟩
def viC (p : Int) : List Value := [vi p]
/-- A row of ints that the call owns. -/
def OwI (base : Nat) (w : World) (v : Value) (xs : List Int) : Prop := w.ownsRow base 3 1 v xs.length (xs.flatMap viC)

end Go.Proofs.Ytjpmimanigjjoaa

/- Slices of ints: pieces of one, an own row read, what is appended. -/
namespace Go.Proofs.Ytjpmimanigjjoaa
open Go.RowKit Go.Maps

theorem own_shapeY {w : World} {base e size n : Nat} {v : Value} {xs : List Value} (h : w.ownsRow base e size v n xs) : ∃ a c, v = .slice a n c ∧ (n ≠ 0 → ∃ g, a = some ⟨g, 0, none⟩ ∧ base ≤ g) := by
  rcases h.2 with ⟨hv, h0⟩ | ⟨g, cap, cur, hv, hg, _⟩
  · exact ⟨none, 0, by rw [hv, h0], fun h => absurd h0 h⟩
  · exact ⟨_, _, hv, fun _ => ⟨g, rfl, hg⟩⟩
theorem viY_map (l : List Int) : l.flatMap viC = l.map vi := by
  induction l with
  | nil => rfl
  | cons x l ih => simp [viC, ih]
theorem viY_one (l : List Int) : ∀ u ∈ l.flatMap viC, u.oneCell' = true := by
  intro u hu; rw [viY_map] at hu; simp at hu; obtain ⟨x, _, rfl⟩ := hu; rfl
theorem RdInts.takeY {w : World} {ad : Addr} {n c : Nat} {xs : List Int} (h : RdInts w (.slice (some ad) n c) xs) (k : Nat) (hk : k ≤ n) : RdInts w (.slice (some ad) k c) (xs.take k) := by
  obtain ⟨a, len, cap, h1, rfl, hm, hlc, hn, hc⟩ := h
  cases h1
  refine ⟨_, k, c, rfl, by simp; omega, by simp; omega, by omega, (fun h => by cases h), fun j x hj => hc j x ?_⟩
  rw [List.getElem?_take] at hj
  split at hj
  · exact hj
  · cases hj
theorem RdInts.dropY {w : World} {b off n c : Nat} {xs : List Int} (h : RdInts w (.slice (some ⟨b, off, none⟩) n c) xs) (k : Nat) (hk : k ≤ n) :
    RdInts w (sliced (some ⟨b, off, none⟩) k n c 1) (xs.drop k) := by
  obtain ⟨a, len, cap, h1, rfl, hm, hlc, hn, hc⟩ := h
  cases h1
  unfold sliced
  by_cases h0 : c = k
  · subst h0
    refine ⟨_, _, _, rfl, by simp, by simp; omega, by omega, (fun h => by simp at h), fun j x hj => ?_⟩
    rw [List.getElem?_drop] at hj
    have := (List.getElem?_eq_some_iff.1 hj).1
    omega
  · refine ⟨_, _, _, rfl, by simp, by simp; omega, by omega, (fun h => by simp [h0] at h), fun j x hj => ?_⟩
    rw [List.getElem?_drop] at hj
    obtain ⟨b', off', cs, hb, hl, hcell, he⟩ := hc _ x hj
    cases hb
    refine ⟨b, off + k, cs, by simp [h0, addr_add], hl, fun i u hu => ?_, he⟩
    have := hcell i u hu
    rw [show off + k + (j * 1 + i) = off + ((k + j) * 1 + i) by omega]
    exact this
theorem run_dropY {b off n c k : Nat} (hk : k ≤ n) (w : World) : (Instr.slice 23 (.slice (some ⟨b, off, none⟩) n c) (some (.int .i64 k)) none none).run Try.prog w = .ok (sliced (some ⟨b, off, none⟩) k n c 1) w := by
  have hs : ∀ w, (sizeOf 3).run Try.prog w = .ok 1 w := fun w => by
    obtain ⟨i0, hi, _, hz1, _⟩ := info_parts Try.infoI
    simp [sizeOf, typeInfo, hi, hz1]
  have he : Try.prog.elem 23 = 3 := by kernel_rfl
  rw [run_slice_l w _ _ _ _ (by rw [he]; exact Try.underlying23) .i64 _ (by omega) (by omega), he, hs]
  simp [Result.andThen]
theorem run_takeY {b off n c k : Nat} (hk : k ≤ c) (w : World) : (Instr.slice 23 (.slice (some ⟨b, off, none⟩) n c) none (some (.int .i64 k)) none).run Try.prog w = .ok (.slice (some ⟨b, off, none⟩) k c) w := by
  have hs : ∀ w, (sizeOf 3).run Try.prog w = .ok 1 w := fun w => by
    obtain ⟨i0, hi, _, hz1, _⟩ := info_parts Try.infoI
    simp [sizeOf, typeInfo, hi, hz1]
  have he : Try.prog.elem 23 = 3 := by kernel_rfl
  rw [run_slice_h w _ _ _ _ (by rw [he]; exact Try.underlying23) .i64 _ (by omega) (by omega), he, hs]
  simp [Result.andThen, sliced, Addr.add]
theorem slicedY (a : Option Addr) (k n c m : Nat) : ∃ a2 n2 c2, sliced a k n c m = .slice a2 n2 c2 := by unfold sliced; exact ⟨_, _, _, rfl⟩
theorem RdInts.src {w : World} {v : Value} {l : List Int} (h : RdInts w v l) : Src w v 1 l.length (l.flatMap viC) := by
  obtain ⟨a, len, cap, rfl, rfl, hm, hlc, hn, hc⟩ := h
  refine ⟨a, cap, rfl, by rw [viY_map]; simp, hn, fun ad had j u hu => ?_⟩
  rw [viY_map, List.getElem?_map] at hu
  cases hx : l[j]? with
  | none => rw [hx] at hu; cases hu
  | some x =>
    rw [hx] at hu
    cases hu
    obtain ⟨b, off, cs, hb, hl, hcell, rfl, _⟩ := hc j x hx
    rw [had] at hb
    cases hb
    have := hcell 0 _ rfl
    rw [addr_add]
    simpa using this
/-- A row of one's own is readable. -/
theorem OwI.rdY {base : Nat} {w : World} {v : Value} {l : List Int} (h : OwI base w v l) (hi : ∀ x ∈ l, i64 x) : RdInts w v l := by
  obtain ⟨a, len, cap, h1, h2, h3, h4, h5, h6⟩ := rds_of_own (V := viC) (fun _ => rfl) h
  refine ⟨a, len, cap, h1, h2, h3, h4, h5, fun j x hj => ?_⟩
  obtain ⟨b, off, cs, e1, e2, e3, e4⟩ := h6 j x hj
  have := hi x (List.mem_of_getElem? hj)
  exact ⟨b, off, cs, e1, e2, e3, e4, by unfold i64 at this; exact this⟩
theorem RdInts.i64s {w : World} {v : Value} {l : List Int} (h : RdInts w v l) : ∀ x ∈ l, i64 x := by
  intro x hx
  obtain ⟨a, len, cap, h1, h2, h3, h4, h5, h6⟩ := h
  obtain ⟨j, hj⟩ := List.mem_iff_getElem?.1 hx
  obtain ⟨b, off, cs, e1, e2, e3, e4⟩ := h6 j x hj
  exact e4.2
end Go.Proofs.Ytjpmimanigjjoaa

/- A relation that never goes both ways: who is ahead of how many. Plain. -/
namespace Go.Proofs.Ytjpmimanigjjoaa

section
variable {A : Int → Int → Bool}
theorem tour_all {E : List Int} (irr : ∀ x, A x x = false) (asy : ∀ x y, A x y = true → A y x = false) (h : ∀ k (hk : k < E.length), E.countP (A E[k]) = E.length - 1 - k) : E.Pairwise (fun x y => A x y = true) := by
  induction E with
  | nil => exact List.Pairwise.nil
  | cons x E ih =>
    have h0 := h 0 (by simp)
    simp only [List.getElem_cons_zero, List.countP_cons, irr, List.length_cons] at h0
    have hx : ∀ y ∈ E, A x y = true := by
      apply List.countP_eq_length.1
      simpa using h0
    refine List.Pairwise.cons hx (ih fun k hk => ?_)
    have h1 := h (k + 1) (by simp; omega)
    simp only [List.getElem_cons_succ, List.countP_cons, List.length_cons] at h1
    rw [asy x _ (hx _ (List.getElem_mem hk))] at h1
    simp at h1
    omega
theorem tour_count {E : List Int} (irr : ∀ x, A x x = false) (asy : ∀ x y, A x y = true → A y x = false) (h : E.Pairwise (fun x y => A x y = true)) : ∀ k (hk : k < E.length), E.countP (A E[k]) = E.length - 1 - k := by
  induction E with
  | nil => intro k hk; simp at hk
  | cons x E ih =>
    rw [List.pairwise_cons] at h
    intro k hk
    cases k with
    | zero =>
      simp only [List.getElem_cons_zero, List.countP_cons, irr, List.length_cons]
      have := List.countP_eq_length.2 h.1
      simp [this]
    | succ k =>
      have hk' : k < E.length := by simpa using hk
      have := ih h.2 k hk'
      simp only [List.getElem_cons_succ, List.countP_cons, List.length_cons]
      rw [asy x _ (h.1 _ (List.getElem_mem hk')), this]
      simp
      omega
end
/-- Falling, all below their number: the numbers are told. -/
theorem falls {n : Nat} {f : Nat → Nat} (h1 : ∀ k, k < n → f k < n) (h2 : ∀ j k, j < k → k < n → f k < f j) : ∀ k, k < n → f k = n - 1 - k := by
  have hu : ∀ k, k < n → f k ≤ n - 1 - k := by
    intro k
    induction k with
    | zero => intro hk; have := h1 0 hk; omega
    | succ k ih => intro hk; have := h2 k (k + 1) (by omega) hk; have := ih (by omega); omega
  have hl : ∀ d k, k + d + 1 = n → d ≤ f k := by
    intro d
    induction d with
    | zero => intro k _; omega
    | succ d ih => intro k hk; have := h2 k (k + 1) (by omega) (by omega); have := ih (k + 1) (by omega); omega
  intro k hk
  have := hu k hk
  have := hl (n - 1 - k) k (by omega)
  omega

/-- Each number below the length is met once. -/
def OnceEach (M : List Nat) : Prop := ∀ n, n < M.length → M.count n = 1
theorem once_inj {M : List Nat} (h : OnceEach M) (hlt : ∀ x ∈ M, x < M.length) : M.Nodup := by
  rw [List.nodup_iff_count]
  intro x
  by_cases hx : x ∈ M
  · rw [h x (hlt x hx)]; exact Nat.le_refl _
  · rw [List.count_eq_zero_of_not_mem hx]; omega
theorem once_perm {M M' : List Nat} (p : M.Perm M') (h : OnceEach M) : OnceEach M' := fun n hn => by rw [← p.count_eq n]; exact h n (by rw [p.length_eq]; exact hn)
theorem once_rev (n : Nat) : OnceEach ((List.range n).map (fun k => n - 1 - k)) := by
  intro m hm
  simp at hm
  have hnd : ((List.range n).map (fun k => n - 1 - k)).Nodup := by
    rw [List.Nodup, List.pairwise_map]
    refine List.Pairwise.imp_of_mem ?_ List.nodup_range
    intro a b ha hb hab
    rw [List.mem_range] at ha hb
    omega
  rw [hnd.count, if_pos (by rw [List.mem_map]; exact ⟨n - 1 - m, by rw [List.mem_range]; omega, by omega⟩)]

/-- How many of D x is ahead of. -/
def aheadOf (L : FaL) (key a c : Int) : Bool := match getM L ⟨2, key, min a c, max a c⟩ with
  | some so => (c != a) && (so == decide (a < c))
  | none => false
theorem aheadOf_irr (L : FaL) (key x : Int) : aheadOf L key x x = false := by
  unfold aheadOf; cases getM L ⟨2, key, min x x, max x x⟩ <;> simp
theorem aheadOf_asy (L : FaL) (key x y : Int) (h : aheadOf L key x y = true) : aheadOf L key y x = false := by
  unfold aheadOf at h ⊢
  rw [Int.min_comm y x, Int.max_comm y x]
  cases hg : getM L ⟨2, key, min x y, max x y⟩ with
  | none => rfl
  | some so =>
    rw [hg] at h
    simp only [Bool.and_eq_true, bne_iff_ne, ne_eq, beq_iff_eq] at h
    obtain ⟨h1, h2⟩ := h
    rcases Int.lt_or_gt_of_ne h1 with h3 | h3
    · have e1 : decide (x < y) = false := by simp; omega
      have e2 : decide (y < x) = true := by simp; omega
      rw [e1] at h2
      simp [h2, e2]
    · have e1 : decide (x < y) = true := by simp; omega
      have e2 : decide (y < x) = false := by simp; omega
      rw [e1] at h2
      simp [h2, e2]
def aheadN (L : FaL) (key : Int) (D : List Int) (x : Int) : Nat := D.countP (aheadOf L key x)
theorem aheadN_perm {L : FaL} {key : Int} {D E : List Int} (p : D.Perm E) (x : Int) : aheadN L key D x = aheadN L key E x := p.countP_eq _
theorem aheadN_le (L : FaL) (key : Int) (D : List Int) (x : Int) : aheadN L key D x ≤ D.length := List.countP_le_length
theorem aheadN_lt {L : FaL} {key : Int} {D : List Int} {x : Int} (hx : x ∈ D) : aheadN L key D x < D.length := by
  rcases Nat.lt_or_ge (aheadN L key D x) D.length with h | h
  · exact h
  · have := List.countP_eq_length.1 (Nat.le_antisymm (aheadN_le L key D x) h) x hx
    rw [aheadOf_irr] at this; cases this

/-- Do the facts say one order? -/
def onceB (L : FaL) (key : Int) (D : List Int) : Bool := (List.range D.length).all fun n => (D.map (aheadN L key D)).count n == 1
theorem onceB_iff {L : FaL} {key : Int} {D : List Int} : onceB L key D = true ↔ OnceEach (D.map (aheadN L key D)) := by
  unfold onceB OnceEach
  rw [List.all_eq_true]
  simp [List.mem_range]

/-- The row put in order by how many each is ahead of stands in the facts' order. -/
theorem chain_sorted {L : FaL} {key : Int} {D E : List Int} (ho : onceB L key D = true) (p : D.Perm E) (hs : ∀ j k (hj : j < E.length) (hk : k < E.length), j < k → aheadN L key D E[k] ≤ aheadN L key D E[j]) :
    E.Pairwise (fun x y => aheadOf L key x y = true) := by
  have hN : ∀ x, aheadN L key D x = aheadN L key E x := aheadN_perm p
  have hM : OnceEach (E.map (aheadN L key E)) := by
    have := once_perm (p.map (aheadN L key D)) (onceB_iff.1 ho)
    rwa [show aheadN L key D = aheadN L key E from funext hN] at this
  have hlt : ∀ x ∈ E.map (aheadN L key E), x < (E.map (aheadN L key E)).length := by
    intro x hx
    rw [List.mem_map] at hx
    obtain ⟨y, hy, rfl⟩ := hx
    rw [List.length_map]
    exact aheadN_lt hy
  have hnd := once_inj hM hlt
  apply tour_all (aheadOf_irr L key) (aheadOf_asy L key)
  intro k hk
  have hf := falls (n := E.length) (f := fun k => if h : k < E.length then aheadN L key E E[k] else 0) (fun k hk => by simp only [hk, dite_true]; exact aheadN_lt (List.getElem_mem hk)) (fun j k hjk hk => by
    have hj : j < E.length := by omega
    simp only [hk, hj, dite_true]
    have h1 := hs j k hj hk hjk
    rw [hN, hN] at h1
    have h2 : aheadN L key E E[j] ≠ aheadN L key E E[k] := by
      have := List.pairwise_iff_getElem.1 hnd j k (by simpa using hj) (by simpa using hk) hjk
      simpa using this
    omega) k hk
  simp only [hk, dite_true] at hf
  exact hf
/-- Whoever stands in the facts' order says so by numbers. -/
theorem chain_once {L : FaL} {key : Int} {D E : List Int} (p : D.Perm E) (h : E.Pairwise (fun x y => aheadOf L key x y = true)) : onceB L key D = true := by
  rw [onceB_iff]
  have hc := tour_count (aheadOf_irr L key) (aheadOf_asy L key) h
  have hE : E.map (aheadN L key E) = (List.range E.length).map (fun k => E.length - 1 - k) := by
    apply List.ext_getElem
    · simp
    · intro k h1 h2
      simp at h1
      simp only [List.getElem_map, List.getElem_range]
      exact hc k h1
  rw [show aheadN L key D = aheadN L key E from funext (aheadN_perm p)]
  have := once_rev E.length
  rw [← hE] at this
  exact once_perm (p.map _).symm this
end Go.Proofs.Ytjpmimanigjjoaa

/- Who is done and writes a key; how often a number was met. Plain. -/
namespace Go.Proofs.Ytjpmimanigjjoaa
open Go.RowKit Go.Maps

def inW (ts : List GTxn) (L : FaL) (key : Int) (i : Nat) : Bool := (isM ts L i).1 && wrOf ts i key
def wrlK (ts : List GTxn) (L : FaL) (key : Int) (n : Nat) : List Int := (List.range n).filterMap (fun i => if inW ts L key i then some (i : Int) else none)
def wrl (ts : List GTxn) (L : FaL) (key : Int) : List Int := wrlK ts L key ts.length
theorem wrlK_succ (ts : List GTxn) (L : FaL) (key : Int) (n : Nat) : wrlK ts L key (n + 1) = wrlK ts L key n ++ (if inW ts L key n then [(n : Int)] else []) := by
  by_cases h : inW ts L key n <;> simp [wrlK, List.range_succ, h]
theorem wrlK_le (ts : List GTxn) (L : FaL) (key : Int) (n : Nat) : (wrlK ts L key n).length ≤ n := by
  have := List.length_filterMap_le (fun i => if inW ts L key i then some (i : Int) else none) (List.range n)
  simpa [wrlK] using this
theorem wrlK_mem {ts : List GTxn} {L : FaL} {key : Int} {n : Nat} {x : Int} : x ∈ wrlK ts L key n ↔ ∃ i : Nat, i < n ∧ x = i ∧ inW ts L key i = true := by
  unfold wrlK
  rw [List.mem_filterMap]
  constructor
  · rintro ⟨i, hi, h⟩
    rw [List.mem_range] at hi
    split at h
    · rename_i h1
      simp at h
      exact ⟨i, hi, h.symm, h1⟩
    · simp at h
  · rintro ⟨i, hi, rfl, h⟩
    exact ⟨i, List.mem_range.2 hi, by rw [if_pos h]⟩
theorem wrlK_nodup (ts : List GTxn) (L : FaL) (key : Int) : ∀ n, (wrlK ts L key n).Nodup := by
  intro n
  induction n with
  | zero => simp [wrlK]
  | succ n ih =>
    rw [wrlK_succ, List.nodup_append]
    refine ⟨ih, by split <;> simp, fun x hx y hy => ?_⟩
    obtain ⟨i, h1, rfl, _⟩ := wrlK_mem.1 hx
    split at hy
    · simp at hy; subst hy; omega
    · simp at hy
theorem wrl_mem {ts : List GTxn} {L : FaL} {key x : Int} : x ∈ wrl ts L key ↔ ∃ i : Nat, i < ts.length ∧ x = i ∧ inW ts L key i = true := wrlK_mem
theorem wrOf_at {ts : List GTxn} {i : Nat} {t : GTxn} (h : ts[i]? = some t) (key : Int) : wrOf ts i key = writesK t key := by unfold wrOf; rw [h]; rfl

/-- A map that counts. -/
def CntM (C : List (Int × Int)) (M : List Nat) : Prop := ∀ n : Nat, (getM C (n : Int)).getD 0 = (M.count n : Int)
theorem CntM.nil : CntM [] [] := fun n => by simp [getM_nil]
theorem CntM.add {C : List (Int × Int)} {M : List Nat} (h : CntM C M) (x : Nat) : CntM (putM C (x : Int) ((M.count x : Int) + 1)) (M ++ [x]) := by
  intro n
  rw [getM_put, List.count_append]
  by_cases hx : x = n
  · subst hx; simp
  · rw [if_neg (by omega), h n]
    simp [hx]
theorem take_map_succ {D : List Int} {f : Int → Nat} {k : Nat} {x : Int} (h : D[k]? = some x) : (D.take (k + 1)).map f = (D.take k).map f ++ [f x] := by
  rw [List.take_add_one, h, List.map_append]; rfl

/-- The numbers below k are met once. -/
def OnceTo (M : List Nat) (k : Nat) : Prop := ∀ n, n < k → M.count n = 1
theorem onceB_true {L : FaL} {key : Int} {D : List Int} (h : OnceTo (D.map (aheadN L key D)) D.length) : onceB L key D = true := onceB_iff.2 (fun n hn => h n (by simpa using hn))
theorem onceB_false {L : FaL} {key : Int} {D : List Int} {k : Nat} (hk : k < D.length) (h : ¬ (D.map (aheadN L key D)).count k = 1) : onceB L key D = false := by
  cases hb : onceB L key D with
  | false => rfl
  | true => exact absurd (onceB_iff.1 hb k (by simpa using hk)) h

/-- The comparison of chains.Chain. -/
def cmpA (L : FaL) (key : Int) (D : List Int) (x y : Int) : Int := (aheadN L key D y : Int) - (aheadN L key D x : Int)
theorem swoA (L : FaL) (key : Int) (D : List Int) : Go.Sort.SWO (Go.Proofs.ltOf (cmpA L key D)) := by
  refine ⟨fun x => ?_, fun x y z h1 h2 => ?_, fun x y z h1 h2 => ?_⟩
  · exact decide_eq_false (by unfold cmpA; omega)
  · have a1 := of_decide_eq_true h1
    have a2 := of_decide_eq_true h2
    unfold cmpA at a1 a2
    exact decide_eq_true (by unfold cmpA; omega)
  · have a1 := of_decide_eq_false h1
    have a2 := of_decide_eq_false h2
    unfold cmpA at a1 a2
    exact decide_eq_false (by unfold cmpA; omega)
end Go.Proofs.Ytjpmimanigjjoaa

/- crucibleref09.Ahead and Right. -/
namespace Go.Proofs.Ytjpmimanigjjoaa
open Go.RowKit Go.Maps

def ahR (G : FaL) (key a b : Int) : Bool := if a < b then getI G ⟨2, key, a, b⟩ == 1 else getI G ⟨2, key, b, a⟩ == 0
theorem getI_zero (G : FaL) (c : GChoice) : (getI G c == 0) = (match getM G c with | some false => true | _ => false) := by unfold getI; cases getM G c with | none => rfl | some b => cases b <;> rfl
theorem ahR_eq {G : FaL} {key a b : Int} (h : a ≠ b) : ahR G key a b = aheadOf G key a b := by
  unfold ahR aheadOf
  by_cases hab : a < b
  · rw [if_pos hab, show min a b = a by omega, show max a b = b by omega, getI_one]
    cases getM G ⟨2, key, a, b⟩ with
    | none => rfl
    | some so => simp [hab, show (b == a) = false from beq_eq_false_iff_ne.2 (by omega), bne]
  · rw [if_neg hab, show min a b = b by omega, show max a b = a by omega, getI_zero]
    cases getM G ⟨2, key, b, a⟩ with
    | none => rfl
    | some so => cases so <;> simp [hab, show (b == a) = false from beq_eq_false_iff_ne.2 (by omega), bne]
/-- Is a list the order of a key, by the facts? -/
def RightP (ts : List GTxn) (G : FaL) (key : Int) (l : List Int) : Prop := (∀ x ∈ wrl ts G key, x ∈ l) ∧ (wrl ts G key).length = l.length ∧ l.Pairwise (fun x y => ahR G key x y = true)
theorem nodup_perm : ∀ {D l : List Int}, D.Nodup → (∀ x ∈ D, x ∈ l) → D.length = l.length → D.Perm l
  | [], l, _, _, hl => by rw [List.length_eq_zero_iff.1 hl.symm]
  | x :: D, l, hn, hm, hl => by
    rw [List.nodup_cons] at hn
    have hx := hm x List.mem_cons_self
    have hp := List.perm_cons_erase hx
    refine (List.Perm.cons x (nodup_perm hn.2 (fun y hy => ?_) ?_)).trans hp.symm
    · have hne : y ≠ x := fun e => hn.1 (by rw [← e]; exact hy)
      exact (List.mem_erase_of_ne hne).2 (hm y (List.mem_cons_of_mem _ hy))
    · have := List.length_erase_of_mem hx
      simp at hl; omega
/-- What chains.Chain tells is right; where it tells none, no list is. -/
theorem right_of {ts : List GTxn} {G : FaL} {key : Int} {E : List Int} (p : (wrl ts G key).Perm E) (h : E.Pairwise (fun x y => aheadOf G key x y = true)) : RightP ts G key E := by
  refine ⟨fun x hx => p.mem_iff.1 hx, p.length_eq, ?_⟩
  have hn : E.Nodup := p.nodup_iff.1 (wrlK_nodup ts G key _)
  refine (List.Pairwise.and hn h).imp ?_
  rintro x y ⟨h1, h2⟩
  rw [ahR_eq h1]; exact h2
theorem right_once {ts : List GTxn} {G : FaL} {key : Int} {l : List Int} (h : RightP ts G key l) : onceB G key (wrl ts G key) = true := by
  obtain ⟨h1, h2, h3⟩ := h
  have p := nodup_perm (wrlK_nodup ts G key _) h1 h2
  have hn : l.Nodup := p.nodup_iff.1 (wrlK_nodup ts G key _)
  refine chain_once p ((List.Pairwise.and hn h3).imp ?_)
  rintro x y ⟨h1, h2⟩
  rw [← ahR_eq h1]; exact h2

theorem refWk_good {ts : List GTxn} (hg : GoodTs ts) {i : Nat} {t : GTxn} (ht : ts[i]? = some t) (key : Int) : refWk t.ops key = wrOf ts i key := by
  rw [wrOf_at ht]
  by_cases hk : 0 ≤ key ∧ key < 16
  · obtain ⟨k, rfl⟩ := Int.eq_ofNat_of_zero_le hk.1
    rw [refWk_eq t.ops k (by omega)]; rfl
  · have h1 : writesK t key = false := by
      unfold writesK
      rw [List.any_eq_false]
      intro o ho
      have := ((hg.txn t (List.mem_of_getElem? ht)).2.1 o ho)
      unfold hitK
      have k0 := this.key0
      have k1 := this.key1
      simp
      intro _ e
      exact hk (by rw [← e]; omega)
    rw [h1]
    unfold refWk
    rw [List.any_eq_false]
    intro o ho
    have := ((hg.txn t (List.mem_of_getElem? ht)).2.1 o (writesM_mem ho))
    have k0 := this.key0
    have k1 := this.key1
    simp
    intro e
    exact hk (by rw [← e]; omega)

set_option maxRecDepth 100000 in
set_option maxHeartbeats 2000000 in
theorem refAhead_call (g : Value) (G : FaL) (key a b : Int) (w : World) (hg : RdSaid w g G) :
    Calls Try.prog 35 #[g, vi key, vi a, vi b] w fun e w' => e = .returned (.bool (ahR G key a b)) ∧ Below w.heap.size w w' := by
  have HG := Lib.hid hg
  have HE := Lib.hid (show ahR G key a b = (if a < b then getI G ⟨2, key, a, b⟩ == 1 else getI G ⟨2, key, b, a⟩ == 0) from rfl)
  clear hg
  go_enter Try.func35, Try.ntmps35
  by_cases h : a < b
  · rw [if_pos h] at HE
    go_wp2_with (go_at_call 56; refine (get_call _ G ⟨2, key, a, b⟩ _ HG.out).mono ?_; rintro e w3 ⟨rfl, hb3⟩)
    go_ret
    exact ⟨by rw [HE.out]; rfl, hb3⟩
  · rw [if_neg h] at HE
    go_wp2_with (go_at_call 56; refine (get_call _ G ⟨2, key, b, a⟩ _ HG.out).mono ?_; rintro e w3 ⟨rfl, hb3⟩)
    go_ret
    exact ⟨by rw [HE.out]; rfl, hb3⟩

def Right9Q (ts : List GTxn) (G : FaL) (key : Int) (l : List Int) (w : World) (e : Ending) (w' : World) : Prop := ∃ b : Bool, e = .returned (.bool b) ∧ (b = true ↔ RightP ts G key l) ∧ Below w.heap.size w w'
theorem Right9Q.no {ts : List GTxn} {G : FaL} {key : Int} {l : List Int} {w w' : World} {e : Ending} (h : e = .returned (.bool false)) (hn : ¬ RightP ts G key l) (hb : Below w.heap.size w w') : Right9Q ts G key l w e w' := ⟨false, h, ⟨fun h => (by cases h), fun h => absurd h hn⟩, hb⟩
theorem Right9Q.yes {ts : List GTxn} {G : FaL} {key : Int} {l : List Int} {w w' : World} {e : Ending} (h : e = .returned (.bool true)) (hn : RightP ts G key l) (hb : Below w.heap.size w w') : Right9Q ts G key l w e w' := ⟨true, h, ⟨fun _ => hn, fun _ => rfl⟩, hb⟩
def PairTo (G : FaL) (key : Int) (l : List Int) (k : Nat) : Prop := ∀ (b a : Nat) (x y : Int), b < k → a < b → l[a]? = some x → l[b]? = some y → ahR G key x y = true
theorem any_take {l : List Int} {k : Nat} {x i : Int} (h : l[k]? = some x) : (l.take (k + 1)).any (· == i) = ((l.take k).any (· == i) || x == i) := by
  rw [List.take_add_one, h, List.any_append]; simp

set_option maxRecDepth 100000 in
set_option maxHeartbeats 8000000 in
theorem right09_call (v g u : Value) (ts : List GTxn) (G : FaL) (key : Int) (l : List Int) (w : World) (hv : RdTxns w v ts) (hgood : GoodTs ts) (hg : RdSaid w g G) (hu : RdInts w u l) (hll : l.length ≤ 1048576) :
    Calls Try.prog 12 #[v, g, vi key, u] w (Right9Q ts G key l w) := by
  have HV := Lib.hid hv
  have HG := Lib.hid hg
  have HU := Lib.hid hu
  have HGD := Lib.hid hgood
  have HOK := Lib.hid hgood.ok
  have htl : ts.length ≤ 60 := hgood.len
  obtain ⟨a, len, cap, rfl, rfl, hmm, -⟩ := hv.at
  obtain ⟨ua, ul, uc, rfl, rfl, hum, -⟩ := hu.at
  clear hv hgood hg hu
  go_enter Try.func12, Try.ntmps12
  go_wp2_with fail
  go_loopw [9, 10, 11, 13, 18, 36, 38] (fun nv _ _ _ kv _ _ wr => ∃ k : Nat, k ≤ ts.length ∧ kv = .int .i64 k ∧ nv = vi ((wrlK ts G key k).length : Nat) ∧ Hid (∀ x ∈ wrlK ts G key k, x ∈ l) ∧ Below w.heap.size w wr) (fun _ _ _ _ kv _ _ _ => ts.length - (intOf kv).toNat)
  case atStart => exact ⟨0, Nat.zero_le _, rfl, rfl, Lib.hid (fun x hx => by simp [wrlK] at hx), Below.refl _ _⟩
  case round =>
    obtain ⟨wk, rfl⟩ : ∃ wk : World, wk = wr := ⟨_, rfl⟩
    obtain ⟨k, hk, rfl, rfl, HIN, hb⟩ := hrel
    have HBk := Lib.hid hb
    clear hb
    have hwl := wrlK_le ts G key k
    obtain ⟨n, hn⟩ : ∃ n, (wrlK ts G key k).length = n := ⟨_, rfl⟩
    rw [hn] at hwl
    have HNN := Lib.hid hn
    rw [hn]
    clear hn
    by_cases hlt : k < ts.length
    · obtain ⟨t, ht⟩ := some_at hlt
      obtain ⟨_, _, _, e5, -, -, hcl⟩ := HV.out.at
      cases e5
      obtain ⟨b, off, oa, oc, rfl, hr, k0', k1', k2'⟩ := hcl k t ht
      have hkI : (k : Int) < (ts.length : Int) := by omega
      have wk1 : IntKind.i64.wrap ((k : Int) + 1) = ((k + 1 : Nat) : Int) := by rw [IntWalk.i64_in _ (by omega)]; omega
      have wn1 : IntKind.i64.wrap ((n : Int) + 1) = ((n + 1 : Nat) : Int) := by rw [IntWalk.i64_in _ (by omega)]; omega
      have HN := Lib.hid (wrlK_succ ts G key k)
      have HWK := Lib.hid (refWk_good HGD.out ht key)
      have HI := Lib.hid (refIs_call _ _ ts G k wk (HV.out.later HBk.out) HOK.out (HG.out.later HBk.out) hlt)
      have HI1 := Lib.hid (isI_one HGD.out.uniq G k)
      have HINW := Lib.hid (show inW ts G key k = ((isM ts G k).1 && wrOf ts k key) from rfl)
      have hopl := ((HGD.out.txn t (List.mem_of_getElem? ht)).2.2)
      have HR := Lib.hid hr
      have HK0 := Lib.hid k0'
      have HK1 := Lib.hid k1'
      have HK2 := Lib.hid k2'
      clear hcl ht hr k0' k1' k2'
      have SKIP := Lib.hid (fun (h : inW ts G key k = false) => show wrlK ts G key (k + 1) = wrlK ts G key k from by rw [HN.out, h]; simp)
      generalize isI ts G k = q at *
      cases h1 : (q == 1) with
      | false =>
        rw [h1] at HI1
        have HS := Lib.hid (SKIP.out (by rw [HINW.out, ← HI1.out]; rfl))
        go_wp2_with (go_at_call 33; refine HI.out.mono ?_; rintro e w3 ⟨rfl, hb3⟩)
        exact ⟨⟨k + 1, by omega, rfl, by rw [HS.out, HNN.out], Lib.hid (by rw [HS.out]; exact HIN.out), HBk.out.trans (hb3.mono HBk.out.size)⟩, by simp only [intOf]; omega⟩
      | true =>
        rw [h1] at HI1
        obtain ⟨wb, hwb⟩ : ∃ b, wrOf ts k key = b := ⟨_, rfl⟩
        rw [hwb] at HWK HINW
        clear hwb
        cases wb with
        | false =>
          have HS := Lib.hid (SKIP.out (by rw [HINW.out]; simp))
          go_wp2_with (first
            | (go_at_call 33; refine HI.out.mono ?_; rintro e w3 ⟨rfl, hb3⟩; have HB3 := Lib.hid (HBk.out.trans (hb3.mono HBk.out.size)); have k0 := cell_later HB3.out HK0.out; have k1 := cell_later HB3.out HK1.out; have k2 := cell_later HB3.out HK2.out; clear hb3)
            | (go_at_call 34; refine (refWk_call t.client t.state _ t.ops key _ (HR.out.later HB3.out) (by omega)).mono ?_; rw [HWK.out]; rintro e w4 ⟨rfl, hb4⟩))
          exact ⟨⟨k + 1, by omega, rfl, by rw [HS.out, HNN.out], Lib.hid (by rw [HS.out]; exact HIN.out), HB3.out.trans (hb4.mono HB3.out.size)⟩, by simp only [intOf]; omega⟩
        | true =>
          have HS := Lib.hid (show wrlK ts G key (k + 1) = wrlK ts G key k ++ [(k : Int)] by rw [HN.out, HINW.out, ← HI1.out]; rfl)
          have HKW := Lib.hid (show (k : Int) ∈ wrl ts G key from wrl_mem.2 ⟨k, hlt, rfl, by rw [HINW.out, ← HI1.out]; rfl⟩)
          clear HI1 HINW SKIP HN
          go_upto_region 8 with (first
            | (go_at_call 33; refine HI.out.mono ?_; rintro e w3 ⟨rfl, hb3⟩; have HB3 := Lib.hid (HBk.out.trans (hb3.mono HBk.out.size)); have k0 := cell_later HB3.out HK0.out; have k1 := cell_later HB3.out HK1.out; have k2 := cell_later HB3.out HK2.out; clear hb3)
            | (go_at_call 34; refine (refWk_call t.client t.state _ t.ops key _ (HR.out.later HB3.out) (by omega)).mono ?_; rw [HWK.out]; rintro e w4 ⟨rfl, hb4⟩))
          have HB4 := Lib.hid (HB3.out.trans (hb4.mono HB3.out.size))
          have HU4 := Lib.hid (HU.out.later HB4.out)
          clear hb4 k0 k1 k2
          go_wp2_with fail
          go_loopw [11, 13, 38] (fun fv _ jv wr => ∃ (j : Nat) (fb : Bool), j ≤ l.length ∧ jv = .int .i64 j ∧ fv = .bool fb ∧ Hid ((l.take j).any (· == (k : Int)) = fb) ∧ wr = w4) (fun _ _ jv _ => l.length - (intOf jv).toNat)
          case atStart => exact ⟨0, false, Nat.zero_le _, rfl, rfl, Lib.hid rfl, rfl⟩
          case round =>
            obtain ⟨j, fb, hj, rfl, rfl, HFB, hwr⟩ := hrel
            subst hwr
            by_cases hjl : j < l.length
            · obtain ⟨x, hx⟩ := some_at hjl
              obtain ⟨_, _, _, e5, -, -, hul⟩ := HU4.out.at
              cases e5
              obtain ⟨ub, uo, rfl, x0, hxi⟩ := hul j x hx
              have hjI : (j : Int) < (l.length : Int) := by omega
              have wj1 : IntKind.i64.wrap ((j : Int) + 1) = ((j + 1 : Nat) : Int) := by rw [IntWalk.i64_in _ (by omega)]; omega
              have HA := Lib.hid (any_take (i := (k : Int)) hx)
              clear hul hx
              cases fb with
              | true =>
                go_wp2_with fail
                exact ⟨⟨j + 1, _, by omega, rfl, rfl, Lib.hid (by rw [HA.out, HFB.out]; rfl), by trivial⟩, by simp only [intOf]; omega⟩
              | false =>
                go_wp2_with fail
                exact ⟨⟨j + 1, _, by omega, rfl, rfl, Lib.hid (by rw [HA.out, HFB.out]; rfl), by trivial⟩, by simp only [intOf]; omega⟩
            · obtain rfl : j = l.length := by omega
              rw [List.take_length] at HFB
              cases fb with
              | true =>
                have hmem : (k : Int) ∈ l := by
                  have := HFB.out
                  rw [List.any_eq_true] at this
                  obtain ⟨y, hy, hyk⟩ := this
                  rw [← beq_iff_eq.1 hyk]; exact hy
                have HMEM := Lib.hid hmem
                clear hmem
                go_wp2_with fail
                exact ⟨⟨k + 1, by omega, rfl, by rw [HS.out, List.length_append, HNN.out]; rfl, Lib.hid (fun x hx => by
                  rw [HS.out, List.mem_append] at hx
                  rcases hx with hx | hx
                  · exact HIN.out x hx
                  · simp at hx; rw [hx]; exact HMEM.out), HB4.out⟩, by simp only [intOf]; omega⟩
              | false =>
                go_wp2_with fail
                go_ret
                refine Right9Q.no rfl (fun h => ?_) HB4.out
                have := h.1 _ HKW.out
                have h2 := HFB.out
                rw [List.any_eq_false] at h2
                exact h2 _ this (by simp)
    · obtain rfl : k = ts.length := by omega
      have hD : wrlK ts G key ts.length = wrl ts G key := rfl
      rw [hD] at HNN HIN
      have HUk := Lib.hid (HU.out.later HBk.out)
      have HGk := Lib.hid (HG.out.later HBk.out)
      clear hD
      by_cases hnl : n = l.length
      · have e1 : ((n : Int) == (l.length : Int)) = true := beq_iff_eq.2 (by omega)
        have e2 : ((n : Int) != (l.length : Int)) = false := by rw [bne, e1]; rfl
        have HNL := Lib.hid hnl
        subst hnl
        go_wp2_with fail
        go_loopw [14, 15, 58] (fun _ _ kv wr => ∃ k : Nat, k ≤ l.length ∧ kv = .int .i64 k ∧ Hid (PairTo G key l k) ∧ Below w.heap.size w wr) (fun _ _ kv _ => l.length - (intOf kv).toNat)
        case atStart => exact ⟨0, Nat.zero_le _, rfl, Lib.hid (fun b a x y hb => absurd hb (Nat.not_lt_zero _)), HBk.out⟩
        case round =>
          obtain ⟨wp, rfl⟩ : ∃ wk : World, wk = wr := ⟨_, rfl⟩
          obtain ⟨k, hk3, rfl, HPT, hb⟩ := hrel
          have HBp := Lib.hid hb
          clear hb
          by_cases hkl : k < l.length
          · obtain ⟨y, hy⟩ := some_at hkl
            have HY := Lib.hid hy
            have hkI : (k : Int) < (l.length : Int) := by omega
            have wk1 : IntKind.i64.wrap ((k : Int) + 1) = ((k + 1 : Nat) : Int) := by rw [IntWalk.i64_in _ (by omega)]; omega
            clear hy
            go_wp2_with fail
            go_loopw [15] (fun jv wr => ∃ j : Nat, j ≤ k ∧ jv = .int .i64 j ∧ Hid (∀ a x, a < j → l[a]? = some x → ahR G key x y = true) ∧ Below w.heap.size w wr) (fun jv _ => k - (intOf jv).toNat)
            case atStart => exact ⟨0, Nat.zero_le _, rfl, Lib.hid (fun a x ha => absurd ha (Nat.not_lt_zero _)), HBp.out⟩
            case round =>
              obtain ⟨wq, rfl⟩ : ∃ wk : World, wk = wr := ⟨_, rfl⟩
              obtain ⟨j, hj, rfl, HJT, hb⟩ := hrel
              have HBq := Lib.hid hb
              clear hb
              by_cases hjk : j < k
              · have hjkI : (j : Int) < (k : Int) := by omega
                have wj1 : IntKind.i64.wrap ((j : Int) + 1) = ((j + 1 : Nat) : Int) := by rw [IntWalk.i64_in _ (by omega)]; omega
                obtain ⟨x, hx⟩ := some_at (show j < l.length by omega)
                obtain ⟨_, _, _, e5, -, -, hul⟩ := (HU.out.later HBq.out).at
                cases e5
                obtain ⟨ub, uo, rfl, x0, hxi⟩ := hul j x hx
                obtain ⟨_, _, e6, y0, hyi⟩ := hul k y HY.out
                cases e6
                have hjI : (j : Int) < (l.length : Int) := by omega
                have HX := Lib.hid hx
                have HGq := Lib.hid (show RdSaid wq.drew g G from (show RdSaid wq g G from HG.out.later HBq.out))
                clear hul hx
                obtain ⟨ab, hab⟩ : ∃ b, ahR G key x y = b := ⟨_, rfl⟩
                have HAB := Lib.hid hab
                have HC := Lib.hid (refAhead_call g G key x y wq.drew HGq.out)
                rw [hab] at HC
                clear hab
                go_upto_region 24 with fail
                go_still_tail 10, (by kernel_rfl)
                change wpList _ _ _ _ _ wq.drew
                cases ab with
                | true =>
                  go_wp2_with (go_at_call 35; refine HC.out.mono ?_; rintro e w4 ⟨rfl, hb4⟩)
                  exact ⟨⟨j + 1, by omega, rfl, Lib.hid (fun a z ha hz => by
                    rcases Nat.lt_or_ge a j with h | h
                    · exact HJT.out a z h hz
                    · obtain rfl : a = j := by omega
                      rw [HX.out] at hz; cases hz; exact HAB.out), HBq.out.drew.trans (hb4.mono HBq.out.size)⟩, by simp only [intOf]; omega⟩
                | false =>
                  go_wp2_with (go_at_call 35; refine HC.out.mono ?_; rintro e w4 ⟨rfl, hb4⟩)
                  go_ret
                  refine Right9Q.no rfl (fun h => ?_) (HBq.out.drew.trans (hb4.mono HBq.out.size))
                  obtain ⟨h1, h2⟩ := List.getElem?_eq_some_iff.1 HX.out
                  obtain ⟨h3, h4⟩ := List.getElem?_eq_some_iff.1 HY.out
                  have := List.pairwise_iff_getElem.1 h.2.2 j k h1 h3 hjk
                  rw [h2, h4, HAB.out] at this
                  cases this
              · obtain rfl : j = k := by omega
                go_wp2_with fail
                exact ⟨⟨j + 1, by omega, rfl, Lib.hid (fun b a x z hb hab hx hz => by
                  rcases Nat.lt_or_ge b j with h | h
                  · exact HPT.out b a x z h hab hx hz
                  · obtain rfl : b = j := by omega
                    rw [HY.out] at hz; cases hz; exact HJT.out a x hab hx), HBq.out⟩, by simp only [intOf]; omega⟩
          · obtain rfl : k = l.length := by omega
            go_wp2_with fail
            go_ret
            refine Right9Q.yes rfl ⟨HIN.out, HNN.out, ?_⟩ HBp.out
            rw [List.pairwise_iff_getElem]
            intro a b ha hb hab
            exact HPT.out b a _ _ hb hab (List.getElem?_eq_getElem ha) (List.getElem?_eq_getElem hb)
      · have e1 : ((n : Int) == (l.length : Int)) = false := beq_eq_false_iff_ne.2 (by omega)
        have e2 : ((n : Int) != (l.length : Int)) = true := by rw [bne, e1]; rfl
        have HNL := Lib.hid hnl
        clear hnl
        go_wp2_with fail
        go_ret
        exact Right9Q.no rfl (fun h => HNL.out (by rw [← HNN.out]; exact h.2.1)) HBk.out
end Go.Proofs.Ytjpmimanigjjoaa

/- An append that says where its row lies; tables of rows. Names no program. -/
namespace Go.Proofs.Ytjpmimanigjjoaa
open Go.RowKit

theorem wp_append_at {P : Program} {w : World} {o : Oper} {a : Act} {K : Act → World → Prop} {Q : Exit → Act → World → Prop} (s x : Operand) (t : TypeId)
    (ho : o.op = .call { callee := .builtin .append, args := #[s, x], argTypes := #[t, t] })
    {e : TypeId} {size bytes : Nat} {z : Value} (he : Elt P t e size bytes z) (base : Nat)
    {v : Value} (n : Nat) (xs : List Value) (hown : w.ownsRow base e size v n xs) (hs : a.eval s = v)
    {ad : Addr} {c : Nat} (m : Nat) (news : List Value) (hsrc : Src w (.slice (some ad) m c) size m news) (hx : a.eval x = .slice (some ad) m c) (h1 : ∀ u ∈ news, u.oneCell' = true)
    (hsz : n + m ≤ 68719476736) (hbytes : bytes ≤ 2048) (hbase : base ≤ w.heap.size)
    (h : ∀ v' w', w'.ownsRow base e size v' (n + m) (xs ++ news) → w.grownBy w' v.ownBlock → (v'.ownBlock = v.ownBlock ∨ v'.ownBlock = some w.heap.size) → K (a.put o.dst v') w') : Oper.wp P o a w K Q := by
  obtain ⟨ht, h0, hzs, i, hi, hz, his, hib⟩ := he
  obtain ⟨ad', c', hv, hl, -, hsome⟩ := hsrc
  cases hv
  obtain ⟨v', w', hr, h2, h3, h4, h5⟩ := run_append_own_at (P := P) w base t o.type e i z size bytes ht hi hz his hib hzs h0 v n xs hown ad m c news hl (hsome ad rfl) h1 (by simp only [maxLen]; omega) (Nat.le_trans (Nat.mul_le_mul hsz hbytes) (by decide)) hbase
  unfold Oper.wp execOp
  simp only [ho, resolve, invoke, builtin, Sem.run_bind, Sem.run_pure, Result.andThen_ok, List.map_toArray, List.map_cons, List.map_nil, hs, hx, hr]
  exact h v' w' h2 h3 h5
theorem stepAt {P : Program} {w : World} {ops : Array Oper} {o : Oper} {a : Act} {K : Act → World → Prop} {Q : Exit → Act → World → Prop} {E : Prop} (hgd : o.guard = none) (s x : Operand) (t : TypeId)
    (ho : o.op = .call { callee := .builtin .append, args := #[s, x], argTypes := #[t, t] })
    {e : TypeId} {size bytes : Nat} {z : Value} (he : Elt P t e size bytes z) (base : Nat)
    {v : Value} (n : Nat) (xs : List Value) (hown : w.ownsRow base e size v n xs) (hs : a.eval s = v)
    {ad : Addr} {c : Nat} (m : Nat) (news : List Value) (hsrc : Src w (.slice (some ad) m c) size m news) (hx : a.eval x = .slice (some ad) m c) (h1 : ∀ u ∈ news, u.oneCell' = true)
    (hsz : n + m ≤ 68719476736) (hbytes : bytes ≤ 2048) (hbase : base ≤ w.heap.size)
    (h : ∀ v' w', w'.ownsRow base e size v' (n + m) (xs ++ news) → w.grownBy w' v.ownBlock → (v'.ownBlock = v.ownBlock ∨ v'.ownBlock = some w.heap.size) → K (a.put o.dst v') w') :
    if Region.wanted o (yielded ops a.tmps) = true then Oper.wp P o a w K Q else E := by
  have hw : Region.wanted o (yielded ops a.tmps) = true := by simp [Region.wanted, hgd]
  rw [if_pos hw]
  exact wp_append_at s x t ho he base n xs hown hs m news hsrc hx h1 hsz hbytes hbase h
theorem wpListAt {P : Program} {w : World} {ops : Array Oper} {rest : List Oper} {o : Oper} {a : Act} {Q : Exit → Act → World → Prop} (hgd : o.guard = none) (s x : Operand) (t : TypeId)
    (ho : o.op = .call { callee := .builtin .append, args := #[s, x], argTypes := #[t, t] })
    {e : TypeId} {size bytes : Nat} {z : Value} (he : Elt P t e size bytes z) (base : Nat)
    {v : Value} (n : Nat) (xs : List Value) (hown : w.ownsRow base e size v n xs) (hs : a.eval s = v)
    {ad : Addr} {c : Nat} (m : Nat) (news : List Value) (hsrc : Src w (.slice (some ad) m c) size m news) (hx : a.eval x = .slice (some ad) m c) (h1 : ∀ u ∈ news, u.oneCell' = true)
    (hsz : n + m ≤ 68719476736) (hbytes : bytes ≤ 2048) (hbase : base ≤ w.heap.size)
    (h : ∀ v' w', w'.ownsRow base e size v' (n + m) (xs ++ news) → w.grownBy w' v.ownBlock → (v'.ownBlock = v.ownBlock ∨ v'.ownBlock = some w.heap.size) → wpList P ops Q rest (a.put o.dst v') w') : wpList P ops Q (o :: rest) a w := by
  have := wp_append_at (P := P) (w := w) (o := o) (a := a) (K := fun a w => wpList P ops Q rest a w) (Q := Q) s x t ho he base n xs hown hs m news hsrc hx h1 hsz hbytes hbase h
  unfold wpList
  simp [Region.wanted, hgd]
  exact .inl this

/-- Two rows do not lie in one block. -/
def ApartV (v v' : Value) : Prop := ∀ g, v.ownBlock = some g → v'.ownBlock ≠ some g
theorem ApartV.symm {u v : Value} (h : ApartV u v) : ApartV v u := fun g hg e => h g e hg
theorem apartV_nil (v : Value) : ApartV v (.slice none 0 0) := fun g _ => by simp [Value.ownBlock]
theorem nil_apartV (v : Value) : ApartV (.slice none 0 0) v := fun g h => by simp [Value.ownBlock] at h
/-- Rows that lie apart, one for each list: the slice values that they lie in. -/
structure RowsT {α : Type} (enc : α → List Value) (k e N : Nat) (vs : List Value) (T : List (List α)) (W : World) : Prop where
  len : vs.length = T.length
  row : ∀ (i : Nat) v l, vs[i]? = some v → T[i]? = some l → W.ownsRow N e k v l.length (l.flatMap enc)
  apart : ∀ (i j : Nat) v u, i ≠ j → vs[i]? = some v → vs[j]? = some u → ApartV v u
section
variable {α : Type} {enc : α → List Value} {k e N : Nat} {vs : List Value} {T : List (List α)} {A B : World}
theorem RowsT.nils (n : Nat) : RowsT enc k e N (List.replicate n (.slice none 0 0)) (List.replicate n []) A := by
  refine ⟨by simp, fun i v l hv hl => ?_, fun i j v u _ hv hu => ?_⟩
  · rw [List.getElem?_replicate] at hv hl
    split at hv
    · rename_i hi
      rw [if_pos hi] at hl
      cases hv; cases hl
      exact World.ownsRow_nil _ _ _ _
    · cases hv
  · rw [List.getElem?_replicate] at hv
    split at hv
    · cases hv; exact nil_apartV u
    · cases hv
theorem RowsT.get (h : RowsT enc k e N vs T A) {i : Nat} {l : List α} (hl : T[i]? = some l) : ∃ v, vs[i]? = some v ∧ A.ownsRow N e k v l.length (l.flatMap enc) := by
  have hi : i < vs.length := by rw [h.len]; exact (List.getElem?_eq_some_iff.1 hl).1
  exact ⟨vs[i], List.getElem?_eq_getElem hi, h.row i _ l (List.getElem?_eq_getElem hi) hl⟩
theorem RowsT.later (h : RowsT enc k e N vs T A) (hb : Below A.heap.size A B) : RowsT enc k e N vs T B := ⟨h.len, fun i v l hv hl => own_below (h.row i v l hv hl) hb, h.apart⟩
theorem RowsT.mono {M : Nat} (h : RowsT enc k e N vs T A) (hm : M ≤ N) : RowsT enc k e M vs T A := ⟨h.len, fun i v l hv hl => own_mono (h.row i v l hv hl) hm, h.apart⟩
/-- A block that is none of theirs turns. -/
theorem RowsT.kept (h : RowsT enc k e N vs T A) {r : Option Nat} (hg : A.grownBy B r) (hr : ∀ g, r = some g → ∀ (i : Nat) (v : Value), vs[i]? = some v → v.ownBlock ≠ some g) : RowsT enc k e N vs T B :=
  ⟨h.len, fun i v l hv hl => (h.row i v l hv hl).kept hg (by
    cases ho : v.ownBlock with
    | none => exact .inl rfl
    | some g => exact .inr (fun e => hr g e.symm i v hv ho)), h.apart⟩
/-- One of them is written anew. -/
theorem RowsT.put (h : RowsT enc k e N vs T A) {i : Nat} {v v' : Value} {l : List α} (hv : vs[i]? = some v) (hg : A.grownBy B v.ownBlock) (ho : B.ownsRow N e k v' l.length (l.flatMap enc)) (hat : v'.ownBlock = v.ownBlock ∨ v'.ownBlock = some A.heap.size) : RowsT enc k e N (vs.set i v') (T.set i l) B := by
  have hi : i < vs.length := (List.getElem?_eq_some_iff.1 hv).1
  have hlt : ∀ (j : Nat) (u : Value), vs[j]? = some u → ∀ g, u.ownBlock = some g → g < A.heap.size := fun j u hu g hg => by
    have hj : j < T.length := by rw [← h.len]; exact (List.getElem?_eq_some_iff.1 hu).1
    exact ((h.row j u _ hu (List.getElem?_eq_getElem hj)).lt g hg).2
  have new : ∀ j u, j ≠ i → vs[j]? = some u → ApartV v' u := fun j u hj hu g hg e => by
    rcases hat with hat | hat
    · exact h.apart i j v u (Ne.symm hj) hv hu g (hat ▸ hg) e
    · have h1 := hlt j u hu g e
      rw [hat] at hg
      cases hg; omega
  refine ⟨by simp [h.len], fun j u m hu hm => ?_, fun a b u u' hab hu hu' => ?_⟩
  · by_cases hj : j = i
    · subst hj
      rw [List.getElem?_set_self hi] at hu
      rw [List.getElem?_set_self (by rw [← h.len]; exact hi)] at hm
      cases hu; cases hm; exact ho
    · rw [List.getElem?_set_ne (Ne.symm hj)] at hu hm
      refine (h.row j u m hu hm).kept hg ?_
      cases hub : u.ownBlock with
      | none => exact .inl rfl
      | some g => exact .inr (fun e => h.apart j i u v hj hu hv g hub e.symm)
  · by_cases ha : a = i
    · subst ha
      rw [List.getElem?_set_self hi] at hu
      rw [List.getElem?_set_ne hab] at hu'
      cases hu
      exact new b u' (Ne.symm hab) hu'
    · rw [List.getElem?_set_ne (Ne.symm ha)] at hu
      by_cases hb : b = i
      · subst hb
        rw [List.getElem?_set_self hi] at hu'
        cases hu'
        exact (new a u ha hu).symm
      · rw [List.getElem?_set_ne (Ne.symm hb)] at hu'
        exact h.apart a b u u' hab hu hu'
end
/-- The rows and the block in which their slice values lie. -/
structure TabT {α : Type} (enc : α → List Value) (k e te N tb : Nat) (vs : List Value) (T : List (List α)) (W : World) : Prop where
  rows : RowsT enc k e N vs T W
  blk : W.heap[tb]? = some (.cells vs.toArray te)
  own : N ≤ tb
  ne : e ≠ te
section
variable {α : Type} {enc : α → List Value} {k e te N tb : Nat} {vs : List Value} {T : List (List α)} {A B : World}
theorem TabT.later (h : TabT enc k e te N tb vs T A) (hb : Below A.heap.size A B) : TabT enc k e te N tb vs T B := ⟨h.rows.later hb, (hb.block tb (Array.getElem?_eq_some_iff.1 h.blk).1).trans h.blk, h.own, h.ne⟩
theorem TabT.mono {M : Nat} (h : TabT enc k e te N tb vs T A) (hm : M ≤ N) : TabT enc k e te M tb vs T A := ⟨h.rows.mono hm, h.blk, Nat.le_trans hm h.own, h.ne⟩
theorem TabT.cell (h : TabT enc k e te N tb vs T A) {i : Nat} {v : Value} (hv : vs[i]? = some v) : A.cell? ⟨tb, i, none⟩ = some v := by
  simp [World.cell?, h.blk, hv]
theorem TabT.free (h : TabT enc k e te N tb vs T A) (i : Nat) : A.frozen? ⟨tb, i, none⟩ = false := by simp [World.frozen?, h.blk]
theorem TabT.row_ne (h : TabT enc k e te N tb vs T A) {i : Nat} {v : Value} (hv : vs[i]? = some v) : v.ownBlock ≠ some tb := by
  intro hvb
  have hi : i < T.length := by rw [← h.rows.len]; exact (List.getElem?_eq_some_iff.1 hv).1
  rcases (h.rows.row i v _ hv (List.getElem?_eq_getElem hi)).2 with ⟨h1, _⟩ | ⟨g, cap, cur, h1, _, hh, _⟩
  · rw [h1] at hvb; cases hvb
  · rw [h1] at hvb
    cases hvb
    rw [h.blk] at hh
    cases hh
    exact h.ne rfl
/-- A row of it is written anew, its slice value not yet stored. -/
theorem TabT.wrote (h : TabT enc k e te N tb vs T A) {i : Nat} {v v' : Value} {l : List α} (hv : vs[i]? = some v) (hg : A.grownBy B v.ownBlock) (ho : B.ownsRow N e k v' l.length (l.flatMap enc)) (hat : v'.ownBlock = v.ownBlock ∨ v'.ownBlock = some A.heap.size) :
    B.cell? ⟨tb, i, none⟩ = some v ∧ B.frozen? ⟨tb, i, none⟩ = false ∧ TabT enc k e te N tb (vs.set i v') (T.set i l) (B.setCell ⟨tb, i, none⟩ v') := by
  have hblk : B.heap[tb]? = some (.cells vs.toArray te) := (hg.block tb (Array.getElem?_eq_some_iff.1 h.blk).1 (fun e => h.row_ne hv e.symm)).trans h.blk
  have hr := h.rows.put hv hg ho hat
  have hi : i < vs.length := (List.getElem?_eq_some_iff.1 hv).1
  have hne : ∀ (j : Nat) (u : Value), (vs.set i v')[j]? = some u → u.ownBlock ≠ some tb := by
    intro j u hu
    by_cases hj : j = i
    · subst hj
      rw [List.getElem?_set_self hi] at hu
      cases hu
      rcases hat with hat | hat
      · rw [hat]; exact h.row_ne hv
      · rw [hat]
        intro e
        have := (Array.getElem?_eq_some_iff.1 h.blk).1
        cases e; omega
    · rw [List.getElem?_set_ne (Ne.symm hj)] at hu
      exact h.row_ne hu
  refine ⟨by simp [World.cell?, hblk, hv], by simp [World.frozen?, hblk], ?_, ?_, h.own, h.ne⟩
  · have hgs : B.grownBy (B.setCell ⟨tb, i, none⟩ v') (some tb) := ⟨rfl, rfl, rfl, by simp [World.setCell], fun j _ hj => Below.heap_setCell _ _ _ j (fun e => hj (by rw [e]))⟩
    exact hr.kept hgs (fun g hg j u hu => by cases hg; exact hne j u hu)
  · simp [World.setCell, Array.getElem?_modify, hblk]
theorem TabT.kept (h : TabT enc k e te N tb vs T A) {r : Option Nat} (hg : A.grownBy B r) (hr : ∀ g, r = some g → g ≠ tb ∧ ∀ (i : Nat) (v : Value), vs[i]? = some v → v.ownBlock ≠ some g) : TabT enc k e te N tb vs T B :=
  ⟨h.rows.kept hg (fun g e => (hr g e).2), (hg.block tb (Array.getElem?_eq_some_iff.1 h.blk).1 (fun e => (hr tb e.symm).1 rfl)).trans h.blk, h.own, h.ne⟩
end
end Go.Proofs.Ytjpmimanigjjoaa
