/- Texts of one proof, one behind the other: ChWrl, Maps2, GdMvData, GdMvIter, GdMvApp, MvLay, GdMvSort, ChFixP, CtSd0, Get, Is. -/
import Derived.Shelf.SlSortCmp.Insertion
import Derived.Maps.Keyed
import Derived.RangeFuncNested
import Derived.RangeFuncBound
import Derived.RangeFuncCalls
import Derived.RangeFuncLeaves
import Derived.RangeFuncBox
import Derived.Shelf.Abstract
import Derived.Shelf.RegionOpen
import Derived.OwnWalkIn
import Derived.TacticsInMore
import Derived.LoopNIn
import Derived.LoopIn
import Derived.Shelf.SlGeneric
import Derived.Shelf.SlLaysNS
import Derived.Shelf.SlLaysN
import Derived.Test.YtnacoplokjdglaaGreatProg
import Derived.Shelf.SortG.Plain
import Derived.Shelf.SortG.SortNone
import Derived.Sort.OwnSorted
import Derived.Test.YtnacoplokjdglaaGreatKp1
import Derived.Test.YtnacoplokjdglaaGreatKp2
import Derived.Test.YtnacoplokjdglaaGreatKp3
import Derived.Test.YtnacoplokjdglaaGreatKp4
set_option linter.all false
namespace Go.Proofs.YtnacoplokjdglaaGreat
open Go.RowKit Go.Maps

def inW (ts : List GTxn) (L : FaL) (key : Int) (i : Nat) : Bool := (isM ts L i).1 && wrOf ts i key
def wrlK (ts : List GTxn) (L : FaL) (key : Int) (n : Nat) : List Int := (List.range n).filterMap (fun i => if inW ts L key i then some (i : Int) else none)
def wrl (ts : List GTxn) (L : FaL) (key : Int) : List Int := wrlK ts L key ts.length
theorem wrlK_succ (ts : List GTxn) (L : FaL) (key : Int) (n : Nat) : wrlK ts L key (n + 1) = wrlK ts L key n ++ (if inW ts L key n then [(n : Int)] else []) := by
  by_cases h : inW ts L key n <;> simp [wrlK, List.range_succ, h]
theorem wrlK_le (ts : List GTxn) (L : FaL) (key : Int) (n : Nat) : (wrlK ts L key n).length ≤ n := by
  have := List.length_filterMap_le (fun i => if inW ts L key i then some (i : Int) else none) (List.range n)
  simpa [wrlK] using this
theorem wrlK_mem {ts : List GTxn} {L : FaL} {key : Int} {n : Nat} {x : Int} : x ∈ wrlK ts L key n ↔ ∃ i : Nat, i < n ∧ x = i ∧ inW ts L key i = true := by
  unfold wrlK
  rw [List.mem_filterMap]
  constructor
  · rintro ⟨i, hi, h⟩
    rw [List.mem_range] at hi
    split at h
    · rename_i h1
      simp at h
      exact ⟨i, hi, h.symm, h1⟩
    · simp at h
  · rintro ⟨i, hi, rfl, h⟩
    exact ⟨i, List.mem_range.2 hi, by rw [if_pos h]⟩
theorem wrlK_nodup (ts : List GTxn) (L : FaL) (key : Int) : ∀ n, (wrlK ts L key n).Nodup := by
  intro n
  induction n with
  | zero => simp [wrlK]
  | succ n ih =>
    rw [wrlK_succ, List.nodup_append]
    refine ⟨ih, by split <;> simp, fun x hx y hy => ?_⟩
    obtain ⟨i, h1, rfl, _⟩ := wrlK_mem.1 hx
    split at hy
    · simp at hy; subst hy; omega
    · simp at hy
theorem wrl_mem {ts : List GTxn} {L : FaL} {key x : Int} : x ∈ wrl ts L key ↔ ∃ i : Nat, i < ts.length ∧ x = i ∧ inW ts L key i = true := wrlK_mem
theorem wrOf_at {ts : List GTxn} {i : Nat} {t : GTxn} (h : ts[i]? = some t) (key : Int) : wrOf ts i key = writesK t key := by unfold wrOf; rw [h]; rfl

end Go.Proofs.YtnacoplokjdglaaGreat

namespace Go.Proofs.YtnacoplokjdglaaGreat
open Go.RowKit Go.MapKept
open Go.Maps (Keyed)
open Go.ChangeMaps (setBlock)
section laws0
variable {κ ν : Type} {P : Program} {k : TypeId} {eK : κ → Value} {eV : ν → Value} {w : World} {b : Nat} {L : List (κ × ν)}

end laws0
section laws
variable {κ ν : Type} [DecidableEq κ] {P : Program} {k e t : TypeId} {eK : κ → Value} {eV : ν → Value} {w : World} {b : Nat} {L : List (κ × ν)}

/-- delete(m, x). -/
theorem MapT.delete (hK : Keyed P k) (hinj : ∀ x y, eK x = eK y → x = y) (ht : P.underlying t = some (.map k e)) (h : MapT P k eK eV w b L) (x : κ) {kl : Lit} (hx : keyOf P k (eK x) = some kl) (ty : TypeId) :
    ∃ w', (Builtin.delete_ #[t, k] ty #[.map (some b), eK x]).run P w = .ok (.tuple #[]) w' ∧ MapT P k eK eV w' b (delM L x) ∧ w.grownBy w' (some b) ∧ w'.heap.size = w.heap.size := by
  obtain ⟨es, clock, hb, hs, hk, hL, h1 | ⟨j, e0, u, h1, h2, h3, h4, h5, h6, hu⟩⟩ := h.find hK hinj x hx
  · refine ⟨setBlock w b (.map es clock), ?_, ⟨es, clock, ChangeMaps.heap_setBlock_same hb _, hs, hk, ?_⟩, ⟨rfl, rfl, rfl, by simp [setBlock], fun i _ hi => ChangeMaps.heap_setBlock_other hb _ (fun e => hi (by rw [e]))⟩, by simp [setBlock]⟩
    · simp [Builtin.delete_, run_underlying ht, MapKept.run_getObj_map hb, hK.check w _ hx, h1.1 w, MapKept.run_setObj_map _ hb, Result.andThen, setBlock]
    · have : delM L x = L := by
        unfold delM
        rw [List.filter_eq_self]
        intro p hp
        simpa using getM_none.1 h1.2.1 p hp
      rw [this, hL]
  · have hjl : j < es.toList.length := (List.getElem?_eq_some_iff.1 h2).1
    have hjs : j < es.size := by simpa using hjl
    have hsub : (es.eraseIdxIfInBounds j).toList = es.toList.eraseIdx j := by
      unfold Array.eraseIdxIfInBounds
      rw [dif_pos hjs]
      simp
    have hdel : delM L x = L.eraseIdx j := by
      have hjL : j < L.length := (List.getElem?_eq_some_iff.1 h4).1
      have hs1 : L = L.take j ++ (x, u) :: L.drop (j + 1) := by
        conv => lhs; rw [← List.take_append_drop j L]
        rw [List.drop_eq_getElem_cons hjL, (List.getElem?_eq_some_iff.1 h4).2]
      have hf1 : (L.take j).filter (fun p => decide (p.1 ≠ x)) = L.take j := by
        rw [List.filter_eq_self]
        intro p hp
        obtain ⟨i, hi⟩ := List.mem_iff_getElem?.1 hp
        have hij : i < j := by have := (List.getElem?_eq_some_iff.1 hi).1; simp at this; omega
        rw [List.getElem?_take, if_pos hij] at hi
        have : p.1 ≠ x := fun e => by have := hu i p hi e; omega
        simpa using this
      have hf2 : (L.drop (j + 1)).filter (fun p => decide (p.1 ≠ x)) = L.drop (j + 1) := by
        rw [List.filter_eq_self]
        intro p hp
        obtain ⟨i, hi⟩ := List.mem_iff_getElem?.1 hp
        rw [List.getElem?_drop] at hi
        have : p.1 ≠ x := fun e => by have := hu _ p hi e; omega
        simpa using this
      unfold delM
      rw [List.eraseIdx_eq_take_drop_succ]
      conv => lhs; rw [hs1]
      rw [List.filter_append, List.filter_cons, hf1, hf2]
      simp
    refine ⟨setBlock w b (.map (es.eraseIdxIfInBounds j) clock), ?_, ⟨_, clock, ChangeMaps.heap_setBlock_same hb _, stamped_erase hs j, ?_, ?_⟩, ⟨rfl, rfl, rfl, by simp [setBlock], fun i _ hi => ChangeMaps.heap_setBlock_other hb _ (fun e => hi (by rw [e]))⟩, by simp [setBlock]⟩
    · simp [Builtin.delete_, run_underlying ht, MapKept.run_getObj_map hb, hK.check w _ hx, h1, MapKept.run_setObj_map _ hb, Result.andThen, setBlock]
    · intro y hy
      rw [hsub] at hy
      exact hk y ((List.eraseIdx_sublist _ _).subset hy)
    · rw [hdel, hsub, ChangeMaps.map_eraseIdx, ChangeMaps.map_eraseIdx, hL]
end laws
end Go.Proofs.YtnacoplokjdglaaGreat

namespace Go.Proofs.YtnacoplokjdglaaGreat
open Go.RowKit Go.Maps
open Go.ChangeShapes Go.WideShapes

theorem alloc_atG (w : World) (o : Obj) : (w.alloc o).heap[w.heap.size]? = some o := by show (w.heap.push o)[w.heap.size]? = some o; simp
theorem cell_ofG {w : World} {b : Nat} {cs : Array Value} {T : TypeId} {fz : Nat × Nat} (h : w.heap[b]? = some (.cells cs T fz)) (o : Nat) : w.cell? ⟨b, o, none⟩ = cs[o]? := by
  simp [World.cell?, h]
theorem Tryz.infoI : (Tryz.prog.info? 3).map (fun i => (i.zero, i.size, i.bytes)) = some (some (vi 0), 1, 8) := by kernel_rfl
theorem eltI : Elt Tryz.prog 58 3 1 8 (vi 0) := by
  obtain ⟨i0, hi, hz0, hz1, hz2⟩ := info_parts Tryz.infoI
  exact ⟨Tryz.underlying58, by decide, rfl, i0, hi, hz0, hz1, hz2⟩
def viC (p : Int) : List Value := [vi p]
/-- A row of ints that the call owns. -/
def OwI (base : Nat) (w : World) (v : Value) (xs : List Int) : Prop := w.ownsRow base 3 1 v xs.length (xs.flatMap viC)

end Go.Proofs.YtnacoplokjdglaaGreat

namespace Go.Proofs.YtnacoplokjdglaaGreat
open Go.RowKit Go.Shelf Go.Maps
attribute [local go_sem] Oper.semAt_some

abbrev encK (x : Int) : Array Value := #[vi x]
def markLG (Ds : List Nat) : List Deferred := Ds.map fun D => { target := .collected D, args := #[] }

theorem leaves_marksG {P : Program} {F : Fence} {n : Nat} {fn : Func} {tmps : Array Value} {R : Ending → World → Prop} : ∀ (Ds : List Nat) (w : World), (∀ D ∈ Ds, w.heap[D]? = some (.deferred (some []))) → Ds.Nodup →
    (∀ w' : World, w'.os = w.os → w'.tape = w.tape → w'.output = w.output → w'.heap.size = w.heap.size → (∀ k, k ∉ Ds → w'.heap[k]? = w.heap[k]?) → LeavesIn F n P fn tmps R [] .returning w') → LeavesInM F n P fn tmps R (markLG Ds) .returning w
  | [], w, _, _, h => h w rfl rfl rfl rfl (fun _ _ => rfl)
  | D :: Ds, w, hD, hn, h => by
    refine ⟨by simp, .inl ⟨D, w.putObj D (.deferred none), rfl, run_takeDeferred (hD D (by simp)), ?_⟩⟩
    have hnd := List.nodup_cons.1 hn
    have hput : ∀ k, k ≠ D → (w.putObj D (.deferred none)).heap[k]? = w.heap[k]? := fun k hk => by
      unfold World.putObj; simp only [Array.getElem?_setIfInBounds]; rw [if_neg (fun e => hk e.symm)]
    refine leaves_marksG Ds _ (fun D' h' => by rw [hput D' (fun e => hnd.1 (e ▸ h'))]; exact hD D' (by simp [h'])) hnd.2 (fun w' h1 h2 h3 h4 h5 => h w' (h1.trans rfl) (h2.trans rfl) (h3.trans rfl) (by rw [h4]; simp [World.putObj]) (fun k hk => by
      rw [h5 k (fun e => hk (by simp [e])), hput k (fun e => hk (by simp [e]))]))

theorem keep_cellsG {A B : World} {row : Option Nat} {b : Nat} {cs : Array Value} {T : TypeId} (h : A.heap[b]? = some (.cells cs T)) (hg : A.grownBy B row) (hr : ∀ r, row = some r → ∃ o : Obj, A.heap[r]? = some o ∧ o.isCells = false) : B.heap[b]? = some (.cells cs T) := by
  rw [hg.block b (Array.getElem?_eq_some_iff.1 h).1 (fun e => by
    obtain ⟨o, ho, hc⟩ := hr b e.symm
    rw [h] at ho; cases ho; cases hc)]
  exact h

end Go.Proofs.YtnacoplokjdglaaGreat

namespace Go.Proofs.YtnacoplokjdglaaGreat
open Go.RowKit Go.Shelf Go.Maps
attribute [local go_sem] Oper.semAt_some

/-- What AppendSeq keeps of memory: its boxed answer so far. -/
structure StL (w : World) (acc : List Int) (W : World) : Prop where
  out : ∃ vo, W.heap[w.heap.size]? = some (.cells #[vo] 58) ∧ OwI (w.heap.size + 1) W vo acc
  size : w.heap.size + 1 ≤ W.heap.size
  below : Below w.heap.size w W

theorem stL_own {w : World} {acc : List Int} {base : Nat} (hb : w.heap.size ≤ base) {A B : World} {row : Option Nat} (h : StL w acc A) (hg : A.grownBy B row)
    (hr : ∀ r, row = some r → base ≤ r ∧ ∃ o : Obj, A.heap[r]? = some o ∧ o.isCells = false) : StL w acc B := by
  have hr' : ∀ r, row = some r → ∃ o : Obj, A.heap[r]? = some o ∧ o.isCells = false := fun r e => (hr r e).2
  obtain ⟨vo, ho, hrow⟩ := h.out
  refine ⟨⟨vo, keep_cellsG ho hg hr', ?_⟩, Nat.le_trans h.size hg.size, h.below.grown hg h.below.size (fun j hj => Nat.le_trans hb (hr j hj).1)⟩
  refine ⟨hrow.1, ?_⟩
  rcases hrow.2 with h2 | ⟨g, cp, cur, hv, hg2, hh, r⟩
  · exact .inl h2
  · exact .inr ⟨g, cp, cur, hv, hg2, keep_cellsG hh hg hr', r⟩

theorem StL.alloc {w W : World} {acc : List Int} (h : StL w acc W) (o : Obj) : StL w acc (W.alloc o) := by
  have hs := h.size
  obtain ⟨vo, ho, hrow⟩ := h.out
  exact ⟨⟨vo, by rw [Below.heap_alloc _ _ _ (by omega)]; exact ho, World.ownsRow.alloc hrow _⟩, by simp; omega, h.below.alloc (by omega) _⟩

theorem stL_put {w W w1 : World} {vo v' : Value} {acc : List Int} {x : Int} {o : Obj} (h : StL w acc W) (hrow0 : OwI (w.heap.size + 1) W vo acc) (ho : W.heap[w.heap.size]? = some (.cells #[vo] 58))
    (hg : (W.alloc o).grownBy w1 vo.ownBlock) (hrow : w1.ownsRow (w.heap.size + 1) 3 1 v' (acc.length + 1) (acc.flatMap viC ++ viC x)) : StL w (acc ++ [x]) (w1.setCell ⟨w.heap.size, 0, none⟩ v') := by
  have hs := h.size
  have hlt : ∀ j, vo.ownBlock = some j → w.heap.size + 1 ≤ j ∧ j < W.heap.size := fun j hj => World.ownsRow.lt hrow0 j hj
  refine ⟨⟨v', ?_, ?_⟩, ?_, ?_⟩
  · have : w1.heap[w.heap.size]? = some (.cells #[vo] 58) := by
      rw [hg.block _ (by simp; omega) (fun e => by have := hlt _ e.symm; omega), Below.heap_alloc _ _ _ (by omega)]; exact ho
    simp [World.setCell, Array.getElem?_modify, this]
  · unfold OwI
    rw [List.length_append, List.flatMap_append]
    have := ownsRow_setCell_below hrow (a := ⟨w.heap.size, 0, none⟩) (by show w.heap.size < _; omega) v'
    simpa using this
  · have := hg.size; simp [World.setCell] at this ⊢; omega
  · exact ((h.below.alloc (by omega) o).grown hg (by simp; omega) (fun j hj => by have := hlt j hj; omega)).setCell (Nat.le_refl _) _

theorem keeps_put {W w1 : World} {vo v' : Value} {base : Nat} {acc : List Int} {o : Obj} {a : Addr} (hrow0 : OwI base W vo acc) (ho : ∃ cs T, W.heap[a.block]? = some (.cells cs T))
    (hg : (W.alloc o).grownBy w1 vo.ownBlock) : KeepsOthers W (w1.setCell a v') := by
  obtain ⟨cs, T, ho⟩ := ho
  refine ⟨?_, fun j o' hj hc => ?_⟩
  · have := hg.size; simp [World.setCell] at this ⊢; omega
  · have hne : j ≠ a.block := fun e => by subst e; rw [ho] at hj; cases hj; cases hc
    rw [Below.heap_setCell _ _ _ _ hne, hg.block j (by simp; have := (Array.getElem?_eq_some_iff.1 hj).1; omega) ?_, Below.heap_alloc _ _ _ (Array.getElem?_eq_some_iff.1 hj).1]
    · exact hj
    · intro e
      rcases hrow0.2 with ⟨e2, _⟩ | ⟨g, cp, cur, e2, _, hh, _⟩
      · rw [e2] at e; cases e
      · rw [e2] at e; cases e
        rw [hh] at hj; cases hj; cases hc
end Go.Proofs.YtnacoplokjdglaaGreat

namespace Go.Proofs.YtnacoplokjdglaaGreat
open Go.Proofs Go.Shelf
def sortI_ren : Go.Shelf.Ren := ⟨fun | 53 => 90 | 64 => 86 | 63 => 117 | 78 => 113 | 79 => 114 | 70 => 130 | 71 => 131 | 72 => 132 | 73 => 133 | 74 => 134 | 75 => 135 | 59 => 136 | 76 => 137 | 77 => 138 | 88 => 150 | 89 => 126 | 90 => 127 | 91 => 151 | 92 => 152 | 68 => 148 | 96 => 158 | n => n, fun | 22 => 58 | 23 => 3 | 3 => 3 | 51 => 152 | 0 => 0 | 67 => 184 | 69 => 186 | 4 => 4 | 61 => 178 | 60 => 177 | 44 => 118 | 5 => 5 | 9 => 9 | 75 => 195 | 79 => 199 | 83 => 214 | 84 => 215 | n => n, fun | n => n⟩
theorem sortI : Go.Proofs.SlLaysN.n53 Tryz.prog sortI_ren := {
  mixed := by kernel_rfl,
  f53 := ⟨Tryz.f90.name, by decide, Tryz.func90.trans (congrArg some (by kernel_rfl))⟩,
  f59 := ⟨Tryz.f136.name, by decide, Tryz.func136.trans (congrArg some (by kernel_rfl))⟩,
  f63 := ⟨Tryz.f117.name, by decide, Tryz.func117.trans (congrArg some (by kernel_rfl))⟩,
  f64 := Tryz.func86.trans (congrArg some (by kernel_rfl)),
  f68 := ⟨Tryz.f148.name, by decide, Tryz.func148.trans (congrArg some (by kernel_rfl))⟩,
  f70 := ⟨Tryz.f130.name, by decide, Tryz.func130.trans (congrArg some (by kernel_rfl))⟩,
  f71 := ⟨Tryz.f131.name, by decide, Tryz.func131.trans (congrArg some (by kernel_rfl))⟩,
  f72 := ⟨Tryz.f132.name, by decide, Tryz.func132.trans (congrArg some (by kernel_rfl))⟩,
  f73 := ⟨Tryz.f133.name, by decide, Tryz.func133.trans (congrArg some (by kernel_rfl))⟩,
  f74 := ⟨Tryz.f134.name, by decide, Tryz.func134.trans (congrArg some (by kernel_rfl))⟩,
  f75 := ⟨Tryz.f135.name, by decide, Tryz.func135.trans (congrArg some (by kernel_rfl))⟩,
  f76 := ⟨Tryz.f137.name, by decide, Tryz.func137.trans (congrArg some (by kernel_rfl))⟩,
  f77 := ⟨Tryz.f138.name, by decide, Tryz.func138.trans (congrArg some (by kernel_rfl))⟩,
  f78 := Tryz.func113.trans (congrArg some (by kernel_rfl)),
  f79 := Tryz.func114.trans (congrArg some (by kernel_rfl)),
  f88 := ⟨Tryz.f150.name, by decide, Tryz.func150.trans (congrArg some (by kernel_rfl))⟩,
  f89 := Tryz.func126.trans (congrArg some (by kernel_rfl)),
  f90 := Tryz.func127.trans (congrArg some (by kernel_rfl)),
  f91 := ⟨Tryz.f151.name, by decide, Tryz.func151.trans (congrArg some (by kernel_rfl))⟩,
  f92 := ⟨Tryz.f152.name, by decide, Tryz.func152.trans (congrArg some (by kernel_rfl))⟩,
  f96 := ⟨Tryz.f158.name, by decide, Tryz.func158.trans (congrArg some (by kernel_rfl))⟩,
  t0 := Tryz.underlying0,
  a0 := Tryz.isAgg0,
  z0 := Tryz.sizeOf0,
  v0 := Tryz.zeroValue0,
  t3 := Tryz.underlying3,
  a3 := Tryz.isAgg3,
  z3 := Tryz.sizeOf3,
  v3 := Tryz.zeroValue3,
  t4 := Tryz.underlying4,
  a4 := Tryz.isAgg4,
  z4 := Tryz.sizeOf4,
  v4 := Tryz.zeroValue4,
  t5 := Tryz.underlying5,
  a5 := Tryz.isAgg5,
  z5 := Tryz.sizeOf5,
  v5 := Tryz.zeroValue5,
  t9 := Tryz.underlying9,
  a9 := Tryz.isAgg9,
  z9 := Tryz.sizeOf9,
  v9 := Tryz.zeroValue9,
  t22 := Tryz.underlying58,
  a22 := Tryz.isAgg58,
  z22 := Tryz.sizeOf58,
  v22 := Tryz.zeroValue58,
  t23 := Tryz.underlying3,
  a23 := Tryz.isAgg3,
  z23 := Tryz.sizeOf3,
  v23 := Tryz.zeroValue3,
  t44 := Tryz.underlying118,
  a44 := Tryz.isAgg118,
  z44 := Tryz.sizeOf118,
  v44 := Tryz.zeroValue118,
  t51 := Tryz.underlying152,
  a51 := Tryz.isAgg152,
  z51 := Tryz.sizeOf152,
  v51 := Tryz.zeroValue152,
  t60 := Tryz.underlying177,
  a60 := Tryz.isAgg177,
  z60 := Tryz.sizeOf177,
  v60 := Tryz.zeroValue177,
  t61 := Tryz.underlying178,
  a61 := Tryz.isAgg178,
  z61 := Tryz.sizeOf178,
  v61 := Tryz.zeroValue178,
  t67 := Tryz.underlying184,
  a67 := Tryz.isAgg184,
  z67 := Tryz.sizeOf184,
  v67 := Tryz.zeroValue184,
  t69 := Tryz.underlying186,
  a69 := Tryz.isAgg186,
  z69 := Tryz.sizeOf186,
  v69 := Tryz.zeroValue186,
  t75 := Tryz.underlying195,
  a75 := Tryz.isAgg195,
  z75 := Tryz.sizeOf195,
  v75 := Tryz.zeroValue195,
  t79 := Tryz.underlying199,
  a79 := Tryz.isAgg199,
  z79 := Tryz.sizeOf199,
  v79 := Tryz.zeroValue199,
  t83 := Tryz.underlying214,
  a83 := Tryz.isAgg214,
  z83 := Tryz.sizeOf214,
  v83 := Tryz.zeroValue214,
  t84 := Tryz.underlying215,
  a84 := Tryz.isAgg215,
  z84 := Tryz.sizeOf215,
  v84 := Tryz.zeroValue215 }
def compactI_ren : Go.Shelf.Ren := ⟨fun | 43 => 118 | n => n, fun | 22 => 58 | 23 => 3 | 3 => 3 | 4 => 4 | 0 => 0 | n => n, fun | n => n⟩
theorem compactI : Go.Proofs.SlLaysN.n43 Tryz.prog compactI_ren := {
  mixed := by kernel_rfl,
  f43 := ⟨Tryz.f118.name, by decide, Tryz.func118.trans (congrArg some (by kernel_rfl))⟩,
  t0 := Tryz.underlying0,
  a0 := Tryz.isAgg0,
  z0 := Tryz.sizeOf0,
  v0 := Tryz.zeroValue0,
  t3 := Tryz.underlying3,
  a3 := Tryz.isAgg3,
  z3 := Tryz.sizeOf3,
  v3 := Tryz.zeroValue3,
  t4 := Tryz.underlying4,
  a4 := Tryz.isAgg4,
  z4 := Tryz.sizeOf4,
  v4 := Tryz.zeroValue4,
  t22 := Tryz.underlying58,
  a22 := Tryz.isAgg58,
  z22 := Tryz.sizeOf58,
  v22 := Tryz.zeroValue58,
  t23 := Tryz.underlying3,
  a23 := Tryz.isAgg3,
  z23 := Tryz.sizeOf3,
  v23 := Tryz.zeroValue3,
  i23 := by kernel_rfl }
end Go.Proofs.YtnacoplokjdglaaGreat

namespace Go.Proofs.YtnacoplokjdglaaGreat
open Go.RowKit Go.Maps Go.Sort Go.Shelf Go.Proofs

abbrev encI : Int → Value := Value.int .i64
theorem viC_map (l : List Int) : l.flatMap viC = l.map encI := by
  induction l with
  | nil => rfl
  | cons x l ih => simp [viC, ih]
theorem holdsI {w : World} {g : Nat} {cur : Array Value} {e : TypeId} {l : List Int} (hb : w.heap[g]? = some (.cells cur e (0, 0))) (ht : cur.toList.take l.length = l.map encI) : Holds encI w g 0 l.toArray := by
  intro j hj
  have hj' : j < l.length := by simpa using hj
  refine ⟨?_, by simp [World.frozen?, hb]⟩
  have h1 : cur[j]? = some (encI l[j]) := by
    have h2 : (cur.toList.take l.length)[j]? = (l.map encI)[j]? := by rw [ht]
    rw [List.getElem?_take_of_lt hj', List.getElem?_map, List.getElem?_eq_getElem hj', Array.getElem?_toList] at h2
    exact h2
  have h3 : (⟨g, 0 + j, none⟩ : Addr) = ⟨g, j, none⟩ := by rw [Nat.zero_add]
  rw [h3, cell_ofG hb, h1, getElem!_pos l.toArray j hj]
  simp
theorem grownI {w : World} {g n : Nat} {os : Array Obj} (d : Array Int) : w.grownBy (grow (putRow encI (Sort.ahead w n) g 0 d) os) (some g) := by
  refine ⟨rfl, rfl, rfl, by simp, fun k hk hne => ?_⟩
  have hgk : g ≠ k := fun e => hne (by rw [e])
  rw [heap_grow_old _ _ (by simpa using hk)]
  simp [putRow, mapBlock, Sort.ahead, Array.getElem?_modify, hgk]
theorem sortedI {w : World} {base g cap n : Nat} {e : TypeId} {os : Array Obj} {cur : Array Value} {l l' : List Int} (hl : l'.length = l.length) (hbase : base ≤ g) (hb : w.heap[g]? = some (.cells cur e (0, 0)))
    (h1 : l.length ≤ cap) (h2 : cap ≤ maxLen) (h3 : cur.size = cap * 1) :
    (grow (putRow encI (Sort.ahead w n) g 0 l'.toArray) os).ownsRow base e 1 (.slice (some ⟨g, 0, none⟩) l.length cap) l.length (l'.map encI) := by
  have hg : g < w.heap.size := (Array.getElem?_eq_some_iff.1 hb).1
  have hh : (grow (putRow encI (Sort.ahead w n) g 0 l'.toArray) os).heap[g]? = some (.cells (putCells encI 0 l'.toArray cur) e (0, 0)) := by
    rw [heap_grow_old _ _ (by simpa using hg)]
    simp [putRow, mapBlock, Sort.ahead, Array.getElem?_modify, hb, onCells]
  refine ⟨by simp [hl], .inr ⟨g, cap, _, rfl, hbase, hh, h1, h2, by simp [putCells, h3], ?_⟩⟩
  apply List.ext_getElem?
  intro j
  by_cases hj : j < l.length
  · rw [List.getElem?_take_of_lt (by omega), Array.getElem?_toList, List.getElem?_map, List.getElem?_eq_getElem (show j < l'.length by omega)]
    simp [putCells, show j < l'.length by omega, show j < cur.size by omega]
  · rw [List.getElem?_take_eq_none (by omega), List.getElem?_eq_none (by simp; omega)]

abbrev srt (l : List Int) : List Int := l.mergeSort fun x y => decide (x ≤ y)

set_option maxRecDepth 100000 in
set_option maxHeartbeats 2000000 in
theorem sort_call {base : Nat} (v : Value) (l : List Int) (w : World) (h : OwI base w v l) (hlen : l.length ≤ 1048576) :
    Calls Tryz.prog 90 #[v] w fun e w' => e = .returned (.tuple #[]) ∧ OwI base w' v (srt l) ∧ w.grownBy w' v.ownBlock := by
  rcases h.2 with ⟨hv, h0⟩ | ⟨g, cap, cur, rfl, hg, hb, h1, h2, h3, h4⟩
  · have hl : l = [] := List.length_eq_zero_iff.1 h0
    subst hl
    subst hv
    have hc := AnyG.slices_Sort_int_none sortI none 0 w
    change Calls Tryz.prog 90 _ _ _ at hc
    refine hc.mono ?_
    rintro e w' ⟨rfl, rfl⟩
    exact ⟨rfl, by simpa [OwI] using h, ⟨rfl, rfl, rfl, Nat.le_refl _, fun _ _ _ => rfl⟩⟩
  · have h4' : cur.toList.take l.length = l.map encI := by rw [← viC_map]; simpa using h4
    have hc := AnyG.slices_Sort_int sortI g 0 cap l w (holdsI hb h4') (Array.getElem?_eq_some_iff.1 hb).1 (by omega)
    change Calls Tryz.prog 90 _ _ _ at hc
    refine hc.mono ?_
    rintro e w' ⟨rfl, n, os, rfl⟩
    refine ⟨rfl, ?_, grownI _⟩
    have := sortedI (n := n) (os := os) (l := l) (l' := srt l) (by simp) hg hb h1 h2 h3
    unfold OwI
    rw [viC_map]
    simpa using this

theorem srt_perm (l : List Int) : (srt l).Perm l := List.mergeSort_perm _ _
theorem srt_sorted (l : List Int) : (srt l).Pairwise (fun x y => x ≤ y) := by
  have := List.pairwise_mergeSort (le := fun x y : Int => decide (x ≤ y)) (fun a b c h1 h2 => by simp at *; omega) (fun a b => by simp; omega) l
  exact this.imp (fun h => by simpa using h)

end Go.Proofs.YtnacoplokjdglaaGreat

namespace Go.Proofs.YtnacoplokjdglaaGreat
open Go.RowKit Go.Maps
/-- What is said of who is done, by the first k choices. -/
def Fact0 (ts : List GTxn) (dn : List Bool) (k : Nat) (F : FaL) : Prop := ∀ c, getM F c = if c ∈ (choicesM ts).take k ∧ c.kind = 1 then some (dn[c.a.toNat]?.getD false) else none
def Fact1 (ts : List GTxn) (dn : List Bool) (F : FaL) : Prop := ∀ c : GChoice, c.kind = 1 → getM F c = if c ∈ choicesM ts then some (dn[c.a.toNat]?.getD false) else none
theorem Fact0.nil (ts : List GTxn) (dn : List Bool) : Fact0 ts dn 0 [] := fun c => by simp [getM_nil]
theorem Fact0.skip {ts : List GTxn} {dn : List Bool} {k : Nat} {F : FaL} {c : GChoice} (h : Fact0 ts dn k F) (hc : (choicesM ts)[k]? = some c) (hk : c.kind ≠ 1) : Fact0 ts dn (k + 1) F := fun d => by
  rw [h d, List.take_add_one, hc]
  by_cases hd : d = c
  · subst hd; simp [hk]
  · simp [hd]
theorem Fact0.put {ts : List GTxn} {dn : List Bool} {k : Nat} {F : FaL} {c : GChoice} {b : Bool} (h : Fact0 ts dn k F) (hc : (choicesM ts)[k]? = some c) (hk : c.kind = 1) (hb : b = dn[c.a.toNat]?.getD false) : Fact0 ts dn (k + 1) (putM F c b) := fun d => by
  rw [getM_put, List.take_add_one, hc]
  by_cases hd : c = d
  · subst hd; simp [hk, hb]
  · rw [if_neg hd, h d]
    simp [show ¬ d = c from fun e => hd e.symm]
theorem Fact0.full {ts : List GTxn} {dn : List Bool} {F : FaL} (h : Fact0 ts dn (choicesM ts).length F) : Fact1 ts dn F := fun c hc => by
  rw [h c, List.take_length]; simp [hc]
theorem Fact1.put {ts : List GTxn} {dn : List Bool} {F : FaL} (h : Fact1 ts dn F) (key a b : Int) (so : Bool) : Fact1 ts dn (putM F ⟨2, key, a, b⟩ so) := fun c hc => by
  rw [getM_put, if_neg (fun e => by subst e; simp at hc), h c hc]

/-- Who is done and writes a key, by a list of who is done. -/
def wantL (ts : List GTxn) (dn : List Bool) (key : Int) (n : Nat) : List Int := (List.range n).filterMap (fun i => if dn[i]?.getD false && wrOf ts i key then some (i : Int) else none)
theorem wantL_succ (ts : List GTxn) (dn : List Bool) (key : Int) (n : Nat) : wantL ts dn key (n + 1) = wantL ts dn key n ++ (if dn[n]?.getD false && wrOf ts n key then [(n : Int)] else []) := by
  unfold wantL
  rw [List.range_succ, List.filterMap_append]
  congr 1
  cases h : (dn[n]?.getD false && wrOf ts n key) with
  | true => simp only [List.filterMap_cons, List.filterMap_nil, h, if_true]
  | false => simp only [List.filterMap_cons, List.filterMap_nil, h]; rfl
theorem wantL_le (ts : List GTxn) (dn : List Bool) (key : Int) (n : Nat) : (wantL ts dn key n).length ≤ n := by
  have := List.length_filterMap_le (fun i => if dn[i]?.getD false && wrOf ts i key then some (i : Int) else none) (List.range n)
  simpa [wantL] using this
theorem wantL_mem {ts : List GTxn} {dn : List Bool} {key x : Int} {n : Nat} : x ∈ wantL ts dn key n ↔ ∃ i : Nat, i < n ∧ x = i ∧ (dn[i]?.getD false && wrOf ts i key) = true := by
  unfold wantL
  rw [List.mem_filterMap]
  constructor
  · rintro ⟨i, hi, h⟩
    rw [List.mem_range] at hi
    split at h
    · rename_i h1
      simp at h
      exact ⟨i, hi, h.symm, h1⟩
    · simp at h
  · rintro ⟨i, hi, rfl, h⟩
    exact ⟨i, List.mem_range.2 hi, by rw [if_pos h]⟩
theorem wantL_nodup (ts : List GTxn) (dn : List Bool) (key : Int) : ∀ n, (wantL ts dn key n).Nodup := by
  intro n
  induction n with
  | zero => simp [wantL]
  | succ n ih =>
    rw [wantL_succ, List.nodup_append]
    refine ⟨ih, by split <;> simp, fun x hx y hy => ?_⟩
    obtain ⟨i, h1, rfl, _⟩ := wantL_mem.1 hx
    split at hy
    · simp at hy; subst hy; omega
    · simp at hy

/-- The pairs of a list that are said: those whose later one stands at a place below k, and at k with those below j. -/
def PrT (F : FaL) (key : Int) (l : List Int) (k j : Nat) : Prop := ∀ (b a : Nat) (x y : Int), a < b → (b < k ∨ b = k ∧ a < j) → l[a]? = some x → l[b]? = some y → getM F ⟨2, key, min x y, max x y⟩ = some (decide (x < y))
theorem PrT.start (F : FaL) (key : Int) (l : List Int) : PrT F key l 0 0 := fun b a x y h1 h2 => by omega
theorem PrT.next {F : FaL} {key : Int} {l : List Int} {k : Nat} (h : PrT F key l k k) : PrT F key l (k + 1) 0 := fun b a x y h1 h2 h3 h4 => h b a x y h1 (by omega) h3 h4
theorem nodup_at {l : List Int} (hn : l.Nodup) {i j : Nat} {x : Int} (hi : l[i]? = some x) (hj : l[j]? = some x) : i = j := by
  obtain ⟨a1, a2⟩ := List.getElem?_eq_some_iff.1 hi
  obtain ⟨b1, b2⟩ := List.getElem?_eq_some_iff.1 hj
  exact (List.getElem_inj (h₀ := a1) (h₁ := b1) hn).1 (by rw [a2, b2])
theorem PrT.put {F : FaL} {key a b : Int} {l : List Int} {k j : Nat} (hn : l.Nodup) (h : PrT F key l k j) (ha : l[j]? = some a) (hb : l[k]? = some b) (hjk : j < k) : PrT (putM F ⟨2, key, min a b, max a b⟩ (decide (a < b))) key l k (j + 1) := fun b' a' x y h1 h2 h3 h4 => by
  rw [getM_put]
  by_cases he : (⟨2, key, min a b, max a b⟩ : GChoice) = ⟨2, key, min x y, max x y⟩
  · rw [if_pos he]
    injection he with _ _ e1 e2
    have hab : a ≠ b := fun e => by subst e; have := nodup_at hn ha hb; omega
    have hxy : x ≠ y := fun e => by subst e; have := nodup_at hn h3 h4; omega
    by_cases hx : x = a
    · subst hx
      have hy : y = b := by omega
      subst hy; rfl
    · have h5 : x = b := by omega
      have h6 : y = a := by omega
      subst h5 h6
      have i1 := nodup_at hn h3 hb
      have i2 := nodup_at hn h4 ha
      omega
  · rw [if_neg he]
    refine h b' a' x y h1 ?_ h3 h4
    rcases h2 with h2 | ⟨h2, h5⟩
    · exact .inl h2
    · right
      refine ⟨h2, ?_⟩
      rcases Nat.lt_or_ge a' j with h6 | h6
      · exact h6
      · have h7 : a' = j := by omega
        subst h7 h2
        rw [ha] at h3; cases h3
        rw [hb] at h4; cases h4
        exact absurd rfl he
theorem PrT.other {F : FaL} {key key' a b : Int} {so : Bool} {l : List Int} {k j : Nat} (h : PrT F key' l k j) (hne : key ≠ key') : PrT (putM F ⟨2, key, a, b⟩ so) key' l k j := fun b' a' x y h1 h2 h3 h4 => by
  rw [getM_put, if_neg (fun e => by injection e with _ e1; exact hne e1)]
  exact h b' a' x y h1 h2 h3 h4

abbrev OrdL := List (Int × (Value × List Int))
def ordL (O : OrdL) (key : Int) : List Int := ((getM O key).map (·.2)).getD []
theorem ordL_of {O : OrdL} {key : Int} {p : Value × List Int} (h : getM O key = some p) : ordL O key = p.2 := by unfold ordL; rw [h]; rfl
/-- The orders of the first n keys are orders of those who are done and write them. -/
def GoodK (ts : List GTxn) (dn : List Bool) (O : OrdL) (n : Nat) : Prop := ∀ key : Nat, key < n → srt (ordL O key) = wantL ts dn key ts.length
theorem GoodK.next {ts : List GTxn} {dn : List Bool} {O : OrdL} {n : Nat} (h : GoodK ts dn O n) (h1 : srt (ordL O n) = wantL ts dn n ts.length) : GoodK ts dn O (n + 1) := fun key hk => by
  rcases Nat.lt_or_ge key n with h2 | h2
  · exact h key h2
  · obtain rfl : key = n := by omega
    exact h1
theorem srt_nodup {ts : List GTxn} {dn : List Bool} {key : Int} {n : Nat} {l : List Int} (h : srt l = wantL ts dn key n) : l.Nodup := (srt_perm l).nodup_iff.1 (by rw [h]; exact wantL_nodup _ _ _ _)
end Go.Proofs.YtnacoplokjdglaaGreat

namespace Go.Proofs.YtnacoplokjdglaaGreat
open Go.RowKit Go.Maps

def pairS (key x y : Int) : GChoice × Bool := (⟨2, key, min x y, max x y⟩, decide (x = min x y))
def sdA (key : Int) (o : List Int) (k n : Nat) : FaL := (List.range n).map (fun j => pairS key (o[j]?.getD 0) (o[k]?.getD 0))
def sdB (key : Int) (o : List Int) (n : Nat) : FaL := (List.range n).flatMap (fun k => sdA key o k k)
def sdC (O : OrdL) (n : Nat) : FaL := (List.range n).flatMap (fun (key : Nat) => sdB (key : Int) (ordL O key) (ordL O key).length)
def sd0 (C : List GChoice) (dn : List Bool) : FaL := C.filterMap (fun c => if c.kind = 1 then some (c, dn[c.a.toNat]?.getD false) else none)
def saidL (ts : List GTxn) (dn : List Bool) (O : OrdL) : FaL := sd0 (choicesM ts) dn ++ sdC O 16
theorem sdA_succ (key : Int) (o : List Int) (k n : Nat) : sdA key o k (n + 1) = sdA key o k n ++ [pairS key (o[n]?.getD 0) (o[k]?.getD 0)] := by unfold sdA; rw [List.range_succ, List.map_append]; rfl
theorem sdB_succ (key : Int) (o : List Int) (n : Nat) : sdB key o (n + 1) = sdB key o n ++ sdA key o n n := by unfold sdB; rw [List.range_succ, List.flatMap_append]; simp
theorem sdC_succ (O : OrdL) (n : Nat) : sdC O (n + 1) = sdC O n ++ sdB (n : Int) (ordL O n) (ordL O n).length := by unfold sdC; rw [List.range_succ, List.flatMap_append]; simp
theorem sd0_snoc (C : List GChoice) (dn : List Bool) (c : GChoice) : sd0 (C ++ [c]) dn = sd0 C dn ++ (if c.kind = 1 then [(c, dn[c.a.toNat]?.getD false)] else []) := by
  unfold sd0
  rw [List.filterMap_append]
  congr 1
  by_cases h : c.kind = 1 <;> simp [h]
theorem sdA_len (key : Int) (o : List Int) (k n : Nat) : (sdA key o k n).length = n := by simp [sdA]
theorem sdB_len (key : Int) (o : List Int) : ∀ n, (sdB key o n).length ≤ n * n
  | 0 => by simp [sdB]
  | n + 1 => by
    have h := sdB_len key o n
    rw [sdB_succ, List.length_append, sdA_len]
    have : (n + 1) * (n + 1) = n * n + 2 * n + 1 := by rw [Nat.add_mul, Nat.mul_add]; omega
    omega
theorem sdC_len {O : OrdL} (hO : ∀ key : Nat, key < 16 → (ordL O key).length ≤ 60) : ∀ n, n ≤ 16 → (sdC O n).length ≤ 3600 * n
  | 0, _ => by simp [sdC]
  | n + 1, hn => by
    have h := sdC_len hO n (by omega)
    have h1 := sdB_len (n : Int) (ordL O n) (ordL O n).length
    have h2 : (ordL O n).length * (ordL O n).length ≤ 60 * 60 := Nat.mul_le_mul (hO n (by omega)) (hO n (by omega))
    rw [sdC_succ, List.length_append]
    omega
/-- The last place of a number. -/
def lastAt (l : List Int) (x : Int) (n : Nat) : Int := ((List.range n).foldl (fun (a : Int) (i : Nat) => if l[i]? = some x then (i : Int) else a) (-1))
theorem lastAt_succ (l : List Int) (x : Int) (n : Nat) : lastAt l x (n + 1) = if l[n]? = some x then (n : Int) else lastAt l x n := by
  unfold lastAt; rw [List.range_succ, List.foldl_append]; rfl
theorem lastAt_spec (l : List Int) (x : Int) : ∀ n, n ≤ l.length → (lastAt l x n = -1 ∧ (∀ i, i < n → l[i]? ≠ some x)) ∨ ∃ i : Nat, i < n ∧ lastAt l x n = i ∧ l[i]? = some x
  | 0, _ => .inl ⟨rfl, fun i h => absurd h (Nat.not_lt_zero _)⟩
  | n + 1, h => by
    rw [lastAt_succ]
    by_cases hx : l[n]? = some x
    · rw [if_pos hx]; exact .inr ⟨n, by omega, rfl, hx⟩
    · rw [if_neg hx]
      rcases lastAt_spec l x n (by omega) with ⟨h1, h2⟩ | ⟨i, h1, h2, h3⟩
      · refine .inl ⟨h1, fun i hi => ?_⟩
        rcases Nat.lt_or_ge i n with h | h
        · exact h2 i h
        · rw [show i = n by omega]; exact hx
      · exact .inr ⟨i, by omega, h2, h3⟩
/-- What is left of a list when some numbers are taken away, one each. -/
def leftL : List Int → List Int → Option (List Int)
  | l, [] => some l
  | l, x :: ws => if 0 ≤ lastAt l x l.length then leftL (l.eraseIdx (lastAt l x l.length).toNat) ws else none
end Go.Proofs.YtnacoplokjdglaaGreat

namespace Go.Proofs.YtnacoplokjdglaaGreat
open Go.RowKit Go.Maps

theorem GChoice.ext' {x y : GChoice} (h0 : x.kind = y.kind) (h1 : x.key = y.key) (h2 : x.a = y.a) (h3 : x.b = y.b) : x = y := by
  cases x; cases y; simp at h0 h1 h2 h3; subst h0; subst h1; subst h2; subst h3; rfl
theorem getM_first {G : FaL} {c : GChoice} {k : Nat} {p : GChoice × Bool} (hp : G[k]? = some p) (hc : p.1 = c) (hno : ∀ (j : Nat) (q : GChoice × Bool), j < k → G[j]? = some q → q.1 ≠ c) : getM G c = some p.2 := by
  induction G generalizing k with
  | nil => simp at hp
  | cons q G ih =>
    rw [getM_cons]
    cases k with
    | zero => simp at hp; subst hp; rw [if_pos hc]
    | succ k =>
      rw [if_neg (hno 0 q (by omega) rfl)]
      exact ih (by simpa using hp) fun j q' hj hq => hno (j + 1) q' (by omega) (by simpa using hq)
theorem getM_no {G : FaL} {c : GChoice} (hno : ∀ (j : Nat) (q : GChoice × Bool), j < G.length → G[j]? = some q → q.1 ≠ c) : getM G c = none := by
  rw [getM_none]
  intro p hp
  obtain ⟨j, hj⟩ := List.mem_iff_getElem?.1 hp
  exact hno j p (List.getElem?_eq_some_iff.1 hj).1 hj

set_option maxRecDepth 100000 in
set_option maxHeartbeats 4000000 in
theorem get_call (v : Value) (G : FaL) (c : GChoice) (w : World) (hv : RdSaid w v G) :
    Calls Tryz.prog 80 #[v, chK c] w fun e w' => e = .returned (vi (getI G c)) ∧ Below w.heap.size w w' := by
  have HV := Lib.hid hv
  obtain ⟨a, len, cap, rfl, rfl, hm, -⟩ := hv.at
  clear hv
  have HB1 := Lib.hid ((Below.refl w.heap.size w).alloc (Nat.le_refl _) (.cells #[vi c.kind, vi c.key, vi c.a, vi c.b] 76))
  have q0 : (w.alloc (.cells #[vi c.kind, vi c.key, vi c.a, vi c.b] 76)).cell? ⟨w.heap.size, 0, none⟩ = some (vi c.kind) := by rw [cell_of (alloc_at _ _)]; rfl
  have q1 : (w.alloc (.cells #[vi c.kind, vi c.key, vi c.a, vi c.b] 76)).cell? ⟨w.heap.size, 1, none⟩ = some (vi c.key) := by rw [cell_of (alloc_at _ _)]; rfl
  have q2 : (w.alloc (.cells #[vi c.kind, vi c.key, vi c.a, vi c.b] 76)).cell? ⟨w.heap.size, 2, none⟩ = some (vi c.a) := by rw [cell_of (alloc_at _ _)]; rfl
  have q3 : (w.alloc (.cells #[vi c.kind, vi c.key, vi c.a, vi c.b] 76)).cell? ⟨w.heap.size, 3, none⟩ = some (vi c.b) := by rw [cell_of (alloc_at _ _)]; rfl
  have hw1 : (w.alloc (.cells #[vi c.kind, vi c.key, vi c.a, vi c.b] 76)).heap.size = w.heap.size + 1 := by simp
  have Q0 := Lib.hid q0
  have Q1 := Lib.hid q1
  have Q2 := Lib.hid q2
  have Q3 := Lib.hid q3
  clear q0 q1 q2 q3
  go_enter Tryz.func80, Tryz.ntmps80
  go_wp2_with fail
  generalize w.alloc (.cells #[vi c.kind, vi c.key, vi c.a, vi c.b] 76) = w1 at *
  go_loopw [6, 9] (fun _ n wr => ∃ k : Nat, k ≤ G.length ∧ n = .int .i64 k ∧ Hid (∀ (j : Nat) (q : GChoice × Bool), j < k → G[j]? = some q → q.1 ≠ c) ∧ Below w1.heap.size w1 wr) (fun _ n _ => G.length - (intOf n).toNat)
  case atStart => exact ⟨0, Nat.zero_le _, rfl, Lib.hid (fun j q h => absurd h (Nat.not_lt_zero _)), Below.refl _ _⟩
  case round =>
    obtain ⟨wk, rfl⟩ : ∃ wk : World, wk = wr := ⟨_, rfl⟩
    obtain ⟨k, hk, rfl, HN, hb⟩ := hrel
    have HBk := Lib.hid hb
    have hwk := hb.size
    have hwq : w.heap.size < wk.heap.size := by omega
    have q0 := cell_later hb Q0.out
    have q1 := cell_later hb Q1.out
    have q2 := cell_later hb Q2.out
    have q3 := cell_later hb Q3.out
    have HBW := Lib.hid (HB1.out.trans (hb.mono HB1.out.size))
    clear hb
    by_cases hlt : k < G.length
    · obtain ⟨p, hp⟩ := some_at hlt
      obtain ⟨_, _, _, e5, -, -, hcl⟩ := HV.out.at
      cases e5
      obtain ⟨b, off, rfl, k0', k1', k2', k3', k4'⟩ := hcl k p hp
      have k0 := cell_later HBW.out k0'
      have k1 := cell_later HBW.out k1'
      have k2 := cell_later HBW.out k2'
      have k3 := cell_later HBW.out k3'
      have k4 := cell_later HBW.out k4'
      have hkI : (k : Int) < (G.length : Int) := by omega
      have HP := Lib.hid hp
      clear hcl hp k0' k1' k2' k3' k4'
      go_upto_region 4 with fail
      go_cut [16] (fun r wx => r = .bool (decide (p.1 = c)) ∧ wx = wk.alloc (.cells #[vi p.1.kind, vi p.1.key, vi p.1.a, vi p.1.b, .bool p.2] 109))
      case first =>
        by_cases hpc : p.1 = c
        · have hd : decide (p.1 = c) = true := by simp [hpc]
          have f0 : (p.1.kind == c.kind) = true := by simp [hpc]
          have f1 : (p.1.key == c.key) = true := by simp [hpc]
          have f2 : (p.1.a == c.a) = true := by simp [hpc]
          have f3 : (p.1.b == c.b) = true := by simp [hpc]
          clear hpc
          go_wp2_with fail
          go_meet
          exact ⟨by rw [hd], rfl⟩
        · have hd : decide (p.1 = c) = false := by simp [hpc]
          by_cases g0 : p.1.kind = c.kind
          case neg =>
            have f0 : (p.1.kind == c.kind) = false := by simp [g0]
            clear hpc g0
            go_wp2_with fail
            go_meet
            exact ⟨by rw [hd], rfl⟩
          have f0 : (p.1.kind == c.kind) = true := by simp [g0]
          have G0 := Lib.hid g0
          clear g0
          by_cases g1 : p.1.key = c.key
          case neg =>
            have f1 : (p.1.key == c.key) = false := by simp [g1]
            clear hpc g1
            go_wp2_with fail
            go_meet
            exact ⟨by rw [hd], rfl⟩
          have f1 : (p.1.key == c.key) = true := by simp [g1]
          have G1 := Lib.hid g1
          clear g1
          by_cases g2 : p.1.a = c.a
          case neg =>
            have f2 : (p.1.a == c.a) = false := by simp [g2]
            clear hpc g2
            go_wp2_with fail
            go_meet
            exact ⟨by rw [hd], rfl⟩
          have f2 : (p.1.a == c.a) = true := by simp [g2]
          have G2 := Lib.hid g2
          clear g2
          by_cases g3 : p.1.b = c.b
          case neg =>
            have f3 : (p.1.b == c.b) = false := by simp [g3]
            clear hpc g3
            go_wp2_with fail
            go_meet
            exact ⟨by rw [hd], rfl⟩
          have f3 : (p.1.b == c.b) = true := by simp [g3]
          have G3 := Lib.hid g3
          clear g3
          exact absurd (GChoice.ext' G0.out G1.out G2.out G3.out) hpc
      case rest =>
        obtain ⟨rfl, rfl⟩ := hcut
        by_cases hpc : p.1 = c
        · have hd : decide (p.1 = c) = true := by simp [hpc]
          have he := Lib.hid (getM_first HP.out hpc HN.out)
          rw [hd]
          clear hpc
          cases hs : p.2 with
          | true =>
            rw [hs] at he
            have hg : getI G c = 1 := by unfold getI; rw [he.out]
            go_wp2_with fail
            go_ret
            exact ⟨by rw [hg]; rfl, HBW.out.trans ((Below.refl wk.heap.size wk).alloc (Nat.le_refl _) _ |>.mono HBW.out.size)⟩
          | false =>
            rw [hs] at he
            have hg : getI G c = 0 := by unfold getI; rw [he.out]
            go_wp2_with fail
            go_ret
            exact ⟨by rw [hg]; rfl, HBW.out.trans ((Below.refl wk.heap.size wk).alloc (Nat.le_refl _) _ |>.mono HBW.out.size)⟩
        · have hd : decide (p.1 = c) = false := by simp [hpc]
          rw [hd]
          have HPC := Lib.hid hpc
          clear hpc
          go_wp2_with fail
          go_roundw
          case rel =>
            refine ⟨k + 1, by omega, by go_num, Lib.hid ?_, HBk.out.alloc hwk _⟩
            intro j q hj hq
            rcases Nat.lt_or_ge j k with h | h
            · exact HN.out j q h hq
            · obtain rfl : j = k := by omega
              rw [HP.out] at hq; cases hq; exact HPC.out
          case measure => simp [intOf]; omega
    · obtain rfl : k = G.length := by omega
      have he : getI G c = -1 := by unfold getI; rw [getM_no HN.out]
      go_wp2_with fail
      go_ret
      exact ⟨by rw [he]; rfl, HBW.out⟩
end Go.Proofs.YtnacoplokjdglaaGreat

namespace Go.Proofs.YtnacoplokjdglaaGreat
open Go.RowKit Go.Maps

theorem isM_sure {ts : List GTxn} {L : FaL} {i : Nat} (h : (sureM ts)[i]? = some true) : isM ts L i = (true, true) := by unfold isM; rw [h]; rfl
theorem isM_dead {ts : List GTxn} {L : FaL} {i : Nat} (h : (sureM ts)[i]? = some false) (hd : deadB ts i = true) : isM ts L i = (false, true) := by unfold isM; rw [h, hd]; rfl
theorem isM_fact {ts : List GTxn} {L : FaL} {i : Nat} (h : (sureM ts)[i]? = some false) (hd : deadB ts i = false) : isM ts L i = ((getM L ⟨1, 0, i, 0⟩).getD false, (getM L ⟨1, 0, i, 0⟩).isSome) := by unfold isM; rw [h, hd]; rfl
theorem deadB_at {ts : List GTxn} {i : Nat} {t : GTxn} (h : ts[i]? = some t) : deadB ts i = (t.state == 2 || ((writesM t.ops).length : Int) == 0) := by
  unfold deadB stOf; rw [h]
  have : (((writesM t.ops).length : Int) == 0) = ((writesM t.ops).length == 0) := by rw [Bool.eq_iff_iff]; simp
  rw [this]; rfl
theorem small_commit {i : Nat} (h : i ≤ 4096) : SmallCh ⟨1, 0, i, 0⟩ := by
  unfold SmallCh i64; simp only; omega

theorem zero_bool (w : World) : (zeroValue 4).run Tryz.prog w = .ok (.bool false) w := by kernel_rfl

/-- A bool of a row that stands in a block. -/
theorem lookup_fact {w : World} {m : Nat} {L : FaL} (h : MapF w m L) {c : GChoice} (hc : SmallCh c) :
    (Instr.lookup 87 (.map (some m)) (chK c) true).run Tryz.prog w = .ok (.tuple #[.bool ((getM L c).getD false), .bool (getM L c).isSome]) w ∧ (Instr.lookup 87 (.map (some m)) (chK c) false).run Tryz.prog w = .ok (.bool ((getM L c).getD false)) w := by
  obtain ⟨kl, hkl⟩ := choiceKey hc
  obtain ⟨h1, h2⟩ := h.lookup choiceKeyed chK_inj (t := 87) (e := 4) Tryz.underlying87 c hkl (zero_bool w)
  have he : ((getM L c).map Value.bool).getD (.bool false) = .bool ((getM L c).getD false) := by cases getM L c <;> rfl
  rw [he] at h1 h2
  exact ⟨h2, h1⟩

set_option maxRecDepth 100000 in
set_option maxHeartbeats 4000000 in
theorem is_call (v : Value) (ts : List GTxn) (sv : Value) (m : Nat) (L : FaL) (i : Nat) (w : World) (hv : RdTxns w v ts) (hok : OkTxns ts) (htl : ts.length ≤ 4096) (hs : OwBs 0 w sv (sureM ts)) (hm : MapF w m L) (hi : i < ts.length) :
    Calls Tryz.prog 64 #[v, sv, .map (some m), .int .i64 i] w fun e w' => e = .returned (.tuple #[.bool (isM ts L i).1, .bool (isM ts L i).2]) ∧ Below w.heap.size w w' := by
  have HV := Lib.hid hv
  have HOK := Lib.hid hok
  have HM := Lib.hid hm
  have HS := Lib.hid hs
  obtain ⟨a, len, cap, rfl, rfl, hmm, hcl⟩ := hv.at
  obtain ⟨t, ht⟩ := some_at hi
  obtain ⟨b, off, oa, oc, rfl, hr, k0, k1, k2⟩ := hcl i t ht
  obtain ⟨sa, sc, rfl, hsc⟩ := OwBs.at hs
  have hsl := sureM_length ts
  obtain ⟨x, hx⟩ := some_at (l := sureM ts) (k := i) (by rw [hsl]; exact hi)
  obtain ⟨sb, so, rfl, x0⟩ := hsc i x hx
  rw [hsl]
  have HR := Lib.hid hr
  have HX := Lib.hid hx
  have HD := Lib.hid (deadB_at ht)
  have hok2 := (HOK.out.2 t (List.mem_of_getElem? ht)).2
  have hiI : (i : Int) < (ts.length : Int) := by omega
  clear hv hok hs hm hcl hsc hr hx ht hsl
  go_enter Tryz.func64, Tryz.ntmps64
  cases x with
  | true =>
    have he := Lib.hid (isM_sure (L := L) HX.out)
    go_wp2_with fail
    go_ret2
    exact ⟨by rw [he.out]; rfl, Below.refl _ _⟩
  | false =>
    go_upto_region 3 with fail
    go_cut [17] (fun r wx => r = .bool (deadB ts i) ∧ Below w.heap.size w wx)
    case first =>
      by_cases hs2 : t.state = 2
      · have h2 := beq_t hs2
        rw [h2] at HD
        clear hs2
        go_wp2_with fail
        go_meet
        exact ⟨by rw [HD.out]; rfl, Below.refl _ _⟩
      · have h2 := beq_f hs2
        rw [h2] at HD
        clear hs2
        go_wp2_with (go_at_call 71; refine (writes_call t.client t.state _ t.ops _ HR.out hok2).mono ?_; rintro e w2 ⟨v2, rfl, ho2, hb2⟩; have hr2 := ho2.rd; obtain ⟨a2, len2, cap2, rfl, rfl, hm2, -⟩ := hr2.at)
        go_meet
        exact ⟨by rw [HD.out]; first | rfl | simp, hb2⟩
    case rest =>
      obtain ⟨wx, rfl⟩ : ∃ wx : World, wx = wc := ⟨_, rfl⟩
      obtain ⟨rfl, hb⟩ := hcut
      have HB := Lib.hid hb
      cases hd : deadB ts i with
      | true =>
        have he := Lib.hid (isM_dead (L := L) HX.out hd)
        clear hd
        go_wp2_with fail
        go_ret2
        exact ⟨by rw [he.out]; rfl, HB.out⟩
      | false =>
        have he := Lib.hid (isM_fact (L := L) HX.out hd)
        have hl := (lookup_fact (HM.out.below hb HM.out.lt) (small_commit (i := i) (by omega))).1
        clear hd hb
        go_wp2_with fail
        go_ret2
        exact ⟨by rw [he.out]; rfl, HB.out⟩

theorem flat_bools : ∀ S : List Bool, S.flatMap bV = S.map Value.bool
  | [] => rfl
  | x :: S => by rw [List.flatMap_cons, flat_bools S]; rfl
/-- A slice of bools that flaws.Sure made, as an owned row. -/
theorem BoolB.own {w : World} {b : Nat} {S : List Bool} (h : BoolB w b S) (hl : S.length ≤ 4096) : OwBs 0 w (.slice (some ⟨b, 0, none⟩) S.length S.length) S := by
  have hf := flat_bools S
  refine ⟨by rw [hf]; simp, .inr ⟨b, S.length, (S.map Value.bool).toArray, rfl, Nat.zero_le _, h, Nat.le_refl _, by simp [maxLen]; omega, by simp, by rw [hf]; simp [List.take_of_length_le]⟩⟩

set_option maxRecDepth 100000 in
set_option maxHeartbeats 4000000 in
theorem Is_call (v : Value) (ts : List GTxn) (m : Nat) (L : FaL) (i : Nat) (w : World) (hv : RdTxns w v ts) (hok : OkTxns ts) (htl : ts.length ≤ 4096) (hm : MapF w m L) (hi : i < ts.length) :
    Calls Tryz.prog 41 #[v, .map (some m), .int .i64 i] w fun e w' => e = .returned (.tuple #[.bool (isM ts L i).1, .bool (isM ts L i).2]) ∧ Below w.heap.size w w' := by
  have HV := Lib.hid hv
  have HOK := Lib.hid hok
  have HM := Lib.hid hm
  have hsl := sureM_length ts
  clear hv hok hm
  go_enter Tryz.func41, Tryz.ntmps41
  go_wp2_with (first
    | (go_at_call 65; refine (sure_call _ _ _ HV.out HOK.out).mono ?_; rintro e w1 ⟨sb, rfl, hsb, hS, hb1⟩; have HB1 := Lib.hid hb1; have HS := Lib.hid (hS.own (by omega)); rw [hsl] at HS; have HV1 := Lib.hid (HV.out.later hb1); have HM1 := Lib.hid (HM.out.below hb1 HM.out.lt); clear hb1 hS)
    | (go_at_call 64; refine (is_call _ ts _ m L i _ HV1.out HOK.out htl HS.out HM1.out hi).mono ?_; rintro e w2 ⟨rfl, hb2⟩))
  go_ret2
  exact ⟨by rfl, HB1.out.trans (hb2.mono HB1.out.size)⟩

set_option maxRecDepth 100000 in
set_option maxHeartbeats 4000000 in
theorem refIs_call (v g : Value) (ts : List GTxn) (L : FaL) (i : Nat) (w : World) (hv : RdTxns w v ts) (hok : OkTxns ts) (hg : RdSaid w g L) (hi : i < ts.length) :
    Calls Tryz.prog 55 #[v, g, .int .i64 i] w fun e w' => e = .returned (vi (isI ts L i)) ∧ Below w.heap.size w w' := by
  have HV := Lib.hid hv
  have HOK := Lib.hid hok
  have HG := Lib.hid hg
  obtain ⟨a, len, cap, rfl, rfl, hmm, hcl⟩ := hv.at
  obtain ⟨t, ht⟩ := some_at hi
  obtain ⟨b, off, oa, oc, rfl, hr, k0', k1', k2'⟩ := hcl i t ht
  have HR := Lib.hid hr
  have K0 := Lib.hid k0'
  have K1 := Lib.hid k1'
  have K2 := Lib.hid k2'
  have HD := Lib.hid (deadB_at ht)
  have HSL := Lib.hid (refSureN_length ts ts.length)
  have hok2 := (HOK.out.2 t (List.mem_of_getElem? ht)).2
  have hiI : (i : Int) < (ts.length : Int) := by omega
  clear hv hok hg hcl hr k0' k1' k2' ht
  go_enter Tryz.func55, Tryz.ntmps55
  have HI := Lib.hid (show isI ts L i = (if (refSureN ts ts.length)[i]?.getD false then 1 else if deadB ts i then 0 else getI L ⟨1, 0, i, 0⟩) from rfl)
  obtain ⟨x, hx⟩ := some_at (l := refSureN ts ts.length) (k := i) (by rw [HSL.out]; exact hi)
  rw [hx] at HI
  have HX := Lib.hid hx
  clear hx
  cases x with
  | true =>
    go_wp2_with (go_at_call 36; refine (refSure_call _ ts _ HV.out HOK.out).mono ?_; rintro e w1 ⟨sv, rfl, hS, hb1⟩; obtain ⟨sa, sc, hsv, hsc⟩ := OwBs.at hS; rw [HSL.out] at hsv; subst hsv; obtain ⟨sb, so, rfl, x0⟩ := hsc i _ HX.out; have HB1 := Lib.hid hb1; have HG1 := Lib.hid (HG.out.later hb1); have HR1 := Lib.hid (HR.out.later hb1); have k0 := cell_later hb1 K0.out; have k1 := cell_later hb1 K1.out; have k2 := cell_later hb1 K2.out; clear hb1 hS hsc)
    go_ret
    exact ⟨by rw [HI.out]; rfl, HB1.out⟩
  | false =>
    go_upto_region 3 with (go_at_call 36; refine (refSure_call _ ts _ HV.out HOK.out).mono ?_; rintro e w1 ⟨sv, rfl, hS, hb1⟩; obtain ⟨sa, sc, hsv, hsc⟩ := OwBs.at hS; rw [HSL.out] at hsv; subst hsv; obtain ⟨sb, so, rfl, x0⟩ := hsc i _ HX.out; have HB1 := Lib.hid hb1; have HG1 := Lib.hid (HG.out.later hb1); have HR1 := Lib.hid (HR.out.later hb1); have k0 := cell_later hb1 K0.out; have k1 := cell_later hb1 K1.out; have k2 := cell_later hb1 K2.out; clear hb1 hS hsc)
    go_cut [26] (fun r wx => r = .bool (deadB ts i) ∧ Below w1.heap.size w1 wx)
    case first =>
      by_cases hs2 : t.state = 2
      · have h2 := beq_t hs2
        rw [h2] at HD
        clear hs2
        go_wp2_with fail
        go_meet
        exact ⟨by rw [HD.out]; rfl, Below.refl _ _⟩
      · have h2 := beq_f hs2
        rw [h2] at HD
        clear hs2
        go_wp2_with (go_at_call 35; refine (refWrites_call t.client t.state _ t.ops _ HR1.out hok2).mono ?_; rintro e w2 ⟨v2, rfl, ho2, hb2⟩; have hr2 := ho2.rd; obtain ⟨a2, len2, cap2, rfl, rfl, hm2, -⟩ := hr2.at)
        go_meet
        exact ⟨by rw [HD.out]; first | rfl | simp, hb2⟩
    case rest =>
      obtain ⟨wx, rfl⟩ : ∃ wx : World, wx = wc := ⟨_, rfl⟩
      obtain ⟨rfl, hb⟩ := hcut
      have HB := Lib.hid (HB1.out.trans (hb.mono HB1.out.size))
      have HG2 := Lib.hid (HG1.out.later hb)
      clear hb
      cases hd : deadB ts i with
      | true =>
        rw [hd] at HI
        clear hd
        go_wp2_with fail
        go_ret
        exact ⟨by rw [HI.out]; rfl, HB.out⟩
      | false =>
        rw [hd] at HI
        clear hd
        go_wp2_with (go_at_call 80; refine (get_call _ L ⟨1, 0, i, 0⟩ _ HG2.out).mono ?_; rintro e w3 ⟨rfl, hb3⟩)
        go_ret
        exact ⟨by rw [HI.out]; rfl, HB.out.trans (hb3.mono HB.out.size)⟩
end Go.Proofs.YtnacoplokjdglaaGreat
