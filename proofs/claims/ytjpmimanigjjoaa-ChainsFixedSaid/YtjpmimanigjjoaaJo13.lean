/- Texts of one proof, one behind the other: GdMvIter, GdMvApp, Chain, L9c. -/
import Derived.Test.YtjpmimanigjjoaaJo7
import Derived.RangeFuncNested
import Derived.RangeFuncBound
import Derived.RangeFuncCalls
import Derived.RangeFuncLeaves
import Derived.RangeFuncBox
import Derived.Shelf.Abstract
import Derived.Shelf.RegionOpen
import Derived.OwnWalkIn
import Derived.TacticsInMore
import Derived.LoopNIn
import Derived.LoopIn
import Derived.Test.YtjpmimanigjjoaaJo1
import Derived.Test.YtjpmimanigjjoaaJo10
import Derived.Test.YtjpmimanigjjoaaJo12
import Derived.Test.YtjpmimanigjjoaaJo5
import Derived.Test.YtjpmimanigjjoaaJo8
set_option linter.all false
/- maps.Keys of the map of those who wait, collected. -/
namespace Go.Proofs.Ytjpmimanigjjoaa
open Go.RowKit Go.Shelf Go.Maps
attribute [local go_sem] Oper.semAt_some

abbrev encK (x : Int) : Array Value := #[vi x]
def markLG (Ds : List Nat) : List Deferred := Ds.map fun D => { target := .collected D, args := #[] }

theorem leaves_marksG {P : Program} {F : Fence} {n : Nat} {fn : Func} {tmps : Array Value} {R : Ending → World → Prop} : ∀ (Ds : List Nat) (w : World), (∀ D ∈ Ds, w.heap[D]? = some (.deferred (some []))) → Ds.Nodup →
    (∀ w' : World, w'.os = w.os → w'.tape = w.tape → w'.output = w.output → w'.heap.size = w.heap.size → (∀ k, k ∉ Ds → w'.heap[k]? = w.heap[k]?) → LeavesIn F n P fn tmps R [] .returning w') → LeavesInM F n P fn tmps R (markLG Ds) .returning w
  | [], w, _, _, h => h w rfl rfl rfl rfl (fun _ _ => rfl)
  | D :: Ds, w, hD, hn, h => by
    refine ⟨by simp, .inl ⟨D, w.putObj D (.deferred none), rfl, run_takeDeferred (hD D (by simp)), ?_⟩⟩
    have hnd := List.nodup_cons.1 hn
    have hput : ∀ k, k ≠ D → (w.putObj D (.deferred none)).heap[k]? = w.heap[k]? := fun k hk => by
      unfold World.putObj; simp only [Array.getElem?_setIfInBounds]; rw [if_neg (fun e => hk e.symm)]
    refine leaves_marksG Ds _ (fun D' h' => by rw [hput D' (fun e => hnd.1 (e ▸ h'))]; exact hD D' (by simp [h'])) hnd.2 (fun w' h1 h2 h3 h4 h5 => h w' (h1.trans rfl) (h2.trans rfl) (h3.trans rfl) (by rw [h4]; simp [World.putObj]) (fun k hk => by
      rw [h5 k (fun e => hk (by simp [e])), hput k (fun e => hk (by simp [e]))]))

theorem keep_cellsG {A B : World} {row : Option Nat} {b : Nat} {cs : Array Value} {T : TypeId} (h : A.heap[b]? = some (.cells cs T)) (hg : A.grownBy B row) (hr : ∀ r, row = some r → ∃ o : Obj, A.heap[r]? = some o ∧ o.isCells = false) : B.heap[b]? = some (.cells cs T) := by
  rw [hg.block b (Array.getElem?_eq_some_iff.1 h).1 (fun e => by
    obtain ⟨o, ho, hc⟩ := hr b e.symm
    rw [h] at ho; cases ho; cases hc)]
  exact h

theorem nodup_le {α : Type} [DecidableEq α] : ∀ (V L : List α), V.Nodup → (∀ x ∈ V, x ∈ L) → V.length ≤ L.length
  | [], _, _, _ => Nat.zero_le _
  | x :: V, L, h, hs => by
    have hx := hs x (by simp)
    have h2 := List.nodup_cons.1 h
    have := nodup_le V (L.erase x) h2.2 (fun y hy => (List.mem_erase_of_ne (fun e : y = x => h2.1 (by rw [← e]; exact hy))).2 (hs y (by simp [hy])))
    rw [List.length_erase_of_mem hx] at this
    have := List.length_pos_of_mem hx
    simp only [List.length_cons]; omega

theorem RangeT.obj {κ ν : Type} {P : Program} {k : TypeId} {eK : κ → Value} {eV : ν → Value} {w : World} {b r : Nat} {L V : List (κ × ν)} (h : RangeT P k eK eV w b r L V) : (∃ o, w.heap[r]? = some o ∧ o.isWalk = true) ∧ (∃ o, w.heap[b]? = some o ∧ o.isWalk = true) := by
  obtain ⟨es, clock, since, seen, c0, hb, _, _, _, hr, _⟩ := h
  exact ⟨⟨_, hr, rfl⟩, ⟨_, hb, rfl⟩⟩
theorem RangeT.walks {κ ν : Type} {P : Program} {k : TypeId} {eK : κ → Value} {eV : ν → Value} {w w' : World} {b r : Nat} {L V : List (κ × ν)} (h : RangeT P k eK eV w b r L V) (hk : KeepsWalks w w') : RangeT P k eK eV w' b r L V ∧ w'.rangeLeft b r = w.rangeLeft b r := by
  obtain ⟨⟨o, ho, hw⟩, ⟨o2, ho2, hw2⟩⟩ := h.obj
  have e1 : w'.heap[b]? = w.heap[b]? := (hk.same _ _ ho2 hw2).trans ho2.symm
  have e2 : w'.heap[r]? = w.heap[r]? := (hk.same _ _ ho hw).trans ho.symm
  exact ⟨h.frame e1 e2, rangeLeft_frame e1 e2⟩
theorem RangeT.sub {κ ν : Type} {P : Program} {k : TypeId} {eK : κ → Value} {eV : ν → Value} {w : World} {b r : Nat} {L V : List (κ × ν)} (h : RangeT P k eK eV w b r L V) : (∀ p ∈ V, p ∈ L) ∧ V.Pairwise (fun p q => p.1 ≠ q.1) := by
  obtain ⟨es, clock, since, seen, c0, _, _, _, _, _, _, _, _, _, h1, h2⟩ := h
  exact ⟨h1, h2⟩
theorem keys_nodup {ν : Type} {L : List (Int × ν)} (h : L.Pairwise (fun p q => p.1 ≠ q.1)) : (L.map (·.1)).Nodup := by
  rw [List.nodup_iff_pairwise_ne]
  exact List.pairwise_map.2 h

end Go.Proofs.Ytjpmimanigjjoaa

/- slices.AppendSeq and slices.Collect over the keys of the map of those who wait. -/
namespace Go.Proofs.Ytjpmimanigjjoaa
open Go.RowKit Go.Shelf Go.Maps
attribute [local go_sem] Oper.semAt_some

/-- What AppendSeq keeps of memory: its boxed answer so far. -/
structure StL (w : World) (acc : List Int) (W : World) : Prop where
  out : ∃ vo, W.heap[w.heap.size]? = some (.cells #[vo] 23) ∧ OwI (w.heap.size + 1) W vo acc
  size : w.heap.size + 1 ≤ W.heap.size
  below : Below w.heap.size w W

theorem stL_own {w : World} {acc : List Int} {base : Nat} (hb : w.heap.size ≤ base) {A B : World} {row : Option Nat} (h : StL w acc A) (hg : A.grownBy B row)
    (hr : ∀ r, row = some r → base ≤ r ∧ ∃ o : Obj, A.heap[r]? = some o ∧ o.isCells = false) : StL w acc B := by
  have hr' : ∀ r, row = some r → ∃ o : Obj, A.heap[r]? = some o ∧ o.isCells = false := fun r e => (hr r e).2
  obtain ⟨vo, ho, hrow⟩ := h.out
  refine ⟨⟨vo, keep_cellsG ho hg hr', ?_⟩, Nat.le_trans h.size hg.size, h.below.grown hg h.below.size (fun j hj => Nat.le_trans hb (hr j hj).1)⟩
  refine ⟨hrow.1, ?_⟩
  rcases hrow.2 with h2 | ⟨g, cp, cur, hv, hg2, hh, r⟩
  · exact .inl h2
  · exact .inr ⟨g, cp, cur, hv, hg2, keep_cellsG hh hg hr', r⟩

theorem StL.alloc {w W : World} {acc : List Int} (h : StL w acc W) (o : Obj) : StL w acc (W.alloc o) := by
  have hs := h.size
  obtain ⟨vo, ho, hrow⟩ := h.out
  exact ⟨⟨vo, by rw [Below.heap_alloc _ _ _ (by omega)]; exact ho, World.ownsRow.alloc hrow _⟩, by simp; omega, h.below.alloc (by omega) _⟩

theorem stL_put {w W w1 : World} {vo v' : Value} {acc : List Int} {x : Int} {o : Obj} (h : StL w acc W) (hrow0 : OwI (w.heap.size + 1) W vo acc) (ho : W.heap[w.heap.size]? = some (.cells #[vo] 23))
    (hg : (W.alloc o).grownBy w1 vo.ownBlock) (hrow : w1.ownsRow (w.heap.size + 1) 3 1 v' (acc.length + 1) (acc.flatMap viC ++ viC x)) : StL w (acc ++ [x]) (w1.setCell ⟨w.heap.size, 0, none⟩ v') := by
  have hs := h.size
  have hlt : ∀ j, vo.ownBlock = some j → w.heap.size + 1 ≤ j ∧ j < W.heap.size := fun j hj => World.ownsRow.lt hrow0 j hj
  refine ⟨⟨v', ?_, ?_⟩, ?_, ?_⟩
  · have : w1.heap[w.heap.size]? = some (.cells #[vo] 23) := by
      rw [hg.block _ (by simp; omega) (fun e => by have := hlt _ e.symm; omega), Below.heap_alloc _ _ _ (by omega)]; exact ho
    simp [World.setCell, Array.getElem?_modify, this]
  · unfold OwI
    rw [List.length_append, List.flatMap_append]
    have := ownsRow_setCell_below hrow (a := ⟨w.heap.size, 0, none⟩) (by show w.heap.size < _; omega) v'
    simpa using this
  · have := hg.size; simp [World.setCell] at this ⊢; omega
  · exact ((h.below.alloc (by omega) o).grown hg (by simp; omega) (fun j hj => by have := hlt j hj; omega)).setCell (Nat.le_refl _) _

theorem keeps_put {W w1 : World} {vo v' : Value} {base : Nat} {acc : List Int} {o : Obj} {a : Addr} (hrow0 : OwI base W vo acc) (ho : ∃ cs T, W.heap[a.block]? = some (.cells cs T))
    (hg : (W.alloc o).grownBy w1 vo.ownBlock) : KeepsOthers W (w1.setCell a v') := by
  obtain ⟨cs, T, ho⟩ := ho
  refine ⟨?_, fun j o' hj hc => ?_⟩
  · have := hg.size; simp [World.setCell] at this ⊢; omega
  · have hne : j ≠ a.block := fun e => by subst e; rw [ho] at hj; cases hj; cases hc
    rw [Below.heap_setCell _ _ _ _ hne, hg.block j (by simp; have := (Array.getElem?_eq_some_iff.1 hj).1; omega) ?_, Below.heap_alloc _ _ _ (Array.getElem?_eq_some_iff.1 hj).1]
    · exact hj
    · intro e
      rcases hrow0.2 with ⟨e2, _⟩ | ⟨g, cp, cur, e2, _, hh, _⟩
      · rw [e2] at e; cases e
      · rw [e2] at e; cases e
        rw [hh] at hj; cases hj; cases hc
theorem keepsW {W W' : World} (h : KeepsOthers W W') : KeepsWalks W W' := ⟨h.size, fun k o hk ho => h.same k o hk (Obj.not_cells_of_walk ho)⟩

end Go.Proofs.Ytjpmimanigjjoaa

/- chains.Chain. -/
namespace Go.Proofs.Ytjpmimanigjjoaa
open Go.RowKit Go.Maps Go.Sort
attribute [local go_sem] Oper.semAt_some

theorem StL.later {w A B : World} {acc : List Int} (h : StL w acc A) (hb : Below A.heap.size A B) : StL w acc B := by
  obtain ⟨vo, ho, hrow⟩ := h.out
  exact ⟨⟨vo, by rw [hb.block _ (Array.getElem?_eq_some_iff.1 ho).1]; exact ho, own_below hrow hb⟩, Nat.le_trans h.size hb.size, h.below.trans (hb.mono h.below.size)⟩
theorem own_shapeZ {w : World} {base e size n : Nat} {v : Value} {xs : List Value} (h : w.ownsRow base e size v n xs) : ∃ a c, v = .slice a n c ∧ (n ≠ 0 → ∃ g, a = some ⟨g, 0, none⟩ ∧ base ≤ g) := by
  rcases h.2 with ⟨hv, h0⟩ | ⟨g, cap, cur, hv, hg, _⟩
  · exact ⟨none, 0, by rw [hv, h0], fun h => absurd h0 h⟩
  · exact ⟨_, _, hv, fun _ => ⟨g, rfl, hg⟩⟩
theorem AheadW.later {w W : World} {po pf pk blk off cap m : Nat} {D : List Int} {L : FaL} {key : Int} (h : AheadW w po pf pk blk off cap m D L key) (hb : Below w.heap.size w W) : AheadW W po pf pk blk off cap m D L key :=
  ⟨cell_later hb h.o, cell_later hb h.f, cell_later hb h.k, fun j x hj => ⟨cell_later hb (h.row j x hj).1, (h.row j x hj).2⟩, h.map.below hb h.map.lt, h.key, h.len⟩
theorem viZ_map (l : List Int) : l.flatMap viC = l.map vi := by
  induction l with
  | nil => rfl
  | cons x l ih => simp [viC, ih]
theorem store_fn (w : World) (T : TypeId) (f : Value) (hf : f.oneCell' = true) (m : Mode) : (store ⟨w.heap.size, 0, none⟩ f m).run Try.prog (w.alloc (.cells #[Value.nilFunc] T)) = .ok () (w.alloc (.cells #[f] T)) := by
  rw [run_store _ _ _ _ _ hf]
  have h := alloc_atG w (.cells #[Value.nilFunc] T)
  rw [cell_ofG h, free_ofG h]
  rw [World.setCell_alloc_at _ _ _ _ _ rfl]
  simp
theorem oneCellZ : OneCell vi := fun _ => rfl
theorem viC_one (k : Int) : ∀ u ∈ viC k, u.oneCell' = true := by intro u hu; simp [viC] at hu; subst hu; rfl
abbrev MapC (w : World) (b : Nat) (L : List (Int × Int)) : Prop := MapT Try.prog 3 vi vi w b L
theorem zero_int (w : World) : (zeroValue 3).run Try.prog w = .ok (vi 0) w := by kernel_rfl
theorem lookup_cnt {w : World} {m : Nat} {C : List (Int × Int)} {M : List Nat} (h : MapC w m C) (hC : CntM C M) (n : Nat) (hn : n ≤ 1048576) :
    (Instr.lookup 88 (.map (some m)) (vi n) false).run Try.prog w = .ok (vi (M.count n : Nat)) w := by
  have h1 := (MapT.lookup intKeyed vi_inj (t := 88) (e := 3) Try.underlying88 h (n : Int) (intKey (by unfold i64; omega)) (zero_int w)).1
  rw [h1]
  have := hC n
  cases hg : getM C (n : Int) with
  | none => rw [hg] at this; simp at this; simp [← this]
  | some v => rw [hg] at this; simp at this; simp [this]

/-- What chains.Chain gives: an order of those who are done and write the key, where the facts say one. -/
def ChainQ (ts : List GTxn) (L : FaL) (key : Int) (w : World) (e : Ending) (w' : World) : Prop :=
  ∃ v E, e = .returned (.tuple #[v, .bool (onceB L key (wrl ts L key))]) ∧ OwI w.heap.size w' v E ∧ Below w.heap.size w w' ∧
    (onceB L key (wrl ts L key) = true → (wrl ts L key).Perm E ∧ E.Pairwise (fun x y => aheadOf L key x y = true)) ∧ (onceB L key (wrl ts L key) = false → E = [])

/-- The boxes and the row as the sort leaves them. -/
theorem holdsZ {w : World} {g : Nat} {cur : Array Value} {e : TypeId} {l : List Int} (hb : w.heap[g]? = some (.cells cur e (0, 0))) (ht : cur.toList.take l.length = l.flatMap viC) : Holds vi w g 0 l.toArray := by
  have hm : l.flatMap viC = l.map vi := by
    clear ht
    induction l with
    | nil => rfl
    | cons x l ih => simp [viC, ih]
  rw [hm] at ht
  intro j hj
  have hj' : j < l.length := by simpa using hj
  refine ⟨?_, by simp [World.frozen?, hb]⟩
  have h1 : cur[j]? = some (vi l[j]) := by
    have h2 : (cur.toList.take l.length)[j]? = (l.map vi)[j]? := by rw [ht]
    rw [List.getElem?_take_of_lt hj', List.getElem?_map, List.getElem?_eq_getElem hj', Array.getElem?_toList] at h2
    exact h2
  have h3 : (⟨g, 0 + j, none⟩ : Addr) = ⟨g, j, none⟩ := by rw [Nat.zero_add]
  rw [h3, cell_ofG hb, h1, getElem!_pos l.toArray j hj]
  simp
theorem sortedZ {w W : World} {base g cap : Nat} {e : TypeId} {cur : Array Value} {l : List Int} {dk : Array Int} (hs : SoW w g 0 l.toArray dk W) (hbase : base ≤ g) (hb : w.heap[g]? = some (.cells cur e (0, 0)))
    (h1 : l.length ≤ cap) (h2 : cap ≤ maxLen) (h3 : cur.size = cap * 1) : W.ownsRow base e 1 (.slice (some ⟨g, 0, none⟩) l.length cap) dk.toList.length (dk.toList.flatMap viC) := by
  have hsz : dk.size = l.length := by simpa using hs.sz
  obtain ⟨m, os, rfl⟩ := hs.sw
  have hg : g < w.heap.size := (Array.getElem?_eq_some_iff.1 hb).1
  have hm : ∀ l : List Int, l.flatMap viC = l.map vi := by
    intro l
    induction l with
    | nil => rfl
    | cons x l ih => simp [viC, ih]
  have hh : (sortWorld vi w g 0 m dk os).heap[g]? = some (.cells (putCells vi 0 dk cur) e (0, 0)) := by
    unfold sortWorld
    rw [heap_grow_old _ _ (by simpa using hg)]
    simp [putRow, mapBlock, Sort.ahead, Array.getElem?_modify, hb, onCells]
  have hl : dk.toList.length = l.length := by simpa using hsz
  refine ⟨by rw [hm]; simp, .inr ⟨g, cap, _, by rw [hl], hbase, hh, by rw [hl]; exact h1, h2, by simp [putCells, h3], ?_⟩⟩
  rw [hm]
  apply List.ext_getElem?
  intro j
  by_cases hj : j < l.length
  · rw [List.getElem?_take_of_lt (by rw [hl]; omega), Array.getElem?_toList, List.getElem?_map, List.getElem?_eq_getElem (show j < dk.toList.length by rw [hl]; exact hj)]
    have hjd : j < dk.size := by rw [hsz]; exact hj
    simp [putCells, hjd, show j < cur.size by omega]
  · rw [List.getElem?_take_eq_none (by rw [hl]; omega), List.getElem?_eq_none (by simp; omega)]

set_option maxHeartbeats 8000000 in
set_option maxRecDepth 100000 in
theorem chain_call (v : Value) (ts : List GTxn) (m : Nat) (L : FaL) (key : Int) (w : World) (hv : RdTxns w v ts) (hok : OkTxns ts) (htl : ts.length ≤ 4096) (hm : MapF w m L) (hkey : i64 key) :
    Calls Try.prog 11 #[v, .map (some m), vi key] w (ChainQ ts L key w) := by
  have HV0 := Lib.hid hv
  have HOK := Lib.hid hok
  obtain ⟨a, len, cap, rfl, rfl, hmm, -⟩ := hv.at
  have hsl := sureM_length ts
  have HBb := Lib.hid (((Below.refl w.heap.size w).alloc (Nat.le_refl _) (.cells #[.map (some m)] 29)).alloc (by simp) (.cells #[vi key] 3))
  have HPF := Lib.hid ((Below.heap_alloc (w.alloc (.cells #[.map (some m)] 29)) (.cells #[vi key] 3) w.heap.size (by simp)).trans (alloc_atG w (.cells #[.map (some m)] 29)))
  have HPK := Lib.hid (alloc_atG (w.alloc (.cells #[.map (some m)] 29)) (.cells #[vi key] 3))
  have HVb := Lib.hid (hv.later HBb.out)
  have HMb := Lib.hid (hm.below HBb.out hm.lt)
  have hml := hm.lt
  have hbs : ((w.alloc (.cells #[.map (some m)] 29)).alloc (.cells #[vi key] 3)).heap.size = w.heap.size + 2 := by simp
  have hps : (w.alloc (.cells #[.map (some m)] 29)).heap.size = w.heap.size + 1 := by simp
  rw [hps] at HPK
  clear hv hok hm hps
  go_enter Try.func11, Try.ntmps11
  go_upto_region 1 with fail
  generalize (w.alloc (.cells #[.map (some m)] 29)).alloc (.cells #[vi key] 3) = wb at *
  go_upto_region 2 with (go_at_call 27; refine (sure_call _ _ _ HVb.out HOK.out).mono ?_; rintro e w1 ⟨sb, rfl, hsb, hS, hb1⟩; have HB1 := Lib.hid hb1; have HS1 := Lib.hid (hS.own (by omega)); rw [hsl] at HS1; have HV1 := Lib.hid (HVb.out.later hb1); have HM1 := Lib.hid (HMb.out.below hb1 HMb.out.lt); have HPF1 := Lib.hid ((hb1.block w.heap.size (by omega)).trans HPF.out); have HPK1 := Lib.hid ((hb1.block (w.heap.size + 1) (by omega)).trans HPK.out); clear hb1 hS)
  have hw1 := HB1.out.size
  have HST := Lib.hid (show StL w1 [] (w1.alloc (.cells #[.slice none 0 0] 23)) from ⟨⟨_, alloc_atG _ _, World.ownsRow_nil _ _ _ _⟩, by simp, (Below.refl _ _).alloc (Nat.le_refl _) _⟩)
  go_upto_region 3 with fail
  generalize w1.alloc (.cells #[.slice none 0 0] 23) = w2 at *
  go_wp2_with fail
  go_loopw [10, 11, 12, 13, 24] (fun _ _ _ _ n wr => ∃ k : Nat, k ≤ ts.length ∧ n = .int .i64 k ∧ Hid (StL w1 (wrlK ts L key k) wr)) (fun _ _ _ _ n _ => ts.length - (intOf n).toNat)
  case atStart => exact ⟨0, Nat.zero_le _, rfl, Lib.hid HST.out⟩
  case round =>
    clear HST
    obtain ⟨wk, rfl⟩ : ∃ wk : World, wk = wr := ⟨_, rfl⟩
    obtain ⟨k, hk, rfl, HSt⟩ := hrel
    have HBk := Lib.hid HSt.out.below
    have hwk := HSt.out.size
    by_cases hlt : k < ts.length
    · obtain ⟨t, ht⟩ := some_at hlt
      obtain ⟨_, _, _, e5, -, -, hcl⟩ := (HV1.out.later HBk.out).at
      cases e5
      obtain ⟨b, off, oa, oc, rfl, hr, k0, k1, k2⟩ := hcl k t ht
      have hkI : (k : Int) < (ts.length : Int) := by omega
      have wk1 : IntKind.i64.wrap ((k : Int) + 1) = ((k + 1 : Nat) : Int) := by rw [IntWalk.i64_in _ (by omega)]; omega
      have HN := Lib.hid (wrlK_succ ts L key k)
      have HIN := Lib.hid (show inW ts L key k = ((isM ts L k).1 && writesK t key) by unfold inW; rw [wrOf_at ht])
      have HBo := Lib.hid ((Below.refl wk.heap.size wk).alloc (Nat.le_refl _) (.cells #[vi t.client, vi t.state, .slice oa t.ops.length oc] 54))
      have HXo := Lib.hid (alloc_atG wk (.cells #[vi t.client, vi t.state, .slice oa t.ops.length oc] 54))
      have HSo := Lib.hid (HSt.out.alloc (.cells #[vi t.client, vi t.state, .slice oa t.ops.length oc] 54))
      have hwo : (wk.alloc (.cells #[vi t.client, vi t.state, .slice oa t.ops.length oc] 54)).heap.size = wk.heap.size + 1 := by simp
      have HRo := Lib.hid (hr.later HBo.out)
      clear hcl hr ht
      go_upto_region 6 with fail
      generalize wk.alloc (.cells #[vi t.client, vi t.state, .slice oa t.ops.length oc] 54) = wo at *
      clear k0 k1 k2
      have HB1o := Lib.hid HSo.out.below
      have HVo := Lib.hid (HV1.out.later HB1o.out)
      have HMo := Lib.hid (HM1.out.below HB1o.out HM1.out.lt)
      have HS1o := Lib.hid (own_below HS1.out HB1o.out)
      have q0 : wo.cell? ⟨w.heap.size, 0, none⟩ = some (.map (some m)) := by rw [cell_ofG ((HB1o.out.block _ (by omega)).trans HPF1.out)]; rfl
      go_upto_region 7 with (go_at_call 28; refine (is_call _ ts _ m L k _ HVo.out HOK.out htl HS1o.out HMo.out hlt).mono ?_; rintro e w3 ⟨rfl, hb3⟩; have HB3 := Lib.hid hb3; clear hb3)
      have HS3 := Lib.hid (HSo.out.later HB3.out)
      have HB13 := Lib.hid HS3.out.below
      have HX3 := Lib.hid ((HB3.out.block _ (by omega)).trans HXo.out)
      have HR3 := Lib.hid (HRo.out.later HB3.out)
      have h3s := HB3.out.size
      have c0 : w3.cell? ⟨wk.heap.size, 0, none⟩ = some (vi t.client) := by rw [cell_ofG HX3.out]; rfl
      have c1 : w3.cell? ⟨wk.heap.size, 1, none⟩ = some (vi t.state) := by rw [cell_ofG HX3.out]; rfl
      have c2 : w3.cell? ⟨wk.heap.size, 2, none⟩ = some (.slice oa t.ops.length oc) := by rw [cell_ofG HX3.out]; rfl
      have q1 : w3.cell? ⟨w.heap.size + 1, 0, none⟩ = some (vi key) := by rw [cell_ofG ((HB13.out.block _ (by omega)).trans HPK1.out)]; rfl
      clear q0
      cases hd : (isM ts L k).1 with
      | false =>
        rw [hd] at HIN
        clear hd
        have HIF := Lib.hid (show wrlK ts L key (k + 1) = wrlK ts L key k by rw [HN.out, HIN.out]; simp)
        go_wp2_with fail
        go_roundw
        case rel => exact ⟨k + 1, by omega, rfl, Lib.hid (by rw [HIF.out]; exact HS3.out)⟩
        case measure => simp [intOf]; omega
      | true =>
        rw [hd] at HIN
        clear hd
        have HWC := Lib.hid (writesK_call t.client t.state _ t key w3 HR3.out)
        cases hw : writesK t key with
        | false =>
          rw [hw] at HIN HWC
          clear hw
          have HIF := Lib.hid (show wrlK ts L key (k + 1) = wrlK ts L key k by rw [HN.out, HIN.out]; simp)
          go_wp2_with (go_at_call 29; refine HWC.out.mono ?_; rintro e w4 ⟨rfl, hb4⟩; have HB4 := Lib.hid hb4; clear hb4)
          have HS4 := Lib.hid (HS3.out.later HB4.out)
          go_roundw
          case rel => exact ⟨k + 1, by omega, rfl, Lib.hid (by rw [HIF.out]; exact HS4.out)⟩
          case measure => simp [intOf]; omega
        | true =>
          rw [hw] at HIN HWC
          clear hw
          go_upto_region 8 with (go_at_call 29; refine HWC.out.mono ?_; rintro e w4 ⟨rfl, hb4⟩; have HB4 := Lib.hid hb4; clear hb4)
          have HS4 := Lib.hid (HS3.out.later HB4.out)
          have h4s := HB4.out.size
          have HB14 := Lib.hid HS4.out.below
          clear c0 c1 c2 q1
          have HIF := Lib.hid (show wrlK ts L key (k + 1) = wrlK ts L key k ++ [(k : Int)] by rw [HN.out, HIN.out]; simp)
          have hwl := wrlK_le ts L key k
          clear HSt HSo HS3 HN
          generalize wrlK ts L key k = acc at *
          obtain ⟨vo, ho, hrow⟩ := HS4.out.out
          have HO := Lib.hid ho
          have HRW := Lib.hid hrow
          obtain ⟨ao, co, rfl, -⟩ := own_shapeZ hrow
          have b0 : w4.cell? ⟨w1.heap.size, 0, none⟩ = some (.slice ao acc.length co) := by rw [cell_ofG ho]; rfl
          clear ho hrow
          go_wp2_with (at_builtin; refine wpList_append_src rfl _ _ 23 rfl eltI (w1.heap.size + 1) acc.length _ (HRW.out.alloc _) rfl 1 (viC k) (src_new (cs := #[vi k]) rfl rfl) rfl (viC_one k) (by omega) (by omega) (by simp; omega) ?_; intro v5 w5 ho5 hg5 _; have HO5 := Lib.hid ho5; have HG5 := Lib.hid hg5; obtain ⟨a5, c5, rfl, -⟩ := own_shapeZ ho5; have HP5 := Lib.hid (show w5.heap[w1.heap.size]? = some (.cells #[.slice ao acc.length co] 23) from (HG5.out.block _ (by simp; omega) (fun e => by have := (World.ownsRow.lt HRW.out _ e.symm).1; omega)).trans ((Below.heap_alloc _ _ _ (by omega)).trans HO.out)); have p5 : w5.cell? ⟨w1.heap.size, 0, none⟩ = some (.slice ao acc.length co) := (by rw [cell_ofG HP5.out]; rfl); have f5 := free_ofG HP5.out 0; clear ho5 hg5 b0)
          go_roundw
          case rel => exact ⟨k + 1, by omega, rfl, Lib.hid (by rw [HIF.out]; exact stL_put HS4.out HRW.out HO.out HG5.out HO5.out)⟩
          case measure => simp [intOf]; omega
    · obtain rfl : k = ts.length := by omega
      have hDl := wrlK_le ts L key ts.length
      have HSD := Lib.hid (show StL w1 (wrl ts L key) wk from HSt.out)
      have HDM := Lib.hid (fun x (hx : x ∈ wrl ts L key) => wrl_mem.1 hx)
      have HCQ := Lib.hid (show ∀ e w', ChainQ ts L key w e w' ↔ (∃ v E, e = .returned (.tuple #[v, .bool (onceB L key (wrl ts L key))]) ∧ OwI w.heap.size w' v E ∧ Below w.heap.size w w' ∧
        (onceB L key (wrl ts L key) = true → (wrl ts L key).Perm E ∧ E.Pairwise (fun x y => aheadOf L key x y = true)) ∧ (onceB L key (wrl ts L key) = false → E = [])) from fun _ _ => Iff.rfl)
      rw [show wrlK ts L key ts.length = wrl ts L key from rfl] at hDl
      clear HSt
      generalize wrl ts L key = D at *
      obtain ⟨vo, ho, hrow⟩ := HSD.out.out
      have HRW := Lib.hid hrow
      have HO := Lib.hid ho
      obtain ⟨ao, co, rfl, hao⟩ := own_shapeZ hrow
      have HBW := Lib.hid (HBb.out.trans (Below.mono (HB1.out.trans (HBk.out.mono hw1)) (by omega)))
      have HPFk := Lib.hid ((HBk.out.block _ (by omega)).trans HPF1.out)
      have HPKk := Lib.hid ((HBk.out.block _ (by omega)).trans HPK1.out)
      have HMk := Lib.hid (HM1.out.below HBk.out HM1.out.lt)
      have HVk := Lib.hid (HV1.out.later HBk.out)
      have hDI : ∀ x ∈ D, i64 x := fun x hx => by obtain ⟨i, h1, rfl, _⟩ := HDM.out x hx; unfold i64; omega
      have b0 : wk.cell? ⟨w1.heap.size, 0, none⟩ = some (.slice ao D.length co) := by rw [cell_ofG ho]; rfl
      have HDI := Lib.hid hDI
      clear ho hrow hDI
      have HXa := Lib.hid (alloc_atG wk (.cells #[.func (.func 30) #[] #[.pointer (some ⟨w1.heap.size, 0, none⟩), .pointer (some ⟨w.heap.size, 0, none⟩), .pointer (some ⟨w.heap.size + 1, 0, none⟩)]] 87))
      have HBa := Lib.hid ((Below.refl wk.heap.size wk).alloc (Nat.le_refl _) (.cells #[.func (.func 30) #[] #[.pointer (some ⟨w1.heap.size, 0, none⟩), .pointer (some ⟨w.heap.size, 0, none⟩), .pointer (some ⟨w.heap.size + 1, 0, none⟩)]] 87))
      have hwa : (wk.alloc (.cells #[.func (.func 30) #[] #[.pointer (some ⟨w1.heap.size, 0, none⟩), .pointer (some ⟨w.heap.size, 0, none⟩), .pointer (some ⟨w.heap.size + 1, 0, none⟩)]] 87)).heap.size = wk.heap.size + 1 := by simp
      have hsf := store_fn wk 87 (.func (.func 30) #[] #[.pointer (some ⟨w1.heap.size, 0, none⟩), .pointer (some ⟨w.heap.size, 0, none⟩), .pointer (some ⟨w.heap.size + 1, 0, none⟩)]) rfl
      go_upto_region 11 with fail
      clear hsf
      generalize wk.alloc (.cells #[.func (.func 30) #[] #[.pointer (some ⟨w1.heap.size, 0, none⟩), .pointer (some ⟨w.heap.size, 0, none⟩), .pointer (some ⟨w.heap.size + 1, 0, none⟩)]] 87) = wa at *
      have hmkm := @run_makeMap Try.prog
      have HM0 := Lib.hid (show MapC (wa.alloc (.map #[] 0)) (wk.heap.size + 1) [] from by rw [← hwa]; exact MapT.made wa)
      have HBm := Lib.hid ((Below.refl wa.heap.size wa).alloc (Nat.le_refl _) (.map #[] 0))
      go_upto_region 12 with fail
      generalize wa.alloc (.map #[] 0) = wm at *
      clear hmkm b0
      have b0 := cell_later HBm.out (cell_later HBa.out (show wk.cell? ⟨w1.heap.size, 0, none⟩ = some (.slice ao D.length co) by rw [cell_ofG HO.out]; rfl))
      go_wp2_with fail
      have HAW := Lib.hid (show ∀ g, ao = some ⟨g, 0, none⟩ → AheadW wa w1.heap.size w.heap.size (w.heap.size + 1) g 0 co m D L key from fun g hg => by
        subst hg
        refine AheadW.later (w := wk) ⟨by rw [cell_ofG HO.out]; rfl, by rw [cell_ofG HPFk.out]; rfl, by rw [cell_ofG HPKk.out]; rfl, fun j x hj => ⟨?_, HDI.out x (List.mem_of_getElem? hj)⟩, HMk.out, hkey, by omega⟩ HBa.out
        have := World.ownsRow.cells HRW.out (g := g) rfl j (vi x) (by rw [viZ_map, List.getElem?_map, hj]; rfl)
        rw [addr_add] at this
        exact this)
      go_loopw [17, 18, 52] (fun _ _ n wr => ∃ (k : Nat) (C : List (Int × Int)), k ≤ D.length ∧ n = .int .i64 k ∧ Hid (MapC wr (wk.heap.size + 1) C ∧ CntM C ((D.take k).map (aheadN L key D)) ∧ Below wa.heap.size wa wr)) (fun _ _ n _ => D.length - (intOf n).toNat)
      case atStart => exact ⟨0, [], Nat.zero_le _, rfl, Lib.hid ⟨HM0.out, CntM.nil, HBm.out⟩⟩
      case round =>
        clear b0
        obtain ⟨wl, rfl⟩ : ∃ wl : World, wl = wr := ⟨_, rfl⟩
        obtain ⟨k, C, hk, rfl, HJ⟩ := hrel
        have HMC := Lib.hid HJ.out.1
        have HC := Lib.hid HJ.out.2.1
        have HBl := Lib.hid HJ.out.2.2
        clear HJ
        by_cases hlt : k < D.length
        · obtain ⟨g, rfl, hg⟩ := hao (by omega)
          have HA := Lib.hid ((HAW.out g rfl).later HBl.out)
          obtain ⟨x, hx⟩ := some_at hlt
          have hxc := (HA.out.row k x hx).1
          rw [Nat.zero_add] at hxc
          have hxi := (HA.out.row k x hx).2
          have HX := Lib.hid hx
          have HT := Lib.hid (take_map_succ (f := aheadN L key D) hx)
          have hkI : (k : Int) < (D.length : Int) := by omega
          have wk1 : IntKind.i64.wrap ((k : Int) + 1) = ((k + 1 : Nat) : Int) := by rw [IntWalk.i64_in _ (by omega)]; omega
          have p0 : wl.cell? ⟨wk.heap.size, 0, none⟩ = some (.func (.func 30) #[] #[.pointer (some ⟨w1.heap.size, 0, none⟩), .pointer (some ⟨w.heap.size, 0, none⟩), .pointer (some ⟨w.heap.size + 1, 0, none⟩)]) := by rw [cell_ofG ((HBl.out.block _ (by omega)).trans HXa.out)]; rfl
          have HCA := Lib.hid (ahead_call w1.heap.size w.heap.size (w.heap.size + 1) g 0 co m D L key x wl HA.out hxi)
          have hnl := aheadN_le L key D x
          clear hx hxi
          go_upto_region 16 with (go_at_call 30; refine HCA.out.mono ?_; rintro e w8 ⟨rfl, hw8⟩; subst hw8)
          generalize hnx : aheadN L key D x = nx at *
          have hcl : ((D.take k).map (aheadN L key D)).count nx ≤ 4096 := Nat.le_trans List.count_le_length (by simp; omega)
          have hlk := lookup_cnt HMC.out HC.out nx (by omega)
          have HCN := Lib.hid (HC.out.add nx)
          generalize hM : (D.take k).map (aheadN L key D) = M at *
          have wcn : IntKind.i64.wrap ((M.count nx : Int) + 1) = (M.count nx : Int) + 1 := by rw [IntWalk.i64_in _ (by omega)]
          have HTT := Lib.hid (HT.out)
          clear hnx hM HT
          go_wp2_with (at_mapUpdate; refine wpList_mapUpdate_T (b := wk.heap.size + 1) (eK := vi) (eV := vi) rfl _ _ _ rfl intKeyed vi_inj Try.underlying88 HMC.out rfl (nx : Int) (intKey (by unfold i64; omega)) rfl ((M.count nx : Int) + 1) rfl ?_; intro w9 hM9 hg9)
          go_roundw
          case rel => exact ⟨k + 1, _, by omega, rfl, Lib.hid ⟨hM9, by rw [HTT.out]; exact HCN.out, HBl.out.grown hg9 HBl.out.size (fun j hj => by cases hj; omega)⟩⟩
          case measure => simp [intOf]; omega
        · obtain rfl : k = D.length := by omega
          rw [List.take_length] at HC
          have HBz := Lib.hid (Below.trans HBa.out (HBl.out.mono HBa.out.size))
          have b0 := cell_later HBz.out (show wk.cell? ⟨w1.heap.size, 0, none⟩ = some (.slice ao D.length co) by rw [cell_ofG HO.out]; rfl)
          have p0 : wl.cell? ⟨wk.heap.size, 0, none⟩ = some (.func (.func 30) #[] #[.pointer (some ⟨w1.heap.size, 0, none⟩), .pointer (some ⟨w.heap.size, 0, none⟩), .pointer (some ⟨w.heap.size + 1, 0, none⟩)]) := by rw [cell_ofG ((HBl.out.block _ (by omega)).trans HXa.out)]; rfl
          go_wp2_with fail
          go_loopw [19, 66] (fun _ n wr => ∃ k : Nat, k ≤ D.length ∧ n = .int .i64 k ∧ Hid (OnceTo (D.map (aheadN L key D)) k) ∧ wr = wl) (fun _ n _ => D.length - (intOf n).toNat)
          case atStart => exact ⟨0, Nat.zero_le _, rfl, Lib.hid (fun n h => absurd h (Nat.not_lt_zero _)), rfl⟩
          case round =>
            obtain ⟨k, hk, rfl, HOT, hwr⟩ := hrel
            replace hwr := hwr.symm
            subst hwr
            by_cases hlt : k < D.length
            · have hkI : (k : Int) < (D.length : Int) := by omega
              have wk1 : IntKind.i64.wrap ((k : Int) + 1) = ((k + 1 : Nat) : Int) := by rw [IntWalk.i64_in _ (by omega)]; omega
              have hlk := lookup_cnt HMC.out HC.out k (by omega)
              obtain ⟨cn, hcn⟩ : ∃ c, (D.map (aheadN L key D)).count k = c := ⟨_, rfl⟩
              rw [hcn] at hlk
              by_cases h1 : cn = 1
              · have HNX := Lib.hid (show OnceTo (D.map (aheadN L key D)) (k + 1) from fun n hn => by
                  rcases Nat.lt_or_ge n k with h | h
                  · exact HOT.out n h
                  · obtain rfl : n = k := by omega
                    rw [hcn]; exact h1)
                subst h1
                clear hcn
                go_wp2_with fail
                go_roundw
                case rel => exact ⟨k + 1, by omega, rfl, Lib.hid HNX.out, by trivial⟩
                case measure => simp [intOf]; omega
              · have HNO := Lib.hid (onceB_false hlt (by rw [hcn]; exact h1))
                have e1 : ((cn : Int) == 1) = false := beq_eq_false_iff_ne.2 (by omega)
                have e2 : ((cn : Int) != 1) = true := by rw [bne, e1]; rfl
                clear h1 hcn
                go_wp2_with fail
                go_ret2
                refine (HCQ.out _ _).2 ⟨.slice none 0 0, [], by rw [HNO.out]; rfl, World.ownsRow_nil _ _ _ _, HBW.out.trans (HBz.out.mono HBW.out.size), fun h => ?_, fun _ => rfl⟩
                rw [HNO.out] at h; cases h
            · obtain rfl : k = D.length := by omega
              have HYES := Lib.hid (onceB_true HOT.out)
              have HBe := Lib.hid (HBW.out.trans (HBz.out.mono HBW.out.size))
              have HRWl := Lib.hid (own_below HRW.out HBz.out)
              by_cases hne : D.length = 0
              · obtain rfl := List.length_eq_zero_iff.1 hne
                go_wp2_with (go_at_call 31; refine (soSort_none ao co _ wl).mono ?_; rintro e w9 ⟨rfl, hw9⟩; replace hw9 := hw9.symm; subst hw9)
                go_ret2
                refine (HCQ.out _ _).2 ⟨_, [], by rw [HYES.out]; rfl, own_mono HRWl.out (by omega), HBe.out, fun _ => ⟨List.Perm.nil, List.Pairwise.nil⟩, fun _ => rfl⟩
              · obtain ⟨g, rfl, hg⟩ := hao hne
                obtain ⟨cur, hb, hc1, hc2, hc3, hc4⟩ : ∃ cur, wl.heap[g]? = some (.cells cur 3 (0, 0)) ∧ D.length ≤ co ∧ co ≤ maxLen ∧ cur.size = co * 1 ∧ cur.toList.take D.length = D.flatMap viC := by
                  rcases HRWl.out.2 with ⟨h, _⟩ | ⟨g', cap', cur, hv, _, h1, h2, h3, h4, h5⟩
                  · cases h
                  · cases hv
                    exact ⟨cur, h1, h2, h3, h4, by simpa using h5⟩
                have hgl : g < wk.heap.size := (World.ownsRow.lt HRW.out g rfl).2
                have R : Row1 vi wl g 0 D.toArray := ⟨oneCellZ, holdsZ hb hc4, (Array.getElem?_eq_some_iff.1 hb).1⟩
                have hml1 := HMb.out.lt
                have hC := cmpP_ok ((HAW.out g rfl).later HBl.out) (by omega) (by omega) (by omega) (by omega) (by omega) R p0
                have HS := Lib.hid (soSort_call (cmpA L key D) 32 #[.pointer (some ⟨wk.heap.size, 0, none⟩)] (swoA L key D) g 0 co D.toArray wl (enters_of Try.func32 (by kernel_rfl) rfl) hC R (by simp; omega))
                rw [show D.toArray.size = D.length by simp] at HS
                have HB0 := Lib.hid b0
                have HBLK := Lib.hid hb
                have HWO := Lib.hid (And.intro hc1 (And.intro hc2 hc3))
                clear hC R hb hc1 hc2 hc3 hc4
                have HB9 := Lib.hid (show ∀ (d' : Array Int) (W : World), SoW wl g 0 D.toArray d' W → W.cell? ⟨w1.heap.size, 0, none⟩ = some (.slice (some ⟨g, 0, none⟩) D.length co) from fun d' W hs => by
                  rw [cell_same ((SW.grownBy hs.sw).block _ (World.block_lt_of_cell? wl _ HB0.out) (fun e => by have h1 : w1.heap.size = g := Option.some.inj e; omega))]
                  exact HB0.out)
                go_wp2_with (go_at_call 31; refine HS.out.mono ?_; rintro e w9 ⟨rfl, d', hs9, hsort⟩; have HS9 := Lib.hid hs9; have HST9 := Lib.hid hsort; have b9 := HB9.out _ _ hs9; clear hs9 hsort b0)
                go_ret2
                have hperm : D.Perm d'.toList := by simpa using HS9.out.perm.symm
                have hsz : d'.size = D.length := by simpa using HS9.out.sz
                refine (HCQ.out _ _).2 ⟨_, d'.toList, by rw [HYES.out]; rfl, own_mono (sortedZ HS9.out hg HBLK.out HWO.out.1 HWO.out.2.1 HWO.out.2.2) (by omega), HBe.out.grown (SW.grownBy HS9.out.sw) HBe.out.size (fun j hj => by have := Option.some.inj hj; omega), fun _ => ⟨hperm, chain_sorted HYES.out hperm ?_⟩, fun h => ?_⟩
                · intro j k hj hk hjk
                  have hj' : j < d'.size := by simpa using hj
                  have hk' : k < d'.size := by simpa using hk
                  have := of_decide_eq_false (HST9.out j k (Nat.zero_le _) hjk (by rw [← hsz]; exact hk'))
                  rw [getElem!_pos d' j hj', getElem!_pos d' k hk'] at this
                  unfold cmpA at this
                  simp only [Array.getElem_toList]
                  omega
                · rw [HYES.out] at h; cases h
end Go.Proofs.Ytjpmimanigjjoaa

/- The law ChainsOrders: its walk. -/
namespace Go.Proofs.Ytjpmimanigjjoaa.chainsOrders
open Go.RowKit Go.Maps

theorem no_true {b : Bool} {P : Prop} (h : b = true ↔ P) (hn : P → False) : b = false := by
  cases b with
  | false => rfl
  | true => exact (hn (h.1 rfl)).elim

set_option maxRecDepth 100000 in
set_option maxHeartbeats 8000000 in
theorem walk (v u : Value) (es : List GEvent) (picks : List Int) (key : Int) (w : World) (hv : RdEvents w v es) (hu : RdInts w u picks) (hk : i64 key) :
    Calls Try.prog 3 #[v, u, vi key] w fun e w' => e = .returned (.bool true) ∧ Below w.heap.size w w' := by
  have HV := Lib.hid hv
  have HU := Lib.hid hu
  have HK := Lib.hid hk
  clear hv hu hk
  go_enter Try.func3, Try.ntmps3
  go_upto_region 4 with (first
    | (go_at_call 8; refine (head_call _).mono ?_; rintro e w1 ⟨rfl, hb1⟩; have HB1 := Lib.hid hb1; have HV1 := Lib.hid (HV.out.later hb1); clear hb1)
    | (go_at_call 9; refine (made_call _ es _ HV1.out).mono ?_; rintro e w2 ⟨v2, b, rfl, hg, hb2⟩))
  have HB2 := Lib.hid (HB1.out.trans (hb2.mono HB1.out.size))
  clear hb2
  cases b with
  | false =>
    go_wp2_with fail
    go_ret
    exact ⟨by rfl, HB2.out⟩
  | true =>
    obtain ⟨ts, hr, hgood⟩ := hg rfl
    have HR := Lib.hid hr
    have HG := Lib.hid hgood
    have HOK := Lib.hid hgood.ok
    have htl : ts.length ≤ 60 := hgood.len
    obtain ⟨ta, tl, tc, rfl, rfl, htm, -⟩ := hr.at
    clear hg hr hgood
    go_upto_region 7 with (go_at_call 10; refine (some_call _ _ ts picks _ HR.out HOK.out (by omega) HG.out.uniq (HU.out.later HB2.out)).mono ?_; rintro e w3 ⟨L, m, sv, rfl, hm0, hM, hS, hkeys, hll, hb3⟩)
    have HM := Lib.hid hM
    have HS := Lib.hid hS
    have HB3 := Lib.hid (HB2.out.trans (hb3.mono HB2.out.size))
    have HR3 := Lib.hid (HR.out.later hb3)
    clear hM hS hkeys hb3 hll
    have HCC := Lib.hid (chain_call _ ts m L key w3 HR3.out HOK.out (by omega) HM.out HK.out)
    obtain ⟨ob, hob⟩ : ∃ b, onceB L key (wrl ts L key) = b := ⟨_, rfl⟩
    have HOB := Lib.hid hob
    have hDl : (wrl ts L key).length ≤ ts.length := wrlK_le _ _ _ _
    have HWL := Lib.hid (fun x => @wrl_mem ts L key x)
    unfold ChainQ at HCC
    rw [hob] at HCC
    clear hob
    cases ob with
    | true =>
      go_upto_region 9 with (go_at_call 11; refine HCC.out.mono ?_; rintro e w6 ⟨v6, E, rfl, ho6, hb6, hE, -⟩; have HB6 := Lib.hid hb6; have HO6 := Lib.hid ho6; have HE := Lib.hid (hE rfl); clear hb6 ho6 hE)
      have HRP := Lib.hid (right_of HE.out.1 HE.out.2)
      have hEl := HE.out.1.length_eq
      have HRI := Lib.hid (OwI.rdY HO6.out (fun x hx => by
        obtain ⟨i, h1, rfl, _⟩ := (HWL.out x).1 (HE.out.1.mem_iff.2 hx)
        unfold i64; omega))
      have HRC := Lib.hid (right09_call _ sv v6 ts L key E w6 (HR3.out.later HB6.out) HG.out (HS.out.later HB6.out) HRI.out (by omega))
      go_wp2_with (go_at_call 12; refine HRC.out.mono ?_; rintro e w7 ⟨b, rfl, hbi, hb7⟩; obtain rfl := hbi.2 HRP.out)
      go_ret
      exact ⟨by rfl, HB3.out.trans ((HB6.out.trans (hb7.mono HB6.out.size)).mono HB3.out.size)⟩
    | false =>
      go_upto_region 12 with (go_at_call 11; refine HCC.out.mono ?_; rintro e w6 ⟨v6, E, rfl, ho6, hb6, -, hE⟩; obtain rfl := hE rfl; obtain ⟨ea, ec, rfl, -⟩ := own_shapeY ho6; have HB6 := Lib.hid hb6; clear hb6 ho6 hE)
      have HR6 := Lib.hid (HR3.out.later HB6.out)
      have HS6 := Lib.hid (HS.out.later HB6.out)
      have HWC := Lib.hid (refWriters_call _ sv ts L key w6 HR6.out HG.out HS6.out)
      have HNO := Lib.hid (show ∀ l : List Int, RightP ts L key l → False from fun l h => by have := right_once h; rw [HOB.out] at this; cases this)
      go_upto_region 13 with (go_at_call 13; refine HWC.out.mono ?_; rintro e w7 ⟨v7, rfl, ho7, hb7⟩; obtain ⟨a7, c7, rfl, -⟩ := own_shapeY ho7; have HB7 := Lib.hid hb7; have HO7 := Lib.hid ho7; clear hb7 ho7)
      generalize wrl ts L key = D at *
      have HBz := Lib.hid (HB3.out.trans ((HB6.out.trans (HB7.out.mono HB6.out.size)).mono HB3.out.size))
      by_cases h6 : 6 < D.length
      · have h6I : (6 : Int) < (D.length : Int) := by omega
        have h6d : decide ((6 : Int) < (D.length : Int)) = true := decide_eq_true h6I
        go_wp2_with fail
        go_ret
        exact ⟨by rfl, HBz.out⟩
      · have h6I : ¬ (6 : Int) < (D.length : Int) := by omega
        have h6d : decide ((6 : Int) < (D.length : Int)) = false := decide_eq_false h6I
        have HRI := Lib.hid (OwI.rdY HO7.out (fun x hx => by
          obtain ⟨i, h1, rfl, _⟩ := (HWL.out x).1 hx
          unfold i64; omega))
        have HOC := Lib.hid (orders_call D.length D _ w7 (by omega) rfl HRI.out)
        go_wp2_with (go_at_call 14; refine HOC.out.mono ?_; rintro e w8 ⟨v8, us, rfl, ho8, hl8, he8, hb8⟩; obtain ⟨a8, c8, rfl, h8g⟩ := own_shapeY ho8; have HB8 := Lib.hid hb8; have HO8 := Lib.hid ho8; have HE8 := Lib.hid he8; clear hb8 ho8 he8)
        have hpow : us.length ≤ 1000000 := Nat.le_trans hl8 (Nat.le_trans (Nat.pow_le_pow_right (by omega) (show D.length ≤ 6 by omega)) (by decide))
        have HR8 := Lib.hid (HR6.out.later (HB7.out.trans (HB8.out.mono HB7.out.size)))
        have HS8 := Lib.hid (HS6.out.later (HB7.out.trans (HB8.out.mono HB7.out.size)))
        go_loopw [14, 56] (fun _ jv wr => ∃ j : Nat, j ≤ us.length ∧ jv = .int .i64 j ∧ Below w8.heap.size w8 wr) (fun _ jv _ => us.length - (intOf jv).toNat)
        case atStart => exact ⟨0, Nat.zero_le _, rfl, Below.refl _ _⟩
        case round =>
          obtain ⟨wy, rfl⟩ : ∃ wk : World, wk = wr := ⟨_, rfl⟩
          obtain ⟨j, hj, rfl, hb⟩ := hrel
          have HBy := Lib.hid hb
          clear hb
          by_cases hjl : j < us.length
          · obtain ⟨g, rfl, hg⟩ := h8g (by omega)
            obtain ⟨q, hq⟩ := some_at hjl
            have hqc := cell_later HBy.out (World.ownsRow.cells HO8.out (g := g) rfl j q (by simpa using hq))
            rw [addr_add, Nat.zero_add] at hqc
            obtain ⟨xs, hx1, hx2, hx3⟩ := HE8.out q (List.mem_of_getElem? hq)
            obtain ⟨ax, cx, rfl, -⟩ := own_shapeY hx1
            have HXR := Lib.hid (OwI.rdY (own_below hx1 HBy.out) hx2)
            have hjI : (j : Int) < (us.length : Int) := by omega
            have wj1 : IntKind.i64.wrap ((j : Int) + 1) = ((j + 1 : Nat) : Int) := by rw [IntWalk.i64_in _ (by omega)]; omega
            have HRC := Lib.hid (right09_call _ sv _ ts L key xs wy (HR8.out.later HBy.out) HG.out (HS8.out.later HBy.out) HXR.out (by omega))
            clear hq hx1 hx2
            go_wp2_with (go_at_call 12; refine HRC.out.mono ?_; rintro e w9 ⟨b, rfl, hbi, hb9⟩; obtain rfl := no_true hbi (HNO.out xs))
            exact ⟨⟨j + 1, by omega, rfl, HBy.out.trans (hb9.mono HBy.out.size)⟩, by simp only [intOf]; omega⟩
          · obtain rfl : j = us.length := by omega
            go_wp2_with fail
            go_ret
            exact ⟨by rfl, HBz.out.trans ((HB8.out.trans (HBy.out.mono HB8.out.size)).mono HBz.out.size)⟩
end Go.Proofs.Ytjpmimanigjjoaa.chainsOrders
