/- slices.Sort of a row of ints that the call owns; slices.Sorted over the keys of those who wait. -/
import Derived.Test.YtbadpfcjoobniaaMvApp
import Derived.Test.YtbadpfcjoobniaaMvLay
import Derived.Shelf.SortG.Plain
import Derived.Shelf.SortG.SortNone
import Derived.Sort.OwnSorted
namespace Go.Proofs.Ytbadpfcjoobniaa
open Go.RowKit Go.Maps Go.Sort Go.Shelf Go.Proofs

abbrev encI : Int → Value := Value.int .i64
theorem viC_map (l : List Int) : l.flatMap viC = l.map encI := by
  induction l with
  | nil => rfl
  | cons x l ih => simp [viC, ih]
theorem holdsI {w : World} {g : Nat} {cur : Array Value} {e : TypeId} {l : List Int} (hb : w.heap[g]? = some (.cells cur e (0, 0))) (ht : cur.toList.take l.length = l.map encI) : Holds encI w g 0 l.toArray := by
  intro j hj
  have hj' : j < l.length := by simpa using hj
  refine ⟨?_, by simp [World.frozen?, hb]⟩
  have h1 : cur[j]? = some (encI l[j]) := by
    have h2 : (cur.toList.take l.length)[j]? = (l.map encI)[j]? := by rw [ht]
    rw [List.getElem?_take_of_lt hj', List.getElem?_map, List.getElem?_eq_getElem hj', Array.getElem?_toList] at h2
    exact h2
  have h3 : (⟨g, 0 + j, none⟩ : Addr) = ⟨g, j, none⟩ := by rw [Nat.zero_add]
  rw [h3, cell_of hb, h1, getElem!_pos l.toArray j hj]
  simp
theorem grownI {w : World} {g n : Nat} {os : Array Obj} (d : Array Int) : w.grownBy (grow (putRow encI (Sort.ahead w n) g 0 d) os) (some g) := by
  refine ⟨rfl, rfl, rfl, by simp, fun k hk hne => ?_⟩
  have hgk : g ≠ k := fun e => hne (by rw [e])
  rw [heap_grow_old _ _ (by simpa using hk)]
  simp [putRow, mapBlock, Sort.ahead, Array.getElem?_modify, hgk]
theorem sortedI {w : World} {base g cap n : Nat} {e : TypeId} {os : Array Obj} {cur : Array Value} {l l' : List Int} (hl : l'.length = l.length) (hbase : base ≤ g) (hb : w.heap[g]? = some (.cells cur e (0, 0)))
    (h1 : l.length ≤ cap) (h2 : cap ≤ maxLen) (h3 : cur.size = cap * 1) :
    (grow (putRow encI (Sort.ahead w n) g 0 l'.toArray) os).ownsRow base e 1 (.slice (some ⟨g, 0, none⟩) l.length cap) l.length (l'.map encI) := by
  have hg : g < w.heap.size := (Array.getElem?_eq_some_iff.1 hb).1
  have hh : (grow (putRow encI (Sort.ahead w n) g 0 l'.toArray) os).heap[g]? = some (.cells (putCells encI 0 l'.toArray cur) e (0, 0)) := by
    rw [heap_grow_old _ _ (by simpa using hg)]
    simp [putRow, mapBlock, Sort.ahead, Array.getElem?_modify, hb, onCells]
  refine ⟨by simp [hl], .inr ⟨g, cap, _, rfl, hbase, hh, h1, h2, by simp [putCells, h3], ?_⟩⟩
  apply List.ext_getElem?
  intro j
  by_cases hj : j < l.length
  · rw [List.getElem?_take_of_lt (by omega), Array.getElem?_toList, List.getElem?_map, List.getElem?_eq_getElem (show j < l'.length by omega)]
    simp [putCells, show j < l'.length by omega, show j < cur.size by omega]
  · rw [List.getElem?_take_eq_none (by omega), List.getElem?_eq_none (by simp; omega)]

abbrev srt (l : List Int) : List Int := l.mergeSort fun x y => decide (x ≤ y)

set_option maxRecDepth 100000 in
set_option maxHeartbeats 2000000 in
theorem sort_call {base : Nat} (v : Value) (l : List Int) (w : World) (h : OwI base w v l) (hlen : l.length ≤ 1048576) :
    Calls Try.prog 68 #[v] w fun e w' => e = .returned (.tuple #[]) ∧ OwI base w' v (srt l) ∧ w.grownBy w' v.ownBlock := by
  rcases h.2 with ⟨hv, h0⟩ | ⟨g, cap, cur, rfl, hg, hb, h1, h2, h3, h4⟩
  · have hl : l = [] := List.length_eq_zero_iff.1 h0
    subst hl
    subst hv
    have hc := AnyG.slices_Sort_int_none sortI none 0 w
    change Calls Try.prog 68 _ _ _ at hc
    refine hc.mono ?_
    rintro e w' ⟨rfl, rfl⟩
    exact ⟨rfl, by simpa [OwI] using h, ⟨rfl, rfl, rfl, Nat.le_refl _, fun _ _ _ => rfl⟩⟩
  · have h4' : cur.toList.take l.length = l.map encI := by rw [← viC_map]; simpa using h4
    have hc := AnyG.slices_Sort_int sortI g 0 cap l w (holdsI hb h4') (Array.getElem?_eq_some_iff.1 hb).1 (by omega)
    change Calls Try.prog 68 _ _ _ at hc
    refine hc.mono ?_
    rintro e w' ⟨rfl, n, os, rfl⟩
    refine ⟨rfl, ?_, grownI _⟩
    have := sortedI (n := n) (os := os) (l := l) (l' := srt l) (by simp) hg hb h1 h2 h3
    unfold OwI
    rw [viC_map]
    simpa using this

theorem srt_perm (l : List Int) : (srt l).Perm l := List.mergeSort_perm _ _
theorem srt_sorted (l : List Int) : (srt l).Pairwise (fun x y => x ≤ y) := by
  have := List.pairwise_mergeSort (le := fun x y : Int => decide (x ≤ y)) (fun a b c h1 h2 => by simp at *; omega) (fun a b => by simp; omega) l
  exact this.imp (fun h => by simpa using h)

/-- The keys of those who wait, in order. -/
def SortedQ (L : RdyL) (w : World) (e : Ending) (w' : World) : Prop := ∃ v ks, e = .returned v ∧ OwI w.heap.size w' v ks ∧ ks.Perm (L.map (·.1)) ∧ ks.Pairwise (fun x y => x ≤ y) ∧ Below w.heap.size w w'

set_option maxRecDepth 100000 in
set_option maxHeartbeats 2000000 in
theorem sorted_call {Bs mr : Nat} {L : RdyL} (w : World) (hb : w.cell? ⟨Bs, 0, none⟩ = some (.map (some mr))) (hm : MapR w mr L) (hL : L.length ≤ 1048576) :
    Calls Try.prog 44 #[.func (.func 69) #[] #[.pointer (some ⟨Bs, 0, none⟩)]] w (SortedQ L w) := by
  have HC := Lib.hid (collect_call w hb hm hL)
  clear hb hm
  go_enter Try.func44, Try.ntmps44
  go_wp2_with (first
    | (go_at_call 67; refine HC.out.mono ?_; rintro e w1 ⟨v, ks, rfl, h1, h2, h3⟩)
    | (go_at_call 68; refine (sort_call v ks _ h1 (by rw [h2.length_eq]; simpa using hL)).mono ?_; rintro e w2 ⟨rfl, h4, h5⟩))
  go_ret
  exact ⟨v, srt ks, rfl, h4, (srt_perm ks).trans h2, srt_sorted ks, h3.grown h5 h3.size (fun j hj => (World.ownsRow.lt h1 j hj).1)⟩

/-- maps.Keys of those who wait, sorted: as the program writes it. -/
theorem keys_call {mr : Nat} (w : World) : Calls Try.prog 45 #[.map (some mr)] w fun e w' => e = .returned (.func (.func 69) #[] #[.pointer (some ⟨w.heap.size, 0, none⟩)]) ∧ w' = w.alloc (.cells #[.map (some mr)] 92) := by
  go_enter Try.func45, Try.ntmps45
  go_wp2_with fail
  go_ret
  exact ⟨rfl, rfl⟩
end Go.Proofs.Ytbadpfcjoobniaa
