/- Texts of one proof, one behind the other: MvLay, GdMvSort, GrSort, GdApAt, GdFrames, GrNx6, DpLift, Get, Is. -/
import Derived.Shelf.SlGeneric
import Derived.Shelf.SlLaysNS
import Derived.Shelf.SlLaysN
import Derived.Test.YtefpmcbpodlabaaProg
import Derived.Test.YtefpmcbpodlabaaJc5
import Derived.Shelf.SortG.Plain
import Derived.Shelf.SortG.SortNone
import Derived.Sort.OwnSorted
import Derived.Shelf.SlicesG.CompactI
import Derived.Test.YtefpmcbpodlabaaJc1
import Derived.Maps.AppendAt
import Derived.Deep.CutBlock
import Derived.Deep.LoopGhost
set_option linter.all false
/- Contracts of Go's library, laid at this program. -/
namespace Go.Proofs.Ytefpmcbpodlabaa
open Go.Proofs Go.Shelf
def sortI_ren : Go.Shelf.Ren := ⟨fun | 53 => 87 | 64 => 80 | 63 => 109 | 78 => 105 | 79 => 106 | 70 => 125 | 71 => 126 | 72 => 127 | 73 => 128 | 74 => 129 | 75 => 130 | 59 => 131 | 76 => 132 | 77 => 133 | 88 => 140 | 89 => 120 | 90 => 121 | 91 => 141 | 92 => 142 | 68 => 107 | 96 => 144 | n => n, fun | 22 => 32 | 23 => 3 | 3 => 3 | 51 => 76 | 0 => 0 | 67 => 160 | 69 => 162 | 4 => 4 | 61 => 154 | 60 => 153 | 44 => 91 | 5 => 5 | 9 => 9 | 75 => 171 | 79 => 175 | 83 => 187 | 84 => 188 | n => n, fun | n => n⟩
theorem sortI : Go.Proofs.SlLaysN.n53 Try.prog sortI_ren := {
  mixed := by kernel_rfl,
  f53 := ⟨Try.f87.name, by decide, Try.func87.trans (congrArg some (by kernel_rfl))⟩,
  f59 := ⟨Try.f131.name, by decide, Try.func131.trans (congrArg some (by kernel_rfl))⟩,
  f63 := ⟨Try.f109.name, by decide, Try.func109.trans (congrArg some (by kernel_rfl))⟩,
  f64 := Try.func80.trans (congrArg some (by kernel_rfl)),
  f68 := ⟨Try.f107.name, by decide, Try.func107.trans (congrArg some (by kernel_rfl))⟩,
  f70 := ⟨Try.f125.name, by decide, Try.func125.trans (congrArg some (by kernel_rfl))⟩,
  f71 := ⟨Try.f126.name, by decide, Try.func126.trans (congrArg some (by kernel_rfl))⟩,
  f72 := ⟨Try.f127.name, by decide, Try.func127.trans (congrArg some (by kernel_rfl))⟩,
  f73 := ⟨Try.f128.name, by decide, Try.func128.trans (congrArg some (by kernel_rfl))⟩,
  f74 := ⟨Try.f129.name, by decide, Try.func129.trans (congrArg some (by kernel_rfl))⟩,
  f75 := ⟨Try.f130.name, by decide, Try.func130.trans (congrArg some (by kernel_rfl))⟩,
  f76 := ⟨Try.f132.name, by decide, Try.func132.trans (congrArg some (by kernel_rfl))⟩,
  f77 := ⟨Try.f133.name, by decide, Try.func133.trans (congrArg some (by kernel_rfl))⟩,
  f78 := Try.func105.trans (congrArg some (by kernel_rfl)),
  f79 := Try.func106.trans (congrArg some (by kernel_rfl)),
  f88 := ⟨Try.f140.name, by decide, Try.func140.trans (congrArg some (by kernel_rfl))⟩,
  f89 := Try.func120.trans (congrArg some (by kernel_rfl)),
  f90 := Try.func121.trans (congrArg some (by kernel_rfl)),
  f91 := ⟨Try.f141.name, by decide, Try.func141.trans (congrArg some (by kernel_rfl))⟩,
  f92 := ⟨Try.f142.name, by decide, Try.func142.trans (congrArg some (by kernel_rfl))⟩,
  f96 := ⟨Try.f144.name, by decide, Try.func144.trans (congrArg some (by kernel_rfl))⟩,
  t0 := Try.underlying0,
  a0 := Try.isAgg0,
  z0 := Try.sizeOf0,
  v0 := Try.zeroValue0,
  t3 := Try.underlying3,
  a3 := Try.isAgg3,
  z3 := Try.sizeOf3,
  v3 := Try.zeroValue3,
  t4 := Try.underlying4,
  a4 := Try.isAgg4,
  z4 := Try.sizeOf4,
  v4 := Try.zeroValue4,
  t5 := Try.underlying5,
  a5 := Try.isAgg5,
  z5 := Try.sizeOf5,
  v5 := Try.zeroValue5,
  t9 := Try.underlying9,
  a9 := Try.isAgg9,
  z9 := Try.sizeOf9,
  v9 := Try.zeroValue9,
  t22 := Try.underlying32,
  a22 := Try.isAgg32,
  z22 := Try.sizeOf32,
  v22 := Try.zeroValue32,
  t23 := Try.underlying3,
  a23 := Try.isAgg3,
  z23 := Try.sizeOf3,
  v23 := Try.zeroValue3,
  t44 := Try.underlying91,
  a44 := Try.isAgg91,
  z44 := Try.sizeOf91,
  v44 := Try.zeroValue91,
  t51 := Try.underlying76,
  a51 := Try.isAgg76,
  z51 := Try.sizeOf76,
  v51 := Try.zeroValue76,
  t60 := Try.underlying153,
  a60 := Try.isAgg153,
  z60 := Try.sizeOf153,
  v60 := Try.zeroValue153,
  t61 := Try.underlying154,
  a61 := Try.isAgg154,
  z61 := Try.sizeOf154,
  v61 := Try.zeroValue154,
  t67 := Try.underlying160,
  a67 := Try.isAgg160,
  z67 := Try.sizeOf160,
  v67 := Try.zeroValue160,
  t69 := Try.underlying162,
  a69 := Try.isAgg162,
  z69 := Try.sizeOf162,
  v69 := Try.zeroValue162,
  t75 := Try.underlying171,
  a75 := Try.isAgg171,
  z75 := Try.sizeOf171,
  v75 := Try.zeroValue171,
  t79 := Try.underlying175,
  a79 := Try.isAgg175,
  z79 := Try.sizeOf175,
  v79 := Try.zeroValue175,
  t83 := Try.underlying187,
  a83 := Try.isAgg187,
  z83 := Try.sizeOf187,
  v83 := Try.zeroValue187,
  t84 := Try.underlying188,
  a84 := Try.isAgg188,
  z84 := Try.sizeOf188,
  v84 := Try.zeroValue188 }
def compactI_ren : Go.Shelf.Ren := ⟨fun | 43 => 88 | n => n, fun | 22 => 32 | 23 => 3 | 3 => 3 | 4 => 4 | 0 => 0 | n => n, fun | n => n⟩
theorem compactI : Go.Proofs.SlLaysN.n43 Try.prog compactI_ren := {
  mixed := by kernel_rfl,
  f43 := ⟨Try.f88.name, by decide, Try.func88.trans (congrArg some (by kernel_rfl))⟩,
  t0 := Try.underlying0,
  a0 := Try.isAgg0,
  z0 := Try.sizeOf0,
  v0 := Try.zeroValue0,
  t3 := Try.underlying3,
  a3 := Try.isAgg3,
  z3 := Try.sizeOf3,
  v3 := Try.zeroValue3,
  t4 := Try.underlying4,
  a4 := Try.isAgg4,
  z4 := Try.sizeOf4,
  v4 := Try.zeroValue4,
  t22 := Try.underlying32,
  a22 := Try.isAgg32,
  z22 := Try.sizeOf32,
  v22 := Try.zeroValue32,
  t23 := Try.underlying3,
  a23 := Try.isAgg3,
  z23 := Try.sizeOf3,
  v23 := Try.zeroValue3,
  i23 := by kernel_rfl }
end Go.Proofs.Ytefpmcbpodlabaa

/- slices.Sort of a row of ints that the call owns; slices.Sorted over the keys of those who wait. -/
namespace Go.Proofs.Ytefpmcbpodlabaa
open Go.RowKit Go.Maps Go.Sort Go.Shelf Go.Proofs

abbrev encI : Int → Value := Value.int .i64
theorem viC_map (l : List Int) : l.flatMap viC = l.map encI := by
  induction l with
  | nil => rfl
  | cons x l ih => simp [viC, ih]
theorem holdsI {w : World} {g : Nat} {cur : Array Value} {e : TypeId} {l : List Int} (hb : w.heap[g]? = some (.cells cur e (0, 0))) (ht : cur.toList.take l.length = l.map encI) : Holds encI w g 0 l.toArray := by
  intro j hj
  have hj' : j < l.length := by simpa using hj
  refine ⟨?_, by simp [World.frozen?, hb]⟩
  have h1 : cur[j]? = some (encI l[j]) := by
    have h2 : (cur.toList.take l.length)[j]? = (l.map encI)[j]? := by rw [ht]
    rw [List.getElem?_take_of_lt hj', List.getElem?_map, List.getElem?_eq_getElem hj', Array.getElem?_toList] at h2
    exact h2
  have h3 : (⟨g, 0 + j, none⟩ : Addr) = ⟨g, j, none⟩ := by rw [Nat.zero_add]
  rw [h3, cell_ofG hb, h1, getElem!_pos l.toArray j hj]
  simp
theorem grownI {w : World} {g n : Nat} {os : Array Obj} (d : Array Int) : w.grownBy (grow (putRow encI (Sort.ahead w n) g 0 d) os) (some g) := by
  refine ⟨rfl, rfl, rfl, by simp, fun k hk hne => ?_⟩
  have hgk : g ≠ k := fun e => hne (by rw [e])
  rw [heap_grow_old _ _ (by simpa using hk)]
  simp [putRow, mapBlock, Sort.ahead, Array.getElem?_modify, hgk]
theorem sortedI {w : World} {base g cap n : Nat} {e : TypeId} {os : Array Obj} {cur : Array Value} {l l' : List Int} (hl : l'.length = l.length) (hbase : base ≤ g) (hb : w.heap[g]? = some (.cells cur e (0, 0)))
    (h1 : l.length ≤ cap) (h2 : cap ≤ maxLen) (h3 : cur.size = cap * 1) :
    (grow (putRow encI (Sort.ahead w n) g 0 l'.toArray) os).ownsRow base e 1 (.slice (some ⟨g, 0, none⟩) l.length cap) l.length (l'.map encI) := by
  have hg : g < w.heap.size := (Array.getElem?_eq_some_iff.1 hb).1
  have hh : (grow (putRow encI (Sort.ahead w n) g 0 l'.toArray) os).heap[g]? = some (.cells (putCells encI 0 l'.toArray cur) e (0, 0)) := by
    rw [heap_grow_old _ _ (by simpa using hg)]
    simp [putRow, mapBlock, Sort.ahead, Array.getElem?_modify, hb, onCells]
  refine ⟨by simp [hl], .inr ⟨g, cap, _, rfl, hbase, hh, h1, h2, by simp [putCells, h3], ?_⟩⟩
  apply List.ext_getElem?
  intro j
  by_cases hj : j < l.length
  · rw [List.getElem?_take_of_lt (by omega), Array.getElem?_toList, List.getElem?_map, List.getElem?_eq_getElem (show j < l'.length by omega)]
    simp [putCells, show j < l'.length by omega, show j < cur.size by omega]
  · rw [List.getElem?_take_eq_none (by omega), List.getElem?_eq_none (by simp; omega)]

abbrev srt (l : List Int) : List Int := l.mergeSort fun x y => decide (x ≤ y)

set_option maxRecDepth 100000 in
set_option maxHeartbeats 2000000 in
theorem sort_call {base : Nat} (v : Value) (l : List Int) (w : World) (h : OwI base w v l) (hlen : l.length ≤ 1048576) :
    Calls Try.prog 87 #[v] w fun e w' => e = .returned (.tuple #[]) ∧ OwI base w' v (srt l) ∧ w.grownBy w' v.ownBlock := by
  rcases h.2 with ⟨hv, h0⟩ | ⟨g, cap, cur, rfl, hg, hb, h1, h2, h3, h4⟩
  · have hl : l = [] := List.length_eq_zero_iff.1 h0
    subst hl
    subst hv
    have hc := AnyG.slices_Sort_int_none sortI none 0 w
    change Calls Try.prog 87 _ _ _ at hc
    refine hc.mono ?_
    rintro e w' ⟨rfl, rfl⟩
    exact ⟨rfl, by simpa [OwI] using h, ⟨rfl, rfl, rfl, Nat.le_refl _, fun _ _ _ => rfl⟩⟩
  · have h4' : cur.toList.take l.length = l.map encI := by rw [← viC_map]; simpa using h4
    have hc := AnyG.slices_Sort_int sortI g 0 cap l w (holdsI hb h4') (Array.getElem?_eq_some_iff.1 hb).1 (by omega)
    change Calls Try.prog 87 _ _ _ at hc
    refine hc.mono ?_
    rintro e w' ⟨rfl, n, os, rfl⟩
    refine ⟨rfl, ?_, grownI _⟩
    have := sortedI (n := n) (os := os) (l := l) (l' := srt l) (by simp) hg hb h1 h2 h3
    unfold OwI
    rw [viC_map]
    simpa using this

theorem srt_perm (l : List Int) : (srt l).Perm l := List.mergeSort_perm _ _
theorem srt_sorted (l : List Int) : (srt l).Pairwise (fun x y => x ≤ y) := by
  have := List.pairwise_mergeSort (le := fun x y : Int => decide (x ≤ y)) (fun a b c h1 h2 => by simp at *; omega) (fun a b => by simp; omega) l
  exact this.imp (fun h => by simpa using h)

/-- The keys of those who wait, in order. -/
def SortedQ (L : RdyL) (w : World) (e : Ending) (w' : World) : Prop := ∃ v ks, e = .returned v ∧ OwI w.heap.size w' v ks ∧ ks.Perm (L.map (·.1)) ∧ ks.Pairwise (fun x y => x ≤ y) ∧ Below w.heap.size w w'

end Go.Proofs.Ytefpmcbpodlabaa

/- slices.Compact of a row of ints that the call owns; sorted and compacted, plain. -/
namespace Go.Proofs.Ytefpmcbpodlabaa
open Go.RowKit Go.Maps Go.Sort Go.Shelf Go.Proofs

theorem compactUp_spec (d : Array Int) (hs : ∀ j, j + 1 < d.size → d[j]! ≤ d[j + 1]!) : ∀ m, m + 1 ≤ d.size →
    (Lib.compactUpTo d (m + 1)).Pairwise (· < ·) ∧ (∀ x ∈ Lib.compactUpTo d (m + 1), x ≤ d[m]!) ∧ (∀ x, x ∈ Lib.compactUpTo d (m + 1) ↔ ∃ j, j < m + 1 ∧ d[j]! = x)
  | 0, _ => by
    have e : Lib.compactUpTo d (0 + 1) = [d[0]!] := by
      rw [Lib.compactUpTo_succ, if_pos (Lib.keeps_lt_one d 0 (by omega))]; simp [Lib.compactUpTo]
    rw [e]
    refine ⟨List.pairwise_singleton _ _, fun x hx => by simp at hx; omega, fun x => ?_⟩
    constructor
    · intro h; simp at h; exact ⟨0, by omega, h.symm⟩
    · rintro ⟨j, hj, rfl⟩
      obtain rfl : j = 0 := by omega
      simp
  | m + 1, hm => by
    obtain ⟨h1, h2, h3⟩ := compactUp_spec d hs m (by omega)
    have hle := hs m (by omega)
    by_cases hk : d[m + 1]! = d[m]!
    · have e : Lib.compactUpTo d (m + 1 + 1) = Lib.compactUpTo d (m + 1) := by
        rw [Lib.compactUpTo_succ, if_neg (by rw [Lib.keeps_neg (by omega) (by simpa using hk)]; simp)]; simp
      rw [e]
      refine ⟨h1, fun x hx => by rw [hk]; exact h2 x hx, fun x => ?_⟩
      rw [h3]
      constructor
      · rintro ⟨j, hj, rfl⟩; exact ⟨j, by omega, rfl⟩
      · rintro ⟨j, hj, rfl⟩
        by_cases hjm : j < m + 1
        · exact ⟨j, hjm, rfl⟩
        · obtain rfl : j = m + 1 := by omega
          exact ⟨m, by omega, hk.symm⟩
    · have e : Lib.compactUpTo d (m + 1 + 1) = Lib.compactUpTo d (m + 1) ++ [d[m + 1]!] := by
        rw [Lib.compactUpTo_succ, if_pos (Lib.keeps_pos (by simpa using hk))]
      rw [e]
      refine ⟨List.pairwise_append.2 ⟨h1, List.pairwise_singleton _ _, fun x hx y hy => ?_⟩, fun x hx => ?_, fun x => ?_⟩
      · rw [List.mem_singleton.1 hy]
        have := h2 x hx
        omega
      · rcases List.mem_append.1 hx with hx | hx
        · have := h2 x hx; omega
        · rw [List.mem_singleton.1 hx]; exact Int.le_refl _
      · rw [List.mem_append, h3, List.mem_singleton]
        constructor
        · rintro (⟨j, hj, rfl⟩ | rfl)
          · exact ⟨j, by omega, rfl⟩
          · exact ⟨m + 1, by omega, rfl⟩
        · rintro ⟨j, hj, rfl⟩
          by_cases hjm : j < m + 1
          · exact .inl ⟨j, hjm, rfl⟩
          · obtain rfl : j = m + 1 := by omega
            exact .inr rfl
/-- A rising list without its doubles: rises strictly, holds the same. -/
theorem compact_spec {l : List Int} (h : l.Pairwise (fun x y => x ≤ y)) : (Lib.compact l).Pairwise (· < ·) ∧ ∀ x, x ∈ Lib.compact l ↔ x ∈ l := by
  cases hl : l with
  | nil => subst hl; exact ⟨List.Pairwise.nil, fun x => Iff.rfl⟩
  | cons a t =>
    have hlen : l.length = t.length + 1 := by rw [hl]; rfl
    rw [← hl]
    have hg : ∀ j, j < l.length → l.toArray[j]! = l[j]! := fun j hj => by simp
    obtain ⟨h1, -, h3⟩ := compactUp_spec l.toArray (fun j hj => by
      have hj' : j + 1 < l.length := by simpa using hj
      rw [hg j (by omega), hg (j + 1) hj', getElem!_pos l j (by omega), getElem!_pos l (j + 1) hj']
      exact List.pairwise_iff_getElem.1 h j (j + 1) (by omega) hj' (by omega)) t.length (by simp; omega)
    unfold Lib.compact
    rw [hlen]
    refine ⟨h1, fun x => ?_⟩
    rw [h3]
    constructor
    · rintro ⟨j, hj, rfl⟩
      rw [hg j (by omega), getElem!_pos l j (by omega)]
      exact List.getElem_mem _
    · intro hx
      obtain ⟨j, hj, e⟩ := List.getElem_of_mem hx
      exact ⟨j, by omega, by rw [hg j hj, getElem!_pos l j hj]; exact e⟩
theorem rising_ext : ∀ {a b : List Int}, a.Pairwise (· < ·) → b.Pairwise (· < ·) → (∀ x, x ∈ a ↔ x ∈ b) → a = b
  | [], [], _, _, _ => rfl
  | [], y :: b, _, _, h => by have := (h y).2 List.mem_cons_self; simp at this
  | x :: a, [], _, _, h => by have := (h x).1 List.mem_cons_self; simp at this
  | x :: a, y :: b, ha, hb, h => by
    have ha' := List.pairwise_cons.1 ha
    have hb' := List.pairwise_cons.1 hb
    have hxy : x = y := by
      rcases List.mem_cons.1 ((h x).1 List.mem_cons_self) with e | hx
      · exact e
      · rcases List.mem_cons.1 ((h y).2 List.mem_cons_self) with e | hy
        · exact e.symm
        · have h1 := ha'.1 y hy
          have h2 := hb'.1 x hx
          omega
    subst hxy
    congr 1
    refine rising_ext ha'.2 hb'.2 (fun p => ?_)
    constructor
    · intro hp
      rcases List.mem_cons.1 ((h p).1 (List.mem_cons_of_mem _ hp)) with rfl | h1
      · have := ha'.1 p hp; omega
      · exact h1
    · intro hp
      rcases List.mem_cons.1 ((h p).2 (List.mem_cons_of_mem _ hp)) with rfl | h1
      · have := hb'.1 p hp; omega
      · exact h1
theorem compact_len (l : List Int) : (Lib.compact l).length ≤ l.length := by
  unfold Lib.compact Lib.compactUpTo
  rw [List.length_map]
  exact Nat.le_trans (List.length_filter_le _ _) (by simp)
/-- A row sorted, without doubles. -/
def sortC (l : List Int) : List Int := Lib.compact (srt l)
theorem sortC_mem (l : List Int) (x : Int) : x ∈ sortC l ↔ x ∈ l := by
  unfold sortC
  rw [(compact_spec (srt_sorted l)).2, (srt_perm l).mem_iff]
theorem sortC_up (l : List Int) : (sortC l).Pairwise (· < ·) := (compact_spec (srt_sorted l)).1
theorem sortC_len (l : List Int) : (sortC l).length ≤ l.length := by
  unfold sortC
  have := compact_len (srt l)
  rw [(srt_perm l).length_eq] at this
  exact this

set_option maxRecDepth 100000 in
set_option maxHeartbeats 2000000 in
theorem compact_call {base : Nat} (v : Value) (l : List Int) (w : World) (h : OwI base w v l) (hlen : l.length ≤ 1048576) :
    Calls Try.prog 88 #[v] w fun e w' => ∃ v', e = .returned v' ∧ OwI base w' v' (Lib.compact l) ∧ w.grownBy w' v.ownBlock ∧ v'.ownBlock = v.ownBlock := by
  rcases h.2 with ⟨hv, h0⟩ | ⟨g, cap, cur, rfl, hg, hb, h1, h2, h3, h4⟩
  · have hl : l = [] := List.length_eq_zero_iff.1 h0
    subst hl
    subst hv
    have hc := AnyG.slices_Compact_int_empty compactI none 0 w
    change Calls Try.prog 88 _ _ _ at hc
    refine hc.mono ?_
    rintro e w' ⟨rfl, rfl⟩
    exact ⟨_, rfl, by simpa [OwI, Lib.compact, Lib.compactUpTo] using h, ⟨rfl, rfl, rfl, Nat.le_refl _, fun _ _ _ => rfl⟩, rfl⟩
  · have h4' : cur.toList.take l.length = l.map encI := by rw [← viC_map]; simpa using h4
    have hc := AnyG.slices_Compact_int compactI g 0 cap l w (holdsI hb h4') (by omega) h1
    change Calls Try.prog 88 _ _ _ at hc
    refine hc.mono ?_
    rintro e w' ⟨rfl, q, rfl⟩
    have hcl := compact_len l
    have hgl : g < w.heap.size := (Array.getElem?_eq_some_iff.1 hb).1
    have hgr := grownI (w := w) (g := g) (n := q) (os := #[]) (Lib.compact l ++ List.replicate (l.length - (Lib.compact l).length) 0).toArray
    rw [grow_empty] at hgr
    have hsl : (Lib.compact l ++ List.replicate (l.length - (Lib.compact l).length) 0).length = l.length := by simp; omega
    have hrow := sortedI (n := q) (os := #[]) (l := l) (l' := Lib.compact l ++ List.replicate (l.length - (Lib.compact l).length) 0) (base := base) hsl hg hb h1 h2 h3
    rw [grow_empty] at hrow
    refine ⟨_, rfl, ?_, hgr, rfl⟩
    unfold OwI
    rw [viC_map]
    rcases hrow.2 with ⟨hv, -⟩ | ⟨g', cap', cur', hv, hg', hb', h1', h2', h3', h4''⟩
    · cases hv
    · simp only [Value.slice.injEq, Option.some.injEq, Addr.mk.injEq, and_true, true_and] at hv
      obtain ⟨rfl, rfl⟩ := hv
      refine ⟨by simp, .inr ⟨g, cap, cur', rfl, hg', hb', by omega, h2', h3', ?_⟩⟩
      have := congrArg (List.take (Lib.compact l).length) h4''
      rw [List.take_take, List.map_append, List.take_left' (by simp)] at this
      rw [Nat.min_eq_left (by omega)] at this
      simpa using this
end Go.Proofs.Ytefpmcbpodlabaa

/- An append that says where its row lies; tables of rows. Names no program. -/
namespace Go.Proofs.Ytefpmcbpodlabaa
open Go.RowKit

theorem wp_append_at {P : Program} {w : World} {o : Oper} {a : Act} {K : Act → World → Prop} {Q : Exit → Act → World → Prop} (s x : Operand) (t : TypeId)
    (ho : o.op = .call { callee := .builtin .append, args := #[s, x], argTypes := #[t, t] })
    {e : TypeId} {size bytes : Nat} {z : Value} (he : Elt P t e size bytes z) (base : Nat)
    {v : Value} (n : Nat) (xs : List Value) (hown : w.ownsRow base e size v n xs) (hs : a.eval s = v)
    {ad : Addr} {c : Nat} (m : Nat) (news : List Value) (hsrc : Src w (.slice (some ad) m c) size m news) (hx : a.eval x = .slice (some ad) m c) (h1 : ∀ u ∈ news, u.oneCell' = true)
    (hsz : n + m ≤ 68719476736) (hbytes : bytes ≤ 2048) (hbase : base ≤ w.heap.size)
    (h : ∀ v' w', w'.ownsRow base e size v' (n + m) (xs ++ news) → w.grownBy w' v.ownBlock → (v'.ownBlock = v.ownBlock ∨ v'.ownBlock = some w.heap.size) → K (a.put o.dst v') w') : Oper.wp P o a w K Q := by
  obtain ⟨ht, h0, hzs, i, hi, hz, his, hib⟩ := he
  obtain ⟨ad', c', hv, hl, -, hsome⟩ := hsrc
  cases hv
  obtain ⟨v', w', hr, h2, h3, h4, h5⟩ := run_append_own_at (P := P) w base t o.type e i z size bytes ht hi hz his hib hzs h0 v n xs hown ad m c news hl (hsome ad rfl) h1 (by simp only [maxLen]; omega) (Nat.le_trans (Nat.mul_le_mul hsz hbytes) (by decide)) hbase
  unfold Oper.wp execOp
  simp only [ho, resolve, invoke, builtin, Sem.run_bind, Sem.run_pure, Result.andThen_ok, List.map_toArray, List.map_cons, List.map_nil, hs, hx, hr]
  exact h v' w' h2 h3 h5
theorem stepAt {P : Program} {w : World} {ops : Array Oper} {o : Oper} {a : Act} {K : Act → World → Prop} {Q : Exit → Act → World → Prop} {E : Prop} (hgd : o.guard = none) (s x : Operand) (t : TypeId)
    (ho : o.op = .call { callee := .builtin .append, args := #[s, x], argTypes := #[t, t] })
    {e : TypeId} {size bytes : Nat} {z : Value} (he : Elt P t e size bytes z) (base : Nat)
    {v : Value} (n : Nat) (xs : List Value) (hown : w.ownsRow base e size v n xs) (hs : a.eval s = v)
    {ad : Addr} {c : Nat} (m : Nat) (news : List Value) (hsrc : Src w (.slice (some ad) m c) size m news) (hx : a.eval x = .slice (some ad) m c) (h1 : ∀ u ∈ news, u.oneCell' = true)
    (hsz : n + m ≤ 68719476736) (hbytes : bytes ≤ 2048) (hbase : base ≤ w.heap.size)
    (h : ∀ v' w', w'.ownsRow base e size v' (n + m) (xs ++ news) → w.grownBy w' v.ownBlock → (v'.ownBlock = v.ownBlock ∨ v'.ownBlock = some w.heap.size) → K (a.put o.dst v') w') :
    if Region.wanted o (yielded ops a.tmps) = true then Oper.wp P o a w K Q else E := by
  have hw : Region.wanted o (yielded ops a.tmps) = true := by simp [Region.wanted, hgd]
  rw [if_pos hw]
  exact wp_append_at s x t ho he base n xs hown hs m news hsrc hx h1 hsz hbytes hbase h
theorem wpListAt {P : Program} {w : World} {ops : Array Oper} {rest : List Oper} {o : Oper} {a : Act} {Q : Exit → Act → World → Prop} (hgd : o.guard = none) (s x : Operand) (t : TypeId)
    (ho : o.op = .call { callee := .builtin .append, args := #[s, x], argTypes := #[t, t] })
    {e : TypeId} {size bytes : Nat} {z : Value} (he : Elt P t e size bytes z) (base : Nat)
    {v : Value} (n : Nat) (xs : List Value) (hown : w.ownsRow base e size v n xs) (hs : a.eval s = v)
    {ad : Addr} {c : Nat} (m : Nat) (news : List Value) (hsrc : Src w (.slice (some ad) m c) size m news) (hx : a.eval x = .slice (some ad) m c) (h1 : ∀ u ∈ news, u.oneCell' = true)
    (hsz : n + m ≤ 68719476736) (hbytes : bytes ≤ 2048) (hbase : base ≤ w.heap.size)
    (h : ∀ v' w', w'.ownsRow base e size v' (n + m) (xs ++ news) → w.grownBy w' v.ownBlock → (v'.ownBlock = v.ownBlock ∨ v'.ownBlock = some w.heap.size) → wpList P ops Q rest (a.put o.dst v') w') : wpList P ops Q (o :: rest) a w := by
  have := wp_append_at (P := P) (w := w) (o := o) (a := a) (K := fun a w => wpList P ops Q rest a w) (Q := Q) s x t ho he base n xs hown hs m news hsrc hx h1 hsz hbytes hbase h
  unfold wpList
  simp [Region.wanted, hgd]
  exact .inl this

/-- Two rows do not lie in one block. -/
def ApartV (v v' : Value) : Prop := ∀ g, v.ownBlock = some g → v'.ownBlock ≠ some g
theorem ApartV.symm {u v : Value} (h : ApartV u v) : ApartV v u := fun g hg e => h g e hg
theorem apartV_nil (v : Value) : ApartV v (.slice none 0 0) := fun g _ => by simp [Value.ownBlock]
theorem nil_apartV (v : Value) : ApartV (.slice none 0 0) v := fun g h => by simp [Value.ownBlock] at h
/-- Rows that lie apart, one for each list: the slice values that they lie in. -/
structure RowsT {α : Type} (enc : α → List Value) (k e N : Nat) (vs : List Value) (T : List (List α)) (W : World) : Prop where
  len : vs.length = T.length
  row : ∀ (i : Nat) v l, vs[i]? = some v → T[i]? = some l → W.ownsRow N e k v l.length (l.flatMap enc)
  apart : ∀ (i j : Nat) v u, i ≠ j → vs[i]? = some v → vs[j]? = some u → ApartV v u
section
variable {α : Type} {enc : α → List Value} {k e N : Nat} {vs : List Value} {T : List (List α)} {A B : World}
theorem RowsT.nils (n : Nat) : RowsT enc k e N (List.replicate n (.slice none 0 0)) (List.replicate n []) A := by
  refine ⟨by simp, fun i v l hv hl => ?_, fun i j v u _ hv hu => ?_⟩
  · rw [List.getElem?_replicate] at hv hl
    split at hv
    · rename_i hi
      rw [if_pos hi] at hl
      cases hv; cases hl
      exact World.ownsRow_nil _ _ _ _
    · cases hv
  · rw [List.getElem?_replicate] at hv
    split at hv
    · cases hv; exact nil_apartV u
    · cases hv
theorem RowsT.get (h : RowsT enc k e N vs T A) {i : Nat} {l : List α} (hl : T[i]? = some l) : ∃ v, vs[i]? = some v ∧ A.ownsRow N e k v l.length (l.flatMap enc) := by
  have hi : i < vs.length := by rw [h.len]; exact (List.getElem?_eq_some_iff.1 hl).1
  exact ⟨vs[i], List.getElem?_eq_getElem hi, h.row i _ l (List.getElem?_eq_getElem hi) hl⟩
theorem RowsT.later (h : RowsT enc k e N vs T A) (hb : Below A.heap.size A B) : RowsT enc k e N vs T B := ⟨h.len, fun i v l hv hl => own_below (h.row i v l hv hl) hb, h.apart⟩
theorem RowsT.mono {M : Nat} (h : RowsT enc k e N vs T A) (hm : M ≤ N) : RowsT enc k e M vs T A := ⟨h.len, fun i v l hv hl => own_mono (h.row i v l hv hl) hm, h.apart⟩
/-- A block that is none of theirs turns. -/
theorem RowsT.kept (h : RowsT enc k e N vs T A) {r : Option Nat} (hg : A.grownBy B r) (hr : ∀ g, r = some g → ∀ (i : Nat) (v : Value), vs[i]? = some v → v.ownBlock ≠ some g) : RowsT enc k e N vs T B :=
  ⟨h.len, fun i v l hv hl => (h.row i v l hv hl).kept hg (by
    cases ho : v.ownBlock with
    | none => exact .inl rfl
    | some g => exact .inr (fun e => hr g e.symm i v hv ho)), h.apart⟩
/-- One of them is written anew. -/
theorem RowsT.put (h : RowsT enc k e N vs T A) {i : Nat} {v v' : Value} {l : List α} (hv : vs[i]? = some v) (hg : A.grownBy B v.ownBlock) (ho : B.ownsRow N e k v' l.length (l.flatMap enc)) (hat : v'.ownBlock = v.ownBlock ∨ v'.ownBlock = some A.heap.size) : RowsT enc k e N (vs.set i v') (T.set i l) B := by
  have hi : i < vs.length := (List.getElem?_eq_some_iff.1 hv).1
  have hlt : ∀ (j : Nat) (u : Value), vs[j]? = some u → ∀ g, u.ownBlock = some g → g < A.heap.size := fun j u hu g hg => by
    have hj : j < T.length := by rw [← h.len]; exact (List.getElem?_eq_some_iff.1 hu).1
    exact ((h.row j u _ hu (List.getElem?_eq_getElem hj)).lt g hg).2
  have new : ∀ j u, j ≠ i → vs[j]? = some u → ApartV v' u := fun j u hj hu g hg e => by
    rcases hat with hat | hat
    · exact h.apart i j v u (Ne.symm hj) hv hu g (hat ▸ hg) e
    · have h1 := hlt j u hu g e
      rw [hat] at hg
      cases hg; omega
  refine ⟨by simp [h.len], fun j u m hu hm => ?_, fun a b u u' hab hu hu' => ?_⟩
  · by_cases hj : j = i
    · subst hj
      rw [List.getElem?_set_self hi] at hu
      rw [List.getElem?_set_self (by rw [← h.len]; exact hi)] at hm
      cases hu; cases hm; exact ho
    · rw [List.getElem?_set_ne (Ne.symm hj)] at hu hm
      refine (h.row j u m hu hm).kept hg ?_
      cases hub : u.ownBlock with
      | none => exact .inl rfl
      | some g => exact .inr (fun e => h.apart j i u v hj hu hv g hub e.symm)
  · by_cases ha : a = i
    · subst ha
      rw [List.getElem?_set_self hi] at hu
      rw [List.getElem?_set_ne hab] at hu'
      cases hu
      exact new b u' (Ne.symm hab) hu'
    · rw [List.getElem?_set_ne (Ne.symm ha)] at hu
      by_cases hb : b = i
      · subst hb
        rw [List.getElem?_set_self hi] at hu'
        cases hu'
        exact (new a u ha hu).symm
      · rw [List.getElem?_set_ne (Ne.symm hb)] at hu'
        exact h.apart a b u u' hab hu hu'
end
/-- The rows and the block in which their slice values lie. -/
structure TabT {α : Type} (enc : α → List Value) (k e te N tb : Nat) (vs : List Value) (T : List (List α)) (W : World) : Prop where
  rows : RowsT enc k e N vs T W
  blk : W.heap[tb]? = some (.cells vs.toArray te)
  own : N ≤ tb
  ne : e ≠ te
section
variable {α : Type} {enc : α → List Value} {k e te N tb : Nat} {vs : List Value} {T : List (List α)} {A B : World}
theorem TabT.later (h : TabT enc k e te N tb vs T A) (hb : Below A.heap.size A B) : TabT enc k e te N tb vs T B := ⟨h.rows.later hb, (hb.block tb (Array.getElem?_eq_some_iff.1 h.blk).1).trans h.blk, h.own, h.ne⟩
theorem TabT.mono {M : Nat} (h : TabT enc k e te N tb vs T A) (hm : M ≤ N) : TabT enc k e te M tb vs T A := ⟨h.rows.mono hm, h.blk, Nat.le_trans hm h.own, h.ne⟩
theorem TabT.cell (h : TabT enc k e te N tb vs T A) {i : Nat} {v : Value} (hv : vs[i]? = some v) : A.cell? ⟨tb, i, none⟩ = some v := by
  simp [World.cell?, h.blk, hv]
theorem TabT.free (h : TabT enc k e te N tb vs T A) (i : Nat) : A.frozen? ⟨tb, i, none⟩ = false := by simp [World.frozen?, h.blk]
theorem TabT.row_ne (h : TabT enc k e te N tb vs T A) {i : Nat} {v : Value} (hv : vs[i]? = some v) : v.ownBlock ≠ some tb := by
  intro hvb
  have hi : i < T.length := by rw [← h.rows.len]; exact (List.getElem?_eq_some_iff.1 hv).1
  rcases (h.rows.row i v _ hv (List.getElem?_eq_getElem hi)).2 with ⟨h1, _⟩ | ⟨g, cap, cur, h1, _, hh, _⟩
  · rw [h1] at hvb; cases hvb
  · rw [h1] at hvb
    cases hvb
    rw [h.blk] at hh
    cases hh
    exact h.ne rfl
/-- A row of it is written anew, its slice value not yet stored. -/
theorem TabT.wrote (h : TabT enc k e te N tb vs T A) {i : Nat} {v v' : Value} {l : List α} (hv : vs[i]? = some v) (hg : A.grownBy B v.ownBlock) (ho : B.ownsRow N e k v' l.length (l.flatMap enc)) (hat : v'.ownBlock = v.ownBlock ∨ v'.ownBlock = some A.heap.size) :
    B.cell? ⟨tb, i, none⟩ = some v ∧ B.frozen? ⟨tb, i, none⟩ = false ∧ TabT enc k e te N tb (vs.set i v') (T.set i l) (B.setCell ⟨tb, i, none⟩ v') := by
  have hblk : B.heap[tb]? = some (.cells vs.toArray te) := (hg.block tb (Array.getElem?_eq_some_iff.1 h.blk).1 (fun e => h.row_ne hv e.symm)).trans h.blk
  have hr := h.rows.put hv hg ho hat
  have hi : i < vs.length := (List.getElem?_eq_some_iff.1 hv).1
  have hne : ∀ (j : Nat) (u : Value), (vs.set i v')[j]? = some u → u.ownBlock ≠ some tb := by
    intro j u hu
    by_cases hj : j = i
    · subst hj
      rw [List.getElem?_set_self hi] at hu
      cases hu
      rcases hat with hat | hat
      · rw [hat]; exact h.row_ne hv
      · rw [hat]
        intro e
        have := (Array.getElem?_eq_some_iff.1 h.blk).1
        cases e; omega
    · rw [List.getElem?_set_ne (Ne.symm hj)] at hu
      exact h.row_ne hu
  refine ⟨by simp [World.cell?, hblk, hv], by simp [World.frozen?, hblk], ?_, ?_, h.own, h.ne⟩
  · have hgs : B.grownBy (B.setCell ⟨tb, i, none⟩ v') (some tb) := ⟨rfl, rfl, rfl, by simp [World.setCell], fun j _ hj => Below.heap_setCell _ _ _ j (fun e => hj (by rw [e]))⟩
    exact hr.kept hgs (fun g hg j u hu => by cases hg; exact hne j u hu)
  · simp [World.setCell, Array.getElem?_modify, hblk]
theorem TabT.kept (h : TabT enc k e te N tb vs T A) {r : Option Nat} (hg : A.grownBy B r) (hr : ∀ g, r = some g → g ≠ tb ∧ ∀ (i : Nat) (v : Value), vs[i]? = some v → v.ownBlock ≠ some g) : TabT enc k e te N tb vs T B :=
  ⟨h.rows.kept hg (fun g e => (hr g e).2), (hg.block tb (Array.getElem?_eq_some_iff.1 h.blk).1 (fun e => (hr tb e.symm).1 rfl)).trans h.blk, h.own, h.ne⟩
end
end Go.Proofs.Ytefpmcbpodlabaa

/- Frames as functions: a loop or a cut whose relation forgets all slots but those it names, by one letter for the whole frame. Names no program. -/
namespace Go.Proofs.Ytefpmcbpodlabaa
open Go.RowKit

/-- A frame of n slots, slot by slot. -/
def frN (n : Nat) (f : Nat → Value) : Act := ⟨((List.range n).map f).toArray, []⟩
/-- What lies in the slots of a frame that is written out. -/
def slotsOf (l : List Value) : Nat → Value := fun i => (l[i]?).getD undef
theorem frN_of (n : Nat) (l : List Value) (h : l.length = n) : (⟨l.toArray, []⟩ : Act) = frN n (slotsOf l) := by
  have : (List.range n).map (slotsOf l) = l := by
    apply List.ext_getElem?
    intro i
    rw [List.getElem?_map]
    by_cases hi : i < n
    · rw [List.getElem?_range hi, Option.map_some]
      unfold slotsOf
      rw [List.getElem?_eq_getElem (by omega)]; rfl
    · rw [List.getElem?_eq_none (by simp; omega), List.getElem?_eq_none (by omega)]; rfl
  unfold frN; rw [this]

theorem wp_fr {P : Program} {c : Code} {Q : Exit → Act → World → Prop} {w : World} (n : Nat) (l : List Value) (hl : l.length = n) (h : c.wp P Q (frN n (slotsOf l)) w) : c.wp P Q ⟨l.toArray, []⟩ w := by
  rw [frN_of n l hl]; exact h

theorem wp_cutF {P : Program} {s : Code} {K : Act → World → Prop} {Q' : Exit → Act → World → Prop} {a : Act} {w : World} (n : Nat) (R : (Nat → Value) → World → Prop)
    (rest : ∀ f w', R f w' → K (frN n f) w')
    (first : ∀ (J K' : Act → World → Prop), (∀ (l : List Value) w', l.length = n → R (slotsOf l) w' → J ⟨l.toArray, []⟩ w') → (∀ a' w', Met J a' w' → K' a' w') → s.wp P (Exit.then K' Q') a w) : s.wp P (Exit.then K Q') a w :=
  wp_cut (fun a' w' => ∃ f, a' = frN n f ∧ R f w') (fun _ _ ⟨f, e, h⟩ => e ▸ rest f _ h)
    (fun J K' h1 h2 => first J K' (fun l w' hl hr => h1 _ _ ⟨_, frN_of n l hl, hr⟩) h2)

theorem wp_loopF {P : Program} {c : Code} {Q : Exit → Act → World → Prop} {w : World} (n : Nat) (R : Nat → (Nat → Value) → World → Prop) (l0 : List Value) (hl : l0.length = n) (m0 : Nat) (h0 : R m0 (slotsOf l0) w)
    (round : ∀ m f w, R m f w → ∀ (J : Nat → Act → World → Prop) (K : Act → World → Prop), (∀ k (l : List Value) w', l.length = n → R k (slotsOf l) w' → J k ⟨l.toArray, []⟩ w') → (∀ a' w', Handed J m a' w' → K a' w') → c.wp P (Exit.then K Q) (frN n f) w) : (Code.loop c).wp P Q ⟨l0.toArray, []⟩ w :=
  wp_loop_ghost_k (fun m a' w' => ∃ f, a' = frN n f ∧ R m f w') m0 ⟨_, frN_of n l0 hl, h0⟩
    (fun m a' w' ⟨f, e, h⟩ J K h1 h2 => e ▸ round m f w' h J K (fun k l w'' hl hr => h1 k _ _ ⟨_, frN_of n l hl, hr⟩) h2)

/-- What holds of the plain end; no other end. -/
def OnlyN (K : Act → World → Prop) : Exit → Act → World → Prop
  | .normal, a, w => K a w
  | _, _, _ => False
theorem wp_onlyN {P : Program} {c : Code} {K : Act → World → Prop} {Q : Exit → Act → World → Prop} {a : Act} {w : World} (h : c.wp P (OnlyN K) a w) (hK : ∀ a w, K a w → Q .normal a w) : c.wp P Q a w :=
  wp_mono h (fun e a w hq => by
    cases e with
    | normal => exact hK _ _ hq
    | exit id => exact hq.elim
    | goto l => exact hq.elim
    | ret => exact hq.elim
    | panic ch => exact hq.elim
    | outgrown => exact hq.elim)

section codes
def blockOf (n : Nat) : Code → Option Code
  | .block m c => if m = n then some (.block m c) else blockOf n c
  | .seq a b => match blockOf n a with
    | some c => some c
    | none => blockOf n b
  | .cond _ a b => match blockOf n a with
    | some c => some c
    | none => blockOf n b
  | .loop c => blockOf n c
  | .scope c => blockOf n c
  | _ => none
def endsIn (n : Nat) : Code → Bool
  | .block m _ => m == n
  | .seq _ b => endsIn n b
  | _ => false
/-- What follows a block in its sequence. -/
def afterBlock (n : Nat) : Code → Option Code
  | .seq a b => if endsIn n a then some b else match afterBlock n a with
    | some c => some c
    | none => afterBlock n b
  | .block _ c => afterBlock n c
  | .cond _ a b => match afterBlock n a with
    | some c => some c
    | none => afterBlock n b
  | .loop c => afterBlock n c
  | .scope c => afterBlock n c
  | _ => none
end codes
end Go.Proofs.Ytefpmcbpodlabaa

/- graph.next: what it keeps; its drawn region. -/
namespace Go.Proofs.Ytefpmcbpodlabaa
open Go.RowKit Go.Maps
attribute [local go_sem] Oper.semAt_some

def EArc (_ : World) (cs : List Value) (a : Int × Int) : Prop := cs = [vi a.1, vi a.2]
/-- A row of arcs that can be read. -/
abbrev RdArcs (w : World) (v : Value) (l : List (Int × Int)) : Prop := RdS 2 EArc w v l
theorem RdArcs.later {A B : World} {v : Value} {l : List (Int × Int)} (h : RdArcs A v l) (hb : Below A.heap.size A B) : RdArcs B v l := RdS.below h hb fun _ _ h => h
theorem RdArcs.at {w : World} {v : Value} {l : List (Int × Int)} (h : RdArcs w v l) : ∃ a len cap, v = .slice a len cap ∧ len = l.length ∧ l.length ≤ 9223372036854775807 ∧ ∀ j x, l[j]? = some x → ∃ b off, a = some ⟨b, off, none⟩ ∧ w.cell? ⟨b, off + j * 2, none⟩ = some (vi x.1) ∧ w.cell? ⟨b, off + j * 2 + 1, none⟩ = some (vi x.2) := by
  obtain ⟨a, len, cap, h1, h2, h3, h4, h5, h6⟩ := h
  refine ⟨a, len, cap, h1, h2, h3, fun j x hj => ?_⟩
  obtain ⟨b, off, cs, ha, hl, hc, rfl⟩ := h6 j x hj
  exact ⟨b, off, ha, by simpa using hc 0 _ rfl, by simpa [Nat.add_assoc] using hc 1 _ rfl⟩
def inN (n : Nat) (a : Int × Int) : Bool := decide (0 ≤ a.1) && decide (a.1 < n) && decide (0 ≤ a.2) && decide (a.2 < n)
/-- Where one gets from a node, as it comes. -/
def rawRow (n : Nat) (arcs : List (Int × Int)) (u : Nat) : List Int := (arcs.filter (fun a => inN n a && a.1 == (u : Int))).map (·.2)
def nextT (n : Nat) (arcs : List (Int × Int)) : List (List Int) := (List.range n).map (fun u => sortC (rawRow n arcs u))
theorem rawRow_len (n : Nat) (arcs : List (Int × Int)) (u : Nat) : (rawRow n arcs u).length ≤ arcs.length := by
  unfold rawRow; rw [List.length_map]; exact List.length_filter_le _ _
theorem rawRow_mem {n : Nat} {arcs : List (Int × Int)} {u : Nat} {x : Int} : x ∈ rawRow n arcs u ↔ ((u : Int), x) ∈ arcs ∧ u < n ∧ 0 ≤ x ∧ x < n := by
  unfold rawRow
  rw [List.mem_map]
  constructor
  · rintro ⟨⟨f, t⟩, h, rfl⟩
    obtain ⟨h1, h2⟩ := List.mem_filter.1 h
    simp only [inN, Bool.and_eq_true, decide_eq_true_eq, beq_iff_eq] at h2
    obtain ⟨⟨⟨⟨h3, h4⟩, h5⟩, h6⟩, rfl⟩ := h2
    exact ⟨h1, by omega, h5, h6⟩
  · rintro ⟨h1, h2, h3, h4⟩
    refine ⟨(u, x), List.mem_filter.2 ⟨h1, ?_⟩, rfl⟩
    simp [inN]; omega
theorem rawRow_bound {n : Nat} {arcs : List (Int × Int)} {u : Nat} : ∀ x ∈ rawRow n arcs u, 0 ≤ x ∧ x < n := fun x h => (rawRow_mem.1 h).2.2
theorem nextT_len (n : Nat) (arcs : List (Int × Int)) : (nextT n arcs).length = n := by simp [nextT]
theorem nextT_at {n : Nat} {arcs : List (Int × Int)} {u : Nat} (h : u < n) : (nextT n arcs)[u]? = some (sortC (rawRow n arcs u)) := by
  unfold nextT; rw [List.getElem?_map, List.getElem?_range h]; rfl
theorem mapR_set {β : Type} (n : Nat) (f g : Nat → β) (i : Nat) (hne : ∀ u, u ≠ i → g u = f u) : ((List.range n).map f).set i (g i) = (List.range n).map g := by
  apply List.ext_getElem?
  intro j
  by_cases hj : j = i
  · subst hj
    by_cases hl : j < n
    · rw [List.getElem?_set_self (by simpa using hl), List.getElem?_map, List.getElem?_range hl]; rfl
    · rw [List.getElem?_eq_none (by simp; omega), List.getElem?_eq_none (by simp; omega)]
  · rw [List.getElem?_set_ne (Ne.symm hj), List.getElem?_map, List.getElem?_map]
    by_cases hl : j < n
    · rw [List.getElem?_range hl]; simp [hne j hj]
    · rw [List.getElem?_eq_none (by simp; omega)]; rfl
theorem raw_step {n : Nat} {arcs : List (Int × Int)} {k u v : Nat} (h : arcs[k]? = some ((u : Int), (v : Int))) (hu : u < n) (hv : v < n) : ((List.range n).map (rawRow n (arcs.take k))).set u (rawRow n (arcs.take k) u ++ [(v : Int)]) = (List.range n).map (rawRow n (arcs.take (k + 1))) := by
  have e : ∀ x, rawRow n (arcs.take (k + 1)) x = rawRow n (arcs.take k) x ++ (if x = u then [(v : Int)] else []) := by
    intro x
    unfold rawRow
    rw [take_at h, List.filter_append, List.map_append]
    congr 1
    by_cases hx : x = u
    · subst hx
      rw [if_pos rfl]
      simp [inN, hu, hv]
    · rw [if_neg hx]
      have : ¬ ((u : Int) = (x : Int)) := by omega
      simp [this]
  have := mapR_set n (rawRow n (arcs.take k)) (rawRow n (arcs.take (k + 1))) u (fun x hx => by rw [e, if_neg hx, List.append_nil])
  rw [e u, if_pos rfl] at this
  exact this
theorem raw_skip {n : Nat} {arcs : List (Int × Int)} {k : Nat} {a : Int × Int} (h : arcs[k]? = some a) (ha : inN n a = false) : (List.range n).map (rawRow n (arcs.take (k + 1))) = (List.range n).map (rawRow n (arcs.take k)) := by
  apply List.map_congr_left
  intro x _
  unfold rawRow
  rw [take_at h, List.filter_append, List.map_append]
  simp [ha]
theorem TabT.turned {α : Type} {enc : α → List Value} {k e te N tb : Nat} {vs : List Value} {T : List (List α)} {A B : World} (h : TabT enc k e te N tb vs T A) {i : Nat} {v : Value} {l : List α} (hv : vs[i]? = some v) (hg : A.grownBy B v.ownBlock) (ho : B.ownsRow N e k v l.length (l.flatMap enc)) : TabT enc k e te N tb vs (T.set i l) B := by
  have hr := h.rows.put hv hg ho (.inl rfl)
  have hi := (List.getElem?_eq_some_iff.1 hv).1
  have hvs : vs.set i v = vs := by
    apply List.ext_getElem?
    intro j
    by_cases hj : j = i
    · subst hj; rw [List.getElem?_set_self hi, hv]
    · rw [List.getElem?_set_ne (Ne.symm hj)]
  rw [hvs] at hr
  exact ⟨hr, (hg.block tb (Array.getElem?_eq_some_iff.1 h.blk).1 (fun e => h.row_ne hv e.symm)).trans h.blk, h.own, h.ne⟩
theorem tab_below {α : Type} {enc : α → List Value} {k e te N tb : Nat} {vs : List Value} {T : List (List α)} {w A B : World} (h : TabT enc k e te N tb vs T A) {i : Nat} {v : Value} (hv : vs[i]? = some v) (hg : A.grownBy B v.ownBlock) (hb : Below N w A) : Below N w B := by
  have hi : i < T.length := by rw [← h.rows.len]; exact (List.getElem?_eq_some_iff.1 hv).1
  exact ⟨hg.os.trans hb.os, hg.tape.trans hb.tape, hg.output.trans hb.output, Nat.le_trans hb.size hg.size, fun j hj => (hg.block j (by have := h.own; have := (Array.getElem?_eq_some_iff.1 h.blk).1; omega) (fun e => by have := ((h.rows.row i v _ hv (List.getElem?_eq_getElem hi)).lt j e.symm).1; omega)).trans (hb.block j hj)⟩
theorem Try.infoRows : (Try.prog.info? 32).map (fun i => (i.zero, i.size, i.bytes)) = some (some (.slice none 0 0), 1, 24) := by kernel_rfl
theorem run_makeRows (w : World) (n : Nat) (hn : n ≤ 1048576) : (Instr.makeSlice 65 (.int .i64 (n : Int)) (.int .i64 (n : Int))).run Try.prog w = .ok (.slice (some ⟨w.heap.size, 0, none⟩) n n) (w.alloc (.cells (Array.replicate n (.slice none 0 0)) 32)) := by
  obtain ⟨i, hi, h2⟩ := Option.map_eq_some_iff.1 Try.infoRows
  simp only [Prod.mk.injEq] at h2
  obtain ⟨hz, hs, hb⟩ := h2
  have := run_makeSlice (P := Try.prog) w 65 32 i (.slice none 0 0) Try.underlying65 hi hz .i64 .i64 n n (by omega) (Int.le_refl _) (by rw [hs]; omega) (by rw [hb]; omega) (by omega)
  rw [this, hs]
  have e : madeCells (Value.slice none 0 0).cells ((n : Int).toNat * 1) = (List.replicate n (.slice none 0 0)).toArray := by
    apply Array.toList_inj.1
    rw [show (Value.slice none 0 0).cells = #[Value.slice none 0 0] from rfl, toList_madeCells_one]
    simp
  rw [e]; simp
theorem Gr.own_shape {w : World} {base e size n : Nat} {v : Value} {xs : List Value} (h : w.ownsRow base e size v n xs) : ∃ a c, v = .slice a n c := by
  rcases h.2 with ⟨rfl, h0⟩ | ⟨g, cap, cur, rfl, _, _, _⟩
  · exact ⟨none, 0, by rw [h0]⟩
  · exact ⟨_, _, rfl⟩
theorem Gr.keep {b Y e n m : Nat} {W W' : World} {v : Value} {xs : List Value} {cs : Array Value} {T : TypeId} (h : W.ownsRow b e n v m xs) (hY : W.heap[Y]? = some (.cells cs T)) (hT : T ≠ e) (hg : W.grownBy W' v.ownBlock) : W'.heap[Y]? = some (.cells cs T) :=
  (hg.block Y (Array.getElem?_eq_some_iff.1 hY).1 (fun e => by
    rcases h.2 with ⟨hv, _⟩ | ⟨g', cap, cur, hv, _, hh, _⟩
    · rw [hv] at e; cases e
    · rw [hv] at e; simp only [Value.ownBlock, Option.some.injEq] at e; subst e; rw [hY] at hh; cases hh; exact hT rfl)).trans hY
theorem Bt_other {W : World} {b Y o : Nat} {v : Value} {ob : Obj} (h : W.heap[Y]? = some ob) (hY : Y ≠ b) : (W.setCell ⟨b, o, none⟩ v).heap[Y]? = some ob := (Below.heap_setCell _ _ _ _ hY).trans h
theorem viC_flat (l : List Int) (x : Int) : (l ++ [x]).flatMap viC = l.flatMap viC ++ [vi x] := by simp [viC]

/-- A region of a function's code. -/
def rgnOf (n : Nat) : Code → Option Code
  | .region m ops b => if m = n then some (.region m ops b) else none
  | .seq a b => match rgnOf n a with
    | some c => some c
    | none => rgnOf n b
  | .block _ c => rgnOf n c
  | .cond _ a b => match rgnOf n a with
    | some c => some c
    | none => rgnOf n b
  | .loop c => rgnOf n c
  | .scope c => rgnOf n c
  | _ => none
noncomputable def cNx6 : Code := (Try.f50.body.bind (rgnOf 6)).getD .skip
set_option maxRecDepth 100000 in
set_option maxHeartbeats 8000000 in
theorem reg6 {n tb b7 u z N : Nat} {au : Option Addr} {cu : Nat} {vs : List Value} {T : List (List Int)} {l : List Int} (wa : World) {s0 s1 s2 s3 s4 s6 s8 s9 s10 s11 s12 s13 s14 s15 s16 s17 s18 s19 s20 s21 s22 s23 s24 s25 s26 s27 s28 s29 s30 s31 s32 s33 s34 s35 s36 s37 s38 s39 s40 s41 s42 s43 s44 s45 s46 s47 s48 s49 s50 s51 s52 s53 s54 s55 s56 s57 s58 s59 s60 s61 s62 s63 s64 s65 s66 s67 s68 s69 s70 : Value} (KX : Act → World → Prop)
    (hX : wa.heap[b7]? = some (.cells #[vi u, vi z] 29)) (hT : TabT viC 1 3 32 N tb vs T wa) (hv : vs[u]? = some (.slice au l.length cu)) (hr : wa.ownsRow N 3 1 (.slice au l.length cu) l.length (l.flatMap viC))
    (hl : l.length + 1 ≤ 68719476736) (hN : N ≤ wa.heap.size) (h2 : (u : Int) < n)
    (hK : ∀ (wc : World) (v' : Value) (v37 v38 v39 v40 v41 v42 v43 v44 v45 v46 v47 v48 v49 : Value), wc.cell? ⟨tb, u, none⟩ = some (.slice au l.length cu) ∧ TabT viC 1 3 32 N tb (vs.set u v') (T.set u (l ++ [(z : Int)])) (wc.setCell ⟨tb, u, none⟩ v') ∧ (∀ w0, Below N w0 wa → Below N w0 wc) → KX ⟨(s0 :: s1 :: s2 :: s3 :: s4 :: .slice (some ⟨tb, 0, none⟩) n n :: s6 :: .pointer (some ⟨b7, 0, none⟩) :: s8 :: s9 :: s10 :: s11 :: s12 :: s13 :: s14 :: s15 :: s16 :: s17 :: s18 :: s19 :: s20 :: s21 :: s22 :: s23 :: s24 :: s25 :: s26 :: s27 :: s28 :: s29 :: s30 :: s31 :: s32 :: s33 :: s34 :: s35 :: s36 :: v37 :: v38 :: v39 :: v40 :: v41 :: v42 :: v43 :: v44 :: v45 :: v46 :: v47 :: v48 :: v49 :: s50 :: s51 :: s52 :: s53 :: s54 :: s55 :: s56 :: s57 :: s58 :: s59 :: s60 :: s61 :: s62 :: s63 :: s64 :: s65 :: s66 :: s67 :: s68 :: s69 :: s70 :: []).toArray, []⟩ (wc.setCell ⟨tb, u, none⟩ v')) :
    Code.wp Try.prog cNx6 (OnlyN KX) ⟨(s0 :: s1 :: s2 :: s3 :: s4 :: .slice (some ⟨tb, 0, none⟩) n n :: s6 :: .pointer (some ⟨b7, 0, none⟩) :: s8 :: s9 :: s10 :: s11 :: s12 :: s13 :: s14 :: s15 :: s16 :: s17 :: s18 :: s19 :: s20 :: s21 :: s22 :: s23 :: s24 :: s25 :: s26 :: s27 :: s28 :: s29 :: s30 :: s31 :: s32 :: s33 :: s34 :: s35 :: s36 :: s37 :: s38 :: s39 :: s40 :: s41 :: s42 :: s43 :: s44 :: s45 :: s46 :: s47 :: s48 :: s49 :: s50 :: s51 :: s52 :: s53 :: s54 :: s55 :: s56 :: s57 :: s58 :: s59 :: s60 :: s61 :: s62 :: s63 :: s64 :: s65 :: s66 :: s67 :: s68 :: s69 :: s70 :: []).toArray, []⟩ wa := by
  have FIN := Lib.hid hK
  have h3 : (0 : Int) ≤ (u : Int) := by omega
  have HND := Lib.hid (show Below wa.heap.size wa wa.drew from (Below.refl _ _).drew)
  have HTE := Lib.hid (fun o => (hT.later HND.out).later ((Below.refl wa.drew.heap.size wa.drew).alloc (Nat.le_refl _) o))
  have x0 : wa.cell? ⟨b7, 0, none⟩ = some (vi u) := by rw [cell_ofG hX]; rfl
  have x1 : wa.cell? ⟨b7, 1, none⟩ = some (vi z) := by rw [cell_ofG hX]; rfl
  have td : wa.cell? ⟨tb, u, none⟩ = some (.slice au l.length cu) := hT.cell hv
  have x0f : ∀ o, (wa.alloc o).cell? ⟨b7, 0, none⟩ = some (vi u) := fun o => cell_later ((Below.refl wa.heap.size wa).alloc (Nat.le_refl _) o) x0
  have x1f : ∀ o, (wa.alloc o).cell? ⟨b7, 1, none⟩ = some (vi z) := fun o => cell_later ((Below.refl wa.heap.size wa).alloc (Nat.le_refl _) o) x1
  have tf : ∀ o, (wa.alloc o).cell? ⟨tb, u, none⟩ = some (.slice au l.length cu) := fun o => (hT.later ((Below.refl wa.heap.size wa).alloc (Nat.le_refl _) o)).cell hv
  have HXE := Lib.hid (show (wa.drew.alloc (.cells #[vi z] 3)).heap[b7]? = some (.cells #[vi u, vi z] 29) from (((Below.refl wa.drew.heap.size wa.drew).alloc (Nat.le_refl _) _).block b7 (Array.getElem?_eq_some_iff.1 hX).1).trans hX)
  have HRE := Lib.hid (own_below hr (HND.out.trans ((Below.refl wa.drew.heap.size wa.drew).alloc (Nat.le_refl _) (.cells #[vi z] 3))))
  have hsz2 : N ≤ (wa.drew.alloc (.cells #[vi z] 3)).heap.size := Nat.le_trans hN ((HND.out.alloc HND.out.size _).size)
  have HVU := Lib.hid hv
  have HTA := Lib.hid hT
  have HNN := Lib.hid hN
  clear hK hX hT hv hr hN
  unfold cNx6
  conv => arg 2; whnf
  go_region_law (refine stepAt rfl _ _ 32 rfl eltI N l.length _ HRE.out rfl 1 [vi z] (src_new (cs := #[vi z]) rfl rfl) rfl (by intro q hq; simp at hq; subst hq; rfl) hl (by omega) hsz2 ?_; intro vc wc hoc hgc hat; obtain ⟨ac, cc, rfl⟩ := Gr.own_shape hoc; have HW := Lib.hid ((HTE.out _).wrote HVU.out hgc (by rw [List.length_append, viC_flat]; exact hoc) hat); have HBG := Lib.hid (fun w0 (h : Below N w0 wa) => tab_below (HTE.out (.cells #[vi z] 3)) HVU.out hgc ((h.trans (HND.out.mono HNN.out)).alloc (Nat.le_trans HNN.out HND.out.size) _)); have z1 := HW.out.1; have z2 := HW.out.2.1; have hxg := Gr.keep HRE.out HXE.out (by decide) hgc; have z3 : wc.cell? ⟨b7, 0, none⟩ = some (vi u) := (by rw [cell_ofG hxg]; rfl); clear hoc hgc hat hxg)
  all_goals exact FIN.out wc _ _ _ _ _ _ _ _ _ _ _ _ _ _ ⟨HW.out.1, HW.out.2.2, HBG.out⟩
end Go.Proofs.Ytefpmcbpodlabaa

/- deps.Lift: the arcs that may not go round. -/
namespace Go.Proofs.Ytefpmcbpodlabaa
open Go.RowKit Go.Maps
attribute [local go_sem] Oper.semAt_some

def EEdge (_ : World) (cs : List Value) (e : GEdge) : Prop := cs = [vi e.f, vi e.t, vi e.k]
abbrev RdEdges (w : World) (v : Value) (l : List GEdge) : Prop := RdS 3 EEdge w v l
theorem RdEdges.later {A B : World} {v : Value} {l : List GEdge} (h : RdEdges A v l) (hb : Below A.heap.size A B) : RdEdges B v l := RdS.below h hb fun _ _ h => h
theorem RdEdges.at {w : World} {v : Value} {l : List GEdge} (h : RdEdges w v l) : ∃ a len cap, v = .slice a len cap ∧ len = l.length ∧ l.length ≤ 9223372036854775807 ∧ ∀ j x, l[j]? = some x → ∃ b off, a = some ⟨b, off, none⟩ ∧ w.cell? ⟨b, off + j * 3, none⟩ = some (vi x.f) ∧ w.cell? ⟨b, off + j * 3 + 1, none⟩ = some (vi x.t) ∧ w.cell? ⟨b, off + j * 3 + 2, none⟩ = some (vi x.k) := by
  obtain ⟨a, len, cap, h1, h2, h3, h4, h5, h6⟩ := h
  refine ⟨a, len, cap, h1, h2, h3, fun j x hj => ?_⟩
  obtain ⟨b, off, cs, ha, hl, hc, rfl⟩ := h6 j x hj
  exact ⟨b, off, ha, by simpa using hc 0 _ rfl, by simpa [Nat.add_assoc] using hc 1 _ rfl, by simpa [Nat.add_assoc] using hc 2 _ rfl⟩
def arcV (a : Int × Int) : List Value := [vi a.1, vi a.2]
theorem Try.infoArc : (Try.prog.info? 29).map (fun i => (i.zero, i.size, i.bytes)) = some (some (.agg #[vi 0, vi 0]), 2, 16) := by kernel_rfl
theorem eltArc : Elt Try.prog 24 29 2 16 (.agg #[vi 0, vi 0]) := by
  obtain ⟨i0, hi, hz0, hz1, hz2⟩ := info_parts Try.infoArc
  exact ⟨Try.underlying24, by decide, rfl, i0, hi, hz0, hz1, hz2⟩
/-- A row of arcs that the call owns. -/
def OwA (base : Nat) (w : World) (v : Value) (l : List (Int × Int)) : Prop := w.ownsRow base 29 2 v l.length (l.flatMap arcV)
end Go.Proofs.Ytefpmcbpodlabaa

/- crucibleref09.Get. -/
namespace Go.Proofs.Ytefpmcbpodlabaa
open Go.RowKit Go.Maps

theorem GChoice.ext' {x y : GChoice} (h0 : x.kind = y.kind) (h1 : x.key = y.key) (h2 : x.a = y.a) (h3 : x.b = y.b) : x = y := by
  cases x; cases y; simp at h0 h1 h2 h3; subst h0; subst h1; subst h2; subst h3; rfl
theorem getM_first {G : FaL} {c : GChoice} {k : Nat} {p : GChoice × Bool} (hp : G[k]? = some p) (hc : p.1 = c) (hno : ∀ (j : Nat) (q : GChoice × Bool), j < k → G[j]? = some q → q.1 ≠ c) : getM G c = some p.2 := by
  induction G generalizing k with
  | nil => simp at hp
  | cons q G ih =>
    rw [getM_cons]
    cases k with
    | zero => simp at hp; subst hp; rw [if_pos hc]
    | succ k =>
      rw [if_neg (hno 0 q (by omega) rfl)]
      exact ih (by simpa using hp) fun j q' hj hq => hno (j + 1) q' (by omega) (by simpa using hq)
theorem getM_no {G : FaL} {c : GChoice} (hno : ∀ (j : Nat) (q : GChoice × Bool), j < G.length → G[j]? = some q → q.1 ≠ c) : getM G c = none := by
  rw [getM_none]
  intro p hp
  obtain ⟨j, hj⟩ := List.mem_iff_getElem?.1 hp
  exact hno j p (List.getElem?_eq_some_iff.1 hj).1 hj

set_option maxRecDepth 100000 in
set_option maxHeartbeats 4000000 in
theorem get_call (v : Value) (G : FaL) (c : GChoice) (w : World) (hv : RdSaid w v G) :
    Calls Try.prog 92 #[v, chK c] w fun e w' => e = .returned (vi (getI G c)) ∧ Below w.heap.size w w' := by
  have HV := Lib.hid hv
  obtain ⟨a, len, cap, rfl, rfl, hm, -⟩ := hv.at
  clear hv
  have HB1 := Lib.hid ((Below.refl w.heap.size w).alloc (Nat.le_refl _) (.cells #[vi c.kind, vi c.key, vi c.a, vi c.b] 85))
  have q0 : (w.alloc (.cells #[vi c.kind, vi c.key, vi c.a, vi c.b] 85)).cell? ⟨w.heap.size, 0, none⟩ = some (vi c.kind) := by rw [cell_of (alloc_at _ _)]; rfl
  have q1 : (w.alloc (.cells #[vi c.kind, vi c.key, vi c.a, vi c.b] 85)).cell? ⟨w.heap.size, 1, none⟩ = some (vi c.key) := by rw [cell_of (alloc_at _ _)]; rfl
  have q2 : (w.alloc (.cells #[vi c.kind, vi c.key, vi c.a, vi c.b] 85)).cell? ⟨w.heap.size, 2, none⟩ = some (vi c.a) := by rw [cell_of (alloc_at _ _)]; rfl
  have q3 : (w.alloc (.cells #[vi c.kind, vi c.key, vi c.a, vi c.b] 85)).cell? ⟨w.heap.size, 3, none⟩ = some (vi c.b) := by rw [cell_of (alloc_at _ _)]; rfl
  have hw1 : (w.alloc (.cells #[vi c.kind, vi c.key, vi c.a, vi c.b] 85)).heap.size = w.heap.size + 1 := by simp
  have Q0 := Lib.hid q0
  have Q1 := Lib.hid q1
  have Q2 := Lib.hid q2
  have Q3 := Lib.hid q3
  clear q0 q1 q2 q3
  go_enter Try.func92, Try.ntmps92
  go_wp2_with fail
  generalize w.alloc (.cells #[vi c.kind, vi c.key, vi c.a, vi c.b] 85) = w1 at *
  go_loopw [6, 9] (fun _ n wr => ∃ k : Nat, k ≤ G.length ∧ n = .int .i64 k ∧ Hid (∀ (j : Nat) (q : GChoice × Bool), j < k → G[j]? = some q → q.1 ≠ c) ∧ Below w1.heap.size w1 wr) (fun _ n _ => G.length - (intOf n).toNat)
  case atStart => exact ⟨0, Nat.zero_le _, rfl, Lib.hid (fun j q h => absurd h (Nat.not_lt_zero _)), Below.refl _ _⟩
  case round =>
    obtain ⟨wk, rfl⟩ : ∃ wk : World, wk = wr := ⟨_, rfl⟩
    obtain ⟨k, hk, rfl, HN, hb⟩ := hrel
    have HBk := Lib.hid hb
    have hwk := hb.size
    have hwq : w.heap.size < wk.heap.size := by omega
    have q0 := cell_later hb Q0.out
    have q1 := cell_later hb Q1.out
    have q2 := cell_later hb Q2.out
    have q3 := cell_later hb Q3.out
    have HBW := Lib.hid (HB1.out.trans (hb.mono HB1.out.size))
    clear hb
    by_cases hlt : k < G.length
    · obtain ⟨p, hp⟩ := some_at hlt
      obtain ⟨_, _, _, e5, -, -, hcl⟩ := HV.out.at
      cases e5
      obtain ⟨b, off, rfl, k0', k1', k2', k3', k4'⟩ := hcl k p hp
      have k0 := cell_later HBW.out k0'
      have k1 := cell_later HBW.out k1'
      have k2 := cell_later HBW.out k2'
      have k3 := cell_later HBW.out k3'
      have k4 := cell_later HBW.out k4'
      have hkI : (k : Int) < (G.length : Int) := by omega
      have HP := Lib.hid hp
      clear hcl hp k0' k1' k2' k3' k4'
      go_upto_region 4 with fail
      go_cut [16] (fun r wx => r = .bool (decide (p.1 = c)) ∧ wx = wk.alloc (.cells #[vi p.1.kind, vi p.1.key, vi p.1.a, vi p.1.b, .bool p.2] 87))
      case first =>
        by_cases hpc : p.1 = c
        · have hd : decide (p.1 = c) = true := by simp [hpc]
          have f0 : (p.1.kind == c.kind) = true := by simp [hpc]
          have f1 : (p.1.key == c.key) = true := by simp [hpc]
          have f2 : (p.1.a == c.a) = true := by simp [hpc]
          have f3 : (p.1.b == c.b) = true := by simp [hpc]
          clear hpc
          go_wp2_with fail
          go_meet
          exact ⟨by rw [hd], rfl⟩
        · have hd : decide (p.1 = c) = false := by simp [hpc]
          by_cases g0 : p.1.kind = c.kind
          case neg =>
            have f0 : (p.1.kind == c.kind) = false := by simp [g0]
            clear hpc g0
            go_wp2_with fail
            go_meet
            exact ⟨by rw [hd], rfl⟩
          have f0 : (p.1.kind == c.kind) = true := by simp [g0]
          have G0 := Lib.hid g0
          clear g0
          by_cases g1 : p.1.key = c.key
          case neg =>
            have f1 : (p.1.key == c.key) = false := by simp [g1]
            clear hpc g1
            go_wp2_with fail
            go_meet
            exact ⟨by rw [hd], rfl⟩
          have f1 : (p.1.key == c.key) = true := by simp [g1]
          have G1 := Lib.hid g1
          clear g1
          by_cases g2 : p.1.a = c.a
          case neg =>
            have f2 : (p.1.a == c.a) = false := by simp [g2]
            clear hpc g2
            go_wp2_with fail
            go_meet
            exact ⟨by rw [hd], rfl⟩
          have f2 : (p.1.a == c.a) = true := by simp [g2]
          have G2 := Lib.hid g2
          clear g2
          by_cases g3 : p.1.b = c.b
          case neg =>
            have f3 : (p.1.b == c.b) = false := by simp [g3]
            clear hpc g3
            go_wp2_with fail
            go_meet
            exact ⟨by rw [hd], rfl⟩
          have f3 : (p.1.b == c.b) = true := by simp [g3]
          have G3 := Lib.hid g3
          clear g3
          exact absurd (GChoice.ext' G0.out G1.out G2.out G3.out) hpc
      case rest =>
        obtain ⟨rfl, rfl⟩ := hcut
        by_cases hpc : p.1 = c
        · have hd : decide (p.1 = c) = true := by simp [hpc]
          have he := Lib.hid (getM_first HP.out hpc HN.out)
          rw [hd]
          clear hpc
          cases hs : p.2 with
          | true =>
            rw [hs] at he
            have hg : getI G c = 1 := by unfold getI; rw [he.out]
            go_wp2_with fail
            go_ret
            exact ⟨by rw [hg]; rfl, HBW.out.trans ((Below.refl wk.heap.size wk).alloc (Nat.le_refl _) _ |>.mono HBW.out.size)⟩
          | false =>
            rw [hs] at he
            have hg : getI G c = 0 := by unfold getI; rw [he.out]
            go_wp2_with fail
            go_ret
            exact ⟨by rw [hg]; rfl, HBW.out.trans ((Below.refl wk.heap.size wk).alloc (Nat.le_refl _) _ |>.mono HBW.out.size)⟩
        · have hd : decide (p.1 = c) = false := by simp [hpc]
          rw [hd]
          have HPC := Lib.hid hpc
          clear hpc
          go_wp2_with fail
          go_roundw
          case rel =>
            refine ⟨k + 1, by omega, by go_num, Lib.hid ?_, HBk.out.alloc hwk _⟩
            intro j q hj hq
            rcases Nat.lt_or_ge j k with h | h
            · exact HN.out j q h hq
            · obtain rfl : j = k := by omega
              rw [HP.out] at hq; cases hq; exact HPC.out
          case measure => simp [intOf]; omega
    · obtain rfl : k = G.length := by omega
      have he : getI G c = -1 := by unfold getI; rw [getM_no HN.out]
      go_wp2_with fail
      go_ret
      exact ⟨by rw [he]; rfl, HBW.out⟩
end Go.Proofs.Ytefpmcbpodlabaa

/- chains.is, chains.Is and crucibleref09.Is. -/
namespace Go.Proofs.Ytefpmcbpodlabaa
open Go.RowKit Go.Maps

theorem isM_sure {ts : List GTxn} {L : FaL} {i : Nat} (h : (sureM ts)[i]? = some true) : isM ts L i = (true, true) := by unfold isM; rw [h]; rfl
theorem isM_dead {ts : List GTxn} {L : FaL} {i : Nat} (h : (sureM ts)[i]? = some false) (hd : deadB ts i = true) : isM ts L i = (false, true) := by unfold isM; rw [h, hd]; rfl
theorem isM_fact {ts : List GTxn} {L : FaL} {i : Nat} (h : (sureM ts)[i]? = some false) (hd : deadB ts i = false) : isM ts L i = ((getM L ⟨1, 0, i, 0⟩).getD false, (getM L ⟨1, 0, i, 0⟩).isSome) := by unfold isM; rw [h, hd]; rfl
theorem deadB_at {ts : List GTxn} {i : Nat} {t : GTxn} (h : ts[i]? = some t) : deadB ts i = (t.state == 2 || ((writesM t.ops).length : Int) == 0) := by
  unfold deadB stOf; rw [h]
  have : (((writesM t.ops).length : Int) == 0) = ((writesM t.ops).length == 0) := by rw [Bool.eq_iff_iff]; simp
  rw [this]; rfl
theorem small_commit {i : Nat} (h : i ≤ 4096) : SmallCh ⟨1, 0, i, 0⟩ := by
  unfold SmallCh i64; simp only; omega

theorem zero_bool (w : World) : (zeroValue 4).run Try.prog w = .ok (.bool false) w := by kernel_rfl

/-- A bool of a row that stands in a block. -/
theorem lookup_fact {w : World} {m : Nat} {L : FaL} (h : MapF w m L) {c : GChoice} (hc : SmallCh c) :
    (Instr.lookup 37 (.map (some m)) (chK c) true).run Try.prog w = .ok (.tuple #[.bool ((getM L c).getD false), .bool (getM L c).isSome]) w ∧ (Instr.lookup 37 (.map (some m)) (chK c) false).run Try.prog w = .ok (.bool ((getM L c).getD false)) w := by
  obtain ⟨kl, hkl⟩ := choiceKey hc
  obtain ⟨h1, h2⟩ := h.lookup choiceKeyed chK_inj (t := 37) (e := 4) Try.underlying37 c hkl (zero_bool w)
  have he : ((getM L c).map Value.bool).getD (.bool false) = .bool ((getM L c).getD false) := by cases getM L c <;> rfl
  rw [he] at h1 h2
  exact ⟨h2, h1⟩

set_option maxRecDepth 100000 in
set_option maxHeartbeats 4000000 in
theorem is_call (v : Value) (ts : List GTxn) (sv : Value) (m : Nat) (L : FaL) (i : Nat) (w : World) (hv : RdTxns w v ts) (hok : OkTxns ts) (htl : ts.length ≤ 4096) (hs : OwBs 0 w sv (sureM ts)) (hm : MapF w m L) (hi : i < ts.length) :
    Calls Try.prog 54 #[v, sv, .map (some m), .int .i64 i] w fun e w' => e = .returned (.tuple #[.bool (isM ts L i).1, .bool (isM ts L i).2]) ∧ Below w.heap.size w w' := by
  have HV := Lib.hid hv
  have HOK := Lib.hid hok
  have HM := Lib.hid hm
  have HS := Lib.hid hs
  obtain ⟨a, len, cap, rfl, rfl, hmm, hcl⟩ := hv.at
  obtain ⟨t, ht⟩ := some_at hi
  obtain ⟨b, off, oa, oc, rfl, hr, k0, k1, k2⟩ := hcl i t ht
  obtain ⟨sa, sc, rfl, hsc⟩ := OwBs.at hs
  have hsl := sureM_length ts
  obtain ⟨x, hx⟩ := some_at (l := sureM ts) (k := i) (by rw [hsl]; exact hi)
  obtain ⟨sb, so, rfl, x0⟩ := hsc i x hx
  rw [hsl]
  have HR := Lib.hid hr
  have HX := Lib.hid hx
  have HD := Lib.hid (deadB_at ht)
  have hok2 := (HOK.out.2 t (List.mem_of_getElem? ht)).2
  have hiI : (i : Int) < (ts.length : Int) := by omega
  clear hv hok hs hm hcl hsc hr hx ht hsl
  go_enter Try.func54, Try.ntmps54
  cases x with
  | true =>
    have he := Lib.hid (isM_sure (L := L) HX.out)
    go_wp2_with fail
    go_ret2
    exact ⟨by rw [he.out]; rfl, Below.refl _ _⟩
  | false =>
    go_upto_region 3 with fail
    go_cut [17] (fun r wx => r = .bool (deadB ts i) ∧ Below w.heap.size w wx)
    case first =>
      by_cases hs2 : t.state = 2
      · have h2 := beq_t hs2
        rw [h2] at HD
        clear hs2
        go_wp2_with fail
        go_meet
        exact ⟨by rw [HD.out]; rfl, Below.refl _ _⟩
      · have h2 := beq_f hs2
        rw [h2] at HD
        clear hs2
        go_wp2_with (go_at_call 43; refine (writes_call t.client t.state _ t.ops _ HR.out hok2).mono ?_; rintro e w2 ⟨v2, rfl, ho2, hb2⟩; have hr2 := ho2.rd; obtain ⟨a2, len2, cap2, rfl, rfl, hm2, -⟩ := hr2.at)
        go_meet
        exact ⟨by rw [HD.out]; first | rfl | simp, hb2⟩
    case rest =>
      obtain ⟨wx, rfl⟩ : ∃ wx : World, wx = wc := ⟨_, rfl⟩
      obtain ⟨rfl, hb⟩ := hcut
      have HB := Lib.hid hb
      cases hd : deadB ts i with
      | true =>
        have he := Lib.hid (isM_dead (L := L) HX.out hd)
        clear hd
        go_wp2_with fail
        go_ret2
        exact ⟨by rw [he.out]; rfl, HB.out⟩
      | false =>
        have he := Lib.hid (isM_fact (L := L) HX.out hd)
        have hl := (lookup_fact (HM.out.below hb HM.out.lt) (small_commit (i := i) (by omega))).1
        clear hd hb
        go_wp2_with fail
        go_ret2
        exact ⟨by rw [he.out]; rfl, HB.out⟩

theorem flat_bools : ∀ S : List Bool, S.flatMap bV = S.map Value.bool
  | [] => rfl
  | x :: S => by rw [List.flatMap_cons, flat_bools S]; rfl
/-- A slice of bools that flaws.Sure made, as an owned row. -/
theorem BoolB.own {w : World} {b : Nat} {S : List Bool} (h : BoolB w b S) (hl : S.length ≤ 4096) : OwBs 0 w (.slice (some ⟨b, 0, none⟩) S.length S.length) S := by
  have hf := flat_bools S
  refine ⟨by rw [hf]; simp, .inr ⟨b, S.length, (S.map Value.bool).toArray, rfl, Nat.zero_le _, h, Nat.le_refl _, by simp [maxLen]; omega, by simp, by rw [hf]; simp [List.take_of_length_le]⟩⟩

set_option maxRecDepth 100000 in
set_option maxHeartbeats 4000000 in
theorem Is_call (v : Value) (ts : List GTxn) (m : Nat) (L : FaL) (i : Nat) (w : World) (hv : RdTxns w v ts) (hok : OkTxns ts) (htl : ts.length ≤ 4096) (hm : MapF w m L) (hi : i < ts.length) :
    Calls Try.prog 33 #[v, .map (some m), .int .i64 i] w fun e w' => e = .returned (.tuple #[.bool (isM ts L i).1, .bool (isM ts L i).2]) ∧ Below w.heap.size w w' := by
  have HV := Lib.hid hv
  have HOK := Lib.hid hok
  have HM := Lib.hid hm
  have hsl := sureM_length ts
  clear hv hok hm
  go_enter Try.func33, Try.ntmps33
  go_wp2_with (first
    | (go_at_call 53; refine (sure_call _ _ _ HV.out HOK.out).mono ?_; rintro e w1 ⟨sb, rfl, hsb, hS, hb1⟩; have HB1 := Lib.hid hb1; have HS := Lib.hid (hS.own (by omega)); rw [hsl] at HS; have HV1 := Lib.hid (HV.out.later hb1); have HM1 := Lib.hid (HM.out.below hb1 HM.out.lt); clear hb1 hS)
    | (go_at_call 54; refine (is_call _ ts _ m L i _ HV1.out HOK.out htl HS.out HM1.out hi).mono ?_; rintro e w2 ⟨rfl, hb2⟩))
  go_ret2
  exact ⟨by rfl, HB1.out.trans (hb2.mono HB1.out.size)⟩

set_option maxRecDepth 100000 in
set_option maxHeartbeats 4000000 in
theorem refIs_call (v g : Value) (ts : List GTxn) (L : FaL) (i : Nat) (w : World) (hv : RdTxns w v ts) (hok : OkTxns ts) (hg : RdSaid w g L) (hi : i < ts.length) :
    Calls Try.prog 60 #[v, g, .int .i64 i] w fun e w' => e = .returned (vi (isI ts L i)) ∧ Below w.heap.size w w' := by
  have HV := Lib.hid hv
  have HOK := Lib.hid hok
  have HG := Lib.hid hg
  obtain ⟨a, len, cap, rfl, rfl, hmm, hcl⟩ := hv.at
  obtain ⟨t, ht⟩ := some_at hi
  obtain ⟨b, off, oa, oc, rfl, hr, k0', k1', k2'⟩ := hcl i t ht
  have HR := Lib.hid hr
  have K0 := Lib.hid k0'
  have K1 := Lib.hid k1'
  have K2 := Lib.hid k2'
  have HD := Lib.hid (deadB_at ht)
  have HSL := Lib.hid (refSureN_length ts ts.length)
  have hok2 := (HOK.out.2 t (List.mem_of_getElem? ht)).2
  have hiI : (i : Int) < (ts.length : Int) := by omega
  clear hv hok hg hcl hr k0' k1' k2' ht
  go_enter Try.func60, Try.ntmps60
  have HI := Lib.hid (show isI ts L i = (if (refSureN ts ts.length)[i]?.getD false then 1 else if deadB ts i then 0 else getI L ⟨1, 0, i, 0⟩) from rfl)
  obtain ⟨x, hx⟩ := some_at (l := refSureN ts ts.length) (k := i) (by rw [HSL.out]; exact hi)
  rw [hx] at HI
  have HX := Lib.hid hx
  clear hx
  cases x with
  | true =>
    go_wp2_with (go_at_call 73; refine (refSure_call _ ts _ HV.out HOK.out).mono ?_; rintro e w1 ⟨sv, rfl, hS, hb1⟩; obtain ⟨sa, sc, hsv, hsc⟩ := OwBs.at hS; rw [HSL.out] at hsv; subst hsv; obtain ⟨sb, so, rfl, x0⟩ := hsc i _ HX.out; have HB1 := Lib.hid hb1; have HG1 := Lib.hid (HG.out.later hb1); have HR1 := Lib.hid (HR.out.later hb1); have k0 := cell_later hb1 K0.out; have k1 := cell_later hb1 K1.out; have k2 := cell_later hb1 K2.out; clear hb1 hS hsc)
    go_ret
    exact ⟨by rw [HI.out]; rfl, HB1.out⟩
  | false =>
    go_upto_region 3 with (go_at_call 73; refine (refSure_call _ ts _ HV.out HOK.out).mono ?_; rintro e w1 ⟨sv, rfl, hS, hb1⟩; obtain ⟨sa, sc, hsv, hsc⟩ := OwBs.at hS; rw [HSL.out] at hsv; subst hsv; obtain ⟨sb, so, rfl, x0⟩ := hsc i _ HX.out; have HB1 := Lib.hid hb1; have HG1 := Lib.hid (HG.out.later hb1); have HR1 := Lib.hid (HR.out.later hb1); have k0 := cell_later hb1 K0.out; have k1 := cell_later hb1 K1.out; have k2 := cell_later hb1 K2.out; clear hb1 hS hsc)
    go_cut [26] (fun r wx => r = .bool (deadB ts i) ∧ Below w1.heap.size w1 wx)
    case first =>
      by_cases hs2 : t.state = 2
      · have h2 := beq_t hs2
        rw [h2] at HD
        clear hs2
        go_wp2_with fail
        go_meet
        exact ⟨by rw [HD.out]; rfl, Below.refl _ _⟩
      · have h2 := beq_f hs2
        rw [h2] at HD
        clear hs2
        go_wp2_with (go_at_call 74; refine (refWrites_call t.client t.state _ t.ops _ HR1.out hok2).mono ?_; rintro e w2 ⟨v2, rfl, ho2, hb2⟩; have hr2 := ho2.rd; obtain ⟨a2, len2, cap2, rfl, rfl, hm2, -⟩ := hr2.at)
        go_meet
        exact ⟨by rw [HD.out]; first | rfl | simp, hb2⟩
    case rest =>
      obtain ⟨wx, rfl⟩ : ∃ wx : World, wx = wc := ⟨_, rfl⟩
      obtain ⟨rfl, hb⟩ := hcut
      have HB := Lib.hid (HB1.out.trans (hb.mono HB1.out.size))
      have HG2 := Lib.hid (HG1.out.later hb)
      clear hb
      cases hd : deadB ts i with
      | true =>
        rw [hd] at HI
        clear hd
        go_wp2_with fail
        go_ret
        exact ⟨by rw [HI.out]; rfl, HB.out⟩
      | false =>
        rw [hd] at HI
        clear hd
        go_wp2_with (go_at_call 92; refine (get_call _ L ⟨1, 0, i, 0⟩ _ HG2.out).mono ?_; rintro e w3 ⟨rfl, hb3⟩)
        go_ret
        exact ⟨by rw [HI.out]; rfl, HB.out.trans (hb3.mono HB.out.size)⟩
end Go.Proofs.Ytefpmcbpodlabaa
