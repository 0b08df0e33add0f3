/- Texts of one proof, one behind the other: MvLay, GdMvSort, ChFixP, ChNil, ChVal, ChEq, ChFix. -/
import Derived.Shelf.SlGeneric
import Derived.Shelf.SlLaysNS
import Derived.Test.YtjpmimanigjjoaaProg
import Derived.Test.YtjpmimanigjjoaaJo13
import Derived.Shelf.SortG.Plain
import Derived.Shelf.SortG.SortNone
import Derived.Sort.OwnSorted
import Derived.Test.YtjpmimanigjjoaaJo7
import Derived.Test.YtjpmimanigjjoaaJo6
import Derived.Test.YtjpmimanigjjoaaJp1
set_option linter.all false
/- Contracts of Go's library, laid at this program. -/
namespace Go.Proofs.Ytjpmimanigjjoaa
open Go.Proofs Go.Shelf
def sortI_ren : Go.Shelf.Ren := ⟨fun | 53 => 59 | 64 => 55 | 63 => 80 | 78 => 76 | 79 => 77 | 70 => 89 | 71 => 90 | 72 => 91 | 73 => 92 | 74 => 93 | 75 => 94 | 59 => 95 | 76 => 96 | 77 => 97 | 88 => 110 | 89 => 85 | 90 => 86 | 91 => 111 | 92 => 112 | 68 => 113 | 96 => 120 | n => n, fun | 22 => 23 | 23 => 3 | 3 => 3 | 51 => 60 | 0 => 0 | 67 => 145 | 69 => 147 | 4 => 4 | 61 => 139 | 60 => 138 | 44 => 116 | 5 => 5 | 9 => 9 | 75 => 156 | 79 => 160 | 83 => 185 | 84 => 186 | n => n, fun | n => n⟩
theorem sortI : Go.Proofs.SlLaysN.n53 Try.prog sortI_ren := {
  mixed := by kernel_rfl,
  f53 := ⟨Try.f59.name, by decide, Try.func59.trans (congrArg some (by kernel_rfl))⟩,
  f59 := ⟨Try.f95.name, by decide, Try.func95.trans (congrArg some (by kernel_rfl))⟩,
  f63 := ⟨Try.f80.name, by decide, Try.func80.trans (congrArg some (by kernel_rfl))⟩,
  f64 := Try.func55.trans (congrArg some (by kernel_rfl)),
  f68 := ⟨Try.f113.name, by decide, Try.func113.trans (congrArg some (by kernel_rfl))⟩,
  f70 := ⟨Try.f89.name, by decide, Try.func89.trans (congrArg some (by kernel_rfl))⟩,
  f71 := ⟨Try.f90.name, by decide, Try.func90.trans (congrArg some (by kernel_rfl))⟩,
  f72 := ⟨Try.f91.name, by decide, Try.func91.trans (congrArg some (by kernel_rfl))⟩,
  f73 := ⟨Try.f92.name, by decide, Try.func92.trans (congrArg some (by kernel_rfl))⟩,
  f74 := ⟨Try.f93.name, by decide, Try.func93.trans (congrArg some (by kernel_rfl))⟩,
  f75 := ⟨Try.f94.name, by decide, Try.func94.trans (congrArg some (by kernel_rfl))⟩,
  f76 := ⟨Try.f96.name, by decide, Try.func96.trans (congrArg some (by kernel_rfl))⟩,
  f77 := ⟨Try.f97.name, by decide, Try.func97.trans (congrArg some (by kernel_rfl))⟩,
  f78 := Try.func76.trans (congrArg some (by kernel_rfl)),
  f79 := Try.func77.trans (congrArg some (by kernel_rfl)),
  f88 := ⟨Try.f110.name, by decide, Try.func110.trans (congrArg some (by kernel_rfl))⟩,
  f89 := Try.func85.trans (congrArg some (by kernel_rfl)),
  f90 := Try.func86.trans (congrArg some (by kernel_rfl)),
  f91 := ⟨Try.f111.name, by decide, Try.func111.trans (congrArg some (by kernel_rfl))⟩,
  f92 := ⟨Try.f112.name, by decide, Try.func112.trans (congrArg some (by kernel_rfl))⟩,
  f96 := ⟨Try.f120.name, by decide, Try.func120.trans (congrArg some (by kernel_rfl))⟩,
  t0 := Try.underlying0,
  a0 := Try.isAgg0,
  z0 := Try.sizeOf0,
  v0 := Try.zeroValue0,
  t3 := Try.underlying3,
  a3 := Try.isAgg3,
  z3 := Try.sizeOf3,
  v3 := Try.zeroValue3,
  t4 := Try.underlying4,
  a4 := Try.isAgg4,
  z4 := Try.sizeOf4,
  v4 := Try.zeroValue4,
  t5 := Try.underlying5,
  a5 := Try.isAgg5,
  z5 := Try.sizeOf5,
  v5 := Try.zeroValue5,
  t9 := Try.underlying9,
  a9 := Try.isAgg9,
  z9 := Try.sizeOf9,
  v9 := Try.zeroValue9,
  t22 := Try.underlying23,
  a22 := Try.isAgg23,
  z22 := Try.sizeOf23,
  v22 := Try.zeroValue23,
  t23 := Try.underlying3,
  a23 := Try.isAgg3,
  z23 := Try.sizeOf3,
  v23 := Try.zeroValue3,
  t44 := Try.underlying116,
  a44 := Try.isAgg116,
  z44 := Try.sizeOf116,
  v44 := Try.zeroValue116,
  t51 := Try.underlying60,
  a51 := Try.isAgg60,
  z51 := Try.sizeOf60,
  v51 := Try.zeroValue60,
  t60 := Try.underlying138,
  a60 := Try.isAgg138,
  z60 := Try.sizeOf138,
  v60 := Try.zeroValue138,
  t61 := Try.underlying139,
  a61 := Try.isAgg139,
  z61 := Try.sizeOf139,
  v61 := Try.zeroValue139,
  t67 := Try.underlying145,
  a67 := Try.isAgg145,
  z67 := Try.sizeOf145,
  v67 := Try.zeroValue145,
  t69 := Try.underlying147,
  a69 := Try.isAgg147,
  z69 := Try.sizeOf147,
  v69 := Try.zeroValue147,
  t75 := Try.underlying156,
  a75 := Try.isAgg156,
  z75 := Try.sizeOf156,
  v75 := Try.zeroValue156,
  t79 := Try.underlying160,
  a79 := Try.isAgg160,
  z79 := Try.sizeOf160,
  v79 := Try.zeroValue160,
  t83 := Try.underlying185,
  a83 := Try.isAgg185,
  z83 := Try.sizeOf185,
  v83 := Try.zeroValue185,
  t84 := Try.underlying186,
  a84 := Try.isAgg186,
  z84 := Try.sizeOf186,
  v84 := Try.zeroValue186 }
end Go.Proofs.Ytjpmimanigjjoaa

/- slices.Sort of a row of ints that the call owns; slices.Sorted over the keys of those who wait. -/
namespace Go.Proofs.Ytjpmimanigjjoaa
open Go.RowKit Go.Maps Go.Sort Go.Shelf Go.Proofs

abbrev encI : Int → Value := Value.int .i64
theorem viC_map (l : List Int) : l.flatMap viC = l.map encI := by
  induction l with
  | nil => rfl
  | cons x l ih => simp [viC, ih]
theorem holdsI {w : World} {g : Nat} {cur : Array Value} {e : TypeId} {l : List Int} (hb : w.heap[g]? = some (.cells cur e (0, 0))) (ht : cur.toList.take l.length = l.map encI) : Holds encI w g 0 l.toArray := by
  intro j hj
  have hj' : j < l.length := by simpa using hj
  refine ⟨?_, by simp [World.frozen?, hb]⟩
  have h1 : cur[j]? = some (encI l[j]) := by
    have h2 : (cur.toList.take l.length)[j]? = (l.map encI)[j]? := by rw [ht]
    rw [List.getElem?_take_of_lt hj', List.getElem?_map, List.getElem?_eq_getElem hj', Array.getElem?_toList] at h2
    exact h2
  have h3 : (⟨g, 0 + j, none⟩ : Addr) = ⟨g, j, none⟩ := by rw [Nat.zero_add]
  rw [h3, cell_ofG hb, h1, getElem!_pos l.toArray j hj]
  simp
theorem grownI {w : World} {g n : Nat} {os : Array Obj} (d : Array Int) : w.grownBy (grow (putRow encI (Sort.ahead w n) g 0 d) os) (some g) := by
  refine ⟨rfl, rfl, rfl, by simp, fun k hk hne => ?_⟩
  have hgk : g ≠ k := fun e => hne (by rw [e])
  rw [heap_grow_old _ _ (by simpa using hk)]
  simp [putRow, mapBlock, Sort.ahead, Array.getElem?_modify, hgk]
theorem sortedI {w : World} {base g cap n : Nat} {e : TypeId} {os : Array Obj} {cur : Array Value} {l l' : List Int} (hl : l'.length = l.length) (hbase : base ≤ g) (hb : w.heap[g]? = some (.cells cur e (0, 0)))
    (h1 : l.length ≤ cap) (h2 : cap ≤ maxLen) (h3 : cur.size = cap * 1) :
    (grow (putRow encI (Sort.ahead w n) g 0 l'.toArray) os).ownsRow base e 1 (.slice (some ⟨g, 0, none⟩) l.length cap) l.length (l'.map encI) := by
  have hg : g < w.heap.size := (Array.getElem?_eq_some_iff.1 hb).1
  have hh : (grow (putRow encI (Sort.ahead w n) g 0 l'.toArray) os).heap[g]? = some (.cells (putCells encI 0 l'.toArray cur) e (0, 0)) := by
    rw [heap_grow_old _ _ (by simpa using hg)]
    simp [putRow, mapBlock, Sort.ahead, Array.getElem?_modify, hb, onCells]
  refine ⟨by simp [hl], .inr ⟨g, cap, _, rfl, hbase, hh, h1, h2, by simp [putCells, h3], ?_⟩⟩
  apply List.ext_getElem?
  intro j
  by_cases hj : j < l.length
  · rw [List.getElem?_take_of_lt (by omega), Array.getElem?_toList, List.getElem?_map, List.getElem?_eq_getElem (show j < l'.length by omega)]
    simp [putCells, show j < l'.length by omega, show j < cur.size by omega]
  · rw [List.getElem?_take_eq_none (by omega), List.getElem?_eq_none (by simp; omega)]

abbrev srt (l : List Int) : List Int := l.mergeSort fun x y => decide (x ≤ y)

set_option maxRecDepth 100000 in
set_option maxHeartbeats 2000000 in
theorem sort_call {base : Nat} (v : Value) (l : List Int) (w : World) (h : OwI base w v l) (hlen : l.length ≤ 1048576) :
    Calls Try.prog 59 #[v] w fun e w' => e = .returned (.tuple #[]) ∧ OwI base w' v (srt l) ∧ w.grownBy w' v.ownBlock := by
  rcases h.2 with ⟨hv, h0⟩ | ⟨g, cap, cur, rfl, hg, hb, h1, h2, h3, h4⟩
  · have hl : l = [] := List.length_eq_zero_iff.1 h0
    subst hl
    subst hv
    have hc := AnyG.slices_Sort_int_none sortI none 0 w
    change Calls Try.prog 59 _ _ _ at hc
    refine hc.mono ?_
    rintro e w' ⟨rfl, rfl⟩
    exact ⟨rfl, by simpa [OwI] using h, ⟨rfl, rfl, rfl, Nat.le_refl _, fun _ _ _ => rfl⟩⟩
  · have h4' : cur.toList.take l.length = l.map encI := by rw [← viC_map]; simpa using h4
    have hc := AnyG.slices_Sort_int sortI g 0 cap l w (holdsI hb h4') (Array.getElem?_eq_some_iff.1 hb).1 (by omega)
    change Calls Try.prog 59 _ _ _ at hc
    refine hc.mono ?_
    rintro e w' ⟨rfl, n, os, rfl⟩
    refine ⟨rfl, ?_, grownI _⟩
    have := sortedI (n := n) (os := os) (l := l) (l' := srt l) (by simp) hg hb h1 h2 h3
    unfold OwI
    rw [viC_map]
    simpa using this

theorem srt_perm (l : List Int) : (srt l).Perm l := List.mergeSort_perm _ _
theorem srt_sorted (l : List Int) : (srt l).Pairwise (fun x y => x ≤ y) := by
  have := List.pairwise_mergeSort (le := fun x y : Int => decide (x ≤ y)) (fun a b c h1 h2 => by simp at *; omega) (fun a b => by simp; omega) l
  exact this.imp (fun h => by simpa using h)

/-- The keys of those who wait, in order. -/
def SortedQ (L : RdyL) (w : World) (e : Ending) (w' : World) : Prop := ∃ v ks, e = .returned v ∧ OwI w.heap.size w' v ks ∧ ks.Perm (L.map (·.1)) ∧ ks.Pairwise (fun x y => x ≤ y) ∧ Below w.heap.size w w'

end Go.Proofs.Ytjpmimanigjjoaa

/- What chains.Fix writes down: plain. -/
namespace Go.Proofs.Ytjpmimanigjjoaa
open Go.RowKit Go.Maps

/-- What is said of who is done, by the first k choices. -/
def Fact0 (ts : List GTxn) (dn : List Bool) (k : Nat) (F : FaL) : Prop := ∀ c, getM F c = if c ∈ (choicesM ts).take k ∧ c.kind = 1 then some (dn[c.a.toNat]?.getD false) else none
def Fact1 (ts : List GTxn) (dn : List Bool) (F : FaL) : Prop := ∀ c : GChoice, c.kind = 1 → getM F c = if c ∈ choicesM ts then some (dn[c.a.toNat]?.getD false) else none
theorem Fact0.nil (ts : List GTxn) (dn : List Bool) : Fact0 ts dn 0 [] := fun c => by simp [getM_nil]
theorem Fact0.skip {ts : List GTxn} {dn : List Bool} {k : Nat} {F : FaL} {c : GChoice} (h : Fact0 ts dn k F) (hc : (choicesM ts)[k]? = some c) (hk : c.kind ≠ 1) : Fact0 ts dn (k + 1) F := fun d => by
  rw [h d, List.take_add_one, hc]
  by_cases hd : d = c
  · subst hd; simp [hk]
  · simp [hd]
theorem Fact0.put {ts : List GTxn} {dn : List Bool} {k : Nat} {F : FaL} {c : GChoice} {b : Bool} (h : Fact0 ts dn k F) (hc : (choicesM ts)[k]? = some c) (hk : c.kind = 1) (hb : b = dn[c.a.toNat]?.getD false) : Fact0 ts dn (k + 1) (putM F c b) := fun d => by
  rw [getM_put, List.take_add_one, hc]
  by_cases hd : c = d
  · subst hd; simp [hk, hb]
  · rw [if_neg hd, h d]
    simp [show ¬ d = c from fun e => hd e.symm]
theorem Fact0.full {ts : List GTxn} {dn : List Bool} {F : FaL} (h : Fact0 ts dn (choicesM ts).length F) : Fact1 ts dn F := fun c hc => by
  rw [h c, List.take_length]; simp [hc]
theorem Fact1.put {ts : List GTxn} {dn : List Bool} {F : FaL} (h : Fact1 ts dn F) (key a b : Int) (so : Bool) : Fact1 ts dn (putM F ⟨2, key, a, b⟩ so) := fun c hc => by
  rw [getM_put, if_neg (fun e => by subst e; simp at hc), h c hc]

/-- Who is done and writes a key, by a list of who is done. -/
def wantL (ts : List GTxn) (dn : List Bool) (key : Int) (n : Nat) : List Int := (List.range n).filterMap (fun i => if dn[i]?.getD false && wrOf ts i key then some (i : Int) else none)
theorem wantL_succ (ts : List GTxn) (dn : List Bool) (key : Int) (n : Nat) : wantL ts dn key (n + 1) = wantL ts dn key n ++ (if dn[n]?.getD false && wrOf ts n key then [(n : Int)] else []) := by
  unfold wantL
  rw [List.range_succ, List.filterMap_append]
  congr 1
  cases h : (dn[n]?.getD false && wrOf ts n key) with
  | true => simp only [List.filterMap_cons, List.filterMap_nil, h, if_true]
  | false => simp only [List.filterMap_cons, List.filterMap_nil, h]; rfl
theorem wantL_le (ts : List GTxn) (dn : List Bool) (key : Int) (n : Nat) : (wantL ts dn key n).length ≤ n := by
  have := List.length_filterMap_le (fun i => if dn[i]?.getD false && wrOf ts i key then some (i : Int) else none) (List.range n)
  simpa [wantL] using this
theorem wantL_mem {ts : List GTxn} {dn : List Bool} {key x : Int} {n : Nat} : x ∈ wantL ts dn key n ↔ ∃ i : Nat, i < n ∧ x = i ∧ (dn[i]?.getD false && wrOf ts i key) = true := by
  unfold wantL
  rw [List.mem_filterMap]
  constructor
  · rintro ⟨i, hi, h⟩
    rw [List.mem_range] at hi
    split at h
    · rename_i h1
      simp at h
      exact ⟨i, hi, h.symm, h1⟩
    · simp at h
  · rintro ⟨i, hi, rfl, h⟩
    exact ⟨i, List.mem_range.2 hi, by rw [if_pos h]⟩
theorem wantL_nodup (ts : List GTxn) (dn : List Bool) (key : Int) : ∀ n, (wantL ts dn key n).Nodup := by
  intro n
  induction n with
  | zero => simp [wantL]
  | succ n ih =>
    rw [wantL_succ, List.nodup_append]
    refine ⟨ih, by split <;> simp, fun x hx y hy => ?_⟩
    obtain ⟨i, h1, rfl, _⟩ := wantL_mem.1 hx
    split at hy
    · simp at hy; subst hy; omega
    · simp at hy

/-- The pairs of a list that are said: those whose later one stands at a place below k, and at k with those below j. -/
def PrT (F : FaL) (key : Int) (l : List Int) (k j : Nat) : Prop := ∀ (b a : Nat) (x y : Int), a < b → (b < k ∨ b = k ∧ a < j) → l[a]? = some x → l[b]? = some y → getM F ⟨2, key, min x y, max x y⟩ = some (decide (x < y))
theorem PrT.start (F : FaL) (key : Int) (l : List Int) : PrT F key l 0 0 := fun b a x y h1 h2 => by omega
theorem PrT.next {F : FaL} {key : Int} {l : List Int} {k : Nat} (h : PrT F key l k k) : PrT F key l (k + 1) 0 := fun b a x y h1 h2 h3 h4 => h b a x y h1 (by omega) h3 h4
theorem nodup_at {l : List Int} (hn : l.Nodup) {i j : Nat} {x : Int} (hi : l[i]? = some x) (hj : l[j]? = some x) : i = j := by
  obtain ⟨a1, a2⟩ := List.getElem?_eq_some_iff.1 hi
  obtain ⟨b1, b2⟩ := List.getElem?_eq_some_iff.1 hj
  exact (List.getElem_inj (h₀ := a1) (h₁ := b1) hn).1 (by rw [a2, b2])
theorem PrT.put {F : FaL} {key a b : Int} {l : List Int} {k j : Nat} (hn : l.Nodup) (h : PrT F key l k j) (ha : l[j]? = some a) (hb : l[k]? = some b) (hjk : j < k) : PrT (putM F ⟨2, key, min a b, max a b⟩ (decide (a < b))) key l k (j + 1) := fun b' a' x y h1 h2 h3 h4 => by
  rw [getM_put]
  by_cases he : (⟨2, key, min a b, max a b⟩ : GChoice) = ⟨2, key, min x y, max x y⟩
  · rw [if_pos he]
    injection he with _ _ e1 e2
    have hab : a ≠ b := fun e => by subst e; have := nodup_at hn ha hb; omega
    have hxy : x ≠ y := fun e => by subst e; have := nodup_at hn h3 h4; omega
    by_cases hx : x = a
    · subst hx
      have hy : y = b := by omega
      subst hy; rfl
    · have h5 : x = b := by omega
      have h6 : y = a := by omega
      subst h5 h6
      have i1 := nodup_at hn h3 hb
      have i2 := nodup_at hn h4 ha
      omega
  · rw [if_neg he]
    refine h b' a' x y h1 ?_ h3 h4
    rcases h2 with h2 | ⟨h2, h5⟩
    · exact .inl h2
    · right
      refine ⟨h2, ?_⟩
      rcases Nat.lt_or_ge a' j with h6 | h6
      · exact h6
      · have h7 : a' = j := by omega
        subst h7 h2
        rw [ha] at h3; cases h3
        rw [hb] at h4; cases h4
        exact absurd rfl he
theorem PrT.other {F : FaL} {key key' a b : Int} {so : Bool} {l : List Int} {k j : Nat} (h : PrT F key' l k j) (hne : key ≠ key') : PrT (putM F ⟨2, key, a, b⟩ so) key' l k j := fun b' a' x y h1 h2 h3 h4 => by
  rw [getM_put, if_neg (fun e => by injection e with _ e1; exact hne e1)]
  exact h b' a' x y h1 h2 h3 h4

abbrev OrdL := List (Int × (Value × List Int))
def ordL (O : OrdL) (key : Int) : List Int := ((getM O key).map (·.2)).getD []
theorem ordL_of {O : OrdL} {key : Int} {p : Value × List Int} (h : getM O key = some p) : ordL O key = p.2 := by unfold ordL; rw [h]; rfl
/-- The orders of the first n keys are orders of those who are done and write them. -/
def GoodK (ts : List GTxn) (dn : List Bool) (O : OrdL) (n : Nat) : Prop := ∀ key : Nat, key < n → srt (ordL O key) = wantL ts dn key ts.length
theorem GoodK.next {ts : List GTxn} {dn : List Bool} {O : OrdL} {n : Nat} (h : GoodK ts dn O n) (h1 : srt (ordL O n) = wantL ts dn n ts.length) : GoodK ts dn O (n + 1) := fun key hk => by
  rcases Nat.lt_or_ge key n with h2 | h2
  · exact h key h2
  · obtain rfl : key = n := by omega
    exact h1
theorem srt_nodup {ts : List GTxn} {dn : List Bool} {key : Int} {n : Nat} {l : List Int} (h : srt l = wantL ts dn key n) : l.Nodup := (srt_perm l).nodup_iff.1 (by rw [h]; exact wantL_nodup _ _ _ _)
end Go.Proofs.Ytjpmimanigjjoaa

/- chains.is and chains.Is by no facts; who is done, as the law takes it. -/
namespace Go.Proofs.Ytjpmimanigjjoaa
open Go.RowKit Go.Maps

theorem lookup_nil (w : World) {c : GChoice} (hc : SmallCh c) : (Instr.lookup 29 (.map none) (chK c) true).run Try.prog w = .ok (.tuple #[.bool false, .bool false]) w := by
  obtain ⟨kl, hkl⟩ := choiceKey hc
  have hf : (Instr.findKey 43 (chK c) []).run Try.prog w = .ok none w := by
    rcases choiceKeyed.find w hkl [] (fun y hy => by simp at hy) with h | ⟨j, e0, _, h2, _⟩
    · exact h.1
    · simp at h2
  simp [Instr.lookup, run_underlying Try.underlying29, choiceKeyed.check w _ hkl, hf, zero_bool, Result.andThen]

set_option maxRecDepth 100000 in
set_option maxHeartbeats 4000000 in
theorem isnil_call (v : Value) (ts : List GTxn) (sv : Value) (i : Nat) (w : World) (hv : RdTxns w v ts) (hok : OkTxns ts) (htl : ts.length ≤ 4096) (hs : OwBs 0 w sv (sureM ts)) (hi : i < ts.length) :
    Calls Try.prog 28 #[v, sv, .map none, .int .i64 i] w fun e w' => e = .returned (.tuple #[.bool (isM ts [] i).1, .bool (isM ts [] i).2]) ∧ Below w.heap.size w w' := by
  have HV := Lib.hid hv
  have HOK := Lib.hid hok
  have HS := Lib.hid hs
  obtain ⟨a, len, cap, rfl, rfl, hmm, hcl⟩ := hv.at
  obtain ⟨t, ht⟩ := some_at hi
  obtain ⟨b, off, oa, oc, rfl, hr, k0, k1, k2⟩ := hcl i t ht
  obtain ⟨sa, sc, rfl, hsc⟩ := OwBs.at hs
  have hsl := sureM_length ts
  obtain ⟨x, hx⟩ := some_at (l := sureM ts) (k := i) (by rw [hsl]; exact hi)
  obtain ⟨sb, so, rfl, x0⟩ := hsc i x hx
  rw [hsl]
  have HR := Lib.hid hr
  have HX := Lib.hid hx
  have HD := Lib.hid (deadB_at ht)
  have hok2 := (HOK.out.2 t (List.mem_of_getElem? ht)).2
  have hiI : (i : Int) < (ts.length : Int) := by omega
  clear hv hok hs hcl hsc hr hx ht hsl
  go_enter Try.func28, Try.ntmps28
  cases x with
  | true =>
    have he := Lib.hid (isM_sure (L := []) HX.out)
    go_wp2_with fail
    go_ret2
    exact ⟨by rw [he.out]; rfl, Below.refl _ _⟩
  | false =>
    go_upto_region 3 with fail
    go_cut [17] (fun r wx => r = .bool (deadB ts i) ∧ Below w.heap.size w wx)
    case first =>
      by_cases hs2 : t.state = 2
      · have h2 := beq_t hs2
        rw [h2] at HD
        clear hs2
        go_wp2_with fail
        go_meet
        exact ⟨by rw [HD.out]; rfl, Below.refl _ _⟩
      · have h2 := beq_f hs2
        rw [h2] at HD
        clear hs2
        go_wp2_with (go_at_call 36; refine (writes_call t.client t.state _ t.ops _ HR.out hok2).mono ?_; rintro e w2 ⟨v2, rfl, ho2, hb2⟩; have hr2 := ho2.rd; obtain ⟨a2, len2, cap2, rfl, rfl, hm2, -⟩ := hr2.at)
        go_meet
        exact ⟨by rw [HD.out]; first | rfl | simp, hb2⟩
    case rest =>
      obtain ⟨wx, rfl⟩ : ∃ wx : World, wx = wc := ⟨_, rfl⟩
      obtain ⟨rfl, hb⟩ := hcut
      have HB := Lib.hid hb
      cases hd : deadB ts i with
      | true =>
        have he := Lib.hid (isM_dead (L := []) HX.out hd)
        clear hd
        go_wp2_with fail
        go_ret2
        exact ⟨by rw [he.out]; rfl, HB.out⟩
      | false =>
        have he := Lib.hid (isM_fact (L := []) HX.out hd)
        have hl := lookup_nil wx (small_commit (i := i) (by omega))
        clear hd hb
        go_wp2_with fail
        go_ret2
        exact ⟨by rw [he.out]; rfl, HB.out⟩

set_option maxRecDepth 100000 in
set_option maxHeartbeats 4000000 in
theorem IsNil_call (v : Value) (ts : List GTxn) (i : Nat) (w : World) (hv : RdTxns w v ts) (hok : OkTxns ts) (htl : ts.length ≤ 4096) (hi : i < ts.length) :
    Calls Try.prog 18 #[v, .map none, .int .i64 i] w fun e w' => e = .returned (.tuple #[.bool (isM ts [] i).1, .bool (isM ts [] i).2]) ∧ Below w.heap.size w w' := by
  have HV := Lib.hid hv
  have HOK := Lib.hid hok
  have hsl := sureM_length ts
  clear hv hok
  go_enter Try.func18, Try.ntmps18
  go_wp2_with (first
    | (go_at_call 27; refine (sure_call _ _ _ HV.out HOK.out).mono ?_; rintro e w1 ⟨sb, rfl, hsb, hS, hb1⟩; have HB1 := Lib.hid hb1; have HS := Lib.hid (hS.own (by omega)); rw [hsl] at HS; have HV1 := Lib.hid (HV.out.later hb1); clear hb1 hS)
    | (go_at_call 28; refine (isnil_call _ ts _ i _ HV1.out HOK.out htl HS.out hi).mono ?_; rintro e w2 ⟨rfl, hb2⟩))
  go_ret2
  exact ⟨by rfl, HB1.out.trans (hb2.mono HB1.out.size)⟩


/-- What the law takes of who is done: what is known stays. -/
def MineOK (ts : List GTxn) (L : List Bool) (k : Nat) : Prop := ∀ i, i < k → (isM ts [] i).2 = true → L[i]?.getD false = (isM ts [] i).1
theorem isM_two (ts : List GTxn) (F : FaL) (i : Nat) (h : (isM ts [] i).2 = true) : isM ts F i = isM ts [] i := by
  unfold isM at h ⊢
  cases hs : (sureM ts)[i]?.getD false with
  | true => rfl
  | false =>
    rw [hs] at h
    cases hd : deadB ts i with
    | true => rfl
    | false => rw [hd] at h; simp [getM_nil] at h
theorem isM_mine {ts : List GTxn} (hg : GoodTs ts) {L : List Bool} (hm : MineOK ts L ts.length) {F : FaL} (hF : Fact1 ts L F) {i : Nat} (hi : i < ts.length) : isM ts F i = (L[i]?.getD false, true) := by
  cases hk : (isM ts [] i).2 with
  | true =>
    rw [isM_two ts F i hk, hm i hi hk, ← hk]
  | false =>
    obtain ⟨h1, _⟩ := open_choice hg hi hk
    have h2 := hF ⟨1, 0, i, 0⟩ rfl
    rw [if_pos h1] at h2
    unfold isM at hk ⊢
    cases hs : (sureM ts)[i]?.getD false with
    | true => rw [hs] at hk; simp at hk
    | false =>
      rw [hs] at hk
      cases hd : deadB ts i with
      | true => rw [hd] at hk; simp at hk
      | false =>
        rw [h2]
        simp
/-- By facts that Fix made all choices are said or don't count. -/
theorem next_fixed {ts : List GTxn} (hg : GoodTs ts) {L : List Bool} (hm : MineOK ts L ts.length) {F : FaL} (hF : Fact1 ts L F) {ord : Int → List Int}
    (hO : ∀ key : Nat, key < 16 → (ord key).Perm (wantL ts L key ts.length)) (hP : ∀ key : Nat, key < 16 → PrT F key (ord key) (ord key).length 0) : nextM ts F = none := by
  unfold nextM
  rw [List.find?_eq_none]
  intro c hc ho
  unfold openC at ho
  simp only [Bool.and_eq_true, Option.isNone_iff_eq_none] at ho
  obtain ⟨hn, ho⟩ := ho
  have hok := choicesM_ok hc
  rcases hok.kind with ⟨h1, _, _⟩ | ⟨h1, hab⟩
  · rw [hF c h1, if_pos hc] at hn; cases hn
  · have hc2 : c ∈ befK ts 16 := by
      unfold choicesM at hc
      rw [List.mem_append] at hc
      rcases hc with hc | hc
      · obtain ⟨i, _, _, rfl⟩ := cmS_mem hc; simp at h1
      · exact hc
    unfold befK at hc2
    rw [List.mem_flatMap] at hc2
    obtain ⟨key, hkey, hc3⟩ := hc2
    rw [List.mem_range] at hkey
    unfold befB at hc3
    rw [List.mem_flatMap] at hc3
    obtain ⟨b, hb, hc4⟩ := hc3
    rw [List.mem_range] at hb
    unfold befA at hc4
    rw [List.mem_filterMap] at hc4
    obtain ⟨a, ha, hc5⟩ := hc4
    rw [List.mem_range] at ha
    split at hc5
    · rename_i hcond
      simp at hc5
      subst hc5
      unfold condB at hcond
      simp only [Bool.and_eq_true] at hcond
      simp at ho
      rw [isM_mine hg hm hF (show a < ts.length by omega), isM_mine hg hm hF hb] at ho
      have hA : (a : Int) ∈ ord key := (hO key hkey).mem_iff.2 (wantL_mem.2 ⟨a, by omega, rfl, by simp [hcond.1.2]; exact ho.1⟩)
      have hB : (b : Int) ∈ ord key := (hO key hkey).mem_iff.2 (wantL_mem.2 ⟨b, hb, rfl, by simp [hcond.2]; exact ho.2⟩)
      obtain ⟨i, hi⟩ := List.mem_iff_getElem?.1 hA
      obtain ⟨j, hj⟩ := List.mem_iff_getElem?.1 hB
      have hil := (List.getElem?_eq_some_iff.1 hi).1
      have hjl := (List.getElem?_eq_some_iff.1 hj).1
      have hij : i ≠ j := fun e => by subst e; rw [hi] at hj; have := Option.some.inj hj; omega
      rcases Nat.lt_or_gt_of_ne hij with h | h
      · have := hP key hkey j i a b h (.inl hjl) hi hj
        rw [show min (a : Int) b = a by omega, show max (a : Int) b = b by omega] at this
        rw [this] at hn; cases hn
      · have := hP key hkey i j b a h (.inl hil) hj hi
        rw [show min (b : Int) a = a by omega, show max (b : Int) a = b by omega] at this
        rw [this] at hn; cases hn
    · simp at hc5
theorem wrl_fixed {ts : List GTxn} (hg : GoodTs ts) {L : List Bool} (hm : MineOK ts L ts.length) {F : FaL} (hF : Fact1 ts L F) (key : Int) : wrl ts F key = wantL ts L key ts.length := by
  have h : ∀ n, n ≤ ts.length → wrlK ts F key n = wantL ts L key n := by
    intro n
    induction n with
    | zero => intro _; rfl
    | succ n ih =>
      intro hn
      have hi : inW ts F key n = (L[n]?.getD false && wrOf ts n key) := by unfold inW; rw [isM_mine hg hm hF (show n < ts.length by omega)]
      rw [wrlK_succ, wantL_succ, ih (by omega), hi]
  exact h _ (Nat.le_refl _)
/-- The order that chains.Chain tells by facts that Fix made is the order that was given. -/
theorem pr_pair {F : FaL} {key : Int} {l : List Int} (hn : l.Nodup) (h : PrT F key l l.length 0) : l.Pairwise (fun x y => aheadOf F key x y = true) := by
  rw [List.pairwise_iff_getElem]
  intro i j hi hj hij
  have h1 := h j i _ _ hij (.inl hj) (List.getElem?_eq_getElem hi) (List.getElem?_eq_getElem hj)
  have hne : l[i] ≠ l[j] := fun e => by
    have := (List.getElem_inj (h₀ := hi) (h₁ := hj) hn).1 e
    omega
  unfold aheadOf
  rw [h1]
  simp only [Bool.and_eq_true, bne_iff_ne, ne_eq, beq_self_eq_true, and_true]
  exact fun e => hne e.symm
theorem pair_eq {F : FaL} {key : Int} : ∀ {l E : List Int}, l.Perm E → l.Pairwise (fun x y => aheadOf F key x y = true) → E.Pairwise (fun x y => aheadOf F key x y = true) → l = E := fun {l E} p h1 h2 =>
  p.eq_of_pairwise (fun a b _ _ ha hb => by rw [aheadOf_asy F key a b ha] at hb; cases hb) h1 h2
theorem chain_fixed {ts : List GTxn} (hg : GoodTs ts) {L : List Bool} (hm : MineOK ts L ts.length) {F : FaL} (hF : Fact1 ts L F) {key : Int} {l : List Int} (hl : l.Perm (wantL ts L key ts.length)) (hP : PrT F key l l.length 0) :
    onceB F key (wrl ts F key) = true ∧ ∀ E, (wrl ts F key).Perm E → E.Pairwise (fun x y => aheadOf F key x y = true) → E = l := by
  have hn : l.Nodup := hl.nodup_iff.2 (wantL_nodup _ _ _ _)
  have h1 := pr_pair hn hP
  have p : (wrl ts F key).Perm l := by rw [wrl_fixed hg hm hF]; exact hl.symm
  exact ⟨chain_once p h1, fun E p2 h2 => pair_eq (p2.symm.trans p) h2 h1⟩
end Go.Proofs.Ytjpmimanigjjoaa

/- slices.Values, AppendSeq, Collect at ints. -/
namespace Go.Proofs.Ytjpmimanigjjoaa
open Go.RowKit Go.Shelf Go.Maps
attribute [local go_sem] Oper.semAt_some

theorem take_atV {l : List Int} {k : Nat} {x : Int} (h : l[k]? = some x) : l.take (k + 1) = l.take k ++ [x] := by rw [List.take_add_one, h]; rfl

set_option maxRecDepth 100000 in
set_option maxHeartbeats 2000000 in
theorem values1_in (F : Fence) (n : Nat) (hF : F.fn 60) (hro : F.round = none) (hn : 1 ≤ n) (lp Bs n₀ : Nat) (a : Option Addr) (cap : Nat) (l : List Int) (hl : l.length ≤ 1048576) (J Jx : List Int → World → Prop)
    (hY : ∀ pre x W, J pre W → pre.length < l.length → YieldAt F (n - 1) Try.prog lp (encK x) W fun e W' =>
      (e = .returned (.bool true) ∧ J (pre ++ [x]) W' ∧ Below n₀ W W') ∨ (e = .returned (.bool false) ∧ Jx (pre ++ [x]) W'))
    (W : World) (hBs : W.cell? ⟨Bs, 0, none⟩ = some (.slice a l.length cap))
    (hc : ∀ j x, l[j]? = some x → ∃ b off, a = some ⟨b, off, none⟩ ∧ b < n₀ ∧ W.cell? ⟨b, off + j, none⟩ = some (vi x)) (h0 : J [] W) :
    CallsIn F n Try.prog 60 #[.func (.yield lp) #[] #[], .pointer (some ⟨Bs, 0, none⟩)] W fun e W' => (∃ v, e = .returned v) ∧
      ((∃ ys, ys = l ∧ J ys W') ∨ (∃ pre : List Int, True ∧ Jx pre W')) := by
  have HC := Lib.hid hc
  have HY := Lib.hid hY
  clear hc hY
  refine callsIn_of_wp Try.func60 rfl hF ?_ hro
  simp only [Try.ntmps60, List.size_toArray, List.length_cons, List.length_nil, Nat.reduceAdd, Nat.reduceSub, Array.replicate_succ, Array.replicate_zero, List.push_toArray, List.append_toArray, List.nil_append, List.cons_append]
  gi_wp2
  gi_loopw [4, 7] (fun _ i wr => ∃ k : Nat, k ≤ l.length ∧ i = .int .i64 k ∧ J (l.take k) wr ∧ Below n₀ W wr) (fun _ i _ => l.length - (intOf i).toNat)
  case atStart => exact ⟨0, Nat.zero_le _, rfl, by simpa using h0, Below.refl _ _⟩
  case round =>
    obtain ⟨k, hk, rfl, hJs, hkp⟩ := hrel
    have HKP := Lib.hid hkp
    have HJS := Lib.hid hJs
    clear hkp hJs
    by_cases hlt : k < l.length
    · obtain ⟨x, hx⟩ := some_at hlt
      obtain ⟨b, off, rfl, hb, k0'⟩ := HC.out k x hx
      have k0 := (HKP.out.cell (p := ⟨b, off + k, none⟩) hb).trans k0'
      obtain ⟨fn, tmps, assign, body, hy, hR⟩ := HY.out _ x wr HJS.out (by rw [List.length_take]; omega)
      have HT := Lib.hid (take_atV hx)
      have hki : (k : Int) < (l.length : Int) := by omega
      have wk1 : IntKind.i64.wrap ((k : Int) + 1) = ((k + 1 : Nat) : Int) := by rw [IntWalk.i64_in _ (by omega)]; omega
      clear k0' hx
      gi_wp2
      refine hR.mono ?_
      rintro e W3 (⟨rfl, hJ3, hk3⟩ | ⟨rfl, hJx3⟩)
      · have HK4 := Lib.hid (HKP.out.trans hk3)
        have HJ3 := Lib.hid hJ3
        clear hk3 hJ3
        gi_wp2
        go_roundw
        case rel => exact ⟨k + 1, by omega, rfl, by rw [HT.out]; exact HJ3.out, HK4.out⟩
        case measure => simp [intOf]; omega
      · have HX := Lib.hid hJx3
        clear hJx3
        gi_wp2
        refine bodyPost_ret (results_none rfl _ _ _) rfl ?_
        exact ⟨⟨_, rfl⟩, .inr ⟨_, trivial, HX.out⟩⟩
    · obtain rfl : k = l.length := by omega
      gi_wp2
      go_end0
      exact ⟨⟨_, rfl⟩, .inl ⟨_, rfl, by have := HJS.out; rwa [List.take_length] at this⟩⟩
theorem values_seq (F : Fence) (n : Nat) (hF : F.fn 60) (hro : F.round = none) (hn : 1 ≤ n) {Bs n₀ : Nat} {a : Option Addr} {cap : Nat} {l : List Int} {w : World} (hl : l.length ≤ 1048576) (hn₀ : n₀ ≤ w.heap.size)
    (hb : w.cell? ⟨Bs, 0, none⟩ = some (.slice a l.length cap)) (hc : ∀ j x, l[j]? = some x → ∃ b off, a = some ⟨b, off, none⟩ ∧ b < n₀ ∧ w.cell? ⟨b, off + j, none⟩ = some (vi x)) :
    SeqStopsK F n Try.prog 60 #[.pointer (some ⟨Bs, 0, none⟩)] encK (Below n₀) (fun ys => ys = l) (fun _ => True) l.length w := fun lp J Jx W hW hJ _ hY h0 =>
  values1_in F n hF hro hn lp Bs n₀ a cap l hl J Jx hY W (cell_later hW hb) (fun j x hj => by
    obtain ⟨b, off, h1, h2, h3⟩ := hc j x hj
    exact ⟨b, off, h1, h2, cell_later hW h3⟩) h0
theorem ownsRow_succY {w : World} {base e size n : Nat} {v : Value} {xs : List Value} (h : w.ownsRow base e size v (n + 1) xs) : ∃ g c, v = .slice (some ⟨g, 0, none⟩) (n + 1) c := by
  obtain ⟨a, c, rfl, h2⟩ := own_shapeY h
  obtain ⟨g, rfl, _⟩ := h2 (by omega)
  exact ⟨g, c, rfl⟩

set_option maxRecDepth 100000 in
set_option maxHeartbeats 4000000 in
theorem appendSeqV_call {Bs : Nat} {a : Option Addr} {cap : Nat} {l : List Int} (w : World) (hb : w.cell? ⟨Bs, 0, none⟩ = some (.slice a l.length cap)) (hc : ∀ j x, l[j]? = some x → ∃ b off, a = some ⟨b, off, none⟩ ∧ w.cell? ⟨b, off + j, none⟩ = some (vi x)) (hL : l.length ≤ 1048576) :
    Calls Try.prog 79 #[.slice none 0 0, .func (.func 60) #[] #[.pointer (some ⟨Bs, 0, none⟩)]] w fun e w' => ∃ v, e = .returned v ∧ OwI w.heap.size w' v l ∧ Below w.heap.size w w' := by
  have HB := Lib.hid ((Below.refl w.heap.size w).alloc (Nat.le_refl _) (.cells #[.slice none 0 0] 23))
  have HX := Lib.hid (alloc_atG w (.cells #[.slice none 0 0] 23))
  have HQ := Lib.hid (values_seq Fence.wide 7 trivial rfl (by omega) (n₀ := w.heap.size) (w := w.alloc (.cells #[.slice none 0 0] 23)) hL (by simp) (cell_later HB.out hb) (fun j x hj => by obtain ⟨b, off, h1, h2⟩ := hc j x hj; exact ⟨b, off, h1, World.block_lt_of_cell? w _ h2, cell_later HB.out h2⟩))
  have hs0 : (w.alloc (.cells #[.slice none 0 0] 23)).heap.size = w.heap.size + 1 := by simp
  clear hb hc
  refine (callsIn_wide (n := 8)).1 ?_
  refine callsIn_of_wp_marks Try.func79 rfl trivial ?_ rfl
  simp only [Try.ntmps79, List.size_toArray, List.length_cons, List.length_nil, Nat.reduceAdd, Nat.reduceSub, Array.replicate_succ, Array.replicate_zero, List.push_toArray, List.append_toArray, List.nil_append, List.cons_append]
  gi_wp2_with fail
  generalize w.alloc (.cells #[.slice none 0 0] 23) = w0 at *
  refine wpIn_rangeFunc_ownH rfl (by omega) (gf := 60) (lb := #[.pointer (some ⟨Bs, 0, none⟩)]) rfl trivial (enters_of Try.func60 (by kernel_rfl) rfl)
    HQ.out Below.trans (belowK_b (by omega)) (Below.refl _ _) (fun _ => rfl)
    (fun pre W => StL w pre W)
    (fun _ _ _ => False)
    (fun pre A B row hs hg hr => stL_own (base := w0.heap.size) (by omega) hs hg hr)
    (fun _ pre A B row hs _ _ => hs) ⟨⟨_, HX.out, World.ownsRow_nil _ _ _ _⟩, by omega, HB.out⟩
    (fun x a' W => a' = { tmps := #[.slice none 0 0, .func (.func 60) #[] #[.pointer (some ⟨Bs, 0, none⟩)], .pointer (some ⟨w.heap.size, 0, none⟩), undef, .slice none 0 0, vi x, .func (.func 60) #[] #[.pointer (some ⟨Bs, 0, none⟩)], vi x, undef, undef, undef, undef, undef], defers := [] })
    (fun x a' u A B row hs hg hr => hs)
    ?assign ?body ?done (fun _ _ _ _ _ _ h _ => h.elim)
  case assign =>
    rintro lp pre x W K h2 hK
    gi_wp2
    exact hK _ _ ((⟨Nat.le_refl _, fun _ _ h _ => h⟩ : KeepsOthers W W).from _) (Below.refl _ _) h2 rfl
  case body =>
    rintro lp pre x a' W hlp hrec h2 rfl hlen
    have HH := Lib.hid h2
    obtain ⟨vo, ho, hrow⟩ := h2.out
    have co : W.cell? ⟨w.heap.size, 0, none⟩ = some vo := cell_ofG ho 0
    have HROW := Lib.hid hrow
    have HO := Lib.hid ho
    have hsW := h2.size
    have hlW : (W.alloc (.cells #[vi x] 3)).heap.size = W.heap.size + 1 := by simp
    clear h2 hrow ho hrec
    gi_wp2_with (gi_at_builtin; refine wpListIn_append_src rfl _ _ 23 rfl eltI (w.heap.size + 1) pre.length _ (World.ownsRow.alloc HROW.out _) rfl 1 (viC x) (src_new (cs := #[vi x]) rfl rfl) rfl (by intro u hu; simp [viC] at hu; subst hu; rfl) (by omega) (by omega) (by omega) ?_; intro v' w1 hown' hgrow _; obtain ⟨g', cap', rfl⟩ := ownsRow_succY hown'; have q0 : w1.heap[w.heap.size]? = some (.cells #[vo] 23) := (hgrow.block w.heap.size (by omega) (fun e => by have := (World.ownsRow.lt HROW.out _ e.symm).1; omega)).trans ((Below.heap_alloc _ _ _ (by omega)).trans HO.out); have q1 : w1.cell? ⟨w.heap.size, 0, none⟩ = some vo := cell_ofG q0 0; have q2 : w1.frozen? ⟨w.heap.size, 0, none⟩ = false := free_of q0 0)
    have hk := keeps_put (v' := .slice (some ⟨g', 0, none⟩) (pre.length + 1) cap') (a := ⟨w.heap.size, 0, none⟩) HROW.out ⟨_, _, HO.out⟩ hgrow
    exact ⟨hk.from _, (((Below.refl w.heap.size W).alloc (by omega) _).grown hgrow (by omega) (fun j hj => by have := (World.ownsRow.lt HROW.out j hj).1; omega)).setCell (Nat.le_refl _) _, stL_put HH.out HROW.out HO.out hgrow hown'⟩
  case done =>
    rintro D ys W hD hys h1 hK
    have HK := Lib.hid hK
    have HH := Lib.hid h1
    have HP := Lib.hid hys
    obtain ⟨vo, ho, hrow⟩ := h1.out
    have HROW := Lib.hid hrow
    have c0 : W.cell? ⟨w.heap.size, 0, none⟩ = some vo := by rw [cell_ofG ho]; rfl
    clear h1 hK hys ho hrow
    gi_wp2
    refine leaves_marksG [D] W (fun D' hD' => by simp at hD'; subst hD'; exact HK.out) (by simp) (fun w' h1 h2 h3 h4 h5 => ?_)
    have hb : Below w.heap.size w w' := ⟨h1.trans HH.out.below.os, h2.trans HH.out.below.tape, h3.trans HH.out.below.output, by rw [h4]; exact HH.out.below.size, fun k hk => (h5 k (fun hD' => by simp at hD'; have := HB.out.size; omega)).trans (HH.out.below.block k hk)⟩
    obtain rfl := HP.out
    refine ⟨vo, by simp [results, Try.f79, go_sem], vo, rfl, ?_, hb⟩
    have hrow := HROW.out
    unfold OwI
    refine own_mono (b := w.heap.size + 1) ⟨hrow.1, ?_⟩ (by omega)
    rcases hrow.2 with h | ⟨g, cp, cur, hv, hg, hh, r⟩
    · exact .inl h
    · refine .inr ⟨g, cp, cur, hv, hg, ?_, r⟩
      rw [h5 g (fun hD' => by simp at hD'; subst hD'; have := HK.out; rw [hh] at this; cases this)]
      exact hh

set_option maxRecDepth 100000 in
set_option maxHeartbeats 2000000 in
theorem collectV_call {Bs : Nat} {a : Option Addr} {cap : Nat} {l : List Int} (w : World) (hb : w.cell? ⟨Bs, 0, none⟩ = some (.slice a l.length cap)) (hc : ∀ j x, l[j]? = some x → ∃ b off, a = some ⟨b, off, none⟩ ∧ w.cell? ⟨b, off + j, none⟩ = some (vi x)) (hL : l.length ≤ 1048576) :
    Calls Try.prog 58 #[.func (.func 60) #[] #[.pointer (some ⟨Bs, 0, none⟩)]] w fun e w' => ∃ v, e = .returned v ∧ OwI w.heap.size w' v l ∧ Below w.heap.size w w' := by
  have HA := Lib.hid (appendSeqV_call w hb hc hL)
  clear hb hc
  go_enter Try.func58, Try.ntmps58
  go_wp2_with (go_at_call 79; refine HA.out.mono ?_; rintro e w1 ⟨v, rfl, h1, h3⟩)
  go_ret
  exact ⟨v, rfl, h1, h3⟩

set_option maxRecDepth 100000 in
theorem values_call (a : Option Addr) (n cap : Nat) (w : World) :
    Calls Try.prog 39 #[.slice a n cap] w fun e w' => e = .returned (.func (.func 60) #[] #[.pointer (some ⟨w.heap.size, 0, none⟩)]) ∧ w' = w.alloc (.cells #[.slice a n cap] 23) := by
  go_enter Try.func39, Try.ntmps39
  go_wp2_with fail
  go_ret
  exact ⟨rfl, rfl⟩
end Go.Proofs.Ytjpmimanigjjoaa

/- slices.Sorted over slices.Values, and slices.Equal, at ints. -/
namespace Go.Proofs.Ytjpmimanigjjoaa
open Go.RowKit Go.Maps

set_option maxRecDepth 100000 in
set_option maxHeartbeats 2000000 in
theorem sortedV_call {Bs : Nat} {a : Option Addr} {cap : Nat} {l : List Int} (w : World) (hb : w.cell? ⟨Bs, 0, none⟩ = some (.slice a l.length cap)) (hc : ∀ j x, l[j]? = some x → ∃ b off, a = some ⟨b, off, none⟩ ∧ w.cell? ⟨b, off + j, none⟩ = some (vi x)) (hL : l.length ≤ 1048576) :
    Calls Try.prog 38 #[.func (.func 60) #[] #[.pointer (some ⟨Bs, 0, none⟩)]] w fun e w' => ∃ v, e = .returned v ∧ OwI w.heap.size w' v (srt l) ∧ Below w.heap.size w w' := by
  have HC := Lib.hid (collectV_call w hb hc hL)
  clear hb hc
  go_enter Try.func38, Try.ntmps38
  go_upto_region 2 with (go_at_call 58; refine HC.out.mono ?_; rintro e w1 ⟨v, rfl, ho, hb⟩; have HO := Lib.hid ho; have HB := Lib.hid hb; clear ho hb)
  have HS := Lib.hid (sort_call v l w1 HO.out hL)
  go_wp2_with (go_at_call 59; refine HS.out.mono ?_; rintro e w2 ⟨rfl, ho2, hg2⟩)
  go_ret
  exact ⟨v, rfl, ho2, HB.out.grown hg2 HB.out.size (fun j hj => (World.ownsRow.lt HO.out j hj).1)⟩

set_option maxRecDepth 100000 in
set_option maxHeartbeats 2000000 in
theorem equalI_call (u v : Value) (l1 l2 : List Int) (w : World) (hu : RdInts w u l1) (hv : RdInts w v l2) :
    Calls Try.prog 37 #[u, v] w fun e w' => e = .returned (.bool (decide (l1 = l2))) ∧ Below w.heap.size w w' := by
  have HU := Lib.hid hu
  have HV := Lib.hid hv
  have mixed : Try.prog.follows .mixedOrders = true := by kernel_rfl
  obtain ⟨ua, ul, uc, rfl, rfl, hum, -⟩ := hu.at
  obtain ⟨va, vl, vc, rfl, rfl, hvm, -⟩ := hv.at
  clear hu hv
  go_enter Try.func37, Try.ntmps37
  by_cases hl : l1.length = l2.length
  · have e1 : ((l1.length : Int) == (l2.length : Int)) = true := beq_iff_eq.2 (by omega)
    have e2 : ((l1.length : Int) != (l2.length : Int)) = false := by rw [bne, e1]; rfl
    have HL := Lib.hid hl
    clear hl
    go_wp2_with fail
    go_loopw [5, 13] (fun _ kv wr => ∃ k : Nat, k ≤ l1.length ∧ kv = .int .i64 k ∧ Hid (l1.take k = l2.take k) ∧ Below w.heap.size w wr) (fun _ kv _ => l1.length - (intOf kv).toNat)
    case atStart => exact ⟨0, Nat.zero_le _, rfl, Lib.hid rfl, Below.refl _ _⟩
    case round =>
      obtain ⟨wk, rfl⟩ : ∃ wk : World, wk = wr := ⟨_, rfl⟩
      obtain ⟨k, hk, rfl, HT, hb⟩ := hrel
      have HBk := Lib.hid hb
      clear hb
      by_cases hlt : k < l1.length
      · obtain ⟨x, hx⟩ := some_at hlt
        obtain ⟨y, hy⟩ := some_at (l := l2) (k := k) (by rw [← HL.out]; exact hlt)
        obtain ⟨_, _, _, e5, -, -, hul⟩ := (HU.out.later HBk.out).at
        cases e5
        obtain ⟨ub, uo, rfl, x0, -⟩ := hul k x hx
        obtain ⟨_, _, _, e6, -, -, hvl⟩ := (HV.out.later HBk.out).at
        cases e6
        obtain ⟨vb, vo, rfl, y0, -⟩ := hvl k y hy
        have hkI : (k : Int) < (l1.length : Int) := by omega
        have hkJ : (k : Int) < (l2.length : Int) := by have := HL.out; omega
        have wk1 : IntKind.i64.wrap ((k : Int) + 1) = ((k + 1 : Nat) : Int) := by rw [IntWalk.i64_in _ (by omega)]; omega
        have HX := Lib.hid hx
        have HY := Lib.hid hy
        clear hul hvl hx hy
        go_upto_region 6 with fail
        cases hxy : (x == y) with
        | true =>
          have hne : (x != y) = false := by rw [bne, hxy]; rfl
          have HXY := Lib.hid (beq_iff_eq.1 hxy)
          go_quiet (fail)
          go_wp2_with fail
          exact ⟨⟨k + 1, by omega, rfl, Lib.hid (by rw [take_atV HX.out, take_atV HY.out, HT.out, HXY.out]), below_drewN HBk.out _⟩, by simp only [intOf]; omega⟩
        | false =>
          have hne : (x != y) = true := by rw [bne, hxy]; rfl
          have HNE := Lib.hid (show decide (l1 = l2) = false from decide_eq_false (fun e => by
            have h1 := HX.out
            rw [e, HY.out] at h1
            have := Option.some.inj h1
            rw [this] at hxy; simp at hxy))
          go_quiet (fail)
          go_wp2_with fail
          go_ret
          exact ⟨by rw [HNE.out]; rfl, below_drewN HBk.out _⟩
      · obtain rfl : k = l1.length := by omega
        have HE := Lib.hid (show decide (l1 = l2) = true from decide_eq_true (by
          have := HT.out
          rw [List.take_length, HL.out, List.take_length] at this
          exact this))
        go_wp2_with fail
        go_ret
        exact ⟨by rw [HE.out]; rfl, HBk.out⟩
  · have e1 : ((l1.length : Int) == (l2.length : Int)) = false := beq_eq_false_iff_ne.2 (by omega)
    have e2 : ((l1.length : Int) != (l2.length : Int)) = true := by rw [bne, e1]; rfl
    have HNE := Lib.hid (show decide (l1 = l2) = false from decide_eq_false (fun e => hl (by rw [e])))
    clear hl
    go_wp2_with fail
    go_ret
    exact ⟨by rw [HNE.out]; rfl, Below.refl _ _⟩

set_option maxRecDepth 100000 in
set_option maxHeartbeats 2000000 in
theorem same07_call (u v : Value) (l1 l2 : List Int) (w : World) (hu : RdInts w u l1) (hv : RdInts w v l2) :
    Calls Try.prog 20 #[u, v] w fun e w' => e = .returned (.bool (decide (l1 = l2))) ∧ Below w.heap.size w w' := by
  have HU := Lib.hid hu
  have HV := Lib.hid hv
  have mixed : Try.prog.follows .mixedOrders = true := by kernel_rfl
  obtain ⟨ua, ul, uc, rfl, rfl, hum, -⟩ := hu.at
  obtain ⟨va, vl, vc, rfl, rfl, hvm, -⟩ := hv.at
  clear hu hv
  go_enter Try.func20, Try.ntmps20
  by_cases hl : l1.length = l2.length
  · have e1 : ((l1.length : Int) == (l2.length : Int)) = true := beq_iff_eq.2 (by omega)
    have e2 : ((l1.length : Int) != (l2.length : Int)) = false := by rw [bne, e1]; rfl
    have HL := Lib.hid hl
    clear hl
    go_wp2_with fail
    go_loopw [5, 13] (fun _ kv wr => ∃ k : Nat, k ≤ l1.length ∧ kv = .int .i64 k ∧ Hid (l1.take k = l2.take k) ∧ Below w.heap.size w wr) (fun _ kv _ => l1.length - (intOf kv).toNat)
    case atStart => exact ⟨0, Nat.zero_le _, rfl, Lib.hid rfl, Below.refl _ _⟩
    case round =>
      obtain ⟨wk, rfl⟩ : ∃ wk : World, wk = wr := ⟨_, rfl⟩
      obtain ⟨k, hk, rfl, HT, hb⟩ := hrel
      have HBk := Lib.hid hb
      clear hb
      by_cases hlt : k < l1.length
      · obtain ⟨x, hx⟩ := some_at hlt
        obtain ⟨y, hy⟩ := some_at (l := l2) (k := k) (by rw [← HL.out]; exact hlt)
        obtain ⟨_, _, _, e5, -, -, hul⟩ := (HU.out.later HBk.out).at
        cases e5
        obtain ⟨ub, uo, rfl, x0, -⟩ := hul k x hx
        obtain ⟨_, _, _, e6, -, -, hvl⟩ := (HV.out.later HBk.out).at
        cases e6
        obtain ⟨vb, vo, rfl, y0, -⟩ := hvl k y hy
        have hkI : (k : Int) < (l1.length : Int) := by omega
        have hkJ : (k : Int) < (l2.length : Int) := by have := HL.out; omega
        have wk1 : IntKind.i64.wrap ((k : Int) + 1) = ((k + 1 : Nat) : Int) := by rw [IntWalk.i64_in _ (by omega)]; omega
        have HX := Lib.hid hx
        have HY := Lib.hid hy
        clear hul hvl hx hy
        go_upto_region 6 with fail
        cases hxy : (x == y) with
        | true =>
          have hne : (x != y) = false := by rw [bne, hxy]; rfl
          have HXY := Lib.hid (beq_iff_eq.1 hxy)
          go_quiet (fail)
          go_wp2_with fail
          exact ⟨⟨k + 1, by omega, rfl, Lib.hid (by rw [take_atV HX.out, take_atV HY.out, HT.out, HXY.out]), below_drewN HBk.out _⟩, by simp only [intOf]; omega⟩
        | false =>
          have hne : (x != y) = true := by rw [bne, hxy]; rfl
          have HNE := Lib.hid (show decide (l1 = l2) = false from decide_eq_false (fun e => by
            have h1 := HX.out
            rw [e, HY.out] at h1
            have := Option.some.inj h1
            rw [this] at hxy; simp at hxy))
          go_quiet (fail)
          go_wp2_with fail
          go_ret
          exact ⟨by rw [HNE.out]; rfl, below_drewN HBk.out _⟩
      · obtain rfl : k = l1.length := by omega
        have HE := Lib.hid (show decide (l1 = l2) = true from decide_eq_true (by
          have := HT.out
          rw [List.take_length, HL.out, List.take_length] at this
          exact this))
        go_wp2_with fail
        go_ret
        exact ⟨by rw [HE.out]; rfl, HBk.out⟩
  · have e1 : ((l1.length : Int) == (l2.length : Int)) = false := beq_eq_false_iff_ne.2 (by omega)
    have e2 : ((l1.length : Int) != (l2.length : Int)) = true := by rw [bne, e1]; rfl
    have HNE := Lib.hid (show decide (l1 = l2) = false from decide_eq_false (fun e => hl (by rw [e])))
    clear hl
    go_wp2_with fail
    go_ret
    exact ⟨by rw [HNE.out]; rfl, Below.refl _ _⟩
end Go.Proofs.Ytjpmimanigjjoaa

/- chains.Fix. -/
namespace Go.Proofs.Ytjpmimanigjjoaa
open Go.RowKit Go.Maps

abbrev MapO (w : World) (b : Nat) (O : OrdL) : Prop := MapT Try.prog 3 vi (fun x : Value × List Int => x.1) w b O
/-- The orders that stand in a map: readable rows. -/
def OrdAt (w : World) (O : OrdL) : Prop := ∀ key : Nat, key < 16 → ∃ v l, getM O (key : Int) = some (v, l) ∧ RdInts w v l ∧ l.length ≤ 4096
theorem OrdAt.later {A B : World} {O : OrdL} (h : OrdAt A O) (hb : Below A.heap.size A B) : OrdAt B O := fun key hk => by
  obtain ⟨v, l, h1, h2, h3⟩ := h key hk
  exact ⟨v, l, h1, h2.later hb, h3⟩
theorem zero_sl (w : World) : (zeroValue 23).run Try.prog w = .ok (.slice none 0 0) w := by kernel_rfl
theorem lookup_ord {w : World} {m : Nat} {O : OrdL} (h : MapO w m O) (key : Nat) (hk : key < 16) {p : Value × List Int} (hp : getM O (key : Int) = some p) :
    (Instr.lookup 51 (.map (some m)) (vi key) false).run Try.prog w = .ok p.1 w := by
  have h1 := (MapT.lookup intKeyed vi_inj (t := 51) (e := 23) Try.underlying51 h (key : Int) (intKey (by unfold i64; omega)) (zero_sl w)).1
  rw [h1, hp]; rfl

def FixQ (ts : List GTxn) (dn : List Bool) (O : OrdL) (w : World) (e : Ending) (w' : World) : Prop := ∃ (r : Value) (b : Bool), e = .returned (.tuple #[r, .bool b]) ∧ (b = true ↔ GoodK ts dn O 16) ∧
  (b = true → ∃ m F, r = .map (some m) ∧ MapF w' m F ∧ Fact1 ts dn F ∧ ∀ key : Nat, key < 16 → PrT F key (ordL O key) (ordL O key).length 0) ∧ Below w.heap.size w w'
theorem FixQ.no {ts : List GTxn} {dn : List Bool} {O : OrdL} {w w' : World} {e : Ending} {r : Value} (h : e = .returned (.tuple #[r, .bool false])) (hn : ¬ GoodK ts dn O 16) (hb : Below w.heap.size w w') : FixQ ts dn O w e w' := ⟨r, false, h, ⟨fun h => (by cases h), fun h => absurd h hn⟩, fun h => (by cases h), hb⟩

set_option maxRecDepth 100000 in
set_option maxHeartbeats 2000000 in
theorem fix_short (a : Option Addr) (cap n : Nat) (d : Option Addr) (dc k : Nat) (ov : Value) (w : World) (h : k ≠ n) (hn : n ≤ 4096) (hk : k ≤ 4096) :
    Calls Try.prog 19 #[.slice a n cap, .slice d k dc, ov] w fun e w' => e = .returned (.tuple #[.map none, .bool false]) ∧ w' = w := by
  have e1 : ((k : Int) == (n : Int)) = false := beq_eq_false_iff_ne.2 (by omega)
  have e2 : ((k : Int) != (n : Int)) = true := by rw [bne, e1]; rfl
  clear h
  go_enter Try.func19, Try.ntmps19
  go_wp2_with fail
  go_ret2
  exact ⟨by rfl, rfl⟩

set_option maxRecDepth 100000 in
set_option maxHeartbeats 16000000 in
theorem fix_call (v : Value) (ts : List GTxn) (db om : Nat) (dn : List Bool) (O : OrdL) (w : World) (hv : RdTxns w v ts) (hok : OkTxns ts) (htl : ts.length ≤ 4096) (hd : BoolB w db dn) (hdl : dn.length = ts.length)
    (hO : MapO w om O) (hR : OrdAt w O) (hIs : ∀ F, Fact1 ts dn F → ∀ i : Nat, i < ts.length → (isM ts F i).1 = dn[i]?.getD false) :
    Calls Try.prog 19 #[v, .slice (some ⟨db, 0, none⟩) ts.length ts.length, .map (some om)] w (FixQ ts dn O w) := by
  have HV := Lib.hid hv
  have HOK := Lib.hid hok
  have HD := Lib.hid hd
  have HDL := Lib.hid hdl
  have HO := Lib.hid hO
  have HR := Lib.hid hR
  have HIS := Lib.hid hIs
  obtain ⟨a, len, cap, rfl, rfl, hmm, -⟩ := hv.at
  have hmkm := @run_makeMap Try.prog
  have hml := hd.lt
  have hol := hO.lt
  have HM0 := Lib.hid (show MapF (w.alloc (.map #[] 0)) w.heap.size [] from MapT.made w)
  have HB0 := Lib.hid ((Below.refl w.heap.size w).alloc (Nat.le_refl _) (.map #[] 0))
  have hs0 : (w.alloc (.map #[] 0)).heap.size = w.heap.size + 1 := by simp
  clear hv hok hd hdl hO hR hIs
  go_enter Try.func19, Try.ntmps19
  go_upto_region 4 with fail
  clear hmkm
  generalize w.alloc (.map #[] 0) = w0 at *
  go_wp2_with (go_at_call 15; refine (choices_call _ ts w0 (HV.out.later HB0.out) HOK.out htl).mono ?_; rintro e w2 ⟨v2, rfl, ho2, hb2⟩; have HC2 := Lib.hid ho2.rd; have HO2 := Lib.hid ho2; have HB2 := Lib.hid hb2; obtain ⟨a2, len2, cap2, rfl, rfl, hm2, -⟩ := HC2.out.at; clear hb2 ho2)
  have HM2 := Lib.hid (HM0.out.below HB2.out (by omega))
  have HBw2 := Lib.hid (HB0.out.trans (HB2.out.mono HB0.out.size))
  have HCO := Lib.hid (fun c (h : c ∈ choicesM ts) => choicesM_ok h)
  have hcl := choicesM_le ts htl
  obtain ⟨C, hC⟩ : ∃ C, choicesM ts = C := ⟨_, rfl⟩
  have HC := Lib.hid hC
  rw [hC] at HCO hcl HO2 HC2 hm2
  rw [hC]
  clear hC
  go_loopw [10, 32] (fun _ n wr => ∃ (k : Nat) (F : FaL), k ≤ C.length ∧ n = .int .i64 k ∧ Hid (MapF wr w.heap.size F ∧ Fact0 ts dn k F ∧ OwCh 43 w0.heap.size wr (.slice a2 C.length cap2) C ∧ Below w.heap.size w wr)) (fun _ n _ => C.length - (intOf n).toNat)
  case atStart => exact ⟨0, [], Nat.zero_le _, rfl, Lib.hid ⟨HM2.out, Fact0.nil ts dn, HO2.out, HBw2.out⟩⟩
  case round =>
    obtain ⟨wk, rfl⟩ : ∃ wk : World, wk = wr := ⟨_, rfl⟩
    obtain ⟨k, F, hk, rfl, HJ⟩ := hrel
    have HM := Lib.hid HJ.out.1
    have HF := Lib.hid HJ.out.2.1
    have HOk := Lib.hid HJ.out.2.2.1
    have HBk := Lib.hid HJ.out.2.2.2
    clear HJ
    have hbs := HBk.out.size
    have hml2 := HM.out.lt
    by_cases hlt : k < C.length
    · obtain ⟨c, hc⟩ := some_at hlt
      have hco := HCO.out c (List.mem_of_getElem? hc)
      obtain ⟨kd, ky, ca, cb⟩ := c
      obtain ⟨an, rfl⟩ := Int.eq_ofNat_of_zero_le hco.a.1
      have han : an < ts.length := by have := hco.a.2; simpa using this
      obtain ⟨_, _, _, e5, -, -, hclc⟩ := HOk.out.rd.at
      cases e5
      obtain ⟨b, off, rfl, k0, k1, k2, k3⟩ := hclc k _ hc
      have hkI : (k : Int) < (C.length : Int) := by omega
      have wk1 : IntKind.i64.wrap ((k : Int) + 1) = ((k + 1 : Nat) : Int) := by rw [IntWalk.i64_in _ (by omega)]; omega
      have HSM := Lib.hid (hco.small htl)
      have HP := Lib.hid (show (choicesM ts)[k]? = some ⟨kd, ky, an, cb⟩ by rw [HC.out]; exact hc)
      have HXo := Lib.hid (alloc_at wk (.cells #[vi kd, vi ky, vi an, vi cb] 43))
      have HOo := Lib.hid (HOk.out.alloc (.cells #[vi kd, vi ky, vi an, vi cb] 43))
      have HMo := Lib.hid (HM.out.frame (Below.heap_alloc wk (.cells #[vi kd, vi ky, vi an, vi cb] 43) _ hml2))
      have HBo := Lib.hid (HBk.out.alloc hbs (.cells #[vi kd, vi ky, vi an, vi cb] 43))
      have hwo : (wk.alloc (.cells #[vi kd, vi ky, vi an, vi cb] 43)).heap.size = wk.heap.size + 1 := by simp
      clear hclc hc hco
      go_upto_region 7 with fail
      clear k0 k1 k2 k3
      generalize wk.alloc (.cells #[vi kd, vi ky, vi an, vi cb] 43) = wo at *
      have q0 : wo.cell? ⟨wk.heap.size, 0, none⟩ = some (vi kd) := by rw [cell_of HXo.out]; rfl
      have q1 : wo.cell? ⟨wk.heap.size, 1, none⟩ = some (vi ky) := by rw [cell_of HXo.out]; rfl
      have q2 : wo.cell? ⟨wk.heap.size, 2, none⟩ = some (vi an) := by rw [cell_of HXo.out]; rfl
      have q3 : wo.cell? ⟨wk.heap.size, 3, none⟩ = some (vi cb) := by rw [cell_of HXo.out]; rfl
      by_cases h1 : kd = 1
      · have HK1 := Lib.hid h1
        have e1 : (kd == 1) = true := beq_iff_eq.2 h1
        obtain ⟨x, hx⟩ := some_at (l := dn) (k := an) (by rw [HDL.out]; exact han)
        have d0 := cell_later (w' := wo) (by have := HBo.out; exact this) (HD.out.at hx)
        have HX := Lib.hid (show x = dn[(an : Int).toNat]?.getD false by simp [hx])
        obtain ⟨kl, hkl⟩ := choiceKey HSM.out
        have HKL := Lib.hid hkl
        have hanI : (an : Int) < (ts.length : Int) := by omega
        clear hx hkl h1
        go_upto_region 8 with fail
        go_still_tail 7, (by kernel_rfl)
        change wpList _ _ _ _ _ wo.drew
        have HMd := Lib.hid (show MapF wo.drew w.heap.size F from HMo.out.frame rfl)
        have HXd := Lib.hid (show x = dn[(an : Int).toNat]?.getD false from HX.out)
        go_wp2_with (at_mapUpdate; refine wpList_mapUpdate_T (b := w.heap.size) (eK := chK) (eV := Value.bool) rfl _ _ _ rfl choiceKeyed chK_inj Try.underlying29 HMd.out rfl ⟨kd, ky, an, cb⟩ HKL.out rfl x rfl ?_; intro w4 hM4 hg4)
        have hg4' : wo.grownBy w4 (some w.heap.size) := ⟨hg4.os, hg4.tape, hg4.output, hg4.size, hg4.block⟩
        have ho4 := World.ownsRow.kept HOo.out hg4' (.inr (fun e => map_apart HOo.out HMo.out e.symm))
        have hb4 : Below w.heap.size w w4 := HBo.out.grown hg4' HBo.out.size (fun j hj => by cases hj; exact Nat.le_refl _)
        refine ⟨⟨k + 1, putM F ⟨kd, ky, an, cb⟩ x, by omega, rfl, Lib.hid ?_⟩, ?_⟩
        · exact ⟨hM4, HF.out.put HP.out HK1.out HXd.out, ho4, hb4⟩
        · simp only [intOf]; omega
      · have e1 : (kd == 1) = false := beq_eq_false_iff_ne.2 h1
        have HK1 := Lib.hid h1
        clear h1
        go_wp2_with fail
        exact ⟨⟨k + 1, F, by omega, rfl, Lib.hid ⟨HMo.out, HF.out.skip HP.out HK1.out, HOo.out, HBo.out⟩⟩, by simp only [intOf]; omega⟩
    · obtain rfl : k = C.length := by omega
      have HF1 := Lib.hid (show Fact1 ts dn F from Fact0.full (by have := HF.out; rw [← HC.out] at this; exact this))
      have HVk := Lib.hid (HV.out.later HBk.out)
      clear HF HOk HO2 HC2 HM2 HBw2 HCO HM0
      go_wp2_with fail
      go_loopw [11, 12, 13, 49] (fun _ _ _ n wr => ∃ i : Nat, i ≤ ts.length ∧ n = .int .i64 i ∧ Below wk.heap.size wk wr) (fun _ _ _ n _ => ts.length - (intOf n).toNat)
      case atStart => exact ⟨0, Nat.zero_le _, rfl, Below.refl _ _⟩
      case round =>
        obtain ⟨wi, rfl⟩ : ∃ wk : World, wk = wr := ⟨_, rfl⟩
        obtain ⟨i, hi, rfl, hb⟩ := hrel
        have HBi := Lib.hid hb
        have HMi := Lib.hid (HM.out.below hb HM.out.lt)
        have HVi := Lib.hid (HVk.out.later hb)
        have HBz := Lib.hid (HBk.out.trans (hb.mono HBk.out.size))
        clear hb
        by_cases hlt2 : i < ts.length
        · obtain ⟨x, hx⟩ := some_at (l := dn) (k := i) (by rw [HDL.out]; exact hlt2)
          have hiI : (i : Int) < (ts.length : Int) := by omega
          have wi1 : IntKind.i64.wrap ((i : Int) + 1) = ((i + 1 : Nat) : Int) := by rw [IntWalk.i64_in _ (by omega)]; omega
          have HX := Lib.hid (HD.out.at hx)
          have hIS := HIS.out F HF1.out i hlt2
          rw [hx] at hIS
          have HI := Lib.hid (Is_call _ ts w.heap.size F i wi HVi.out HOK.out htl HMi.out hlt2)
          rw [show (isM ts F i).1 = x from hIS] at HI
          clear hx hIS
          go_upto_region 14 with (go_at_call 18; refine HI.out.mono ?_; rintro e w5 ⟨rfl, hb5⟩)
          have HB5 := Lib.hid (HBi.out.trans (hb5.mono HBi.out.size))
          have d0 := cell_later (HBk.out.trans (HB5.out.mono HBk.out.size)) HX.out
          clear hb5
          cases x with
          | false =>
            go_wp2_with fail
            exact ⟨⟨i + 1, by omega, rfl, HB5.out⟩, by simp only [intOf]; omega⟩
          | true =>
            go_wp2_with fail
            exact ⟨⟨i + 1, by omega, rfl, HB5.out⟩, by simp only [intOf]; omega⟩
        · obtain rfl : i = ts.length := by omega
          clear HVk HBk HBi HM
          go_wp2_with fail
          go_loopw [14, 15, 16, 17, 18, 19, 20, 22, 66] (fun _ _ _ _ _ _ _ _ n wr => ∃ (k : Nat) (F : FaL), k ≤ 16 ∧ n = .int .i64 k ∧ Hid (MapF wr w.heap.size F ∧ Fact1 ts dn F ∧ (∀ key : Nat, key < k → PrT F key (ordL O key) (ordL O key).length 0) ∧ GoodK ts dn O k ∧ Below w.heap.size w wr)) (fun _ _ _ _ _ _ _ _ n _ => 16 - (intOf n).toNat)
          case atStart => exact ⟨0, F, by omega, rfl, Lib.hid ⟨HMi.out, HF1.out, fun key h => absurd h (Nat.not_lt_zero _), fun key h => absurd h (Nat.not_lt_zero _), HBz.out⟩⟩
          case round =>
            clear HMi HF1 HVi HBz
            obtain ⟨wq, rfl⟩ : ∃ wk : World, wk = wr := ⟨_, rfl⟩
            obtain ⟨key, F, hkey, rfl, HJ⟩ := hrel
            have HM := Lib.hid HJ.out.1
            have HF1 := Lib.hid HJ.out.2.1
            have HPR := Lib.hid HJ.out.2.2.1
            have HGD := Lib.hid HJ.out.2.2.2.1
            have HBq := Lib.hid HJ.out.2.2.2.2
            clear HJ
            have hbq := HBq.out.size
            have hmq := HM.out.lt
            by_cases h16 : key < 16
            · obtain ⟨ov, l, hol2, hrl, hll⟩ := HR.out key h16
              have k16 : (key : Int) < 16 := by omega
              have wk1 : IntKind.i64.wrap ((key : Int) + 1) = ((key + 1 : Nat) : Int) := by rw [IntWalk.i64_in _ (by omega)]; omega
              have HOL := Lib.hid (ordL_of hol2)
              have hlk := lookup_ord (HO.out.below HBq.out hol) key h16 hol2
              have HRL := Lib.hid hrl
              obtain ⟨oa, oc0, oc, rfl, rfl, hom, -⟩ := hrl.at
              clear hrl hol2
              go_upto_region 22 with fail
              clear hlk
              go_wp2_with fail
              have HVq := Lib.hid (HV.out.later HBq.out)
              go_loopw [16, 17, 18, 74] (fun wv _ _ n wr => ∃ i : Nat, i ≤ ts.length ∧ n = .int .i64 i ∧ Hid (OwI wq.heap.size wr wv (wantL ts dn key i) ∧ Below wq.heap.size wq wr)) (fun _ _ _ n _ => ts.length - (intOf n).toNat)
              case atStart => exact ⟨0, Nat.zero_le _, rfl, Lib.hid ⟨World.ownsRow_nil _ _ _ _, Below.refl _ _⟩⟩
              case round =>
                obtain ⟨wi, rfl⟩ : ∃ wk : World, wk = wr := ⟨_, rfl⟩
                obtain ⟨i, hi, rfl, HJ⟩ := hrel
                have HW := Lib.hid HJ.out.1
                have HBi := Lib.hid HJ.out.2
                clear HJ
                have hbi := HBi.out.size
                obtain ⟨wa, wc, rfl, -⟩ := own_shapeY HW.out
                by_cases hlt3 : i < ts.length
                · obtain ⟨t, ht⟩ := some_at hlt3
                  obtain ⟨_, _, _, e5, -, -, hcl3⟩ := (HVq.out.later HBi.out).at
                  cases e5
                  obtain ⟨b, off, toa, toc, rfl, hr, k0, k1, k2⟩ := hcl3 i t ht
                  obtain ⟨x, hx⟩ := some_at (l := dn) (k := i) (by rw [HDL.out]; exact hlt3)
                  have hiI : (i : Int) < (ts.length : Int) := by omega
                  have wi1 : IntKind.i64.wrap ((i : Int) + 1) = ((i + 1 : Nat) : Int) := by rw [IntWalk.i64_in _ (by omega)]; omega
                  have HN := Lib.hid (wantL_succ ts dn key i)
                  rw [hx, wrOf_at ht] at HN
                  have hwl := wantL_le ts dn key i
                  have HBo := Lib.hid ((Below.refl wi.heap.size wi).alloc (Nat.le_refl _) (.cells #[vi t.client, vi t.state, .slice toa t.ops.length toc] 54))
                  have HXo := Lib.hid (alloc_at wi (.cells #[vi t.client, vi t.state, .slice toa t.ops.length toc] 54))
                  have hwo : (wi.alloc (.cells #[vi t.client, vi t.state, .slice toa t.ops.length toc] 54)).heap.size = wi.heap.size + 1 := by simp
                  have HRo := Lib.hid (hr.later HBo.out)
                  have HWo := Lib.hid (own_below HW.out HBo.out)
                  have HBio := Lib.hid (HBi.out.trans (HBo.out.mono hbi))
                  have d0 := cell_later (HBq.out.trans (HBio.out.mono HBq.out.size)) (HD.out.at hx)
                  clear hcl3 hr ht hx
                  go_upto_region 25 with fail
                  generalize wi.alloc (.cells #[vi t.client, vi t.state, .slice toa t.ops.length toc] 54) = wo at *
                  clear k0 k1 k2
                  have c0 : wo.cell? ⟨wi.heap.size, 0, none⟩ = some (vi t.client) := by rw [cell_of HXo.out]; rfl
                  have c1 : wo.cell? ⟨wi.heap.size, 1, none⟩ = some (vi t.state) := by rw [cell_of HXo.out]; rfl
                  have c2 : wo.cell? ⟨wi.heap.size, 2, none⟩ = some (.slice toa t.ops.length toc) := by rw [cell_of HXo.out]; rfl
                  cases x with
                  | false =>
                    have HIF := Lib.hid (show wantL ts dn key (i + 1) = wantL ts dn key i by rw [HN.out]; simp)
                    go_wp2_with fail
                    exact ⟨⟨i + 1, by omega, rfl, Lib.hid ⟨by rw [HIF.out]; exact HWo.out, HBio.out⟩⟩, by simp only [intOf]; omega⟩
                  | true =>
                    have HWC := Lib.hid (writesK_call t.client t.state _ t key wo HRo.out)
                    cases hw : writesK t key with
                    | false =>
                      rw [hw] at HN HWC
                      clear hw
                      have HIF := Lib.hid (show wantL ts dn key (i + 1) = wantL ts dn key i by rw [HN.out]; simp)
                      go_wp2_with (go_at_call 29; refine HWC.out.mono ?_; rintro e w4 ⟨rfl, hb4⟩)
                      exact ⟨⟨i + 1, by omega, rfl, Lib.hid ⟨by rw [HIF.out]; exact own_below HWo.out hb4, HBio.out.trans (hb4.mono HBio.out.size)⟩⟩, by simp only [intOf]; omega⟩
                    | true =>
                      rw [hw] at HN HWC
                      clear hw
                      have HIF := Lib.hid (show wantL ts dn key (i + 1) = wantL ts dn key i ++ [(i : Int)] by rw [HN.out]; simp)
                      clear HN
                      generalize wantL ts dn key i = acc at *
                      go_upto_region 26 with (go_at_call 29; refine HWC.out.mono ?_; rintro e w4 ⟨rfl, hb4⟩)
                      have HB4 := Lib.hid (HBio.out.trans (hb4.mono HBio.out.size))
                      have HW4 := Lib.hid (own_below HWo.out hb4)
                      have h4s := HB4.out.size
                      clear hb4 c0 c1 c2
                      go_wp2_with (at_builtin; refine wpList_append_src rfl _ _ 23 rfl eltI wq.heap.size acc.length _ (HW4.out.alloc _) rfl 1 (viC i) (src_new (cs := #[vi i]) rfl rfl) rfl (by intro u hu; simp [viC] at hu; subst hu; rfl) (by omega) (by omega) (by simp; omega) ?_; intro v5 w5 ho5 hg5 _)
                      have hbb := (HB4.out.alloc h4s (.cells #[vi i] 3)).grown hg5 (by simp; omega) (fun j hj => (World.ownsRow.lt HW4.out j hj).1)
                      refine ⟨⟨i + 1, by omega, rfl, Lib.hid ?_⟩, ?_⟩
                      · exact ⟨by rw [HIF.out]; simpa [OwI] using ho5, hbb⟩
                      · simp only [intOf]; omega
                · obtain rfl : i = ts.length := by omega
                  have hwl := wantL_le ts dn key ts.length
                  have HWI := Lib.hid (OwI.rdY HW.out (fun x hx => by
                    obtain ⟨i, h1, rfl, _⟩ := wantL_mem.1 hx
                    unfold i64; omega))
                  obtain ⟨W0, hW0⟩ : ∃ W0, wantL ts dn key ts.length = W0 := ⟨_, rfl⟩
                  have HW0 := Lib.hid hW0
                  rw [hW0] at HW HWI hwl
                  rw [hW0]
                  clear hW0
                  have HLi := Lib.hid (HRL.out.later (HBq.out.trans (HBi.out.mono hbq)))
                  have HXv := Lib.hid (alloc_at wi (.cells #[.slice oa l.length oc] 23))
                  have HBv := Lib.hid ((Below.refl wi.heap.size wi).alloc (Nat.le_refl _) (.cells #[.slice oa l.length oc] 23))
                  have HVC := Lib.hid (values_call oa l.length oc wi)
                  go_upto_region 28 with fail
                  clear HVq
                  have HSC := Lib.hid (sortedV_call (Bs := wi.heap.size) (a := oa) (cap := oc) (l := l) (wi.alloc (.cells #[.slice oa l.length oc] 23)) (by rw [cell_of HXv.out]; rfl) (fun j x hj => by
                    obtain ⟨_, _, _, e5, -, -, hul⟩ := (HLi.out.later HBv.out).at
                    cases e5
                    obtain ⟨b, off, h1, h2, _⟩ := hul j x hj
                    exact ⟨b, off, h1, h2⟩) (by omega))
                  have HSI := Lib.hid (show ∀ x ∈ srt l, i64 x from fun x hx => HLi.out.i64s x ((srt_perm l).mem_iff.1 hx))
                  by_cases heq : srt l = W0
                  · have HEQ := Lib.hid heq
                    have HNX := Lib.hid (show srt (ordL O key) = wantL ts dn key ts.length by rw [HOL.out, HW0.out]; exact heq)
                    have HDE := Lib.hid (show decide (srt l = W0) = true from decide_eq_true heq)
                    clear heq
                    go_upto_region 30 with (first
                      | (go_at_call 39; refine HVC.out.mono ?_; rintro e w5 ⟨rfl, hw5⟩; subst hw5)
                      | (go_at_call 38; refine HSC.out.mono ?_; rintro e w6 ⟨v6, rfl, ho6, hb6⟩; have HB6 := Lib.hid (HBv.out.trans (hb6.mono HBv.out.size)); have HO6 := Lib.hid ho6; clear ho6 hb6)
                      | (go_at_call 37; refine (equalI_call _ _ _ _ w6 (OwI.rdY HO6.out HSI.out) (HWI.out.later HB6.out)).mono ?_; rw [HDE.out]; rintro e w7 ⟨rfl, hb7⟩; have HB7 := Lib.hid (HB6.out.trans (hb7.mono HB6.out.size)); clear hb7))
                    have HB7z := Lib.hid (HBq.out.trans ((HBi.out.trans (HB7.out.mono HBi.out.size)).mono HBq.out.size))
                    have HM7 := Lib.hid (HM.out.below (HBi.out.trans (HB7.out.mono HBi.out.size)) hmq)
                    have HND := Lib.hid (show l.Nodup from by have := srt_nodup HNX.out; rwa [HOL.out] at this)
                    have hoc : l.length ≤ oc := by
                      obtain ⟨_, _, _, h1, _, _, hlc, _⟩ := HRL.out
                      cases h1
                      exact hlc
                    clear HSC HVC HXv HBv HLi HM HBi HW HWI HO6 HB6 HB7 HEQ HDE HSI
                    go_wp2_with fail
                    go_loopw [19, 20, 22, 101] (fun _ _ _ n wr => ∃ (k : Nat) (F2 : FaL), k ≤ l.length ∧ n = .int .i64 k ∧ Hid (MapF wr w.heap.size F2 ∧ Fact1 ts dn F2 ∧ (∀ key' : Nat, key' < key → PrT F2 key' (ordL O key') (ordL O key').length 0) ∧ PrT F2 key l k 0 ∧ Below w.heap.size w wr)) (fun _ _ _ n _ => l.length - (intOf n).toNat)
                    case atStart => exact ⟨0, F, Nat.zero_le _, rfl, Lib.hid ⟨HM7.out, HF1.out, HPR.out, PrT.start _ _ _, HB7z.out⟩⟩
                    case round =>
                      clear HM7 HF1 HPR HB7z
                      obtain ⟨wr5, rfl⟩ : ∃ wk : World, wk = wr := ⟨_, rfl⟩
                      obtain ⟨k, F2, hk5, rfl, HJ⟩ := hrel
                      have HM2 := Lib.hid HJ.out.1
                      have HF2 := Lib.hid HJ.out.2.1
                      have HPR2 := Lib.hid HJ.out.2.2.1
                      have HPT2 := Lib.hid HJ.out.2.2.2.1
                      have HB5 := Lib.hid HJ.out.2.2.2.2
                      clear HJ
                      by_cases hkl5 : k < l.length
                      · obtain ⟨b, hb⟩ := some_at hkl5
                        obtain ⟨_, _, _, e5, -, -, hul⟩ := (HRL.out.later HB5.out).at
                        cases e5
                        obtain ⟨lb, lo, rfl, y0, hbi⟩ := hul k b hb
                        have hkI : (k : Int) < (l.length : Int) := by omega
                        have wk1' : IntKind.i64.wrap ((k : Int) + 1) = ((k + 1 : Nat) : Int) := by rw [IntWalk.i64_in _ (by omega)]; omega
                        have htk : ∀ W, (Instr.slice 23 (.slice (some ⟨lb, lo, none⟩) l.length oc) none (some (.int .i64 k)) none).run Try.prog W = .ok (.slice (some ⟨lb, lo, none⟩) k oc) W := run_takeY (by omega)
                        have HY := Lib.hid hb
                        clear hul hb
                        go_wp2_with fail
                        go_loopw [22, 110] (fun _ n wr => ∃ (j : Nat) (F3 : FaL), j ≤ k ∧ n = .int .i64 j ∧ Hid (MapF wr w.heap.size F3 ∧ Fact1 ts dn F3 ∧ (∀ key' : Nat, key' < key → PrT F3 key' (ordL O key') (ordL O key').length 0) ∧ PrT F3 key l k j ∧ Below w.heap.size w wr)) (fun _ n _ => k - (intOf n).toNat)
                        case atStart => exact ⟨0, F2, Nat.zero_le _, rfl, Lib.hid ⟨HM2.out, HF2.out, HPR2.out, HPT2.out, HB5.out⟩⟩
                        case round =>
                          clear HM2 HF2 HPR2 HPT2 HB5 htk y0
                          obtain ⟨ws, rfl⟩ : ∃ wk : World, wk = wr := ⟨_, rfl⟩
                          obtain ⟨j, F3, hj6, rfl, HJ⟩ := hrel
                          have HM3 := Lib.hid HJ.out.1
                          have HF3 := Lib.hid HJ.out.2.1
                          have HPR3 := Lib.hid HJ.out.2.2.1
                          have HPT := Lib.hid HJ.out.2.2.2.1
                          have HBs := Lib.hid HJ.out.2.2.2.2
                          clear HJ
                          by_cases hjk : j < k
                          · obtain ⟨a, ha⟩ := some_at (l := l) (k := j) (by omega)
                            obtain ⟨_, _, _, e6, -, -, hul⟩ := (HRL.out.later HBs.out).at
                            cases e6
                            obtain ⟨_, _, e7, x0, hai⟩ := hul j a ha
                            cases e7
                            have hjI : (j : Int) < (k : Int) := by omega
                            have wj1 : IntKind.i64.wrap ((j : Int) + 1) = ((j + 1 : Nat) : Int) := by rw [IntWalk.i64_in _ (by omega)]; omega
                            have HA := Lib.hid ha
                            have hab : a ≠ b := fun e => by subst e; have := nodup_at HND.out HA.out HY.out; omega
                            clear hul ha
                            rcases Int.lt_or_gt_of_ne hab with hc | hc
                            · have hdum : True := trivial
                              have HPP := Lib.hid (HPT.out.put HND.out HA.out HY.out hjk)
                              have hlt0 : decide (a < b) = true := decide_eq_true hc
                              rw [hlt0] at HPP
                              obtain ⟨kl, hkl⟩ := choiceKey (c := ⟨2, (key : Int), min a b, max a b⟩) (by have h1 := hai; have h2 := hbi; unfold i64 at h1 h2; unfold SmallCh i64; simp only; omega)
                              have HKL := Lib.hid hkl
                              clear hkl
                              go_wp2_with (at_mapUpdate; refine wpList_mapUpdate_T (b := w.heap.size) (eK := chK) (eV := Value.bool) rfl _ _ _ rfl choiceKeyed chK_inj Try.underlying29 HM3.out rfl ⟨2, (key : Int), min a b, max a b⟩ HKL.out rfl true rfl ?_; intro w9 hM9 hg9)
                              have hb9 : Below w.heap.size w w9 := HBs.out.grown hg9 HBs.out.size (fun j hj => by cases hj; exact Nat.le_refl _)
                              refine ⟨⟨j + 1, putM F3 ⟨2, (key : Int), min a b, max a b⟩ true, by omega, rfl, Lib.hid ?_⟩, ?_⟩
                              · exact ⟨hM9, HF3.out.put _ _ _ _, fun key' hk' => (HPR3.out key' hk').other (by omega), HPP.out, hb9⟩
                              · simp only [intOf]; omega
                            · have hdum : True := trivial
                              have HPP := Lib.hid (HPT.out.put HND.out HA.out HY.out hjk)
                              have hlt0 : decide (a < b) = false := decide_eq_false (by omega)
                              rw [hlt0] at HPP
                              obtain ⟨kl, hkl⟩ := choiceKey (c := ⟨2, (key : Int), min a b, max a b⟩) (by have h1 := hai; have h2 := hbi; unfold i64 at h1 h2; unfold SmallCh i64; simp only; omega)
                              have HKL := Lib.hid hkl
                              clear hkl
                              go_wp2_with (at_mapUpdate; refine wpList_mapUpdate_T (b := w.heap.size) (eK := chK) (eV := Value.bool) rfl _ _ _ rfl choiceKeyed chK_inj Try.underlying29 HM3.out rfl ⟨2, (key : Int), min a b, max a b⟩ HKL.out rfl false rfl ?_; intro w9 hM9 hg9)
                              have hb9 : Below w.heap.size w w9 := HBs.out.grown hg9 HBs.out.size (fun j hj => by cases hj; exact Nat.le_refl _)
                              refine ⟨⟨j + 1, putM F3 ⟨2, (key : Int), min a b, max a b⟩ false, by omega, rfl, Lib.hid ?_⟩, ?_⟩
                              · exact ⟨hM9, HF3.out.put _ _ _ _, fun key' hk' => (HPR3.out key' hk').other (by omega), HPP.out, hb9⟩
                              · simp only [intOf]; omega
                          · obtain rfl : j = k := by omega
                            go_wp2_with fail
                            exact ⟨⟨j + 1, F3, by omega, rfl, Lib.hid ⟨HM3.out, HF3.out, HPR3.out, HPT.out.next, HBs.out⟩⟩, by simp only [intOf]; omega⟩
                      · obtain rfl : k = l.length := by omega
                        have hpr : ∀ key' : Nat, key' < key + 1 → PrT F2 key' (ordL O key') (ordL O key').length 0 := fun key' hk' => by
                          rcases Nat.lt_or_ge key' key with h | h
                          · exact HPR2.out key' h
                          · obtain rfl : key' = key := by omega
                            rw [HOL.out]; exact HPT2.out
                        have HPRn := Lib.hid hpr
                        clear hpr
                        go_wp2_with fail
                        refine ⟨⟨key + 1, F2, by omega, rfl, Lib.hid ?_⟩, ?_⟩
                        · exact ⟨HM2.out, HF2.out, HPRn.out, HGD.out.next HNX.out, HB5.out⟩
                        · simp only [intOf]; omega
                  · have HNE := Lib.hid (show ¬ srt (ordL O key) = wantL ts dn key ts.length by rw [HOL.out, HW0.out]; exact heq)
                    have HDE := Lib.hid (show decide (srt l = W0) = false from decide_eq_false heq)
                    clear heq
                    go_wp2_with (first
                      | (go_at_call 39; refine HVC.out.mono ?_; rintro e w5 ⟨rfl, hw5⟩; subst hw5)
                      | (go_at_call 38; refine HSC.out.mono ?_; rintro e w6 ⟨v6, rfl, ho6, hb6⟩; have HB6 := Lib.hid (HBv.out.trans (hb6.mono HBv.out.size)); have HO6 := Lib.hid ho6; clear ho6 hb6)
                      | (go_at_call 37; refine (equalI_call _ _ _ _ w6 (OwI.rdY HO6.out HSI.out) (HWI.out.later HB6.out)).mono ?_; rw [HDE.out]; rintro e w7 ⟨rfl, hb7⟩; have HB7 := Lib.hid (HB6.out.trans (hb7.mono HB6.out.size)); clear hb7))
                    go_ret2
                    exact FixQ.no rfl (fun h => HNE.out (h key h16)) (HBq.out.trans ((HBi.out.trans (HB7.out.mono HBi.out.size)).mono HBq.out.size))
            · obtain rfl : key = 16 := by omega
              go_wp2_with fail
              go_ret2
              exact ⟨_, true, rfl, ⟨fun _ => HGD.out, fun _ => rfl⟩, fun _ => ⟨_, F, rfl, HM.out, HF1.out, HPR.out⟩, HBq.out⟩
end Go.Proofs.Ytjpmimanigjjoaa
