/- Texts of one proof, one behind the other: MvSort, MvLater, MvBlocks, MvBlk, MvClone, MvEnded, MvSuch, MvCont, MvInts, MvCnI, MvPrep1, MvPrep2, MvNil, MvLaw0, MvBack. -/
import Derived.Test.YtdkkpkgfiodlbaaJb5
import Derived.Shelf.SortG.Plain
import Derived.Shelf.SortG.SortNone
import Derived.Sort.OwnSorted
import Derived.RangeFuncNested
import Derived.RangeFuncBound
import Derived.RangeFuncCalls
import Derived.RangeFuncLeaves
import Derived.RangeFuncBox
import Derived.Shelf.Abstract
import Derived.Shelf.RegionOpen
import Derived.OwnWalkIn
import Derived.TacticsInMore
import Derived.LoopNIn
import Derived.LoopIn
set_option linter.all false
/- slices.Sort of a row of ints that the call owns; slices.Sorted over the keys of those who wait. -/
namespace Go.Proofs.Ytdkkpkgfiodlbaa
open Go.RowKit Go.Maps Go.Sort Go.Shelf Go.Proofs

abbrev encI : Int → Value := Value.int .i64
theorem viC_map (l : List Int) : l.flatMap viC = l.map encI := by
  induction l with
  | nil => rfl
  | cons x l ih => simp [viC, ih]
theorem holdsI {w : World} {g : Nat} {cur : Array Value} {e : TypeId} {l : List Int} (hb : w.heap[g]? = some (.cells cur e (0, 0))) (ht : cur.toList.take l.length = l.map encI) : Holds encI w g 0 l.toArray := by
  intro j hj
  have hj' : j < l.length := by simpa using hj
  refine ⟨?_, by simp [World.frozen?, hb]⟩
  have h1 : cur[j]? = some (encI l[j]) := by
    have h2 : (cur.toList.take l.length)[j]? = (l.map encI)[j]? := by rw [ht]
    rw [List.getElem?_take_of_lt hj', List.getElem?_map, List.getElem?_eq_getElem hj', Array.getElem?_toList] at h2
    exact h2
  have h3 : (⟨g, 0 + j, none⟩ : Addr) = ⟨g, j, none⟩ := by rw [Nat.zero_add]
  rw [h3, cell_of hb, h1, getElem!_pos l.toArray j hj]
  simp
theorem grownI {w : World} {g n : Nat} {os : Array Obj} (d : Array Int) : w.grownBy (grow (putRow encI (Sort.ahead w n) g 0 d) os) (some g) := by
  refine ⟨rfl, rfl, rfl, by simp, fun k hk hne => ?_⟩
  have hgk : g ≠ k := fun e => hne (by rw [e])
  rw [heap_grow_old _ _ (by simpa using hk)]
  simp [putRow, mapBlock, Sort.ahead, Array.getElem?_modify, hgk]
theorem sortedI {w : World} {base g cap n : Nat} {e : TypeId} {os : Array Obj} {cur : Array Value} {l l' : List Int} (hl : l'.length = l.length) (hbase : base ≤ g) (hb : w.heap[g]? = some (.cells cur e (0, 0)))
    (h1 : l.length ≤ cap) (h2 : cap ≤ maxLen) (h3 : cur.size = cap * 1) :
    (grow (putRow encI (Sort.ahead w n) g 0 l'.toArray) os).ownsRow base e 1 (.slice (some ⟨g, 0, none⟩) l.length cap) l.length (l'.map encI) := by
  have hg : g < w.heap.size := (Array.getElem?_eq_some_iff.1 hb).1
  have hh : (grow (putRow encI (Sort.ahead w n) g 0 l'.toArray) os).heap[g]? = some (.cells (putCells encI 0 l'.toArray cur) e (0, 0)) := by
    rw [heap_grow_old _ _ (by simpa using hg)]
    simp [putRow, mapBlock, Sort.ahead, Array.getElem?_modify, hb, onCells]
  refine ⟨by simp [hl], .inr ⟨g, cap, _, rfl, hbase, hh, h1, h2, by simp [putCells, h3], ?_⟩⟩
  apply List.ext_getElem?
  intro j
  by_cases hj : j < l.length
  · rw [List.getElem?_take_of_lt (by omega), Array.getElem?_toList, List.getElem?_map, List.getElem?_eq_getElem (show j < l'.length by omega)]
    simp [putCells, show j < l'.length by omega, show j < cur.size by omega]
  · rw [List.getElem?_take_eq_none (by omega), List.getElem?_eq_none (by simp; omega)]

abbrev srt (l : List Int) : List Int := l.mergeSort fun x y => decide (x ≤ y)

set_option maxRecDepth 100000 in
set_option maxHeartbeats 2000000 in
theorem sort_call {base : Nat} (v : Value) (l : List Int) (w : World) (h : OwI base w v l) (hlen : l.length ≤ 1048576) :
    Calls Try.prog 77 #[v] w fun e w' => e = .returned (.tuple #[]) ∧ OwI base w' v (srt l) ∧ w.grownBy w' v.ownBlock := by
  rcases h.2 with ⟨hv, h0⟩ | ⟨g, cap, cur, rfl, hg, hb, h1, h2, h3, h4⟩
  · have hl : l = [] := List.length_eq_zero_iff.1 h0
    subst hl
    subst hv
    have hc := AnyG.slices_Sort_int_none sortI none 0 w
    change Calls Try.prog 77 _ _ _ at hc
    refine hc.mono ?_
    rintro e w' ⟨rfl, rfl⟩
    exact ⟨rfl, by simpa [OwI] using h, ⟨rfl, rfl, rfl, Nat.le_refl _, fun _ _ _ => rfl⟩⟩
  · have h4' : cur.toList.take l.length = l.map encI := by rw [← viC_map]; simpa using h4
    have hc := AnyG.slices_Sort_int sortI g 0 cap l w (holdsI hb h4') (Array.getElem?_eq_some_iff.1 hb).1 (by omega)
    change Calls Try.prog 77 _ _ _ at hc
    refine hc.mono ?_
    rintro e w' ⟨rfl, n, os, rfl⟩
    refine ⟨rfl, ?_, grownI _⟩
    have := sortedI (n := n) (os := os) (l := l) (l' := srt l) (by simp) hg hb h1 h2 h3
    unfold OwI
    rw [viC_map]
    simpa using this

theorem srt_perm (l : List Int) : (srt l).Perm l := List.mergeSort_perm _ _
theorem srt_sorted (l : List Int) : (srt l).Pairwise (fun x y => x ≤ y) := by
  have := List.pairwise_mergeSort (le := fun x y : Int => decide (x ≤ y)) (fun a b c h1 h2 => by simp at *; omega) (fun a b => by simp; omega) l
  exact this.imp (fun h => by simpa using h)

/-- The keys of those who wait, in order. -/
def SortedQ (L : RdyL) (w : World) (e : Ending) (w' : World) : Prop := ∃ v ks, e = .returned v ∧ OwI w.heap.size w' v ks ∧ ks.Perm (L.map (·.1)) ∧ ks.Pairwise (fun x y => x ≤ y) ∧ Below w.heap.size w w'

set_option maxRecDepth 100000 in
set_option maxHeartbeats 2000000 in
theorem sorted_call {Bs mr : Nat} {L : RdyL} (w : World) (hb : w.cell? ⟨Bs, 0, none⟩ = some (.map (some mr))) (hm : MapR w mr L) (hL : L.length ≤ 1048576) :
    Calls Try.prog 41 #[.func (.func 78) #[] #[.pointer (some ⟨Bs, 0, none⟩)]] w (SortedQ L w) := by
  have HC := Lib.hid (collect_call w hb hm hL)
  clear hb hm
  go_enter Try.func41, Try.ntmps41
  go_wp2_with (first
    | (go_at_call 76; refine HC.out.mono ?_; rintro e w1 ⟨v, ks, rfl, h1, h2, h3⟩)
    | (go_at_call 77; refine (sort_call v ks _ h1 (by rw [h2.length_eq]; simpa using hL)).mono ?_; rintro e w2 ⟨rfl, h4, h5⟩))
  go_ret
  exact ⟨v, srt ks, rfl, h4, (srt_perm ks).trans h2, srt_sorted ks, h3.grown h5 h3.size (fun j hj => (World.ownsRow.lt h1 j hj).1)⟩

/-- maps.Keys of those who wait, sorted: as the program writes it. -/
theorem keys_call {mr : Nat} (w : World) : Calls Try.prog 42 #[.map (some mr)] w fun e w' => e = .returned (.func (.func 78) #[] #[.pointer (some ⟨w.heap.size, 0, none⟩)]) ∧ w' = w.alloc (.cells #[.map (some mr)] 109) := by
  go_enter Try.func42, Try.ntmps42
  go_wp2_with fail
  go_ret
  exact ⟨rfl, rfl⟩
end Go.Proofs.Ytdkkpkgfiodlbaa

/- (*mvcc.Store).later: has a key a version behind a time? -/
namespace Go.Proofs.Ytdkkpkgfiodlbaa
open Go.RowKit Go.Maps

def nilK : KV := (.slice none 0 0, [])
def curK (K : KeysL) (key : Int) : KV := (getM K key).getD nilK
def verOf (K : KeysL) (key : Int) : List Ver := (curK K key).2
def laterB (vs : List Ver) (t : Int) : Bool := match vs.getLast? with | some x => decide (t < x.1) | none => false

theorem MvS.cur {base p mk mr me : Nat} {serial : Bool} {bugs : Int} {K : KeysL} {R : RdyL} {E : EndL} {W : World} (h : MvS base p mk mr me serial bugs K R E W) (key : Int) : RdVer W (curK K key).1 (curK K key).2 := by
  unfold curK
  cases hg : getM K key with
  | none => exact ⟨none, 0, 0, rfl, rfl, by simp [nilK], Nat.le_refl _, fun _ => ⟨rfl, rfl⟩, fun j x hj => by simp [nilK] at hj⟩
  | some x => exact h.krow (key, x) (getM_some hg)
theorem zero_vers (w : World) : (zeroValue 133).run Try.prog w = .ok (.slice none 0 0) w := by kernel_rfl
theorem lookup_keys {w : World} {mk : Nat} {K : KeysL} (h : MapK w mk K) {key : Int} (hk : i64 key) :
    (Instr.lookup 110 (.map (some mk)) (vi key) false).run Try.prog w = .ok (curK K key).1 w := by
  obtain ⟨kl, hkl⟩ := intKey hk
  have h1 := (h.lookup intKeyed vi_inj (t := 110) (e := 133) Try.underlying110 key hkl (zero_vers w)).1
  have e : ((getM K key).map (fun x : KV => x.1)).getD (.slice none 0 0) = (curK K key).1 := by unfold curK; cases getM K key <;> rfl
  rw [e] at h1
  exact h1

set_option maxRecDepth 100000 in
set_option maxHeartbeats 2000000 in
theorem later_call {base p mk mr me : Nat} {serial : Bool} {bugs : Int} {K : KeysL} {R : RdyL} {E : EndL} (key t : Int) (w : World) (h : MvS base p mk mr me serial bugs K R E w) (hk : i64 key) :
    Calls Try.prog 61 #[.pointer (some ⟨p, 0, none⟩), vi key, vi t] w fun e w' => e = .returned (.bool (laterB (verOf K key) t)) ∧ Below w.heap.size w w' := by
  have hlk := lookup_keys h.keys hk
  have p2 : w.cell? ⟨p, 2, none⟩ = some (.map (some mk)) := by rw [cell_of h.blk]; rfl
  have hr := h.cur key
  unfold verOf
  generalize curK K key = kv at *
  obtain ⟨kv1, vs⟩ := kv
  obtain ⟨a, len, cap, hv, hl, hm, hc⟩ := hr.at
  simp only at hv hl hm hc hlk
  subst hv hl
  clear h hr
  go_enter Try.func61, Try.ntmps61
  by_cases h0 : vs.length = 0
  · have hv0 : vs = [] := List.length_eq_zero_iff.1 h0
    subst hv0
    clear hc
    go_wp2_with fail
    go_ret
    exact ⟨by simp [laterB], Below.refl _ _⟩
  · obtain ⟨x, hx⟩ := some_at (l := vs) (k := vs.length - 1) (by omega)
    obtain ⟨b, off, rfl, c0, -, hi⟩ := hc _ x hx
    have hpos : (0 : Int) < (vs.length : Int) := by omega
    have hwr : IntKind.i64.wrap ((vs.length : Int) - 1) = ((vs.length - 1 : Nat) : Int) := by rw [IntWalk.i64_in _ (by omega)]; omega
    have hL := Lib.hid (show laterB vs t = decide (t < x.1) by
      have : vs.getLast? = some x := by rw [List.getLast?_eq_getElem?]; exact hx
      unfold laterB; rw [this])
    have hlt1 : ((vs.length - 1 : Nat) : Int) < (vs.length : Int) := by omega
    clear hc hx h0
    go_wp2_with fail
    go_ret
    exact ⟨by rw [hL.out]; rfl, Below.refl _ _⟩
end Go.Proofs.Ytdkkpkgfiodlbaa

/- mvcc.Ready.writes; (*mvcc.Store).blocks for whatever test of one who waits. -/
namespace Go.Proofs.Ytdkkpkgfiodlbaa
open Go.RowKit Go.Maps

def keyB (key : Int) (o : GOp) : Bool := o.key == key
def idxB (key : Int) (l : List GOp) : Int := match l.findIdx? (keyB key) with | some i => (i : Int) | none => -1
theorem idxB_any (key : Int) (l : List GOp) : decide (0 ≤ idxB key l) = l.any (keyB key) := by
  unfold idxB
  cases h : l.findIdx? (keyB key) with
  | none =>
    rw [List.findIdx?_eq_none_iff] at h
    simp only [show ¬ ((0 : Int) ≤ -1) from by decide, decide_false]
    symm; rw [List.any_eq_false]; exact fun x hx => by simp [h x hx]
  | some i =>
    have hs : (l.findIdx? (keyB key)).isSome = true := by rw [h]; rfl
    rw [List.findIdx?_isSome] at hs
    rw [hs]; simp

set_option maxRecDepth 100000 in
theorem key_call (o : GOp) (key : Int) (kb : Nat) (w : World) (hk : w.cell? ⟨kb, 0, none⟩ = some (.int .i64 key)) :
    Calls Try.prog 84 #[.agg #[vi o.kind, vi o.key, vi o.val], .pointer (some ⟨kb, 0, none⟩)] w fun e w' => e = .returned (.bool (keyB key o)) ∧ Below w.heap.size w w' := by
  have hk' := fun o' => cell_later ((Below.refl w.heap.size w).alloc (Nat.le_refl _) o') hk
  go_enter Try.func84, Try.ntmps84
  go_wp2_with fail
  go_ret
  exact ⟨rfl, (Below.refl _ _).alloc (Nat.le_refl _) _⟩

/-- What a test of an operation answers. -/
def OpTest (f : FuncId) (cp : Array Value) (q : GOp → Bool) (w : World) : Prop := ∀ (o : GOp) (W : World), Below w.heap.size w W → Calls Try.prog f (#[.agg #[vi o.kind, vi o.key, vi o.val]] ++ cp) W fun e W' => e = .returned (.bool (q o)) ∧ Below W.heap.size W W'
def idxQ (q : GOp → Bool) (l : List GOp) : Int := match l.findIdx? q with | some i => (i : Int) | none => -1

set_option maxRecDepth 100000 in
theorem index_call (v : Value) (l : List GOp) (key : Int) (kb : Nat) (w : World) (hv : RdOps w v l) (hk : w.cell? ⟨kb, 0, none⟩ = some (.int .i64 key)) :
    Calls Try.prog 86 #[v, .func (.func 84) #[] #[.pointer (some ⟨kb, 0, none⟩)]] w fun e w' => e = .returned (.int .i64 (idxB key l)) ∧ Below w.heap.size w w' := by
  have HV := Lib.hid hv
  have HK := Lib.hid hk
  obtain ⟨a, len, cap, rfl, rfl, hm, -⟩ := hv.at
  clear hv hk
  go_enter Try.func86, Try.ntmps86
  go_wp2_with fail
  go_loopw [5, 8] (fun _ i wr => ∃ k : Nat, k ≤ l.length ∧ i = .int .i64 k ∧ (∀ j o, j < k → l[j]? = some o → keyB key o = false) ∧ Below w.heap.size w wr) (fun _ i _ => l.length - (intOf i).toNat)
  case atStart => exact ⟨0, Nat.zero_le _, rfl, fun j o hj => absurd hj (Nat.not_lt_zero _), Below.refl _ _⟩
  case round =>
    obtain ⟨k, hk, rfl, hno, hb⟩ := hrel
    have HB := Lib.hid hb
    have HN := Lib.hid hno
    clear hb hno
    by_cases hlt : k < l.length
    · obtain ⟨o, ho⟩ := some_at hlt
      obtain ⟨_, _, _, e5, -, -, hcl⟩ := HV.out.at
      cases e5
      obtain ⟨b, off, rfl, k0', k1', k2'⟩ := hcl k o ho
      have k0 := cell_later HB.out k0'
      have k1 := cell_later HB.out k1'
      have k2 := cell_later HB.out k2'
      have HO := Lib.hid ho
      clear hcl ho k0' k1' k2'
      cases hh : keyB key o with
      | true =>
        have HH := Lib.hid hh
        clear hh
        go_wp2_with (go_at_call 84; refine (key_call o key kb _ (cell_later HB.out HK.out)).mono ?_; rintro e w1 ⟨rfl, hb1⟩; rw [HH.out])
        go_ret
        have : idxB key l = k := by
          unfold idxB
          have : l.findIdx? (keyB key) = some k := by
            rw [List.findIdx?_eq_some_iff_getElem]
            have hg := List.getElem?_eq_some_iff.1 HO.out
            refine ⟨hlt, by rw [hg.2]; exact HH.out, fun j hj => ?_⟩
            have := HN.out j l[j] hj (List.getElem?_eq_getElem _)
            simp [this]
          rw [this]
        exact ⟨by rw [this]; rfl, HB.out.trans (hb1.mono HB.out.size)⟩
      | false =>
        have HH := Lib.hid hh
        clear hh
        go_wp2_with (go_at_call 84; refine (key_call o key kb _ (cell_later HB.out HK.out)).mono ?_; rintro e w1 ⟨rfl, hb1⟩; rw [HH.out])
        go_roundw
        case rel =>
          refine ⟨k + 1, by omega, by go_num, ?_, HB.out.trans (hb1.mono HB.out.size)⟩
          intro j o' hj ho'
          rcases Nat.lt_or_ge j k with h | h
          · exact HN.out j o' h ho'
          · obtain rfl : j = k := by omega
            rw [HO.out] at ho'; cases ho'; exact HH.out
        case measure => simp [intOf]; omega
    · obtain rfl : k = l.length := by omega
      go_wp2_with fail
      go_ret
      have : idxB key l = -1 := by
        unfold idxB
        have : l.findIdx? (keyB key) = none := by
          rw [List.findIdx?_eq_none_iff]
          intro x hx
          obtain ⟨j, hj, rfl⟩ := List.mem_iff_getElem.1 hx
          exact HN.out j l[j] hj (List.getElem?_eq_getElem _)
        rw [this]
      exact ⟨by rw [this]; rfl, HB.out⟩

set_option maxRecDepth 100000 in
theorem contains_call (v : Value) (l : List GOp) (key : Int) (kb : Nat) (w : World) (hv : RdOps w v l) (hk : w.cell? ⟨kb, 0, none⟩ = some (.int .i64 key)) :
    Calls Try.prog 63 #[v, .func (.func 84) #[] #[.pointer (some ⟨kb, 0, none⟩)]] w fun e w' => e = .returned (.bool (l.any (keyB key))) ∧ Below w.heap.size w w' := by
  go_enter Try.func63, Try.ntmps63
  go_wp2_with (go_at_call 86; refine (index_call v l key kb w hv hk).mono ?_; rintro e w1 ⟨rfl, hb1⟩)
  go_ret
  exact ⟨by rw [← idxB_any]; first | rfl | simp, hb1⟩

/-- Does one who waits write a key? -/
def writesB (r : Rdy) (key : Int) : Bool := r.writes.any (keyB key)
set_option maxRecDepth 100000 in
set_option maxHeartbeats 2000000 in
theorem writes_call (x : RV) (key : Int) (w : World) (hx : RdyS w x) :
    Calls Try.prog 59 #[rdyV x, vi key] w fun e w' => e = .returned (.bool (writesB x.r key)) ∧ Below w.heap.size w w' := by
  have hmf : ∀ (fn : Fn) (first cap : Array Value) (w : World), (Instr.makeFunc fn first cap).run Try.prog w = .ok (.func fn first cap) w := fun _ _ _ _ => rfl
  have hB : Below w.heap.size w ((w.alloc (.cells (rdyC x) 29)).alloc (.cells #[vi key] 3)) := ((Below.refl _ _).alloc (Nat.le_refl _) _).alloc (by simp) _
  have HV := Lib.hid (hx.ws.later hB)
  have HB := Lib.hid hB
  have q3 : ((w.alloc (.cells #[vi x.r.txn, vi x.r.home, vi x.r.start, x.wv, x.rv] 29)).alloc (.cells #[vi key] 3)).cell? ⟨w.heap.size, 3, none⟩ = some x.wv := by
    rw [World.cell?_alloc_past _ _ _ (by simp), World.cell?_alloc_at _ _ _ _ rfl]; rfl
  unfold rdyC at HV HB
  clear hx hB
  unfold rdyV rdyC
  go_enter Try.func59, Try.ntmps59
  go_wp2_with (go_at_call 63; refine (contains_call x.wv x.r.writes key (w.heap.size + 1) _ HV.out (by rw [World.cell?_alloc_at _ _ _ _ (by simp)]; rfl)).mono ?_; rintro e w1 ⟨rfl, hb1⟩)
  go_ret
  exact ⟨rfl, HB.out.trans (hb1.mono (by simp; omega))⟩
end Go.Proofs.Ytdkkpkgfiodlbaa

/- (*mvcc.Store).blocks: the least one who waits, but one, and is such. -/
namespace Go.Proofs.Ytdkkpkgfiodlbaa
open Go.RowKit Go.Maps
/-- What a test of one who waits answers, wherever it is asked. -/
def SuchAt (g : FuncId) (cp : Array Value) (q : Rdy → Bool) (R : RdyL) (w : World) : Prop :=
  ∀ (x : Int × RV), x ∈ R → ∀ W : World, Below w.heap.size w W → Calls Try.prog g (#[rdyV x.2] ++ cp) W fun e W' => e = .returned (.bool (q x.2.r)) ∧ Below W.heap.size W W'
/-- What blocks answers. -/
def Blk (R : RdyL) (but : Int) (q : Rdy → Bool) (r : Int × Bool) : Prop :=
  (r = (0, false) ∧ ∀ x ∈ R, x.1 ≠ but → q x.2.r = false) ∨ (∃ x ∈ R, x.1 ≠ but ∧ q x.2.r = true ∧ r = (x.1, true) ∧ ∀ y ∈ R, y.1 ≠ but → q y.2.r = true → x.1 ≤ y.1)

theorem lookup_ready {w : World} {mr : Nat} {R : RdyL} (h : MapR w mr R) {x : Int × RV} (hx : x ∈ R) (z : Value) (hz : (zeroValue 29).run Try.prog w = .ok z w) :
    (Instr.lookup 109 (.map (some mr)) (vi x.1) false).run Try.prog w = .ok (rdyV x.2) w := by
  obtain ⟨kl, hkl⟩ := h.keyed hx
  have h1 := (h.lookup intKeyed vi_inj (t := 109) (e := 29) Try.underlying109 x.1 hkl hz).1
  have hg : getM R x.1 = some x.2 := by
    cases hg : getM R x.1 with
    | none => exact absurd rfl (getM_none.1 hg x hx)
    | some y =>
      have hy := getM_some hg
      have hp := h.pairwise
      obtain ⟨i, hi⟩ := List.mem_iff_getElem?.1 hx
      obtain ⟨j, hj⟩ := List.mem_iff_getElem?.1 hy
      obtain ⟨i1, i2⟩ := List.getElem?_eq_some_iff.1 hi
      obtain ⟨j1, j2⟩ := List.getElem?_eq_some_iff.1 hj
      rcases Nat.lt_trichotomy i j with h3 | h3 | h3
      · exact absurd (by rw [i2, j2]) (List.pairwise_iff_getElem.1 hp i j i1 j1 h3)
      · subst h3; rw [hi] at hj
        have h4 := congrArg Prod.snd (Option.some.inj hj)
        rw [h4]
      · exact absurd (by rw [i2, j2]) (List.pairwise_iff_getElem.1 hp j i j1 i1 h3)
  rw [hg] at h1
  exact h1
theorem zero_ready (w : World) : (zeroValue 29).run Try.prog w = .ok (.agg #[vi 0, vi 0, vi 0, .slice none 0 0, .slice none 0 0]) w := by kernel_rfl

set_option maxRecDepth 100000 in
set_option maxHeartbeats 4000000 in
theorem blocks_call {base p mk mr me : Nat} {serial : Bool} {bugs : Int} {K : KeysL} {R : RdyL} {E : EndL} (but : Int) (g : FuncId) (cp : Array Value) (q : Rdy → Bool) (w : World) (h : MvS base p mk mr me serial bugs K R E w) (hR : R.length ≤ 1048576)
    (eg : ∀ args w, (callFunc g args).run Try.prog w = .ok (.enter g args) w) (hs : SuchAt g cp q R w) :
    Calls Try.prog 57 #[.pointer (some ⟨p, 0, none⟩), vi but, .func (.func g) #[] cp] w fun e w' => ∃ id ok, e = .returned (.tuple #[vi id, .bool ok]) ∧ Blk R but q (id, ok) ∧ Below w.heap.size w w' := by
  have HM := Lib.hid h
  have HS := Lib.hid hs
  have p3 : w.cell? ⟨p, 3, none⟩ = some (.map (some mr)) := by rw [cell_of h.blk]; rfl
  clear h hs
  have HB1 := Lib.hid ((Below.refl w.heap.size w).alloc (Nat.le_refl _) (.cells #[.map (some mr)] 109))
  go_enter Try.func57, Try.ntmps57
  go_wp2_with (first
    | (go_at_call 42; refine (keys_call _).mono ?_; rintro e w1 ⟨rfl, rfl⟩)
    | (go_at_call 41; refine (sorted_call (mr := mr) (L := R) _ (by rw [cell_of (alloc_at _ _)]; rfl) (HM.out.later HB1.out).ready hR).mono ?_; rintro e w2 ⟨v2, ks, rfl, ho2, hp2, hs2, hb2⟩; obtain ⟨a2, l2, c2, rfl, hl2, -⟩ : ∃ a l c, v2 = .slice a l c ∧ l = ks.length ∧ True := (by rcases ho2.2 with ⟨hv, h0⟩ | ⟨g', cap, cur, hv, _⟩; exact ⟨none, 0, 0, hv, h0.symm, trivial⟩; exact ⟨_, _, _, hv, rfl, trivial⟩); subst hl2))
  have HO := Lib.hid ho2
  have HP := Lib.hid hp2
  have HSO := Lib.hid hs2
  have HB2 := Lib.hid (HB1.out.trans (hb2.mono HB1.out.size))
  have hw2 := HB2.out.size
  have hkl : ks.length ≤ 1048576 := by rw [hp2.length_eq]; simpa using hR
  clear ho2 hp2 hs2 hb2 p3
  go_loopw [9, 17] (fun _ n wr => ∃ j : Nat, j ≤ ks.length ∧ n = .int .i64 j ∧ Hid (∀ i id, i < j → ks[i]? = some id → ∀ x ∈ R, x.1 = id → x.1 ≠ but → q x.2.r = false) ∧ Below w2.heap.size w2 wr) (fun _ n _ => ks.length - (intOf n).toNat)
  case atStart => exact ⟨0, Nat.zero_le _, rfl, Lib.hid (fun i id h => absurd h (Nat.not_lt_zero _)), Below.refl _ _⟩
  case round =>
    obtain ⟨wj, rfl⟩ : ∃ wj : World, wj = wr := ⟨_, rfl⟩
    obtain ⟨j, hj, rfl, HN, hbj⟩ := hrel
    have HBj := Lib.hid hbj
    have HBW := Lib.hid (HB2.out.trans (hbj.mono hw2))
    clear hbj
    by_cases hlt : j < ks.length
    · obtain ⟨id, hid⟩ := some_at hlt
      obtain ⟨x, hx, hxi⟩ := List.mem_map.1 (HP.out.mem_iff.1 (List.mem_of_getElem? hid))
      subst hxi
      obtain ⟨g2, rfl⟩ : ∃ g2, a2 = some ⟨g2, 0, none⟩ := by
        rcases HO.out.2 with ⟨hv, h0⟩ | ⟨g', cap, cur, hv, _⟩
        · omega
        · simp only [Value.slice.injEq] at hv; exact ⟨_, hv.1⟩
      have c0 : wj.cell? ⟨g2, j, none⟩ = some (vi x.1) := by
        have h1 := World.ownsRow.cells HO.out (g := g2) rfl j (vi x.1) (by rw [viC_map, List.getElem?_map, hid]; rfl)
        rw [addr_add, Nat.zero_add] at h1
        exact cell_later HBj.out h1
      have hjI : (j : Int) < (ks.length : Int) := by omega
      have HID := Lib.hid hid
      have HX := Lib.hid hx
      have hnext : ∀ (h : x.1 ≠ but → q x.2.r = false), Hid (∀ i id, i < j + 1 → ks[i]? = some id → ∀ x ∈ R, x.1 = id → x.1 ≠ but → q x.2.r = false) := fun h => Lib.hid (by
        intro i id hi hik y hy hyi hyb
        rcases Nat.lt_or_ge i j with h1 | h1
        · exact HN.out i id h1 hik y hy hyi hyb
        · obtain rfl : i = j := by omega
          rw [HID.out] at hik; cases hik
          have : y = x := by
            have hp := HM.out.ready.pairwise
            obtain ⟨a, ha⟩ := List.mem_iff_getElem?.1 hy
            obtain ⟨b, hb⟩ := List.mem_iff_getElem?.1 HX.out
            obtain ⟨a1, a2⟩ := List.getElem?_eq_some_iff.1 ha
            obtain ⟨b1, b2⟩ := List.getElem?_eq_some_iff.1 hb
            rcases Nat.lt_trichotomy a b with h3 | h3 | h3
            · exact absurd (by rw [a2, b2]; exact hyi) (List.pairwise_iff_getElem.1 hp a b a1 b1 h3)
            · subst h3; rw [ha] at hb; exact Option.some.inj hb
            · exact absurd (by rw [a2, b2]; exact hyi.symm) (List.pairwise_iff_getElem.1 hp b a b1 a1 h3)
          subst this
          exact h hyb)
      have HNX := Lib.hid hnext
      clear hid hx hnext
      by_cases hbut : x.1 = but
      · have hne : (x.1 != but) = false := by simp [hbut]
        have HBU := Lib.hid hbut
        clear hbut
        go_wp2_with fail
        go_roundw
        case rel => exact ⟨j + 1, by omega, by go_num, HNX.out (fun h => absurd HBU.out h), HBj.out⟩
        case measure => simp [intOf]; omega
      · have hne : (x.1 != but) = true := by simp [hbut]
        have HBU := Lib.hid hbut
        have p3 : wj.cell? ⟨p, 3, none⟩ = some (.map (some mr)) := by rw [cell_of (HM.out.later HBW.out).blk]; rfl
        have hlk := lookup_ready (HM.out.later HBW.out).ready HX.out _ (zero_ready wj)
        obtain ⟨qb, hqb⟩ : ∃ b, q x.2.r = b := ⟨_, rfl⟩
        have hcall := HS.out x HX.out wj HBW.out
        rw [hqb] at hcall
        have HC := Lib.hid hcall
        have HQ := Lib.hid hqb
        clear hcall hqb hbut
        generalize hrv : rdyV x.2 = rv at *
        clear hrv
        cases qb
        · go_wp2_with (go_at_fn g; refine HC.out.mono ?_; rintro e w5 ⟨rfl, hb5⟩)
          go_roundw
          case rel => exact ⟨j + 1, by omega, by go_num, HNX.out (fun _ => HQ.out), HBj.out.trans (hb5.mono HBj.out.size)⟩
          case measure => simp [intOf]; omega
        · go_wp2_with (go_at_fn g; refine HC.out.mono ?_; rintro e w5 ⟨rfl, hb5⟩)
          go_ret2
          refine ⟨x.1, true, rfl, .inr ⟨x, HX.out, HBU.out, HQ.out, rfl, fun y hy hyb hyq => ?_⟩, HBW.out.trans (hb5.mono HBW.out.size)⟩
          obtain ⟨i, hi⟩ := List.mem_iff_getElem?.1 (HP.out.mem_iff.2 (List.mem_map.2 ⟨y, hy, rfl⟩))
          rcases Nat.lt_trichotomy i j with h1 | h1 | h1
          · rw [HN.out i _ h1 hi y hy rfl hyb] at hyq; cases hyq
          · subst h1; rw [HID.out] at hi; have h4 := Option.some.inj hi; omega
          · obtain ⟨i1, i2⟩ := List.getElem?_eq_some_iff.1 hi
            obtain ⟨j1, j2⟩ := List.getElem?_eq_some_iff.1 HID.out
            have h3 := List.pairwise_iff_getElem.1 HSO.out j i j1 i1 h1
            rwa [i2, j2] at h3
    · obtain rfl : j = ks.length := by omega
      go_wp2_with fail
      go_ret2
      refine ⟨0, false, rfl, .inl ⟨rfl, fun y hy hyb => ?_⟩, HBW.out⟩
      obtain ⟨i, hi⟩ := List.mem_iff_getElem?.1 (HP.out.mem_iff.2 (List.mem_map.2 ⟨y, hy, rfl⟩))
      exact HN.out i _ (List.getElem?_eq_some_iff.1 hi).1 hi y hy rfl hyb
end Go.Proofs.Ytdkkpkgfiodlbaa

/- slices.Clone at versions, operations and ints: a readable slice, copied into memory of the call's own. -/
namespace Go.Proofs.Ytdkkpkgfiodlbaa
open Go.RowKit Go.Maps

theorem verV_length (x : Ver) : (verV x).length = 2 := rfl
theorem flat2 (l : List Ver) : (l.flatMap verV).length = l.length * 2 := by
  induction l with
  | nil => simp
  | cons x l ih => rw [List.flatMap_cons, List.length_append, verV_length, ih, List.length_cons, Nat.succ_mul, Nat.add_comm]
theorem flat_at {α : Type} (enc : α → List Value) (k : Nat) (hk : ∀ x, (enc x).length = k) : ∀ (l : List α) (j i : Nat) (x : α) (u : Value), l[j]? = some x → (enc x)[i]? = some u → (l.flatMap enc)[j * k + i]? = some u
  | [], j, i, x, u, h, _ => by simp at h
  | y :: l, 0, i, x, u, h, hu => by
    simp at h; subst h
    rw [List.flatMap_cons, Nat.zero_mul, Nat.zero_add, List.getElem?_append_left (List.getElem?_eq_some_iff.1 hu).1]; exact hu
  | y :: l, j + 1, i, x, u, h, hu => by
    rw [List.flatMap_cons, List.getElem?_append_right (by rw [hk, Nat.succ_mul]; omega), hk, show (j + 1) * k + i - k = j * k + i by rw [Nat.succ_mul]; omega]
    exact flat_at enc k hk l j i x u (by simpa using h) hu
/-- A row that the call owns, and each element of which reads by E: a readable slice. -/
theorem own_rds {α : Type} {enc : α → List Value} {k : Nat} (hk : ∀ x, (enc x).length = k) {E : World → List Value → α → Prop} {base : Nat} {w : World} {e : TypeId} {v : Value} {l : List α} (h : w.ownsRow base e k v l.length (l.flatMap enc)) (hE : ∀ x ∈ l, E w (enc x) x) : RdS k E w v l := by
  rcases h.2 with ⟨hv, h0⟩ | ⟨g, cap, cur, hv, hg, hh, hn, hcm, hs, ht⟩
  · have : l = [] := List.length_eq_zero_iff.1 h0
    subst this
    exact ⟨none, 0, 0, hv, rfl, by simp, Nat.le_refl _, fun _ => ⟨rfl, rfl⟩, fun j x hj => by simp at hj⟩
  · refine ⟨some ⟨g, 0, none⟩, l.length, cap, hv, rfl, by simp only [maxLen] at hcm; omega, hn, fun h => (by cases h), fun j x hj => ⟨g, 0, enc x, rfl, hk x, fun i u hu => ?_, hE x (List.mem_of_getElem? hj)⟩⟩
    have := World.ownsRow.cells h (g := g) (by rw [hv]; rfl) (j * k + i) u (flat_at enc k hk l j i x u hj hu)
    rwa [addr_add] at this
/-- A readable slice of elements that lie as enc says: the source of an append. -/
theorem rds_src {α : Type} {enc : α → List Value} {k : Nat} (hk : ∀ x, (enc x).length = k) {E : World → List Value → α → Prop} {w : World} {v : Value} {l : List α} (h : RdS k E w v l) (hE : ∀ cs x, E w cs x → cs = enc x) (k0 : 0 < k) : Src w v k l.length (l.flatMap enc) := by
  obtain ⟨a, len, cap, h1, h2, h3, h4, h5, h6⟩ := h
  subst h2
  have hfl : ∀ l : List α, (l.flatMap enc).length = l.length * k := fun l => by
    induction l with
    | nil => simp
    | cons x l ih => rw [List.flatMap_cons, List.length_append, hk, ih, List.length_cons, Nat.succ_mul, Nat.add_comm]
  refine ⟨a, cap, h1, hfl l, h5, fun ad had j u hu => ?_⟩
  have hj := (List.getElem?_eq_some_iff.1 hu).1
  rw [hfl] at hj
  have hjl : j / k < l.length := Nat.div_lt_of_lt_mul (by rw [Nat.mul_comm]; exact hj)
  have hi : j % k < k := Nat.mod_lt _ k0
  obtain ⟨x, hx⟩ := some_at hjl
  obtain ⟨b, off, cs, ha, hl, hc, he⟩ := h6 _ x hx
  have hcs := hE cs x he
  subst hcs
  rw [ha] at had; cases had
  have h7 : (enc x)[j % k]? = some ((enc x)[j % k]'(by rw [hk]; exact hi)) := List.getElem?_eq_getElem _
  have h8 := flat_at enc k hk l (j / k) (j % k) x _ hx h7
  have e : j / k * k + j % k = j := by rw [Nat.mul_comm]; exact Nat.div_add_mod j k
  rw [e] at h8
  rw [h8] at hu
  have h9 := hc (j % k) _ h7
  rw [e] at h9
  rw [addr_add, h9]; exact hu
theorem one_of {α : Type} {enc : α → List Value} (h : ∀ x, ∀ u ∈ enc x, u.oneCell' = true) (l : List α) : ∀ u ∈ l.flatMap enc, u.oneCell' = true := by
  intro u hu
  obtain ⟨x, _, hx⟩ := List.mem_flatMap.1 hu
  exact h x u hx
def OwV (base : Nat) (w : World) (v : Value) (l : List Ver) : Prop := w.ownsRow base 135 2 v l.length (l.flatMap verV)

set_option maxRecDepth 100000 in
set_option maxHeartbeats 1000000 in
theorem cloneV_call (v : Value) (l : List Ver) (w : World) (hv : RdVer w v l) (hl : l.length ≤ 1048576) :
    Calls Try.prog 70 #[v] w fun e w' => ∃ v', e = .returned v' ∧ w'.ownsRow w.heap.size 135 2 v' l.length (l.flatMap verV) ∧ Below w.heap.size w w' := by
  have HO0 := Lib.hid (World.ownsRow_lit (base := w.heap.size) (e := 135) (size := 2) w #[] 0 (Nat.le_refl _) (by simp [maxLen]) rfl)
  have HB0 := Lib.hid ((Below.refl w.heap.size w).alloc (Nat.le_refl _) (.cells #[] 135))
  have HS := Lib.hid (rds_src (enc := verV) (k := 2) (fun _ => rfl) (hv.later HB0.out) (fun cs x h => h.1) (by omega))
  obtain ⟨a, len, cap, rfl, rfl, hm, hn⟩ : ∃ a len cap, v = .slice a len cap ∧ len = l.length ∧ l.length ≤ 9223372036854775807 ∧ (a = none → len = 0 ∧ cap = 0) := by
    obtain ⟨a, len, cap, h1, h2, h3, -, h5, -⟩ := hv
    exact ⟨a, len, cap, h1, h2, h3, h5⟩
  clear hv
  have qT : ∀ (w : World) (a : Option Addr) (n c : Nat), (binOp .eql 133 (.slice a n c) (.slice none 0 0)).run Try.prog w = .ok (.bool a.isNone) w := fun w a n c => Lib.run_eql_slice_nil w _ _ a n c 0 0 Try.underlying133
  cases a with
  | none =>
    obtain ⟨h0, rfl⟩ := hn rfl
    have hbs : l = [] := List.length_eq_zero_iff.1 h0
    subst hbs
    go_enter Try.func70, Try.ntmps70
    go_wp2_with fail
    go_ret
    exact ⟨_, rfl, World.ownsRow_nil _ _ _ _, Below.refl _ _⟩
  | some ad =>
    go_enter Try.func70, Try.ntmps70
    go_wp2_with (at_builtin; refine wpList_append_src rfl _ _ 133 rfl eltVer w.heap.size 0 [] HO0.out rfl l.length _ HS.out rfl (one_of (by intro x u hu; simp [verV] at hu; rcases hu with rfl | rfl <;> rfl) l) (by omega) (by omega) (by simp) ?_; intro v1 w1 hown hg _)
    go_ret
    exact ⟨_, rfl, by simpa using hown, HB0.out.grown hg (by simp) (by simp [Value.ownBlock])⟩

set_option maxRecDepth 100000 in
set_option maxHeartbeats 1000000 in
theorem cloneO_call (v : Value) (l : List GOp) (w : World) (hv : RdOps w v l) (hl : l.length ≤ 1048576) :
    Calls Try.prog 43 #[v] w fun e w' => ∃ v', e = .returned v' ∧ w'.ownsRow w.heap.size 104 3 v' l.length (l.flatMap opV) ∧ Below w.heap.size w w' := by
  have HO0 := Lib.hid (World.ownsRow_lit (base := w.heap.size) (e := 104) (size := 3) w #[] 0 (Nat.le_refl _) (by simp [maxLen]) rfl)
  have HB0 := Lib.hid ((Below.refl w.heap.size w).alloc (Nat.le_refl _) (.cells #[] 104))
  have HS := Lib.hid (rds_src (enc := opV) (k := 3) (fun _ => rfl) (hv.later HB0.out) (fun cs x h => h) (by omega))
  obtain ⟨a, len, cap, rfl, rfl, hm, hn⟩ : ∃ a len cap, v = .slice a len cap ∧ len = l.length ∧ l.length ≤ 9223372036854775807 ∧ (a = none → len = 0 ∧ cap = 0) := by
    obtain ⟨a, len, cap, h1, h2, h3, -, h5, -⟩ := hv
    exact ⟨a, len, cap, h1, h2, h3, h5⟩
  clear hv
  have qT : ∀ (w : World) (a : Option Addr) (n c : Nat), (binOp .eql 26 (.slice a n c) (.slice none 0 0)).run Try.prog w = .ok (.bool a.isNone) w := fun w a n c => Lib.run_eql_slice_nil w _ _ a n c 0 0 Try.underlying26
  cases a with
  | none =>
    obtain ⟨h0, rfl⟩ := hn rfl
    have hbs : l = [] := List.length_eq_zero_iff.1 h0
    subst hbs
    go_enter Try.func43, Try.ntmps43
    go_wp2_with fail
    go_ret
    exact ⟨_, rfl, World.ownsRow_nil _ _ _ _, Below.refl _ _⟩
  | some ad =>
    go_enter Try.func43, Try.ntmps43
    go_wp2_with (at_builtin; refine wpList_append_src rfl _ _ 26 rfl eltOp w.heap.size 0 [] HO0.out rfl l.length _ HS.out rfl (one_of (by intro x u hu; simp [opV] at hu; rcases hu with rfl | rfl | rfl <;> rfl) l) (by omega) (by omega) (by simp) ?_; intro v1 w1 hown hg _)
    go_ret
    exact ⟨_, rfl, by simpa using hown, HB0.out.grown hg (by simp) (by simp [Value.ownBlock])⟩

set_option maxRecDepth 100000 in
set_option maxHeartbeats 1000000 in
theorem cloneI_call (v : Value) (l : List Int) (w : World) (hv : RdInts w v l) (hl : l.length ≤ 1048576) :
    Calls Try.prog 44 #[v] w fun e w' => ∃ v', e = .returned v' ∧ w'.ownsRow w.heap.size 3 1 v' l.length (l.flatMap viC) ∧ Below w.heap.size w w' := by
  have HO0 := Lib.hid (World.ownsRow_lit (base := w.heap.size) (e := 3) (size := 1) w #[] 0 (Nat.le_refl _) (by simp [maxLen]) rfl)
  have HB0 := Lib.hid ((Below.refl w.heap.size w).alloc (Nat.le_refl _) (.cells #[] 3))
  have HS := Lib.hid (rds_src (enc := viC) (k := 1) (fun _ => rfl) (hv.later HB0.out) (fun cs x h => h.1) (by omega))
  obtain ⟨a, len, cap, rfl, rfl, hm, hn⟩ : ∃ a len cap, v = .slice a len cap ∧ len = l.length ∧ l.length ≤ 9223372036854775807 ∧ (a = none → len = 0 ∧ cap = 0) := by
    obtain ⟨a, len, cap, h1, h2, h3, -, h5, -⟩ := hv
    exact ⟨a, len, cap, h1, h2, h3, h5⟩
  clear hv
  have qT : ∀ (w : World) (a : Option Addr) (n c : Nat), (binOp .eql 27 (.slice a n c) (.slice none 0 0)).run Try.prog w = .ok (.bool a.isNone) w := fun w a n c => Lib.run_eql_slice_nil w _ _ a n c 0 0 Try.underlying27
  cases a with
  | none =>
    obtain ⟨h0, rfl⟩ := hn rfl
    have hbs : l = [] := List.length_eq_zero_iff.1 h0
    subst hbs
    go_enter Try.func44, Try.ntmps44
    go_wp2_with fail
    go_ret
    exact ⟨_, rfl, World.ownsRow_nil _ _ _ _, Below.refl _ _⟩
  | some ad =>
    go_enter Try.func44, Try.ntmps44
    go_wp2_with (at_builtin; refine wpList_append_src rfl _ _ 27 rfl eltI w.heap.size 0 [] HO0.out rfl l.length _ HS.out rfl (one_of (by intro x u hu; simp [viC] at hu; subst hu; rfl) l) (by omega) (by omega) (by simp) ?_; intro v1 w1 hown hg _)
    go_ret
    exact ⟨_, rfl, by simpa using hown, HB0.out.grown hg (by simp) (by simp [Value.ownBlock])⟩
end Go.Proofs.Ytdkkpkgfiodlbaa

/- (*mvcc.Store).Versions, Ended; the methods of a nil store. -/
namespace Go.Proofs.Ytdkkpkgfiodlbaa
open Go.RowKit Go.Maps
theorem zero_end (w : World) : (zeroValue 31).run Try.prog w = .ok (.agg #[vi 0, .bool false, vi 0]) w := by kernel_rfl
theorem lookup_ends {w : World} {me : Nat} {E : EndL} (h : MapE w me E) {txn : Int} (hk : i64 txn) :
    (Instr.lookup 44 (.map (some me)) (vi txn) true).run Try.prog w = .ok (.tuple #[.agg #[vi ((getM E txn).getD ⟨0, false, 0⟩).txn, .bool ((getM E txn).getD ⟨0, false, 0⟩).commit, vi ((getM E txn).getD ⟨0, false, 0⟩).at_], .bool (getM E txn).isSome]) w := by
  obtain ⟨kl, hkl⟩ := intKey hk
  have h1 := (h.lookup intKeyed vi_inj (t := 44) (e := 31) Try.underlying44 txn hkl (zero_end w)).2
  have e : ((getM E txn).map endV).getD (.agg #[vi 0, .bool false, vi 0]) = endV ((getM E txn).getD ⟨0, false, 0⟩) := by cases getM E txn <;> rfl
  rw [e] at h1
  exact h1

end Go.Proofs.Ytdkkpkgfiodlbaa

/- The test that Read hands to blocks. -/
namespace Go.Proofs.Ytdkkpkgfiodlbaa
open Go.RowKit Go.Maps
set_option maxRecDepth 100000 in
set_option maxHeartbeats 2000000 in
theorem read1_call (x : RV) (kb ab : Nat) (key t : Int) (w : World) (hx : RdyS w x) (hk : w.cell? ⟨kb, 0, none⟩ = some (.int .i64 key)) (ha : w.cell? ⟨ab, 0, none⟩ = some (.int .i64 t)) :
    Calls Try.prog 58 #[rdyV x, .pointer (some ⟨kb, 0, none⟩), .pointer (some ⟨ab, 0, none⟩)] w fun e w' => e = .returned (.bool (writesB x.r key && decide (x.r.start < t))) ∧ Below w.heap.size w w' := by
  have HB := Lib.hid ((Below.refl w.heap.size w).alloc (Nat.le_refl _) (.cells #[vi x.r.txn, vi x.r.home, vi x.r.start, x.wv, x.rv] 29))
  have HX := Lib.hid (alloc_at w (.cells #[vi x.r.txn, vi x.r.home, vi x.r.start, x.wv, x.rv] 29))
  have HR := Lib.hid (hx.later HB.out)
  have k0 := cell_later HB.out hk
  have a0 := cell_later HB.out ha
  clear hx hk ha
  have HW := Lib.hid (fun (W : World) (h : RdyS W x) => writes_call x key W h)
  unfold rdyV rdyC at *
  go_enter Try.func58, Try.ntmps58
  go_upto_region 1 with fail
  generalize w.alloc (.cells #[vi x.r.txn, vi x.r.home, vi x.r.start, x.wv, x.rv] 29) = w1 at *
  have b0 : w1.cell? ⟨w.heap.size, 0, none⟩ = some (vi x.r.txn) := by rw [cell_of HX.out]; rfl
  have b1 : w1.cell? ⟨w.heap.size, 1, none⟩ = some (vi x.r.home) := by rw [cell_of HX.out]; rfl
  have b2 : w1.cell? ⟨w.heap.size, 2, none⟩ = some (vi x.r.start) := by rw [cell_of HX.out]; rfl
  have b3 : w1.cell? ⟨w.heap.size, 3, none⟩ = some x.wv := by rw [cell_of HX.out]; rfl
  have b4 : w1.cell? ⟨w.heap.size, 4, none⟩ = some x.rv := by rw [cell_of HX.out]; rfl
  have hcall := HW.out w1 HR.out
  obtain ⟨b, hb⟩ : ∃ b, writesB x.r key = b := ⟨_, rfl⟩
  rw [hb] at hcall
  have HC := Lib.hid hcall
  have HBB := Lib.hid hb
  clear hcall hb
  cases b
  · go_wp2_with (go_at_call 59; refine HC.out.mono ?_; rintro e w2 ⟨rfl, hb2⟩)
    go_ret
    exact ⟨by rw [HBB.out]; rfl, HB.out.trans (hb2.mono HB.out.size)⟩
  · go_wp2_with (go_at_call 59; refine HC.out.mono ?_; rintro e w2 ⟨rfl, hb2⟩; have b2' := cell_later hb2 b2; have a0' := cell_later hb2 a0)
    go_ret
    exact ⟨by rw [HBB.out]; rfl, HB.out.trans (hb2.mono HB.out.size)⟩

theorem read1_such {kb ab : Nat} {key t : Int} {R : RdyL} {w : World} (hR : ∀ x ∈ R, RdyS w x.2) (hk : w.cell? ⟨kb, 0, none⟩ = some (.int .i64 key)) (ha : w.cell? ⟨ab, 0, none⟩ = some (.int .i64 t)) :
    SuchAt 58 #[.pointer (some ⟨kb, 0, none⟩), .pointer (some ⟨ab, 0, none⟩)] (fun r => writesB r key && decide (r.start < t)) R w :=
  fun x hx W hW => read1_call x.2 kb ab key t W ((hR x hx).later hW) (cell_later hW hk) (cell_later hW ha)
end Go.Proofs.Ytdkkpkgfiodlbaa

/- slices.ContainsFunc over operations for whatever test; slices.Contains at ints. -/
namespace Go.Proofs.Ytdkkpkgfiodlbaa
open Go.RowKit Go.Maps

theorem idxQ_any (q : GOp → Bool) (l : List GOp) : decide (0 ≤ idxQ q l) = l.any q := by
  unfold idxQ
  cases h : l.findIdx? q with
  | none =>
    rw [List.findIdx?_eq_none_iff] at h
    simp only [show ¬ ((0 : Int) ≤ -1) from by decide, decide_false]
    symm; rw [List.any_eq_false]; exact fun x hx => by simp [h x hx]
  | some i =>
    have hs : (l.findIdx? q).isSome = true := by rw [h]; rfl
    rw [List.findIdx?_isSome] at hs
    rw [hs]; simp

set_option maxRecDepth 100000 in
theorem indexQ_call (v : Value) (l : List GOp) (g : FuncId) (cp : Array Value) (q : GOp → Bool) (w : World) (hv : RdOps w v l) (eg : ∀ args w, (callFunc g args).run Try.prog w = .ok (.enter g args) w) (hk : OpTest g cp q w) :
    Calls Try.prog 86 #[v, .func (.func g) #[] cp] w fun e w' => e = .returned (.int .i64 (idxQ q l)) ∧ Below w.heap.size w w' := by
  have HV := Lib.hid hv
  have HK := Lib.hid hk
  obtain ⟨a, len, cap, rfl, rfl, hm, -⟩ := hv.at
  clear hv hk
  go_enter Try.func86, Try.ntmps86
  go_wp2_with fail
  go_loopw [5, 8] (fun _ i wr => ∃ k : Nat, k ≤ l.length ∧ i = .int .i64 k ∧ (∀ j o, j < k → l[j]? = some o → q o = false) ∧ Below w.heap.size w wr) (fun _ i _ => l.length - (intOf i).toNat)
  case atStart => exact ⟨0, Nat.zero_le _, rfl, fun j o hj => absurd hj (Nat.not_lt_zero _), Below.refl _ _⟩
  case round =>
    obtain ⟨k, hk, rfl, hno, hb⟩ := hrel
    have HB := Lib.hid hb
    have HN := Lib.hid hno
    clear hb hno
    by_cases hlt : k < l.length
    · obtain ⟨o, ho⟩ := some_at hlt
      obtain ⟨_, _, _, e5, -, -, hcl⟩ := HV.out.at
      cases e5
      obtain ⟨b, off, rfl, k0', k1', k2'⟩ := hcl k o ho
      have k0 := cell_later HB.out k0'
      have k1 := cell_later HB.out k1'
      have k2 := cell_later HB.out k2'
      have HO := Lib.hid ho
      clear hcl ho k0' k1' k2'
      cases hh : q o with
      | true =>
        have HH := Lib.hid hh
        clear hh
        go_wp2_with (go_at_fn g; refine (HK.out o _ HB.out).mono ?_; rintro e w1 ⟨rfl, hb1⟩; rw [HH.out])
        go_ret
        have : idxQ q l = k := by
          unfold idxQ
          have : l.findIdx? (q) = some k := by
            rw [List.findIdx?_eq_some_iff_getElem]
            have hg := List.getElem?_eq_some_iff.1 HO.out
            refine ⟨hlt, by rw [hg.2]; exact HH.out, fun j hj => ?_⟩
            have := HN.out j l[j] hj (List.getElem?_eq_getElem _)
            simp [this]
          rw [this]
        exact ⟨by rw [this]; rfl, HB.out.trans (hb1.mono HB.out.size)⟩
      | false =>
        have HH := Lib.hid hh
        clear hh
        go_wp2_with (go_at_fn g; refine (HK.out o _ HB.out).mono ?_; rintro e w1 ⟨rfl, hb1⟩; rw [HH.out])
        go_roundw
        case rel =>
          refine ⟨k + 1, by omega, by go_num, ?_, HB.out.trans (hb1.mono HB.out.size)⟩
          intro j o' hj ho'
          rcases Nat.lt_or_ge j k with h | h
          · exact HN.out j o' h ho'
          · obtain rfl : j = k := by omega
            rw [HO.out] at ho'; cases ho'; exact HH.out
        case measure => simp [intOf]; omega
    · obtain rfl : k = l.length := by omega
      go_wp2_with fail
      go_ret
      have : idxQ q l = -1 := by
        unfold idxQ
        have : l.findIdx? (q) = none := by
          rw [List.findIdx?_eq_none_iff]
          intro x hx
          obtain ⟨j, hj, rfl⟩ := List.mem_iff_getElem.1 hx
          exact HN.out j l[j] hj (List.getElem?_eq_getElem _)
        rw [this]
      exact ⟨by rw [this]; rfl, HB.out⟩

set_option maxRecDepth 100000 in
theorem containsQ_call (v : Value) (l : List GOp) (g : FuncId) (cp : Array Value) (q : GOp → Bool) (w : World) (hv : RdOps w v l) (eg : ∀ args w, (callFunc g args).run Try.prog w = .ok (.enter g args) w) (hk : OpTest g cp q w) :
    Calls Try.prog 63 #[v, .func (.func g) #[] cp] w fun e w' => e = .returned (.bool (l.any (q))) ∧ Below w.heap.size w w' := by
  go_enter Try.func63, Try.ntmps63
  go_wp2_with (go_at_call 86; refine (indexQ_call v l g cp q w hv eg hk).mono ?_; rintro e w1 ⟨rfl, hb1⟩)
  go_ret
  exact ⟨by rw [← idxQ_any]; first | rfl | simp, hb1⟩

end Go.Proofs.Ytdkkpkgfiodlbaa

/- slices.ContainsFunc over ints, the test a method value; slices.Contains at ints. -/
namespace Go.Proofs.Ytdkkpkgfiodlbaa
open Go.RowKit Go.Maps
/-- What a test of an int answers (a method value: its receiver stands first). -/
def IntTest (g : FuncId) (fs : Array Value) (q : Int → Bool) (w : World) : Prop := ∀ (o : Int) (W : World), Below w.heap.size w W → Calls Try.prog g (fs ++ #[vi o]) W fun e W' => e = .returned (.bool (q o)) ∧ Below W.heap.size W W'
def idxZ (q : Int → Bool) (l : List Int) : Int := match l.findIdx? q with | some i => (i : Int) | none => -1
theorem idxZ_any (q : Int → Bool) (l : List Int) : decide (0 ≤ idxZ q l) = l.any q := by
  unfold idxZ
  cases h : l.findIdx? q with
  | none =>
    rw [List.findIdx?_eq_none_iff] at h
    simp only [show ¬ ((0 : Int) ≤ -1) from by decide, decide_false]
    symm; rw [List.any_eq_false]; exact fun x hx => by simp [h x hx]
  | some i =>
    have hs : (l.findIdx? q).isSome = true := by rw [h]; rfl
    rw [List.findIdx?_isSome] at hs
    rw [hs]; simp

set_option maxRecDepth 100000 in
theorem indexZ_call (v : Value) (l : List Int) (g : FuncId) (fs : Array Value) (q : Int → Bool) (w : World) (hv : RdInts w v l) (eg : ∀ args w, (callFunc g args).run Try.prog w = .ok (.enter g args) w) (hk : IntTest g fs q w) :
    Calls Try.prog 88 #[v, .func (.func g) fs #[]] w fun e w' => e = .returned (.int .i64 (idxZ q l)) ∧ Below w.heap.size w w' := by
  have HV := Lib.hid hv
  have HK := Lib.hid hk
  obtain ⟨a, len, cap, rfl, rfl, hm, -⟩ := hv.at
  clear hv hk
  go_enter Try.func88, Try.ntmps88
  go_wp2_with fail
  go_loopw [5, 8] (fun _ i wr => ∃ k : Nat, k ≤ l.length ∧ i = .int .i64 k ∧ (∀ j o, j < k → l[j]? = some o → q o = false) ∧ Below w.heap.size w wr) (fun _ i _ => l.length - (intOf i).toNat)
  case atStart => exact ⟨0, Nat.zero_le _, rfl, fun j o hj => absurd hj (Nat.not_lt_zero _), Below.refl _ _⟩
  case round =>
    obtain ⟨k, hk, rfl, hno, hb⟩ := hrel
    have HB := Lib.hid hb
    have HN := Lib.hid hno
    clear hb hno
    by_cases hlt : k < l.length
    · obtain ⟨o, ho⟩ := some_at hlt
      obtain ⟨_, _, _, e5, -, -, hcl⟩ := HV.out.at
      cases e5
      obtain ⟨b, off, rfl, k0', -⟩ := hcl k o ho
      have k0 := cell_later HB.out k0'
      have HO := Lib.hid ho
      clear hcl ho k0'
      cases hh : q o with
      | true =>
        have HH := Lib.hid hh
        clear hh
        go_wp2_with (go_at_fn g; refine (HK.out o _ HB.out).mono ?_; rintro e w1 ⟨rfl, hb1⟩; rw [HH.out])
        go_ret
        have : idxZ q l = k := by
          unfold idxZ
          have : l.findIdx? (q) = some k := by
            rw [List.findIdx?_eq_some_iff_getElem]
            have hg := List.getElem?_eq_some_iff.1 HO.out
            refine ⟨hlt, by rw [hg.2]; exact HH.out, fun j hj => ?_⟩
            have := HN.out j l[j] hj (List.getElem?_eq_getElem _)
            simp [this]
          rw [this]
        exact ⟨by rw [this]; rfl, HB.out.trans (hb1.mono HB.out.size)⟩
      | false =>
        have HH := Lib.hid hh
        clear hh
        go_wp2_with (go_at_fn g; refine (HK.out o _ HB.out).mono ?_; rintro e w1 ⟨rfl, hb1⟩; rw [HH.out])
        go_roundw
        case rel =>
          refine ⟨k + 1, by omega, by go_num, ?_, HB.out.trans (hb1.mono HB.out.size)⟩
          intro j o' hj ho'
          rcases Nat.lt_or_ge j k with h | h
          · exact HN.out j o' h ho'
          · obtain rfl : j = k := by omega
            rw [HO.out] at ho'; cases ho'; exact HH.out
        case measure => simp [intOf]; omega
    · obtain rfl : k = l.length := by omega
      go_wp2_with fail
      go_ret
      have : idxZ q l = -1 := by
        unfold idxZ
        have : l.findIdx? (q) = none := by
          rw [List.findIdx?_eq_none_iff]
          intro x hx
          obtain ⟨j, hj, rfl⟩ := List.mem_iff_getElem.1 hx
          exact HN.out j l[j] hj (List.getElem?_eq_getElem _)
        rw [this]
      exact ⟨by rw [this]; rfl, HB.out⟩

set_option maxRecDepth 100000 in
theorem containsZ_call (v : Value) (l : List Int) (g : FuncId) (fs : Array Value) (q : Int → Bool) (w : World) (hv : RdInts w v l) (eg : ∀ args w, (callFunc g args).run Try.prog w = .ok (.enter g args) w) (hk : IntTest g fs q w) :
    Calls Try.prog 66 #[v, .func (.func g) fs #[]] w fun e w' => e = .returned (.bool (l.any (q))) ∧ Below w.heap.size w w' := by
  go_enter Try.func66, Try.ntmps66
  go_wp2_with (go_at_call 88; refine (indexZ_call v l g fs q w hv eg hk).mono ?_; rintro e w1 ⟨rfl, hb1⟩)
  go_ret
  exact ⟨by rw [← idxZ_any]; first | rfl | simp, hb1⟩

end Go.Proofs.Ytdkkpkgfiodlbaa

/- slices.Contains at ints. -/
namespace Go.Proofs.Ytdkkpkgfiodlbaa
open Go.RowKit Go.Maps
set_option maxRecDepth 100000 in
theorem indexI_call (v : Value) (l : List Int) (z : Int) (w : World) (hv : RdInts w v l) :
    Calls Try.prog 87 #[v, vi z] w fun e w' => e = .returned (.int .i64 (idxZ (fun o => z == o) l)) ∧ Below w.heap.size w w' := by
  have HV := Lib.hid hv
  obtain ⟨a, len, cap, rfl, rfl, hm, -⟩ := hv.at
  clear hv
  go_enter Try.func87, Try.ntmps87
  go_wp2_with fail
  go_loopw [5, 8] (fun _ i wr => ∃ k : Nat, k ≤ l.length ∧ i = .int .i64 k ∧ (∀ j o, j < k → l[j]? = some o → (z == o) = false) ∧ Below w.heap.size w wr) (fun _ i _ => l.length - (intOf i).toNat)
  case atStart => exact ⟨0, Nat.zero_le _, rfl, fun j o hj => absurd hj (Nat.not_lt_zero _), Below.refl _ _⟩
  case round =>
    obtain ⟨k, hk, rfl, hno, hb⟩ := hrel
    have HB := Lib.hid hb
    have HN := Lib.hid hno
    clear hb hno
    by_cases hlt : k < l.length
    · obtain ⟨o, ho⟩ := some_at hlt
      obtain ⟨_, _, _, e5, -, -, hcl⟩ := HV.out.at
      cases e5
      obtain ⟨b, off, rfl, k0', -⟩ := hcl k o ho
      have k0 := cell_later HB.out k0'
      have HO := Lib.hid ho
      clear hcl ho k0'
      cases hh : (z == o) with
      | true =>
        have HH := Lib.hid hh
        go_wp2_with fail
        go_ret
        have : idxZ (fun o => z == o) l = k := by
          unfold idxZ
          have : l.findIdx? (fun o => z == o) = some k := by
            rw [List.findIdx?_eq_some_iff_getElem]
            have hg := List.getElem?_eq_some_iff.1 HO.out
            refine ⟨hlt, by rw [hg.2]; exact HH.out, fun j hj => ?_⟩
            have := HN.out j l[j] hj (List.getElem?_eq_getElem _)
            simp [this]
          rw [this]
        exact ⟨by rw [this]; rfl, HB.out⟩
      | false =>
        have HH := Lib.hid hh
        go_wp2_with fail
        go_roundw
        case rel =>
          refine ⟨k + 1, by omega, by go_num, ?_, HB.out⟩
          intro j o' hj ho'
          rcases Nat.lt_or_ge j k with h | h
          · exact HN.out j o' h ho'
          · obtain rfl : j = k := by omega
            rw [HO.out] at ho'; cases ho'; exact HH.out
        case measure => simp [intOf]; omega
    · obtain rfl : k = l.length := by omega
      go_wp2_with fail
      go_ret
      have : idxZ (fun o => z == o) l = -1 := by
        unfold idxZ
        have : l.findIdx? (fun o => z == o) = none := by
          rw [List.findIdx?_eq_none_iff]
          intro x hx
          obtain ⟨j, hj, rfl⟩ := List.mem_iff_getElem.1 hx
          exact HN.out j l[j] hj (List.getElem?_eq_getElem _)
        rw [this]
      exact ⟨by rw [this]; rfl, HB.out⟩

set_option maxRecDepth 100000 in
theorem containsI_call (v : Value) (l : List Int) (z : Int) (w : World) (hv : RdInts w v l) :
    Calls Try.prog 65 #[v, vi z] w fun e w' => e = .returned (.bool (l.any (fun o => z == o))) ∧ Below w.heap.size w w' := by
  go_enter Try.func65, Try.ntmps65
  go_wp2_with (go_at_call 87; refine (indexI_call v l z w hv).mono ?_; rintro e w1 ⟨rfl, hb1⟩)
  go_ret
  exact ⟨by rw [← idxZ_any]; first | rfl | simp, hb1⟩

end Go.Proofs.Ytdkkpkgfiodlbaa

/- The inner test that Prepare hands to blocks. -/
namespace Go.Proofs.Ytdkkpkgfiodlbaa
open Go.RowKit Go.Maps
/-- Is one who waits in an operation's way? -/
def wayO (x : Rdy) (look : Bool) (o : GOp) : Bool := writesB x o.key || (look && x.reads.any (fun k => o.key == k))

set_option maxRecDepth 100000 in
set_option maxHeartbeats 2000000 in
theorem prep11_call (x : RV) (look : Bool) (o : GOp) (xb lb : Nat) (w : World) (hx : RdyS w x) (hb : w.heap[xb]? = some (.cells (rdyC x) 29)) (hl : w.cell? ⟨lb, 0, none⟩ = some (.bool look)) :
    Calls Try.prog 64 #[.agg #[vi o.kind, vi o.key, vi o.val], .pointer (some ⟨xb, 0, none⟩), .pointer (some ⟨lb, 0, none⟩)] w fun e w' => e = .returned (.bool (wayO x.r look o)) ∧ Below w.heap.size w w' := by
  have HB := Lib.hid ((Below.refl w.heap.size w).alloc (Nat.le_refl _) (.cells #[vi o.kind, vi o.key, vi o.val] 104))
  have HX := Lib.hid (alloc_at w (.cells #[vi o.kind, vi o.key, vi o.val] 104))
  have HR := Lib.hid (hx.later HB.out)
  have HXB := Lib.hid ((HB.out.block xb (Array.getElem?_eq_some_iff.1 hb).1).trans hb)
  have l0 := cell_later HB.out hl
  clear hx hb hl
  have HW := Lib.hid (fun (W : World) (h : RdyS W x) => writes_call x o.key W h)
  unfold rdyV rdyC at *
  go_enter Try.func64, Try.ntmps64
  go_upto_region 1 with fail
  generalize w.alloc (.cells #[vi o.kind, vi o.key, vi o.val] 104) = w1 at *
  have o1 : w1.cell? ⟨w.heap.size, 1, none⟩ = some (vi o.key) := by rw [cell_of HX.out]; rfl
  have b0 : w1.cell? ⟨xb, 0, none⟩ = some (vi x.r.txn) := by rw [cell_of HXB.out]; rfl
  have b1 : w1.cell? ⟨xb, 1, none⟩ = some (vi x.r.home) := by rw [cell_of HXB.out]; rfl
  have b2 : w1.cell? ⟨xb, 2, none⟩ = some (vi x.r.start) := by rw [cell_of HXB.out]; rfl
  have b3 : w1.cell? ⟨xb, 3, none⟩ = some x.wv := by rw [cell_of HXB.out]; rfl
  have b4 : w1.cell? ⟨xb, 4, none⟩ = some x.rv := by rw [cell_of HXB.out]; rfl
  have hcall := HW.out w1 HR.out
  obtain ⟨b, hb⟩ : ∃ b, writesB x.r o.key = b := ⟨_, rfl⟩
  rw [hb] at hcall
  have HC := Lib.hid hcall
  have HBB := Lib.hid hb
  clear hcall hb
  cases b
  · cases look
    · go_wp2_with (go_at_call 59; refine HC.out.mono ?_; rintro e w2 ⟨rfl, hb2⟩; have l0' := cell_later hb2 l0)
      go_ret
      exact ⟨by unfold wayO; rw [HBB.out]; rfl, HB.out.trans (hb2.mono HB.out.size)⟩
    · go_wp2_with (first
        | (go_at_call 59; refine HC.out.mono ?_; rintro e w2 ⟨rfl, hb2⟩; have l0' := cell_later hb2 l0; have b4' := cell_later hb2 b4; have o1' := cell_later hb2 o1; have HR2 := Lib.hid (HR.out.later hb2))
        | (go_at_call 65; refine (containsI_call x.rv x.r.reads o.key _ HR2.out.rs).mono ?_; rintro e w3 ⟨rfl, hb3⟩))
      go_ret
      exact ⟨by unfold wayO; rw [HBB.out]; rfl, HB.out.trans ((hb2.trans (hb3.mono hb2.size)).mono HB.out.size)⟩
  · go_wp2_with (go_at_call 59; refine HC.out.mono ?_; rintro e w2 ⟨rfl, hb2⟩)
    go_ret
    exact ⟨by unfold wayO; rw [HBB.out]; rfl, HB.out.trans (hb2.mono HB.out.size)⟩
end Go.Proofs.Ytdkkpkgfiodlbaa

/- The test that Prepare hands to blocks. -/
namespace Go.Proofs.Ytdkkpkgfiodlbaa
open Go.RowKit Go.Maps

def wayB (r : Rdy) (look : Bool) (x : Rdy) : Bool := r.writes.any (wayO x look) || (look && r.reads.any (fun k => writesB x k))

set_option maxRecDepth 100000 in
set_option maxHeartbeats 2000000 in
theorem prep1_call (r x : RV) (look : Bool) (rb lb : Nat) (w : World) (hr : RdyS w r) (hx : RdyS w x) (hb : w.heap[rb]? = some (.cells (rdyC r) 29)) (hl : w.cell? ⟨lb, 0, none⟩ = some (.bool look)) :
    Calls Try.prog 62 #[rdyV x, .pointer (some ⟨rb, 0, none⟩), .pointer (some ⟨lb, 0, none⟩)] w fun e w' => e = .returned (.bool (wayB r.r look x.r)) ∧ Below w.heap.size w w' := by
  have hmf : ∀ (fn : Fn) (first cap : Array Value) (w : World), (Instr.makeFunc fn first cap).run Try.prog w = .ok (.func fn first cap) w := fun _ _ _ _ => rfl
  have HB := Lib.hid ((Below.refl w.heap.size w).alloc (Nat.le_refl _) (.cells (rdyC x) 29))
  have HX := Lib.hid (alloc_at w (.cells (rdyC x) 29))
  have HRX := Lib.hid (hx.later HB.out)
  have HRR := Lib.hid (hr.later HB.out)
  have HRB := Lib.hid ((HB.out.block rb (Array.getElem?_eq_some_iff.1 hb).1).trans hb)
  have l0 := cell_later HB.out hl
  clear hr hx hb hl
  have e38 : ∀ args w, (callFunc 64 args).run Try.prog w = .ok (.enter 64 args) w := enters_of Try.func64 (by kernel_rfl) rfl
  have e39 : ∀ args w, (callFunc 59 args).run Try.prog w = .ok (.enter 59 args) w := enters_of Try.func59 (by kernel_rfl) rfl
  have HT := Lib.hid (show OpTest 64 #[.pointer (some ⟨w.heap.size, 0, none⟩), .pointer (some ⟨lb, 0, none⟩)] (wayO x.r look) (w.alloc (.cells (rdyC x) 29)) from fun o W hW =>
    prep11_call x look o w.heap.size lb W (HRX.out.later hW) ((hW.block w.heap.size (by simp)).trans HX.out) (cell_later hW l0))
  have HZ := Lib.hid (show ∀ W0, Below (w.alloc (.cells (rdyC x) 29)).heap.size (w.alloc (.cells (rdyC x) 29)) W0 → IntTest 59 #[rdyV x] (fun k => writesB x.r k) W0 from fun W0 h0 k W hW => writes_call x k W ((HRX.out.later h0).later hW))
  have HE38 := Lib.hid e38
  have HE39 := Lib.hid e39
  clear e38 e39
  unfold rdyV at *
  unfold rdyC at *
  go_enter Try.func62, Try.ntmps62
  go_upto_region 1 with fail
  generalize w.alloc (.cells #[vi x.r.txn, vi x.r.home, vi x.r.start, x.wv, x.rv] 29) = w1 at *
  have r3 : w1.cell? ⟨rb, 3, none⟩ = some r.wv := by rw [cell_of HRB.out]; rfl
  have r4 : w1.cell? ⟨rb, 4, none⟩ = some r.rv := by rw [cell_of HRB.out]; rfl
  have x0 : w1.cell? ⟨w.heap.size, 0, none⟩ = some (vi x.r.txn) := by rw [cell_of HX.out]; rfl
  have x1 : w1.cell? ⟨w.heap.size, 1, none⟩ = some (vi x.r.home) := by rw [cell_of HX.out]; rfl
  have x2 : w1.cell? ⟨w.heap.size, 2, none⟩ = some (vi x.r.start) := by rw [cell_of HX.out]; rfl
  have x3 : w1.cell? ⟨w.heap.size, 3, none⟩ = some x.wv := by rw [cell_of HX.out]; rfl
  have x4 : w1.cell? ⟨w.heap.size, 4, none⟩ = some x.rv := by rw [cell_of HX.out]; rfl
  obtain ⟨b, hb⟩ : ∃ b, r.r.writes.any (wayO x.r look) = b := ⟨_, rfl⟩
  have HC := Lib.hid (show Calls Try.prog _ _ _ _ from containsQ_call r.wv r.r.writes _ _ (wayO x.r look) w1 HRR.out.ws HE38.out HT.out)
  rw [hb] at HC
  have HBB := Lib.hid hb
  clear hb
  cases b
  · cases look
    · go_wp2_with (go_at_call 63; refine HC.out.mono ?_; rintro e w2 ⟨rfl, hb2⟩; have l0' := cell_later hb2 l0)
      go_ret
      exact ⟨by unfold wayB; rw [HBB.out]; rfl, HB.out.trans (hb2.mono HB.out.size)⟩
    · go_wp2_with (first
        | (go_at_call 63; refine HC.out.mono ?_; rintro e w2 ⟨rfl, hb2⟩; have l0' := cell_later hb2 l0; have r4' := cell_later hb2 r4; have x0' := cell_later hb2 x0; have x1' := cell_later hb2 x1; have x2' := cell_later hb2 x2; have x3' := cell_later hb2 x3; have x4' := cell_later hb2 x4; have HR2 := Lib.hid (HRR.out.later hb2); have HZ2 := Lib.hid (HZ.out w2 hb2))
        | (go_at_call 66; refine (containsZ_call r.rv r.r.reads _ _ (fun k => writesB x.r k) _ HR2.out.rs HE39.out HZ2.out).mono ?_; rintro e w3 ⟨rfl, hb3⟩))
      go_ret
      exact ⟨by unfold wayB; rw [HBB.out]; rfl, HB.out.trans ((hb2.trans (hb3.mono hb2.size)).mono HB.out.size)⟩
  · go_wp2_with (go_at_call 63; refine HC.out.mono ?_; rintro e w2 ⟨rfl, hb2⟩)
    go_ret
    exact ⟨by unfold wayB; rw [HBB.out]; rfl, HB.out.trans (hb2.mono HB.out.size)⟩
end Go.Proofs.Ytdkkpkgfiodlbaa

/- The methods of a nil store. -/
namespace Go.Proofs.Ytdkkpkgfiodlbaa
open Go.RowKit Go.Maps
section
set_option maxRecDepth 100000
set_option maxHeartbeats 1000000
theorem nil_waits (w : World) : Calls Try.prog 20 #[.pointer none] w fun e w' => e = .returned (.slice none 0 0) ∧ Below w.heap.size w w' := by
  go_enter Try.func20, Try.ntmps20
  go_wp2_with fail
  go_ret
  exact ⟨rfl, Below.refl _ _⟩
theorem nil_prepare (x : RV) (w : World) : Calls Try.prog 31 #[.pointer none, rdyV x] w fun e w' => e = .returned (.tuple #[vi 0, vi 1]) ∧ Below w.heap.size w w' := by
  unfold rdyV rdyC
  go_enter Try.func31, Try.ntmps31
  go_wp2_with fail
  go_ret2
  exact ⟨rfl, (Below.refl w.heap.size w).alloc (Nat.le_refl _) _⟩
end

theorem prep1_such {r : RV} {look : Bool} {rb lb : Nat} {R : RdyL} {w : World} (hR : ∀ x ∈ R, RdyS w x.2) (hr : RdyS w r) (hb : w.heap[rb]? = some (.cells (rdyC r) 29)) (hl : w.cell? ⟨lb, 0, none⟩ = some (.bool look)) :
    SuchAt 62 #[.pointer (some ⟨rb, 0, none⟩), .pointer (some ⟨lb, 0, none⟩)] (wayB r.r look) R w :=
  fun x hx W hW => prep1_call r x.2 look rb lb W (hr.later hW) ((hR x hx).later hW) ((hW.block rb (Array.getElem?_eq_some_iff.1 hb).1).trans hb) (cell_later hW hl)
end Go.Proofs.Ytdkkpkgfiodlbaa

/- The law's own small words: w. -/
namespace Go.Proofs.Ytdkkpkgfiodlbaa
open Go.RowKit Go.Maps
theorem w_rd (key val : Int) (w : World) : RdOps (w.alloc (.cells #[vi 2, vi key, vi val] 104)) (.slice (some ⟨w.heap.size, 0, none⟩) 1 1) [⟨2, key, val⟩] := by
  refine ⟨some ⟨w.heap.size, 0, none⟩, 1, 1, rfl, rfl, by simp, Nat.le_refl _, (fun h => by cases h), fun j x hj => ?_⟩
  have hj0 : j = 0 := by have := (List.getElem?_eq_some_iff.1 hj).1; simp at this; omega
  subst hj0
  simp at hj; subst hj
  refine ⟨w.heap.size, 0, opV ⟨2, key, val⟩, rfl, rfl, fun i u hu => ?_, rfl⟩
  rw [cell_of (alloc_at _ _)]
  have : i < 3 := (List.getElem?_eq_some_iff.1 hu).1
  rcases (show i = 0 ∨ i = 1 ∨ i = 2 by omega) with rfl | rfl | rfl <;> exact hu
end Go.Proofs.Ytdkkpkgfiodlbaa

/- slices.Backward at versions, as an iterator. -/
namespace Go.Proofs.Ytdkkpkgfiodlbaa
open Go.RowKit Go.Shelf Go.Maps
attribute [local go_sem] Oper.semAt_some

/-- What slices.Backward hands over, in order. -/
def revL (l : List Ver) : List (Nat × Ver) := (l.zipIdx.map (fun p => (p.2, p.1))).reverse

theorem revL_length (l : List Ver) : (revL l).length = l.length := by simp [revL]
theorem revL_at {l : List Ver} {m : Nat} {o : Ver} (h : l[m]? = some o) : (revL l)[l.length - (m + 1)]? = some (m, o) := by
  have hm := (List.getElem?_eq_some_iff.1 h).1
  unfold revL
  rw [List.getElem?_reverse (by simp; omega)]
  have : (List.map (fun p : Ver × Nat => (p.2, p.1)) l.zipIdx).length - 1 - (l.length - (m + 1)) = m := by simp; omega
  rw [this]
  simp [h]

abbrev encB (x : Nat × Ver) : Array Value := #[.int .i64 (x.1 : Int), .agg #[vi x.2.1, vi x.2.2]]

/-- What a round keeps: what lay below n₀, and the iterator's own box. -/
def KpB (n₀ Bs : Nat) (W W' : World) : Prop := Below n₀ W W' ∧ ∀ v, W.cell? ⟨Bs, 0, none⟩ = some v → W'.cell? ⟨Bs, 0, none⟩ = some v

set_option maxRecDepth 100000 in
set_option maxHeartbeats 2000000 in
theorem back1_in (F : Fence) (n : Nat) (hF : F.fn 85) (hro : F.round = none) (hn : 1 ≤ n) (lp Bs n₀ : Nat) (a : Option Addr) (cap : Nat) (l : List Ver) (hl : l.length ≤ 9223372036854775807) (J Jx : List (Nat × Ver) → World → Prop)
    (hY : ∀ pre x W, J pre W → pre.length < l.length → YieldAt F (n - 1) Try.prog lp (encB x) W fun e W' =>
      (e = .returned (.bool true) ∧ J (pre ++ [x]) W' ∧ KpB n₀ Bs W W') ∨ (e = .returned (.bool false) ∧ Jx (pre ++ [x]) W'))
    (W : World) (hBs : W.cell? ⟨Bs, 0, none⟩ = some (.slice a l.length cap)) 
    (hc : ∀ j x, l[j]? = some x → ∃ b off, a = some ⟨b, off, none⟩ ∧ b < n₀ ∧ W.cell? ⟨b, off + j * 2, none⟩ = some (vi x.1) ∧ W.cell? ⟨b, off + j * 2 + 1, none⟩ = some (vi x.2)) (h0 : J [] W) :
    CallsIn F n Try.prog 85 #[.func (.yield lp) #[] #[], .pointer (some ⟨Bs, 0, none⟩)] W fun e W' => (∃ v, e = .returned v) ∧
      ((∃ ys, ys = revL l ∧ J ys W') ∨ (∃ pre, pre <+: revL l ∧ Jx pre W')) := by
  have HC := Lib.hid hc
  clear hc
  refine callsIn_of_wp Try.func85 rfl hF ?_ hro
  simp only [Try.ntmps85, List.size_toArray, List.length_cons, List.length_nil, Nat.reduceAdd, Nat.reduceSub, Array.replicate_succ, Array.replicate_zero, List.push_toArray, List.append_toArray, List.nil_append, List.cons_append]
  gi_wp2
  gi_loopw [3] (fun i wr => ∃ j : Nat, j ≤ l.length ∧ ((j = 0 ∧ i = .int .i64 (-1)) ∨ ∃ m : Nat, j = m + 1 ∧ i = .int .i64 (m : Int)) ∧ J ((revL l).take (l.length - j)) wr ∧ KpB n₀ Bs W wr) (fun i _ => (intOf i + 1).toNat)
  case atStart =>
    refine ⟨l.length, Nat.le_refl _, ?_, by simpa using h0, Below.refl _ _, fun _ h => h⟩
    cases hll : l.length with
    | zero => exact .inl ⟨rfl, by simp⟩
    | succ m => exact .inr ⟨m, rfl, by go_num⟩
  case round =>
    obtain ⟨j, hj, hi, hJs, hkp⟩ := hrel
    have HKP := Lib.hid hkp
    clear hkp
    have hbx := HKP.out.2 _ hBs
    rcases hi with ⟨rfl, rfl⟩ | ⟨m, rfl, rfl⟩
    · gi_wp2
      go_end0
      exact ⟨⟨_, rfl⟩, .inl ⟨_, by rw [Nat.sub_zero, ← revL_length, List.take_length], hJs⟩⟩
    · obtain ⟨o, ho⟩ := some_at (l := l) (k := m) (by omega)
      obtain ⟨b, off, rfl, hb, k0', k1'⟩ := HC.out m o ho
      have k0 := (HKP.out.1.cell (p := ⟨b, off + m * 2, none⟩) hb).trans k0'
      have k1 := (HKP.out.1.cell (p := ⟨b, off + m * 2 + 1, none⟩) hb).trans k1'
      obtain ⟨fn, tmps, assign, body, hy, hR⟩ := hY _ (m, o) wr hJs (by rw [List.length_take, revL_length]; omega)
      have HR := Lib.hid (revL_at ho)
      have hmi : (m : Int) < (l.length : Int) := by omega
      clear k0' k1' ho
      gi_wp2
      have HT := Lib.hid (take_at HR.out)
      have hm1 : l.length - (m + 1) + 1 = l.length - m := by omega
      rw [hm1] at HT
      clear hm1
      refine hR.mono ?_
      rintro e W3 (⟨rfl, hJ3, hk3⟩ | ⟨rfl, hJx3⟩)
      · have hk4 : KpB n₀ Bs W W3 := ⟨HKP.out.1.trans hk3.1, fun v hv => hk3.2 v (HKP.out.2 v hv)⟩
        have HK4 := Lib.hid hk4
        clear hk3 hk4
        gi_wp2
        go_roundw
        case rel =>
          refine ⟨m, by omega, ?_, by rw [HT.out]; exact hJ3, HK4.out⟩
          cases m with
          | zero => exact .inl ⟨rfl, by simp⟩
          | succ m => exact .inr ⟨m, rfl, by go_num⟩
        case measure => simp [intOf]
      · gi_wp2
        refine bodyPost_ret (results_none rfl _ _ _) rfl ?_
        exact ⟨⟨_, rfl⟩, .inr ⟨(revL l).take (l.length - m), List.take_prefix _ _, by rw [HT.out]; exact hJx3⟩⟩

theorem kpb_t {n₀ Bs : Nat} {A B C : World} (h : KpB n₀ Bs A B) (k : KpB n₀ Bs B C) : KpB n₀ Bs A C := ⟨h.1.trans k.1, fun v hv => k.2 v (h.2 v hv)⟩

theorem kpb_b {n₀ Bs : Nat} {w : World} (hB : n₀ ≤ w.heap.size) (W : World) (l : Nat) (o o' : Obj) (hl : w.heap.size ≤ l) (ho : W.heap[l]? = some o) (hc : o.isCells = false) (hw : o.isWalk = false) : KpB n₀ Bs W (W.putObj l o') := by
  refine ⟨belowK_b hB W l o o' hl ho hc hw, fun v hv => ?_⟩
  have hne : l ≠ Bs := by
    intro e
    subst e
    unfold World.cell? at hv
    simp only [ho] at hv
    cases o <;> simp [Obj.isCells] at hc hv
  rw [← hv]
  unfold World.cell? World.putObj
  simp only [Array.getElem?_setIfInBounds]
  rw [if_neg (by exact hne)]

set_option maxHeartbeats 1000000 in
/-- slices.Backward(s): the slice value is boxed; the function value captures the box. -/
theorem back_in (F : Fence) (n : Nat) (hF : F.fn 60) (hro : F.round = none) (a : Option Addr) (len cap : Nat) (w : World) :
    CallsIn F n Try.prog 60 #[.slice a len cap] w fun e w' => e = .returned (.func (.func 85) #[] #[.pointer (some ⟨w.heap.size, 0, none⟩)]) ∧ w' = w.alloc (.cells #[.slice a len cap] 133) := by
  refine callsIn_of_wp Try.func60 rfl hF ?_ hro
  simp only [Try.ntmps60, List.size_toArray, List.length_cons, List.length_nil, Nat.reduceAdd, Nat.reduceSub, Array.replicate_succ, Array.replicate_zero, List.push_toArray, List.append_toArray, List.nil_append, List.cons_append]
  gi_wp2
  go_ret
  exact ⟨rfl, rfl⟩

/-- The value that Backward hands back, as an iterator: all of the operations from behind, or the first of them. -/
theorem back_stops (F : Fence) (n : Nat) (hF : F.fn 85) (hro : F.round = none) (hn : 1 ≤ n) (Bs n₀ : Nat) (a : Option Addr) (cap : Nat) (l : List Ver) (hl : l.length ≤ 9223372036854775807) (w : World) (hBs : Bs < w.heap.size) (hn₀ : n₀ ≤ w.heap.size)
    (hcb : w.cell? ⟨Bs, 0, none⟩ = some (.slice a l.length cap))
    (hc : ∀ j x, l[j]? = some x → ∃ b off, a = some ⟨b, off, none⟩ ∧ b < n₀ ∧ w.cell? ⟨b, off + j * 2, none⟩ = some (vi x.1) ∧ w.cell? ⟨b, off + j * 2 + 1, none⟩ = some (vi x.2)) :
    SeqStopsK F n Try.prog 85 #[.pointer (some ⟨Bs, 0, none⟩)] encB (KpB n₀ Bs) (fun ys => ys = revL l) (fun pre => pre <+: revL l) l.length w := fun lp J Jx W hW _ _ hY h0 =>
  back1_in F n hF hro hn lp Bs n₀ a cap l hl J Jx hY W ((hW.cell (p := ⟨Bs, 0, none⟩) hBs).trans hcb)
    (fun j x hj => by
      obtain ⟨b, off, h1, h2, h3, h4⟩ := hc j x hj
      have hb : b < w.heap.size := by omega
      exact ⟨b, off, h1, h2, (hW.cell (p := ⟨b, off + j * 2, none⟩) hb).trans h3, (hW.cell (p := ⟨b, off + j * 2 + 1, none⟩) hb).trans h4⟩) h0
end Go.Proofs.Ytdkkpkgfiodlbaa
