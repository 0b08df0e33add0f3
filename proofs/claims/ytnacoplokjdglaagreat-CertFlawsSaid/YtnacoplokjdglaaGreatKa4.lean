/- Texts of one proof, one behind the other: Twice, Answer, OfMem, SureEq, Fact, DpEdge, Maps2, GdMvData, GdMvApp, MvLay, GdMvSort, GrSort. -/
import Derived.Maps.Keyed
import Derived.Shelf.SlGeneric
import Derived.Shelf.SlLaysNS
import Derived.Shelf.SlLaysN
import Derived.Test.YtnacoplokjdglaaGreatProg
import Derived.Shelf.SortG.Plain
import Derived.Shelf.SortG.SortNone
import Derived.Sort.OwnSorted
import Derived.Shelf.SlicesG.CompactI
import Derived.RangeFuncNested
import Derived.RangeFuncBound
import Derived.RangeFuncCalls
import Derived.RangeFuncLeaves
import Derived.RangeFuncBox
import Derived.Shelf.Abstract
import Derived.Shelf.RegionOpen
import Derived.OwnWalkIn
import Derived.TacticsInMore
import Derived.LoopNIn
import Derived.LoopIn
import Derived.Test.YtnacoplokjdglaaGreatKa1
import Derived.Test.YtnacoplokjdglaaGreatKa2
import Derived.Test.YtnacoplokjdglaaGreatKa3
set_option linter.all false
namespace Go.Proofs.YtnacoplokjdglaaGreat
open Go.RowKit Go.Maps
/-- Of the first k events none has written what the i-th operation at a place writes. -/
def FreshK (es : List GEvent) (at' i k : Nat) (o : GOp) : Prop := ∀ (k' : Nat) (e : GEvent) (j : Nat) (p : GOp), k' < k → es[k']? = some e → e.kind = 1 → e.ops[j]? = some p → (k' < at' ∨ j < i) → p.kind = 2 → p.val ≠ o.val
def FreshJ (e : GEvent) (at' i k j : Nat) (o : GOp) : Prop := ∀ (j' : Nat) (p : GOp), j' < j → e.ops[j']? = some p → (k < at' ∨ j' < i) → p.kind = 2 → p.val ≠ o.val
/-- What the first n operations at a place write was not written ahead. -/
def FreshN (es : List GEvent) (l : List GOp) (at' n : Nat) : Prop := ∀ (i : Nat) (o : GOp), i < n → l[i]? = some o → o.kind = 2 → FreshK es at' i (at' + 1) o

theorem FreshK.next {es : List GEvent} {at' i k : Nat} {o : GOp} {e : GEvent} (h : FreshK es at' i k o) (he : es[k]? = some e) (hk : e.kind = 1 → FreshJ e at' i k e.ops.length o) : FreshK es at' i (k + 1) o := by
  intro k' e' j p hlt he' h1 hp hc h2
  rcases Nat.lt_or_ge k' k with h' | h'
  · exact h k' e' j p h' he' h1 hp hc h2
  · obtain rfl : k' = k := by omega
    rw [he] at he'; cases he'
    exact hk h1 j p (List.getElem?_eq_some_iff.1 hp).1 hp hc h2
theorem FreshJ.next {e : GEvent} {at' i k j : Nat} {o p : GOp} (h : FreshJ e at' i k j o) (hp : e.ops[j]? = some p) (hk : (k < at' ∨ j < i) → p.kind = 2 → p.val ≠ o.val) : FreshJ e at' i k (j + 1) o := by
  intro j' p' hlt hp' hc h2
  rcases Nat.lt_or_ge j' j with h' | h'
  · exact h j' p' h' hp' hc h2
  · obtain rfl : j' = j := by omega
    rw [hp] at hp'; cases hp'
    exact hk hc h2
theorem FreshN.next {es : List GEvent} {l : List GOp} {at' n : Nat} {o : GOp} (h : FreshN es l at' n) (ho : l[n]? = some o) (hk : o.kind = 2 → FreshK es at' n (at' + 1) o) : FreshN es l at' (n + 1) := by
  intro i o' hlt ho' h2
  rcases Nat.lt_or_ge i n with h' | h'
  · exact h i o' h' ho' h2
  · obtain rfl : i = n := by omega
    rw [ho] at ho'; cases ho'
    exact hk h2

end Go.Proofs.YtnacoplokjdglaaGreat

namespace Go.Proofs.YtnacoplokjdglaaGreat
open Go.RowKit Go.Maps
/-- An operation told is of the same kind and key as the one asked, and a write writes the same. -/
def SameShape (o p : GOp) : Prop := o.kind = p.kind ∧ o.key = p.key ∧ (o.kind = 2 → o.val = p.val)
def ShapeN (l m : List GOp) (n : Nat) : Prop := ∀ (i : Nat) (o p : GOp), i < n → m[i]? = some o → l[i]? = some p → SameShape o p
theorem ShapeN.next {l m : List GOp} {n : Nat} {o p : GOp} (h : ShapeN l m n) (ho : m[n]? = some o) (hp : l[n]? = some p) (hs : SameShape o p) : ShapeN l m (n + 1) := by
  intro i o' p' hlt ho' hp'
  rcases Nat.lt_or_ge i n with h' | h'
  · exact h i o' p' h' ho' hp'
  · obtain rfl : i = n := by omega
    rw [ho] at ho'; cases ho'
    rw [hp] at hp'; cases hp'
    exact hs

end Go.Proofs.YtnacoplokjdglaaGreat

namespace Go.Proofs.YtnacoplokjdglaaGreat
open Go.RowKit Go.Maps

abbrev TxL := List (GTxn × Value)
def txV (p : GTxn × Value) : List Value := [vi p.1.client, vi p.1.state, p.2]
theorem txV_length (p : GTxn × Value) : (txV p).length = 3 := rfl
theorem Tryz.infoTxn : (Tryz.prog.info? 49).map (fun i => (i.zero, i.size, i.bytes)) = some (some (.agg #[vi 0, vi 0, .slice none 0 0]), 3, 40) := by kernel_rfl
theorem eltTxn : Elt Tryz.prog 24 49 3 40 (.agg #[vi 0, vi 0, .slice none 0 0]) := by
  obtain ⟨i0, hi, hz0, hz1, hz2⟩ := info_parts Tryz.infoTxn
  exact ⟨Tryz.underlying24, by decide, rfl, i0, hi, hz0, hz1, hz2⟩
theorem Tryz.infoInt : (Tryz.prog.info? 3).map (fun i => (i.zero, i.size, i.bytes)) = some (some (vi 0), 1, 8) := by kernel_rfl
theorem eltInt : Elt Tryz.prog 58 3 1 8 (vi 0) := by
  obtain ⟨i0, hi, hz0, hz1, hz2⟩ := info_parts Tryz.infoInt
  exact ⟨Tryz.underlying58, by decide, rfl, i0, hi, hz0, hz1, hz2⟩

/-- Rows of two kinds lie in two blocks. -/
theorem rows_apart {w : World} {b b' e e' m m' n n' : Nat} {v v' : Value} {xs xs' : List Value} (h : w.ownsRow b e m v n xs) (h' : w.ownsRow b' e' m' v' n' xs') (he : e ≠ e') : v'.ownBlock = none ∨ v'.ownBlock ≠ v.ownBlock := by
  rcases h'.2 with ⟨hv', _⟩ | ⟨g', cap', cur', hv', _, hh', _⟩
  · left; rw [hv']; rfl
  · right
    rcases h.2 with ⟨hv, _⟩ | ⟨g, cap, cur, hv, _, hh, _⟩
    · rw [hv, hv']; simp [Value.ownBlock]
    · rw [hv, hv']
      intro e1
      have : g' = g := by simpa [Value.ownBlock] using e1
      subst this
      rw [hh] at hh'
      simp at hh'
      exact he hh'.2

/-- A block of another kind stays while an owned row is written. -/
theorem own_box {A B : World} {b n m bx : Nat} {e T : TypeId} {v : Value} {xs : List Value} {cs : Array Value} (h : A.ownsRow b e n v m xs) (hbx : A.heap[bx]? = some (.cells cs T)) (hT : T ≠ e) (hg : A.grownBy B v.ownBlock) : B.heap[bx]? = some (.cells cs T) := by
  rw [hg.block bx (Array.getElem?_eq_some_iff.1 hbx).1, hbx]
  intro hc
  rcases h.2 with ⟨hv, _⟩ | ⟨g, cap, cur, hv, _, hh, _⟩
  · rw [hv] at hc; simp [Value.ownBlock] at hc
  · rw [hv] at hc
    have : bx = g := by simpa [Value.ownBlock] using hc
    subst this
    rw [hbx] at hh
    simp at hh
    exact hT hh.2

structure OfS (w : World) (vo vf : Value) (L : TxL) (F : List Nat) (W : World) : Prop where
  out : W.ownsRow w.heap.size 49 3 vo L.length (L.flatMap txV)
  ops : ∀ p ∈ L, OwOps w.heap.size W p.2 p.1.ops
  frm : W.ownsRow w.heap.size 3 1 vf F.length (F.map (fun n : Nat => vi (n : Int)))
  below : Below w.heap.size w W
theorem OfS.later {w A B : World} {vo vf : Value} {L : TxL} {F : List Nat} (h : OfS w vo vf L F A) (hb : Below A.heap.size A B) : OfS w vo vf L F B :=
  ⟨own_below h.out hb, fun p hp => own_below (h.ops p hp) hb, own_below h.frm hb, h.below.trans (hb.mono h.below.size)⟩
theorem OfS.more {w A : World} {vo vf : Value} {L : TxL} {F : List Nat} (h : OfS w vo vf L F A) (o : Obj) : OfS w vo vf L F (A.alloc o) := h.later ((Below.refl _ _).alloc (Nat.le_refl _) _)
/-- The transactions are written; those that stand there now have their operations in memory that was there. -/
theorem OfS.wrote {w A B : World} {vo vo' vf : Value} {L L' : TxL} {F : List Nat} (h : OfS w vo vf L F A) (hg : A.grownBy B vo.ownBlock) (ho : B.ownsRow w.heap.size 49 3 vo' L'.length (L'.flatMap txV)) (hops : ∀ p ∈ L', OwOps w.heap.size A p.2 p.1.ops) : OfS w vo' vf L' F B :=
  ⟨ho, fun p hp => World.ownsRow.kept (hops p hp) hg (rows_apart h.out (hops p hp) (by decide)), World.ownsRow.kept h.frm hg (rows_apart h.out h.frm (by decide)), h.below.grown hg h.below.size (fun j hj => (World.ownsRow.lt h.out j hj).1)⟩
theorem OfS.from' {w A B : World} {vo vf vf' : Value} {L : TxL} {F F' : List Nat} (h : OfS w vo vf L F A) (hg : A.grownBy B vf.ownBlock) (ho : B.ownsRow w.heap.size 3 1 vf' F'.length (F'.map (fun n : Nat => vi (n : Int)))) : OfS w vo vf' L F' B :=
  ⟨World.ownsRow.kept h.out hg (rows_apart h.frm h.out (by decide)), fun p hp => World.ownsRow.kept (h.ops p hp) hg (rows_apart h.frm (h.ops p hp) (by decide)), ho, h.below.grown hg h.below.size (fun j hj => (World.ownsRow.lt h.frm j hj).1)⟩

theorem OfS.rd {w A : World} {vo vf : Value} {L : TxL} {F : List Nat} (h : OfS w vo vf L F A) : RdTxns A vo (L.map (·.1)) := by
  obtain ⟨a, len, cap, h1, h2, h3, h4, h5, h6⟩ := rds_of_own (V := txV) txV_length h.out
  refine ⟨a, len, cap, h1, by simpa using h2, by simpa using h3, h4, h5, fun j x hj => ?_⟩
  rw [List.getElem?_map, Option.map_eq_some_iff] at hj
  obtain ⟨p, hp, rfl⟩ := hj
  obtain ⟨b, off, cs, ha, hl, hc, rfl⟩ := h6 j p hp
  exact ⟨b, off, _, ha, hl, hc, p.2, rfl, (h.ops p (List.mem_of_getElem? hp)).rd⟩

theorem shapeN_refl (l : List GOp) (n : Nat) : ShapeN l l n := fun i o p _ ho hp => by rw [ho] at hp; cases hp; exact ⟨rfl, rfl, fun _ => rfl⟩

/-- Each written value belongs to one transaction. -/
def Uniq (ts : List GTxn) : Prop := ∀ (i j : Nat) (t u : GTxn), ts[i]? = some t → ts[j]? = some u → ∀ o ∈ t.ops, ∀ p ∈ u.ops, o.kind = 2 → p.kind = 2 → o.val = p.val → i = j
/-- What is known of a history's transactions. -/
structure GoodTs (ts : List GTxn) : Prop where
  len : ts.length ≤ 60
  txn : ∀ t ∈ ts, (0 ≤ t.state ∧ t.state ≤ 2) ∧ (∀ o ∈ t.ops, GoodOp o) ∧ t.ops.length ≤ 12
  uniq : Uniq ts
theorem GoodTs.ok {ts : List GTxn} (h : GoodTs ts) : OkTxns ts := by
  refine ⟨by have := h.len; omega, fun t ht => ?_⟩
  obtain ⟨-, h2, h3⟩ := h.txn t ht
  refine ⟨fun o ho => ?_, by omega⟩
  have g := h2 o ho
  have := g.kind; have := g.key0; have := g.key1; have := g.val0; have := g.val1
  unfold i64
  omega
end Go.Proofs.YtnacoplokjdglaaGreat

namespace Go.Proofs.YtnacoplokjdglaaGreat
open Go.RowKit Go.Maps

theorem foldBy_any (n : Nat) (key val : Int) : ∀ (l : List GOp) (L : ByL), getM (l.foldl (stepBy n) L) (key, val) = if l.any (wroteB key val) then some (n : Int) else getM L (key, val) := by
  intro l
  induction l with
  | nil => intro L; rfl
  | cons o l ih =>
    intro L
    rw [List.foldl_cons, ih, List.any_cons]
    cases h1 : l.any (wroteB key val)
    · simp only [Bool.or_false, Bool.false_eq_true, if_false]
      unfold stepBy wroteB
      by_cases hk : o.kind = 2
      · rw [if_pos hk, getM_put]
        by_cases h2 : o.key = key <;> by_cases h3 : o.val = val <;> simp [hk, h2, h3]
      · simp [hk]
    · simp

theorem byN_none {ts : List GTxn} {key val : Int} : ∀ n, n ≤ ts.length → (∀ (j : Nat) (u : GTxn), j < n → ts[j]? = some u → u.ops.any (wroteB key val) = false) → getM (byN ts n) (key, val) = none := by
  intro n
  induction n with
  | zero => intro _ _; rfl
  | succ n ih =>
    intro hn h
    obtain ⟨t, ht⟩ := some_at hn
    rw [byN_succ ht, foldBy_any, h n t (by omega) ht]
    exact ih (by omega) fun j u hj hu => h j u (by omega) hu
theorem byN_one {ts : List GTxn} {key val : Int} {i : Nat} {t : GTxn} (ht : ts[i]? = some t) (hh : t.ops.any (wroteB key val) = true) :
    ∀ n, n ≤ ts.length → i < n → (∀ (j : Nat) (u : GTxn), j ≠ i → ts[j]? = some u → u.ops.any (wroteB key val) = false) → getM (byN ts n) (key, val) = some (i : Int) := by
  intro n
  induction n with
  | zero => intro _ h; omega
  | succ n ih =>
    intro hn hi h
    obtain ⟨u, hu⟩ := some_at hn
    rw [byN_succ hu, foldBy_any]
    by_cases he : n = i
    · subst he
      rw [ht] at hu; cases hu
      rw [hh]; rfl
    · rw [h n u he hu]
      exact ih (by omega) (by omega) h

theorem wrote_val {key val : Int} {l : List GOp} (h : l.any (wroteB key val) = true) : ∃ o ∈ l, o.kind = 2 ∧ o.val = val := by
  rw [List.any_eq_true] at h
  obtain ⟨o, ho, hh⟩ := h
  simp [wroteB] at hh
  exact ⟨o, ho, hh.1.1, hh.2⟩

/-- Both ways to name who wrote a value to a key. -/
theorem by_writer {ts : List GTxn} (hu : Uniq ts) (key val : Int) : (getM (byN ts ts.length) (key, val) = none ∧ writerM ts key val = -1) ∨ ∃ (i : Nat) (t : GTxn), ts[i]? = some t ∧ getM (byN ts ts.length) (key, val) = some (i : Int) ∧ writerM ts key val = i := by
  by_cases h : ∃ (i : Nat) (t : GTxn), ts[i]? = some t ∧ t.ops.any (wroteB key val) = true
  · obtain ⟨i, t, ht, hh⟩ := h
    have hno : ∀ (j : Nat) (u : GTxn), j ≠ i → ts[j]? = some u → u.ops.any (wroteB key val) = false := by
      intro j u hj hju
      cases hc : u.ops.any (wroteB key val) with
      | false => rfl
      | true =>
        obtain ⟨o, ho, hk, hv⟩ := wrote_val hh
        obtain ⟨p, hp, hk', hv'⟩ := wrote_val hc
        exact absurd (hu j i u t hju ht p hp o ho hk' hk (by rw [hv, hv'])) hj
    have hlt := (List.getElem?_eq_some_iff.1 ht).1
    exact .inr ⟨i, t, ht, byN_one ht hh _ (Nat.le_refl _) hlt hno, writerM_at ht hh fun j u hj hju => hno j u (by omega) hju⟩
  · have hno : ∀ (j : Nat) (u : GTxn), ts[j]? = some u → u.ops.any (wroteB key val) = false := by
      intro j u hju
      cases hc : u.ops.any (wroteB key val) with
      | false => rfl
      | true => exact absurd ⟨j, u, hju, hc⟩ h
    exact .inl ⟨byN_none _ (Nat.le_refl _) fun j u _ hju => hno j u hju, writerM_none hno⟩

end Go.Proofs.YtnacoplokjdglaaGreat

namespace Go.Proofs.YtnacoplokjdglaaGreat
open Go.RowKit Go.Maps

deriving instance DecidableEq for GChoice

theorem choiceKeyed : Keyed Tryz.prog 128 := Keyed.of_law (deep_law_laid laidOutP (m := 2) (by omega) (of_decide_eq_true (by kernel_rfl)) (by kernel_rfl) (by rw [Tryz.underlying128]))

abbrev chK (c : GChoice) : Value := .agg #[vi c.kind, vi c.key, vi c.a, vi c.b]
theorem chK_inj (x y : GChoice) (h : chK x = chK y) : x = y := by
  obtain ⟨a, b, c, d⟩ := x; obtain ⟨a', b', c', d'⟩ := y
  simp [chK] at h; obtain ⟨rfl, rfl, rfl, rfl⟩ := h; rfl
def SmallCh (c : GChoice) : Prop := i64 c.kind ∧ i64 c.key ∧ i64 c.a ∧ i64 c.b

theorem choiceLits {c : GChoice} (h : SmallCh c) (d : Nat) : Tryz.prog.keyLits (d + 1 + 1) 128 [vi c.kind, vi c.key, vi c.a, vi c.b] = some [.int .i64 c.kind, .int .i64 c.key, .int .i64 c.a, .int .i64 c.b] := by
  have hc : Tryz.prog.cellsOf 128 = 4 := by kernel_rfl
  have hi : Tryz.prog.cellsOf 3 = 1 := by kernel_rfl
  obtain ⟨h1, h2, h3, h4⟩ := h
  unfold Program.keyLits
  rw [Tryz.underlying128]
  simp [hc, hi, lit_int h1, lit_int h2, lit_int h3, lit_int h4]
theorem choiceKey {c : GChoice} (h : SmallCh c) : ∃ kl, keyOf Tryz.prog 128 (chK c) = some kl := by
  have hk : Tryz.prog.keyType 128 = true := by kernel_rfl
  have hc : Tryz.prog.cellsOf 128 = 4 := by kernel_rfl
  obtain ⟨d, hd⟩ : ∃ d, Tryz.prog.types.size = d + 1 := ⟨Tryz.prog.types.size - 1, by have : 0 < Tryz.prog.types.size := of_decide_eq_true (by kernel_rfl); omega⟩
  have hf : (chK c).formed Tryz.prog 128 = true := by simp [Value.formed, Tryz.underlying128, hc]
  have hl := choiceLits h d
  unfold keyOf
  rw [Tryz.underlying128, hd]
  simp [hk, hf, Value.cells, hl]

abbrev FaL := List (GChoice × Bool)
abbrev MapF (w : World) (b : Nat) (L : FaL) : Prop := MapT Tryz.prog 128 chK Value.bool w b L
/-- What a choice of a history looks like. -/
structure OkCh (n : Nat) (c : GChoice) : Prop where
  key : 0 ≤ c.key ∧ c.key < 16
  a : 0 ≤ c.a ∧ c.a < n
  b : 0 ≤ c.b ∧ c.b < n
  kind : c.kind = 1 ∧ c.key = 0 ∧ c.b = 0 ∨ c.kind = 2 ∧ c.a < c.b
theorem OkCh.small {n : Nat} {c : GChoice} (h : OkCh n c) (hn : n ≤ 4096) : SmallCh c := by
  have := h.key; have := h.a; have := h.b; have := h.kind
  unfold SmallCh i64; omega

theorem cmS_mem {S : List Bool} {ts : List GTxn} {c : GChoice} {n : Nat} (h : c ∈ cmS S ts n) : ∃ i : Nat, i < n ∧ i < ts.length ∧ c = ⟨1, 0, i, 0⟩ := by
  unfold cmS at h
  rw [List.mem_filterMap] at h
  obtain ⟨i, hi, h⟩ := h
  rw [List.mem_range] at hi
  cases ht : ts[i]? with
  | none => simp [ht] at h
  | some t =>
    have := (List.getElem?_eq_some_iff.1 ht).1
    simp only [ht, Option.bind_some] at h
    split at h
    · simp at h; exact ⟨i, hi, this, h.symm⟩
    · simp at h
theorem befA_mem {ts : List GTxn} {key b n : Nat} {c : GChoice} (h : c ∈ befA ts key b n) : ∃ a : Nat, a < n ∧ c = ⟨2, key, a, b⟩ := by
  unfold befA at h
  rw [List.mem_filterMap] at h
  obtain ⟨a, ha, h⟩ := h
  rw [List.mem_range] at ha
  split at h
  · simp at h; exact ⟨a, ha, h.symm⟩
  · simp at h
theorem befB_mem {ts : List GTxn} {key n : Nat} {c : GChoice} (h : c ∈ befB ts key n) : ∃ a b : Nat, a < b ∧ b < n ∧ c = ⟨2, key, a, b⟩ := by
  unfold befB at h
  rw [List.mem_flatMap] at h
  obtain ⟨b, hb, h⟩ := h
  rw [List.mem_range] at hb
  obtain ⟨a, ha, rfl⟩ := befA_mem h
  exact ⟨a, b, ha, hb, rfl⟩
theorem befK_mem {ts : List GTxn} {n : Nat} {c : GChoice} (h : c ∈ befK ts n) : ∃ key a b : Nat, key < n ∧ a < b ∧ b < ts.length ∧ c = ⟨2, key, a, b⟩ := by
  unfold befK at h
  rw [List.mem_flatMap] at h
  obtain ⟨k, hk, h⟩ := h
  rw [List.mem_range] at hk
  obtain ⟨a, b, ha, hb, rfl⟩ := befB_mem h
  exact ⟨k, a, b, hk, ha, hb, rfl⟩
theorem choicesM_ok {ts : List GTxn} {c : GChoice} (h : c ∈ choicesM ts) : OkCh ts.length c := by
  unfold choicesM at h
  rw [List.mem_append] at h
  rcases h with h | h
  · obtain ⟨i, h1, h2, rfl⟩ := cmS_mem h
    exact ⟨⟨by simp, by simp⟩, ⟨by simp, by simpa using h2⟩, ⟨by simp, by simp; omega⟩, .inl ⟨rfl, rfl, rfl⟩⟩
  · obtain ⟨k, a, b, h1, h2, h3, rfl⟩ := befK_mem h
    exact ⟨⟨by simp, by simp; omega⟩, ⟨by simp, by simp; omega⟩, ⟨by simp, by simp; omega⟩, .inr ⟨rfl, by simp; omega⟩⟩

theorem cmS_nodup (S : List Bool) (ts : List GTxn) : ∀ n, (cmS S ts n).Nodup := by
  intro n
  induction n with
  | zero => simp [cmS]
  | succ n ih =>
    cases ht : ts[n]? with
    | none =>
      have : cmS S ts (n + 1) = cmS S ts n := by simp [cmS, List.range_succ, ht]
      rw [this]; exact ih
    | some t =>
      rw [cmS_succ ht, List.nodup_append]
      refine ⟨ih, by split <;> simp, fun c hc d hd => ?_⟩
      obtain ⟨i, h1, _, rfl⟩ := cmS_mem hc
      split at hd
      · simp at hd; subst hd; simp; omega
      · simp at hd
theorem befA_nodup (ts : List GTxn) (key b : Nat) : ∀ n, (befA ts key b n).Nodup := by
  intro n
  induction n with
  | zero => simp [befA]
  | succ n ih =>
    rw [befA_succ, List.nodup_append]
    refine ⟨ih, by split <;> simp, fun c hc d hd => ?_⟩
    obtain ⟨i, h1, rfl⟩ := befA_mem hc
    split at hd
    · simp at hd; subst hd; simp; omega
    · simp at hd
theorem befB_nodup (ts : List GTxn) (key : Nat) : ∀ n, (befB ts key n).Nodup := by
  intro n
  induction n with
  | zero => simp [befB]
  | succ n ih =>
    rw [befB_succ, List.nodup_append]
    refine ⟨ih, befA_nodup _ _ _ _, fun c hc d hd => ?_⟩
    obtain ⟨a, b, h1, h2, rfl⟩ := befB_mem hc
    obtain ⟨a', h3, rfl⟩ := befA_mem hd
    simp; omega
theorem befK_nodup (ts : List GTxn) : ∀ n, (befK ts n).Nodup := by
  intro n
  induction n with
  | zero => simp [befK]
  | succ n ih =>
    rw [befK_succ, List.nodup_append]
    refine ⟨ih, befB_nodup _ _ _, fun c hc d hd => ?_⟩
    obtain ⟨k, a, b, h1, _, _, rfl⟩ := befK_mem hc
    obtain ⟨a', b', _, _, rfl⟩ := befB_mem hd
    simp; omega
theorem choicesM_nodup (ts : List GTxn) : (choicesM ts).Nodup := by
  unfold choicesM
  rw [List.nodup_append]
  refine ⟨cmS_nodup _ _ _, befK_nodup _ _, fun c hc d hd => ?_⟩
  obtain ⟨i, _, _, rfl⟩ := cmS_mem hc
  obtain ⟨k, a, b, _, _, _, rfl⟩ := befK_mem hd
  simp

/-- Who is done, and whether that is known. -/
def deadB (ts : List GTxn) (i : Nat) : Bool := stOf ts i == 2 || (ts[i]?.map (fun t => (writesM t.ops).length == 0)).getD false
def isM (ts : List GTxn) (L : FaL) (i : Nat) : Bool × Bool :=
  if (sureM ts)[i]?.getD false then (true, true) else if deadB ts i then (false, true) else ((getM L ⟨1, 0, i, 0⟩).getD false, (getM L ⟨1, 0, i, 0⟩).isSome)
/-- Is a choice open, and does it count? -/
def openC (ts : List GTxn) (L : FaL) (c : GChoice) : Bool := (getM L c).isNone && (c.kind != 2 || (isM ts L c.a.toNat).1 && (isM ts L c.b.toNat).1)
/-- chains.Next. -/
def nextM (ts : List GTxn) (L : FaL) : Option GChoice := (choicesM ts).find? (openC ts L)
end Go.Proofs.YtnacoplokjdglaaGreat

namespace Go.Proofs.YtnacoplokjdglaaGreat
open Go.RowKit Go.Maps
/-- Who wrote what a read has read. -/
def srcM (ts : List GTxn) (key val : Int) : Int × Bool := if val = 0 then (-1, true) else match getM (byN ts ts.length) (key, val) with
  | some i => (i, true)
  | none => (0, false)
/-- A read of a write: by whom, of whom, of which key. -/
structure GRd where
  by_ : Int
  of_ : Int
  key : Int
deriving DecidableEq
def readOf (ts : List GTxn) (dn : Nat → Bool) (i : Nat) (o : GOp) : List GRd :=
  if (srcM ts o.key o.val).2 && !(decide (0 ≤ (srcM ts o.key o.val).1) && !dn (srcM ts o.key o.val).1.toNat) then [⟨i, (srcM ts o.key o.val).1, o.key⟩] else []
def readsOf (ts : List GTxn) (dn : Nat → Bool) (p : GTxn × Nat) : List GRd := (readsM p.1).flatMap (readOf ts dn p.2)
def rdsL (ts : List GTxn) (dn : Nat → Bool) : List GRd := ts.zipIdx.flatMap (readsOf ts dn)
def addE (f t k : Int) : List GEdge := if f = t then [] else [⟨f, t, k⟩]
def wrEdge (r : GRd) : List GEdge := if 0 ≤ r.of_ then addE r.of_ r.by_ 2 else []
def rwR (i : Nat) (key : Int) (r : GRd) : List GEdge := if r.of_ < 0 ∧ r.key = key then addE r.by_ i 3 else []
def rwO (rs : List GRd) (i : Nat) (o : GOp) : List GEdge := rs.flatMap (rwR i o.key)
def rwT (dn : Nat → Bool) (rs : List GRd) (p : GTxn × Nat) : List GEdge := if dn p.2 then (writesM p.1.ops).flatMap (rwO rs p.2) else []
def wkB (key : Int) (o : GOp) : Bool := o.kind == 2 && o.key == key
def has1 (ts : List GTxn) (dn : Nat → Bool) (key i : Int) : Bool := decide (0 ≤ i) && decide (i < ts.length) && dn i.toNat && (ts[i.toNat]?.map (fun t => t.ops.any (wkB key))).getD false
def hasM (ts : List GTxn) (dn : Nat → Bool) (c : GChoice) : Bool := has1 ts dn c.key c.a && has1 ts dn c.key c.b
def wwR (a b key : Int) (r : GRd) : List GEdge := if r.of_ = a ∧ r.key = key then addE r.by_ b 3 else []
def wwL (rs : List GRd) (a b key : Int) : List GEdge := addE a b 1 ++ rs.flatMap (wwR a b key)
def factE (ts : List GTxn) (dn : Nat → Bool) (rs : List GRd) (p : GChoice × Bool) : List GEdge :=
  if p.1.kind = 2 ∧ hasM ts dn p.1 = true then (if p.2 then wwL rs p.1.a p.1.b p.1.key else wwL rs p.1.b p.1.a p.1.key) else []
def dnM (ts : List GTxn) (L : FaL) (i : Nat) : Bool := (isM ts L i).1
def edge0 (ts : List GTxn) (dn : Nat → Bool) : List GEdge := (rdsL ts dn).flatMap wrEdge ++ ts.zipIdx.flatMap (rwT dn (rdsL ts dn))
def edgeL (ts : List GTxn) (L : FaL) : List GEdge := edge0 ts (dnM ts L) ++ L.flatMap (factE ts (dnM ts L) (rdsL ts (dnM ts L)))
/-- By From, To, Kind. -/
def ltE (a b : GEdge) : Prop := a.f < b.f ∨ (a.f = b.f ∧ (a.t < b.t ∨ (a.t = b.t ∧ a.k < b.k)))
/-- All edges, each once, in order. -/
def EdgesOf (ts : List GTxn) (L : FaL) (l : List GEdge) : Prop := l.Pairwise ltE ∧ ∀ e, e ∈ l ↔ e ∈ edgeL ts L
theorem ltE_irr (a : GEdge) : ¬ ltE a a := by unfold ltE; omega
theorem ltE_trans {a b c : GEdge} (h : ltE a b) (k : ltE b c) : ltE a c := by unfold ltE at *; omega
theorem edges_ext : ∀ {a b : List GEdge}, a.Pairwise ltE → b.Pairwise ltE → (∀ p, p ∈ a ↔ p ∈ b) → a = b
  | [], [], _, _, _ => rfl
  | [], y :: b, _, _, h => by have := (h y).2 List.mem_cons_self; simp at this
  | x :: a, [], _, _, h => by have := (h x).1 List.mem_cons_self; simp at this
  | x :: a, y :: b, ha, hb, h => by
    have ha' := List.pairwise_cons.1 ha
    have hb' := List.pairwise_cons.1 hb
    have hxy : x = y := by
      rcases List.mem_cons.1 ((h x).1 List.mem_cons_self) with e | hx
      · exact e
      · rcases List.mem_cons.1 ((h y).2 List.mem_cons_self) with e | hy
        · exact e.symm
        · exact absurd (ltE_trans (ha'.1 y hy) (hb'.1 x hx)) (ltE_irr x)
    subst hxy
    congr 1
    refine edges_ext ha'.2 hb'.2 (fun p => ?_)
    constructor
    · intro hp
      rcases List.mem_cons.1 ((h p).1 (List.mem_cons_of_mem _ hp)) with rfl | h1
      · exact absurd (ha'.1 p hp) (ltE_irr p)
      · exact h1
    · intro hp
      rcases List.mem_cons.1 ((h p).2 (List.mem_cons_of_mem _ hp)) with rfl | h1
      · exact absurd (hb'.1 p hp) (ltE_irr p)
      · exact h1

/-! What is lifted. -/
def lift1 (es : List GEdge) (level : Int) (e : GEdge) : List (Int × Int) :=
  (if level ≠ 1 ∨ e.k ≠ 3 then [(e.f, e.t)] else []) ++ (if level ≠ 1 ∨ e.k = 3 then [] else es.flatMap (fun g => if g.k = 3 ∧ g.f = e.t then [(e.f, g.t)] else []))
def liftL (es : List GEdge) (level : Int) : List (Int × Int) := es.flatMap (lift1 es level)
theorem lift_mem (es : List GEdge) (level : Int) (u v : Int) : (u, v) ∈ liftL es level ↔ ArcK es (level == 1) u v := by
  unfold liftL ArcK
  rw [List.mem_flatMap]
  constructor
  · rintro ⟨e, he, h⟩
    unfold lift1 at h
    rcases List.mem_append.1 h with h | h
    · split at h
      · rename_i hc
        simp only [List.mem_singleton, Prod.mk.injEq] at h
        obtain ⟨rfl, rfl⟩ := h
        refine .inl ⟨e, he, ?_, rfl, rfl⟩
        rcases hc with hc | hc
        · exact .inl (by simpa using hc)
        · exact .inr hc
      · cases h
    · split at h
      · cases h
      · rename_i hc
        obtain ⟨g, hg, h⟩ := List.mem_flatMap.1 h
        split at h
        · rename_i hgc
          simp only [List.mem_singleton, Prod.mk.injEq] at h
          obtain ⟨rfl, rfl⟩ := h
          have h1 : level = 1 := by
            apply Classical.byContradiction
            exact fun hn => hc (.inl hn)
          exact .inr ⟨by simp [h1], e, he, fun hk => hc (.inr hk), rfl, g, hg, hgc.1, hgc.2, rfl⟩
        · cases h
  · rintro (⟨e, he, hk, rfl, rfl⟩ | ⟨hs, e, he, hk, rfl, g, hg, g3, gf, rfl⟩)
    · refine ⟨e, he, List.mem_append_left _ ?_⟩
      rw [if_pos]
      · simp
      · rcases hk with hk | hk
        · exact .inl (by simpa using hk)
        · exact .inr hk
    · refine ⟨e, he, List.mem_append_right _ ?_⟩
      have h1 : level = 1 := by simpa using hs
      rw [if_neg (by rintro (h | h); exact h h1; exact hk h)]
      exact List.mem_flatMap.2 ⟨g, hg, by rw [if_pos ⟨g3, gf⟩]; simp⟩
/-- Arcs that count. -/
def ArcN (n : Nat) (arcs : List (Int × Int)) (u v : Int) : Prop := (u, v) ∈ arcs ∧ (0 ≤ u ∧ u < n) ∧ (0 ≤ v ∧ v < n)
/-- All edges lie among so many. -/
def InN (n : Nat) (es : List GEdge) : Prop := ∀ e ∈ es, (0 ≤ e.f ∧ e.f < n) ∧ (0 ≤ e.t ∧ e.t < n)
theorem arcN_iff {n : Nat} {es : List GEdge} (h : InN n es) (level : Int) (u v : Int) : ArcN n (liftL es level) u v ↔ ArcK es (level == 1) u v := by
  unfold ArcN
  rw [lift_mem]
  constructor
  · exact fun h => h.1
  · intro ha
    refine ⟨ha, ?_⟩
    rcases ha with ⟨e, he, _, rfl, rfl⟩ | ⟨_, e, he, _, rfl, g, hg, _, _, rfl⟩
    · exact h e he
    · exact ⟨(h e he).1, (h g hg).2⟩
theorem lift_serial (es : List GEdge) : liftL es 2 = es.map (fun e => (e.f, e.t)) := by
  have : ∀ e, lift1 es 2 e = [(e.f, e.t)] := fun e => by unfold lift1; simp
  unfold liftL
  rw [show lift1 es 2 = fun e => [(e.f, e.t)] from funext this]
  induction es with
  | nil => rfl
  | cons e es ih =>
    rw [List.flatMap_cons, List.map_cons, ih (fun e => by unfold lift1; simp)]
    rfl
theorem lift_weak (es : List GEdge) (h : ∀ e ∈ es, e.k = 3) : liftL es 1 = [] := by
  unfold liftL
  rw [List.flatMap_eq_nil_iff]
  intro e he
  unfold lift1
  rw [if_neg (by simp [h e he]), if_pos (.inr (h e he))]; rfl
end Go.Proofs.YtnacoplokjdglaaGreat

namespace Go.Proofs.YtnacoplokjdglaaGreat
open Go.RowKit Go.MapKept
open Go.Maps (Keyed)
open Go.ChangeMaps (setBlock)
section laws0
variable {κ ν : Type} {P : Program} {k : TypeId} {eK : κ → Value} {eV : ν → Value} {w : World} {b : Nat} {L : List (κ × ν)}

end laws0
section laws
variable {κ ν : Type} [DecidableEq κ] {P : Program} {k e t : TypeId} {eK : κ → Value} {eV : ν → Value} {w : World} {b : Nat} {L : List (κ × ν)}

/-- delete(m, x). -/
theorem MapT.delete (hK : Keyed P k) (hinj : ∀ x y, eK x = eK y → x = y) (ht : P.underlying t = some (.map k e)) (h : MapT P k eK eV w b L) (x : κ) {kl : Lit} (hx : keyOf P k (eK x) = some kl) (ty : TypeId) :
    ∃ w', (Builtin.delete_ #[t, k] ty #[.map (some b), eK x]).run P w = .ok (.tuple #[]) w' ∧ MapT P k eK eV w' b (delM L x) ∧ w.grownBy w' (some b) ∧ w'.heap.size = w.heap.size := by
  obtain ⟨es, clock, hb, hs, hk, hL, h1 | ⟨j, e0, u, h1, h2, h3, h4, h5, h6, hu⟩⟩ := h.find hK hinj x hx
  · refine ⟨setBlock w b (.map es clock), ?_, ⟨es, clock, ChangeMaps.heap_setBlock_same hb _, hs, hk, ?_⟩, ⟨rfl, rfl, rfl, by simp [setBlock], fun i _ hi => ChangeMaps.heap_setBlock_other hb _ (fun e => hi (by rw [e]))⟩, by simp [setBlock]⟩
    · simp [Builtin.delete_, run_underlying ht, MapKept.run_getObj_map hb, hK.check w _ hx, h1.1 w, MapKept.run_setObj_map _ hb, Result.andThen, setBlock]
    · have : delM L x = L := by
        unfold delM
        rw [List.filter_eq_self]
        intro p hp
        simpa using getM_none.1 h1.2.1 p hp
      rw [this, hL]
  · have hjl : j < es.toList.length := (List.getElem?_eq_some_iff.1 h2).1
    have hjs : j < es.size := by simpa using hjl
    have hsub : (es.eraseIdxIfInBounds j).toList = es.toList.eraseIdx j := by
      unfold Array.eraseIdxIfInBounds
      rw [dif_pos hjs]
      simp
    have hdel : delM L x = L.eraseIdx j := by
      have hjL : j < L.length := (List.getElem?_eq_some_iff.1 h4).1
      have hs1 : L = L.take j ++ (x, u) :: L.drop (j + 1) := by
        conv => lhs; rw [← List.take_append_drop j L]
        rw [List.drop_eq_getElem_cons hjL, (List.getElem?_eq_some_iff.1 h4).2]
      have hf1 : (L.take j).filter (fun p => decide (p.1 ≠ x)) = L.take j := by
        rw [List.filter_eq_self]
        intro p hp
        obtain ⟨i, hi⟩ := List.mem_iff_getElem?.1 hp
        have hij : i < j := by have := (List.getElem?_eq_some_iff.1 hi).1; simp at this; omega
        rw [List.getElem?_take, if_pos hij] at hi
        have : p.1 ≠ x := fun e => by have := hu i p hi e; omega
        simpa using this
      have hf2 : (L.drop (j + 1)).filter (fun p => decide (p.1 ≠ x)) = L.drop (j + 1) := by
        rw [List.filter_eq_self]
        intro p hp
        obtain ⟨i, hi⟩ := List.mem_iff_getElem?.1 hp
        rw [List.getElem?_drop] at hi
        have : p.1 ≠ x := fun e => by have := hu _ p hi e; omega
        simpa using this
      unfold delM
      rw [List.eraseIdx_eq_take_drop_succ]
      conv => lhs; rw [hs1]
      rw [List.filter_append, List.filter_cons, hf1, hf2]
      simp
    refine ⟨setBlock w b (.map (es.eraseIdxIfInBounds j) clock), ?_, ⟨_, clock, ChangeMaps.heap_setBlock_same hb _, stamped_erase hs j, ?_, ?_⟩, ⟨rfl, rfl, rfl, by simp [setBlock], fun i _ hi => ChangeMaps.heap_setBlock_other hb _ (fun e => hi (by rw [e]))⟩, by simp [setBlock]⟩
    · simp [Builtin.delete_, run_underlying ht, MapKept.run_getObj_map hb, hK.check w _ hx, h1, MapKept.run_setObj_map _ hb, Result.andThen, setBlock]
    · intro y hy
      rw [hsub] at hy
      exact hk y ((List.eraseIdx_sublist _ _).subset hy)
    · rw [hdel, hsub, ChangeMaps.map_eraseIdx, ChangeMaps.map_eraseIdx, hL]
end laws
end Go.Proofs.YtnacoplokjdglaaGreat

namespace Go.Proofs.YtnacoplokjdglaaGreat
open Go.RowKit Go.Maps
open Go.ChangeShapes Go.WideShapes

theorem alloc_atG (w : World) (o : Obj) : (w.alloc o).heap[w.heap.size]? = some o := by show (w.heap.push o)[w.heap.size]? = some o; simp
theorem cell_ofG {w : World} {b : Nat} {cs : Array Value} {T : TypeId} {fz : Nat × Nat} (h : w.heap[b]? = some (.cells cs T fz)) (o : Nat) : w.cell? ⟨b, o, none⟩ = cs[o]? := by
  simp [World.cell?, h]
theorem free_ofG {w : World} {b : Nat} {cs : Array Value} {T : TypeId} (h : w.heap[b]? = some (.cells cs T)) (o : Nat) : w.frozen? ⟨b, o, none⟩ = false := by
  simp [World.frozen?, h]

theorem Tryz.infoI : (Tryz.prog.info? 3).map (fun i => (i.zero, i.size, i.bytes)) = some (some (vi 0), 1, 8) := by kernel_rfl
theorem eltI : Elt Tryz.prog 58 3 1 8 (vi 0) := by
  obtain ⟨i0, hi, hz0, hz1, hz2⟩ := info_parts Tryz.infoI
  exact ⟨Tryz.underlying58, by decide, rfl, i0, hi, hz0, hz1, hz2⟩
def viC (p : Int) : List Value := [vi p]
/-- A row of ints that the call owns. -/
def OwI (base : Nat) (w : World) (v : Value) (xs : List Int) : Prop := w.ownsRow base 3 1 v xs.length (xs.flatMap viC)

end Go.Proofs.YtnacoplokjdglaaGreat

namespace Go.Proofs.YtnacoplokjdglaaGreat
open Go.RowKit Go.Shelf Go.Maps
attribute [local go_sem] Oper.semAt_some

/-- What AppendSeq keeps of memory: its boxed answer so far. -/
structure StL (w : World) (acc : List Int) (W : World) : Prop where
  out : ∃ vo, W.heap[w.heap.size]? = some (.cells #[vo] 58) ∧ OwI (w.heap.size + 1) W vo acc
  size : w.heap.size + 1 ≤ W.heap.size
  below : Below w.heap.size w W

theorem StL.alloc {w W : World} {acc : List Int} (h : StL w acc W) (o : Obj) : StL w acc (W.alloc o) := by
  have hs := h.size
  obtain ⟨vo, ho, hrow⟩ := h.out
  exact ⟨⟨vo, by rw [Below.heap_alloc _ _ _ (by omega)]; exact ho, World.ownsRow.alloc hrow _⟩, by simp; omega, h.below.alloc (by omega) _⟩

theorem stL_put {w W w1 : World} {vo v' : Value} {acc : List Int} {x : Int} {o : Obj} (h : StL w acc W) (hrow0 : OwI (w.heap.size + 1) W vo acc) (ho : W.heap[w.heap.size]? = some (.cells #[vo] 58))
    (hg : (W.alloc o).grownBy w1 vo.ownBlock) (hrow : w1.ownsRow (w.heap.size + 1) 3 1 v' (acc.length + 1) (acc.flatMap viC ++ viC x)) : StL w (acc ++ [x]) (w1.setCell ⟨w.heap.size, 0, none⟩ v') := by
  have hs := h.size
  have hlt : ∀ j, vo.ownBlock = some j → w.heap.size + 1 ≤ j ∧ j < W.heap.size := fun j hj => World.ownsRow.lt hrow0 j hj
  refine ⟨⟨v', ?_, ?_⟩, ?_, ?_⟩
  · have : w1.heap[w.heap.size]? = some (.cells #[vo] 58) := by
      rw [hg.block _ (by simp; omega) (fun e => by have := hlt _ e.symm; omega), Below.heap_alloc _ _ _ (by omega)]; exact ho
    simp [World.setCell, Array.getElem?_modify, this]
  · unfold OwI
    rw [List.length_append, List.flatMap_append]
    have := ownsRow_setCell_below hrow (a := ⟨w.heap.size, 0, none⟩) (by show w.heap.size < _; omega) v'
    simpa using this
  · have := hg.size; simp [World.setCell] at this ⊢; omega
  · exact ((h.below.alloc (by omega) o).grown hg (by simp; omega) (fun j hj => by have := hlt j hj; omega)).setCell (Nat.le_refl _) _

end Go.Proofs.YtnacoplokjdglaaGreat

namespace Go.Proofs.YtnacoplokjdglaaGreat
open Go.Proofs Go.Shelf
def sortI_ren : Go.Shelf.Ren := ⟨fun | 53 => 90 | 64 => 86 | 63 => 117 | 78 => 113 | 79 => 114 | 70 => 130 | 71 => 131 | 72 => 132 | 73 => 133 | 74 => 134 | 75 => 135 | 59 => 136 | 76 => 137 | 77 => 138 | 88 => 150 | 89 => 126 | 90 => 127 | 91 => 151 | 92 => 152 | 68 => 148 | 96 => 158 | n => n, fun | 22 => 58 | 23 => 3 | 3 => 3 | 51 => 152 | 0 => 0 | 67 => 184 | 69 => 186 | 4 => 4 | 61 => 178 | 60 => 177 | 44 => 118 | 5 => 5 | 9 => 9 | 75 => 195 | 79 => 199 | 83 => 214 | 84 => 215 | n => n, fun | n => n⟩
theorem sortI : Go.Proofs.SlLaysN.n53 Tryz.prog sortI_ren := {
  mixed := by kernel_rfl,
  f53 := ⟨Tryz.f90.name, by decide, Tryz.func90.trans (congrArg some (by kernel_rfl))⟩,
  f59 := ⟨Tryz.f136.name, by decide, Tryz.func136.trans (congrArg some (by kernel_rfl))⟩,
  f63 := ⟨Tryz.f117.name, by decide, Tryz.func117.trans (congrArg some (by kernel_rfl))⟩,
  f64 := Tryz.func86.trans (congrArg some (by kernel_rfl)),
  f68 := ⟨Tryz.f148.name, by decide, Tryz.func148.trans (congrArg some (by kernel_rfl))⟩,
  f70 := ⟨Tryz.f130.name, by decide, Tryz.func130.trans (congrArg some (by kernel_rfl))⟩,
  f71 := ⟨Tryz.f131.name, by decide, Tryz.func131.trans (congrArg some (by kernel_rfl))⟩,
  f72 := ⟨Tryz.f132.name, by decide, Tryz.func132.trans (congrArg some (by kernel_rfl))⟩,
  f73 := ⟨Tryz.f133.name, by decide, Tryz.func133.trans (congrArg some (by kernel_rfl))⟩,
  f74 := ⟨Tryz.f134.name, by decide, Tryz.func134.trans (congrArg some (by kernel_rfl))⟩,
  f75 := ⟨Tryz.f135.name, by decide, Tryz.func135.trans (congrArg some (by kernel_rfl))⟩,
  f76 := ⟨Tryz.f137.name, by decide, Tryz.func137.trans (congrArg some (by kernel_rfl))⟩,
  f77 := ⟨Tryz.f138.name, by decide, Tryz.func138.trans (congrArg some (by kernel_rfl))⟩,
  f78 := Tryz.func113.trans (congrArg some (by kernel_rfl)),
  f79 := Tryz.func114.trans (congrArg some (by kernel_rfl)),
  f88 := ⟨Tryz.f150.name, by decide, Tryz.func150.trans (congrArg some (by kernel_rfl))⟩,
  f89 := Tryz.func126.trans (congrArg some (by kernel_rfl)),
  f90 := Tryz.func127.trans (congrArg some (by kernel_rfl)),
  f91 := ⟨Tryz.f151.name, by decide, Tryz.func151.trans (congrArg some (by kernel_rfl))⟩,
  f92 := ⟨Tryz.f152.name, by decide, Tryz.func152.trans (congrArg some (by kernel_rfl))⟩,
  f96 := ⟨Tryz.f158.name, by decide, Tryz.func158.trans (congrArg some (by kernel_rfl))⟩,
  t0 := Tryz.underlying0,
  a0 := Tryz.isAgg0,
  z0 := Tryz.sizeOf0,
  v0 := Tryz.zeroValue0,
  t3 := Tryz.underlying3,
  a3 := Tryz.isAgg3,
  z3 := Tryz.sizeOf3,
  v3 := Tryz.zeroValue3,
  t4 := Tryz.underlying4,
  a4 := Tryz.isAgg4,
  z4 := Tryz.sizeOf4,
  v4 := Tryz.zeroValue4,
  t5 := Tryz.underlying5,
  a5 := Tryz.isAgg5,
  z5 := Tryz.sizeOf5,
  v5 := Tryz.zeroValue5,
  t9 := Tryz.underlying9,
  a9 := Tryz.isAgg9,
  z9 := Tryz.sizeOf9,
  v9 := Tryz.zeroValue9,
  t22 := Tryz.underlying58,
  a22 := Tryz.isAgg58,
  z22 := Tryz.sizeOf58,
  v22 := Tryz.zeroValue58,
  t23 := Tryz.underlying3,
  a23 := Tryz.isAgg3,
  z23 := Tryz.sizeOf3,
  v23 := Tryz.zeroValue3,
  t44 := Tryz.underlying118,
  a44 := Tryz.isAgg118,
  z44 := Tryz.sizeOf118,
  v44 := Tryz.zeroValue118,
  t51 := Tryz.underlying152,
  a51 := Tryz.isAgg152,
  z51 := Tryz.sizeOf152,
  v51 := Tryz.zeroValue152,
  t60 := Tryz.underlying177,
  a60 := Tryz.isAgg177,
  z60 := Tryz.sizeOf177,
  v60 := Tryz.zeroValue177,
  t61 := Tryz.underlying178,
  a61 := Tryz.isAgg178,
  z61 := Tryz.sizeOf178,
  v61 := Tryz.zeroValue178,
  t67 := Tryz.underlying184,
  a67 := Tryz.isAgg184,
  z67 := Tryz.sizeOf184,
  v67 := Tryz.zeroValue184,
  t69 := Tryz.underlying186,
  a69 := Tryz.isAgg186,
  z69 := Tryz.sizeOf186,
  v69 := Tryz.zeroValue186,
  t75 := Tryz.underlying195,
  a75 := Tryz.isAgg195,
  z75 := Tryz.sizeOf195,
  v75 := Tryz.zeroValue195,
  t79 := Tryz.underlying199,
  a79 := Tryz.isAgg199,
  z79 := Tryz.sizeOf199,
  v79 := Tryz.zeroValue199,
  t83 := Tryz.underlying214,
  a83 := Tryz.isAgg214,
  z83 := Tryz.sizeOf214,
  v83 := Tryz.zeroValue214,
  t84 := Tryz.underlying215,
  a84 := Tryz.isAgg215,
  z84 := Tryz.sizeOf215,
  v84 := Tryz.zeroValue215 }
def compactI_ren : Go.Shelf.Ren := ⟨fun | 43 => 118 | n => n, fun | 22 => 58 | 23 => 3 | 3 => 3 | 4 => 4 | 0 => 0 | n => n, fun | n => n⟩
theorem compactI : Go.Proofs.SlLaysN.n43 Tryz.prog compactI_ren := {
  mixed := by kernel_rfl,
  f43 := ⟨Tryz.f118.name, by decide, Tryz.func118.trans (congrArg some (by kernel_rfl))⟩,
  t0 := Tryz.underlying0,
  a0 := Tryz.isAgg0,
  z0 := Tryz.sizeOf0,
  v0 := Tryz.zeroValue0,
  t3 := Tryz.underlying3,
  a3 := Tryz.isAgg3,
  z3 := Tryz.sizeOf3,
  v3 := Tryz.zeroValue3,
  t4 := Tryz.underlying4,
  a4 := Tryz.isAgg4,
  z4 := Tryz.sizeOf4,
  v4 := Tryz.zeroValue4,
  t22 := Tryz.underlying58,
  a22 := Tryz.isAgg58,
  z22 := Tryz.sizeOf58,
  v22 := Tryz.zeroValue58,
  t23 := Tryz.underlying3,
  a23 := Tryz.isAgg3,
  z23 := Tryz.sizeOf3,
  v23 := Tryz.zeroValue3,
  i23 := by kernel_rfl }
end Go.Proofs.YtnacoplokjdglaaGreat

namespace Go.Proofs.YtnacoplokjdglaaGreat
open Go.RowKit Go.Maps Go.Sort Go.Shelf Go.Proofs

abbrev encI : Int → Value := Value.int .i64
theorem viC_map (l : List Int) : l.flatMap viC = l.map encI := by
  induction l with
  | nil => rfl
  | cons x l ih => simp [viC, ih]
theorem holdsI {w : World} {g : Nat} {cur : Array Value} {e : TypeId} {l : List Int} (hb : w.heap[g]? = some (.cells cur e (0, 0))) (ht : cur.toList.take l.length = l.map encI) : Holds encI w g 0 l.toArray := by
  intro j hj
  have hj' : j < l.length := by simpa using hj
  refine ⟨?_, by simp [World.frozen?, hb]⟩
  have h1 : cur[j]? = some (encI l[j]) := by
    have h2 : (cur.toList.take l.length)[j]? = (l.map encI)[j]? := by rw [ht]
    rw [List.getElem?_take_of_lt hj', List.getElem?_map, List.getElem?_eq_getElem hj', Array.getElem?_toList] at h2
    exact h2
  have h3 : (⟨g, 0 + j, none⟩ : Addr) = ⟨g, j, none⟩ := by rw [Nat.zero_add]
  rw [h3, cell_ofG hb, h1, getElem!_pos l.toArray j hj]
  simp
theorem grownI {w : World} {g n : Nat} {os : Array Obj} (d : Array Int) : w.grownBy (grow (putRow encI (Sort.ahead w n) g 0 d) os) (some g) := by
  refine ⟨rfl, rfl, rfl, by simp, fun k hk hne => ?_⟩
  have hgk : g ≠ k := fun e => hne (by rw [e])
  rw [heap_grow_old _ _ (by simpa using hk)]
  simp [putRow, mapBlock, Sort.ahead, Array.getElem?_modify, hgk]
theorem sortedI {w : World} {base g cap n : Nat} {e : TypeId} {os : Array Obj} {cur : Array Value} {l l' : List Int} (hl : l'.length = l.length) (hbase : base ≤ g) (hb : w.heap[g]? = some (.cells cur e (0, 0)))
    (h1 : l.length ≤ cap) (h2 : cap ≤ maxLen) (h3 : cur.size = cap * 1) :
    (grow (putRow encI (Sort.ahead w n) g 0 l'.toArray) os).ownsRow base e 1 (.slice (some ⟨g, 0, none⟩) l.length cap) l.length (l'.map encI) := by
  have hg : g < w.heap.size := (Array.getElem?_eq_some_iff.1 hb).1
  have hh : (grow (putRow encI (Sort.ahead w n) g 0 l'.toArray) os).heap[g]? = some (.cells (putCells encI 0 l'.toArray cur) e (0, 0)) := by
    rw [heap_grow_old _ _ (by simpa using hg)]
    simp [putRow, mapBlock, Sort.ahead, Array.getElem?_modify, hb, onCells]
  refine ⟨by simp [hl], .inr ⟨g, cap, _, rfl, hbase, hh, h1, h2, by simp [putCells, h3], ?_⟩⟩
  apply List.ext_getElem?
  intro j
  by_cases hj : j < l.length
  · rw [List.getElem?_take_of_lt (by omega), Array.getElem?_toList, List.getElem?_map, List.getElem?_eq_getElem (show j < l'.length by omega)]
    simp [putCells, show j < l'.length by omega, show j < cur.size by omega]
  · rw [List.getElem?_take_eq_none (by omega), List.getElem?_eq_none (by simp; omega)]

abbrev srt (l : List Int) : List Int := l.mergeSort fun x y => decide (x ≤ y)

set_option maxRecDepth 100000 in
set_option maxHeartbeats 2000000 in
theorem sort_call {base : Nat} (v : Value) (l : List Int) (w : World) (h : OwI base w v l) (hlen : l.length ≤ 1048576) :
    Calls Tryz.prog 90 #[v] w fun e w' => e = .returned (.tuple #[]) ∧ OwI base w' v (srt l) ∧ w.grownBy w' v.ownBlock := by
  rcases h.2 with ⟨hv, h0⟩ | ⟨g, cap, cur, rfl, hg, hb, h1, h2, h3, h4⟩
  · have hl : l = [] := List.length_eq_zero_iff.1 h0
    subst hl
    subst hv
    have hc := AnyG.slices_Sort_int_none sortI none 0 w
    change Calls Tryz.prog 90 _ _ _ at hc
    refine hc.mono ?_
    rintro e w' ⟨rfl, rfl⟩
    exact ⟨rfl, by simpa [OwI] using h, ⟨rfl, rfl, rfl, Nat.le_refl _, fun _ _ _ => rfl⟩⟩
  · have h4' : cur.toList.take l.length = l.map encI := by rw [← viC_map]; simpa using h4
    have hc := AnyG.slices_Sort_int sortI g 0 cap l w (holdsI hb h4') (Array.getElem?_eq_some_iff.1 hb).1 (by omega)
    change Calls Tryz.prog 90 _ _ _ at hc
    refine hc.mono ?_
    rintro e w' ⟨rfl, n, os, rfl⟩
    refine ⟨rfl, ?_, grownI _⟩
    have := sortedI (n := n) (os := os) (l := l) (l' := srt l) (by simp) hg hb h1 h2 h3
    unfold OwI
    rw [viC_map]
    simpa using this

theorem srt_perm (l : List Int) : (srt l).Perm l := List.mergeSort_perm _ _
theorem srt_sorted (l : List Int) : (srt l).Pairwise (fun x y => x ≤ y) := by
  have := List.pairwise_mergeSort (le := fun x y : Int => decide (x ≤ y)) (fun a b c h1 h2 => by simp at *; omega) (fun a b => by simp; omega) l
  exact this.imp (fun h => by simpa using h)

end Go.Proofs.YtnacoplokjdglaaGreat

namespace Go.Proofs.YtnacoplokjdglaaGreat
open Go.RowKit Go.Maps Go.Sort Go.Shelf Go.Proofs

theorem compactUp_spec (d : Array Int) (hs : ∀ j, j + 1 < d.size → d[j]! ≤ d[j + 1]!) : ∀ m, m + 1 ≤ d.size →
    (Lib.compactUpTo d (m + 1)).Pairwise (· < ·) ∧ (∀ x ∈ Lib.compactUpTo d (m + 1), x ≤ d[m]!) ∧ (∀ x, x ∈ Lib.compactUpTo d (m + 1) ↔ ∃ j, j < m + 1 ∧ d[j]! = x)
  | 0, _ => by
    have e : Lib.compactUpTo d (0 + 1) = [d[0]!] := by
      rw [Lib.compactUpTo_succ, if_pos (Lib.keeps_lt_one d 0 (by omega))]; simp [Lib.compactUpTo]
    rw [e]
    refine ⟨List.pairwise_singleton _ _, fun x hx => by simp at hx; omega, fun x => ?_⟩
    constructor
    · intro h; simp at h; exact ⟨0, by omega, h.symm⟩
    · rintro ⟨j, hj, rfl⟩
      obtain rfl : j = 0 := by omega
      simp
  | m + 1, hm => by
    obtain ⟨h1, h2, h3⟩ := compactUp_spec d hs m (by omega)
    have hle := hs m (by omega)
    by_cases hk : d[m + 1]! = d[m]!
    · have e : Lib.compactUpTo d (m + 1 + 1) = Lib.compactUpTo d (m + 1) := by
        rw [Lib.compactUpTo_succ, if_neg (by rw [Lib.keeps_neg (by omega) (by simpa using hk)]; simp)]; simp
      rw [e]
      refine ⟨h1, fun x hx => by rw [hk]; exact h2 x hx, fun x => ?_⟩
      rw [h3]
      constructor
      · rintro ⟨j, hj, rfl⟩; exact ⟨j, by omega, rfl⟩
      · rintro ⟨j, hj, rfl⟩
        by_cases hjm : j < m + 1
        · exact ⟨j, hjm, rfl⟩
        · obtain rfl : j = m + 1 := by omega
          exact ⟨m, by omega, hk.symm⟩
    · have e : Lib.compactUpTo d (m + 1 + 1) = Lib.compactUpTo d (m + 1) ++ [d[m + 1]!] := by
        rw [Lib.compactUpTo_succ, if_pos (Lib.keeps_pos (by simpa using hk))]
      rw [e]
      refine ⟨List.pairwise_append.2 ⟨h1, List.pairwise_singleton _ _, fun x hx y hy => ?_⟩, fun x hx => ?_, fun x => ?_⟩
      · rw [List.mem_singleton.1 hy]
        have := h2 x hx
        omega
      · rcases List.mem_append.1 hx with hx | hx
        · have := h2 x hx; omega
        · rw [List.mem_singleton.1 hx]; exact Int.le_refl _
      · rw [List.mem_append, h3, List.mem_singleton]
        constructor
        · rintro (⟨j, hj, rfl⟩ | rfl)
          · exact ⟨j, by omega, rfl⟩
          · exact ⟨m + 1, by omega, rfl⟩
        · rintro ⟨j, hj, rfl⟩
          by_cases hjm : j < m + 1
          · exact .inl ⟨j, hjm, rfl⟩
          · obtain rfl : j = m + 1 := by omega
            exact .inr rfl
/-- A rising list without its doubles: rises strictly, holds the same. -/
theorem compact_spec {l : List Int} (h : l.Pairwise (fun x y => x ≤ y)) : (Lib.compact l).Pairwise (· < ·) ∧ ∀ x, x ∈ Lib.compact l ↔ x ∈ l := by
  cases hl : l with
  | nil => subst hl; exact ⟨List.Pairwise.nil, fun x => Iff.rfl⟩
  | cons a t =>
    have hlen : l.length = t.length + 1 := by rw [hl]; rfl
    rw [← hl]
    have hg : ∀ j, j < l.length → l.toArray[j]! = l[j]! := fun j hj => by simp
    obtain ⟨h1, -, h3⟩ := compactUp_spec l.toArray (fun j hj => by
      have hj' : j + 1 < l.length := by simpa using hj
      rw [hg j (by omega), hg (j + 1) hj', getElem!_pos l j (by omega), getElem!_pos l (j + 1) hj']
      exact List.pairwise_iff_getElem.1 h j (j + 1) (by omega) hj' (by omega)) t.length (by simp; omega)
    unfold Lib.compact
    rw [hlen]
    refine ⟨h1, fun x => ?_⟩
    rw [h3]
    constructor
    · rintro ⟨j, hj, rfl⟩
      rw [hg j (by omega), getElem!_pos l j (by omega)]
      exact List.getElem_mem _
    · intro hx
      obtain ⟨j, hj, e⟩ := List.getElem_of_mem hx
      exact ⟨j, by omega, by rw [hg j hj, getElem!_pos l j hj]; exact e⟩
theorem compact_len (l : List Int) : (Lib.compact l).length ≤ l.length := by
  unfold Lib.compact Lib.compactUpTo
  rw [List.length_map]
  exact Nat.le_trans (List.length_filter_le _ _) (by simp)
/-- A row sorted, without doubles. -/
def sortC (l : List Int) : List Int := Lib.compact (srt l)
theorem sortC_mem (l : List Int) (x : Int) : x ∈ sortC l ↔ x ∈ l := by
  unfold sortC
  rw [(compact_spec (srt_sorted l)).2, (srt_perm l).mem_iff]
theorem sortC_len (l : List Int) : (sortC l).length ≤ l.length := by
  unfold sortC
  have := compact_len (srt l)
  rw [(srt_perm l).length_eq] at this
  exact this

set_option maxRecDepth 100000 in
set_option maxHeartbeats 2000000 in
theorem compact_call {base : Nat} (v : Value) (l : List Int) (w : World) (h : OwI base w v l) (hlen : l.length ≤ 1048576) :
    Calls Tryz.prog 118 #[v] w fun e w' => ∃ v', e = .returned v' ∧ OwI base w' v' (Lib.compact l) ∧ w.grownBy w' v.ownBlock ∧ v'.ownBlock = v.ownBlock := by
  rcases h.2 with ⟨hv, h0⟩ | ⟨g, cap, cur, rfl, hg, hb, h1, h2, h3, h4⟩
  · have hl : l = [] := List.length_eq_zero_iff.1 h0
    subst hl
    subst hv
    have hc := AnyG.slices_Compact_int_empty compactI none 0 w
    change Calls Tryz.prog 118 _ _ _ at hc
    refine hc.mono ?_
    rintro e w' ⟨rfl, rfl⟩
    exact ⟨_, rfl, by simpa [OwI, Lib.compact, Lib.compactUpTo] using h, ⟨rfl, rfl, rfl, Nat.le_refl _, fun _ _ _ => rfl⟩, rfl⟩
  · have h4' : cur.toList.take l.length = l.map encI := by rw [← viC_map]; simpa using h4
    have hc := AnyG.slices_Compact_int compactI g 0 cap l w (holdsI hb h4') (by omega) h1
    change Calls Tryz.prog 118 _ _ _ at hc
    refine hc.mono ?_
    rintro e w' ⟨rfl, q, rfl⟩
    have hcl := compact_len l
    have hgl : g < w.heap.size := (Array.getElem?_eq_some_iff.1 hb).1
    have hgr := grownI (w := w) (g := g) (n := q) (os := #[]) (Lib.compact l ++ List.replicate (l.length - (Lib.compact l).length) 0).toArray
    rw [grow_empty] at hgr
    have hsl : (Lib.compact l ++ List.replicate (l.length - (Lib.compact l).length) 0).length = l.length := by simp; omega
    have hrow := sortedI (n := q) (os := #[]) (l := l) (l' := Lib.compact l ++ List.replicate (l.length - (Lib.compact l).length) 0) (base := base) hsl hg hb h1 h2 h3
    rw [grow_empty] at hrow
    refine ⟨_, rfl, ?_, hgr, rfl⟩
    unfold OwI
    rw [viC_map]
    rcases hrow.2 with ⟨hv, -⟩ | ⟨g', cap', cur', hv, hg', hb', h1', h2', h3', h4''⟩
    · cases hv
    · simp only [Value.slice.injEq, Option.some.injEq, Addr.mk.injEq, and_true, true_and] at hv
      obtain ⟨rfl, rfl⟩ := hv
      refine ⟨by simp, .inr ⟨g, cap, cur', rfl, hg', hb', by omega, h2', h3', ?_⟩⟩
      have := congrArg (List.take (Lib.compact l).length) h4''
      rw [List.take_take, List.map_append, List.take_left' (by simp)] at this
      rw [Nat.min_eq_left (by omega)] at this
      simpa using this
end Go.Proofs.YtnacoplokjdglaaGreat
