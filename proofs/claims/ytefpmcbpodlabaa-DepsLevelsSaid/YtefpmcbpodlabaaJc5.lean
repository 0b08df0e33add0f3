/- Texts of one proof, one behind the other: OfMem, SureEq, Fact, DpEdge, Maps2, GdMvData, GdMvIter, GdMvApp. -/
import Derived.Test.YtefpmcbpodlabaaJc4
import Derived.Test.YtefpmcbpodlabaaJc3
import Derived.Test.YtefpmcbpodlabaaJc1
import Derived.Maps.Keyed
import Derived.RangeFuncNested
import Derived.RangeFuncBound
import Derived.RangeFuncCalls
import Derived.RangeFuncLeaves
import Derived.RangeFuncBox
import Derived.Shelf.Abstract
import Derived.Shelf.RegionOpen
import Derived.OwnWalkIn
import Derived.TacticsInMore
import Derived.LoopNIn
import Derived.LoopIn
import Derived.Test.YtefpmcbpodlabaaJc2
set_option linter.all false
/- What crucibleref05.Of keeps of memory and of the history. Names no function. -/
namespace Go.Proofs.Ytefpmcbpodlabaa
open Go.RowKit Go.Maps

abbrev TxL := List (GTxn × Value)
def txV (p : GTxn × Value) : List Value := [vi p.1.client, vi p.1.state, p.2]
theorem txV_length (p : GTxn × Value) : (txV p).length = 3 := rfl
theorem Try.infoTxn : (Try.prog.info? 46).map (fun i => (i.zero, i.size, i.bytes)) = some (some (.agg #[vi 0, vi 0, .slice none 0 0]), 3, 40) := by kernel_rfl
theorem eltTxn : Elt Try.prog 33 46 3 40 (.agg #[vi 0, vi 0, .slice none 0 0]) := by
  obtain ⟨i0, hi, hz0, hz1, hz2⟩ := info_parts Try.infoTxn
  exact ⟨Try.underlying33, by decide, rfl, i0, hi, hz0, hz1, hz2⟩
theorem Try.infoInt : (Try.prog.info? 3).map (fun i => (i.zero, i.size, i.bytes)) = some (some (vi 0), 1, 8) := by kernel_rfl
theorem eltInt : Elt Try.prog 32 3 1 8 (vi 0) := by
  obtain ⟨i0, hi, hz0, hz1, hz2⟩ := info_parts Try.infoInt
  exact ⟨Try.underlying32, by decide, rfl, i0, hi, hz0, hz1, hz2⟩

/-- Rows of two kinds lie in two blocks. -/
theorem rows_apart {w : World} {b b' e e' m m' n n' : Nat} {v v' : Value} {xs xs' : List Value} (h : w.ownsRow b e m v n xs) (h' : w.ownsRow b' e' m' v' n' xs') (he : e ≠ e') : v'.ownBlock = none ∨ v'.ownBlock ≠ v.ownBlock := by
  rcases h'.2 with ⟨hv', _⟩ | ⟨g', cap', cur', hv', _, hh', _⟩
  · left; rw [hv']; rfl
  · right
    rcases h.2 with ⟨hv, _⟩ | ⟨g, cap, cur, hv, _, hh, _⟩
    · rw [hv, hv']; simp [Value.ownBlock]
    · rw [hv, hv']
      intro e1
      have : g' = g := by simpa [Value.ownBlock] using e1
      subst this
      rw [hh] at hh'
      simp at hh'
      exact he hh'.2

/-- A block of another kind stays while an owned row is written. -/
theorem own_box {A B : World} {b n m bx : Nat} {e T : TypeId} {v : Value} {xs : List Value} {cs : Array Value} (h : A.ownsRow b e n v m xs) (hbx : A.heap[bx]? = some (.cells cs T)) (hT : T ≠ e) (hg : A.grownBy B v.ownBlock) : B.heap[bx]? = some (.cells cs T) := by
  rw [hg.block bx (Array.getElem?_eq_some_iff.1 hbx).1, hbx]
  intro hc
  rcases h.2 with ⟨hv, _⟩ | ⟨g, cap, cur, hv, _, hh, _⟩
  · rw [hv] at hc; simp [Value.ownBlock] at hc
  · rw [hv] at hc
    have : bx = g := by simpa [Value.ownBlock] using hc
    subst this
    rw [hbx] at hh
    simp at hh
    exact hT hh.2

structure OfS (w : World) (vo vf : Value) (L : TxL) (F : List Nat) (W : World) : Prop where
  out : W.ownsRow w.heap.size 46 3 vo L.length (L.flatMap txV)
  ops : ∀ p ∈ L, OwOps w.heap.size W p.2 p.1.ops
  frm : W.ownsRow w.heap.size 3 1 vf F.length (F.map (fun n : Nat => vi (n : Int)))
  below : Below w.heap.size w W
theorem OfS.later {w A B : World} {vo vf : Value} {L : TxL} {F : List Nat} (h : OfS w vo vf L F A) (hb : Below A.heap.size A B) : OfS w vo vf L F B :=
  ⟨own_below h.out hb, fun p hp => own_below (h.ops p hp) hb, own_below h.frm hb, h.below.trans (hb.mono h.below.size)⟩
theorem OfS.more {w A : World} {vo vf : Value} {L : TxL} {F : List Nat} (h : OfS w vo vf L F A) (o : Obj) : OfS w vo vf L F (A.alloc o) := h.later ((Below.refl _ _).alloc (Nat.le_refl _) _)
/-- The transactions are written; those that stand there now have their operations in memory that was there. -/
theorem OfS.wrote {w A B : World} {vo vo' vf : Value} {L L' : TxL} {F : List Nat} (h : OfS w vo vf L F A) (hg : A.grownBy B vo.ownBlock) (ho : B.ownsRow w.heap.size 46 3 vo' L'.length (L'.flatMap txV)) (hops : ∀ p ∈ L', OwOps w.heap.size A p.2 p.1.ops) : OfS w vo' vf L' F B :=
  ⟨ho, fun p hp => World.ownsRow.kept (hops p hp) hg (rows_apart h.out (hops p hp) (by decide)), World.ownsRow.kept h.frm hg (rows_apart h.out h.frm (by decide)), h.below.grown hg h.below.size (fun j hj => (World.ownsRow.lt h.out j hj).1)⟩
theorem OfS.from' {w A B : World} {vo vf vf' : Value} {L : TxL} {F F' : List Nat} (h : OfS w vo vf L F A) (hg : A.grownBy B vf.ownBlock) (ho : B.ownsRow w.heap.size 3 1 vf' F'.length (F'.map (fun n : Nat => vi (n : Int)))) : OfS w vo vf' L F' B :=
  ⟨World.ownsRow.kept h.out hg (rows_apart h.frm h.out (by decide)), fun p hp => World.ownsRow.kept (h.ops p hp) hg (rows_apart h.frm (h.ops p hp) (by decide)), ho, h.below.grown hg h.below.size (fun j hj => (World.ownsRow.lt h.frm j hj).1)⟩

theorem OfS.rd {w A : World} {vo vf : Value} {L : TxL} {F : List Nat} (h : OfS w vo vf L F A) : RdTxns A vo (L.map (·.1)) := by
  obtain ⟨a, len, cap, h1, h2, h3, h4, h5, h6⟩ := rds_of_own (V := txV) txV_length h.out
  refine ⟨a, len, cap, h1, by simpa using h2, by simpa using h3, h4, h5, fun j x hj => ?_⟩
  rw [List.getElem?_map, Option.map_eq_some_iff] at hj
  obtain ⟨p, hp, rfl⟩ := hj
  obtain ⟨b, off, cs, ha, hl, hc, rfl⟩ := h6 j p hp
  exact ⟨b, off, _, ha, hl, hc, p.2, rfl, (h.ops p (List.mem_of_getElem? hp)).rd⟩

/-- What is known of the transactions that were made of the events ahead of place i. -/
structure OfInv (es : List GEvent) (i : Nat) (L : List GTxn) (F : List Nat) : Prop where
  len : L.length = F.length
  le : F.length ≤ i
  ev : ∀ (j : Nat) (e : GEvent), j < i → es[j]? = some e → GoodEv e ∧ (e.kind = 1 → FreshN es e.ops j e.ops.length)
  lt : ∀ f ∈ F, f < i
  inj : ∀ (a b f : Nat), F[a]? = some f → F[b]? = some f → a = b
  txn : ∀ (j : Nat) (t : GTxn) (f : Nat), L[j]? = some t → F[j]? = some f → (0 ≤ t.state ∧ t.state ≤ 2) ∧ (∀ o ∈ t.ops, GoodOp o) ∧ t.ops.length ≤ 12 ∧ ∃ e, es[f]? = some e ∧ e.kind = 1 ∧ e.ops.length = t.ops.length ∧ ShapeN e.ops t.ops t.ops.length

theorem shapeN_refl (l : List GOp) (n : Nat) : ShapeN l l n := fun i o p _ ho hp => by rw [ho] at hp; cases hp; exact ⟨rfl, rfl, fun _ => rfl⟩

theorem OfInv.start (es : List GEvent) : OfInv es 0 [] [] := ⟨rfl, Nat.le_refl _, fun j e h => absurd h (Nat.not_lt_zero _), (fun f h => by cases h), (fun a b f h => by simp at h), (fun j t f h => by simp at h)⟩
/-- An event that begins nothing. -/
theorem OfInv.over {es : List GEvent} {i : Nat} {L : List GTxn} {F : List Nat} {e : GEvent} (h : OfInv es i L F) (he : es[i]? = some e) (hg : GoodEv e) (hk : e.kind = 1 → FreshN es e.ops i e.ops.length) : OfInv es (i + 1) L F := by
  refine ⟨h.len, by have := h.le; omega, fun j e' hj he' => ?_, fun f hf => by have := h.lt f hf; omega, h.inj, h.txn⟩
  rcases Nat.lt_or_ge j i with h' | h'
  · exact h.ev j e' h' he'
  · obtain rfl : j = i := by omega
    rw [he] at he'; cases he'
    exact ⟨hg, hk⟩
/-- An event that begins a transaction. -/
theorem OfInv.begun {es : List GEvent} {i : Nat} {L : List GTxn} {F : List Nat} {e : GEvent} (h : OfInv es i L F) (he : es[i]? = some e) (hg : GoodEv e) (h1 : e.kind = 1) (hk : FreshN es e.ops i e.ops.length) : OfInv es (i + 1) (L ++ [⟨e.client, 0, e.ops⟩]) (F ++ [i]) := by
  have h0 := h.over he hg (fun _ => hk)
  refine ⟨by simp [h.len], by have := h.le; simp; omega, h0.ev, ?_, ?_, ?_⟩
  · intro f hf
    rw [List.mem_append] at hf
    rcases hf with hf | hf
    · exact h0.lt f hf
    · simp at hf; omega
  · intro a b f ha hb
    rw [List.getElem?_append] at ha hb
    split at ha <;> split at hb
    · exact h.inj a b f ha hb
    · have := h.lt f (List.mem_of_getElem? ha)
      have := List.mem_of_getElem? hb
      simp at this; omega
    · have := h.lt f (List.mem_of_getElem? hb)
      have := List.mem_of_getElem? ha
      simp at this; omega
    · have ha' := (List.getElem?_eq_some_iff.1 ha).1
      have hb' := (List.getElem?_eq_some_iff.1 hb).1
      simp at ha' hb'; omega
  · intro j t f ht hf
    have hl := h.len
    rw [List.getElem?_append] at ht hf
    split at ht <;> split at hf
    · exact h.txn j t f ht hf
    · omega
    · omega
    · have hj' := (List.getElem?_eq_some_iff.1 ht).1
      have hj2 : j - L.length = 0 := by simp at hj'; omega
      rw [hj2] at ht
      rw [show j - F.length = 0 by omega] at hf
      simp at ht hf
      subst ht; subst hf
      exact ⟨⟨Int.le_refl _, by show (0 : Int) ≤ 2; decide⟩, hg.ops, hg.len, e, he, h1, rfl, shapeN_refl _ _⟩
/-- A transaction is written anew. -/
theorem OfInv.set {es : List GEvent} {i k f : Nat} {L : List GTxn} {F : List Nat} {t' : GTxn} {e : GEvent} (h : OfInv es i L F) (hf : F[k]? = some f) (hs : 0 ≤ t'.state ∧ t'.state ≤ 2) (ho : ∀ o ∈ t'.ops, GoodOp o) (hl : t'.ops.length ≤ 12) (he : es[f]? = some e) (h1 : e.kind = 1) (hlen : e.ops.length = t'.ops.length) (hsh : ShapeN e.ops t'.ops t'.ops.length) : OfInv es i (L.set k t') F := by
  refine ⟨by simp [h.len], h.le, h.ev, h.lt, h.inj, fun j t f' ht hf' => ?_⟩
  rw [List.getElem?_set] at ht
  split at ht
  · subst_vars
    rw [hf] at hf'; cases hf'
    split at ht
    · simp at ht; subst ht; exact ⟨hs, ho, hl, e, he, h1, hlen, hsh⟩
    · simp at ht
  · exact h.txn j t f' ht hf'

/-- Each written value belongs to one transaction. -/
def Uniq (ts : List GTxn) : Prop := ∀ (i j : Nat) (t u : GTxn), ts[i]? = some t → ts[j]? = some u → ∀ o ∈ t.ops, ∀ p ∈ u.ops, o.kind = 2 → p.kind = 2 → o.val = p.val → i = j
/-- What is known of a history's transactions. -/
structure GoodTs (ts : List GTxn) : Prop where
  len : ts.length ≤ 60
  txn : ∀ t ∈ ts, (0 ≤ t.state ∧ t.state ≤ 2) ∧ (∀ o ∈ t.ops, GoodOp o) ∧ t.ops.length ≤ 12
  uniq : Uniq ts
theorem OfInv.good {es : List GEvent} {i : Nat} {L : List GTxn} {F : List Nat} (h : OfInv es i L F) (hi : i ≤ 60) : GoodTs L := by
  have hl := h.len
  have hle := h.le
  have key : ∀ (a b fa fb : Nat) (t u : GTxn) (o p : GOp), L[a]? = some t → L[b]? = some u → F[a]? = some fa → F[b]? = some fb → o ∈ t.ops → p ∈ u.ops → o.kind = 2 → p.kind = 2 → o.val = p.val → ¬ fa < fb := by
    intro a b fa fb t u o p ha hb hfa hfb ho hp ho2 hp2 hv hlt
    obtain ⟨-, -, -, ea, hea, ha1, hal, has⟩ := h.txn a t fa ha hfa
    obtain ⟨-, -, -, eb, heb, hb1, hbl, hbs⟩ := h.txn b u fb hb hfb
    obtain ⟨x, hx⟩ := List.mem_iff_getElem?.1 ho
    obtain ⟨y, hy⟩ := List.mem_iff_getElem?.1 hp
    have hx1 := (List.getElem?_eq_some_iff.1 hx).1
    have hy1 := (List.getElem?_eq_some_iff.1 hy).1
    obtain ⟨o', ho'⟩ := some_at (l := ea.ops) (k := x) (by omega)
    obtain ⟨p', hp'⟩ := some_at (l := eb.ops) (k := y) (by omega)
    obtain ⟨q1, -, q3⟩ := has x o o' hx1 hx ho'
    obtain ⟨r1, -, r3⟩ := hbs y p p' hy1 hy hp'
    have hfr := (h.ev fb eb (h.lt fb (List.mem_of_getElem? hfb)) heb).2 hb1
    have := hfr y p' (by omega) hp' (by rw [← r1]; exact hp2) fa ea x o' (by omega) hea ha1 ho' (.inl hlt) (by rw [← q1]; exact ho2)
    exact this (by rw [← q3 ho2, ← r3 hp2]; exact hv)
  refine ⟨by omega, fun t ht => ?_, ?_⟩
  · obtain ⟨j, hj⟩ := List.mem_iff_getElem?.1 ht
    have hj1 := (List.getElem?_eq_some_iff.1 hj).1
    obtain ⟨f, hf⟩ := some_at (l := F) (k := j) (by omega)
    obtain ⟨h1, h2, h3, -⟩ := h.txn j t f hj hf
    exact ⟨h1, h2, h3⟩
  · intro a b t u ha hb o ho p hp ho2 hp2 hv
    have ha1 := (List.getElem?_eq_some_iff.1 ha).1
    have hb1 := (List.getElem?_eq_some_iff.1 hb).1
    obtain ⟨fa, hfa⟩ := some_at (l := F) (k := a) (by omega)
    obtain ⟨fb, hfb⟩ := some_at (l := F) (k := b) (by omega)
    have k1 := key a b fa fb t u o p ha hb hfa hfb ho hp ho2 hp2 hv
    have k2 := key b a fb fa u t p o hb ha hfb hfa hp ho hp2 ho2 hv.symm
    obtain rfl : fa = fb := by omega
    exact h.inj a b fa hfa hfb
theorem GoodTs.ok {ts : List GTxn} (h : GoodTs ts) : OkTxns ts := by
  refine ⟨by have := h.len; omega, fun t ht => ?_⟩
  obtain ⟨-, h2, h3⟩ := h.txn t ht
  refine ⟨fun o ho => ?_, by omega⟩
  have g := h2 o ho
  have := g.kind; have := g.key0; have := g.key1; have := g.val0; have := g.val1
  unfold i64
  omega
end Go.Proofs.Ytefpmcbpodlabaa

/- flaws.Sure and its reference say the same of transactions whose written values are all different. Names no function. -/
namespace Go.Proofs.Ytefpmcbpodlabaa
open Go.RowKit Go.Maps

theorem foldBy_any (n : Nat) (key val : Int) : ∀ (l : List GOp) (L : ByL), getM (l.foldl (stepBy n) L) (key, val) = if l.any (wroteB key val) then some (n : Int) else getM L (key, val) := by
  intro l
  induction l with
  | nil => intro L; rfl
  | cons o l ih =>
    intro L
    rw [List.foldl_cons, ih, List.any_cons]
    cases h1 : l.any (wroteB key val)
    · simp only [Bool.or_false, Bool.false_eq_true, if_false]
      unfold stepBy wroteB
      by_cases hk : o.kind = 2
      · rw [if_pos hk, getM_put]
        by_cases h2 : o.key = key <;> by_cases h3 : o.val = val <;> simp [hk, h2, h3]
      · simp [hk]
    · simp

theorem byN_none {ts : List GTxn} {key val : Int} : ∀ n, n ≤ ts.length → (∀ (j : Nat) (u : GTxn), j < n → ts[j]? = some u → u.ops.any (wroteB key val) = false) → getM (byN ts n) (key, val) = none := by
  intro n
  induction n with
  | zero => intro _ _; rfl
  | succ n ih =>
    intro hn h
    obtain ⟨t, ht⟩ := some_at hn
    rw [byN_succ ht, foldBy_any, h n t (by omega) ht]
    exact ih (by omega) fun j u hj hu => h j u (by omega) hu
theorem byN_one {ts : List GTxn} {key val : Int} {i : Nat} {t : GTxn} (ht : ts[i]? = some t) (hh : t.ops.any (wroteB key val) = true) :
    ∀ n, n ≤ ts.length → i < n → (∀ (j : Nat) (u : GTxn), j ≠ i → ts[j]? = some u → u.ops.any (wroteB key val) = false) → getM (byN ts n) (key, val) = some (i : Int) := by
  intro n
  induction n with
  | zero => intro _ h; omega
  | succ n ih =>
    intro hn hi h
    obtain ⟨u, hu⟩ := some_at hn
    rw [byN_succ hu, foldBy_any]
    by_cases he : n = i
    · subst he
      rw [ht] at hu; cases hu
      rw [hh]; rfl
    · rw [h n u he hu]
      exact ih (by omega) (by omega) h

theorem wrote_val {key val : Int} {l : List GOp} (h : l.any (wroteB key val) = true) : ∃ o ∈ l, o.kind = 2 ∧ o.val = val := by
  rw [List.any_eq_true] at h
  obtain ⟨o, ho, hh⟩ := h
  simp [wroteB] at hh
  exact ⟨o, ho, hh.1.1, hh.2⟩

/-- Both ways to name who wrote a value to a key. -/
theorem by_writer {ts : List GTxn} (hu : Uniq ts) (key val : Int) : (getM (byN ts ts.length) (key, val) = none ∧ writerM ts key val = -1) ∨ ∃ (i : Nat) (t : GTxn), ts[i]? = some t ∧ getM (byN ts ts.length) (key, val) = some (i : Int) ∧ writerM ts key val = i := by
  by_cases h : ∃ (i : Nat) (t : GTxn), ts[i]? = some t ∧ t.ops.any (wroteB key val) = true
  · obtain ⟨i, t, ht, hh⟩ := h
    have hno : ∀ (j : Nat) (u : GTxn), j ≠ i → ts[j]? = some u → u.ops.any (wroteB key val) = false := by
      intro j u hj hju
      cases hc : u.ops.any (wroteB key val) with
      | false => rfl
      | true =>
        obtain ⟨o, ho, hk, hv⟩ := wrote_val hh
        obtain ⟨p, hp, hk', hv'⟩ := wrote_val hc
        exact absurd (hu j i u t hju ht p hp o ho hk' hk (by rw [hv, hv'])) hj
    have hlt := (List.getElem?_eq_some_iff.1 ht).1
    exact .inr ⟨i, t, ht, byN_one ht hh _ (Nat.le_refl _) hlt hno, writerM_at ht hh fun j u hj hju => hno j u (by omega) hju⟩
  · have hno : ∀ (j : Nat) (u : GTxn), ts[j]? = some u → u.ops.any (wroteB key val) = false := by
      intro j u hju
      cases hc : u.ops.any (wroteB key val) with
      | false => rfl
      | true => exact absurd ⟨j, u, hju, hc⟩ h
    exact .inl ⟨byN_none _ (Nat.le_refl _) fun j u _ hju => hno j u hju, writerM_none hno⟩

theorem getB_set (L : List Bool) (j i : Nat) (b : Bool) (hi : i < L.length) : ((L.set j b)[i]?).getD false = if j = i then b else (L[i]?).getD false := by
  rw [List.getElem?_set]
  by_cases h : j = i
  · subst h; simp [hi]
  · simp [h]

theorem sureR_at {ts : List GTxn} (hu : Uniq ts) (L : List Bool) (o : GOp) (i : Nat) (hi : i < L.length) (_hl : L.length = ts.length) :
    ((sureR (byN ts ts.length) ts L o)[i]?).getD false = ((L[i]?).getD false || hitS ts (stOf ts i) i o) := by
  unfold sureR hitS
  rcases by_writer hu o.key o.val with ⟨h1, h2⟩ | ⟨j, t, hj, h1, h2⟩
  · rw [h1, h2]
    have : ((-1 : Int) == (i : Int)) = false := by rw [beq_eq_false_iff_ne]; omega
    simp [this]
  · rw [h1, h2]
    simp only [Int.toNat_natCast, hj, Option.map_some]
    by_cases hji : j = i
    · subst hji
      have hst : stOf ts j = t.state := by simp [stOf, hj]
      rw [hst]
      by_cases hv : o.val = 0 <;> by_cases hs : t.state = 0
      · simp [hv]
      · simp [hv]
      · rw [if_pos ⟨hv, by rw [hs]⟩, getB_set _ _ _ _ hi]; simp [hv, hs]
      · rw [if_neg (fun h => hs (by simpa using h.2))]; simp [hs]
    · have : ((j : Int) == (i : Int)) = false := by rw [beq_eq_false_iff_ne]; omega
      rw [this, Bool.and_false, Bool.or_false]
      split
      · rw [getB_set _ _ _ _ hi, if_neg hji]
      · rfl

theorem foldR_at {ts : List GTxn} (hu : Uniq ts) (i : Nat) : ∀ (l : List GOp) (L : List Bool), i < L.length → L.length = ts.length →
    ((l.foldl (sureR (byN ts ts.length) ts) L)[i]?).getD false = ((L[i]?).getD false || l.any (hitS ts (stOf ts i) i)) := by
  intro l
  induction l with
  | nil => intro L _ _; simp
  | cons o l ih =>
    intro L hi hl
    rw [List.foldl_cons, ih _ (by rw [sureR_length]; exact hi) (by rw [sureR_length]; exact hl), sureR_at hu L o i hi hl, List.any_cons, Bool.or_assoc]

theorem sureN_at {ts : List GTxn} (hu : Uniq ts) (i : Nat) (hi : i < ts.length) : ∀ n, n ≤ ts.length →
    ((sureN ts n)[i]?).getD false = ((decide (i < n) && stOf ts i == 1) || (ts.take n).any (hitT ts (stOf ts i) i)) := by
  intro n
  induction n with
  | zero => intro _; simp [sureN, hi]
  | succ n ih =>
    intro hn
    obtain ⟨t, ht⟩ := some_at hn
    have hl := sureN_length ts n (by omega)
    rw [sureN_succ ht]; unfold sureT
    rw [foldR_at hu i _ _ (by rw [List.length_set, hl]; exact hi) (by rw [List.length_set, hl]), getB_set _ _ _ _ (by rw [hl]; exact hi), take_at ht, List.any_append]
    simp only [List.any_cons, List.any_nil, Bool.or_false]
    rw [show (readsM t).any (hitS ts (stOf ts i) i) = hitT ts (stOf ts i) i t from rfl, ← Bool.or_assoc]
    congr 1
    by_cases h : n = i
    · subst h
      rw [if_pos rfl, ih (by omega)]
      have hst : stOf ts n = t.state := by simp [stOf, ht]
      simp only [hst, Nat.lt_irrefl, decide_false, Bool.false_and, Bool.false_or, Nat.lt_succ_self, decide_true, Bool.true_and]
      exact Bool.or_comm _ _
    · rw [if_neg h, ih (by omega)]
      have : decide (i < n) = decide (i < n + 1) := by rw [decide_eq_decide]; omega
      rw [this]

/-- Both ways to say who must have been done. -/
theorem sure_eq {ts : List GTxn} (hu : Uniq ts) : sureM ts = refSureN ts ts.length := by
  apply List.ext_getElem?
  intro i
  by_cases hi : i < ts.length
  · have h1 := sureN_at hu i hi ts.length (Nat.le_refl _)
    have hl : i < (sureM ts).length := by rw [sureM_length]; exact hi
    have hl2 : i < (refSureN ts ts.length).length := by rw [refSureN_length]; exact hi
    rw [List.getElem?_eq_getElem hl, List.getElem?_eq_getElem hl2]
    have h2 : (sureN ts ts.length)[i]? = some (sureM ts)[i] := List.getElem?_eq_getElem hl
    rw [h2] at h1
    simp only [Option.getD_some, List.take_length, hi, decide_true, Bool.true_and] at h1
    rw [h1]
    simp [refSureN, refSure1]
  · rw [List.getElem?_eq_none (by rw [sureM_length]; omega), List.getElem?_eq_none (by rw [refSureN_length]; omega)]

theorem choices_eq {ts : List GTxn} (hu : Uniq ts) : choicesM ts = refChoicesM ts := by unfold choicesM refChoicesM; rw [sure_eq hu]
end Go.Proofs.Ytefpmcbpodlabaa

/- Facts: choices with what is said of them, as a map and as a list. Names no function. -/
namespace Go.Proofs.Ytefpmcbpodlabaa
open Go.RowKit Go.Maps

deriving instance DecidableEq for GChoice

theorem choiceKeyed : Keyed Try.prog 57 := Keyed.of_law (deep_law_laid laidOutP (m := 2) (by omega) (of_decide_eq_true (by kernel_rfl)) (by kernel_rfl) (by rw [Try.underlying57]))

abbrev chK (c : GChoice) : Value := .agg #[vi c.kind, vi c.key, vi c.a, vi c.b]
theorem chK_inj (x y : GChoice) (h : chK x = chK y) : x = y := by
  obtain ⟨a, b, c, d⟩ := x; obtain ⟨a', b', c', d'⟩ := y
  simp [chK] at h; obtain ⟨rfl, rfl, rfl, rfl⟩ := h; rfl
def SmallCh (c : GChoice) : Prop := i64 c.kind ∧ i64 c.key ∧ i64 c.a ∧ i64 c.b

theorem choiceLits {c : GChoice} (h : SmallCh c) (d : Nat) : Try.prog.keyLits (d + 1 + 1) 57 [vi c.kind, vi c.key, vi c.a, vi c.b] = some [.int .i64 c.kind, .int .i64 c.key, .int .i64 c.a, .int .i64 c.b] := by
  have hc : Try.prog.cellsOf 57 = 4 := by kernel_rfl
  have hi : Try.prog.cellsOf 3 = 1 := by kernel_rfl
  obtain ⟨h1, h2, h3, h4⟩ := h
  unfold Program.keyLits
  rw [Try.underlying57]
  simp [hc, hi, lit_int h1, lit_int h2, lit_int h3, lit_int h4]
theorem choiceKey {c : GChoice} (h : SmallCh c) : ∃ kl, keyOf Try.prog 57 (chK c) = some kl := by
  have hk : Try.prog.keyType 57 = true := by kernel_rfl
  have hc : Try.prog.cellsOf 57 = 4 := by kernel_rfl
  obtain ⟨d, hd⟩ : ∃ d, Try.prog.types.size = d + 1 := ⟨Try.prog.types.size - 1, by have : 0 < Try.prog.types.size := of_decide_eq_true (by kernel_rfl); omega⟩
  have hf : (chK c).formed Try.prog 57 = true := by simp [Value.formed, Try.underlying57, hc]
  have hl := choiceLits h d
  unfold keyOf
  rw [Try.underlying57, hd]
  simp [hk, hf, Value.cells, hl]

abbrev FaL := List (GChoice × Bool)
abbrev MapF (w : World) (b : Nat) (L : FaL) : Prop := MapT Try.prog 57 chK Value.bool w b L
def saidV (p : GChoice × Bool) : List Value := [vi p.1.kind, vi p.1.key, vi p.1.a, vi p.1.b, .bool p.2]
theorem saidV_length (p : GChoice × Bool) : (saidV p).length = 5 := rfl
theorem saidV_one (p : GChoice × Bool) : ∀ u ∈ saidV p, u.oneCell' = true := by
  intro u hu; simp [saidV] at hu; rcases hu with rfl | rfl | rfl | rfl | rfl <;> rfl
abbrev RdSaid (w : World) (v : Value) (G : FaL) : Prop := RdS 5 (fun _ cs x => cs = saidV x) w v G
def OwSaid (base : Nat) (w : World) (v : Value) (G : FaL) : Prop := w.ownsRow base 87 5 v G.length (G.flatMap saidV)
theorem OwSaid.rd {base : Nat} {w : World} {v : Value} {G : FaL} (h : OwSaid base w v G) : RdSaid w v G := rds_of_own saidV_length h
theorem RdSaid.later {w w' : World} {v : Value} {G : FaL} (h : RdSaid w v G) (hb : Below w.heap.size w w') : RdSaid w' v G := RdS.below h hb fun _ _ h => h
theorem RdSaid.at {w : World} {v : Value} {l : FaL} (h : RdSaid w v l) : ∃ a len cap, v = .slice a len cap ∧ len = l.length ∧ l.length ≤ 9223372036854775807 ∧
    ∀ j x, l[j]? = some x → ∃ b off, a = some ⟨b, off, none⟩ ∧ w.cell? ⟨b, off + j * 5, none⟩ = some (vi x.1.kind) ∧ w.cell? ⟨b, off + j * 5 + 1, none⟩ = some (vi x.1.key) ∧ w.cell? ⟨b, off + j * 5 + 2, none⟩ = some (vi x.1.a) ∧ w.cell? ⟨b, off + j * 5 + 3, none⟩ = some (vi x.1.b) ∧ w.cell? ⟨b, off + j * 5 + 4, none⟩ = some (.bool x.2) := by
  obtain ⟨a, len, cap, h1, h2, h3, h4, h5, h6⟩ := h
  refine ⟨a, len, cap, h1, h2, h3, fun j x hj => ?_⟩
  obtain ⟨b, off, cs, ha, hl, hc, rfl⟩ := h6 j x hj
  exact ⟨b, off, ha, by simpa using hc 0 _ rfl, by simpa [Nat.add_assoc] using hc 1 _ rfl, by simpa [Nat.add_assoc] using hc 2 _ rfl, by simpa [Nat.add_assoc] using hc 3 _ rfl, by simpa [Nat.add_assoc] using hc 4 _ rfl⟩
theorem Try.infoSaid : (Try.prog.info? 87).map (fun i => (i.zero, i.size, i.bytes)) = some (some (.agg #[vi 0, vi 0, vi 0, vi 0, .bool false]), 5, 40) := by kernel_rfl
theorem eltSaid : Elt Try.prog 38 87 5 40 (.agg #[vi 0, vi 0, vi 0, vi 0, .bool false]) := by
  obtain ⟨i0, hi, hz0, hz1, hz2⟩ := info_parts Try.infoSaid
  exact ⟨Try.underlying38, by decide, rfl, i0, hi, hz0, hz1, hz2⟩

/-- What crucibleref09.Get says. -/
def getI (G : FaL) (c : GChoice) : Int := match getM G c with
  | some true => 1
  | some false => 0
  | none => -1
theorem getI_one (G : FaL) (c : GChoice) : (getI G c == 1) = (getM G c).getD false := by unfold getI; cases getM G c with | none => rfl | some b => cases b <;> rfl
theorem getI_some (G : FaL) (c : GChoice) : decide (0 ≤ getI G c) = (getM G c).isSome := by unfold getI; cases getM G c with | none => rfl | some b => cases b <;> rfl
theorem getI_bound (G : FaL) (c : GChoice) : -1 ≤ getI G c ∧ getI G c ≤ 1 := by unfold getI; cases getM G c with | none => exact ⟨by decide, by decide⟩ | some b => cases b <;> exact ⟨by decide, by decide⟩

/-- What a choice of a history looks like. -/
structure OkCh (n : Nat) (c : GChoice) : Prop where
  key : 0 ≤ c.key ∧ c.key < 16
  a : 0 ≤ c.a ∧ c.a < n
  b : 0 ≤ c.b ∧ c.b < n
  kind : c.kind = 1 ∧ c.key = 0 ∧ c.b = 0 ∨ c.kind = 2 ∧ c.a < c.b
theorem OkCh.small {n : Nat} {c : GChoice} (h : OkCh n c) (hn : n ≤ 4096) : SmallCh c := by
  have := h.key; have := h.a; have := h.b; have := h.kind
  unfold SmallCh i64; omega

theorem cmS_mem {S : List Bool} {ts : List GTxn} {c : GChoice} {n : Nat} (h : c ∈ cmS S ts n) : ∃ i : Nat, i < n ∧ i < ts.length ∧ c = ⟨1, 0, i, 0⟩ := by
  unfold cmS at h
  rw [List.mem_filterMap] at h
  obtain ⟨i, hi, h⟩ := h
  rw [List.mem_range] at hi
  cases ht : ts[i]? with
  | none => simp [ht] at h
  | some t =>
    have := (List.getElem?_eq_some_iff.1 ht).1
    simp only [ht, Option.bind_some] at h
    split at h
    · simp at h; exact ⟨i, hi, this, h.symm⟩
    · simp at h
theorem befA_mem {ts : List GTxn} {key b n : Nat} {c : GChoice} (h : c ∈ befA ts key b n) : ∃ a : Nat, a < n ∧ c = ⟨2, key, a, b⟩ := by
  unfold befA at h
  rw [List.mem_filterMap] at h
  obtain ⟨a, ha, h⟩ := h
  rw [List.mem_range] at ha
  split at h
  · simp at h; exact ⟨a, ha, h.symm⟩
  · simp at h
theorem befB_mem {ts : List GTxn} {key n : Nat} {c : GChoice} (h : c ∈ befB ts key n) : ∃ a b : Nat, a < b ∧ b < n ∧ c = ⟨2, key, a, b⟩ := by
  unfold befB at h
  rw [List.mem_flatMap] at h
  obtain ⟨b, hb, h⟩ := h
  rw [List.mem_range] at hb
  obtain ⟨a, ha, rfl⟩ := befA_mem h
  exact ⟨a, b, ha, hb, rfl⟩
theorem befK_mem {ts : List GTxn} {n : Nat} {c : GChoice} (h : c ∈ befK ts n) : ∃ key a b : Nat, key < n ∧ a < b ∧ b < ts.length ∧ c = ⟨2, key, a, b⟩ := by
  unfold befK at h
  rw [List.mem_flatMap] at h
  obtain ⟨k, hk, h⟩ := h
  rw [List.mem_range] at hk
  obtain ⟨a, b, ha, hb, rfl⟩ := befB_mem h
  exact ⟨k, a, b, hk, ha, hb, rfl⟩
theorem choicesM_ok {ts : List GTxn} {c : GChoice} (h : c ∈ choicesM ts) : OkCh ts.length c := by
  unfold choicesM at h
  rw [List.mem_append] at h
  rcases h with h | h
  · obtain ⟨i, h1, h2, rfl⟩ := cmS_mem h
    exact ⟨⟨by simp, by simp⟩, ⟨by simp, by simpa using h2⟩, ⟨by simp, by simp; omega⟩, .inl ⟨rfl, rfl, rfl⟩⟩
  · obtain ⟨k, a, b, h1, h2, h3, rfl⟩ := befK_mem h
    exact ⟨⟨by simp, by simp; omega⟩, ⟨by simp, by simp; omega⟩, ⟨by simp, by simp; omega⟩, .inr ⟨rfl, by simp; omega⟩⟩

theorem cmS_nodup (S : List Bool) (ts : List GTxn) : ∀ n, (cmS S ts n).Nodup := by
  intro n
  induction n with
  | zero => simp [cmS]
  | succ n ih =>
    cases ht : ts[n]? with
    | none =>
      have : cmS S ts (n + 1) = cmS S ts n := by simp [cmS, List.range_succ, ht]
      rw [this]; exact ih
    | some t =>
      rw [cmS_succ ht, List.nodup_append]
      refine ⟨ih, by split <;> simp, fun c hc d hd => ?_⟩
      obtain ⟨i, h1, _, rfl⟩ := cmS_mem hc
      split at hd
      · simp at hd; subst hd; simp; omega
      · simp at hd
theorem befA_nodup (ts : List GTxn) (key b : Nat) : ∀ n, (befA ts key b n).Nodup := by
  intro n
  induction n with
  | zero => simp [befA]
  | succ n ih =>
    rw [befA_succ, List.nodup_append]
    refine ⟨ih, by split <;> simp, fun c hc d hd => ?_⟩
    obtain ⟨i, h1, rfl⟩ := befA_mem hc
    split at hd
    · simp at hd; subst hd; simp; omega
    · simp at hd
theorem befB_nodup (ts : List GTxn) (key : Nat) : ∀ n, (befB ts key n).Nodup := by
  intro n
  induction n with
  | zero => simp [befB]
  | succ n ih =>
    rw [befB_succ, List.nodup_append]
    refine ⟨ih, befA_nodup _ _ _ _, fun c hc d hd => ?_⟩
    obtain ⟨a, b, h1, h2, rfl⟩ := befB_mem hc
    obtain ⟨a', h3, rfl⟩ := befA_mem hd
    simp; omega
theorem befK_nodup (ts : List GTxn) : ∀ n, (befK ts n).Nodup := by
  intro n
  induction n with
  | zero => simp [befK]
  | succ n ih =>
    rw [befK_succ, List.nodup_append]
    refine ⟨ih, befB_nodup _ _ _, fun c hc d hd => ?_⟩
    obtain ⟨k, a, b, h1, _, _, rfl⟩ := befK_mem hc
    obtain ⟨a', b', _, _, rfl⟩ := befB_mem hd
    simp; omega
theorem choicesM_nodup (ts : List GTxn) : (choicesM ts).Nodup := by
  unfold choicesM
  rw [List.nodup_append]
  refine ⟨cmS_nodup _ _ _, befK_nodup _ _, fun c hc d hd => ?_⟩
  obtain ⟨i, _, _, rfl⟩ := cmS_mem hc
  obtain ⟨k, a, b, _, _, _, rfl⟩ := befK_mem hd
  simp

/-- Who is done, and whether that is known. -/
def deadB (ts : List GTxn) (i : Nat) : Bool := stOf ts i == 2 || (ts[i]?.map (fun t => (writesM t.ops).length == 0)).getD false
def isM (ts : List GTxn) (L : FaL) (i : Nat) : Bool × Bool :=
  if (sureM ts)[i]?.getD false then (true, true) else if deadB ts i then (false, true) else ((getM L ⟨1, 0, i, 0⟩).getD false, (getM L ⟨1, 0, i, 0⟩).isSome)
def isI (ts : List GTxn) (L : FaL) (i : Nat) : Int :=
  if (refSureN ts ts.length)[i]?.getD false then 1 else if deadB ts i then 0 else getI L ⟨1, 0, i, 0⟩
theorem isI_one {ts : List GTxn} (hu : Uniq ts) (L : FaL) (i : Nat) : (isI ts L i == 1) = (isM ts L i).1 := by
  unfold isI isM
  rw [sure_eq hu]
  split
  · rfl
  · split
    · rfl
    · exact getI_one _ _
theorem isI_some {ts : List GTxn} (hu : Uniq ts) (L : FaL) (i : Nat) : decide (0 ≤ isI ts L i) = (isM ts L i).2 := by
  unfold isI isM
  rw [sure_eq hu]
  split
  · rfl
  · split
    · rfl
    · exact getI_some _ _
theorem isI_bound (ts : List GTxn) (L : FaL) (i : Nat) : -1 ≤ isI ts L i ∧ isI ts L i ≤ 1 := by
  unfold isI
  split
  · exact ⟨by decide, by decide⟩
  · split
    · exact ⟨by decide, by decide⟩
    · exact getI_bound _ _

/-- Is a choice open, and does it count? -/
def openC (ts : List GTxn) (L : FaL) (c : GChoice) : Bool := (getM L c).isNone && (c.kind != 2 || (isM ts L c.a.toNat).1 && (isM ts L c.b.toNat).1)
/-- chains.Next. -/
def nextM (ts : List GTxn) (L : FaL) : Option GChoice := (choicesM ts).find? (openC ts L)
end Go.Proofs.Ytefpmcbpodlabaa

/- What edges a history and some facts say; what is lifted of edges: plain. Names no function. -/
namespace Go.Proofs.Ytefpmcbpodlabaa
open Go.RowKit Go.Maps

/-- Who wrote what a read has read. -/
def srcM (ts : List GTxn) (key val : Int) : Int × Bool := if val = 0 then (-1, true) else match getM (byN ts ts.length) (key, val) with
  | some i => (i, true)
  | none => (0, false)
/-- A read of a write: by whom, of whom, of which key. -/
structure GRd where
  by_ : Int
  of_ : Int
  key : Int
deriving DecidableEq
def readOf (ts : List GTxn) (dn : Nat → Bool) (i : Nat) (o : GOp) : List GRd :=
  if (srcM ts o.key o.val).2 && !(decide (0 ≤ (srcM ts o.key o.val).1) && !dn (srcM ts o.key o.val).1.toNat) then [⟨i, (srcM ts o.key o.val).1, o.key⟩] else []
def readsOf (ts : List GTxn) (dn : Nat → Bool) (p : GTxn × Nat) : List GRd := (readsM p.1).flatMap (readOf ts dn p.2)
def rdsL (ts : List GTxn) (dn : Nat → Bool) : List GRd := ts.zipIdx.flatMap (readsOf ts dn)
def addE (f t k : Int) : List GEdge := if f = t then [] else [⟨f, t, k⟩]
def wrEdge (r : GRd) : List GEdge := if 0 ≤ r.of_ then addE r.of_ r.by_ 2 else []
def rwR (i : Nat) (key : Int) (r : GRd) : List GEdge := if r.of_ < 0 ∧ r.key = key then addE r.by_ i 3 else []
def rwO (rs : List GRd) (i : Nat) (o : GOp) : List GEdge := rs.flatMap (rwR i o.key)
def rwT (dn : Nat → Bool) (rs : List GRd) (p : GTxn × Nat) : List GEdge := if dn p.2 then (writesM p.1.ops).flatMap (rwO rs p.2) else []
def wkB (key : Int) (o : GOp) : Bool := o.kind == 2 && o.key == key
def has1 (ts : List GTxn) (dn : Nat → Bool) (key i : Int) : Bool := decide (0 ≤ i) && decide (i < ts.length) && dn i.toNat && (ts[i.toNat]?.map (fun t => t.ops.any (wkB key))).getD false
def hasM (ts : List GTxn) (dn : Nat → Bool) (c : GChoice) : Bool := has1 ts dn c.key c.a && has1 ts dn c.key c.b
def wwR (a b key : Int) (r : GRd) : List GEdge := if r.of_ = a ∧ r.key = key then addE r.by_ b 3 else []
def wwL (rs : List GRd) (a b key : Int) : List GEdge := addE a b 1 ++ rs.flatMap (wwR a b key)
def factE (ts : List GTxn) (dn : Nat → Bool) (rs : List GRd) (p : GChoice × Bool) : List GEdge :=
  if p.1.kind = 2 ∧ hasM ts dn p.1 = true then (if p.2 then wwL rs p.1.a p.1.b p.1.key else wwL rs p.1.b p.1.a p.1.key) else []
def dnM (ts : List GTxn) (L : FaL) (i : Nat) : Bool := (isM ts L i).1
def edge0 (ts : List GTxn) (dn : Nat → Bool) : List GEdge := (rdsL ts dn).flatMap wrEdge ++ ts.zipIdx.flatMap (rwT dn (rdsL ts dn))
def edgeL (ts : List GTxn) (L : FaL) : List GEdge := edge0 ts (dnM ts L) ++ L.flatMap (factE ts (dnM ts L) (rdsL ts (dnM ts L)))
/-- By From, To, Kind. -/
def ltE (a b : GEdge) : Prop := a.f < b.f ∨ (a.f = b.f ∧ (a.t < b.t ∨ (a.t = b.t ∧ a.k < b.k)))
/-- All edges, each once, in order. -/
def EdgesOf (ts : List GTxn) (L : FaL) (l : List GEdge) : Prop := l.Pairwise ltE ∧ ∀ e, e ∈ l ↔ e ∈ edgeL ts L
theorem ltE_irr (a : GEdge) : ¬ ltE a a := by unfold ltE; omega
theorem ltE_trans {a b c : GEdge} (h : ltE a b) (k : ltE b c) : ltE a c := by unfold ltE at *; omega
theorem edges_ext : ∀ {a b : List GEdge}, a.Pairwise ltE → b.Pairwise ltE → (∀ p, p ∈ a ↔ p ∈ b) → a = b
  | [], [], _, _, _ => rfl
  | [], y :: b, _, _, h => by have := (h y).2 List.mem_cons_self; simp at this
  | x :: a, [], _, _, h => by have := (h x).1 List.mem_cons_self; simp at this
  | x :: a, y :: b, ha, hb, h => by
    have ha' := List.pairwise_cons.1 ha
    have hb' := List.pairwise_cons.1 hb
    have hxy : x = y := by
      rcases List.mem_cons.1 ((h x).1 List.mem_cons_self) with e | hx
      · exact e
      · rcases List.mem_cons.1 ((h y).2 List.mem_cons_self) with e | hy
        · exact e.symm
        · exact absurd (ltE_trans (ha'.1 y hy) (hb'.1 x hx)) (ltE_irr x)
    subst hxy
    congr 1
    refine edges_ext ha'.2 hb'.2 (fun p => ?_)
    constructor
    · intro hp
      rcases List.mem_cons.1 ((h p).1 (List.mem_cons_of_mem _ hp)) with rfl | h1
      · exact absurd (ha'.1 p hp) (ltE_irr p)
      · exact h1
    · intro hp
      rcases List.mem_cons.1 ((h p).2 (List.mem_cons_of_mem _ hp)) with rfl | h1
      · exact absurd (hb'.1 p hp) (ltE_irr p)
      · exact h1

/-! What is lifted. -/
def lift1 (es : List GEdge) (level : Int) (e : GEdge) : List (Int × Int) :=
  (if level ≠ 1 ∨ e.k ≠ 3 then [(e.f, e.t)] else []) ++ (if level ≠ 1 ∨ e.k = 3 then [] else es.flatMap (fun g => if g.k = 3 ∧ g.f = e.t then [(e.f, g.t)] else []))
def liftL (es : List GEdge) (level : Int) : List (Int × Int) := es.flatMap (lift1 es level)
theorem lift_mem (es : List GEdge) (level : Int) (u v : Int) : (u, v) ∈ liftL es level ↔ ArcK es (level == 1) u v := by
  unfold liftL ArcK
  rw [List.mem_flatMap]
  constructor
  · rintro ⟨e, he, h⟩
    unfold lift1 at h
    rcases List.mem_append.1 h with h | h
    · split at h
      · rename_i hc
        simp only [List.mem_singleton, Prod.mk.injEq] at h
        obtain ⟨rfl, rfl⟩ := h
        refine .inl ⟨e, he, ?_, rfl, rfl⟩
        rcases hc with hc | hc
        · exact .inl (by simpa using hc)
        · exact .inr hc
      · cases h
    · split at h
      · cases h
      · rename_i hc
        obtain ⟨g, hg, h⟩ := List.mem_flatMap.1 h
        split at h
        · rename_i hgc
          simp only [List.mem_singleton, Prod.mk.injEq] at h
          obtain ⟨rfl, rfl⟩ := h
          have h1 : level = 1 := by
            apply Classical.byContradiction
            exact fun hn => hc (.inl hn)
          exact .inr ⟨by simp [h1], e, he, fun hk => hc (.inr hk), rfl, g, hg, hgc.1, hgc.2, rfl⟩
        · cases h
  · rintro (⟨e, he, hk, rfl, rfl⟩ | ⟨hs, e, he, hk, rfl, g, hg, g3, gf, rfl⟩)
    · refine ⟨e, he, List.mem_append_left _ ?_⟩
      rw [if_pos]
      · simp
      · rcases hk with hk | hk
        · exact .inl (by simpa using hk)
        · exact .inr hk
    · refine ⟨e, he, List.mem_append_right _ ?_⟩
      have h1 : level = 1 := by simpa using hs
      rw [if_neg (by rintro (h | h); exact h h1; exact hk h)]
      exact List.mem_flatMap.2 ⟨g, hg, by rw [if_pos ⟨g3, gf⟩]; simp⟩
/-- Arcs that count. -/
def ArcN (n : Nat) (arcs : List (Int × Int)) (u v : Int) : Prop := (u, v) ∈ arcs ∧ (0 ≤ u ∧ u < n) ∧ (0 ≤ v ∧ v < n)
/-- All edges lie among so many. -/
def InN (n : Nat) (es : List GEdge) : Prop := ∀ e ∈ es, (0 ≤ e.f ∧ e.f < n) ∧ (0 ≤ e.t ∧ e.t < n)
theorem arcN_iff {n : Nat} {es : List GEdge} (h : InN n es) (level : Int) (u v : Int) : ArcN n (liftL es level) u v ↔ ArcK es (level == 1) u v := by
  unfold ArcN
  rw [lift_mem]
  constructor
  · exact fun h => h.1
  · intro ha
    refine ⟨ha, ?_⟩
    rcases ha with ⟨e, he, _, rfl, rfl⟩ | ⟨_, e, he, _, rfl, g, hg, _, _, rfl⟩
    · exact h e he
    · exact ⟨(h e he).1, (h g hg).2⟩
theorem lift_serial (es : List GEdge) : liftL es 2 = es.map (fun e => (e.f, e.t)) := by
  have : ∀ e, lift1 es 2 e = [(e.f, e.t)] := fun e => by unfold lift1; simp
  unfold liftL
  rw [show lift1 es 2 = fun e => [(e.f, e.t)] from funext this]
  induction es with
  | nil => rfl
  | cons e es ih =>
    rw [List.flatMap_cons, List.map_cons, ih (fun e => by unfold lift1; simp)]
    rfl
theorem lift_weak (es : List GEdge) (h : ∀ e ∈ es, e.k = 3) : liftL es 1 = [] := by
  unfold liftL
  rw [List.flatMap_eq_nil_iff]
  intro e he
  unfold lift1
  rw [if_neg (by simp [h e he]), if_pos (.inr (h e he))]; rfl
end Go.Proofs.Ytefpmcbpodlabaa

/- More on typed maps: m[k] = append(m[k], ..) (an entry found, then stored), delete. Names no program. -/
namespace Go.Proofs.Ytefpmcbpodlabaa
open Go.RowKit Go.MapKept
open Go.Maps (Keyed)
open Go.ChangeMaps (setBlock)

/-- Block b is a map that holds L, and the entry at key x bears this stamp. -/
def EntryT {κ ν : Type} (P : Program) (k : TypeId) (eK : κ → Value) (eV : ν → Value) (w : World) (b : Nat) (L : List (κ × ν)) (x : κ) (stamp : Nat) : Prop :=
  ∃ (es : Array MapEntry) (clock j : Nat) (e0 : MapEntry), w.heap[b]? = some (.map es clock) ∧ Stamped es clock ∧ (∀ y ∈ es.toList, ∃ kl, keyOf P k y.key = some kl) ∧ es.toList.map (fun y => (y.key, y.val)) = L.map (fun y => (eK y.1, eV y.2)) ∧
    es.toList[j]? = some e0 ∧ e0.key = eK x ∧ e0.born = stamp

section laws0
variable {κ ν : Type} {P : Program} {k : TypeId} {eK : κ → Value} {eV : ν → Value} {w : World} {b : Nat} {L : List (κ × ν)}

theorem EntryT.map {x : κ} {stamp : Nat} (h : EntryT P k eK eV w b L x stamp) : MapT P k eK eV w b L := by
  obtain ⟨es, clock, j, e0, h1, h2, h3, h4, _⟩ := h; exact ⟨es, clock, h1, h2, h3, h4⟩
theorem EntryT.frame {w' : World} {x : κ} {stamp : Nat} (h : EntryT P k eK eV w b L x stamp) (hw : w'.heap[b]? = w.heap[b]?) : EntryT P k eK eV w' b L x stamp := by
  obtain ⟨es, clock, j, e0, hb, r⟩ := h; exact ⟨es, clock, j, e0, hw.trans hb, r⟩
end laws0

section laws
variable {κ ν : Type} [DecidableEq κ] {P : Program} {k e t : TypeId} {eK : κ → Value} {eV : ν → Value} {w : World} {b : Nat} {L : List (κ × ν)}

theorem putM_same {x : κ} {v : ν} (hp : L.Pairwise (fun p q => p.1 ≠ q.1)) (h : getM L x = some v) : putM L x v = L := by
  unfold putM
  rw [h]
  simp only [Option.isSome_some, if_true]
  have hm := getM_some h
  have : ∀ p ∈ L, (if p.1 = x then (x, v) else p) = p := by
    intro p hpL
    by_cases hx : p.1 = x
    · rw [if_pos hx]
      obtain ⟨i, hi⟩ := List.mem_iff_getElem?.1 hpL
      obtain ⟨j, hj⟩ := List.mem_iff_getElem?.1 hm
      obtain ⟨hi1, hi2⟩ := List.getElem?_eq_some_iff.1 hi
      obtain ⟨hj1, hj2⟩ := List.getElem?_eq_some_iff.1 hj
      have hn := List.pairwise_iff_getElem.1 hp
      rcases Nat.lt_trichotomy i j with hlt | rfl | hlt
      · exact absurd (by rw [hi2, hj2]; exact hx) (hn i j hi1 hj1 hlt)
      · rw [hi] at hj; cases hj; rfl
      · exact absurd (by rw [hi2, hj2]; exact hx.symm) (hn j i hj1 hi1 hlt)
    · rw [if_neg hx]
  rw [List.map_congr_left this]; simp

/-- m[x], found or laid, to be stored to. -/
theorem MapT.mapEntry (hK : Keyed P k) (hinj : ∀ x y, eK x = eK y → x = y) (ht : P.underlying t = some (.map k e)) (h : MapT P k eK eV w b L) (x : κ) {kl : Lit} (hx : keyOf P k (eK x) = some kl) (z : ν) (hz : (zeroValue e).run P w = .ok (eV z) w) :
    ∃ w' stamp, (Instr.mapEntry t (.map (some b)) (eK x)).run P w = .ok (.tuple #[eV ((getM L x).getD z), goInt (stamp : Nat)]) w' ∧ EntryT P k eK eV w' b (putM L x ((getM L x).getD z)) x stamp ∧ w.grownBy w' (some b) ∧ w'.heap.size = w.heap.size := by
  obtain ⟨es, clock, hb, hs, hk, hL, h1 | ⟨j, e0, u, h1, h2, h3, h4, h5, h6, hu⟩⟩ := h.find hK hinj x hx
  · refine ⟨setBlock w b (.map (es.push ⟨eK x, eV z, clock⟩) (clock + 1)), clock, ?_, ⟨_, _, es.size, ⟨eK x, eV z, clock⟩, ChangeMaps.heap_setBlock_same hb _, stamped_push hs h1.2.2, ?_, ?_, ?_, rfl, rfl⟩, ⟨rfl, rfl, rfl, by simp [setBlock], fun i _ hi => ChangeMaps.heap_setBlock_other hb _ (fun e => hi (by rw [e]))⟩, by simp [setBlock]⟩
    · rw [h1.2.1]
      simp [Instr.mapEntry, run_underlying ht, MapKept.run_getObj_map hb, hK.check w false hx, h1.1 w, hz, MapKept.run_setObj_map _ hb, Result.andThen, setBlock]
    · intro y hy
      simp only [Array.toList_push, List.mem_append, List.mem_singleton] at hy
      rcases hy with hy | rfl
      · exact hk y hy
      · exact ⟨kl, hx⟩
    · rw [h1.2.1]
      have : putM L x z = L ++ [(x, z)] := by unfold putM; rw [h1.2.1]; rfl
      rw [Option.getD_none, this, List.map_append, ← hL]; simp
    · simp
  · have hj : es[j]? = some e0 := by simpa using h2
    have hlist : (es.modify j (fun e' => { e' with key := eK x })).toList = es.toList.set j { e0 with key := eK x } := by
      rw [Array.toList_modify, ChangeMaps.modify_eq_set _ _ _ _ h2]
    have he0 : ({ e0 with key := eK x } : MapEntry) = e0 := by rw [← h3]
    have hes : (es.modify j (fun e' => { e' with key := eK x })).toList = es.toList := by
      rw [hlist, he0]
      apply List.ext_getElem?
      intro i
      rw [List.getElem?_set]
      by_cases hij : j = i
      · subst hij; rw [if_pos rfl, if_pos (List.getElem?_eq_some_iff.1 h2).1, h2]
      · simp [hij]
    have hes' : es.modify j (fun e' => { e' with key := eK x }) = es := by
      apply Array.toList_inj.1; exact hes
    have hborn : ((es[j]?.map (·.born)).getD 0) = e0.born := by rw [hj]; rfl
    refine ⟨setBlock w b (.map es clock), e0.born, ?_, ⟨es, clock, j, e0, ChangeMaps.heap_setBlock_same hb _, hs, hk, ?_, h2, h3, rfl⟩, ⟨rfl, rfl, rfl, by simp [setBlock], fun i _ hi => ChangeMaps.heap_setBlock_other hb _ (fun e => hi (by rw [e]))⟩, by simp [setBlock]⟩
    · rw [h6]
      simp [Instr.mapEntry, run_underlying ht, MapKept.run_getObj_map hb, hK.check w false hx, h1 w, hj, h3, hK.stays w hx, MapKept.run_setObj_map _ hb, Result.andThen, setBlock, hes', h5]
    · rw [h6, Option.getD_some, putM_same h.pairwise h6, hL]

/-- The entry is stored to. -/
theorem EntryT.store (hinj : ∀ x y, eK x = eK y → x = y) {x : κ} {stamp : Nat} (h : EntryT P k eK eV w b L x stamp) (v : ν) (hm : (getM L x).isSome = true) :
    ∃ w', (Instr.entryStore t (.map (some b)) (goInt (stamp : Nat)) (eV v)).run P w = .ok () w' ∧ MapT P k eK eV w' b (putM L x v) ∧ w.grownBy w' (some b) ∧ w'.heap.size = w.heap.size := by
  have hmap := h.map
  obtain ⟨es, clock, j, e0, hb, hs, hk, hL, h2, h3, rfl⟩ := h
  have hj : es[j]? = some e0 := by simpa using h2
  have hbi := ((stamped_iff es clock).1 hs).2.1
  have hfi : es.findIdx? (fun e => ((e.born : Int) == (e0.born : Int))) = some j := by
    rw [Array.findIdx?_eq_some_iff_getElem]
    obtain ⟨hjl, hje⟩ := List.getElem?_eq_some_iff.1 h2
    have hjl' : j < es.size := by simpa using hjl
    refine ⟨hjl', ?_, fun i hi => ?_⟩
    · have : es[j] = e0 := by simpa using hje
      simp [this]
    · intro hc
      have hc' : (es[i]'(by omega)).born = e0.born := by have := hc; simp at this; omega
      have hil : i < es.toList.length := by simp; omega
      have h1 := List.pairwise_iff_getElem.1 (List.nodup_iff_pairwise_ne.1 hbi) i j (by simpa using hil) (by simpa using hjl) hi
      apply h1
      simp only [List.getElem_map]
      rw [show es.toList[j] = e0 from hje]
      simpa using hc'
  have hlist : (es.modify j (fun e' => { e' with val := eV v })).toList = es.toList.set j { e0 with val := eV v } := by
    rw [Array.toList_modify, ChangeMaps.modify_eq_set _ _ _ _ h2]
  refine ⟨setBlock w b (.map (es.modify j (fun e' => { e' with val := eV v })) clock), ?_, ⟨_, _, ChangeMaps.heap_setBlock_same hb _, stamped_modify hs _ _ (fun _ _ => rfl) (fun e' _ _ => rfl), ?_, ?_⟩, ⟨rfl, rfl, rfl, by simp [setBlock], fun i _ hi => ChangeMaps.heap_setBlock_other hb _ (fun e => hi (by rw [e]))⟩, by simp [setBlock]⟩
  · simp [Instr.entryStore, MapKept.run_getObj_map hb, goInt, asInt, asIntOf, hfi, MapKept.run_setObj_map _ hb, Result.andThen, setBlock]
  · intro y hy
    rw [hlist] at hy
    rcases List.mem_or_eq_of_mem_set hy with hy | rfl
    · exact hk y hy
    · exact hk e0 (List.mem_of_getElem? h2)
  · have hp : putM L x v = L.map (fun p => if p.1 = x then (x, v) else p) := by unfold putM; rw [hm]; rfl
    rw [hp, hlist, List.map_set, hL]
    apply List.ext_getElem?
    intro i
    rw [List.getElem?_set, List.getElem?_map, List.getElem?_map, List.getElem?_map]
    have hlen : es.toList.length = L.length := by simpa using congrArg List.length hL
    by_cases hij : j = i
    · subst hij
      obtain ⟨hjl, _⟩ := List.getElem?_eq_some_iff.1 h2
      have hjL : j < L.length := by omega
      have hkey : (L[j]).1 = x := by
        have h1 : (es.toList.map (fun y => (y.key, y.val)))[j]? = some (e0.key, e0.val) := by simp [h2]
        rw [hL, List.getElem?_map, List.getElem?_eq_getElem hjL] at h1
        simp only [Option.map_some, Option.some.injEq, Prod.mk.injEq] at h1
        exact hinj _ _ (h1.1.trans h3)
      simp [hjL, hkey, h3]
    · simp only [hij, if_false]
      cases hl : L[i]? with
      | none => rfl
      | some p =>
        have : ¬ p.1 = x := by
          intro hpx
          have h1 : (L.map (fun y => (eK y.1, eV y.2)))[i]? = some (eK p.1, eV p.2) := by simp [hl]
          rw [← hL, List.getElem?_map] at h1
          cases hes : es.toList[i]? with
          | none => simp [hes] at h1
          | some a =>
            simp only [hes, Option.map_some, Option.some.injEq, Prod.mk.injEq] at h1
            have hkk : a.key = e0.key := by rw [h1.1, hpx, h3]
            have := entry_eq_of_key ((stamped_iff es clock).1 hs).2.2 (List.mem_of_getElem? hes) (List.mem_of_getElem? h2) hkk
            subst this
            obtain ⟨a1, a2⟩ := List.getElem?_eq_some_iff.1 hes
            obtain ⟨b1, b2⟩ := List.getElem?_eq_some_iff.1 h2
            have hn := List.pairwise_iff_getElem.1 ((stamped_iff es clock).1 hs).2.2
            rcases Nat.lt_trichotomy i j with hlt | he | hlt
            · exact hn i j a1 b1 hlt (by rw [a2, b2])
            · exact hij he.symm
            · exact hn j i b1 a1 hlt (by rw [a2, b2])
        simp [this]

/-- delete(m, x). -/
theorem MapT.delete (hK : Keyed P k) (hinj : ∀ x y, eK x = eK y → x = y) (ht : P.underlying t = some (.map k e)) (h : MapT P k eK eV w b L) (x : κ) {kl : Lit} (hx : keyOf P k (eK x) = some kl) (ty : TypeId) :
    ∃ w', (Builtin.delete_ #[t, k] ty #[.map (some b), eK x]).run P w = .ok (.tuple #[]) w' ∧ MapT P k eK eV w' b (delM L x) ∧ w.grownBy w' (some b) ∧ w'.heap.size = w.heap.size := by
  obtain ⟨es, clock, hb, hs, hk, hL, h1 | ⟨j, e0, u, h1, h2, h3, h4, h5, h6, hu⟩⟩ := h.find hK hinj x hx
  · refine ⟨setBlock w b (.map es clock), ?_, ⟨es, clock, ChangeMaps.heap_setBlock_same hb _, hs, hk, ?_⟩, ⟨rfl, rfl, rfl, by simp [setBlock], fun i _ hi => ChangeMaps.heap_setBlock_other hb _ (fun e => hi (by rw [e]))⟩, by simp [setBlock]⟩
    · simp [Builtin.delete_, run_underlying ht, MapKept.run_getObj_map hb, hK.check w _ hx, h1.1 w, MapKept.run_setObj_map _ hb, Result.andThen, setBlock]
    · have : delM L x = L := by
        unfold delM
        rw [List.filter_eq_self]
        intro p hp
        simpa using getM_none.1 h1.2.1 p hp
      rw [this, hL]
  · have hjl : j < es.toList.length := (List.getElem?_eq_some_iff.1 h2).1
    have hjs : j < es.size := by simpa using hjl
    have hsub : (es.eraseIdxIfInBounds j).toList = es.toList.eraseIdx j := by
      unfold Array.eraseIdxIfInBounds
      rw [dif_pos hjs]
      simp
    have hdel : delM L x = L.eraseIdx j := by
      have hjL : j < L.length := (List.getElem?_eq_some_iff.1 h4).1
      have hs1 : L = L.take j ++ (x, u) :: L.drop (j + 1) := by
        conv => lhs; rw [← List.take_append_drop j L]
        rw [List.drop_eq_getElem_cons hjL, (List.getElem?_eq_some_iff.1 h4).2]
      have hf1 : (L.take j).filter (fun p => decide (p.1 ≠ x)) = L.take j := by
        rw [List.filter_eq_self]
        intro p hp
        obtain ⟨i, hi⟩ := List.mem_iff_getElem?.1 hp
        have hij : i < j := by have := (List.getElem?_eq_some_iff.1 hi).1; simp at this; omega
        rw [List.getElem?_take, if_pos hij] at hi
        have : p.1 ≠ x := fun e => by have := hu i p hi e; omega
        simpa using this
      have hf2 : (L.drop (j + 1)).filter (fun p => decide (p.1 ≠ x)) = L.drop (j + 1) := by
        rw [List.filter_eq_self]
        intro p hp
        obtain ⟨i, hi⟩ := List.mem_iff_getElem?.1 hp
        rw [List.getElem?_drop] at hi
        have : p.1 ≠ x := fun e => by have := hu _ p hi e; omega
        simpa using this
      unfold delM
      rw [List.eraseIdx_eq_take_drop_succ]
      conv => lhs; rw [hs1]
      rw [List.filter_append, List.filter_cons, hf1, hf2]
      simp
    refine ⟨setBlock w b (.map (es.eraseIdxIfInBounds j) clock), ?_, ⟨_, clock, ChangeMaps.heap_setBlock_same hb _, stamped_erase hs j, ?_, ?_⟩, ⟨rfl, rfl, rfl, by simp [setBlock], fun i _ hi => ChangeMaps.heap_setBlock_other hb _ (fun e => hi (by rw [e]))⟩, by simp [setBlock]⟩
    · simp [Builtin.delete_, run_underlying ht, MapKept.run_getObj_map hb, hK.check w _ hx, h1, MapKept.run_setObj_map _ hb, Result.andThen, setBlock]
    · intro y hy
      rw [hsub] at hy
      exact hk y ((List.eraseIdx_sublist _ _).subset hy)
    · rw [hdel, hsub, ChangeMaps.map_eraseIdx, ChangeMaps.map_eraseIdx, hL]
end laws
end Go.Proofs.Ytefpmcbpodlabaa

/- A store of versions in memory: its block, its three maps, the rows that they hold. mvcc.New; what is kept of cells. -/
namespace Go.Proofs.Ytefpmcbpodlabaa
open Go.RowKit Go.Maps
open Go.ChangeShapes Go.WideShapes

def i64G (n : Int) : Prop := -9223372036854775808 ≤ n ∧ n ≤ 9223372036854775807
theorem alloc_atG (w : World) (o : Obj) : (w.alloc o).heap[w.heap.size]? = some o := by show (w.heap.push o)[w.heap.size]? = some o; simp
theorem cell_ofG {w : World} {b : Nat} {cs : Array Value} {T : TypeId} {fz : Nat × Nat} (h : w.heap[b]? = some (.cells cs T fz)) (o : Nat) : w.cell? ⟨b, o, none⟩ = cs[o]? := by
  simp [World.cell?, h]
theorem free_ofG {w : World} {b : Nat} {cs : Array Value} {T : TypeId} (h : w.heap[b]? = some (.cells cs T)) (o : Nat) : w.frozen? ⟨b, o, none⟩ = false := by
  simp [World.frozen?, h]

theorem intKeyedG : Keyed Try.prog 3 := int_keyed Try.underlying3
theorem vi_injG (x y : Int) (h : vi x = vi y) : x = y := by simpa using h
theorem wf_ofG {n : Int} (h : i64G n) : (Lit.int .i64 n).wf = true := by
  simp [Lit.wf, IntKind.min, IntKind.max, IntKind.signed, IntKind.bits]; exact h
theorem intKeyG {n : Int} (h : i64G n) : ∃ kl, keyOf Try.prog 3 (vi n) = some kl := ⟨_, keyOf_int_mk Try.underlying3 (wf_ofG h)⟩

/-- All cells stay as they were (maps may turn). -/
def Solid (w w' : World) : Prop := ∀ (j : Nat) (cs : Array Value) (T : TypeId) (fz : Nat × Nat), w.heap[j]? = some (.cells cs T fz) → w'.heap[j]? = some (.cells cs T fz)
theorem Solid.refl (w : World) : Solid w w := fun _ _ _ _ h => h
theorem Solid.trans {a b c : World} (h : Solid a b) (k : Solid b c) : Solid a c := fun j cs T fz h1 => k j cs T fz (h j cs T fz h1)
theorem Solid.later {w A B : World} (h : Solid w A) (hb : Below A.heap.size A B) : Solid w B := fun j cs T fz h1 => by
  have := h j cs T fz h1
  exact (hb.block j (Array.getElem?_eq_some_iff.1 this).1).trans this
theorem Solid.below {A B : World} (hb : Below A.heap.size A B) : Solid A B := (Solid.refl A).later hb
theorem Solid.map {w A B : World} {m c : Nat} {es : Array MapEntry} (h : Solid w A) (hm : A.heap[m]? = some (.map es c)) (hg : A.grownBy B (some m)) : Solid w B := fun j cs T fz h1 => by
  have h3 := h j cs T fz h1
  refine (hg.block j (Array.getElem?_eq_some_iff.1 h3).1 fun e => ?_).trans h3
  have : j = m := by simpa using e
  subst this
  rw [hm] at h3; cases h3
theorem Solid.cell {A B : World} (h : Solid A B) {b o : Nat} {v : Value} (hc : A.cell? ⟨b, o, none⟩ = some v) : B.cell? ⟨b, o, none⟩ = some v := by
  unfold World.cell? at hc ⊢
  cases hA : A.heap[b]? with
  | none => simp [hA] at hc
  | some ob =>
    cases ob with
    | cells cs T fz => rw [h b _ _ _ hA]; simpa [hA] using hc
    | _ => simp [hA] at hc
theorem RdS.solid {α : Type} {n : Nat} {E : World → List Value → α → Prop} {A B : World} {v : Value} {xs : List α} (h : RdS n E A v xs) (hs : Solid A B) (hE : ∀ cs x, E A cs x → E B cs x) : RdS n E B v xs := by
  obtain ⟨a, len, cap, h1, h2, h3, h4, h5, h6⟩ := h
  refine ⟨a, len, cap, h1, h2, h3, h4, h5, fun j x hj => ?_⟩
  obtain ⟨b, off, cs, ha, hl, hc, he⟩ := h6 j x hj
  exact ⟨b, off, cs, ha, hl, fun i u hu => hs.cell (hc i u hu), hE _ _ he⟩
theorem RdOps.solid {A B : World} {v : Value} {l : List GOp} (h : RdOps A v l) (hs : Solid A B) : RdOps B v l := RdS.solid h hs fun _ _ h => h

abbrev RdIntsG (w : World) (v : Value) (xs : List Int) : Prop := RdS 1 EInt w v xs
theorem RdIntsG.at {w : World} {v : Value} {xs : List Int} (h : RdIntsG w v xs) : ∃ a len cap, v = .slice a len cap ∧ len = xs.length ∧ xs.length ≤ 9223372036854775807 ∧ ∀ j x, xs[j]? = some x → ∃ b off, a = some ⟨b, off, none⟩ ∧ w.cell? ⟨b, off + j, none⟩ = some (.int .i64 x) ∧ i64G x := by
  obtain ⟨a, len, cap, h1, h2, h3, h4, h5, h6⟩ := h
  refine ⟨a, len, cap, h1, h2, h3, fun j x hj => ?_⟩
  obtain ⟨b, off, cs, ha, hl, hc, rfl, hx⟩ := h6 j x hj
  exact ⟨b, off, ha, by have := hc 0 _ rfl; simpa using this, hx⟩
theorem RdIntsG.later {w w' : World} {v : Value} {xs : List Int} (h : RdIntsG w v xs) (hb : Below w.heap.size w w') : RdIntsG w' v xs := RdS.below h hb fun _ _ h => h
theorem RdIntsG.solid {A B : World} {v : Value} {l : List Int} (h : RdIntsG A v l) (hs : Solid A B) : RdIntsG B v l := RdS.solid h hs fun _ _ h => h

/-- A version: from which time on, the value. -/
abbrev Ver := Int × Int
def verV (x : Ver) : List Value := [vi x.1, vi x.2]
def EVer (_ : World) (cs : List Value) (x : Ver) : Prop := cs = verV x ∧ i64G x.1
abbrev RdVer (w : World) (v : Value) (l : List Ver) : Prop := RdS 2 EVer w v l
theorem RdVer.later {w w' : World} {v : Value} {xs : List Ver} (h : RdVer w v xs) (hb : Below w.heap.size w w') : RdVer w' v xs := RdS.below h hb fun _ _ h => h
theorem RdVer.solid {A B : World} {v : Value} {l : List Ver} (h : RdVer A v l) (hs : Solid A B) : RdVer B v l := RdS.solid h hs fun _ _ h => h
theorem RdVer.at {w : World} {v : Value} {xs : List Ver} (h : RdVer w v xs) : ∃ a len cap, v = .slice a len cap ∧ len = xs.length ∧ xs.length ≤ 9223372036854775807 ∧ ∀ j x, xs[j]? = some x → ∃ b off, a = some ⟨b, off, none⟩ ∧ w.cell? ⟨b, off + j * 2, none⟩ = some (vi x.1) ∧ w.cell? ⟨b, off + j * 2 + 1, none⟩ = some (vi x.2) ∧ i64G x.1 := by
  obtain ⟨a, len, cap, h1, h2, h3, h4, h5, h6⟩ := h
  refine ⟨a, len, cap, h1, h2, h3, fun j x hj => ?_⟩
  obtain ⟨b, off, cs, ha, hl, hc, rfl, hx⟩ := h6 j x hj
  exact ⟨b, off, ha, by simpa using hc 0 _ rfl, by simpa [Nat.add_assoc] using hc 1 _ rfl, hx⟩

/-- A transaction that waits. -/
structure Rdy where
  txn : Int
  home : Int
  start : Int
  writes : List GOp
  reads : List Int
/-- .. and the slice values that its lists lie in. -/
structure RV where
  wv : Value
  rv : Value
  r : Rdy
def rdyC (x : RV) : Array Value := #[vi x.r.txn, vi x.r.home, vi x.r.start, x.wv, x.rv]
def rdyV (x : RV) : Value := .agg (rdyC x)
structure RdyS (W : World) (x : RV) : Prop where
  ws : RdOps W x.wv x.r.writes
  rs : RdIntsG W x.rv x.r.reads
theorem RdyS.solid {A B : World} {x : RV} (h : RdyS A x) (hs : Solid A B) : RdyS B x := ⟨h.ws.solid hs, h.rs.solid hs⟩
theorem RdyS.later {A B : World} {x : RV} (h : RdyS A x) (hb : Below A.heap.size A B) : RdyS B x := h.solid (Solid.below hb)
/-- What became of a transaction. -/
structure EndM where
  txn : Int
  commit : Bool
  at_ : Int
deriving DecidableEq
def endV (e : EndM) : Value := .agg #[vi e.txn, .bool e.commit, vi e.at_]

abbrev KV := Value × List Ver
abbrev KeysL := List (Int × KV)
abbrev RdyL := List (Int × RV)
abbrev EndL := List (Int × EndM)
abbrev MapK (w : World) (b : Nat) (L : KeysL) : Prop := MapT Try.prog 3 vi (fun x : KV => x.1) w b L
abbrev MapR (w : World) (b : Nat) (L : RdyL) : Prop := MapT Try.prog 3 vi rdyV w b L
abbrev MapE (w : World) (b : Nat) (L : EndL) : Prop := MapT Try.prog 3 vi endV w b L

theorem MapT.obj {κ ν : Type} {P : Program} {k : TypeId} {eK : κ → Value} {eV : ν → Value} {w : World} {b : Nat} {L : List (κ × ν)} (h : MapT P k eK eV w b L) : ∃ es c, w.heap[b]? = some (.map es c) := by
  obtain ⟨es, c, hb, _⟩ := h; exact ⟨es, c, hb⟩

theorem Try.infoI : (Try.prog.info? 3).map (fun i => (i.zero, i.size, i.bytes)) = some (some (vi 0), 1, 8) := by kernel_rfl
theorem eltI : Elt Try.prog 32 3 1 8 (vi 0) := by
  obtain ⟨i0, hi, hz0, hz1, hz2⟩ := info_parts Try.infoI
  exact ⟨Try.underlying32, by decide, rfl, i0, hi, hz0, hz1, hz2⟩
def viC (p : Int) : List Value := [vi p]
/-- A row of ints that the call owns. -/
def OwI (base : Nat) (w : World) (v : Value) (xs : List Int) : Prop := w.ownsRow base 3 1 v xs.length (xs.flatMap viC)

end Go.Proofs.Ytefpmcbpodlabaa

/- maps.Keys of the map of those who wait, collected. -/
namespace Go.Proofs.Ytefpmcbpodlabaa
open Go.RowKit Go.Shelf Go.Maps
attribute [local go_sem] Oper.semAt_some

abbrev encK (x : Int) : Array Value := #[vi x]
def markLG (Ds : List Nat) : List Deferred := Ds.map fun D => { target := .collected D, args := #[] }

theorem leaves_marksG {P : Program} {F : Fence} {n : Nat} {fn : Func} {tmps : Array Value} {R : Ending → World → Prop} : ∀ (Ds : List Nat) (w : World), (∀ D ∈ Ds, w.heap[D]? = some (.deferred (some []))) → Ds.Nodup →
    (∀ w' : World, w'.os = w.os → w'.tape = w.tape → w'.output = w.output → w'.heap.size = w.heap.size → (∀ k, k ∉ Ds → w'.heap[k]? = w.heap[k]?) → LeavesIn F n P fn tmps R [] .returning w') → LeavesInM F n P fn tmps R (markLG Ds) .returning w
  | [], w, _, _, h => h w rfl rfl rfl rfl (fun _ _ => rfl)
  | D :: Ds, w, hD, hn, h => by
    refine ⟨by simp, .inl ⟨D, w.putObj D (.deferred none), rfl, run_takeDeferred (hD D (by simp)), ?_⟩⟩
    have hnd := List.nodup_cons.1 hn
    have hput : ∀ k, k ≠ D → (w.putObj D (.deferred none)).heap[k]? = w.heap[k]? := fun k hk => by
      unfold World.putObj; simp only [Array.getElem?_setIfInBounds]; rw [if_neg (fun e => hk e.symm)]
    refine leaves_marksG Ds _ (fun D' h' => by rw [hput D' (fun e => hnd.1 (e ▸ h'))]; exact hD D' (by simp [h'])) hnd.2 (fun w' h1 h2 h3 h4 h5 => h w' (h1.trans rfl) (h2.trans rfl) (h3.trans rfl) (by rw [h4]; simp [World.putObj]) (fun k hk => by
      rw [h5 k (fun e => hk (by simp [e])), hput k (fun e => hk (by simp [e]))]))

theorem keep_cellsG {A B : World} {row : Option Nat} {b : Nat} {cs : Array Value} {T : TypeId} (h : A.heap[b]? = some (.cells cs T)) (hg : A.grownBy B row) (hr : ∀ r, row = some r → ∃ o : Obj, A.heap[r]? = some o ∧ o.isCells = false) : B.heap[b]? = some (.cells cs T) := by
  rw [hg.block b (Array.getElem?_eq_some_iff.1 h).1 (fun e => by
    obtain ⟨o, ho, hc⟩ := hr b e.symm
    rw [h] at ho; cases ho; cases hc)]
  exact h

theorem nodup_le {α : Type} [DecidableEq α] : ∀ (V L : List α), V.Nodup → (∀ x ∈ V, x ∈ L) → V.length ≤ L.length
  | [], _, _, _ => Nat.zero_le _
  | x :: V, L, h, hs => by
    have hx := hs x (by simp)
    have h2 := List.nodup_cons.1 h
    have := nodup_le V (L.erase x) h2.2 (fun y hy => (List.mem_erase_of_ne (fun e : y = x => h2.1 (by rw [← e]; exact hy))).2 (hs y (by simp [hy])))
    rw [List.length_erase_of_mem hx] at this
    have := List.length_pos_of_mem hx
    simp only [List.length_cons]; omega

theorem RangeT.obj {κ ν : Type} {P : Program} {k : TypeId} {eK : κ → Value} {eV : ν → Value} {w : World} {b r : Nat} {L V : List (κ × ν)} (h : RangeT P k eK eV w b r L V) : (∃ o, w.heap[r]? = some o ∧ o.isWalk = true) ∧ (∃ o, w.heap[b]? = some o ∧ o.isWalk = true) := by
  obtain ⟨es, clock, since, seen, c0, hb, _, _, _, hr, _⟩ := h
  exact ⟨⟨_, hr, rfl⟩, ⟨_, hb, rfl⟩⟩
theorem RangeT.walks {κ ν : Type} {P : Program} {k : TypeId} {eK : κ → Value} {eV : ν → Value} {w w' : World} {b r : Nat} {L V : List (κ × ν)} (h : RangeT P k eK eV w b r L V) (hk : KeepsWalks w w') : RangeT P k eK eV w' b r L V ∧ w'.rangeLeft b r = w.rangeLeft b r := by
  obtain ⟨⟨o, ho, hw⟩, ⟨o2, ho2, hw2⟩⟩ := h.obj
  have e1 : w'.heap[b]? = w.heap[b]? := (hk.same _ _ ho2 hw2).trans ho2.symm
  have e2 : w'.heap[r]? = w.heap[r]? := (hk.same _ _ ho hw).trans ho.symm
  exact ⟨h.frame e1 e2, rangeLeft_frame e1 e2⟩
theorem RangeT.sub {κ ν : Type} {P : Program} {k : TypeId} {eK : κ → Value} {eV : ν → Value} {w : World} {b r : Nat} {L V : List (κ × ν)} (h : RangeT P k eK eV w b r L V) : (∀ p ∈ V, p ∈ L) ∧ V.Pairwise (fun p q => p.1 ≠ q.1) := by
  obtain ⟨es, clock, since, seen, c0, _, _, _, _, _, _, _, _, _, h1, h2⟩ := h
  exact ⟨h1, h2⟩
theorem keys_nodup {ν : Type} {L : List (Int × ν)} (h : L.Pairwise (fun p q => p.1 ≠ q.1)) : (L.map (·.1)).Nodup := by
  rw [List.nodup_iff_pairwise_ne]
  exact List.pairwise_map.2 h

end Go.Proofs.Ytefpmcbpodlabaa

/- slices.AppendSeq and slices.Collect over the keys of the map of those who wait. -/
namespace Go.Proofs.Ytefpmcbpodlabaa
open Go.RowKit Go.Shelf Go.Maps
attribute [local go_sem] Oper.semAt_some

/-- What AppendSeq keeps of memory: its boxed answer so far. -/
structure StL (w : World) (acc : List Int) (W : World) : Prop where
  out : ∃ vo, W.heap[w.heap.size]? = some (.cells #[vo] 32) ∧ OwI (w.heap.size + 1) W vo acc
  size : w.heap.size + 1 ≤ W.heap.size
  below : Below w.heap.size w W

theorem stL_own {w : World} {acc : List Int} {base : Nat} (hb : w.heap.size ≤ base) {A B : World} {row : Option Nat} (h : StL w acc A) (hg : A.grownBy B row)
    (hr : ∀ r, row = some r → base ≤ r ∧ ∃ o : Obj, A.heap[r]? = some o ∧ o.isCells = false) : StL w acc B := by
  have hr' : ∀ r, row = some r → ∃ o : Obj, A.heap[r]? = some o ∧ o.isCells = false := fun r e => (hr r e).2
  obtain ⟨vo, ho, hrow⟩ := h.out
  refine ⟨⟨vo, keep_cellsG ho hg hr', ?_⟩, Nat.le_trans h.size hg.size, h.below.grown hg h.below.size (fun j hj => Nat.le_trans hb (hr j hj).1)⟩
  refine ⟨hrow.1, ?_⟩
  rcases hrow.2 with h2 | ⟨g, cp, cur, hv, hg2, hh, r⟩
  · exact .inl h2
  · exact .inr ⟨g, cp, cur, hv, hg2, keep_cellsG hh hg hr', r⟩

theorem StL.alloc {w W : World} {acc : List Int} (h : StL w acc W) (o : Obj) : StL w acc (W.alloc o) := by
  have hs := h.size
  obtain ⟨vo, ho, hrow⟩ := h.out
  exact ⟨⟨vo, by rw [Below.heap_alloc _ _ _ (by omega)]; exact ho, World.ownsRow.alloc hrow _⟩, by simp; omega, h.below.alloc (by omega) _⟩

theorem stL_put {w W w1 : World} {vo v' : Value} {acc : List Int} {x : Int} {o : Obj} (h : StL w acc W) (hrow0 : OwI (w.heap.size + 1) W vo acc) (ho : W.heap[w.heap.size]? = some (.cells #[vo] 32))
    (hg : (W.alloc o).grownBy w1 vo.ownBlock) (hrow : w1.ownsRow (w.heap.size + 1) 3 1 v' (acc.length + 1) (acc.flatMap viC ++ viC x)) : StL w (acc ++ [x]) (w1.setCell ⟨w.heap.size, 0, none⟩ v') := by
  have hs := h.size
  have hlt : ∀ j, vo.ownBlock = some j → w.heap.size + 1 ≤ j ∧ j < W.heap.size := fun j hj => World.ownsRow.lt hrow0 j hj
  refine ⟨⟨v', ?_, ?_⟩, ?_, ?_⟩
  · have : w1.heap[w.heap.size]? = some (.cells #[vo] 32) := by
      rw [hg.block _ (by simp; omega) (fun e => by have := hlt _ e.symm; omega), Below.heap_alloc _ _ _ (by omega)]; exact ho
    simp [World.setCell, Array.getElem?_modify, this]
  · unfold OwI
    rw [List.length_append, List.flatMap_append]
    have := ownsRow_setCell_below hrow (a := ⟨w.heap.size, 0, none⟩) (by show w.heap.size < _; omega) v'
    simpa using this
  · have := hg.size; simp [World.setCell] at this ⊢; omega
  · exact ((h.below.alloc (by omega) o).grown hg (by simp; omega) (fun j hj => by have := hlt j hj; omega)).setCell (Nat.le_refl _) _

theorem keeps_put {W w1 : World} {vo v' : Value} {base : Nat} {acc : List Int} {o : Obj} {a : Addr} (hrow0 : OwI base W vo acc) (ho : ∃ cs T, W.heap[a.block]? = some (.cells cs T))
    (hg : (W.alloc o).grownBy w1 vo.ownBlock) : KeepsOthers W (w1.setCell a v') := by
  obtain ⟨cs, T, ho⟩ := ho
  refine ⟨?_, fun j o' hj hc => ?_⟩
  · have := hg.size; simp [World.setCell] at this ⊢; omega
  · have hne : j ≠ a.block := fun e => by subst e; rw [ho] at hj; cases hj; cases hc
    rw [Below.heap_setCell _ _ _ _ hne, hg.block j (by simp; have := (Array.getElem?_eq_some_iff.1 hj).1; omega) ?_, Below.heap_alloc _ _ _ (Array.getElem?_eq_some_iff.1 hj).1]
    · exact hj
    · intro e
      rcases hrow0.2 with ⟨e2, _⟩ | ⟨g, cp, cur, e2, _, hh, _⟩
      · rw [e2] at e; cases e
      · rw [e2] at e; cases e
        rw [hh] at hj; cases hj; cases hc
theorem keepsW {W W' : World} (h : KeepsOthers W W') : KeepsWalks W W' := ⟨h.size, fun k o hk ho => h.same k o hk (Obj.not_cells_of_walk ho)⟩

end Go.Proofs.Ytefpmcbpodlabaa
