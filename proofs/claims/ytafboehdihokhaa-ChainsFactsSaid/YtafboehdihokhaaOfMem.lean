/- What crucibleref05.Of keeps of memory and of the history. Names no function. -/
import Derived.Test.YtafboehdihokhaaTwice
import Derived.Test.YtafboehdihokhaaAnswer
namespace Go.Proofs.Ytafboehdihokhaa
open Go.RowKit Go.Maps

abbrev TxL := List (GTxn × Value)
def txV (p : GTxn × Value) : List Value := [vi p.1.client, vi p.1.state, p.2]
theorem txV_length (p : GTxn × Value) : (txV p).length = 3 := rfl
theorem Try.infoTxn : (Try.prog.info? 62).map (fun i => (i.zero, i.size, i.bytes)) = some (some (.agg #[vi 0, vi 0, .slice none 0 0]), 3, 40) := by kernel_rfl
theorem eltTxn : Elt Try.prog 24 62 3 40 (.agg #[vi 0, vi 0, .slice none 0 0]) := by
  obtain ⟨i0, hi, hz0, hz1, hz2⟩ := info_parts Try.infoTxn
  exact ⟨Try.underlying24, by decide, rfl, i0, hi, hz0, hz1, hz2⟩
theorem Try.infoInt : (Try.prog.info? 3).map (fun i => (i.zero, i.size, i.bytes)) = some (some (vi 0), 1, 8) := by kernel_rfl
theorem eltInt : Elt Try.prog 36 3 1 8 (vi 0) := by
  obtain ⟨i0, hi, hz0, hz1, hz2⟩ := info_parts Try.infoInt
  exact ⟨Try.underlying36, by decide, rfl, i0, hi, hz0, hz1, hz2⟩

/-- Rows of two kinds lie in two blocks. -/
theorem rows_apart {w : World} {b b' e e' m m' n n' : Nat} {v v' : Value} {xs xs' : List Value} (h : w.ownsRow b e m v n xs) (h' : w.ownsRow b' e' m' v' n' xs') (he : e ≠ e') : v'.ownBlock = none ∨ v'.ownBlock ≠ v.ownBlock := by
  rcases h'.2 with ⟨hv', _⟩ | ⟨g', cap', cur', hv', _, hh', _⟩
  · left; rw [hv']; rfl
  · right
    rcases h.2 with ⟨hv, _⟩ | ⟨g, cap, cur, hv, _, hh, _⟩
    · rw [hv, hv']; simp [Value.ownBlock]
    · rw [hv, hv']
      intro e1
      have : g' = g := by simpa [Value.ownBlock] using e1
      subst this
      rw [hh] at hh'
      simp at hh'
      exact he hh'.2

/-- A block of another kind stays while an owned row is written. -/
theorem own_box {A B : World} {b n m bx : Nat} {e T : TypeId} {v : Value} {xs : List Value} {cs : Array Value} (h : A.ownsRow b e n v m xs) (hbx : A.heap[bx]? = some (.cells cs T)) (hT : T ≠ e) (hg : A.grownBy B v.ownBlock) : B.heap[bx]? = some (.cells cs T) := by
  rw [hg.block bx (Array.getElem?_eq_some_iff.1 hbx).1, hbx]
  intro hc
  rcases h.2 with ⟨hv, _⟩ | ⟨g, cap, cur, hv, _, hh, _⟩
  · rw [hv] at hc; simp [Value.ownBlock] at hc
  · rw [hv] at hc
    have : bx = g := by simpa [Value.ownBlock] using hc
    subst this
    rw [hbx] at hh
    simp at hh
    exact hT hh.2

structure OfS (w : World) (vo vf : Value) (L : TxL) (F : List Nat) (W : World) : Prop where
  out : W.ownsRow w.heap.size 62 3 vo L.length (L.flatMap txV)
  ops : ∀ p ∈ L, OwOps w.heap.size W p.2 p.1.ops
  frm : W.ownsRow w.heap.size 3 1 vf F.length (F.map (fun n : Nat => vi (n : Int)))
  below : Below w.heap.size w W
theorem OfS.later {w A B : World} {vo vf : Value} {L : TxL} {F : List Nat} (h : OfS w vo vf L F A) (hb : Below A.heap.size A B) : OfS w vo vf L F B :=
  ⟨own_below h.out hb, fun p hp => own_below (h.ops p hp) hb, own_below h.frm hb, h.below.trans (hb.mono h.below.size)⟩
theorem OfS.more {w A : World} {vo vf : Value} {L : TxL} {F : List Nat} (h : OfS w vo vf L F A) (o : Obj) : OfS w vo vf L F (A.alloc o) := h.later ((Below.refl _ _).alloc (Nat.le_refl _) _)
/-- The transactions are written; those that stand there now have their operations in memory that was there. -/
theorem OfS.wrote {w A B : World} {vo vo' vf : Value} {L L' : TxL} {F : List Nat} (h : OfS w vo vf L F A) (hg : A.grownBy B vo.ownBlock) (ho : B.ownsRow w.heap.size 62 3 vo' L'.length (L'.flatMap txV)) (hops : ∀ p ∈ L', OwOps w.heap.size A p.2 p.1.ops) : OfS w vo' vf L' F B :=
  ⟨ho, fun p hp => World.ownsRow.kept (hops p hp) hg (rows_apart h.out (hops p hp) (by decide)), World.ownsRow.kept h.frm hg (rows_apart h.out h.frm (by decide)), h.below.grown hg h.below.size (fun j hj => (World.ownsRow.lt h.out j hj).1)⟩
theorem OfS.from' {w A B : World} {vo vf vf' : Value} {L : TxL} {F F' : List Nat} (h : OfS w vo vf L F A) (hg : A.grownBy B vf.ownBlock) (ho : B.ownsRow w.heap.size 3 1 vf' F'.length (F'.map (fun n : Nat => vi (n : Int)))) : OfS w vo vf' L F' B :=
  ⟨World.ownsRow.kept h.out hg (rows_apart h.frm h.out (by decide)), fun p hp => World.ownsRow.kept (h.ops p hp) hg (rows_apart h.frm (h.ops p hp) (by decide)), ho, h.below.grown hg h.below.size (fun j hj => (World.ownsRow.lt h.frm j hj).1)⟩

theorem OfS.rd {w A : World} {vo vf : Value} {L : TxL} {F : List Nat} (h : OfS w vo vf L F A) : RdTxns A vo (L.map (·.1)) := by
  obtain ⟨a, len, cap, h1, h2, h3, h4, h5, h6⟩ := rds_of_own (V := txV) txV_length h.out
  refine ⟨a, len, cap, h1, by simpa using h2, by simpa using h3, h4, h5, fun j x hj => ?_⟩
  rw [List.getElem?_map, Option.map_eq_some_iff] at hj
  obtain ⟨p, hp, rfl⟩ := hj
  obtain ⟨b, off, cs, ha, hl, hc, rfl⟩ := h6 j p hp
  exact ⟨b, off, _, ha, hl, hc, p.2, rfl, (h.ops p (List.mem_of_getElem? hp)).rd⟩

/-- What is known of the transactions that were made of the events ahead of place i. -/
structure OfInv (es : List GEvent) (i : Nat) (L : List GTxn) (F : List Nat) : Prop where
  len : L.length = F.length
  le : F.length ≤ i
  ev : ∀ (j : Nat) (e : GEvent), j < i → es[j]? = some e → GoodEv e ∧ (e.kind = 1 → FreshN es e.ops j e.ops.length)
  lt : ∀ f ∈ F, f < i
  inj : ∀ (a b f : Nat), F[a]? = some f → F[b]? = some f → a = b
  txn : ∀ (j : Nat) (t : GTxn) (f : Nat), L[j]? = some t → F[j]? = some f → (0 ≤ t.state ∧ t.state ≤ 2) ∧ (∀ o ∈ t.ops, GoodOp o) ∧ t.ops.length ≤ 12 ∧ ∃ e, es[f]? = some e ∧ e.kind = 1 ∧ e.ops.length = t.ops.length ∧ ShapeN e.ops t.ops t.ops.length

theorem shapeN_refl (l : List GOp) (n : Nat) : ShapeN l l n := fun i o p _ ho hp => by rw [ho] at hp; cases hp; exact ⟨rfl, rfl, fun _ => rfl⟩

theorem OfInv.start (es : List GEvent) : OfInv es 0 [] [] := ⟨rfl, Nat.le_refl _, fun j e h => absurd h (Nat.not_lt_zero _), (fun f h => by cases h), (fun a b f h => by simp at h), (fun j t f h => by simp at h)⟩
/-- An event that begins nothing. -/
theorem OfInv.over {es : List GEvent} {i : Nat} {L : List GTxn} {F : List Nat} {e : GEvent} (h : OfInv es i L F) (he : es[i]? = some e) (hg : GoodEv e) (hk : e.kind = 1 → FreshN es e.ops i e.ops.length) : OfInv es (i + 1) L F := by
  refine ⟨h.len, by have := h.le; omega, fun j e' hj he' => ?_, fun f hf => by have := h.lt f hf; omega, h.inj, h.txn⟩
  rcases Nat.lt_or_ge j i with h' | h'
  · exact h.ev j e' h' he'
  · obtain rfl : j = i := by omega
    rw [he] at he'; cases he'
    exact ⟨hg, hk⟩
/-- An event that begins a transaction. -/
theorem OfInv.begun {es : List GEvent} {i : Nat} {L : List GTxn} {F : List Nat} {e : GEvent} (h : OfInv es i L F) (he : es[i]? = some e) (hg : GoodEv e) (h1 : e.kind = 1) (hk : FreshN es e.ops i e.ops.length) : OfInv es (i + 1) (L ++ [⟨e.client, 0, e.ops⟩]) (F ++ [i]) := by
  have h0 := h.over he hg (fun _ => hk)
  refine ⟨by simp [h.len], by have := h.le; simp; omega, h0.ev, ?_, ?_, ?_⟩
  · intro f hf
    rw [List.mem_append] at hf
    rcases hf with hf | hf
    · exact h0.lt f hf
    · simp at hf; omega
  · intro a b f ha hb
    rw [List.getElem?_append] at ha hb
    split at ha <;> split at hb
    · exact h.inj a b f ha hb
    · have := h.lt f (List.mem_of_getElem? ha)
      have := List.mem_of_getElem? hb
      simp at this; omega
    · have := h.lt f (List.mem_of_getElem? hb)
      have := List.mem_of_getElem? ha
      simp at this; omega
    · have ha' := (List.getElem?_eq_some_iff.1 ha).1
      have hb' := (List.getElem?_eq_some_iff.1 hb).1
      simp at ha' hb'; omega
  · intro j t f ht hf
    have hl := h.len
    rw [List.getElem?_append] at ht hf
    split at ht <;> split at hf
    · exact h.txn j t f ht hf
    · omega
    · omega
    · have hj' := (List.getElem?_eq_some_iff.1 ht).1
      have hj2 : j - L.length = 0 := by simp at hj'; omega
      rw [hj2] at ht
      rw [show j - F.length = 0 by omega] at hf
      simp at ht hf
      subst ht; subst hf
      exact ⟨⟨Int.le_refl _, by show (0 : Int) ≤ 2; decide⟩, hg.ops, hg.len, e, he, h1, rfl, shapeN_refl _ _⟩
/-- A transaction is written anew. -/
theorem OfInv.set {es : List GEvent} {i k f : Nat} {L : List GTxn} {F : List Nat} {t' : GTxn} {e : GEvent} (h : OfInv es i L F) (hf : F[k]? = some f) (hs : 0 ≤ t'.state ∧ t'.state ≤ 2) (ho : ∀ o ∈ t'.ops, GoodOp o) (hl : t'.ops.length ≤ 12) (he : es[f]? = some e) (h1 : e.kind = 1) (hlen : e.ops.length = t'.ops.length) (hsh : ShapeN e.ops t'.ops t'.ops.length) : OfInv es i (L.set k t') F := by
  refine ⟨by simp [h.len], h.le, h.ev, h.lt, h.inj, fun j t f' ht hf' => ?_⟩
  rw [List.getElem?_set] at ht
  split at ht
  · subst_vars
    rw [hf] at hf'; cases hf'
    split at ht
    · simp at ht; subst ht; exact ⟨hs, ho, hl, e, he, h1, hlen, hsh⟩
    · simp at ht
  · exact h.txn j t f' ht hf'

/-- Each written value belongs to one transaction. -/
def Uniq (ts : List GTxn) : Prop := ∀ (i j : Nat) (t u : GTxn), ts[i]? = some t → ts[j]? = some u → ∀ o ∈ t.ops, ∀ p ∈ u.ops, o.kind = 2 → p.kind = 2 → o.val = p.val → i = j
/-- What is known of a history's transactions. -/
structure GoodTs (ts : List GTxn) : Prop where
  len : ts.length ≤ 60
  txn : ∀ t ∈ ts, (0 ≤ t.state ∧ t.state ≤ 2) ∧ (∀ o ∈ t.ops, GoodOp o) ∧ t.ops.length ≤ 12
  uniq : Uniq ts
theorem OfInv.good {es : List GEvent} {i : Nat} {L : List GTxn} {F : List Nat} (h : OfInv es i L F) (hi : i ≤ 60) : GoodTs L := by
  have hl := h.len
  have hle := h.le
  have key : ∀ (a b fa fb : Nat) (t u : GTxn) (o p : GOp), L[a]? = some t → L[b]? = some u → F[a]? = some fa → F[b]? = some fb → o ∈ t.ops → p ∈ u.ops → o.kind = 2 → p.kind = 2 → o.val = p.val → ¬ fa < fb := by
    intro a b fa fb t u o p ha hb hfa hfb ho hp ho2 hp2 hv hlt
    obtain ⟨-, -, -, ea, hea, ha1, hal, has⟩ := h.txn a t fa ha hfa
    obtain ⟨-, -, -, eb, heb, hb1, hbl, hbs⟩ := h.txn b u fb hb hfb
    obtain ⟨x, hx⟩ := List.mem_iff_getElem?.1 ho
    obtain ⟨y, hy⟩ := List.mem_iff_getElem?.1 hp
    have hx1 := (List.getElem?_eq_some_iff.1 hx).1
    have hy1 := (List.getElem?_eq_some_iff.1 hy).1
    obtain ⟨o', ho'⟩ := some_at (l := ea.ops) (k := x) (by omega)
    obtain ⟨p', hp'⟩ := some_at (l := eb.ops) (k := y) (by omega)
    obtain ⟨q1, -, q3⟩ := has x o o' hx1 hx ho'
    obtain ⟨r1, -, r3⟩ := hbs y p p' hy1 hy hp'
    have hfr := (h.ev fb eb (h.lt fb (List.mem_of_getElem? hfb)) heb).2 hb1
    have := hfr y p' (by omega) hp' (by rw [← r1]; exact hp2) fa ea x o' (by omega) hea ha1 ho' (.inl hlt) (by rw [← q1]; exact ho2)
    exact this (by rw [← q3 ho2, ← r3 hp2]; exact hv)
  refine ⟨by omega, fun t ht => ?_, ?_⟩
  · obtain ⟨j, hj⟩ := List.mem_iff_getElem?.1 ht
    have hj1 := (List.getElem?_eq_some_iff.1 hj).1
    obtain ⟨f, hf⟩ := some_at (l := F) (k := j) (by omega)
    obtain ⟨h1, h2, h3, -⟩ := h.txn j t f hj hf
    exact ⟨h1, h2, h3⟩
  · intro a b t u ha hb o ho p hp ho2 hp2 hv
    have ha1 := (List.getElem?_eq_some_iff.1 ha).1
    have hb1 := (List.getElem?_eq_some_iff.1 hb).1
    obtain ⟨fa, hfa⟩ := some_at (l := F) (k := a) (by omega)
    obtain ⟨fb, hfb⟩ := some_at (l := F) (k := b) (by omega)
    have k1 := key a b fa fb t u o p ha hb hfa hfb ho hp ho2 hp2 hv
    have k2 := key b a fb fa u t p o hb ha hfb hfa hp ho hp2 ho2 hv.symm
    obtain rfl : fa = fb := by omega
    exact h.inj a b fa hfa hfb
theorem GoodTs.ok {ts : List GTxn} (h : GoodTs ts) : OkTxns ts := by
  refine ⟨by have := h.len; omega, fun t ht => ?_⟩
  obtain ⟨-, h2, h3⟩ := h.txn t ht
  refine ⟨fun o ho => ?_, by omega⟩
  have g := h2 o ho
  have := g.kind; have := g.key0; have := g.key1; have := g.val0; have := g.val1
  unfold i64
  omega
end Go.Proofs.Ytafboehdihokhaa
