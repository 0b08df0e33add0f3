/- The program's data as plain structures, how they lie in cells, and when a slice of them can be read. Names no function. -/
import Derived.Test.YtbadpfcjoobniaaArgs
import Derived.Test.YtbadpfcjoobniaaMaps
import Derived.Test.YtbadpfcjoobniaaProg
import Derived.KernelRfl
namespace Go.Proofs.Ytbadpfcjoobniaa
open Go.RowKit

structure GOp where
  kind : Int
  key : Int
  val : Int
deriving DecidableEq

structure GTxn where
  client : Int
  state : Int
  ops : List GOp
deriving DecidableEq

structure GEvent where
  kind : Int
  client : Int
  ops : List GOp
deriving DecidableEq

abbrev vi (n : Int) : Value := .int .i64 n

def opV (o : GOp) : List Value := [vi o.kind, vi o.key, vi o.val]
def EOp (_ : World) (cs : List Value) (o : GOp) : Prop := cs = opV o
abbrev RdOps (w : World) (v : Value) (l : List GOp) : Prop := RdS 3 EOp w v l

def ETxn (w : World) (cs : List Value) (t : GTxn) : Prop := ∃ v, cs = [vi t.client, vi t.state, v] ∧ RdOps w v t.ops
abbrev RdTxns (w : World) (v : Value) (l : List GTxn) : Prop := RdS 3 ETxn w v l

def EEvent (w : World) (cs : List Value) (t : GEvent) : Prop := ∃ v, cs = [vi t.kind, vi t.client, v] ∧ RdOps w v t.ops
abbrev RdEvents (w : World) (v : Value) (l : List GEvent) : Prop := RdS 3 EEvent w v l

theorem RdOps.later {w w' : World} {v : Value} {l : List GOp} (h : RdOps w v l) (hb : Below w.heap.size w w') : RdOps w' v l := RdS.below h hb fun _ _ h => h
theorem ETxn.later {w w' : World} {cs : List Value} {t : GTxn} (h : ETxn w cs t) (hb : Below w.heap.size w w') : ETxn w' cs t := by
  obtain ⟨v, h1, h2⟩ := h; exact ⟨v, h1, h2.later hb⟩
theorem EEvent.later {w w' : World} {cs : List Value} {t : GEvent} (h : EEvent w cs t) (hb : Below w.heap.size w w') : EEvent w' cs t := by
  obtain ⟨v, h1, h2⟩ := h; exact ⟨v, h1, h2.later hb⟩
theorem RdTxns.later {w w' : World} {v : Value} {l : List GTxn} (h : RdTxns w v l) (hb : Below w.heap.size w w') : RdTxns w' v l := RdS.below h hb fun _ _ h => h.later hb
theorem RdEvents.later {w w' : World} {v : Value} {l : List GEvent} (h : RdEvents w v l) (hb : Below w.heap.size w w') : RdEvents w' v l := RdS.below h hb fun _ _ h => h.later hb

/-- What a walk wants of a readable slice of three cells each. -/
theorem RdS.at3 {α : Type} {E : World → List Value → α → Prop} {w : World} {v : Value} {l : List α} (h : RdS 3 E w v l) : ∃ a len cap, v = .slice a len cap ∧ len = l.length ∧ l.length ≤ 9223372036854775807 ∧
    ∀ j x, l[j]? = some x → ∃ b off c0 c1 c2, a = some ⟨b, off, none⟩ ∧ E w [c0, c1, c2] x ∧ w.cell? ⟨b, off + j * 3, none⟩ = some c0 ∧ w.cell? ⟨b, off + j * 3 + 1, none⟩ = some c1 ∧ w.cell? ⟨b, off + j * 3 + 2, none⟩ = some c2 := by
  obtain ⟨a, len, cap, h1, h2, h3, h4, h5, h6⟩ := h
  refine ⟨a, len, cap, h1, h2, h3, fun j x hj => ?_⟩
  obtain ⟨b, off, cs, ha, hl, hc, he⟩ := h6 j x hj
  match cs, hl with
  | [c0, c1, c2], _ => exact ⟨b, off, c0, c1, c2, ha, he, hc 0 c0 rfl, hc 1 c1 rfl, hc 2 c2 rfl⟩

/-- An operation in a readable slice: its three cells. -/
theorem RdOps.at {w : World} {v : Value} {l : List GOp} (h : RdOps w v l) : ∃ a len cap, v = .slice a len cap ∧ len = l.length ∧ l.length ≤ 9223372036854775807 ∧
    ∀ j x, l[j]? = some x → ∃ b off, a = some ⟨b, off, none⟩ ∧ w.cell? ⟨b, off + j * 3, none⟩ = some (vi x.kind) ∧ w.cell? ⟨b, off + j * 3 + 1, none⟩ = some (vi x.key) ∧ w.cell? ⟨b, off + j * 3 + 2, none⟩ = some (vi x.val) := by
  obtain ⟨a, len, cap, h1, h2, h3, h6⟩ := RdS.at3 h
  refine ⟨a, len, cap, h1, h2, h3, fun j x hj => ?_⟩
  obtain ⟨b, off, c0, c1, c2, ha, he, k0, k1, k2⟩ := h6 j x hj
  simp only [EOp, opV, List.cons.injEq, and_true] at he
  obtain ⟨rfl, rfl, rfl⟩ := he
  exact ⟨b, off, ha, k0, k1, k2⟩

/-- The call owns the slice value v of operations. -/
def OwOps (base : Nat) (w : World) (v : Value) (l : List GOp) : Prop := w.ownsRow base 55 3 v l.length (l.flatMap opV)

theorem flatMap_at (l : List GOp) (j i : Nat) (x : GOp) (u : Value) (hj : l[j]? = some x) (hu : (opV x)[i]? = some u) : (l.flatMap opV)[j * 3 + i]? = some u := by
  induction l generalizing j with
  | nil => simp at hj
  | cons y l ih =>
    have hi : i < 3 := (List.getElem?_eq_some_iff.1 hu).1
    rw [List.flatMap_cons]
    cases j with
    | zero =>
      simp at hj; subst hj
      rw [List.getElem?_append_left (by simpa [opV] using hi)]
      simpa using hu
    | succ j =>
      rw [List.getElem?_append_right (by simp [opV]; omega)]
      have : (j + 1) * 3 + i - (opV y).length = j * 3 + i := by simp [opV]; omega
      rw [this]
      exact ih j (by simpa using hj)

theorem OwOps.rd {base : Nat} {w : World} {v : Value} {l : List GOp} (h : OwOps base w v l) : RdOps w v l := by
  obtain ⟨h1, h2⟩ := id h
  rcases h2 with ⟨hv, h0⟩ | ⟨g, cap, cur, hv, hg, hh, hn, hm, hs, ht⟩
  · have : l = [] := List.length_eq_zero_iff.1 h0
    subst this
    exact ⟨none, 0, 0, hv, rfl, by simp, Nat.le_refl _, fun _ => ⟨rfl, rfl⟩, fun j x hj => by simp at hj⟩
  · refine ⟨some ⟨g, 0, none⟩, l.length, cap, hv, rfl, by simp only [maxLen] at hm; omega, hn, fun h => (by cases h), fun j x hj => ⟨g, 0, opV x, rfl, rfl, fun i u hu => ?_, rfl⟩⟩
    have := World.ownsRow.cells h (g := g) (by rw [hv]; rfl) (j * 3 + i) u (flatMap_at l j i x u hj hu)
    rwa [addr_add] at this

theorem Try.infoOp : (Try.prog.info? 55).map (fun i => (i.zero, i.size, i.bytes)) = some (some (.agg #[vi 0, vi 0, vi 0]), 3, 24) := by kernel_rfl
theorem eltOp : Elt Try.prog 26 55 3 24 (.agg #[vi 0, vi 0, vi 0]) := by
  obtain ⟨i0, hi, hz0, hz1, hz2⟩ := info_parts Try.infoOp
  exact ⟨Try.underlying26, by decide, rfl, i0, hi, hz0, hz1, hz2⟩

theorem opV_one {l : List GOp} : ∀ u ∈ l.flatMap opV, u.oneCell' = true := by
  intro u hu
  obtain ⟨x, _, hx⟩ := List.mem_flatMap.1 hu
  simp [opV] at hx
  rcases hx with rfl | rfl | rfl <;> rfl

theorem flatMap_length (l : List GOp) : (l.flatMap opV).length = l.length * 3 := by
  induction l with
  | nil => rfl
  | cons x l ih => rw [List.flatMap_cons, List.length_append, ih]; simp [opV]; omega

theorem RdOps.src {w : World} {v : Value} {l : List GOp} (h : RdOps w v l) : Src w v 3 l.length (l.flatMap opV) := by
  obtain ⟨a, len, cap, rfl, rfl, hm, hlc, hn, hc⟩ := h
  refine ⟨a, cap, rfl, flatMap_length l, fun h => hn h, fun ad had j u hu => ?_⟩
  have hlt := (List.getElem?_eq_some_iff.1 hu).1
  rw [flatMap_length] at hlt
  have hj : j / 3 < l.length := by omega
  obtain ⟨x, hx⟩ : ∃ x, l[j / 3]? = some x := ⟨_, List.getElem?_eq_getElem hj⟩
  obtain ⟨b, off, cs, hb, hl, hcs, rfl⟩ := hc _ x hx
  rw [hb] at had; cases had
  obtain ⟨u', hu'⟩ : ∃ u', (opV x)[j % 3]? = some u' := ⟨_, List.getElem?_eq_getElem (by simp [opV]; omega)⟩
  have e := flatMap_at l (j / 3) (j % 3) x u' hx hu'
  have hj3 : j / 3 * 3 + j % 3 = j := by omega
  rw [hj3, hu] at e
  cases e
  have := hcs (j % 3) u hu'
  rw [hj3] at this
  rw [addr_add]; exact this

theorem ret_bool {a b : Bool} (h : a = b) : Ending.returned (.bool a) = .returned (.bool b) := by rw [h]
theorem ret_int {k : IntKind} {a b : Int} (h : a = b) : Ending.returned (.int k a) = .returned (.int k b) := by rw [h]
theorem some_at {α : Type} {l : List α} {k : Nat} (h : k < l.length) : ∃ x, l[k]? = some x := ⟨l[k], List.getElem?_eq_getElem h⟩
theorem take_at {α : Type} {l : List α} {k : Nat} {x : α} (h : l[k]? = some x) : l.take (k + 1) = l.take k ++ [x] := by
  rw [List.take_add_one, h]; rfl
end Go.Proofs.Ytbadpfcjoobniaa
