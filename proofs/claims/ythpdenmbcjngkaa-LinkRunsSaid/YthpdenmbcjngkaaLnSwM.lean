/- The law LinkRuns: what a step's own writes leave of the net, of the lists and of the bytes. -/
import Derived.Test.YthpdenmbcjngkaaLnTail
namespace Go.Proofs.Ythpdenmbcjngkaa.linkRuns
open Go.RowKit Go.Maps
attribute [local go_sem] Oper.semAt_some

/-- A block that holds cells of such a type. -/
def Typed (A : World) (r : Option Nat) (T : TypeId) : Prop := ∀ g, r = some g → ∃ cs, A.heap[g]? = some (.cells cs T)
theorem grown_trans {A B D : World} {r : Option Nat} (h : A.grownBy B r) (k : B.grownBy D r) : A.grownBy D r :=
  ⟨k.os.trans h.os, k.tape.trans h.tape, k.output.trans h.output, Nat.le_trans h.size k.size, fun j hj hr => (k.block j (Nat.lt_of_lt_of_le hj h.size) hr).trans (h.block j hj hr)⟩
theorem row_typed {A : World} {b e size n : Nat} {v : Value} {xs : List Value} (h : A.ownsRow b e size v n xs) : Typed A v.ownBlock e := by
  intro g hg
  rcases h.2 with ⟨hv, _⟩ | ⟨g', cap, cur, hv, _, hh, _⟩
  · rw [hv] at hg; simp [Value.ownBlock] at hg
  · rw [hv] at hg
    have : g' = g := by simpa [Value.ownBlock] using hg
    subst this
    exact ⟨cur, hh⟩
theorem own_typed {base size n : Nat} {e T : TypeId} {A B : World} {v : Value} {xs : List Value} {r : Option Nat} (h : A.ownsRow base e size v n xs) (hg : A.grownBy B r) (ht : Typed A r T) (hT : T ≠ e) : B.ownsRow base e size v n xs := by
  cases r with
  | none => exact World.ownsRow.kept h hg (by cases hv : v.ownBlock <;> simp)
  | some g =>
    obtain ⟨cs, hcs⟩ := ht g rfl
    exact own_wrote h hg hcs hT
theorem net_typed {base p mw ma : Nat} {L : Ways} {C : List (LK × Bool)} {n lost : Int} {A B : World} {T : TypeId} {r : Option Nat} (h : NetS base p mw ma L C n lost A) (hg : A.grownBy B r) (ht : Typed A r T) (h1 : T ≠ 56) (h2 : T ≠ 30) (h3 : T ≠ 5) : NetS base p mw ma L C n lost B := by
  obtain ⟨es1, c1, ho1⟩ := h.mem.ways.obj
  obtain ⟨es2, c2, ho2⟩ := h.mem.apart.obj
  have ne : ∀ (j : Nat) (o : Obj), A.heap[j]? = some o → (∀ cs, o ≠ .cells cs T) → some j ≠ r := by
    intro j o hj ho e
    obtain ⟨cs, hcs⟩ := ht j e.symm
    rw [hj] at hcs; cases hcs
    exact ho cs rfl
  refine ⟨⟨(hg.block p (Array.getElem?_eq_some_iff.1 h.mem.blk).1 (ne p _ h.mem.blk (fun cs e => by cases e; exact h1 rfl))).trans h.mem.blk, h.mem.ways.kept hg (ne _ _ ho1 (fun cs => by simp)), h.mem.apart.kept hg (ne _ _ ho2 (fun cs => by simp)), fun x hx => ?_, h.mem.rows, h.mem.bp, h.mem.bw, h.mem.ba, h.mem.wa⟩, h.ne, h.cnt⟩
  exact ⟨own_typed (h.mem.way x hx).row hg ht h2, fun m hm => own_typed ((h.mem.way x hx).msgs m hm) hg ht h3⟩
/-- Bytes that the net has not are written. -/
theorem net_bytes {base p mw ma : Nat} {L : Ways} {C : List (LK × Bool)} {n lost : Int} {A B : World} {r : Option Nat} (h : NetS base p mw ma L C n lost A) (hg : A.grownBy B r) (ht : Typed A r 5) (hne : ∀ g, r = some g → ∀ x ∈ L, ∀ m ∈ x.2.2, m.1.ownBlock ≠ some g) : NetS base p mw ma L C n lost B := by
  cases r with
  | none => exact h.later ((Below.refl A.heap.size A).grown hg (Nat.le_refl _) (fun j hj => by cases hj))
  | some g => exact ⟨h.mem.wrote hg (ht g rfl) (hne g rfl), h.ne, h.cnt⟩
theorem block_kept {A B : World} {r : Option Nat} (hg : A.grownBy B r) {j : Nat} {o : Obj} (hj : A.heap[j]? = some o) (hne : some j ≠ r) : B.heap[j]? = some o := (hg.block j (Array.getElem?_eq_some_iff.1 hj).1 hne).trans hj
theorem typed_ne {A : World} {r : Option Nat} {T S : TypeId} (ht : Typed A r T) {j : Nat} {cs : Array Value} (hj : A.heap[j]? = some (.cells cs S)) (hTS : S ≠ T) : some j ≠ r := by
  intro e
  obtain ⟨cs', h⟩ := ht j e.symm
  rw [hj] at h; cases h
  exact hTS rfl
/-- The list behind an append. -/
theorem ItemsS.push {b : Nat} {A B : World} {va v' : Value} {J K : List Itm} (h : ItemsS b A va J) (hg : A.grownBy B va.ownBlock) (hr : B.ownsRow b 45 3 v' (J.length + K.length) (J.flatMap itV ++ K.flatMap itV)) (hk : ∀ x ∈ K, OwB b A x.2.1 (byteI x.2.2)) : ItemsS b B v' (J ++ K) := by
  have ht := row_typed h.row
  refine ⟨by rw [List.length_append, List.flatMap_append]; exact hr, fun x hx => ?_⟩
  rcases List.mem_append.1 hx with hx | hx
  · exact own_typed (h.bytes x hx) hg ht (by decide)
  · exact own_typed (hk x hx) hg ht (by decide)
/-- A byte of a row is written. -/
theorem own_set {b : Nat} {w : World} {a : Option Addr} {len c : Nat} {cs : List Int} {g : Nat} (h : OwB b w (.slice a len c) cs) (ha : a = some ⟨g, 0, none⟩) {k : Nat} (hk : k < cs.length) (z : Int) : OwB b (w.setCell ⟨g, k, none⟩ (u8 z)) (.slice a len c) (cs.set k z) ∧ w.grownBy (w.setCell ⟨g, k, none⟩ (u8 z)) (Value.slice a len c).ownBlock ∧ (∃ cur, w.heap[g]? = some (.cells cur 5)) := by
  subst ha
  rcases h.2 with ⟨hv, _⟩ | ⟨g', cap, cur, hv, hg, hh, hn, hm, hs, ht⟩
  · cases hv
  · cases hv
    have hcur : (cur.set! k (u8 z)).size = c * 1 := by simpa using hs
    refine ⟨⟨by simp, .inr ⟨g, c, cur.set! k (u8 z), by simp, hg, heap_setCell_same w g k _ _ _ hh, by simpa using hn, hm, hcur, ?_⟩⟩, ⟨rfl, rfl, rfl, by simp, fun j _ hj => heap_setCell_other w ⟨g, k, none⟩ j _ (fun e => hj (by simp [Value.ownBlock, e]))⟩, ⟨cur, hh⟩⟩
    have e1 : (cur.set! k (u8 z)).toList = cur.toList.set k (u8 z) := by simp
    rw [e1, List.map_set, ← ht, List.length_set, List.take_set]
end Go.Proofs.Ythpdenmbcjngkaa.linkRuns
