/- Words on memory for the proofs of this seat: how a slice of integers reads, and that it stays so while only new memory is made. -/
import Derived.Test.YtkobpjndkgjcjaaRows
import Derived.Test.YtkobpjndkgjcjaaMem
import Derived.WalkKit
import Derived.Outline
import Derived.Lib.Hide
namespace Go.Proofs.Ytkobpjndkgjcjaa
open Go.RowKit

/-- The slice value v reads as the integers xs. -/
def RdI (w : World) (v : Value) (xs : List Int) : Prop :=
  ∃ a len cap, v = .slice a len cap ∧ len = xs.length ∧ xs.length ≤ 9223372036854775807 ∧ len ≤ cap ∧ (a = none → len = 0 ∧ cap = 0) ∧
    ∀ j x, xs[j]? = some x → ∃ b off, a = some ⟨b, off, none⟩ ∧ w.cell? ⟨b, off + j, none⟩ = some (.int .i64 x)

theorem RdI.below {w w' : World} {v : Value} {xs : List Int} (h : RdI w v xs) (hb : Below w.heap.size w w') : RdI w' v xs := by
  obtain ⟨a, len, cap, h1, h2, h3, h3', h3'', h4⟩ := h
  refine ⟨a, len, cap, h1, h2, h3, h3', h3'', fun j x hj => ?_⟩
  obtain ⟨b, off, ha, hc⟩ := h4 j x hj
  refine ⟨b, off, ha, ?_⟩
  rw [hb.cell (p := ⟨b, off + j, none⟩) (World.block_lt_of_cell? w _ hc)]
  exact hc

/-- The call owns the slice value v: integers xs, in a block from base on (or nil). -/
def OwI (base : Nat) (w : World) (v : Value) (xs : List Int) : Prop := w.ownsRow base 3 1 v xs.length (xs.map (Value.int .i64))

theorem OwI.rd {base : Nat} {w : World} {v : Value} {xs : List Int} (h : OwI base w v xs) : RdI w v xs := by
  obtain ⟨h1, h2⟩ := id h
  rcases h2 with ⟨hv, h0⟩ | ⟨g, cap, cur, hv, hg, hh, hn, hm, hs, ht⟩
  · have : xs = [] := List.length_eq_zero_iff.1 h0
    subst this
    exact ⟨none, 0, 0, hv, rfl, by simp, Nat.le_refl _, fun _ => ⟨rfl, rfl⟩, fun j x hj => by simp at hj⟩
  · refine ⟨some ⟨g, 0, none⟩, xs.length, cap, hv, rfl, by simp only [maxLen] at hm; omega, hn, fun h => (by cases h), fun j x hj => ⟨g, 0, rfl, ?_⟩⟩
    have := World.ownsRow.cells h (g := g) (by rw [hv]; rfl) j (.int .i64 x) (by simp [hj])
    have hadd : (⟨g, 0, none⟩ : Addr).add j = ⟨g, 0 + j, none⟩ := by unfold Addr.add; split <;> simp_all
    rwa [hadd] at this

theorem OwI.below {b : Nat} {w w' : World} {v : Value} {xs : List Int} (h : OwI b w v xs) (hb : Below w.heap.size w w') : OwI b w' v xs := by
  refine ⟨h.1, ?_⟩
  rcases h.2 with h2 | ⟨g, cap, cur, hv, hg, hh, r⟩
  · exact .inl h2
  · exact .inr ⟨g, cap, cur, hv, hg, by rw [hb.block g (Array.getElem?_eq_some_iff.1 hh).1]; exact hh, r⟩

theorem ret_bool {a b : Bool} (h : a = b) : Ending.returned (.bool a) = .returned (.bool b) := by rw [h]
theorem ret_int {k : IntKind} {a b : Int} (h : a = b) : Ending.returned (.int k a) = .returned (.int k b) := by rw [h]
theorem some_at {α : Type} {l : List α} {k : Nat} (h : k < l.length) : ∃ x, l[k]? = some x := ⟨l[k], List.getElem?_eq_getElem h⟩
theorem take_at {α : Type} {l : List α} {k : Nat} {x : α} (h : l[k]? = some x) : l.take (k + 1) = l.take k ++ [x] := by
  rw [List.take_add_one, h]; rfl
end Go.Proofs.Ytkobpjndkgjcjaa
