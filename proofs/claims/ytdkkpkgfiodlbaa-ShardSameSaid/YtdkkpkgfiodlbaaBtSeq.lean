/- Readings one behind the other. Plain. -/
import Derived.Test.YtdkkpkgfiodlbaaBtRd
import Derived.Test.YtdkkpkgfiodlbaaBtNumP
namespace Go.Proofs.Ytdkkpkgfiodlbaa

theorem RdOK.seq {α β : Type} {e1 : α → List Bool} {o1 : α → Prop} {e2 : β → List Bool} {o2 : β → Prop} {s s1 s2 : Rd} {x : α} {y : β} (h : RdOK e1 o1 s s1 x) (k : RdOK e2 o2 s1 s2 y) :
    RdOK (fun z : α × β => e1 z.1 ++ e2 z.2) (fun z => o1 z.1 ∧ o2 z.2) s s2 (x, y) := by
  refine ⟨fun h0 z t hz e => ?_, fun h0 => ?_⟩
  · obtain ⟨a, b, c⟩ := h.1 h0 z.1 (e2 z.2 ++ t) hz.1 (by rw [e, List.append_assoc])
    obtain ⟨a', b', c'⟩ := k.1 c z.2 t hz.2 b
    exact ⟨by rw [a, a'], b', c'⟩
  · obtain ⟨a, b, c⟩ := k.2 h0
    obtain ⟨a', b', c'⟩ := h.2 a
    exact ⟨a', ⟨b', b⟩, by rw [c', c, List.append_assoc]⟩
/-- The same reading told of another kind of thing. -/
theorem RdOK.map {α β : Type} {e1 : α → List Bool} {o1 : α → Prop} {e2 : β → List Bool} {o2 : β → Prop} {s s1 : Rd} {x : α} (h : RdOK e1 o1 s s1 x) (f : α → β) (g : β → α) (hg : ∀ y, o2 y → o1 (g y) ∧ e2 y = e1 (g y) ∧ f (g y) = y) (hf : ∀ x, o1 x → o2 (f x) ∧ e2 (f x) = e1 x) : RdOK e2 o2 s s1 (f x) := by
  refine ⟨fun h0 y t hy e => ?_, fun h0 => ?_⟩
  · obtain ⟨p, q, r⟩ := hg y hy
    obtain ⟨a, b, c⟩ := h.1 h0 (g y) t p (by rw [e, q])
    exact ⟨by rw [a, r], b, c⟩
  · obtain ⟨a, b, c⟩ := h.2 h0
    obtain ⟨p, q⟩ := hf x b
    exact ⟨a, p, by rw [q, c]⟩
abbrev LenOk {α : Type} (ok : α → Prop) (n : Nat) (l : List α) : Prop := l.length = n ∧ ∀ x ∈ l, ok x
theorem RdOK.none {α : Type} {enc : α → List Bool} {ok : α → Prop} (s : Rd) : RdOK (fun l : List α => l.flatMap enc) (LenOk ok 0) s s [] := by
  refine ⟨fun h0 y t hy e => ?_, fun h0 => ⟨h0, ⟨rfl, fun x h => by cases h⟩, by simp⟩⟩
  obtain rfl := List.length_eq_zero_iff.1 hy.1
  exact ⟨rfl, by simpa using e, h0⟩
theorem RdOK.snoc {α : Type} {enc : α → List Bool} {ok : α → Prop} {k : Nat} {s s1 s2 : Rd} {l : List α} {x : α} (h : RdOK (fun l : List α => l.flatMap enc) (LenOk ok k) s s1 l) (hx : RdOK enc ok s1 s2 x) :
    RdOK (fun l : List α => l.flatMap enc) (LenOk ok (k + 1)) s s2 (l ++ [x]) := by
  refine ⟨fun h0 y t hy e => ?_, fun h0 => ?_⟩
  · obtain ⟨l', x', rfl⟩ : ∃ l' x', y = l' ++ [x'] := by
      have hne : y ≠ [] := fun e => by have := hy.1; rw [e] at this; cases this
      exact ⟨y.dropLast, y.getLast hne, (List.dropLast_concat_getLast hne).symm⟩
    have hl : l'.length = k := by have := hy.1; simp at this; exact this
    obtain ⟨a, b, c⟩ := h.1 h0 l' (enc x' ++ t) ⟨hl, fun z hz => hy.2 z (by simp [hz])⟩ (by rw [e]; simp)
    obtain ⟨a', b', c'⟩ := hx.1 c x' t (hy.2 x' (by simp)) b
    exact ⟨by rw [a, a'], b', c'⟩
  · obtain ⟨a, b, c⟩ := hx.2 h0
    obtain ⟨a', b', c'⟩ := h.2 a
    refine ⟨a', ⟨by simp [b'.1], fun z hz => ?_⟩, by rw [c', c]; simp⟩
    rcases List.mem_append.1 hz with hz | hz
    · exact b'.2 z hz
    · simp at hz; subst hz; exact b
theorem RdOK.cut {α : Type} {enc : α → List Bool} {ok : α → Prop} {k n : Nat} {s s1 : Rd} {l : List α} (h : RdOK (fun l : List α => l.flatMap enc) (LenOk ok k) s s1 l) (hb : s1.bad ≠ 0) (hk : k ≤ n) :
    RdOK (fun l : List α => l.flatMap enc) (LenOk ok n) s s1 l := by
  refine ⟨fun h0 y t hy e => ?_, fun h0 => absurd h0 hb⟩
  obtain ⟨a, b, c⟩ := h.1 h0 (y.take k) ((y.drop k).flatMap enc ++ t) ⟨by rw [List.length_take, hy.1]; omega, fun z hz => hy.2 z (List.mem_of_mem_take hz)⟩ (by
    rw [e, ← List.append_assoc, ← List.flatMap_append, List.take_append_drop])
  exact absurd c hb
def seqL {α : Type} (enc : α → List Bool) (l : List α) : List Bool := numL l.length ++ l.flatMap enc
abbrev SeqOk {α : Type} (ok : α → Prop) (l : List α) : Prop := l.length < 2 ^ 64 ∧ ∀ x ∈ l, ok x
theorem RdOK.dep {α : Type} {enc : α → List Bool} {ok : α → Prop} {n : Nat} {s s1 s2 : Rd} {l : List α} (h : RdOK numL NumOk s s1 n) (k : RdOK (fun l : List α => l.flatMap enc) (LenOk ok n) s1 s2 l) : RdOK (seqL enc) (SeqOk ok) s s2 l := by
  refine ⟨fun h0 y t hy e => ?_, fun h0 => ?_⟩
  · obtain ⟨a, b, c⟩ := h.1 h0 y.length (y.flatMap enc ++ t) hy.1 (by rw [e, seqL, List.append_assoc])
    exact k.1 c y t ⟨a.symm, hy.2⟩ b
  · obtain ⟨a, b, c⟩ := k.2 h0
    obtain ⟨a', b', c'⟩ := h.2 a
    exact ⟨a', ⟨by rw [b.1]; exact b', b.2⟩, by rw [c', c, seqL, b.1, List.append_assoc]⟩
/-- Nothing is read without a bit, unless it is written in none. -/
theorem RdOK.less {α : Type} {enc : α → List Bool} {ok : α → Prop} {s s1 : Rd} {x : α} (h : RdOK enc ok s s1 x) (h0 : s1.bad = 0) : s.rest.length = (enc x).length + s1.rest.length := by
  rw [(h.2 h0).2.2, List.length_append]
theorem RdOK.was {α : Type} {enc : α → List Bool} {ok : α → Prop} {s s1 : Rd} {x : α} (h : RdOK enc ok s s1 x) (h0 : s.bad ≠ 0) : s1.bad ≠ 0 := fun e => h0 (h.2 e).1
theorem numL_pos {x : Nat} (h : x < 2 ^ 64) : 1 ≤ (numL x).length := by
  obtain ⟨m, tl, _, _, _, _, e⟩ := numL_form h
  rw [e]; simp; omega
end Go.Proofs.Ytdkkpkgfiodlbaa