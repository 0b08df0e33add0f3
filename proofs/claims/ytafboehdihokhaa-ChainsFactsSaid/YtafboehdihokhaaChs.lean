import Derived.Test.YtafboehdihokhaaChWrites
namespace Go.Proofs.Ytafboehdihokhaa
open Go.RowKit Go.Maps

section rows
variable {α : Type} {V : α → List Value} {m : Nat}
theorem flat_at (hm : ∀ x, (V x).length = m) (l : List α) (j i : Nat) (x : α) (u : Value) (hj : l[j]? = some x) (hu : (V x)[i]? = some u) : (l.flatMap V)[j * m + i]? = some u := by
  induction l generalizing j with
  | nil => simp at hj
  | cons y l ih =>
    have hi : i < m := by have := (List.getElem?_eq_some_iff.1 hu).1; rw [hm] at this; exact this
    rw [List.flatMap_cons]
    cases j with
    | zero =>
      simp at hj; subst hj
      rw [List.getElem?_append_left (by rw [hm]; simpa using hi)]
      simpa using hu
    | succ j =>
      have e : (j + 1) * m + i = m + (j * m + i) := by rw [Nat.add_mul]; omega
      rw [List.getElem?_append_right (by rw [hm]; omega), hm]
      have : (j + 1) * m + i - m = j * m + i := by omega
      rw [this]
      exact ih j (by simpa using hj)

theorem flat_length (hm : ∀ x, (V x).length = m) (l : List α) : (l.flatMap V).length = l.length * m := by
  induction l with
  | nil => simp
  | cons x l ih => rw [List.flatMap_cons, List.length_append, ih, hm, List.length_cons, Nat.add_mul]; omega

theorem rds_of_own (hm : ∀ x, (V x).length = m) {base : Nat} {w : World} {e : TypeId} {v : Value} {l : List α} (h : w.ownsRow base e m v l.length (l.flatMap V)) : RdS m (fun _ cs x => cs = V x) w v l := by
  obtain ⟨h1, h2⟩ := id h
  rcases h2 with ⟨hv, h0⟩ | ⟨g, cap, cur, hv, hg, hh, hn, hcm, hs, ht⟩
  · have : l = [] := List.length_eq_zero_iff.1 h0
    subst this
    exact ⟨none, 0, 0, hv, rfl, by simp, Nat.le_refl _, fun _ => ⟨rfl, rfl⟩, fun j x hj => by simp at hj⟩
  · refine ⟨some ⟨g, 0, none⟩, l.length, cap, hv, rfl, by simp only [maxLen] at hcm; omega, hn, fun h => (by cases h), fun j x hj => ⟨g, 0, V x, rfl, hm x, fun i u hu => ?_, rfl⟩⟩
    have := World.ownsRow.cells h (g := g) (by rw [hv]; rfl) (j * m + i) u (flat_at hm l j i x u hj hu)
    rwa [addr_add] at this
end rows

/-- A choice. -/
structure GChoice where
  kind : Int
  key : Int
  a : Int
  b : Int
deriving DecidableEq

def chV (c : GChoice) : List Value := [vi c.kind, vi c.key, vi c.a, vi c.b]
theorem chV_length (c : GChoice) : (chV c).length = 4 := rfl
def OwCh (e : TypeId) (base : Nat) (w : World) (v : Value) (l : List GChoice) : Prop := w.ownsRow base e 4 v l.length (l.flatMap chV)
def RdCh (w : World) (v : Value) (l : List GChoice) : Prop := RdS 4 (fun _ cs c => cs = chV c) w v l
theorem OwCh.rd {e : TypeId} {base : Nat} {w : World} {v : Value} {l : List GChoice} (h : OwCh e base w v l) : RdCh w v l := rds_of_own chV_length h
theorem RdCh.later {w w' : World} {v : Value} {l : List GChoice} (h : RdCh w v l) (hb : Below w.heap.size w w') : RdCh w' v l := RdS.below h hb fun _ _ h => h

theorem RdCh.at {w : World} {v : Value} {l : List GChoice} (h : RdCh w v l) : ∃ a len cap, v = .slice a len cap ∧ len = l.length ∧ l.length ≤ 9223372036854775807 ∧
    ∀ j x, l[j]? = some x → ∃ b off, a = some ⟨b, off, none⟩ ∧ w.cell? ⟨b, off + j * 4, none⟩ = some (vi x.kind) ∧ w.cell? ⟨b, off + j * 4 + 1, none⟩ = some (vi x.key) ∧ w.cell? ⟨b, off + j * 4 + 2, none⟩ = some (vi x.a) ∧ w.cell? ⟨b, off + j * 4 + 3, none⟩ = some (vi x.b) := by
  obtain ⟨a, len, cap, h1, h2, h3, h4, h5, h6⟩ := h
  refine ⟨a, len, cap, h1, h2, h3, fun j x hj => ?_⟩
  obtain ⟨b, off, cs, ha, hl, hc, rfl⟩ := h6 j x hj
  exact ⟨b, off, ha, by simpa using hc 0 _ rfl, by simpa [Nat.add_assoc] using hc 1 _ rfl, by simpa [Nat.add_assoc] using hc 2 _ rfl, by simpa [Nat.add_assoc] using hc 3 _ rfl⟩

theorem Try.infoCh : (Try.prog.info? 32).map (fun i => (i.zero, i.size, i.bytes)) = some (some (.agg #[vi 0, vi 0, vi 0, vi 0]), 4, 32) := by kernel_rfl
theorem eltCh : Elt Try.prog 27 32 4 32 (.agg #[vi 0, vi 0, vi 0, vi 0]) := by
  obtain ⟨i0, hi, hz0, hz1, hz2⟩ := info_parts Try.infoCh
  exact ⟨Try.underlying27, by decide, rfl, i0, hi, hz0, hz1, hz2⟩
theorem chV_one (c : GChoice) : ∀ u ∈ chV c, u.oneCell' = true := by
  intro u hu; simp [chV] at hu; rcases hu with rfl | rfl | rfl | rfl <;> rfl
end Go.Proofs.Ytafboehdihokhaa
