import Derived.Test.YtkobpjndkgjcjaaShrinkG
namespace Go.Proofs.Ytkobpjndkgjcjaa
open Go.RowKit

section plain
variable {σ : Type} (step : σ → List Int → Bool × σ) (budget : Int)

theorem cutM_sub (xs : List Int) (k size : Nat) : (cutM xs k size).Sublist xs := by
  unfold cutM
  conv => rhs; rw [← List.take_append_drop k xs]
  refine List.Sublist.append (List.Sublist.refl _) ?_
  by_cases h : k ≤ xs.length
  · have : min (k + size) xs.length = k + (min (k + size) xs.length - k) := by omega
    rw [this, ← List.drop_drop]
    exact List.drop_sublist _ _
  · rw [List.drop_eq_nil_of_le (by omega)]
    exact List.nil_sublist _

/-- What holds of the state and is kept by each question about a part of xs0 holds at the end; each list on the way is a part. -/
theorem passM_inv (J : Int × σ → Prop) (xs0 : List Int) (hJ : ∀ st xs, J st → xs.Sublist xs0 → J (tryM step budget st xs).2) (size f : Nat) (xs : List Int) (g : Bool) (k : Nat) (st : Int × σ)
    (h : J st) (hs : xs.Sublist xs0) : J (passM step budget size f xs g k st).2.2 ∧ (passM step budget size f xs g k st).1.Sublist xs0 := by
  induction f generalizing xs g k st with
  | zero => exact ⟨h, hs⟩
  | succ f ih =>
    unfold passM
    split
    · have hc := (cutM_sub xs k size).trans hs
      split
      · exact ih _ _ _ _ (hJ _ _ h hc) hc
      · exact ih _ _ _ _ (hJ _ _ h hc) hs
    · exact ⟨h, hs⟩

theorem outerM_inv (J : Int × σ → Prop) (xs0 : List Int) (hJ : ∀ st xs, J st → xs.Sublist xs0 → J (tryM step budget st xs).2) (f size : Nat) (xs : List Int) (st : Int × σ)
    (h : J st) (hs : xs.Sublist xs0) : J (outerM step budget f size xs st).2 ∧ (outerM step budget f size xs st).1.Sublist xs0 := by
  induction f generalizing xs size st with
  | zero => exact ⟨h, hs⟩
  | succ f ih =>
    have hp := passM_inv step budget J xs0 hJ size xs.length xs false 0 st h hs
    unfold outerM
    split
    · exact hp
    · exact ih _ _ _ hp.1 hp.2

theorem lessM_inv (J : Int × σ → Prop) (xs : List Int) (s : σ) (h0 : J (tryM step budget (0, s) xs).2) (hJ : ∀ st ys, J st → ys.Sublist xs → J (tryM step budget st ys).2) :
    J (lessM step budget xs s).2 ∧ (lessM step budget xs s).1.Sublist xs := by
  unfold lessM
  split
  · exact outerM_inv step budget J xs hJ _ _ _ _ h0 (List.Sublist.refl _)
  · exact ⟨h0, List.Sublist.refl _⟩

/-- How often it is asked. -/
theorem passM_asks (size f : Nat) (xs : List Int) (g : Bool) (k : Nat) (st : Int × σ) (h : 0 ≤ st.1) : 0 ≤ (passM step budget size f xs g k st).2.2.1 ∧ (passM step budget size f xs g k st).2.2.1 ≤ st.1 + f := by
  induction f generalizing xs g k st with
  | zero => simp [passM, h]
  | succ f ih =>
    unfold passM
    have ht := tryM_n step budget st (cutM xs k size) h
    split
    · split
      · have := ih (cutM xs k size) true k (tryM step budget st (cutM xs k size)).2 ht.1
        exact ⟨this.1, by omega⟩
      · have := ih xs g (k + size) (tryM step budget st (cutM xs k size)).2 ht.1
        exact ⟨this.1, by omega⟩
    · exact ⟨h, by show st.1 ≤ _; omega⟩
end plain

section parts
variable (ys : List Int) (least budget : Int)

theorem passM_bad (size f : Nat) (xs : List Int) (g : Bool) (k : Nat) (st : Int × Unit) (h : needB xs ys least = true) : needB (passM (stepN ys least) budget size f xs g k st).1 ys least = true := by
  induction f generalizing xs g k st with
  | zero => exact h
  | succ f ih =>
    unfold passM
    split
    · split
      · rename_i ht
        refine ih _ _ _ _ ?_
        unfold tryM at ht
        split at ht
        · cases ht
        · exact ht
      · exact ih _ _ _ _ h
    · exact h

/-- A pass of size 1 that took nothing away, with time enough: the list is as it was, and not bad without any one. -/
theorem passM_last (f : Nat) (xs : List Int) (k : Nat) (n : Int) (h : (passM (stepN ys least) budget 1 f xs false k (n, ())).2.1 = false) (hn : 0 ≤ n) (hb : n + f < budget) (hf : xs.length - k ≤ f) :
    (passM (stepN ys least) budget 1 f xs false k (n, ())).1 = xs ∧ ∀ j, k ≤ j → j < xs.length → needB (cutM xs j 1) ys least = false := by
  induction f generalizing k n with
  | zero => exact ⟨rfl, fun j h1 h2 => by omega⟩
  | succ f ih =>
    unfold passM at h ⊢
    by_cases hlt : k < xs.length
    · rw [if_pos hlt] at h ⊢
      have ht : tryM (stepN ys least) budget (n, ()) (cutM xs k 1) = (needB (cutM xs k 1) ys least, n + 1, ()) := tryM_yes _ (by omega)
      rw [ht] at h ⊢
      cases hq : needB (cutM xs k 1) ys least
      · rw [hq] at h
        simp only [Bool.false_eq_true, if_false] at h ⊢
        obtain ⟨h1, h2⟩ := ih (k + 1) (n + 1) h (by omega) (by omega) (by omega)
        refine ⟨h1, fun j hj hj2 => ?_⟩
        by_cases e : j = k
        · subst e; exact hq
        · exact h2 j (by omega) hj2
      · rw [hq] at h
        simp only [if_true] at h
        exfalso
        have gone : ∀ (f : Nat) (xs : List Int) (k : Nat) (st : Int × Unit), (passM (stepN ys least) budget 1 f xs true k st).2.1 = true := by
          intro f
          induction f with
          | zero => intros; rfl
          | succ f ih =>
            intro xs k st
            unfold passM
            split
            · split
              · exact ih _ _ _
              · exact ih _ _ _
            · rfl
        rw [gone] at h; cases h
    · rw [if_neg hlt]
      exact ⟨rfl, fun j h1 h2 => by omega⟩

theorem outerM_parts (L : Nat) (f size : Nat) (xs : List Int) (n : Int) (h : needB xs ys least = true) (hL : xs.length ≤ L) (h1 : 1 ≤ size) (hf : xs.length + size ≤ f) (hn : 0 ≤ n) (hb : n + f * L < budget) :
    needB (outerM (stepN ys least) budget f size xs (n, ())).1 ys least = true ∧ ∀ j, j < (outerM (stepN ys least) budget f size xs (n, ())).1.length → needB (cutM (outerM (stepN ys least) budget f size xs (n, ())).1 j 1) ys least = false := by
  induction f generalizing xs size n with
  | zero => omega
  | succ f ih =>
    have hmul : ((f + 1 : Nat) : Int) * (L : Int) = (f : Int) * L + L := by rw [Int.natCast_add, Int.add_mul]; simp
    have hfL : 0 ≤ (f : Int) * (L : Int) := Int.mul_nonneg (by omega) (by omega)
    have hbad := passM_bad ys least budget size xs.length xs false 0 (n, ()) h
    have hlen := passM_length (stepN ys least) budget size xs.length xs false 0 (n, ())
    have hask := passM_asks (stepN ys least) budget size xs.length xs false 0 (n, ()) hn
    have hgone := passM_gone (stepN ys least) budget size h1 xs.length xs false 0 (n, ())
    have hlast := passM_last ys least budget xs.length xs 0 n
    unfold outerM
    rcases hp : passM (stepN ys least) budget size xs.length xs false 0 (n, ()) with ⟨zs, gb, m, u⟩
    rw [hp] at hbad hlen hask hgone
    simp only at hbad hlen hask hgone
    have hmb : ¬ budget ≤ m := by omega
    by_cases hend : size = 1 ∧ gb = false
    · rw [if_pos (Or.inr hend)]
      obtain ⟨rfl, rfl⟩ := hend
      rw [hp] at hlast
      obtain ⟨e, h2⟩ := hlast rfl hn (by omega) (by omega)
      simp only at e
      subst e
      exact ⟨hbad, fun j hj => h2 j (by omega) hj⟩
    · rw [if_neg (by intro hor; rcases hor with hor | hor; exact hmb hor; exact hend hor)]
      have hsz : 1 ≤ (if 1 < size then size / 2 else size) := by split <;> omega
      refine ih _ zs m hbad (by omega) hsz ?_ (by omega) (by omega)
      by_cases h2 : 1 < size
      · rw [if_pos h2]; omega
      · rw [if_neg h2]
        have : gb = true := by
          cases gb
          · exact absurd ⟨by omega, rfl⟩ hend
          · rfl
        have := hgone this trivial
        omega

/-- The law in plain words. -/
theorem lessM_parts (xs : List Int) (hx : xs.length ≤ 40) :
    (lessM (stepN ys least) 1073741824 xs ()).1.Sublist xs ∧
    (needB xs ys least = false → (lessM (stepN ys least) 1073741824 xs ()).1.length = xs.length) ∧
    (needB xs ys least = true → needB (lessM (stepN ys least) 1073741824 xs ()).1 ys least = true ∧ ∀ j, j < (lessM (stepN ys least) 1073741824 xs ()).1.length → needB (cutM (lessM (stepN ys least) 1073741824 xs ()).1 j 1) ys least = false) := by
  refine ⟨(lessM_inv _ _ (fun _ => True) xs () trivial (fun _ _ _ _ => trivial)).2, fun h => ?_, fun h => ?_⟩
  · unfold lessM; rw [tryM_yes _ (by omega)]; simp [h]
  · unfold lessM
    rw [tryM_yes _ (by omega)]
    simp only [h, if_true]
    have hm : (max 1 (xs.length / 2) : Nat) ≤ 40 := by omega
    have hm1 : 1 ≤ (max 1 (xs.length / 2) : Nat) := by omega
    generalize max 1 (xs.length / 2) = m at *
    refine outerM_parts ys least 1073741824 40 _ m xs _ h hx hm1 (Nat.le_refl _) (by omega) ?_
    have : ((xs.length + m : Nat) : Int) ≤ 80 := by omega
    have : ((xs.length + m : Nat) : Int) * 40 ≤ 80 * 40 := Int.mul_le_mul_of_nonneg_right this (by omega)
    omega
end parts

/-- The greedy look for a part: one step. -/
theorem sub_hit {g l : List Int} {k i : Nat} {x : Int} (h : (g.drop k).Sublist (l.drop i)) (hk : g[k]? = some x) (hi : l[i]? = some x) : (g.drop (k + 1)).Sublist (l.drop (i + 1)) := by
  have e1 : g.drop k = x :: g.drop (k + 1) := by
    rw [List.drop_eq_getElem_cons (List.getElem?_eq_some_iff.1 hk).1, (List.getElem?_eq_some_iff.1 hk).2]
  have e2 : l.drop i = x :: l.drop (i + 1) := by
    rw [List.drop_eq_getElem_cons (List.getElem?_eq_some_iff.1 hi).1, (List.getElem?_eq_some_iff.1 hi).2]
  rw [e1, e2] at h
  exact List.cons_sublist_cons.1 h

theorem sub_miss {g l : List Int} {k i : Nat} {x : Int} (h : (g.drop k).Sublist (l.drop i)) (hk : g[k]? ≠ some x) (hi : l[i]? = some x) : (g.drop k).Sublist (l.drop (i + 1)) := by
  have e2 : l.drop i = x :: l.drop (i + 1) := by
    rw [List.drop_eq_getElem_cons (List.getElem?_eq_some_iff.1 hi).1, (List.getElem?_eq_some_iff.1 hi).2]
  rw [e2] at h
  cases hg : g.drop k with
  | nil => exact List.nil_sublist _
  | cons y g' =>
    rw [hg] at h
    have hy : g[k]? = some y := by
      have : (g.drop k)[0]? = some y := by rw [hg]; rfl
      rwa [List.getElem?_drop, Nat.add_zero] at this
    rcases List.sublist_cons_iff.1 h with h | ⟨r, hr, h⟩
    · exact h
    · cases hr; exact absurd hy hk

theorem sub_end {g l : List Int} {k i : Nat} (h : (g.drop k).Sublist (l.drop i)) (hi : l.length ≤ i) (hk : k ≤ g.length) : k = g.length := by
  rw [List.drop_eq_nil_of_le hi] at h
  have := List.sublist_nil.1 h
  have := congrArg List.length this
  simp at this
  omega
end Go.Proofs.Ytkobpjndkgjcjaa
