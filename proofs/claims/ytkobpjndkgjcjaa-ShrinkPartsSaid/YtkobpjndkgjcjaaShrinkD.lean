import Derived.Test.YtkobpjndkgjcjaaShrinkC
namespace Go.Proofs.Ytkobpjndkgjcjaa
open Go.RowKit

section model
variable {σ : Type} (step : σ → List Int → Bool × σ) (budget : Int)

/-- The list without 'size' elements from 'at' on. -/
def cutM (xs : List Int) (k size : Nat) : List Int := xs.take k ++ xs.drop (min (k + size) xs.length)

/-- One pass of one size over the list. -/
def passM (size : Nat) : Nat → List Int → Bool → Nat → Int × σ → List Int × Bool × Int × σ
  | 0, xs, g, _, st => (xs, g, st)
  | f + 1, xs, g, k, st =>
    if k < xs.length then
      if (tryM step budget st (cutM xs k size)).1 = true then passM size f (cutM xs k size) true k (tryM step budget st (cutM xs k size)).2
      else passM size f xs g (k + size) (tryM step budget st (cutM xs k size)).2
    else (xs, g, st)

/-- All passes. -/
def outerM : Nat → Nat → List Int → Int × σ → List Int × Int × σ
  | 0, _, xs, st => (xs, st)
  | f + 1, size, xs, st =>
    if budget ≤ (passM step budget size xs.length xs false 0 st).2.2.1 ∨ size = 1 ∧ (passM step budget size xs.length xs false 0 st).2.1 = false then
      ((passM step budget size xs.length xs false 0 st).1, (passM step budget size xs.length xs false 0 st).2.2)
    else outerM f (if 1 < size then size / 2 else size) (passM step budget size xs.length xs false 0 st).1 (passM step budget size xs.length xs false 0 st).2.2

def lessM (xs : List Int) (s : σ) : List Int × Int × σ :=
  if (tryM step budget (0, s) xs).1 = true then outerM step budget (xs.length + max 1 (xs.length / 2)) (max 1 (xs.length / 2)) xs (tryM step budget (0, s) xs).2
  else (xs, (tryM step budget (0, s) xs).2)

theorem cutM_length (xs : List Int) (k size : Nat) : (cutM xs k size).length = min k xs.length + (xs.length - min (k + size) xs.length) := by
  simp [cutM]

theorem passM_done (size f : Nat) (xs : List Int) (g : Bool) (k : Nat) (st : Int × σ) (h : xs.length ≤ k) : passM step budget size f xs g k st = (xs, g, st) := by
  cases f <;> simp [passM, Nat.not_lt.2 h]

theorem passM_hit {size f : Nat} {xs : List Int} {g : Bool} {k : Nat} {st : Int × σ} (h : k < xs.length) (hf : xs.length - k ≤ f) (ht : (tryM step budget st (cutM xs k size)).1 = true) :
    ∃ f', passM step budget size f xs g k st = passM step budget size f' (cutM xs k size) true k (tryM step budget st (cutM xs k size)).2 ∧ f' + 1 = f := by
  cases f with
  | zero => omega
  | succ f => exact ⟨f, by simp [passM, h, ht], rfl⟩

theorem passM_miss {size f : Nat} {xs : List Int} {g : Bool} {k : Nat} {st : Int × σ} (h : k < xs.length) (hf : xs.length - k ≤ f) (ht : (tryM step budget st (cutM xs k size)).1 = false) :
    ∃ f', passM step budget size f xs g k st = passM step budget size f' xs g (k + size) (tryM step budget st (cutM xs k size)).2 ∧ f' + 1 = f := by
  cases f with
  | zero => omega
  | succ f => exact ⟨f, by simp [passM, h, ht], rfl⟩

theorem tryM_n (st : Int × σ) (xs : List Int) (h : 0 ≤ st.1) : 0 ≤ (tryM step budget st xs).2.1 ∧ (tryM step budget st xs).2.1 ≤ st.1 + 1 := by
  unfold tryM; split <;> simp <;> omega

theorem passM_length (size : Nat) (f : Nat) (xs : List Int) (g : Bool) (k : Nat) (st : Int × σ) : (passM step budget size f xs g k st).1.length ≤ xs.length := by
  induction f generalizing xs g k st with
  | zero => simp [passM]
  | succ f ih =>
    unfold passM
    split
    · split
      · refine Nat.le_trans (ih _ _ _ _) ?_
        rw [cutM_length]; omega
      · exact ih _ _ _ _
    · simp

/-- A pass of size 1 that took something away leaves fewer. -/
theorem passM_gone (size : Nat) (hs : 0 < size) (f : Nat) (xs : List Int) (g : Bool) (k : Nat) (st : Int × σ) (h : (passM step budget size f xs g k st).2.1 = true) (hg : g = false) : (passM step budget size f xs g k st).1.length < xs.length := by
  induction f generalizing xs g k st with
  | zero => subst hg; simp [passM] at h
  | succ f ih =>
    unfold passM at h ⊢
    split
    · rename_i hlt
      rw [if_pos hlt] at h
      split
      · refine Nat.lt_of_le_of_lt (passM_length _ _ _ _ _ _ _ _) ?_
        rw [cutM_length]; omega
      · rename_i hn
        rw [if_neg hn] at h
        exact ih _ _ _ _ h hg
    · rename_i hlt
      rw [if_neg hlt] at h
      subst hg; simp at h

theorem outerM_end {f sz : Nat} {ys zs : List Int} {st st' : Int × σ} {gb : Bool} (hp : passM step budget sz ys.length ys false 0 st = (zs, gb, st')) (h1 : 1 ≤ sz) (hf : ys.length + sz ≤ f) (he : budget ≤ st'.1 ∨ sz = 1 ∧ gb = false) :
    outerM step budget f sz ys st = (zs, st') := by
  cases f with
  | zero => omega
  | succ f => unfold outerM; rw [hp, if_pos he]

theorem outerM_on {f sz : Nat} {ys zs : List Int} {st st' : Int × σ} {gb : Bool} (hp : passM step budget sz ys.length ys false 0 st = (zs, gb, st')) (h1 : 1 ≤ sz) (hf : ys.length + sz ≤ f) (hb : ¬ budget ≤ st'.1) (he : 1 < sz ∨ gb = true) :
    ∃ f', outerM step budget f sz ys st = outerM step budget f' (if 1 < sz then sz / 2 else sz) zs st' ∧ zs.length + (if 1 < sz then sz / 2 else sz) < ys.length + sz ∧ zs.length + (if 1 < sz then sz / 2 else sz) ≤ f' := by
  have hl := passM_length step budget sz ys.length ys false 0 st
  rw [hp] at hl
  have hlt : zs.length + (if 1 < sz then sz / 2 else sz) < ys.length + sz := by
    by_cases h2 : 1 < sz
    · rw [if_pos h2]; have := Nat.div_lt_self (n := sz) (k := 2) (by omega) (by omega); show _ < _; simp at hl; omega
    · rw [if_neg h2]
      have hg := passM_gone step budget sz h1 ys.length ys false 0 st (by rw [hp]; simpa [h2] using he) rfl
      rw [hp] at hg
      simp at hg; omega
  cases f with
  | zero => omega
  | succ f => exact ⟨f, by conv => (lhs; unfold outerM); rw [hp, if_neg (by rcases he with he | he <;> simp [he] <;> omega)], hlt, by omega⟩
end model
end Go.Proofs.Ytkobpjndkgjcjaa
