/- Reading bits: plain. Names no program. -/
import Derived.Test.YtdkkpkgfiodlbaaBtPure
namespace Go.Proofs.Ytdkkpkgfiodlbaa
/-- The bits of bytes. -/
def bitsOf : List Nat → List Bool
  | [] => []
  | b :: bs => putL b 8 ++ bitsOf bs
theorem bitsOf_length : ∀ bs, (bitsOf bs).length = 8 * bs.length
  | [] => rfl
  | b :: bs => by simp [bitsOf, putL_length, bitsOf_length bs]; omega
theorem putL_at (x : Nat) : ∀ n i, i < n → (putL x n)[i]? = some (x / 2 ^ (n - 1 - i) % 2 == 1)
  | 0, _, h => by omega
  | n + 1, 0, _ => by simp [putL]
  | n + 1, i + 1, h => by
    rw [putL, List.getElem?_cons_succ, putL_at x n i (by omega)]
    rw [show n + 1 - 1 - (i + 1) = n - 1 - i by omega]
theorem bitsOf_at : ∀ (bs : List Nat) (i b : Nat), bs[i / 8]? = some b → (bitsOf bs)[i]? = some (b / 2 ^ (7 - i % 8) % 2 == 1)
  | [], i, b, h => by simp at h
  | c :: bs, i, b, h => by
    rw [bitsOf]
    by_cases hi : i < 8
    · have h0 : i / 8 = 0 := by omega
      rw [h0] at h
      simp only [List.getElem?_cons_zero, Option.some.injEq] at h
      subst h
      rw [List.getElem?_append_left (by rw [putL_length]; exact hi), putL_at _ _ _ hi]
      rw [show i % 8 = i by omega]
    · have h0 : i / 8 = (i - 8) / 8 + 1 := by omega
      rw [h0, List.getElem?_cons_succ] at h
      rw [List.getElem?_append_right (by rw [putL_length]; omega), putL_length, bitsOf_at bs (i - 8) b h]
      rw [show (i - 8) % 8 = i % 8 by omega]
/-- The number of some bits. -/
def valL (L : List Bool) : Nat := L.foldl (fun a b => 2 * a + (if b then 1 else 0)) 0
theorem valL_snoc (L : List Bool) (b : Bool) : valL (L ++ [b]) = 2 * valL L + (if b then 1 else 0) := by simp [valL, List.foldl_append]
theorem foldl_val (L : List Bool) : ∀ a, L.foldl (fun a b => 2 * a + (if b then 1 else 0)) a = a * 2 ^ L.length + valL L := by
  induction L with
  | nil => intro a; simp [valL]
  | cons b L ih =>
    intro a
    show L.foldl _ _ = a * 2 ^ (L.length + 1) + L.foldl _ _
    rw [ih, ih, Nat.pow_succ, Nat.add_mul]
    rw [Nat.mul_comm 2 a, Nat.mul_assoc, Nat.mul_comm 2 (2 ^ L.length)]
    simp only [Nat.mul_zero, Nat.zero_add]; omega
theorem valL_cons (b : Bool) (L : List Bool) : valL (b :: L) = (if b then 1 else 0) * 2 ^ L.length + valL L := by
  show L.foldl _ _ = _
  rw [foldl_val]; simp
theorem valL_lt : ∀ L : List Bool, valL L < 2 ^ L.length
  | [] => by simp [valL]
  | b :: L => by
    have := valL_lt L
    rw [valL_cons, List.length_cons, Nat.pow_succ]
    cases b <;> simp <;> omega
theorem valL_putL (x : Nat) : ∀ n, valL (putL x n) = x % 2 ^ n
  | 0 => by simp [putL, valL, Nat.mod_one]
  | n + 1 => by
    rw [putL, valL_cons, putL_length, valL_putL x n]
    have h1 : x % 2 ^ (n + 1) = x % 2 ^ n + 2 ^ n * (x / 2 ^ n % 2) := by rw [Nat.pow_succ, Nat.mod_mul]
    rw [h1]
    have : x / 2 ^ n % 2 < 2 := Nat.mod_lt _ (by decide)
    rcases (show x / 2 ^ n % 2 = 0 ∨ x / 2 ^ n % 2 = 1 by omega) with h | h <;> rw [h] <;> simp <;> omega
theorem putL_valL : ∀ L : List Bool, putL (valL L) L.length = L
  | [] => rfl
  | b :: L => by
    have hlt := valL_lt L
    have ih := putL_valL L
    rw [List.length_cons, putL, valL_cons]
    have e1 : ((if b then 1 else 0) * 2 ^ L.length + valL L) / 2 ^ L.length % 2 = if b then 1 else 0 := by
      rw [Nat.add_comm, Nat.add_mul_div_right _ _ (Nat.two_pow_pos _), Nat.div_eq_of_lt hlt]
      cases b <;> rfl
    rw [e1]
    congr 1
    · cases b <;> rfl
    · have : ∀ n, n ≤ L.length → putL ((if b then 1 else 0) * 2 ^ L.length + valL L) n = putL (valL L) n := by
        intro n hn
        induction n with
        | zero => rfl
        | succ n ihn =>
          rw [putL, putL, ihn (by omega)]
          congr 2
          obtain ⟨d, hd⟩ : ∃ d, L.length = n + 1 + d := ⟨L.length - (n + 1), by omega⟩
          have e2 : (if b then 1 else 0) * 2 ^ L.length = 2 ^ n * (2 * ((if b then 1 else 0) * 2 ^ d)) := by
            rw [hd, Nat.pow_add, Nat.pow_succ]; cases b <;> simp [Nat.mul_comm, Nat.mul_left_comm, Nat.mul_assoc]
          rw [e2, Nat.add_comm, Nat.add_mul_div_left _ _ (Nat.two_pow_pos _)]
          omega
      rw [this _ (Nat.le_refl _), ih]
theorem valL_append (A B : List Bool) : valL (A ++ B) = valL A * 2 ^ B.length + valL B := by
  unfold valL; rw [List.foldl_append, foldl_val]; rfl
theorem valL_falses : ∀ n, valL (List.replicate n false) = 0
  | 0 => rfl
  | n + 1 => by rw [List.replicate_succ, valL_cons, valL_falses n]; simp
theorem putL_zero : ∀ n, putL 0 n = List.replicate n false
  | 0 => rfl
  | n + 1 => by rw [putL, putL_zero n, List.replicate_succ]; simp
theorem valL_zero : ∀ L : List Bool, valL L = 0 → L = List.replicate L.length false := fun L h => by
  have := putL_valL L
  rw [h, putL_zero] at this; exact this.symm

/-- What a reader has ahead of it, and why it stopped. -/
structure Rd where
  rest : List Bool
  bad : Int
/-- n bits read. -/
def getS (s : Rd) (n : Nat) : Nat × Rd :=
  if s.bad ≠ 0 then (0, s) else if s.rest.length < n then (0, ⟨s.rest, 10⟩) else (valL (s.rest.take n), ⟨s.rest.drop n, 0⟩)
/-- What reading gives: of something that is written what was written; nothing else. -/
def RdOK {α : Type} (enc : α → List Bool) (ok : α → Prop) (s s' : Rd) (x : α) : Prop :=
  (s.bad = 0 → ∀ y t, ok y → s.rest = enc y ++ t → x = y ∧ s'.rest = t ∧ s'.bad = 0) ∧ (s'.bad = 0 → s.bad = 0 ∧ ok x ∧ s.rest = enc x ++ s'.rest)
end Go.Proofs.Ytdkkpkgfiodlbaa