/- Bits in bytes, numbers in bits: plain. Names no program. -/
import Derived.Test.YtdkkpkgfiodlbaaArgs
import Derived.Laws.BitsAllLaws
namespace Go.Proofs.Ytdkkpkgfiodlbaa
/-- A bit of a list, nought behind its end. -/
def btv (L : List Bool) (i : Nat) : Nat := if L[i]? = some true then 1 else 0
theorem btv_le (L : List Bool) (i : Nat) : btv L i ≤ 1 := by unfold btv; split <;> omega
theorem btv_past {L : List Bool} {i : Nat} (h : L.length ≤ i) : btv L i = 0 := by unfold btv; rw [List.getElem?_eq_none h]; rfl
theorem btv_snoc (L : List Bool) (x : Bool) (i : Nat) : btv (L ++ [x]) i = if i = L.length then (if x then 1 else 0) else btv L i := by
  unfold btv
  by_cases h : i = L.length
  · subst h; simp
  · by_cases h2 : i < L.length
    · rw [List.getElem?_append_left h2, if_neg h]
    · rw [List.getElem?_eq_none (by simp; omega), List.getElem?_eq_none (by omega), if_neg h]
theorem btv_append_left {L M : List Bool} {i : Nat} (h : i < L.length) : btv (L ++ M) i = btv L i := by unfold btv; rw [List.getElem?_append_left h]
/-- Eight bits. -/
def btByte (L : List Bool) (j : Nat) : Nat := 128 * btv L (8 * j) + 64 * btv L (8 * j + 1) + 32 * btv L (8 * j + 2) + 16 * btv L (8 * j + 3) + 8 * btv L (8 * j + 4) + 4 * btv L (8 * j + 5) + 2 * btv L (8 * j + 6) + btv L (8 * j + 7)
theorem btByte_lt (L : List Bool) (j : Nat) : btByte L j < 256 := by
  unfold btByte
  have h := fun i => btv_le L (8 * j + i)
  have h0 := btv_le L (8 * j)
  have := h 1; have := h 2; have := h 3; have := h 4; have := h 5; have := h 6; have := h 7
  omega
theorem btByte_other {L : List Bool} {x : Bool} {j : Nat} (h : L.length / 8 ≠ j) : btByte (L ++ [x]) j = btByte L j := by
  unfold btByte
  have e : ∀ i, i < 8 → btv (L ++ [x]) (8 * j + i) = btv L (8 * j + i) := fun i hi => by rw [btv_snoc, if_neg (by omega)]
  have e0 : btv (L ++ [x]) (8 * j) = btv L (8 * j) := e 0 (by omega)
  rw [e0, e 1 (by omega), e 2 (by omega), e 3 (by omega), e 4 (by omega), e 5 (by omega), e 6 (by omega), e 7 (by omega)]
theorem or_bit : ∀ k, k < 8 → ∀ m, m < 2 ^ k → ((m * 2 ^ (8 - k)) ||| 2 ^ (7 - k)) = m * 2 ^ (8 - k) + 2 ^ (7 - k) := by decide
/-- The byte at the end is a multiple of what its missing bits are worth. -/
theorem btByte_mul {L : List Bool} {j k : Nat} (h : L.length = 8 * j + k) (hk : k < 8) : ∃ m, m < 2 ^ k ∧ btByte L j = m * 2 ^ (8 - k) := by
  have z : ∀ i, k ≤ i → btv L (8 * j + i) = 0 := fun i hi => btv_past (by omega)
  have o : ∀ i, btv L (8 * j + i) ≤ 1 := fun i => btv_le _ _
  have o0 : btv L (8 * j) ≤ 1 := btv_le _ _
  unfold btByte
  rcases (show k = 0 ∨ k = 1 ∨ k = 2 ∨ k = 3 ∨ k = 4 ∨ k = 5 ∨ k = 6 ∨ k = 7 by omega) with rfl | rfl | rfl | rfl | rfl | rfl | rfl | rfl
  · have z0 : btv L (8 * j) = 0 := z 0 (by omega)
    rw [z0, z 1 (by omega), z 2 (by omega), z 3 (by omega), z 4 (by omega), z 5 (by omega), z 6 (by omega), z 7 (by omega)]
    exact ⟨0, by omega, by omega⟩
  · rw [z 1 (by omega), z 2 (by omega), z 3 (by omega), z 4 (by omega), z 5 (by omega), z 6 (by omega), z 7 (by omega)]
    exact ⟨btv L (8 * j), by omega, by omega⟩
  · rw [z 2 (by omega), z 3 (by omega), z 4 (by omega), z 5 (by omega), z 6 (by omega), z 7 (by omega)]
    exact ⟨2 * btv L (8 * j) + btv L (8 * j + 1), by have := o 1; omega, by omega⟩
  · rw [z 3 (by omega), z 4 (by omega), z 5 (by omega), z 6 (by omega), z 7 (by omega)]
    exact ⟨4 * btv L (8 * j) + 2 * btv L (8 * j + 1) + btv L (8 * j + 2), by have := o 1; have := o 2; omega, by omega⟩
  · rw [z 4 (by omega), z 5 (by omega), z 6 (by omega), z 7 (by omega)]
    exact ⟨8 * btv L (8 * j) + 4 * btv L (8 * j + 1) + 2 * btv L (8 * j + 2) + btv L (8 * j + 3), by have := o 1; have := o 2; have := o 3; omega, by omega⟩
  · rw [z 5 (by omega), z 6 (by omega), z 7 (by omega)]
    exact ⟨16 * btv L (8 * j) + 8 * btv L (8 * j + 1) + 4 * btv L (8 * j + 2) + 2 * btv L (8 * j + 3) + btv L (8 * j + 4), by have := o 1; have := o 2; have := o 3; have := o 4; omega, by omega⟩
  · rw [z 6 (by omega), z 7 (by omega)]
    exact ⟨32 * btv L (8 * j) + 16 * btv L (8 * j + 1) + 8 * btv L (8 * j + 2) + 4 * btv L (8 * j + 3) + 2 * btv L (8 * j + 4) + btv L (8 * j + 5), by have := o 1; have := o 2; have := o 3; have := o 4; have := o 5; omega, by omega⟩
  · rw [z 7 (by omega)]
    exact ⟨64 * btv L (8 * j) + 32 * btv L (8 * j + 1) + 16 * btv L (8 * j + 2) + 8 * btv L (8 * j + 3) + 4 * btv L (8 * j + 4) + 2 * btv L (8 * j + 5) + btv L (8 * j + 6), by have := o 1; have := o 2; have := o 3; have := o 4; have := o 5; have := o 6; omega, by omega⟩
theorem btByte_snoc {L : List Bool} {x : Bool} {j k : Nat} (h : L.length = 8 * j + k) (hk : k < 8) : btByte (L ++ [x]) j = btByte L j ||| ((if x then 1 else 0) * 2 ^ (7 - k)) := by
  obtain ⟨m, hm, he⟩ := btByte_mul h hk
  have hor : (btByte L j ||| ((if x then 1 else 0) * 2 ^ (7 - k))) = btByte L j + (if x then 1 else 0) * 2 ^ (7 - k) := by
    cases x
    · simp
    · simp only [if_true, Nat.one_mul]; rw [he]; exact or_bit k hk m hm
  rw [hor]
  unfold btByte
  have hz : btv L (8 * j + k) = 0 := btv_past (by omega)
  have e : ∀ i, i ≠ k → btv (L ++ [x]) (8 * j + i) = btv L (8 * j + i) := fun i hi => by rw [btv_snoc, if_neg (by omega)]
  have ek : btv (L ++ [x]) (8 * j + k) = if x then 1 else 0 := by rw [btv_snoc, if_pos (by omega)]
  rcases (show k = 0 ∨ k = 1 ∨ k = 2 ∨ k = 3 ∨ k = 4 ∨ k = 5 ∨ k = 6 ∨ k = 7 by omega) with rfl | rfl | rfl | rfl | rfl | rfl | rfl | rfl
  · have ek' : btv (L ++ [x]) (8 * j) = if x then 1 else 0 := ek
    have hz' : btv L (8 * j) = 0 := hz
    rw [ek', hz', e 1 (by omega), e 2 (by omega), e 3 (by omega), e 4 (by omega), e 5 (by omega), e 6 (by omega), e 7 (by omega)]; omega
  all_goals
    have e0 : btv (L ++ [x]) (8 * j) = btv L (8 * j) := e 0 (by omega)
    rw [e0, ek, hz]
    try rw [e 1 (by omega)]
    try rw [e 2 (by omega)]
    try rw [e 3 (by omega)]
    try rw [e 4 (by omega)]
    try rw [e 5 (by omega)]
    try rw [e 6 (by omega)]
    try rw [e 7 (by omega)]
    omega

/-- The bytes of a list of bits, noughts up to the end of the last one. -/
def btBytes (L : List Bool) : List Nat := (List.range ((L.length + 7) / 8)).map (btByte L)
theorem btBytes_length (L : List Bool) : (btBytes L).length = (L.length + 7) / 8 := by simp [btBytes]
theorem btBytes_at {L : List Bool} {j : Nat} (h : j < (L.length + 7) / 8) : (btBytes L)[j]? = some (btByte L j) := by
  unfold btBytes; rw [List.getElem?_map, List.getElem?_range h]; rfl
/-- A bit behind a full last byte: a new byte. -/
theorem btBytes_new {L : List Bool} (h : L.length % 8 = 0) : ∀ x : Bool, btBytes (L ++ [x]) = (btBytes L ++ [0]).set (L.length / 8) ((if x then 1 else 0) * 128) := fun x => by
  have h8 : L.length = 8 * (L.length / 8) + 0 := by omega
  apply List.ext_getElem?
  intro j
  rw [List.getElem?_set]
  have hl : (btBytes L ++ [0]).length = L.length / 8 + 1 := by simp [btBytes_length]; omega
  by_cases hj : L.length / 8 = j
  · rw [if_pos hj, if_pos (by omega), btBytes_at (by simp; omega)]
    subst hj
    rw [btByte_snoc h8 (by omega)]
    have : btByte L (L.length / 8) = 0 := by
      obtain ⟨m, hm, he⟩ := btByte_mul h8 (by omega)
      rw [he]; simp at hm; subst hm; simp
    rw [this]; simp
  · rw [if_neg hj]
    by_cases hlt : j < L.length / 8
    · rw [btBytes_at (by simp; omega), btByte_other hj, List.getElem?_append_left (by simp [btBytes_length]; omega), btBytes_at (by omega)]
    · rw [List.getElem?_eq_none (by rw [btBytes_length]; simp; omega), List.getElem?_eq_none (by omega)]
/-- A bit into the last byte. -/
theorem btBytes_more {L : List Bool} (h : L.length % 8 ≠ 0) (x : Bool) : btBytes (L ++ [x]) = (btBytes L).set (L.length / 8) (btByte L (L.length / 8) ||| ((if x then 1 else 0) * 2 ^ (7 - L.length % 8))) := by
  have h8 : L.length = 8 * (L.length / 8) + L.length % 8 := by omega
  apply List.ext_getElem?
  intro j
  rw [List.getElem?_set]
  by_cases hj : L.length / 8 = j
  · rw [if_pos hj, if_pos (by rw [btBytes_length]; omega), btBytes_at (by simp; omega)]
    subst hj
    rw [btByte_snoc h8 (by omega)]
  · rw [if_neg hj]
    by_cases hlt : j < (L.length + 7) / 8
    · rw [btBytes_at (by simp; omega), btByte_other hj, btBytes_at hlt]
    · rw [List.getElem?_eq_none (by rw [btBytes_length]; simp; omega), List.getElem?_eq_none (by rw [btBytes_length]; omega)]

/-- The lowest n bits of a number, the highest of them first. -/
def putL (x : Nat) : Nat → List Bool
  | 0 => []
  | n + 1 => (x / 2 ^ n % 2 == 1) :: putL x n
theorem putL_length (x : Nat) : ∀ n, (putL x n).length = n
  | 0 => rfl
  | n + 1 => by simp [putL, putL_length x n]
end Go.Proofs.Ytdkkpkgfiodlbaa