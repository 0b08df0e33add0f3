/- Texts of one proof, one behind the other: BtPure, BtPut, BtLen, BtNum, BtInt, BtBytes, BtRd, BtGet, BtGet2. -/
import Derived.Test.YtdkkpkgfiodlbaaJa1
import Derived.Laws.BitsAllLaws
import Derived.Laws.OwnMore
import Derived.Lib.BitFns
import Derived.Shelf.LaysM
import Derived.Lib.Strings
import Derived.Lib.Slices
import Derived.Lib.Small
import Derived.Lib.Walk
import Derived.Deep.Light
import Derived.Shelf.Sort.So_math_bits_Len64In
import Derived.Test.YtdkkpkgfiodlbaaJa4
import Derived.Laws.MakeOwn
set_option linter.all false
/- Bits in bytes, numbers in bits: plain. Names no program. -/
namespace Go.Proofs.Ytdkkpkgfiodlbaa
/-- A bit of a list, nought behind its end. -/
def btv (L : List Bool) (i : Nat) : Nat := if L[i]? = some true then 1 else 0
theorem btv_le (L : List Bool) (i : Nat) : btv L i ≤ 1 := by unfold btv; split <;> omega
theorem btv_past {L : List Bool} {i : Nat} (h : L.length ≤ i) : btv L i = 0 := by unfold btv; rw [List.getElem?_eq_none h]; rfl
theorem btv_snoc (L : List Bool) (x : Bool) (i : Nat) : btv (L ++ [x]) i = if i = L.length then (if x then 1 else 0) else btv L i := by
  unfold btv
  by_cases h : i = L.length
  · subst h; simp
  · by_cases h2 : i < L.length
    · rw [List.getElem?_append_left h2, if_neg h]
    · rw [List.getElem?_eq_none (by simp; omega), List.getElem?_eq_none (by omega), if_neg h]
theorem btv_append_left {L M : List Bool} {i : Nat} (h : i < L.length) : btv (L ++ M) i = btv L i := by unfold btv; rw [List.getElem?_append_left h]
/-- Eight bits. -/
def btByte (L : List Bool) (j : Nat) : Nat := 128 * btv L (8 * j) + 64 * btv L (8 * j + 1) + 32 * btv L (8 * j + 2) + 16 * btv L (8 * j + 3) + 8 * btv L (8 * j + 4) + 4 * btv L (8 * j + 5) + 2 * btv L (8 * j + 6) + btv L (8 * j + 7)
theorem btByte_lt (L : List Bool) (j : Nat) : btByte L j < 256 := by
  unfold btByte
  have h := fun i => btv_le L (8 * j + i)
  have h0 := btv_le L (8 * j)
  have := h 1; have := h 2; have := h 3; have := h 4; have := h 5; have := h 6; have := h 7
  omega
theorem btByte_other {L : List Bool} {x : Bool} {j : Nat} (h : L.length / 8 ≠ j) : btByte (L ++ [x]) j = btByte L j := by
  unfold btByte
  have e : ∀ i, i < 8 → btv (L ++ [x]) (8 * j + i) = btv L (8 * j + i) := fun i hi => by rw [btv_snoc, if_neg (by omega)]
  have e0 : btv (L ++ [x]) (8 * j) = btv L (8 * j) := e 0 (by omega)
  rw [e0, e 1 (by omega), e 2 (by omega), e 3 (by omega), e 4 (by omega), e 5 (by omega), e 6 (by omega), e 7 (by omega)]
theorem or_bit : ∀ k, k < 8 → ∀ m, m < 2 ^ k → ((m * 2 ^ (8 - k)) ||| 2 ^ (7 - k)) = m * 2 ^ (8 - k) + 2 ^ (7 - k) := by decide
/-- The byte at the end is a multiple of what its missing bits are worth. -/
theorem btByte_mul {L : List Bool} {j k : Nat} (h : L.length = 8 * j + k) (hk : k < 8) : ∃ m, m < 2 ^ k ∧ btByte L j = m * 2 ^ (8 - k) := by
  have z : ∀ i, k ≤ i → btv L (8 * j + i) = 0 := fun i hi => btv_past (by omega)
  have o : ∀ i, btv L (8 * j + i) ≤ 1 := fun i => btv_le _ _
  have o0 : btv L (8 * j) ≤ 1 := btv_le _ _
  unfold btByte
  rcases (show k = 0 ∨ k = 1 ∨ k = 2 ∨ k = 3 ∨ k = 4 ∨ k = 5 ∨ k = 6 ∨ k = 7 by omega) with rfl | rfl | rfl | rfl | rfl | rfl | rfl | rfl
  · have z0 : btv L (8 * j) = 0 := z 0 (by omega)
    rw [z0, z 1 (by omega), z 2 (by omega), z 3 (by omega), z 4 (by omega), z 5 (by omega), z 6 (by omega), z 7 (by omega)]
    exact ⟨0, by omega, by omega⟩
  · rw [z 1 (by omega), z 2 (by omega), z 3 (by omega), z 4 (by omega), z 5 (by omega), z 6 (by omega), z 7 (by omega)]
    exact ⟨btv L (8 * j), by omega, by omega⟩
  · rw [z 2 (by omega), z 3 (by omega), z 4 (by omega), z 5 (by omega), z 6 (by omega), z 7 (by omega)]
    exact ⟨2 * btv L (8 * j) + btv L (8 * j + 1), by have := o 1; omega, by omega⟩
  · rw [z 3 (by omega), z 4 (by omega), z 5 (by omega), z 6 (by omega), z 7 (by omega)]
    exact ⟨4 * btv L (8 * j) + 2 * btv L (8 * j + 1) + btv L (8 * j + 2), by have := o 1; have := o 2; omega, by omega⟩
  · rw [z 4 (by omega), z 5 (by omega), z 6 (by omega), z 7 (by omega)]
    exact ⟨8 * btv L (8 * j) + 4 * btv L (8 * j + 1) + 2 * btv L (8 * j + 2) + btv L (8 * j + 3), by have := o 1; have := o 2; have := o 3; omega, by omega⟩
  · rw [z 5 (by omega), z 6 (by omega), z 7 (by omega)]
    exact ⟨16 * btv L (8 * j) + 8 * btv L (8 * j + 1) + 4 * btv L (8 * j + 2) + 2 * btv L (8 * j + 3) + btv L (8 * j + 4), by have := o 1; have := o 2; have := o 3; have := o 4; omega, by omega⟩
  · rw [z 6 (by omega), z 7 (by omega)]
    exact ⟨32 * btv L (8 * j) + 16 * btv L (8 * j + 1) + 8 * btv L (8 * j + 2) + 4 * btv L (8 * j + 3) + 2 * btv L (8 * j + 4) + btv L (8 * j + 5), by have := o 1; have := o 2; have := o 3; have := o 4; have := o 5; omega, by omega⟩
  · rw [z 7 (by omega)]
    exact ⟨64 * btv L (8 * j) + 32 * btv L (8 * j + 1) + 16 * btv L (8 * j + 2) + 8 * btv L (8 * j + 3) + 4 * btv L (8 * j + 4) + 2 * btv L (8 * j + 5) + btv L (8 * j + 6), by have := o 1; have := o 2; have := o 3; have := o 4; have := o 5; have := o 6; omega, by omega⟩
theorem btByte_snoc {L : List Bool} {x : Bool} {j k : Nat} (h : L.length = 8 * j + k) (hk : k < 8) : btByte (L ++ [x]) j = btByte L j ||| ((if x then 1 else 0) * 2 ^ (7 - k)) := by
  obtain ⟨m, hm, he⟩ := btByte_mul h hk
  have hor : (btByte L j ||| ((if x then 1 else 0) * 2 ^ (7 - k))) = btByte L j + (if x then 1 else 0) * 2 ^ (7 - k) := by
    cases x
    · simp
    · simp only [if_true, Nat.one_mul]; rw [he]; exact or_bit k hk m hm
  rw [hor]
  unfold btByte
  have hz : btv L (8 * j + k) = 0 := btv_past (by omega)
  have e : ∀ i, i ≠ k → btv (L ++ [x]) (8 * j + i) = btv L (8 * j + i) := fun i hi => by rw [btv_snoc, if_neg (by omega)]
  have ek : btv (L ++ [x]) (8 * j + k) = if x then 1 else 0 := by rw [btv_snoc, if_pos (by omega)]
  rcases (show k = 0 ∨ k = 1 ∨ k = 2 ∨ k = 3 ∨ k = 4 ∨ k = 5 ∨ k = 6 ∨ k = 7 by omega) with rfl | rfl | rfl | rfl | rfl | rfl | rfl | rfl
  · have ek' : btv (L ++ [x]) (8 * j) = if x then 1 else 0 := ek
    have hz' : btv L (8 * j) = 0 := hz
    rw [ek', hz', e 1 (by omega), e 2 (by omega), e 3 (by omega), e 4 (by omega), e 5 (by omega), e 6 (by omega), e 7 (by omega)]; omega
  all_goals
    have e0 : btv (L ++ [x]) (8 * j) = btv L (8 * j) := e 0 (by omega)
    rw [e0, ek, hz]
    try rw [e 1 (by omega)]
    try rw [e 2 (by omega)]
    try rw [e 3 (by omega)]
    try rw [e 4 (by omega)]
    try rw [e 5 (by omega)]
    try rw [e 6 (by omega)]
    try rw [e 7 (by omega)]
    omega

/-- The bytes of a list of bits, noughts up to the end of the last one. -/
def btBytes (L : List Bool) : List Nat := (List.range ((L.length + 7) / 8)).map (btByte L)
theorem btBytes_length (L : List Bool) : (btBytes L).length = (L.length + 7) / 8 := by simp [btBytes]
theorem btBytes_at {L : List Bool} {j : Nat} (h : j < (L.length + 7) / 8) : (btBytes L)[j]? = some (btByte L j) := by
  unfold btBytes; rw [List.getElem?_map, List.getElem?_range h]; rfl
/-- A bit behind a full last byte: a new byte. -/
theorem btBytes_new {L : List Bool} (h : L.length % 8 = 0) : ∀ x : Bool, btBytes (L ++ [x]) = (btBytes L ++ [0]).set (L.length / 8) ((if x then 1 else 0) * 128) := fun x => by
  have h8 : L.length = 8 * (L.length / 8) + 0 := by omega
  apply List.ext_getElem?
  intro j
  rw [List.getElem?_set]
  have hl : (btBytes L ++ [0]).length = L.length / 8 + 1 := by simp [btBytes_length]; omega
  by_cases hj : L.length / 8 = j
  · rw [if_pos hj, if_pos (by omega), btBytes_at (by simp; omega)]
    subst hj
    rw [btByte_snoc h8 (by omega)]
    have : btByte L (L.length / 8) = 0 := by
      obtain ⟨m, hm, he⟩ := btByte_mul h8 (by omega)
      rw [he]; simp at hm; subst hm; simp
    rw [this]; simp
  · rw [if_neg hj]
    by_cases hlt : j < L.length / 8
    · rw [btBytes_at (by simp; omega), btByte_other hj, List.getElem?_append_left (by simp [btBytes_length]; omega), btBytes_at (by omega)]
    · rw [List.getElem?_eq_none (by rw [btBytes_length]; simp; omega), List.getElem?_eq_none (by omega)]
/-- A bit into the last byte. -/
theorem btBytes_more {L : List Bool} (h : L.length % 8 ≠ 0) (x : Bool) : btBytes (L ++ [x]) = (btBytes L).set (L.length / 8) (btByte L (L.length / 8) ||| ((if x then 1 else 0) * 2 ^ (7 - L.length % 8))) := by
  have h8 : L.length = 8 * (L.length / 8) + L.length % 8 := by omega
  apply List.ext_getElem?
  intro j
  rw [List.getElem?_set]
  by_cases hj : L.length / 8 = j
  · rw [if_pos hj, if_pos (by rw [btBytes_length]; omega), btBytes_at (by simp; omega)]
    subst hj
    rw [btByte_snoc h8 (by omega)]
  · rw [if_neg hj]
    by_cases hlt : j < (L.length + 7) / 8
    · rw [btBytes_at (by simp; omega), btByte_other hj, btBytes_at hlt]
    · rw [List.getElem?_eq_none (by rw [btBytes_length]; simp; omega), List.getElem?_eq_none (by rw [btBytes_length]; omega)]

/-- The lowest n bits of a number, the highest of them first. -/
def putL (x : Nat) : Nat → List Bool
  | 0 => []
  | n + 1 => (x / 2 ^ n % 2 == 1) :: putL x n
theorem putL_length (x : Nat) : ∀ n, (putL x n).length = n
  | 0 => rfl
  | n + 1 => by simp [putL, putL_length x n]
end Go.Proofs.Ytdkkpkgfiodlbaa

/- (*bits.Writer).Put. -/
namespace Go.Proofs.Ytdkkpkgfiodlbaa
open Go.RowKit
namespace Bt
theorem alloc_at (w : World) (o : Obj) : (w.alloc o).heap[w.heap.size]? = some o := by show (w.heap.push o)[w.heap.size]? = some o; simp
theorem cell_of {w : World} {b : Nat} {cs : Array Value} {T : TypeId} {fz : Nat × Nat} (h : w.heap[b]? = some (.cells cs T fz)) (o : Nat) : w.cell? ⟨b, o, none⟩ = cs[o]? := by
  simp [World.cell?, h]
theorem free_of {w : World} {b : Nat} {cs : Array Value} {T : TypeId} (h : w.heap[b]? = some (.cells cs T)) (o : Nat) : w.frozen? ⟨b, o, none⟩ = false := by
  simp [World.frozen?, h]
theorem own_shape {w : World} {base e size n : Nat} {v : Value} {xs : List Value} (h : w.ownsRow base e size v n xs) : ∃ a c, v = .slice a n c := by
  rcases h.2 with ⟨hv, h0⟩ | ⟨g, cap, cur, hv, _⟩
  · exact ⟨none, 0, by rw [hv, h0]⟩
  · exact ⟨_, _, hv⟩
theorem own_some {w : World} {base e size n : Nat} {v : Value} {xs : List Value} (h : w.ownsRow base e size v n xs) (h0 : 0 < n) : ∃ g c, v = .slice (some ⟨g, 0, none⟩) n c := by
  rcases h.2 with ⟨hv, h0'⟩ | ⟨g, cap, cur, hv, _⟩
  · omega
  · exact ⟨g, cap, hv⟩
theorem own_frame {A B : World} {base e size n : Nat} {v : Value} {xs : List Value} (h : A.ownsRow base e size v n xs) (hb : ∀ g, v.ownBlock = some g → B.heap[g]? = A.heap[g]?) : B.ownsRow base e size v n xs := by
  refine ⟨h.1, ?_⟩
  rcases h.2 with h2 | ⟨g, cap, cur, hv, hg, hh, r⟩
  · exact .inl h2
  · exact .inr ⟨g, cap, cur, hv, hg, (hb g (by rw [hv]; rfl)).trans hh, r⟩
theorem cells_set {W : World} {b o : Nat} {cs : Array Value} {T : TypeId} {fz : Nat × Nat} (v : Value) (h : W.heap[b]? = some (.cells cs T fz)) : (W.setCell ⟨b, o, none⟩ v).heap[b]? = some (.cells (cs.setIfInBounds o v) T fz) := by
  simp [World.setCell, Array.getElem?_modify, h]
theorem cells_other {W : World} {b c o : Nat} {ob : Option Obj} (v : Value) (h : W.heap[b]? = ob) (hne : b ≠ c) : (W.setCell ⟨c, o, none⟩ v).heap[b]? = ob := (Below.heap_setCell _ _ _ _ hne).trans h
end Bt

abbrev u8 (n : Nat) : Value := .int .u8 (n : Int)
theorem Try.infoU8 : (Try.prog.info? 5).map (fun i => (i.zero, i.size, i.bytes)) = some (some (.int .u8 0), 1, 1) := by kernel_rfl
theorem eltU8 : Elt Try.prog 39 5 1 1 (.int .u8 0) := by
  obtain ⟨i0, hi, hz0, hz1, hz2⟩ := info_parts Try.infoU8
  exact ⟨Try.underlying39, by decide, rfl, i0, hi, hz0, hz1, hz2⟩
/-- A row of bytes that the call owns. -/
def OwU (base : Nat) (w : World) (v : Value) (bs : List Nat) : Prop := w.ownsRow base 5 1 v bs.length (bs.map u8)
/-- A writer in memory: the bits that were written. -/
def WrS (base p : Nat) (L : List Bool) (W : World) : Prop := base ≤ p ∧ ∃ v, W.heap[p]? = some (.cells #[v, vi L.length] 93) ∧ OwU base W v (btBytes L)
/-- Only a writer turns, and rows of bytes from base on. -/
structure FrW (base p : Nat) (w w' : World) : Prop where
  os : w'.os = w.os
  tape : w'.tape = w.tape
  output : w'.output = w.output
  size : w.heap.size ≤ w'.heap.size
  old : ∀ j, j < w.heap.size → j ≠ p → (j < base ∨ ∀ cs fz, w.heap[j]? ≠ some (.cells cs 5 fz)) → w'.heap[j]? = w.heap[j]?
theorem FrW.refl (base p : Nat) (w : World) : FrW base p w w := ⟨rfl, rfl, rfl, Nat.le_refl _, fun _ _ _ _ => rfl⟩
theorem FrW.trans {base p : Nat} {a b c : World} (h : FrW base p a b) (k : FrW base p b c) : FrW base p a c := by
  refine ⟨k.os.trans h.os, k.tape.trans h.tape, k.output.trans h.output, Nat.le_trans h.size k.size, fun j hj hn ho => ?_⟩
  have e := h.old j hj hn ho
  refine (k.old j (Nat.lt_of_lt_of_le hj h.size) hn ?_).trans e
  rcases ho with ho | ho
  · exact .inl ho
  · exact .inr (fun cs fz => by rw [e]; exact ho cs fz)
theorem FrW.below {base p : Nat} {a b : World} (h : Below a.heap.size a b) : FrW base p a b := ⟨h.os, h.tape, h.output, h.size, fun j hj _ _ => h.block j hj⟩
theorem FrW.toBelow {base p : Nat} {a b : World} (h : FrW base p a b) (hs : base ≤ a.heap.size) (hp : base ≤ p) : Below base a b := ⟨h.os, h.tape, h.output, h.size, fun j hj => h.old j (by omega) (by omega) (.inl hj)⟩
theorem FrW.cells {base p : Nat} {a b : World} (h : FrW base p a b) {j : Nat} {cs : Array Value} {T : TypeId} {fz : Nat × Nat} (hj : a.heap[j]? = some (.cells cs T fz)) (hn : j ≠ p) (hT : T ≠ 5) : b.heap[j]? = some (.cells cs T fz) :=
  (h.old j (Array.getElem?_eq_some_iff.1 hj).1 hn (.inr (fun cs2 fz2 e => by rw [hj] at e; cases e; exact hT rfl))).trans hj
theorem WrS.later {base p : Nat} {L : List Bool} {A B : World} (h : WrS base p L A) (hb : Below A.heap.size A B) : WrS base p L B := by
  obtain ⟨hp, v, h1, h2⟩ := h
  exact ⟨hp, v, (hb.block p (Array.getElem?_eq_some_iff.1 h1).1).trans h1, own_below h2 hb⟩
theorem WrS.lt {base p : Nat} {L : List Bool} {A : World} (h : WrS base p L A) : p < A.heap.size := by
  obtain ⟨hp, v, h1, h2⟩ := h
  exact (Array.getElem?_eq_some_iff.1 h1).1

theorem and7 (n : Nat) (h : n < 9223372036854775808) : bits .and .i64 (n : Int) 7 = ((n % 8 : Nat) : Int) := by
  have := bits_mask .i64 63 (by decide) (fun n h0 h1 => by rw [IntKind.wrap_i64]; omega) 3 (by decide) (n : Int) (by omega) (by omega)
  have h2 : bits .and .i64 (n : Int) 7 = (n : Int) % 8 := this
  rw [h2]; omega
theorem put_byte {b x m k : Nat} (hb : b < 256) (hk : k < 8) (hx : x < 18446744073709551616) : bits .or .u8 (b : Int) (bits .and .u64 ((x : Int) / 2 ^ m) 1 % 256 * 2 ^ (7 - k) % 256) = ((b ||| ((if (x / 2 ^ m % 2 == 1) then 1 else 0) * 2 ^ (7 - k)) : Nat) : Int) := by
  have e1 : (x : Int) / 2 ^ m = ((x / 2 ^ m : Nat) : Int) := by simp
  have hlt : x / 2 ^ m < 18446744073709551616 := Nat.lt_of_le_of_lt (Nat.div_le_self _ _) hx
  have e2 : bits .and .u64 ((x / 2 ^ m : Nat) : Int) 1 = ((x / 2 ^ m % 2 : Nat) : Int) := by
    have := u64_and_nat (x / 2 ^ m) 1 hlt (by decide)
    rw [nat_mask1] at this; exact this
  rw [e1, e2]
  have hp : 2 ^ (7 - k) ≤ 2 ^ 7 := Nat.pow_le_pow_right (by decide) (by omega)
  have hy : (if (x / 2 ^ m % 2 == 1) then 1 else 0) = x / 2 ^ m % 2 := by
    have : x / 2 ^ m % 2 < 2 := Nat.mod_lt _ (by decide)
    rcases (show x / 2 ^ m % 2 = 0 ∨ x / 2 ^ m % 2 = 1 by omega) with h | h <;> rw [h] <;> rfl
  rw [hy]
  have hy2 : x / 2 ^ m % 2 < 2 := Nat.mod_lt _ (by decide)
  generalize x / 2 ^ m % 2 = z at *
  have e3 : ((z : Nat) : Int) % 256 * 2 ^ (7 - k) % 256 = ((z * 2 ^ (7 - k) : Nat) : Int) := by
    have h1 : ((z : Nat) : Int) % 256 = z := by omega
    rw [h1]
    have h2 : ((z : Int) * 2 ^ (7 - k)) = ((z * 2 ^ (7 - k) : Nat) : Int) := by simp
    rw [h2]
    have h3 : z * 2 ^ (7 - k) < 256 := by
      rcases (show z = 0 ∨ z = 1 by omega) with rfl | rfl <;> omega
    omega
  rw [e3]
  refine u8_or_nat b _ hb ?_
  rcases (show z = 0 ∨ z = 1 by omega) with rfl | rfl <;> omega
/-- The writer's block stays while its row grows. -/
theorem wr_kept {A B : World} {base p n : Nat} {v : Value} {xs : List Value} {cs : Array Value} {o : Obj} (h : A.ownsRow base 5 1 v n xs) (hg : (A.alloc o).grownBy B v.ownBlock) (hp : A.heap[p]? = some (.cells cs 93)) : B.heap[p]? = some (.cells cs 93) := by
  have hlt := (Array.getElem?_eq_some_iff.1 hp).1
  rw [hg.block p (by simp; omega) (fun e => by
    rcases h.2 with ⟨hv, h0⟩ | ⟨g, cap, cur, hv, hgb, hb, r⟩
    · rw [hv] at e; cases e
    · rw [hv] at e
      have : p = g := by simpa [Value.ownBlock] using e
      subst this
      rw [hb] at hp; cases hp), Below.heap_alloc _ _ _ hlt]
  exact hp
theorem grow_frame {A B : World} {base p n : Nat} {v : Value} {xs : List Value} {o : Obj} (h : A.ownsRow base 5 1 v n xs) (hg : (A.alloc o).grownBy B v.ownBlock) : FrW base p A B := by
  have hs : A.heap.size ≤ B.heap.size := Nat.le_trans (by simp) hg.size
  refine ⟨hg.os, hg.tape, hg.output, hs, fun j hj _ ho => ?_⟩
  rw [hg.block j (by simp; omega) (fun e => by
    rcases h.2 with ⟨hv, h0⟩ | ⟨g, cap, cur, hv, hgb, hb, r⟩
    · rw [hv] at e; cases e
    · rw [hv] at e
      have : j = g := by simpa [Value.ownBlock] using e
      subst this
      rcases ho with ho | ho
      · omega
      · exact ho _ _ hb), Below.heap_alloc _ _ _ hj]
theorem FrW.setP {base p : Nat} (A : World) (o : Nat) (v : Value) : FrW base p A (A.setCell ⟨p, o, none⟩ v) :=
  ⟨rfl, rfl, rfl, by simp [World.setCell], fun j _ hj _ => Below.heap_setCell _ _ _ j hj⟩
/-- An element of a row of bytes is set. -/
theorem own_byte {b p : Nat} {w : World} {len c : Nat} {cs : List Nat} {g : Nat} (h : w.ownsRow b 5 1 (.slice (some ⟨g, 0, none⟩) len c) len (cs.map u8)) {k : Nat} (hk : k < cs.length) (z : Nat) : (w.setCell ⟨g, k, none⟩ (u8 z)).ownsRow b 5 1 (.slice (some ⟨g, 0, none⟩) len c) len ((cs.set k z).map u8) ∧ FrW b p w (w.setCell ⟨g, k, none⟩ (u8 z)) ∧ (∃ cur, w.heap[g]? = some (.cells cur 5)) ∧ w.cell? ⟨g, k, none⟩ = some (u8 (cs[k]?.getD 0)) := by
  have h1 := h.1
  rcases h.2 with ⟨hv, _⟩ | ⟨g', cap, cur, hv, hg, hh, hn, hm, hs, ht⟩
  · cases hv
  · cases hv
    have hcur : (cur.set! k (u8 z)).size = c * 1 := by simpa using hs
    refine ⟨⟨by simpa using h1, .inr ⟨g, c, cur.set! k (u8 z), rfl, hg, Bt.cells_set _ hh, hn, hm, hcur, ?_⟩⟩, ⟨rfl, rfl, rfl, by simp [World.setCell], fun j _ _ ho => Below.heap_setCell _ _ _ j (fun e => by
      subst e
      rcases ho with ho | ho
      · omega
      · exact ho _ _ hh)⟩, ⟨cur, hh⟩, ?_⟩
    · have e1 : (cur.set! k (u8 z)).toList = cur.toList.set k (u8 z) := by simp
      rw [e1, List.map_set, ← ht, List.take_set]
    · rw [Bt.cell_of hh, List.getElem?_eq_getElem hk]
      have e2 : (cur.toList.take (len * 1))[k]? = some (u8 cs[k]) := by rw [ht, List.getElem?_map, List.getElem?_eq_getElem hk]; rfl
      have hk2 : k < len * 1 := by simp at h1; omega
      rw [List.getElem?_take_of_lt hk2] at e2
      simpa using e2
def PutQ (base p : Nat) (L : List Bool) (w : World) (e : Ending) (w' : World) : Prop := e = .returned (.tuple #[]) ∧ WrS base p L w' ∧ FrW base p w w'

set_option maxRecDepth 100000 in
set_option maxHeartbeats 4000000 in
theorem put_call {base p : Nat} {L : List Bool} (x n : Nat) (w : World) (h : WrS base p L w) (hx : x < 18446744073709551616) (hn : n ≤ 64) (hL : L.length ≤ 1048576) (hb : base ≤ w.heap.size) :
    Calls Try.prog 72 #[.pointer (some ⟨p, 0, none⟩), .int .u64 x, .int .i64 n] w (PutQ base p (L ++ putL x n) w) := by
  have HW := Lib.hid h
  have hmm : IntKind.i64.wrap ((n : Int) - 1) = (n : Int) - 1 := IntWalk.i64_in _ (by omega)
  clear h
  go_enter Try.func72, Try.ntmps72
  go_wp2_with fail
  go_loopw [6] (fun v wr => ∃ k : Nat, k ≤ n ∧ ((k = 0 ∧ v = .int .i64 (-1)) ∨ ∃ m : Nat, k = m + 1 ∧ v = .int .i64 (m : Int)) ∧ Hid (∃ L', L' ++ putL x k = L ++ putL x n ∧ WrS base p L' wr ∧ FrW base p w wr)) (fun v _ => (intOf v + 1).toNat)
  case atStart =>
    refine ⟨n, Nat.le_refl _, ?_, Lib.hid ⟨L, rfl, HW.out, FrW.refl _ _ _⟩⟩
    cases n with
    | zero => exact .inl ⟨rfl, by simp <;> omega⟩
    | succ m => exact .inr ⟨m, rfl, by go_num⟩
  case round =>
    obtain ⟨wj, rfl⟩ : ∃ wj : World, wj = wr := ⟨_, rfl⟩
    obtain ⟨k, hk, hv, HJ⟩ := hrel
    obtain ⟨L', hL', hWr, hFr⟩ := HJ.out
    have hlen : L'.length + k = L.length + n := by
      have := congrArg List.length hL'
      simp [putL_length] at this; exact this
    rcases hv with ⟨rfl, rfl⟩ | ⟨m, rfl, rfl⟩
    · have HE := Lib.hid (show L' = L ++ putL x n by simpa [putL] using hL')
      clear hmm hL' HJ
      have HWr := Lib.hid hWr
      have HFr := Lib.hid hFr
      clear hWr hFr
      go_wp2_with fail
      go_end0
      exact ⟨rfl, by rw [← HE.out]; exact HWr.out, HFr.out⟩
    · have HL' := Lib.hid (show (L' ++ [x / 2 ^ m % 2 == 1]) ++ putL x m = L ++ putL x n by rw [← hL']; simp [putL])
      obtain ⟨hbp, v, hp, hrow⟩ := hWr
      have HROW := Lib.hid hrow
      have HPB := Lib.hid hp
      have HFr := Lib.hid hFr
      obtain ⟨av, cv, rfl⟩ := Bt.own_shape hrow
      rw [btBytes_length] at *
      have hlb : L'.length ≤ 1048640 := by omega
      have c0 : wj.cell? ⟨p, 0, none⟩ = some (.slice av ((L'.length + 7) / 8) cv) := by rw [Bt.cell_of hp]; rfl
      have c1 : wj.cell? ⟨p, 1, none⟩ = some (vi L'.length) := by rw [Bt.cell_of hp]; rfl
      have f0 : ∀ o, wj.frozen? ⟨p, o, none⟩ = false := fun o => Bt.free_of hp o
      have h7 : bits .and .i64 (L'.length : Int) 7 = ((L'.length % 8 : Nat) : Int) := and7 _ (by omega)
      clear hL' hrow hp hFr HJ hmm
      go_upto_if 20 with fail
      go_cut [] (fun wx => ∃ v' bs', wx.heap[p]? = some (.cells #[v', vi L'.length] 93) ∧ OwU base wx v' bs' ∧ bs' = (if L'.length % 8 = 0 then btBytes L' ++ [0] else btBytes L') ∧ FrW base p w wx)
      case first =>
        by_cases h8 : L'.length % 8 = 0
        · have hb0 : (((L'.length % 8 : Nat) : Int) == 0) = true := by simp [h8]
          have hbw := HFr.out.size
          have HP8 := Lib.hid h8
          have HLB := Lib.hid (btBytes_length L')
          have hrw : wj.ownsRow base 5 1 (.slice av ((L'.length + 7) / 8) cv) ((L'.length + 7) / 8) ((btBytes L').map u8) := by have := HROW.out; unfold OwU at this; rw [btBytes_length] at this; exact this
          have HRW := Lib.hid hrw
          have c0a : ∀ o, (wj.alloc o).cell? ⟨p, 0, none⟩ = some (.slice av ((L'.length + 7) / 8) cv) := fun o => cell_later ((Below.refl _ _).alloc (Nat.le_refl _) o) c0
          have hlt := (Array.getElem?_eq_some_iff.1 HPB.out).1
          clear h8 hrw
          go_wp2_with (refine wpList_append_src rfl (.tmp 25) (.tmp 26) 39 rfl eltU8 base ((L'.length + 7) / 8) _ (HRW.out.alloc _) rfl 1 [u8 0] (src_new (cs := #[u8 0]) rfl rfl) rfl (by intro u hu; simp at hu; subst hu; rfl) (by omega) (by omega) (by simp; omega) ?_; intro v1 w1 ho1 hg1 _; obtain ⟨g1, cp1, rfl⟩ := Bt.own_some ho1 (by omega); have HO1 := Lib.hid ho1; have HG1 := Lib.hid hg1; have hp1 : w1.heap[p]? = some (.cells #[.slice av ((L'.length + 7) / 8) cv, vi L'.length] 93) := (wr_kept HRW.out hg1 HPB.out); have q0 : w1.cell? ⟨p, 0, none⟩ = some (.slice av ((L'.length + 7) / 8) cv) := (by rw [Bt.cell_of hp1]; rfl); have q1 : w1.frozen? ⟨p, 0, none⟩ = false := Bt.free_of hp1 0; have HP1 := Lib.hid hp1; clear ho1 hg1 hp1)
          go_meet
          have hbp2 : p ≠ g1 := fun e => by
            have := HP1.out
            rcases HO1.out.2 with ⟨hv, _⟩ | ⟨g', cap, cur, hv, hg, hh, hn, hm, hs, ht⟩
            · cases hv
            · cases hv; rw [e] at this; rw [this] at hh; cases hh
          refine ⟨_, btBytes L' ++ [0], Bt.cells_set _ HP1.out, ?_, by rw [if_pos HP8.out], (HFr.out.trans (grow_frame HRW.out HG1.out)).trans (FrW.setP _ _ _)⟩
          have hx : w1.ownsRow base 5 1 (.slice (some ⟨g1, 0, none⟩) ((L'.length + 7) / 8 + 1) cp1) ((L'.length + 7) / 8 + 1) ((btBytes L' ++ [0]).map u8) := by simpa using HO1.out
          have hl : (btBytes L' ++ [0]).length = (L'.length + 7) / 8 + 1 := by simp [btBytes_length]
          show World.ownsRow _ base _ 1 _ (btBytes L' ++ [0]).length _
          rw [hl]
          exact Bt.own_frame hx (fun g hg => by
            simp only [Value.ownBlock, Option.some.injEq] at hg; subst hg
            exact Bt.cells_other _ rfl (fun e => hbp2 e.symm))
        · have hb0 : (((L'.length % 8 : Nat) : Int) == 0) = false := by simp; omega
          have HP8 := Lib.hid h8
          clear h8
          go_wp2_with fail
          go_meet
          exact ⟨_, btBytes L', HPB.out, HROW.out, by rw [if_neg HP8.out], HFr.out⟩
      case rest =>
        obtain ⟨wx, rfl⟩ : ∃ wx : World, wx = wc := ⟨_, rfl⟩
        obtain ⟨v', bs', hp', ho', rfl, hfr'⟩ := hcut
        generalize hB : (if L'.length % 8 = 0 then btBytes L' ++ [0] else btBytes L') = bs at ho'
        have hl : bs.length = L'.length / 8 + 1 := by
          rw [← hB]; split <;> simp [btBytes_length] <;> omega
        unfold OwU at ho'
        rw [hl] at ho'
        obtain ⟨g, cp, rfl⟩ := Bt.own_some ho' (by omega)
        have HSET := fun z => Lib.hid (own_byte (p := p) ho' (k := L'.length / 8) (by omega) z)
        have hbt : bs[L'.length / 8]?.getD 0 < 256 := by
          rw [← hB]
          by_cases h8 : L'.length % 8 = 0
          · rw [if_pos h8, List.getElem?_append_right (by rw [btBytes_length]; omega)]
            rw [show L'.length / 8 - (btBytes L').length = 0 by rw [btBytes_length]; omega]; decide
          · rw [if_neg h8, btBytes_at (by omega)]; exact btByte_lt _ _
        have HNB := Lib.hid (put_byte (b := bs[L'.length / 8]?.getD 0) (x := x) (m := m) (k := L'.length % 8) hbt (by omega) hx)
        have hnew : bs.set (L'.length / 8) (bs[L'.length / 8]?.getD 0 ||| ((if (x / 2 ^ m % 2 == 1) then 1 else 0) * 2 ^ (7 - L'.length % 8))) = btBytes (L' ++ [x / 2 ^ m % 2 == 1]) := by
          rw [← hB]
          by_cases h8 : L'.length % 8 = 0
          · rw [if_pos h8, btBytes_new h8, List.getElem?_append_right (by rw [btBytes_length]; omega), show L'.length / 8 - (btBytes L').length = 0 by rw [btBytes_length]; omega, h8]
            simp
          · rw [if_neg h8, btBytes_more h8, btBytes_at (by omega)]; rfl
        have HNEW := Lib.hid hnew
        clear hnew hbt
        have hc := (own_byte (p := p) ho' (k := L'.length / 8) (by omega) 0).2.2
        obtain ⟨⟨cur, hcur⟩, hg⟩ := hc
        have hc0 := Lib.hid hcur
        have d0 : wx.cell? ⟨p, 0, none⟩ = some (.slice (some ⟨g, 0, none⟩) (L'.length / 8 + 1) cp) := by rw [Bt.cell_of hp']; rfl
        have d1 : wx.cell? ⟨p, 1, none⟩ = some (vi L'.length) := by rw [Bt.cell_of hp']; rfl
        have d2 : ∀ o, wx.frozen? ⟨p, o, none⟩ = false := fun o => Bt.free_of hp' o
        have d3 : ∀ o, wx.frozen? ⟨g, o, none⟩ = false := fun o => Bt.free_of hcur o
        have HB := Lib.hid hB
        have HL2 := Lib.hid hl
        have HP2 := Lib.hid hp'
        have HF2 := Lib.hid hfr'
        clear hB hl hp' hfr' ho' hcur c0 c1 f0
        go_wp2_with fail
        go_region
        rw [HNB.out]
        generalize hz : (bs[L'.length / 8]?.getD 0 ||| ((if (x / 2 ^ m % 2 == 1) then 1 else 0) * 2 ^ (7 - L'.length % 8))) = z at *
        have HZ := Lib.hid hz
        clear hz
        obtain ⟨ho3, hf3, _, _⟩ := (HSET z).out
        have hgp : p ≠ g := fun e => by
          rcases hc0.out with hcur
          rw [e] at HP2; rw [HP2.out] at hcur; cases hcur
        have hp3 : (wx.setCell ⟨g, L'.length / 8, none⟩ (u8 z)).heap[p]? = some (.cells #[.slice (some ⟨g, 0, none⟩) (L'.length / 8 + 1) cp, vi L'.length] 93) := Bt.cells_other _ HP2.out hgp
        generalize hwy : wx.setCell ⟨g, L'.length / 8, none⟩ (u8 z) = wy at *
        have e1 : wy.cell? ⟨p, 1, none⟩ = some (vi L'.length) := by rw [Bt.cell_of hp3]; rfl
        have e2 : wy.frozen? ⟨p, 1, none⟩ = false := Bt.free_of hp3 1
        have HO3 := Lib.hid ho3
        have HF3 := Lib.hid hf3
        have HP3 := Lib.hid hp3
        have hw1 : IntKind.i64.wrap ((L'.length : Int) + 1) = (L'.length : Int) + 1 := IntWalk.i64_in _ (by omega)
        clear ho3 hf3 hp3 hwy HSET d0 d1 d2 d3
        go_wp2_with fail
        refine ⟨⟨m, by omega, ?_, ?_⟩, by simp only [intOf]; omega⟩
        · cases m with
          | zero => exact .inl ⟨rfl, rfl⟩
          | succ q => exact .inr ⟨q, rfl, by go_num⟩
        · have hgl : ∀ j, (Value.slice (some ⟨g, 0, none⟩) (L'.length / 8 + 1) cp).ownBlock = some j → (wy.setCell ⟨p, 1, none⟩ (.int .i64 ((L'.length : Int) + 1))).drew.heap[j]? = wy.heap[j]? := fun j hj => by
            simp only [Value.ownBlock, Option.some.injEq] at hj; subst hj
            exact Bt.cells_other _ rfl (fun e => hgp e.symm)
          have hz2 : bs.set (L'.length / 8) z = btBytes (L' ++ [x / 2 ^ m % 2 == 1]) := HNEW.out
          have hl2 : (btBytes (L' ++ [x / 2 ^ m % 2 == 1])).length = L'.length / 8 + 1 := by rw [btBytes_length]; simp; omega
          have hp4 : (wy.setCell ⟨p, 1, none⟩ (.int .i64 ((L'.length : Int) + 1))).drew.heap[p]? = some (.cells #[.slice (some ⟨g, 0, none⟩) (L'.length / 8 + 1) cp, vi (L' ++ [x / 2 ^ m % 2 == 1]).length] 93) := by
            have h1 : (wy.setCell ⟨p, 1, none⟩ (.int .i64 ((L'.length : Int) + 1))).heap[p]? = _ := Bt.cells_set _ HP3.out
            refine (show _ = _ from h1).trans ?_
            simp
          have hf4 : FrW base p wy (wy.setCell ⟨p, 1, none⟩ (.int .i64 ((L'.length : Int) + 1))).drew := ⟨rfl, rfl, rfl, by simp [World.setCell], fun j _ hj _ => Below.heap_setCell wy ⟨p, 1, none⟩ _ j hj⟩
          refine Lib.hid ⟨L' ++ [x / 2 ^ m % 2 == 1], HL'.out, ⟨hbp, _, hp4, ?_⟩, (HF2.out.trans HF3.out).trans hf4⟩
          have := Bt.own_frame HO3.out hgl
          rw [hz2] at this
          show World.ownsRow _ base _ 1 _ (btBytes _).length _
          rw [hl2]; exact this
end Go.Proofs.Ytdkkpkgfiodlbaa

/- math/bits.Len64. -/
namespace Go.Proofs.Ytdkkpkgfiodlbaa
open Go.RowKit
set_option maxHeartbeats 4000000 in
set_option maxRecDepth 100000 in
theorem len64_call (x : Int) (w : World) (h0 : 0 ≤ x) (h1 : x ≤ 18446744073709551615) :
    Calls Try.prog 82 #[.int .u64 x] w fun e w' => e = .returned (.int .i64 (Lib.bitLen x.toNat)) ∧ w' = w := by
  go_enter Try.func82, Try.ntmps82
  go_wp2
  all_goals first
    | (go_ret; refine ⟨congrArg Ending.returned (congrArg (Value.int IntKind.i64) ?_), rfl⟩; go_light)
    | (exfalso
       go_light
       have hs := len8tab_size
       omega)
  all_goals first
    | (rw [len8_get (x / 4294967296 / 65536 / 256) _, Lib.len8_of (x / 4294967296 / 65536 / 256) (by omega) (by omega)]
       have e : (x / 4294967296 / 65536 / 256).toNat = x.toNat / 72057594037927936 := by omega
       have l := Lib.bitLen_le8' (x / 4294967296 / 65536 / 256) (by omega) (by omega)
       have s := Lib.bitLen_shift56 x.toNat (by omega) (by omega)
       rw [e] at l ⊢
       exact wrap_add 56 _ _ (by decide) l s)
    | (rw [len8_get (x / 4294967296 / 65536) _, Lib.len8_of (x / 4294967296 / 65536) (by omega) (by omega)]
       have e : (x / 4294967296 / 65536).toNat = x.toNat / 281474976710656 := by omega
       have l := Lib.bitLen_le8' (x / 4294967296 / 65536) (by omega) (by omega)
       have s := Lib.bitLen_shift48 x.toNat (by omega) (by omega)
       rw [e] at l ⊢
       exact wrap_add 48 _ _ (by decide) l s)
    | (rw [len8_get (x / 4294967296 / 256) _, Lib.len8_of (x / 4294967296 / 256) (by omega) (by omega)]
       have e : (x / 4294967296 / 256).toNat = x.toNat / 1099511627776 := by omega
       have l := Lib.bitLen_le8' (x / 4294967296 / 256) (by omega) (by omega)
       have s := Lib.bitLen_shift40 x.toNat (by omega) (by omega)
       rw [e] at l ⊢
       exact wrap_add 40 _ _ (by decide) l s)
    | (rw [len8_get (x / 4294967296) _, Lib.len8_of (x / 4294967296) (by omega) (by omega)]
       have e : (x / 4294967296).toNat = x.toNat / 4294967296 := by omega
       have l := Lib.bitLen_le8' (x / 4294967296) (by omega) (by omega)
       have s := Lib.bitLen_shift32 x.toNat (by omega) (by omega)
       rw [e] at l ⊢
       exact wrap_add 32 _ _ (by decide) l s)
    | (rw [len8_get (x / 65536 / 256) _, Lib.len8_of (x / 65536 / 256) (by omega) (by omega)]
       have e : (x / 65536 / 256).toNat = x.toNat / 16777216 := by omega
       have l := Lib.bitLen_le8' (x / 65536 / 256) (by omega) (by omega)
       have s := Lib.bitLen_shift24 x.toNat (by omega) (by omega)
       rw [e] at l ⊢
       exact wrap_add 24 _ _ (by decide) l s)
    | (rw [len8_get (x / 65536) _, Lib.len8_of (x / 65536) (by omega) (by omega)]
       have e : (x / 65536).toNat = x.toNat / 65536 := by omega
       have l := Lib.bitLen_le8' (x / 65536) (by omega) (by omega)
       have s := Lib.bitLen_shift16 x.toNat (by omega) (by omega)
       rw [e] at l ⊢
       exact wrap_add 16 _ _ (by decide) l s)
    | (rw [len8_get (x / 256) _, Lib.len8_of (x / 256) (by omega) (by omega)]
       have e : (x / 256).toNat = x.toNat / 256 := by omega
       have l := Lib.bitLen_le8' (x / 256) (by omega) (by omega)
       have s := Lib.bitLen_shift8 x.toNat (by omega) (by omega)
       rw [e] at l ⊢
       exact wrap_add 8 _ _ (by decide) l s)
    | (rw [len8_get (x) _, Lib.len8_of (x) (by omega) (by omega)]
       have e : (x).toNat = x.toNat := by omega
       have l := Lib.bitLen_le8' (x) (by omega) (by omega)
       rw [e] at l ⊢
       first | exact wrap_wrap _ l | exact wrap_add 0 _ _ (by decide) l (by omega) | exact wrap_one _ l)
end Go.Proofs.Ytdkkpkgfiodlbaa

/- (*bits.Writer).Num. -/
namespace Go.Proofs.Ytdkkpkgfiodlbaa
open Go.RowKit
/-- A number's bits. -/
def numL (x : Nat) : List Bool :=
  if x = 18446744073709551615 then putL 0 64 ++ putL 1 1 ++ putL 0 64
  else putL 0 (Lib.bitLen (x + 1) - 1) ++ putL (x + 1) (Lib.bitLen (x + 1))
theorem numL_length (x : Nat) (h : x < 18446744073709551616) : (numL x).length ≤ 129 := by
  unfold numL
  split
  · simp [putL_length]
  · have := Lib.bitLen_le (x + 1) 64 (by decide) (by omega)
    simp [putL_length]; omega
theorem bitLen_pos {x : Nat} (h : x ≠ 0) (h2 : x < 2 ^ 64) : 1 ≤ Lib.bitLen x := by rw [Lib.bitLen_half x h h2]; omega
def NumQ (base p : Nat) (L : List Bool) (w : World) (e : Ending) (w' : World) : Prop := e = .returned (.tuple #[]) ∧ WrS base p L w' ∧ FrW base p w w'

set_option maxRecDepth 100000 in
set_option maxHeartbeats 4000000 in
theorem num_call {base p : Nat} {L : List Bool} (x : Nat) (w : World) (h : WrS base p L w) (hx : x < 18446744073709551616) (hL : L.length ≤ 1048000) (hb : base ≤ w.heap.size) :
    Calls Try.prog 54 #[.pointer (some ⟨p, 0, none⟩), .int .u64 x] w (PutQ base p (L ++ numL x) w) := by
  have HW := Lib.hid h
  clear h
  go_enter Try.func54, Try.ntmps54
  by_cases hm : x = 18446744073709551615
  · have hN := Lib.hid (show numL x = putL 0 64 ++ putL 1 1 ++ putL 0 64 by unfold numL; rw [if_pos hm])
    have hb1 : ((x : Int) == 18446744073709551615) = true := by subst hm; rfl
    clear hm
    go_wp2_with (first
      | (go_at_call 72; refine (put_call (L := L ++ putL 0 64 ++ putL 1 1) 0 64 w2 HW2.out (by decide) (by decide) (by simp [putL_length]; omega) (by omega)).mono ?_; rintro e3 w3 ⟨rfl, hw3, hf3⟩; have HW3 := Lib.hid hw3; have HF3 := Lib.hid hf3; clear hw3 hf3)
      | (go_at_call 72; refine (put_call (L := L ++ putL 0 64) 1 1 w1 HW1.out (by decide) (by decide) (by simp [putL_length]; omega) (by omega)).mono ?_; rintro e2 w2 ⟨rfl, hw2, hf2⟩; have HW2 := Lib.hid hw2; have HF2 := Lib.hid hf2; have hz2 := hf2.size; clear hw2 hf2)
      | (go_at_call 72; refine (put_call (L := L) 0 64 w HW.out (by decide) (by decide) (by omega) hb).mono ?_; rintro e1 w1 ⟨rfl, hw1, hf1⟩; have HW1 := Lib.hid hw1; have HF1 := Lib.hid hf1; have hz1 := hf1.size; clear hw1 hf1))
    (try simp only [Exit.inBlock, Exit.then])
    refine bodyPost_ret (results_none rfl _ _ _) rfl ?_
    refine ⟨rfl, ?_, (HF1.out.trans HF2.out).trans HF3.out⟩
    rw [hN.out, ← List.append_assoc, ← List.append_assoc]; exact HW3.out
  · have hN := Lib.hid (show numL x = putL 0 (Lib.bitLen (x + 1) - 1) ++ putL (x + 1) (Lib.bitLen (x + 1)) by unfold numL; rw [if_neg hm])
    have hb1 : ((x : Int) == 18446744073709551615) = false := by simp; omega
    have hlt : x + 1 < 18446744073709551616 := by omega
    have hw1 : IntKind.u64.wrap ((x : Int) + 1) = (x : Int) + 1 := by rw [IntKind.wrap_u64]; omega
    have hp := bitLen_pos (x := x + 1) (by omega) hlt
    have hle := Lib.bitLen_le (x + 1) 64 (by decide) hlt
    have hcs : ((Lib.bitLen (x + 1) : Int) - 1) = ((Lib.bitLen (x + 1) - 1 : Nat) : Int) := by omega
    have htn : ((x : Int) + 1).toNat = x + 1 := by omega
    clear hm
    go_wp2_with (first
      | (go_at_call 72; refine (put_call (L := L ++ putL 0 (Lib.bitLen (x + 1) - 1)) (x + 1) (Lib.bitLen (x + 1)) w1 HW1.out (by omega) (by omega) (by simp [putL_length]; omega) (by omega)).mono ?_; rintro e2 w2 ⟨rfl, hw2, hf2⟩; have HW2 := Lib.hid hw2; have HF2 := Lib.hid hf2; clear hw2 hf2)
      | (go_at_call 72; (try rw [hcs]); refine (put_call (L := L) 0 (Lib.bitLen (x + 1) - 1) w0 HW.out (by decide) (by omega) (by omega) hb).mono ?_; rintro e1 w1 ⟨rfl, hw1, hf1⟩; have HW1 := Lib.hid hw1; have HF1 := Lib.hid hf1; have hz1 := hf1.size; clear hw1 hf1)
      | (go_at_call 82; refine (len64_call ((x : Int) + 1) w (by omega) (by omega)).mono ?_; rintro e0 w0 ⟨rfl, rfl⟩; rw [htn]))


    go_end0
    refine ⟨rfl, ?_, HF1.out.trans HF2.out⟩
    rw [hN.out, ← List.append_assoc]; exact HW2.out
end Go.Proofs.Ytdkkpkgfiodlbaa

/- (*bits.Writer).Int. -/
namespace Go.Proofs.Ytdkkpkgfiodlbaa
open Go.RowKit
/-- A number that may be below nought, as one that is not. -/
def zig (z : Int) : Nat := if z < 0 then (-(z + 1)).toNat * 2 + 1 else z.toNat * 2
def intL (z : Int) : List Bool := numL (zig z)
theorem zig_lt {z : Int} (h1 : -9223372036854775808 ≤ z) (h2 : z ≤ 9223372036854775807) : zig z < 18446744073709551616 := by
  unfold zig; split <;> omega
theorem xor_ones (m : Nat) (h : m < 18446744073709551616) : m ^^^ 18446744073709551615 = 18446744073709551615 - m := by
  have e := congrArg BitVec.toNat (BitVec.xor_allOnes (x := BitVec.ofNat 64 m))
  rw [BitVec.toNat_xor, BitVec.toNat_not, BitVec.toNat_allOnes, BitVec.toNat_ofNat, Nat.mod_eq_of_lt (by omega)] at e
  have e2 : (2 ^ 64 - 1 : Nat) = 18446744073709551615 := by decide
  rw [e2] at e; exact e
theorem zig_bits {z : Int} (h1 : -9223372036854775808 ≤ z) (h2 : z ≤ 9223372036854775807) : bits .xor .u64 (IntKind.u64.wrap (IntKind.u64.wrap z * 2)) (IntKind.u64.wrap (z / 9223372036854775808)) = (zig z : Int) := by
  rw [IntKind.wrap_u64, IntKind.wrap_u64, IntKind.wrap_u64]
  unfold zig
  by_cases h : z < 0
  · rw [if_pos h]
    have e1 : z % 18446744073709551616 * 2 % 18446744073709551616 = ((18446744073709551616 + 2 * z).toNat : Int) := by omega
    have e2 : z / 9223372036854775808 % 18446744073709551616 = ((18446744073709551615 : Nat) : Int) := by omega
    rw [e1, e2, u64_xor_nat _ _ (by omega) (by decide), xor_ones _ (by omega)]
    omega
  · rw [if_neg h]
    have e1 : z % 18446744073709551616 * 2 % 18446744073709551616 = ((z.toNat * 2 : Nat) : Int) := by omega
    have e2 : z / 9223372036854775808 % 18446744073709551616 = ((0 : Nat) : Int) := by omega
    rw [e1, e2, u64_xor_nat _ _ (by omega) (by decide), Nat.xor_zero]
set_option maxRecDepth 100000 in
set_option maxHeartbeats 4000000 in
theorem int_call {base p : Nat} {L : List Bool} (z : Int) (w : World) (h : WrS base p L w) (h1 : -9223372036854775808 ≤ z) (h2 : z ≤ 9223372036854775807) (hL : L.length ≤ 1048000) (hb : base ≤ w.heap.size) :
    Calls Try.prog 33 #[.pointer (some ⟨p, 0, none⟩), .int .i64 z] w (PutQ base p (L ++ intL z) w) := by
  have HW := Lib.hid h
  clear h
  go_enter Try.func33, Try.ntmps33
  have hz := zig_bits h1 h2
  have hlt := zig_lt h1 h2
  go_wp2_with (go_at_call 54; (try rw [hz]); refine (num_call (L := L) (zig z) w HW.out hlt hL hb).mono ?_; rintro e1 w1 ⟨rfl, hw1, hf1⟩; have HW1 := Lib.hid hw1; have HF1 := Lib.hid hf1; clear hw1 hf1)
  go_end0
  exact ⟨rfl, HW1.out, HF1.out⟩

end Go.Proofs.Ytdkkpkgfiodlbaa

/- (*bits.Writer).Bytes. -/
namespace Go.Proofs.Ytdkkpkgfiodlbaa
open Go.RowKit

theorem run_makeBytes (w : World) (n : Nat) (hn : n ≤ 1048576) : (Instr.makeSlice 39 (.int .i64 (n : Int)) (.int .i64 (n : Int))).run Try.prog w = .ok (.slice (some ⟨w.heap.size, 0, none⟩) n n) (w.alloc (.cells (Array.replicate n (u8 0)) 5)) := by
  obtain ⟨i, hi, h2⟩ := Option.map_eq_some_iff.1 Try.infoU8
  simp only [Prod.mk.injEq] at h2
  obtain ⟨hz, hs, hb⟩ := h2
  have := run_makeSlice (P := Try.prog) w 39 5 i (.int .u8 0) Try.underlying39 hi hz .i64 .i64 n n (by omega) (Int.le_refl _) (by rw [hs]; omega) (by rw [hb]; omega) (by omega)
  rw [this, hs]
  have e : madeCells (Value.int .u8 0).cells ((n : Int).toNat * 1) = (Array.replicate n (u8 0)) := by
    apply Array.toList_inj.1
    rw [show (Value.int IntKind.u8 0).cells = #[Value.int .u8 0] from rfl, toList_madeCells_one]
    simp
  rw [e]; simp
theorem run_copyB (w : World) (ty : TypeId) (b n : Nat) (v : Value) {base : Nat} {w0 : World} (cs : List Nat) (h : w0.ownsRow base 5 1 v n (cs.map u8)) (hbel : Below w0.heap.size w0 w)
    (hb : w.heap[b]? = some (.cells (Array.replicate n (u8 0)) 5)) :
    ∃ w', (Builtin.copy_ #[39, 39] ty #[.slice (some ⟨b, 0, none⟩) n n, v]).run Try.prog w = .ok (goInt (n : Nat)) w' ∧ Hid (w'.heap[b]? = some (.cells (cs.map u8).toArray 5) ∧ w.grownBy w' (some b) ∧ w'.heap.size = w.heap.size) := by
  have hl : cs.length = n := by simpa using h.1
  rcases h.2 with ⟨rfl, rfl⟩ | ⟨g, cap, cur, rfl, hg, hh, hn, hm, hs, ht⟩
  · have : cs = [] := List.length_eq_zero_iff.1 hl
    subst this
    obtain ⟨i, hi, h2⟩ := Option.map_eq_some_iff.1 Try.infoU8
    refine ⟨w, ?_, Lib.hid ⟨hb, ⟨rfl, rfl, rfl, Nat.le_refl _, fun _ _ _ => rfl⟩, rfl⟩⟩
    simp [Builtin.copy_, run_underlying Try.underlying39, Builtin.lenOf, Builtin.firstCells, sizeOf, typeInfo, hi]
    rfl
  · obtain ⟨i, hi, h2⟩ := Option.map_eq_some_iff.1 Try.infoU8
    simp only [Prod.mk.injEq] at h2
    have hmin : Nat.min n n = n := by simp
    have hgw : w.heap[g]? = some (.cells cur 5) := (hbel.block g (Array.getElem?_eq_some_iff.1 hh).1).trans hh
    obtain ⟨w', e, H⟩ := run_copyR (P := Try.prog) w 39 39 ty 5 1 b 0 n n (some ⟨g, 0, none⟩) n cap (cs.map u8) (Array.replicate n (u8 0)) 5 Try.underlying39 (by rw [hi]; simp [h2.2.1]) (by rw [hmin]; simp [hl]) hb
      ⟨⟨g, 0, none⟩, rfl, fun j u hj => by
        have h3 : cur[j]? = some u := by
          have hj2 : j < n := by have := (List.getElem?_eq_some_iff.1 hj).1; simp at this; omega
          rw [← ht, List.getElem?_take_of_lt (by omega), Array.getElem?_toList] at hj; exact hj
        rw [addr_add, Nat.zero_add, Bt.cell_of hgw]; exact h3⟩ (by simp [hl]) (by intro u hu; simp at hu; obtain ⟨a, _, rfl⟩ := hu; rfl)
    rw [hmin] at e
    refine ⟨w', e, Lib.hid ⟨?_, H.out.2⟩⟩
    rw [H.out.1]
    have : splice (Array.replicate n (u8 0)).toList 0 (cs.map u8) = cs.map u8 := by simp [splice, hl]
    rw [this]

def BytesQ (L : List Bool) (w : World) (e : Ending) (w' : World) : Prop :=
  ∃ v, e = .returned v ∧ OwU w.heap.size w' v (btBytes L) ∧ Below w.heap.size w w'
set_option maxRecDepth 100000 in
set_option maxHeartbeats 4000000 in
theorem bytes_call {base p : Nat} {L : List Bool} (w : World) (h : WrS base p L w) (hL : L.length ≤ 1048640) :
    Calls Try.prog 36 #[.pointer (some ⟨p, 0, none⟩)] w (BytesQ L w) := by
  obtain ⟨hbp, v, hp, ho⟩ := h
  obtain ⟨a, c, rfl⟩ := Bt.own_shape ho
  have hn : (btBytes L).length ≤ 1048576 := by rw [btBytes_length]; omega
  obtain ⟨bs, hbs⟩ : ∃ bs, bs = btBytes L := ⟨_, rfl⟩
  have HBS := Lib.hid hbs
  rw [← hbs] at ho hp hn
  have hlen : bs.length = bs.length := rfl
  clear hbs
  have HP := Lib.hid hp
  have HO := Lib.hid ho
  have c0 : w.cell? ⟨p, 0, none⟩ = some (.slice a bs.length c) := by rw [Bt.cell_of hp]; rfl
  have c1 : ∀ o, (w.alloc o).cell? ⟨p, 0, none⟩ = some (.slice a bs.length c) := fun o => cell_later ((Below.refl _ _).alloc (Nat.le_refl _) o) c0
  have hmk := run_makeBytes w bs.length hn
  have HN := Lib.hid hn
  clear hp ho hn
  go_enter Try.func36, Try.ntmps36
  obtain ⟨w2, hr, H2⟩ := run_copyB (w.alloc (.cells (Array.replicate bs.length (u8 0)) 5)) 3 w.heap.size bs.length (.slice a bs.length c) bs HO.out ((Below.refl _ _).alloc (Nat.le_refl _) _) (Bt.alloc_at _ _)
  go_wp2_with (refine wpList_copy_run rfl _ _ _ _ rfl _ _ rfl rfl hr ?_)
  go_ret
  obtain ⟨h1, h2, h3⟩ := H2.out
  have hcs : (bs.map u8).toArray.size = bs.length := by simp
  refine ⟨_, rfl, ?_, ?_⟩
  · show World.ownsRow _ _ _ _ _ _ _
    rw [← HBS.out]
    refine ⟨by simp, .inr ⟨w.heap.size, bs.length, (bs.map u8).toArray, rfl, Nat.le_refl _, h1, Nat.le_refl _, by unfold maxLen; have := HN.out; omega, by simp, by rw [Nat.mul_one]; exact List.take_of_length_le (by simp)⟩⟩
  · exact ⟨h2.os, h2.tape, h2.output, by rw [h3]; simp, fun j hj => (h2.block j (by simp; omega) (by simp; omega)).trans (Below.heap_alloc _ _ _ hj)⟩
end Go.Proofs.Ytdkkpkgfiodlbaa

/- Reading bits: plain. Names no program. -/
namespace Go.Proofs.Ytdkkpkgfiodlbaa
/-- The bits of bytes. -/
def bitsOf : List Nat → List Bool
  | [] => []
  | b :: bs => putL b 8 ++ bitsOf bs
theorem bitsOf_length : ∀ bs, (bitsOf bs).length = 8 * bs.length
  | [] => rfl
  | b :: bs => by simp [bitsOf, putL_length, bitsOf_length bs]; omega
theorem putL_at (x : Nat) : ∀ n i, i < n → (putL x n)[i]? = some (x / 2 ^ (n - 1 - i) % 2 == 1)
  | 0, _, h => by omega
  | n + 1, 0, _ => by simp [putL]
  | n + 1, i + 1, h => by
    rw [putL, List.getElem?_cons_succ, putL_at x n i (by omega)]
    rw [show n + 1 - 1 - (i + 1) = n - 1 - i by omega]
theorem bitsOf_at : ∀ (bs : List Nat) (i b : Nat), bs[i / 8]? = some b → (bitsOf bs)[i]? = some (b / 2 ^ (7 - i % 8) % 2 == 1)
  | [], i, b, h => by simp at h
  | c :: bs, i, b, h => by
    rw [bitsOf]
    by_cases hi : i < 8
    · have h0 : i / 8 = 0 := by omega
      rw [h0] at h
      simp only [List.getElem?_cons_zero, Option.some.injEq] at h
      subst h
      rw [List.getElem?_append_left (by rw [putL_length]; exact hi), putL_at _ _ _ hi]
      rw [show i % 8 = i by omega]
    · have h0 : i / 8 = (i - 8) / 8 + 1 := by omega
      rw [h0, List.getElem?_cons_succ] at h
      rw [List.getElem?_append_right (by rw [putL_length]; omega), putL_length, bitsOf_at bs (i - 8) b h]
      rw [show (i - 8) % 8 = i % 8 by omega]
/-- The number of some bits. -/
def valL (L : List Bool) : Nat := L.foldl (fun a b => 2 * a + (if b then 1 else 0)) 0
theorem valL_snoc (L : List Bool) (b : Bool) : valL (L ++ [b]) = 2 * valL L + (if b then 1 else 0) := by simp [valL, List.foldl_append]
theorem foldl_val (L : List Bool) : ∀ a, L.foldl (fun a b => 2 * a + (if b then 1 else 0)) a = a * 2 ^ L.length + valL L := by
  induction L with
  | nil => intro a; simp [valL]
  | cons b L ih =>
    intro a
    show L.foldl _ _ = a * 2 ^ (L.length + 1) + L.foldl _ _
    rw [ih, ih, Nat.pow_succ, Nat.add_mul]
    rw [Nat.mul_comm 2 a, Nat.mul_assoc, Nat.mul_comm 2 (2 ^ L.length)]
    simp only [Nat.mul_zero, Nat.zero_add]; omega
theorem valL_cons (b : Bool) (L : List Bool) : valL (b :: L) = (if b then 1 else 0) * 2 ^ L.length + valL L := by
  show L.foldl _ _ = _
  rw [foldl_val]; simp
theorem valL_lt : ∀ L : List Bool, valL L < 2 ^ L.length
  | [] => by simp [valL]
  | b :: L => by
    have := valL_lt L
    rw [valL_cons, List.length_cons, Nat.pow_succ]
    cases b <;> simp <;> omega
theorem valL_putL (x : Nat) : ∀ n, valL (putL x n) = x % 2 ^ n
  | 0 => by simp [putL, valL, Nat.mod_one]
  | n + 1 => by
    rw [putL, valL_cons, putL_length, valL_putL x n]
    have h1 : x % 2 ^ (n + 1) = x % 2 ^ n + 2 ^ n * (x / 2 ^ n % 2) := by rw [Nat.pow_succ, Nat.mod_mul]
    rw [h1]
    have : x / 2 ^ n % 2 < 2 := Nat.mod_lt _ (by decide)
    rcases (show x / 2 ^ n % 2 = 0 ∨ x / 2 ^ n % 2 = 1 by omega) with h | h <;> rw [h] <;> simp <;> omega
theorem putL_valL : ∀ L : List Bool, putL (valL L) L.length = L
  | [] => rfl
  | b :: L => by
    have hlt := valL_lt L
    have ih := putL_valL L
    rw [List.length_cons, putL, valL_cons]
    have e1 : ((if b then 1 else 0) * 2 ^ L.length + valL L) / 2 ^ L.length % 2 = if b then 1 else 0 := by
      rw [Nat.add_comm, Nat.add_mul_div_right _ _ (Nat.two_pow_pos _), Nat.div_eq_of_lt hlt]
      cases b <;> rfl
    rw [e1]
    congr 1
    · cases b <;> rfl
    · have : ∀ n, n ≤ L.length → putL ((if b then 1 else 0) * 2 ^ L.length + valL L) n = putL (valL L) n := by
        intro n hn
        induction n with
        | zero => rfl
        | succ n ihn =>
          rw [putL, putL, ihn (by omega)]
          congr 2
          obtain ⟨d, hd⟩ : ∃ d, L.length = n + 1 + d := ⟨L.length - (n + 1), by omega⟩
          have e2 : (if b then 1 else 0) * 2 ^ L.length = 2 ^ n * (2 * ((if b then 1 else 0) * 2 ^ d)) := by
            rw [hd, Nat.pow_add, Nat.pow_succ]; cases b <;> simp [Nat.mul_comm, Nat.mul_left_comm, Nat.mul_assoc]
          rw [e2, Nat.add_comm, Nat.add_mul_div_left _ _ (Nat.two_pow_pos _)]
          omega
      rw [this _ (Nat.le_refl _), ih]
theorem valL_append (A B : List Bool) : valL (A ++ B) = valL A * 2 ^ B.length + valL B := by
  unfold valL; rw [List.foldl_append, foldl_val]; rfl
theorem valL_falses : ∀ n, valL (List.replicate n false) = 0
  | 0 => rfl
  | n + 1 => by rw [List.replicate_succ, valL_cons, valL_falses n]; simp
theorem putL_zero : ∀ n, putL 0 n = List.replicate n false
  | 0 => rfl
  | n + 1 => by rw [putL, putL_zero n, List.replicate_succ]; simp
theorem valL_zero : ∀ L : List Bool, valL L = 0 → L = List.replicate L.length false := fun L h => by
  have := putL_valL L
  rw [h, putL_zero] at this; exact this.symm

/-- What a reader has ahead of it, and why it stopped. -/
structure Rd where
  rest : List Bool
  bad : Int
/-- n bits read. -/
def getS (s : Rd) (n : Nat) : Nat × Rd :=
  if s.bad ≠ 0 then (0, s) else if s.rest.length < n then (0, ⟨s.rest, 10⟩) else (valL (s.rest.take n), ⟨s.rest.drop n, 0⟩)
/-- What reading gives: of something that is written what was written; nothing else. -/
def RdOK {α : Type} (enc : α → List Bool) (ok : α → Prop) (s s' : Rd) (x : α) : Prop :=
  (s.bad = 0 → ∀ y t, ok y → s.rest = enc y ++ t → x = y ∧ s'.rest = t ∧ s'.bad = 0) ∧ (s'.bad = 0 → s.bad = 0 ∧ ok x ∧ s.rest = enc x ++ s'.rest)
end Go.Proofs.Ytdkkpkgfiodlbaa

/- (*bits.Reader).Left, fail, Get. -/
namespace Go.Proofs.Ytdkkpkgfiodlbaa
open Go.RowKit
/-- A reader in memory. -/
def RdrS (base p : Nat) (s : Rd) (W : World) : Prop := base ≤ p ∧ ∃ v bs at', W.heap[p]? = some (.cells #[v, vi (at' : Nat), vi s.bad] 155) ∧ OwU base W v bs ∧ (∀ b ∈ bs, b < 256) ∧ bs.length ≤ 1048576 ∧ at' ≤ 8 * bs.length ∧ (bitsOf bs).drop at' = s.rest
def leftS (s : Rd) : Nat := if s.bad ≠ 0 then 0 else s.rest.length
theorem RdrS.later {base p : Nat} {s : Rd} {A B : World} (h : RdrS base p s A) (hb : Below A.heap.size A B) : RdrS base p s B := by
  obtain ⟨hp, v, bs, at', h1, h2, r⟩ := h
  exact ⟨hp, v, bs, at', (hb.block p (Array.getElem?_eq_some_iff.1 h1).1).trans h1, own_below h2 hb, r⟩
theorem RdrS.drewN {base p : Nat} {s : Rd} {A : World} (h : RdrS base p s A) (n : Nat) : RdrS base p s (A.drewN n) := h
theorem RdrS.lt {base p : Nat} {s : Rd} {A : World} (h : RdrS base p s A) : p < A.heap.size := by
  obtain ⟨hp, v, bs, at', h1, _⟩ := h
  exact (Array.getElem?_eq_some_iff.1 h1).1
theorem gro_refl (w : World) (r : Option Nat) : w.grownBy w r := ⟨rfl, rfl, rfl, Nat.le_refl _, fun _ _ _ => rfl⟩
theorem gro_trans {a b c : World} {r : Option Nat} (h : a.grownBy b r) (k : b.grownBy c r) : a.grownBy c r :=
  ⟨k.os.trans h.os, k.tape.trans h.tape, k.output.trans h.output, Nat.le_trans h.size k.size, fun i hi hne => (k.block i (Nat.lt_of_lt_of_le hi h.size) hne).trans (h.block i hi hne)⟩
theorem gro_drewN {a w : World} {r : Option Nat} (h : a.grownBy w r) (n : Nat) : a.grownBy (w.drewN n) r := ⟨h.os, h.tape, h.output, h.size, h.block⟩
theorem gro_setP {a w : World} {p o : Nat} (h : a.grownBy w (some p)) (v : Value) : a.grownBy (w.setCell ⟨p, o, none⟩ v) (some p) :=
  ⟨h.os, h.tape, h.output, by simpa [World.setCell] using h.size, fun i hi hne => (Below.heap_setCell w ⟨p, o, none⟩ v i (fun e => hne (by rw [e]))).trans (h.block i hi hne)⟩

def LeftQ (s : Rd) (w : World) (e : Ending) (w' : World) : Prop := e = .returned (vi (leftS s)) ∧ ∃ n, w' = w.drewN n
set_option maxRecDepth 100000 in
theorem left_call {base p : Nat} {s : Rd} (w : World) (h : RdrS base p s w) :
    Calls Try.prog 81 #[.pointer (some ⟨p, 0, none⟩)] w (LeftQ s w) := by
  obtain ⟨hbp, v, bs, at', hp, ho, hby, hl, hat, hr⟩ := h
  obtain ⟨a, c, rfl⟩ := Bt.own_shape ho
  have HE : s.rest.length = 8 * bs.length - at' := by rw [← hr]; simp [bitsOf_length]
  have HE := Lib.hid HE
  have c0 : w.cell? ⟨p, 0, none⟩ = some (.slice a bs.length c) := by rw [Bt.cell_of hp]; rfl
  have c1 : w.cell? ⟨p, 1, none⟩ = some (vi (at' : Nat)) := by rw [Bt.cell_of hp]; rfl
  have c2 : w.cell? ⟨p, 2, none⟩ = some (vi s.bad) := by rw [Bt.cell_of hp]; rfl
  clear hp ho hby hr
  by_cases hb : s.bad = 0
  · have hb1 : (s.bad != 0) = false := by simp [hb]
    have HB := Lib.hid hb
    clear hb
    have hw1 : IntKind.i64.wrap (8 * (bs.length : Int)) = 8 * (bs.length : Int) := IntWalk.i64_in _ (by omega)
    have hw2 : IntKind.i64.wrap (8 * (bs.length : Int) - at') = 8 * (bs.length : Int) - at' := IntWalk.i64_in _ (by omega)
    go_enter Try.func81, Try.ntmps81
    go_wp2_with fail
    go_quiet (fail)
    go_wp2_with fail
    go_ret
    refine ⟨congrArg Ending.returned (congrArg (Value.int IntKind.i64) ?_), _, rfl⟩
    rw [leftS, if_neg (by simp [HB.out]), HE.out]
    omega
  · have hb1 : (s.bad != 0) = true := by simp [hb]
    have HB := Lib.hid hb
    clear hb
    go_enter Try.func81, Try.ntmps81
    go_wp2_with fail
    go_ret
    refine ⟨congrArg Ending.returned (congrArg (Value.int IntKind.i64) ?_), 0, rfl⟩
    rw [leftS, if_pos HB.out]; rfl

def FailQ (base p : Nat) (s : Rd) (x : Int) (w : World) (e : Ending) (w' : World) : Prop := e = .returned (.int .u64 0) ∧ RdrS base p ⟨s.rest, if s.bad = 0 then x else s.bad⟩ w' ∧ w.grownBy w' (some p)
set_option maxRecDepth 100000 in
theorem fail_call {base p : Nat} {s : Rd} (x : Int) (w : World) (h : RdrS base p s w) :
    Calls Try.prog 83 #[.pointer (some ⟨p, 0, none⟩), vi x] w (FailQ base p s x w) := by
  have HW := Lib.hid h
  obtain ⟨hbp, v, bs, at', hp, ho, hby, hl, hat, hr⟩ := h
  have HP := Lib.hid hp
  have HO := Lib.hid ho
  have HR := Lib.hid hr
  have HBY := Lib.hid hby
  have c2 : w.cell? ⟨p, 2, none⟩ = some (vi s.bad) := by rw [Bt.cell_of hp]; rfl
  have f2 : w.frozen? ⟨p, 2, none⟩ = false := Bt.free_of hp 2
  clear hp ho hby hr
  by_cases hb : s.bad = 0
  · have hb1 : (s.bad == 0) = true := by simp [hb]
    have HB := Lib.hid hb
    clear hb
    go_enter Try.func83, Try.ntmps83
    go_wp2_with fail
    go_ret
    refine ⟨rfl, ⟨hbp, v, bs, at', ?_, ?_, HBY.out, hl, hat, HR.out⟩, gro_setP (gro_refl _ _) _⟩
    · rw [if_pos HB.out]; exact Bt.cells_set _ HP.out
    · refine Bt.own_frame HO.out (fun g hg => Below.heap_setCell _ _ _ _ (fun e => ?_))
      subst e
      rcases HO.out.2 with ⟨h1, _⟩ | ⟨g', cap, cur, h1, h2, h3, _⟩
      · rw [h1] at hg; cases hg
      · rw [h1] at hg; simp only [Value.ownBlock, Option.some.injEq] at hg; subst hg; rw [HP.out] at h3; cases h3
  · have hb1 : (s.bad == 0) = false := by simp [hb]
    have HB := Lib.hid hb
    clear hb
    go_enter Try.func83, Try.ntmps83
    go_wp2_with fail
    go_ret
    refine ⟨rfl, ?_, gro_refl _ _⟩
    rw [if_neg HB.out]; exact HW.out
end Go.Proofs.Ytdkkpkgfiodlbaa

/- (*bits.Reader).Get. -/
namespace Go.Proofs.Ytdkkpkgfiodlbaa
open Go.RowKit

theorem getS_bad {s : Rd} {n : Nat} (h : s.bad ≠ 0) : getS s n = (0, s) := by rw [getS, if_pos h]
theorem getS_short {s : Rd} {n : Nat} (h : s.bad = 0) (h2 : s.rest.length < n) : getS s n = (0, ⟨s.rest, 10⟩) := by rw [getS, if_neg (by simp [h]), if_pos h2]
theorem getS_ok {s : Rd} {n : Nat} (h : s.bad = 0) (h2 : n ≤ s.rest.length) : getS s n = (valL (s.rest.take n), ⟨s.rest.drop n, 0⟩) := by rw [getS, if_neg (by simp [h]), if_neg (by omega)]
def GetQ (base p : Nat) (s : Rd) (n : Nat) (w : World) (e : Ending) (w' : World) : Prop := e = .returned (.int .u64 ((getS s n).1 : Nat)) ∧ RdrS base p (getS s n).2 w' ∧ w.grownBy w' (some p)
set_option maxHeartbeats 4000000 in
set_option maxRecDepth 100000 in
theorem get_bad {base p : Nat} {s : Rd} (n : Nat) (w : World) (h : RdrS base p s w) (hn : n ≤ 64) (hb : leftS s < n) :
    Calls Try.prog 80 #[.pointer (some ⟨p, 0, none⟩), vi n] w (GetQ base p s n w) := by
  have HW := Lib.hid h
  have HE : Hid (getS s n = (0, ⟨s.rest, if s.bad = 0 then 10 else s.bad⟩)) := by
    by_cases h0 : s.bad = 0
    · rw [getS_short h0 (by unfold leftS at hb; rw [if_neg (by simp [h0])] at hb; exact hb), if_pos h0]; exact Lib.hid rfl
    · rw [getS_bad h0, if_neg h0]; exact Lib.hid rfl
  have hlt : decide ((leftS s : Int) < n) = true := by simp; exact hb
  have hlt2 : decide (leftS s < n) = true := by simp; exact hb
  clear h
  go_enter Try.func80, Try.ntmps80
  go_wp2_with (first
    | (go_at_call 81; refine (left_call w HW.out).mono ?_; rintro e w1 ⟨rfl, n1, rfl⟩)
    | (go_at_call 83; refine (fail_call 10 _ (HW.out.drewN n1)).mono ?_; rintro e2 w2 ⟨rfl, hw2, hg2⟩; have HW2 := Lib.hid hw2; have HG2 := Lib.hid hg2; clear hw2 hg2))
  go_ret
  refine ⟨?_, ?_, ?_⟩
  · rw [HE.out]; rfl
  · rw [HE.out]; exact HW2.out
  · exact gro_trans (gro_drewN (gro_refl _ _) n1) HG2.out
set_option maxHeartbeats 4000000 in
set_option maxRecDepth 100000 in
theorem get_none {base p : Nat} {s : Rd} (w : World) (h : RdrS base p s w) (hb : s.bad ≠ 0) :
    Calls Try.prog 80 #[.pointer (some ⟨p, 0, none⟩), vi (0 : Nat)] w (GetQ base p s 0 w) := by
  have HW := Lib.hid h
  have HE := Lib.hid (getS_bad (n := 0) hb)
  have hl : leftS s = 0 := by unfold leftS; rw [if_pos hb]
  have hlt : decide ((leftS s : Int) < 0) = false := by simp
  clear h hb
  go_enter Try.func80, Try.ntmps80
  go_wp2_with (first
    | (go_at_call 81; refine (left_call w HW.out).mono ?_; rintro e w1 ⟨rfl, n1, rfl⟩))
  refine wp_loop_rounds 1 ?_
  rw [rounds_succ]
  go_wp2_with fail
  go_ret
  refine ⟨?_, ?_, gro_drewN (gro_refl _ _) n1⟩
  · rw [HE.out]; rfl
  · rw [HE.out]; exact HW.out.drewN n1

theorem byte_bit {b k : Nat} (hb : b < 256) {x : Nat} (hx : x < 9223372036854775808) : bits .or .u64 (2 * (x : Int)) (IntKind.u64.wrap (bits .and .u8 ((b : Int) / 2 ^ (7 - k)) 1)) = ((2 * x + (if (b / 2 ^ (7 - k) % 2 == 1) then 1 else 0) : Nat) : Int) := by
  have e1 : (b : Int) / 2 ^ (7 - k) = ((b / 2 ^ (7 - k) : Nat) : Int) := by simp
  have hlt : b / 2 ^ (7 - k) < 256 := Nat.lt_of_le_of_lt (Nat.div_le_self _ _) hb
  have e2 : bits .and .u8 ((b / 2 ^ (7 - k) : Nat) : Int) 1 = ((b / 2 ^ (7 - k) % 2 : Nat) : Int) := by
    generalize b / 2 ^ (7 - k) = y at *
    have := bits_mask .u8 8 (by decide) (fun n h0 h1 => by rw [IntKind.wrap_u8]; omega) 1 (by decide) (y : Int) (by omega) (by omega)
    have h2 : bits .and .u8 (y : Int) 1 = (y : Int) % 2 := this
    rw [h2]; omega
  rw [e1, e2]
  have hy2 : b / 2 ^ (7 - k) % 2 < 2 := Nat.mod_lt _ (by decide)
  have e3 : (2 * (x : Int)) = ((2 * x : Nat) : Int) := by omega
  have e4 : IntKind.u64.wrap ((b / 2 ^ (7 - k) % 2 : Nat) : Int) = ((b / 2 ^ (7 - k) % 2 : Nat) : Int) := by rw [IntKind.wrap_u64]; omega
  rw [e3, e4, u64_or_nat _ _ (by omega) (by omega)]
  rcases (show b / 2 ^ (7 - k) % 2 = 0 ∨ b / 2 ^ (7 - k) % 2 = 1 by omega) with h | h
  · rw [h]; simp
  · rw [h]
    have h3 := Nat.two_pow_add_eq_or_of_lt (i := 1) (b := 1) (by decide) x
    rw [show 2 ^ 1 * x = 2 * x by omega] at h3
    rw [← h3]; simp
set_option maxHeartbeats 4000000 in
set_option maxRecDepth 100000 in
theorem get_ok {base p : Nat} {s : Rd} (n : Nat) (w : World) (h : RdrS base p s w) (hn : n ≤ 64) (hb0 : s.bad = 0) (hle : n ≤ s.rest.length) :
    Calls Try.prog 80 #[.pointer (some ⟨p, 0, none⟩), vi n] w (GetQ base p s n w) := by
  have HW := Lib.hid h
  have HE := Lib.hid (getS_ok hb0 hle)
  have hlt : decide ((leftS s : Int) < n) = false := by simp [leftS, hb0]; exact hle
  have hlt2 : decide (leftS s < n) = false := by simp [leftS, hb0]; exact hle
  obtain ⟨hbp, v, bs, at', hp, ho, hby, hl, hat, hr⟩ := h
  have HP := Lib.hid hp
  have HO := Lib.hid ho
  have HR := Lib.hid hr
  have HBY := Lib.hid hby
  have HB0 := Lib.hid hb0
  have hmin : min (n : Int) 64 = n := by omega
  have hrl : s.rest.length ≤ 8 * bs.length - at' := by rw [← hr]; simp [bitsOf_length]
  clear hp ho hr hby hb0
  go_enter Try.func80, Try.ntmps80
  go_wp2_with (first
    | (go_at_call 81; refine (left_call w HW.out).mono ?_; rintro e w1 ⟨rfl, n1, rfl⟩))
  go_loopw [5, 16] (fun x i wr => ∃ k : Nat, k ≤ n ∧ i = vi k ∧ x = .int .u64 (valL (s.rest.take k) : Nat) ∧ Hid (wr.heap[p]? = some (.cells #[v, vi (at' + k : Nat), vi 0] 155) ∧ w.grownBy wr (some p))) (fun _ i _ => (n : Int).toNat - (intOf i).toNat)
  case atStart =>
    refine ⟨0, Nat.zero_le _, rfl, rfl, Lib.hid ⟨?_, gro_drewN (gro_refl _ _) n1⟩⟩
    show w.heap[p]? = _
    rw [HP.out, HB0.out]; rfl
  case round =>
    obtain ⟨wj, rfl⟩ : ∃ wj : World, wj = wr := ⟨_, rfl⟩
    obtain ⟨k, hk, rfl, rfl, HJ⟩ := hrel
    have ho2 : OwU base wj v bs := Bt.own_frame HO.out (fun g hg => HJ.out.2.block g ((HO.out.lt g hg).2) (fun e => by
      simp only [Option.some.injEq] at e
      subst e
      rcases HO.out.2 with ⟨h1, _⟩ | ⟨g', cap, cur, h1, h2, h3, _⟩
      · rw [h1] at hg; cases hg
      · rw [h1] at hg; simp only [Value.ownBlock, Option.some.injEq] at hg; subst hg; rw [HP.out] at h3; cases h3))
    by_cases hkn : k < n
    · have hkn2 : decide ((k : Int) < n) = true := by simp; exact hkn
      obtain ⟨A, hA⟩ : ∃ A, A = at' + k := ⟨_, rfl⟩
      have HJ1 := HJ.out.1
      have HJ2 := Lib.hid HJ.out.2
      rw [← hA] at HJ1
      have hAl : A < 8 * bs.length := by omega
      have hi : A / 8 < bs.length := by omega
      obtain ⟨b, hb⟩ : ∃ b, bs[(A) / 8]? = some b := ⟨_, List.getElem?_eq_getElem hi⟩
      have hbl : b < 256 := HBY.out b (List.mem_of_getElem? hb)
      have hbit : s.rest[k]? = some (b / 2 ^ (7 - (A) % 8) % 2 == 1) := by rw [← HR.out, List.getElem?_drop, ← hA]; exact bitsOf_at bs _ b hb
      have hv := valL_snoc (s.rest.take k) (b / 2 ^ (7 - (A) % 8) % 2 == 1)
      have htk : s.rest.take (k + 1) = s.rest.take k ++ [b / 2 ^ (7 - (A) % 8) % 2 == 1] := by
        rw [List.take_add_one, hbit]; rfl
      rw [← htk] at hv
      have hvl := valL_lt (s.rest.take k)
      have hvl2 : valL (s.rest.take k) < 9223372036854775808 := by
        refine Nat.lt_of_lt_of_le hvl (Nat.le_trans (Nat.pow_le_pow_right (by decide) (show _ ≤ 63 by rw [List.length_take]; omega)) (by decide))
      obtain ⟨X, hX⟩ : ∃ X, X = valL (s.rest.take k) := ⟨_, rfl⟩
      rw [← hX] at hv hvl2 ⊢
      have hbb := byte_bit (b := b) (k := (A) % 8) hbl (x := X) hvl2
      rw [← hv] at hbb
      have HBB := Lib.hid hbb
      clear hvl hX hv htk hbit hbb
      rcases ho2.2 with ⟨h1, h2⟩ | ⟨g, cap, cur, rfl, hgb, hg, hn2, hm, hs2, ht⟩
      · omega
      have c0 : wj.cell? ⟨p, 0, none⟩ = some (.slice (some ⟨g, 0, none⟩) bs.length cap) := by rw [Bt.cell_of HJ1]; rfl
      have c1 : wj.cell? ⟨p, 1, none⟩ = some (vi (A : Nat)) := by rw [Bt.cell_of HJ1]; rfl
      have c3 : wj.cell? ⟨g, (A) / 8, none⟩ = some (u8 b) := by
        rw [Bt.cell_of hg]
        have h3 : (bs.map u8)[(A) / 8]? = some (u8 b) := by rw [List.getElem?_map, hb]; rfl
        rw [← ht, List.getElem?_take_of_lt (by omega), Array.getElem?_toList] at h3; exact h3
      have f1 : wj.frozen? ⟨p, 1, none⟩ = false := Bt.free_of HJ1 1
      have h7 : bits .and .i64 ((A : Nat) : Int) 7 = (((A) % 8 : Nat) : Int) := and7 _ (by omega)
      have hw1 : IntKind.u64.wrap ((X : Int) * 2) = ((2 * X : Nat) : Int) := by rw [IntKind.wrap_u64]; omega
      have hw2 : IntKind.i64.wrap (((A : Nat) : Int) + 1) = ((A : Nat) : Int) + 1 := IntWalk.i64_in _ (by omega)
      have hi2 : (A : Int) / 8 < bs.length := by omega
      have hi3 : (A : Int) < 8 * bs.length := by omega
      have HHA := Lib.hid hA
      have HJ1' := Lib.hid HJ1
      clear hg hs2 ht hb hA HJ HJ1
      go_wp2_with fail
      go_quiet (fail)
      go_wp2_with fail
      refine ⟨⟨k + 1, by omega, by go_num, by rw [HBB.out], Lib.hid ⟨?_, gro_setP (gro_drewN HJ2.out nq) _⟩⟩, by simp only [intOf]; omega⟩
      have h1 : ((wj.drewN nq).setCell ⟨p, 1, none⟩ (.int .i64 ((A : Int) + 1))).heap[p]? = _ := Bt.cells_set _ HJ1'.out
      refine (show _ = _ from h1).trans ?_
      rw [HHA.out]
      simp; omega
    · have hkn2 : decide ((k : Int) < n) = false := by simp; omega
      have hke : k = n := by omega
      have HKE := Lib.hid hke
      clear hke
      go_wp2_with fail
      go_ret
      refine ⟨?_, ?_, HJ.out.2⟩
      · rw [HE.out, HKE.out]; rfl
      · rw [HE.out]
        refine ⟨hbp, v, bs, at' + k, HJ.out.1, ho2, HBY.out, hl, by omega, ?_⟩
        rw [← HR.out, List.drop_drop, HKE.out]
theorem get_call {base p : Nat} {s : Rd} (n : Nat) (w : World) (h : RdrS base p s w) (hn : n ≤ 64) :
    Calls Try.prog 80 #[.pointer (some ⟨p, 0, none⟩), vi n] w (GetQ base p s n w) := by
  by_cases hl : leftS s < n
  · exact get_bad n w h hn hl
  · by_cases h0 : s.bad = 0
    · exact get_ok n w h hn h0 (by unfold leftS at hl; rw [if_neg (by simp [h0])] at hl; omega)
    · have : n = 0 := by unfold leftS at hl; rw [if_pos h0] at hl; omega
      subst this
      exact get_none w h h0
end Go.Proofs.Ytdkkpkgfiodlbaa
