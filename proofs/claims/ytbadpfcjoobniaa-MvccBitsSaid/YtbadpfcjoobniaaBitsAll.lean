/- Texts of one proof, one behind the other: BtPure, BtPut, BtLen, BtNum, BtInt, BtRd, BtNumP, BtBytes, BtGet, BtGet2, BtNumR, BtIntR, BtEnd, BtRead, BtSeq, BtRefPut, BtZeros, BtRefNum, BtRefInt, BtRefBytes, MvBits, MvRdR, MvSame, MvBitsL. -/
import Derived.Test.YtbadpfcjoobniaaArgs
import Derived.Laws.BitsAllLaws
import Derived.Test.YtbadpfcjoobniaaData
import Derived.Laws.OwnMore
import Derived.Lib.BitFns
import Derived.Shelf.LaysM
import Derived.Lib.Strings
import Derived.Lib.Slices
import Derived.Lib.Small
import Derived.Lib.Walk
import Derived.Deep.Light
import Derived.Shelf.Sort.So_math_bits_Len64In
import Derived.Test.YtbadpfcjoobniaaCopyK
import Derived.Laws.MakeOwn
import Derived.Lib.AppendZerosOnto
import Derived.Laws.IdiomStrings
import Derived.Laws.BytesArg
import Derived.Test.YtbadpfcjoobniaaMvData
import Derived.Deep.CutBlock
import Derived.Test.YtbadpfcjoobniaaMvRow
import Derived.Test.YtbadpfcjoobniaaMvBig
namespace Go.Proofs.Ytbadpfcjoobniaa

/-- A bit of a list, nought behind its end. -/
def btv (L : List Bool) (i : Nat) : Nat := if L[i]? = some true then 1 else 0
theorem btv_le (L : List Bool) (i : Nat) : btv L i ≤ 1 := by unfold btv; split <;> omega
theorem btv_past {L : List Bool} {i : Nat} (h : L.length ≤ i) : btv L i = 0 := by unfold btv; rw [List.getElem?_eq_none h]; rfl
theorem btv_snoc (L : List Bool) (x : Bool) (i : Nat) : btv (L ++ [x]) i = if i = L.length then (if x then 1 else 0) else btv L i := by
  unfold btv
  by_cases h : i = L.length
  · subst h; simp
  · by_cases h2 : i < L.length
    · rw [List.getElem?_append_left h2, if_neg h]
    · rw [List.getElem?_eq_none (by simp; omega), List.getElem?_eq_none (by omega), if_neg h]
theorem btv_append_left {L M : List Bool} {i : Nat} (h : i < L.length) : btv (L ++ M) i = btv L i := by unfold btv; rw [List.getElem?_append_left h]
/-- Eight bits. -/
def btByte (L : List Bool) (j : Nat) : Nat := 128 * btv L (8 * j) + 64 * btv L (8 * j + 1) + 32 * btv L (8 * j + 2) + 16 * btv L (8 * j + 3) + 8 * btv L (8 * j + 4) + 4 * btv L (8 * j + 5) + 2 * btv L (8 * j + 6) + btv L (8 * j + 7)
theorem btByte_lt (L : List Bool) (j : Nat) : btByte L j < 256 := by
  unfold btByte
  have h := fun i => btv_le L (8 * j + i)
  have h0 := btv_le L (8 * j)
  have := h 1; have := h 2; have := h 3; have := h 4; have := h 5; have := h 6; have := h 7
  omega
theorem btByte_other {L : List Bool} {x : Bool} {j : Nat} (h : L.length / 8 ≠ j) : btByte (L ++ [x]) j = btByte L j := by
  unfold btByte
  have e : ∀ i, i < 8 → btv (L ++ [x]) (8 * j + i) = btv L (8 * j + i) := fun i hi => by rw [btv_snoc, if_neg (by omega)]
  have e0 : btv (L ++ [x]) (8 * j) = btv L (8 * j) := e 0 (by omega)
  rw [e0, e 1 (by omega), e 2 (by omega), e 3 (by omega), e 4 (by omega), e 5 (by omega), e 6 (by omega), e 7 (by omega)]
theorem or_bit : ∀ k, k < 8 → ∀ m, m < 2 ^ k → ((m * 2 ^ (8 - k)) ||| 2 ^ (7 - k)) = m * 2 ^ (8 - k) + 2 ^ (7 - k) := by decide
/-- The byte at the end is a multiple of what its missing bits are worth. -/
theorem btByte_mul {L : List Bool} {j k : Nat} (h : L.length = 8 * j + k) (hk : k < 8) : ∃ m, m < 2 ^ k ∧ btByte L j = m * 2 ^ (8 - k) := by
  have z : ∀ i, k ≤ i → btv L (8 * j + i) = 0 := fun i hi => btv_past (by omega)
  have o : ∀ i, btv L (8 * j + i) ≤ 1 := fun i => btv_le _ _
  have o0 : btv L (8 * j) ≤ 1 := btv_le _ _
  unfold btByte
  rcases (show k = 0 ∨ k = 1 ∨ k = 2 ∨ k = 3 ∨ k = 4 ∨ k = 5 ∨ k = 6 ∨ k = 7 by omega) with rfl | rfl | rfl | rfl | rfl | rfl | rfl | rfl
  · have z0 : btv L (8 * j) = 0 := z 0 (by omega)
    rw [z0, z 1 (by omega), z 2 (by omega), z 3 (by omega), z 4 (by omega), z 5 (by omega), z 6 (by omega), z 7 (by omega)]
    exact ⟨0, by omega, by omega⟩
  · rw [z 1 (by omega), z 2 (by omega), z 3 (by omega), z 4 (by omega), z 5 (by omega), z 6 (by omega), z 7 (by omega)]
    exact ⟨btv L (8 * j), by omega, by omega⟩
  · rw [z 2 (by omega), z 3 (by omega), z 4 (by omega), z 5 (by omega), z 6 (by omega), z 7 (by omega)]
    exact ⟨2 * btv L (8 * j) + btv L (8 * j + 1), by have := o 1; omega, by omega⟩
  · rw [z 3 (by omega), z 4 (by omega), z 5 (by omega), z 6 (by omega), z 7 (by omega)]
    exact ⟨4 * btv L (8 * j) + 2 * btv L (8 * j + 1) + btv L (8 * j + 2), by have := o 1; have := o 2; omega, by omega⟩
  · rw [z 4 (by omega), z 5 (by omega), z 6 (by omega), z 7 (by omega)]
    exact ⟨8 * btv L (8 * j) + 4 * btv L (8 * j + 1) + 2 * btv L (8 * j + 2) + btv L (8 * j + 3), by have := o 1; have := o 2; have := o 3; omega, by omega⟩
  · rw [z 5 (by omega), z 6 (by omega), z 7 (by omega)]
    exact ⟨16 * btv L (8 * j) + 8 * btv L (8 * j + 1) + 4 * btv L (8 * j + 2) + 2 * btv L (8 * j + 3) + btv L (8 * j + 4), by have := o 1; have := o 2; have := o 3; have := o 4; omega, by omega⟩
  · rw [z 6 (by omega), z 7 (by omega)]
    exact ⟨32 * btv L (8 * j) + 16 * btv L (8 * j + 1) + 8 * btv L (8 * j + 2) + 4 * btv L (8 * j + 3) + 2 * btv L (8 * j + 4) + btv L (8 * j + 5), by have := o 1; have := o 2; have := o 3; have := o 4; have := o 5; omega, by omega⟩
  · rw [z 7 (by omega)]
    exact ⟨64 * btv L (8 * j) + 32 * btv L (8 * j + 1) + 16 * btv L (8 * j + 2) + 8 * btv L (8 * j + 3) + 4 * btv L (8 * j + 4) + 2 * btv L (8 * j + 5) + btv L (8 * j + 6), by have := o 1; have := o 2; have := o 3; have := o 4; have := o 5; have := o 6; omega, by omega⟩
theorem btByte_snoc {L : List Bool} {x : Bool} {j k : Nat} (h : L.length = 8 * j + k) (hk : k < 8) : btByte (L ++ [x]) j = btByte L j ||| ((if x then 1 else 0) * 2 ^ (7 - k)) := by
  obtain ⟨m, hm, he⟩ := btByte_mul h hk
  have hor : (btByte L j ||| ((if x then 1 else 0) * 2 ^ (7 - k))) = btByte L j + (if x then 1 else 0) * 2 ^ (7 - k) := by
    cases x
    · simp
    · simp only [if_true, Nat.one_mul]; rw [he]; exact or_bit k hk m hm
  rw [hor]
  unfold btByte
  have hz : btv L (8 * j + k) = 0 := btv_past (by omega)
  have e : ∀ i, i ≠ k → btv (L ++ [x]) (8 * j + i) = btv L (8 * j + i) := fun i hi => by rw [btv_snoc, if_neg (by omega)]
  have ek : btv (L ++ [x]) (8 * j + k) = if x then 1 else 0 := by rw [btv_snoc, if_pos (by omega)]
  rcases (show k = 0 ∨ k = 1 ∨ k = 2 ∨ k = 3 ∨ k = 4 ∨ k = 5 ∨ k = 6 ∨ k = 7 by omega) with rfl | rfl | rfl | rfl | rfl | rfl | rfl | rfl
  · have ek' : btv (L ++ [x]) (8 * j) = if x then 1 else 0 := ek
    have hz' : btv L (8 * j) = 0 := hz
    rw [ek', hz', e 1 (by omega), e 2 (by omega), e 3 (by omega), e 4 (by omega), e 5 (by omega), e 6 (by omega), e 7 (by omega)]; omega
  all_goals
    have e0 : btv (L ++ [x]) (8 * j) = btv L (8 * j) := e 0 (by omega)
    rw [e0, ek, hz]
    try rw [e 1 (by omega)]
    try rw [e 2 (by omega)]
    try rw [e 3 (by omega)]
    try rw [e 4 (by omega)]
    try rw [e 5 (by omega)]
    try rw [e 6 (by omega)]
    try rw [e 7 (by omega)]
    omega

/-- The bytes of a list of bits, noughts up to the end of the last one. -/
def btBytes (L : List Bool) : List Nat := (List.range ((L.length + 7) / 8)).map (btByte L)
theorem btBytes_length (L : List Bool) : (btBytes L).length = (L.length + 7) / 8 := by simp [btBytes]
theorem btBytes_at {L : List Bool} {j : Nat} (h : j < (L.length + 7) / 8) : (btBytes L)[j]? = some (btByte L j) := by
  unfold btBytes; rw [List.getElem?_map, List.getElem?_range h]; rfl
/-- A bit behind a full last byte: a new byte. -/
theorem btBytes_new {L : List Bool} (h : L.length % 8 = 0) : ∀ x : Bool, btBytes (L ++ [x]) = (btBytes L ++ [0]).set (L.length / 8) ((if x then 1 else 0) * 128) := fun x => by
  have h8 : L.length = 8 * (L.length / 8) + 0 := by omega
  apply List.ext_getElem?
  intro j
  rw [List.getElem?_set]
  have hl : (btBytes L ++ [0]).length = L.length / 8 + 1 := by simp [btBytes_length]; omega
  by_cases hj : L.length / 8 = j
  · rw [if_pos hj, if_pos (by omega), btBytes_at (by simp; omega)]
    subst hj
    rw [btByte_snoc h8 (by omega)]
    have : btByte L (L.length / 8) = 0 := by
      obtain ⟨m, hm, he⟩ := btByte_mul h8 (by omega)
      rw [he]; simp at hm; subst hm; simp
    rw [this]; simp
  · rw [if_neg hj]
    by_cases hlt : j < L.length / 8
    · rw [btBytes_at (by simp; omega), btByte_other hj, List.getElem?_append_left (by simp [btBytes_length]; omega), btBytes_at (by omega)]
    · rw [List.getElem?_eq_none (by rw [btBytes_length]; simp; omega), List.getElem?_eq_none (by omega)]
/-- A bit into the last byte. -/
theorem btBytes_more {L : List Bool} (h : L.length % 8 ≠ 0) (x : Bool) : btBytes (L ++ [x]) = (btBytes L).set (L.length / 8) (btByte L (L.length / 8) ||| ((if x then 1 else 0) * 2 ^ (7 - L.length % 8))) := by
  have h8 : L.length = 8 * (L.length / 8) + L.length % 8 := by omega
  apply List.ext_getElem?
  intro j
  rw [List.getElem?_set]
  by_cases hj : L.length / 8 = j
  · rw [if_pos hj, if_pos (by rw [btBytes_length]; omega), btBytes_at (by simp; omega)]
    subst hj
    rw [btByte_snoc h8 (by omega)]
  · rw [if_neg hj]
    by_cases hlt : j < (L.length + 7) / 8
    · rw [btBytes_at (by simp; omega), btByte_other hj, btBytes_at hlt]
    · rw [List.getElem?_eq_none (by rw [btBytes_length]; simp; omega), List.getElem?_eq_none (by rw [btBytes_length]; omega)]

/-- The lowest n bits of a number, the highest of them first. -/
def putL (x : Nat) : Nat → List Bool
  | 0 => []
  | n + 1 => (x / 2 ^ n % 2 == 1) :: putL x n
theorem putL_length (x : Nat) : ∀ n, (putL x n).length = n
  | 0 => rfl
  | n + 1 => by simp [putL, putL_length x n]
end Go.Proofs.Ytbadpfcjoobniaa

namespace Go.Proofs.Ytbadpfcjoobniaa
open Go.RowKit

namespace Bt
theorem alloc_at (w : World) (o : Obj) : (w.alloc o).heap[w.heap.size]? = some o := by show (w.heap.push o)[w.heap.size]? = some o; simp
theorem cell_of {w : World} {b : Nat} {cs : Array Value} {T : TypeId} {fz : Nat × Nat} (h : w.heap[b]? = some (.cells cs T fz)) (o : Nat) : w.cell? ⟨b, o, none⟩ = cs[o]? := by
  simp [World.cell?, h]
theorem free_of {w : World} {b : Nat} {cs : Array Value} {T : TypeId} (h : w.heap[b]? = some (.cells cs T)) (o : Nat) : w.frozen? ⟨b, o, none⟩ = false := by
  simp [World.frozen?, h]
theorem own_shape {w : World} {base e size n : Nat} {v : Value} {xs : List Value} (h : w.ownsRow base e size v n xs) : ∃ a c, v = .slice a n c := by
  rcases h.2 with ⟨hv, h0⟩ | ⟨g, cap, cur, hv, _⟩
  · exact ⟨none, 0, by rw [hv, h0]⟩
  · exact ⟨_, _, hv⟩
theorem own_some {w : World} {base e size n : Nat} {v : Value} {xs : List Value} (h : w.ownsRow base e size v n xs) (h0 : 0 < n) : ∃ g c, v = .slice (some ⟨g, 0, none⟩) n c := by
  rcases h.2 with ⟨hv, h0'⟩ | ⟨g, cap, cur, hv, _⟩
  · omega
  · exact ⟨g, cap, hv⟩
theorem own_frame {A B : World} {base e size n : Nat} {v : Value} {xs : List Value} (h : A.ownsRow base e size v n xs) (hb : ∀ g, v.ownBlock = some g → B.heap[g]? = A.heap[g]?) : B.ownsRow base e size v n xs := by
  refine ⟨h.1, ?_⟩
  rcases h.2 with h2 | ⟨g, cap, cur, hv, hg, hh, r⟩
  · exact .inl h2
  · exact .inr ⟨g, cap, cur, hv, hg, (hb g (by rw [hv]; rfl)).trans hh, r⟩
theorem cells_set {W : World} {b o : Nat} {cs : Array Value} {T : TypeId} {fz : Nat × Nat} (v : Value) (h : W.heap[b]? = some (.cells cs T fz)) : (W.setCell ⟨b, o, none⟩ v).heap[b]? = some (.cells (cs.setIfInBounds o v) T fz) := by
  simp [World.setCell, Array.getElem?_modify, h]
theorem cells_other {W : World} {b c o : Nat} {ob : Option Obj} (v : Value) (h : W.heap[b]? = ob) (hne : b ≠ c) : (W.setCell ⟨c, o, none⟩ v).heap[b]? = ob := (Below.heap_setCell _ _ _ _ hne).trans h
end Bt

abbrev u8 (n : Nat) : Value := .int .u8 (n : Int)
theorem Try.infoU8 : (Try.prog.info? 5).map (fun i => (i.zero, i.size, i.bytes)) = some (some (.int .u8 0), 1, 1) := by kernel_rfl
theorem eltU8 : Elt Try.prog 76 5 1 1 (.int .u8 0) := by
  obtain ⟨i0, hi, hz0, hz1, hz2⟩ := info_parts Try.infoU8
  exact ⟨Try.underlying76, by decide, rfl, i0, hi, hz0, hz1, hz2⟩
/-- A row of bytes that the call owns. -/
def OwU (base : Nat) (w : World) (v : Value) (bs : List Nat) : Prop := w.ownsRow base 5 1 v bs.length (bs.map u8)
/-- A writer in memory: the bits that were written. -/
def WrS (base p : Nat) (L : List Bool) (W : World) : Prop := base ≤ p ∧ ∃ v, W.heap[p]? = some (.cells #[v, vi L.length] 78) ∧ OwU base W v (btBytes L)
/-- Only a writer turns, and rows of bytes from base on. -/
structure FrW (base p : Nat) (w w' : World) : Prop where
  os : w'.os = w.os
  tape : w'.tape = w.tape
  output : w'.output = w.output
  size : w.heap.size ≤ w'.heap.size
  old : ∀ j, j < w.heap.size → j ≠ p → (j < base ∨ ∀ cs fz, w.heap[j]? ≠ some (.cells cs 5 fz)) → w'.heap[j]? = w.heap[j]?
theorem FrW.refl (base p : Nat) (w : World) : FrW base p w w := ⟨rfl, rfl, rfl, Nat.le_refl _, fun _ _ _ _ => rfl⟩
theorem FrW.trans {base p : Nat} {a b c : World} (h : FrW base p a b) (k : FrW base p b c) : FrW base p a c := by
  refine ⟨k.os.trans h.os, k.tape.trans h.tape, k.output.trans h.output, Nat.le_trans h.size k.size, fun j hj hn ho => ?_⟩
  have e := h.old j hj hn ho
  refine (k.old j (Nat.lt_of_lt_of_le hj h.size) hn ?_).trans e
  rcases ho with ho | ho
  · exact .inl ho
  · exact .inr (fun cs fz => by rw [e]; exact ho cs fz)
theorem FrW.below {base p : Nat} {a b : World} (h : Below a.heap.size a b) : FrW base p a b := ⟨h.os, h.tape, h.output, h.size, fun j hj _ _ => h.block j hj⟩
theorem FrW.toBelow {base p : Nat} {a b : World} (h : FrW base p a b) (hs : base ≤ a.heap.size) (hp : base ≤ p) : Below base a b := ⟨h.os, h.tape, h.output, h.size, fun j hj => h.old j (by omega) (by omega) (.inl hj)⟩
theorem FrW.cells {base p : Nat} {a b : World} (h : FrW base p a b) {j : Nat} {cs : Array Value} {T : TypeId} {fz : Nat × Nat} (hj : a.heap[j]? = some (.cells cs T fz)) (hn : j ≠ p) (hT : T ≠ 5) : b.heap[j]? = some (.cells cs T fz) :=
  (h.old j (Array.getElem?_eq_some_iff.1 hj).1 hn (.inr (fun cs2 fz2 e => by rw [hj] at e; cases e; exact hT rfl))).trans hj
theorem WrS.later {base p : Nat} {L : List Bool} {A B : World} (h : WrS base p L A) (hb : Below A.heap.size A B) : WrS base p L B := by
  obtain ⟨hp, v, h1, h2⟩ := h
  exact ⟨hp, v, (hb.block p (Array.getElem?_eq_some_iff.1 h1).1).trans h1, own_below h2 hb⟩
theorem WrS.lt {base p : Nat} {L : List Bool} {A : World} (h : WrS base p L A) : p < A.heap.size := by
  obtain ⟨hp, v, h1, h2⟩ := h
  exact (Array.getElem?_eq_some_iff.1 h1).1

theorem and7 (n : Nat) (h : n < 9223372036854775808) : bits .and .i64 (n : Int) 7 = ((n % 8 : Nat) : Int) := by
  have := bits_mask .i64 63 (by decide) (fun n h0 h1 => by rw [IntKind.wrap_i64]; omega) 3 (by decide) (n : Int) (by omega) (by omega)
  have h2 : bits .and .i64 (n : Int) 7 = (n : Int) % 8 := this
  rw [h2]; omega
theorem put_byte {b x m k : Nat} (hb : b < 256) (hk : k < 8) (hx : x < 18446744073709551616) : bits .or .u8 (b : Int) (bits .and .u64 ((x : Int) / 2 ^ m) 1 % 256 * 2 ^ (7 - k) % 256) = ((b ||| ((if (x / 2 ^ m % 2 == 1) then 1 else 0) * 2 ^ (7 - k)) : Nat) : Int) := by
  have e1 : (x : Int) / 2 ^ m = ((x / 2 ^ m : Nat) : Int) := by simp
  have hlt : x / 2 ^ m < 18446744073709551616 := Nat.lt_of_le_of_lt (Nat.div_le_self _ _) hx
  have e2 : bits .and .u64 ((x / 2 ^ m : Nat) : Int) 1 = ((x / 2 ^ m % 2 : Nat) : Int) := by
    have := u64_and_nat (x / 2 ^ m) 1 hlt (by decide)
    rw [nat_mask1] at this; exact this
  rw [e1, e2]
  have hp : 2 ^ (7 - k) ≤ 2 ^ 7 := Nat.pow_le_pow_right (by decide) (by omega)
  have hy : (if (x / 2 ^ m % 2 == 1) then 1 else 0) = x / 2 ^ m % 2 := by
    have : x / 2 ^ m % 2 < 2 := Nat.mod_lt _ (by decide)
    rcases (show x / 2 ^ m % 2 = 0 ∨ x / 2 ^ m % 2 = 1 by omega) with h | h <;> rw [h] <;> rfl
  rw [hy]
  have hy2 : x / 2 ^ m % 2 < 2 := Nat.mod_lt _ (by decide)
  generalize x / 2 ^ m % 2 = z at *
  have e3 : ((z : Nat) : Int) % 256 * 2 ^ (7 - k) % 256 = ((z * 2 ^ (7 - k) : Nat) : Int) := by
    have h1 : ((z : Nat) : Int) % 256 = z := by omega
    rw [h1]
    have h2 : ((z : Int) * 2 ^ (7 - k)) = ((z * 2 ^ (7 - k) : Nat) : Int) := by simp
    rw [h2]
    have h3 : z * 2 ^ (7 - k) < 256 := by
      rcases (show z = 0 ∨ z = 1 by omega) with rfl | rfl <;> omega
    omega
  rw [e3]
  refine u8_or_nat b _ hb ?_
  rcases (show z = 0 ∨ z = 1 by omega) with rfl | rfl <;> omega
/-- The writer's block stays while its row grows. -/
theorem wr_kept {A B : World} {base p n : Nat} {v : Value} {xs : List Value} {cs : Array Value} {o : Obj} (h : A.ownsRow base 5 1 v n xs) (hg : (A.alloc o).grownBy B v.ownBlock) (hp : A.heap[p]? = some (.cells cs 78)) : B.heap[p]? = some (.cells cs 78) := by
  have hlt := (Array.getElem?_eq_some_iff.1 hp).1
  rw [hg.block p (by simp; omega) (fun e => by
    rcases h.2 with ⟨hv, h0⟩ | ⟨g, cap, cur, hv, hgb, hb, r⟩
    · rw [hv] at e; cases e
    · rw [hv] at e
      have : p = g := by simpa [Value.ownBlock] using e
      subst this
      rw [hb] at hp; cases hp), Below.heap_alloc _ _ _ hlt]
  exact hp
theorem grow_frame {A B : World} {base p n : Nat} {v : Value} {xs : List Value} {o : Obj} (h : A.ownsRow base 5 1 v n xs) (hg : (A.alloc o).grownBy B v.ownBlock) : FrW base p A B := by
  have hs : A.heap.size ≤ B.heap.size := Nat.le_trans (by simp) hg.size
  refine ⟨hg.os, hg.tape, hg.output, hs, fun j hj _ ho => ?_⟩
  rw [hg.block j (by simp; omega) (fun e => by
    rcases h.2 with ⟨hv, h0⟩ | ⟨g, cap, cur, hv, hgb, hb, r⟩
    · rw [hv] at e; cases e
    · rw [hv] at e
      have : j = g := by simpa [Value.ownBlock] using e
      subst this
      rcases ho with ho | ho
      · omega
      · exact ho _ _ hb), Below.heap_alloc _ _ _ hj]
theorem FrW.setP {base p : Nat} (A : World) (o : Nat) (v : Value) : FrW base p A (A.setCell ⟨p, o, none⟩ v) :=
  ⟨rfl, rfl, rfl, by simp [World.setCell], fun j _ hj _ => Below.heap_setCell _ _ _ j hj⟩
/-- An element of a row of bytes is set. -/
theorem own_byte {b p : Nat} {w : World} {len c : Nat} {cs : List Nat} {g : Nat} (h : w.ownsRow b 5 1 (.slice (some ⟨g, 0, none⟩) len c) len (cs.map u8)) {k : Nat} (hk : k < cs.length) (z : Nat) : (w.setCell ⟨g, k, none⟩ (u8 z)).ownsRow b 5 1 (.slice (some ⟨g, 0, none⟩) len c) len ((cs.set k z).map u8) ∧ FrW b p w (w.setCell ⟨g, k, none⟩ (u8 z)) ∧ (∃ cur, w.heap[g]? = some (.cells cur 5)) ∧ w.cell? ⟨g, k, none⟩ = some (u8 (cs[k]?.getD 0)) := by
  have h1 := h.1
  rcases h.2 with ⟨hv, _⟩ | ⟨g', cap, cur, hv, hg, hh, hn, hm, hs, ht⟩
  · cases hv
  · cases hv
    have hcur : (cur.set! k (u8 z)).size = c * 1 := by simpa using hs
    refine ⟨⟨by simpa using h1, .inr ⟨g, c, cur.set! k (u8 z), rfl, hg, Bt.cells_set _ hh, hn, hm, hcur, ?_⟩⟩, ⟨rfl, rfl, rfl, by simp [World.setCell], fun j _ _ ho => Below.heap_setCell _ _ _ j (fun e => by
      subst e
      rcases ho with ho | ho
      · omega
      · exact ho _ _ hh)⟩, ⟨cur, hh⟩, ?_⟩
    · have e1 : (cur.set! k (u8 z)).toList = cur.toList.set k (u8 z) := by simp
      rw [e1, List.map_set, ← ht, List.take_set]
    · rw [Bt.cell_of hh, List.getElem?_eq_getElem hk]
      have e2 : (cur.toList.take (len * 1))[k]? = some (u8 cs[k]) := by rw [ht, List.getElem?_map, List.getElem?_eq_getElem hk]; rfl
      have hk2 : k < len * 1 := by simp at h1; omega
      rw [List.getElem?_take_of_lt hk2] at e2
      simpa using e2
def PutQ (base p : Nat) (L : List Bool) (w : World) (e : Ending) (w' : World) : Prop := e = .returned (.tuple #[]) ∧ WrS base p L w' ∧ FrW base p w w'

set_option maxRecDepth 100000 in
set_option maxHeartbeats 4000000 in
theorem put_call {base p : Nat} {L : List Bool} (x n : Nat) (w : World) (h : WrS base p L w) (hx : x < 18446744073709551616) (hn : n ≤ 64) (hL : L.length ≤ 1048576) (hb : base ≤ w.heap.size) :
    Calls Try.prog 74 #[.pointer (some ⟨p, 0, none⟩), .int .u64 x, .int .i64 n] w (PutQ base p (L ++ putL x n) w) := by
  have HW := Lib.hid h
  have hmm : IntKind.i64.wrap ((n : Int) - 1) = (n : Int) - 1 := IntWalk.i64_in _ (by omega)
  clear h
  go_enter Try.func74, Try.ntmps74
  go_wp2_with fail
  go_loopw [6] (fun v wr => ∃ k : Nat, k ≤ n ∧ ((k = 0 ∧ v = .int .i64 (-1)) ∨ ∃ m : Nat, k = m + 1 ∧ v = .int .i64 (m : Int)) ∧ Hid (∃ L', L' ++ putL x k = L ++ putL x n ∧ WrS base p L' wr ∧ FrW base p w wr)) (fun v _ => (intOf v + 1).toNat)
  case atStart =>
    refine ⟨n, Nat.le_refl _, ?_, Lib.hid ⟨L, rfl, HW.out, FrW.refl _ _ _⟩⟩
    cases n with
    | zero => exact .inl ⟨rfl, by simp <;> omega⟩
    | succ m => exact .inr ⟨m, rfl, by go_num⟩
  case round =>
    obtain ⟨wj, rfl⟩ : ∃ wj : World, wj = wr := ⟨_, rfl⟩
    obtain ⟨k, hk, hv, HJ⟩ := hrel
    obtain ⟨L', hL', hWr, hFr⟩ := HJ.out
    have hlen : L'.length + k = L.length + n := by
      have := congrArg List.length hL'
      simp [putL_length] at this; exact this
    rcases hv with ⟨rfl, rfl⟩ | ⟨m, rfl, rfl⟩
    · have HE := Lib.hid (show L' = L ++ putL x n by simpa [putL] using hL')
      clear hmm hL' HJ
      have HWr := Lib.hid hWr
      have HFr := Lib.hid hFr
      clear hWr hFr
      go_wp2_with fail
      go_end0
      exact ⟨rfl, by rw [← HE.out]; exact HWr.out, HFr.out⟩
    · have HL' := Lib.hid (show (L' ++ [x / 2 ^ m % 2 == 1]) ++ putL x m = L ++ putL x n by rw [← hL']; simp [putL])
      obtain ⟨hbp, v, hp, hrow⟩ := hWr
      have HROW := Lib.hid hrow
      have HPB := Lib.hid hp
      have HFr := Lib.hid hFr
      obtain ⟨av, cv, rfl⟩ := Bt.own_shape hrow
      rw [btBytes_length] at *
      have hlb : L'.length ≤ 1048640 := by omega
      have c0 : wj.cell? ⟨p, 0, none⟩ = some (.slice av ((L'.length + 7) / 8) cv) := by rw [Bt.cell_of hp]; rfl
      have c1 : wj.cell? ⟨p, 1, none⟩ = some (vi L'.length) := by rw [Bt.cell_of hp]; rfl
      have f0 : ∀ o, wj.frozen? ⟨p, o, none⟩ = false := fun o => Bt.free_of hp o
      have h7 : bits .and .i64 (L'.length : Int) 7 = ((L'.length % 8 : Nat) : Int) := and7 _ (by omega)
      clear hL' hrow hp hFr HJ hmm
      go_upto_if 20 with fail
      go_cut [] (fun wx => ∃ v' bs', wx.heap[p]? = some (.cells #[v', vi L'.length] 78) ∧ OwU base wx v' bs' ∧ bs' = (if L'.length % 8 = 0 then btBytes L' ++ [0] else btBytes L') ∧ FrW base p w wx)
      case first =>
        by_cases h8 : L'.length % 8 = 0
        · have hb0 : (((L'.length % 8 : Nat) : Int) == 0) = true := by simp [h8]
          have hbw := HFr.out.size
          have HP8 := Lib.hid h8
          have HLB := Lib.hid (btBytes_length L')
          have hrw : wj.ownsRow base 5 1 (.slice av ((L'.length + 7) / 8) cv) ((L'.length + 7) / 8) ((btBytes L').map u8) := by have := HROW.out; unfold OwU at this; rw [btBytes_length] at this; exact this
          have HRW := Lib.hid hrw
          have c0a : ∀ o, (wj.alloc o).cell? ⟨p, 0, none⟩ = some (.slice av ((L'.length + 7) / 8) cv) := fun o => cell_later ((Below.refl _ _).alloc (Nat.le_refl _) o) c0
          have hlt := (Array.getElem?_eq_some_iff.1 HPB.out).1
          clear h8 hrw
          go_wp2_with (refine wpList_append_src rfl (.tmp 25) (.tmp 26) 76 rfl eltU8 base ((L'.length + 7) / 8) _ (HRW.out.alloc _) rfl 1 [u8 0] (src_new (cs := #[u8 0]) rfl rfl) rfl (by intro u hu; simp at hu; subst hu; rfl) (by omega) (by omega) (by simp; omega) ?_; intro v1 w1 ho1 hg1 _; obtain ⟨g1, cp1, rfl⟩ := Bt.own_some ho1 (by omega); have HO1 := Lib.hid ho1; have HG1 := Lib.hid hg1; have hp1 : w1.heap[p]? = some (.cells #[.slice av ((L'.length + 7) / 8) cv, vi L'.length] 78) := (wr_kept HRW.out hg1 HPB.out); have q0 : w1.cell? ⟨p, 0, none⟩ = some (.slice av ((L'.length + 7) / 8) cv) := (by rw [Bt.cell_of hp1]; rfl); have q1 : w1.frozen? ⟨p, 0, none⟩ = false := Bt.free_of hp1 0; have HP1 := Lib.hid hp1; clear ho1 hg1 hp1)
          go_meet
          have hbp2 : p ≠ g1 := fun e => by
            have := HP1.out
            rcases HO1.out.2 with ⟨hv, _⟩ | ⟨g', cap, cur, hv, hg, hh, hn, hm, hs, ht⟩
            · cases hv
            · cases hv; rw [e] at this; rw [this] at hh; cases hh
          refine ⟨_, btBytes L' ++ [0], Bt.cells_set _ HP1.out, ?_, by rw [if_pos HP8.out], (HFr.out.trans (grow_frame HRW.out HG1.out)).trans (FrW.setP _ _ _)⟩
          have hx : w1.ownsRow base 5 1 (.slice (some ⟨g1, 0, none⟩) ((L'.length + 7) / 8 + 1) cp1) ((L'.length + 7) / 8 + 1) ((btBytes L' ++ [0]).map u8) := by simpa using HO1.out
          have hl : (btBytes L' ++ [0]).length = (L'.length + 7) / 8 + 1 := by simp [btBytes_length]
          show World.ownsRow _ base _ 1 _ (btBytes L' ++ [0]).length _
          rw [hl]
          exact Bt.own_frame hx (fun g hg => by
            simp only [Value.ownBlock, Option.some.injEq] at hg; subst hg
            exact Bt.cells_other _ rfl (fun e => hbp2 e.symm))
        · have hb0 : (((L'.length % 8 : Nat) : Int) == 0) = false := by simp; omega
          have HP8 := Lib.hid h8
          clear h8
          go_wp2_with fail
          go_meet
          exact ⟨_, btBytes L', HPB.out, HROW.out, by rw [if_neg HP8.out], HFr.out⟩
      case rest =>
        obtain ⟨wx, rfl⟩ : ∃ wx : World, wx = wc := ⟨_, rfl⟩
        obtain ⟨v', bs', hp', ho', rfl, hfr'⟩ := hcut
        generalize hB : (if L'.length % 8 = 0 then btBytes L' ++ [0] else btBytes L') = bs at ho'
        have hl : bs.length = L'.length / 8 + 1 := by
          rw [← hB]; split <;> simp [btBytes_length] <;> omega
        unfold OwU at ho'
        rw [hl] at ho'
        obtain ⟨g, cp, rfl⟩ := Bt.own_some ho' (by omega)
        have HSET := fun z => Lib.hid (own_byte (p := p) ho' (k := L'.length / 8) (by omega) z)
        have hbt : bs[L'.length / 8]?.getD 0 < 256 := by
          rw [← hB]
          by_cases h8 : L'.length % 8 = 0
          · rw [if_pos h8, List.getElem?_append_right (by rw [btBytes_length]; omega)]
            rw [show L'.length / 8 - (btBytes L').length = 0 by rw [btBytes_length]; omega]; decide
          · rw [if_neg h8, btBytes_at (by omega)]; exact btByte_lt _ _
        have HNB := Lib.hid (put_byte (b := bs[L'.length / 8]?.getD 0) (x := x) (m := m) (k := L'.length % 8) hbt (by omega) hx)
        have hnew : bs.set (L'.length / 8) (bs[L'.length / 8]?.getD 0 ||| ((if (x / 2 ^ m % 2 == 1) then 1 else 0) * 2 ^ (7 - L'.length % 8))) = btBytes (L' ++ [x / 2 ^ m % 2 == 1]) := by
          rw [← hB]
          by_cases h8 : L'.length % 8 = 0
          · rw [if_pos h8, btBytes_new h8, List.getElem?_append_right (by rw [btBytes_length]; omega), show L'.length / 8 - (btBytes L').length = 0 by rw [btBytes_length]; omega, h8]
            simp
          · rw [if_neg h8, btBytes_more h8, btBytes_at (by omega)]; rfl
        have HNEW := Lib.hid hnew
        clear hnew hbt
        have hc := (own_byte (p := p) ho' (k := L'.length / 8) (by omega) 0).2.2
        obtain ⟨⟨cur, hcur⟩, hg⟩ := hc
        have hc0 := Lib.hid hcur
        have d0 : wx.cell? ⟨p, 0, none⟩ = some (.slice (some ⟨g, 0, none⟩) (L'.length / 8 + 1) cp) := by rw [Bt.cell_of hp']; rfl
        have d1 : wx.cell? ⟨p, 1, none⟩ = some (vi L'.length) := by rw [Bt.cell_of hp']; rfl
        have d2 : ∀ o, wx.frozen? ⟨p, o, none⟩ = false := fun o => Bt.free_of hp' o
        have d3 : ∀ o, wx.frozen? ⟨g, o, none⟩ = false := fun o => Bt.free_of hcur o
        have HB := Lib.hid hB
        have HL2 := Lib.hid hl
        have HP2 := Lib.hid hp'
        have HF2 := Lib.hid hfr'
        clear hB hl hp' hfr' ho' hcur c0 c1 f0
        go_wp2_with fail
        go_region
        rw [HNB.out]
        generalize hz : (bs[L'.length / 8]?.getD 0 ||| ((if (x / 2 ^ m % 2 == 1) then 1 else 0) * 2 ^ (7 - L'.length % 8))) = z at *
        have HZ := Lib.hid hz
        clear hz
        obtain ⟨ho3, hf3, _, _⟩ := (HSET z).out
        have hgp : p ≠ g := fun e => by
          rcases hc0.out with hcur
          rw [e] at HP2; rw [HP2.out] at hcur; cases hcur
        have hp3 : (wx.setCell ⟨g, L'.length / 8, none⟩ (u8 z)).heap[p]? = some (.cells #[.slice (some ⟨g, 0, none⟩) (L'.length / 8 + 1) cp, vi L'.length] 78) := Bt.cells_other _ HP2.out hgp
        generalize hwy : wx.setCell ⟨g, L'.length / 8, none⟩ (u8 z) = wy at *
        have e1 : wy.cell? ⟨p, 1, none⟩ = some (vi L'.length) := by rw [Bt.cell_of hp3]; rfl
        have e2 : wy.frozen? ⟨p, 1, none⟩ = false := Bt.free_of hp3 1
        have HO3 := Lib.hid ho3
        have HF3 := Lib.hid hf3
        have HP3 := Lib.hid hp3
        have hw1 : IntKind.i64.wrap ((L'.length : Int) + 1) = (L'.length : Int) + 1 := IntWalk.i64_in _ (by omega)
        clear ho3 hf3 hp3 hwy HSET d0 d1 d2 d3
        go_wp2_with fail
        refine ⟨⟨m, by omega, ?_, ?_⟩, by simp only [intOf]; omega⟩
        · cases m with
          | zero => exact .inl ⟨rfl, rfl⟩
          | succ q => exact .inr ⟨q, rfl, by go_num⟩
        · have hgl : ∀ j, (Value.slice (some ⟨g, 0, none⟩) (L'.length / 8 + 1) cp).ownBlock = some j → (wy.setCell ⟨p, 1, none⟩ (.int .i64 ((L'.length : Int) + 1))).drew.heap[j]? = wy.heap[j]? := fun j hj => by
            simp only [Value.ownBlock, Option.some.injEq] at hj; subst hj
            exact Bt.cells_other _ rfl (fun e => hgp e.symm)
          have hz2 : bs.set (L'.length / 8) z = btBytes (L' ++ [x / 2 ^ m % 2 == 1]) := HNEW.out
          have hl2 : (btBytes (L' ++ [x / 2 ^ m % 2 == 1])).length = L'.length / 8 + 1 := by rw [btBytes_length]; simp; omega
          have hp4 : (wy.setCell ⟨p, 1, none⟩ (.int .i64 ((L'.length : Int) + 1))).drew.heap[p]? = some (.cells #[.slice (some ⟨g, 0, none⟩) (L'.length / 8 + 1) cp, vi (L' ++ [x / 2 ^ m % 2 == 1]).length] 78) := by
            have h1 : (wy.setCell ⟨p, 1, none⟩ (.int .i64 ((L'.length : Int) + 1))).heap[p]? = _ := Bt.cells_set _ HP3.out
            refine (show _ = _ from h1).trans ?_
            simp
          have hf4 : FrW base p wy (wy.setCell ⟨p, 1, none⟩ (.int .i64 ((L'.length : Int) + 1))).drew := ⟨rfl, rfl, rfl, by simp [World.setCell], fun j _ hj _ => Below.heap_setCell wy ⟨p, 1, none⟩ _ j hj⟩
          refine Lib.hid ⟨L' ++ [x / 2 ^ m % 2 == 1], HL'.out, ⟨hbp, _, hp4, ?_⟩, (HF2.out.trans HF3.out).trans hf4⟩
          have := Bt.own_frame HO3.out hgl
          rw [hz2] at this
          show World.ownsRow _ base _ 1 _ (btBytes _).length _
          rw [hl2]; exact this
end Go.Proofs.Ytbadpfcjoobniaa

namespace Go.Proofs.Ytbadpfcjoobniaa
open Go.RowKit

set_option maxHeartbeats 4000000 in
set_option maxRecDepth 100000 in
theorem len64_call (x : Int) (w : World) (h0 : 0 ≤ x) (h1 : x ≤ 18446744073709551615) :
    Calls Try.prog 75 #[.int .u64 x] w fun e w' => e = .returned (.int .i64 (Lib.bitLen x.toNat)) ∧ w' = w := by
  go_enter Try.func75, Try.ntmps75
  go_wp2
  all_goals first
    | (go_ret; refine ⟨congrArg Ending.returned (congrArg (Value.int IntKind.i64) ?_), rfl⟩; go_light)
    | (exfalso
       go_light
       have hs := len8tab_size
       omega)
  all_goals first
    | (rw [len8_get (x / 4294967296 / 65536 / 256) _, Lib.len8_of (x / 4294967296 / 65536 / 256) (by omega) (by omega)]
       have e : (x / 4294967296 / 65536 / 256).toNat = x.toNat / 72057594037927936 := by omega
       have l := Lib.bitLen_le8' (x / 4294967296 / 65536 / 256) (by omega) (by omega)
       have s := Lib.bitLen_shift56 x.toNat (by omega) (by omega)
       rw [e] at l ⊢
       exact wrap_add 56 _ _ (by decide) l s)
    | (rw [len8_get (x / 4294967296 / 65536) _, Lib.len8_of (x / 4294967296 / 65536) (by omega) (by omega)]
       have e : (x / 4294967296 / 65536).toNat = x.toNat / 281474976710656 := by omega
       have l := Lib.bitLen_le8' (x / 4294967296 / 65536) (by omega) (by omega)
       have s := Lib.bitLen_shift48 x.toNat (by omega) (by omega)
       rw [e] at l ⊢
       exact wrap_add 48 _ _ (by decide) l s)
    | (rw [len8_get (x / 4294967296 / 256) _, Lib.len8_of (x / 4294967296 / 256) (by omega) (by omega)]
       have e : (x / 4294967296 / 256).toNat = x.toNat / 1099511627776 := by omega
       have l := Lib.bitLen_le8' (x / 4294967296 / 256) (by omega) (by omega)
       have s := Lib.bitLen_shift40 x.toNat (by omega) (by omega)
       rw [e] at l ⊢
       exact wrap_add 40 _ _ (by decide) l s)
    | (rw [len8_get (x / 4294967296) _, Lib.len8_of (x / 4294967296) (by omega) (by omega)]
       have e : (x / 4294967296).toNat = x.toNat / 4294967296 := by omega
       have l := Lib.bitLen_le8' (x / 4294967296) (by omega) (by omega)
       have s := Lib.bitLen_shift32 x.toNat (by omega) (by omega)
       rw [e] at l ⊢
       exact wrap_add 32 _ _ (by decide) l s)
    | (rw [len8_get (x / 65536 / 256) _, Lib.len8_of (x / 65536 / 256) (by omega) (by omega)]
       have e : (x / 65536 / 256).toNat = x.toNat / 16777216 := by omega
       have l := Lib.bitLen_le8' (x / 65536 / 256) (by omega) (by omega)
       have s := Lib.bitLen_shift24 x.toNat (by omega) (by omega)
       rw [e] at l ⊢
       exact wrap_add 24 _ _ (by decide) l s)
    | (rw [len8_get (x / 65536) _, Lib.len8_of (x / 65536) (by omega) (by omega)]
       have e : (x / 65536).toNat = x.toNat / 65536 := by omega
       have l := Lib.bitLen_le8' (x / 65536) (by omega) (by omega)
       have s := Lib.bitLen_shift16 x.toNat (by omega) (by omega)
       rw [e] at l ⊢
       exact wrap_add 16 _ _ (by decide) l s)
    | (rw [len8_get (x / 256) _, Lib.len8_of (x / 256) (by omega) (by omega)]
       have e : (x / 256).toNat = x.toNat / 256 := by omega
       have l := Lib.bitLen_le8' (x / 256) (by omega) (by omega)
       have s := Lib.bitLen_shift8 x.toNat (by omega) (by omega)
       rw [e] at l ⊢
       exact wrap_add 8 _ _ (by decide) l s)
    | (rw [len8_get (x) _, Lib.len8_of (x) (by omega) (by omega)]
       have e : (x).toNat = x.toNat := by omega
       have l := Lib.bitLen_le8' (x) (by omega) (by omega)
       rw [e] at l ⊢
       first | exact wrap_wrap _ l | exact wrap_add 0 _ _ (by decide) l (by omega) | exact wrap_one _ l)
end Go.Proofs.Ytbadpfcjoobniaa

namespace Go.Proofs.Ytbadpfcjoobniaa
open Go.RowKit

/-- A number's bits. -/
def numL (x : Nat) : List Bool :=
  if x = 18446744073709551615 then putL 0 64 ++ putL 1 1 ++ putL 0 64
  else putL 0 (Lib.bitLen (x + 1) - 1) ++ putL (x + 1) (Lib.bitLen (x + 1))
theorem numL_length (x : Nat) (h : x < 18446744073709551616) : (numL x).length ≤ 129 := by
  unfold numL
  split
  · simp [putL_length]
  · have := Lib.bitLen_le (x + 1) 64 (by decide) (by omega)
    simp [putL_length]; omega
theorem bitLen_pos {x : Nat} (h : x ≠ 0) (h2 : x < 2 ^ 64) : 1 ≤ Lib.bitLen x := by rw [Lib.bitLen_half x h h2]; omega
def NumQ (base p : Nat) (L : List Bool) (w : World) (e : Ending) (w' : World) : Prop := e = .returned (.tuple #[]) ∧ WrS base p L w' ∧ FrW base p w w'

set_option maxRecDepth 100000 in
set_option maxHeartbeats 4000000 in
theorem num_call {base p : Nat} {L : List Bool} (x : Nat) (w : World) (h : WrS base p L w) (hx : x < 18446744073709551616) (hL : L.length ≤ 1048000) (hb : base ≤ w.heap.size) :
    Calls Try.prog 57 #[.pointer (some ⟨p, 0, none⟩), .int .u64 x] w (PutQ base p (L ++ numL x) w) := by
  have HW := Lib.hid h
  clear h
  go_enter Try.func57, Try.ntmps57
  by_cases hm : x = 18446744073709551615
  · have hN := Lib.hid (show numL x = putL 0 64 ++ putL 1 1 ++ putL 0 64 by unfold numL; rw [if_pos hm])
    have hb1 : ((x : Int) == 18446744073709551615) = true := by subst hm; rfl
    clear hm
    go_wp2_with (first
      | (go_at_call 74; refine (put_call (L := L ++ putL 0 64 ++ putL 1 1) 0 64 w2 HW2.out (by decide) (by decide) (by simp [putL_length]; omega) (by omega)).mono ?_; rintro e3 w3 ⟨rfl, hw3, hf3⟩; have HW3 := Lib.hid hw3; have HF3 := Lib.hid hf3; clear hw3 hf3)
      | (go_at_call 74; refine (put_call (L := L ++ putL 0 64) 1 1 w1 HW1.out (by decide) (by decide) (by simp [putL_length]; omega) (by omega)).mono ?_; rintro e2 w2 ⟨rfl, hw2, hf2⟩; have HW2 := Lib.hid hw2; have HF2 := Lib.hid hf2; have hz2 := hf2.size; clear hw2 hf2)
      | (go_at_call 74; refine (put_call (L := L) 0 64 w HW.out (by decide) (by decide) (by omega) hb).mono ?_; rintro e1 w1 ⟨rfl, hw1, hf1⟩; have HW1 := Lib.hid hw1; have HF1 := Lib.hid hf1; have hz1 := hf1.size; clear hw1 hf1))
    (try simp only [Exit.inBlock, Exit.then])
    refine bodyPost_ret (results_none rfl _ _ _) rfl ?_
    refine ⟨rfl, ?_, (HF1.out.trans HF2.out).trans HF3.out⟩
    rw [hN.out, ← List.append_assoc, ← List.append_assoc]; exact HW3.out
  · have hN := Lib.hid (show numL x = putL 0 (Lib.bitLen (x + 1) - 1) ++ putL (x + 1) (Lib.bitLen (x + 1)) by unfold numL; rw [if_neg hm])
    have hb1 : ((x : Int) == 18446744073709551615) = false := by simp; omega
    have hlt : x + 1 < 18446744073709551616 := by omega
    have hw1 : IntKind.u64.wrap ((x : Int) + 1) = (x : Int) + 1 := by rw [IntKind.wrap_u64]; omega
    have hp := bitLen_pos (x := x + 1) (by omega) hlt
    have hle := Lib.bitLen_le (x + 1) 64 (by decide) hlt
    have hcs : ((Lib.bitLen (x + 1) : Int) - 1) = ((Lib.bitLen (x + 1) - 1 : Nat) : Int) := by omega
    have htn : ((x : Int) + 1).toNat = x + 1 := by omega
    clear hm
    go_wp2_with (first
      | (go_at_call 74; refine (put_call (L := L ++ putL 0 (Lib.bitLen (x + 1) - 1)) (x + 1) (Lib.bitLen (x + 1)) w1 HW1.out (by omega) (by omega) (by simp [putL_length]; omega) (by omega)).mono ?_; rintro e2 w2 ⟨rfl, hw2, hf2⟩; have HW2 := Lib.hid hw2; have HF2 := Lib.hid hf2; clear hw2 hf2)
      | (go_at_call 74; (try rw [hcs]); refine (put_call (L := L) 0 (Lib.bitLen (x + 1) - 1) w0 HW.out (by decide) (by omega) (by omega) hb).mono ?_; rintro e1 w1 ⟨rfl, hw1, hf1⟩; have HW1 := Lib.hid hw1; have HF1 := Lib.hid hf1; have hz1 := hf1.size; clear hw1 hf1)
      | (go_at_call 75; refine (len64_call ((x : Int) + 1) w (by omega) (by omega)).mono ?_; rintro e0 w0 ⟨rfl, rfl⟩; rw [htn]))


    go_end0
    refine ⟨rfl, ?_, HF1.out.trans HF2.out⟩
    rw [hN.out, ← List.append_assoc]; exact HW2.out
end Go.Proofs.Ytbadpfcjoobniaa

namespace Go.Proofs.Ytbadpfcjoobniaa
open Go.RowKit

/-- A number that may be below nought, as one that is not. -/
def zig (z : Int) : Nat := if z < 0 then (-(z + 1)).toNat * 2 + 1 else z.toNat * 2
def intL (z : Int) : List Bool := numL (zig z)
theorem zig_lt {z : Int} (h1 : -9223372036854775808 ≤ z) (h2 : z ≤ 9223372036854775807) : zig z < 18446744073709551616 := by
  unfold zig; split <;> omega
theorem xor_ones (m : Nat) (h : m < 18446744073709551616) : m ^^^ 18446744073709551615 = 18446744073709551615 - m := by
  have e := congrArg BitVec.toNat (BitVec.xor_allOnes (x := BitVec.ofNat 64 m))
  rw [BitVec.toNat_xor, BitVec.toNat_not, BitVec.toNat_allOnes, BitVec.toNat_ofNat, Nat.mod_eq_of_lt (by omega)] at e
  have e2 : (2 ^ 64 - 1 : Nat) = 18446744073709551615 := by decide
  rw [e2] at e; exact e
theorem zig_bits {z : Int} (h1 : -9223372036854775808 ≤ z) (h2 : z ≤ 9223372036854775807) : bits .xor .u64 (IntKind.u64.wrap (IntKind.u64.wrap z * 2)) (IntKind.u64.wrap (z / 9223372036854775808)) = (zig z : Int) := by
  rw [IntKind.wrap_u64, IntKind.wrap_u64, IntKind.wrap_u64]
  unfold zig
  by_cases h : z < 0
  · rw [if_pos h]
    have e1 : z % 18446744073709551616 * 2 % 18446744073709551616 = ((18446744073709551616 + 2 * z).toNat : Int) := by omega
    have e2 : z / 9223372036854775808 % 18446744073709551616 = ((18446744073709551615 : Nat) : Int) := by omega
    rw [e1, e2, u64_xor_nat _ _ (by omega) (by decide), xor_ones _ (by omega)]
    omega
  · rw [if_neg h]
    have e1 : z % 18446744073709551616 * 2 % 18446744073709551616 = ((z.toNat * 2 : Nat) : Int) := by omega
    have e2 : z / 9223372036854775808 % 18446744073709551616 = ((0 : Nat) : Int) := by omega
    rw [e1, e2, u64_xor_nat _ _ (by omega) (by decide), Nat.xor_zero]
set_option maxRecDepth 100000 in
set_option maxHeartbeats 4000000 in
theorem int_call {base p : Nat} {L : List Bool} (z : Int) (w : World) (h : WrS base p L w) (h1 : -9223372036854775808 ≤ z) (h2 : z ≤ 9223372036854775807) (hL : L.length ≤ 1048000) (hb : base ≤ w.heap.size) :
    Calls Try.prog 56 #[.pointer (some ⟨p, 0, none⟩), .int .i64 z] w (PutQ base p (L ++ intL z) w) := by
  have HW := Lib.hid h
  clear h
  go_enter Try.func56, Try.ntmps56
  have hz := zig_bits h1 h2
  have hlt := zig_lt h1 h2
  go_wp2_with (go_at_call 57; (try rw [hz]); refine (num_call (L := L) (zig z) w HW.out hlt hL hb).mono ?_; rintro e1 w1 ⟨rfl, hw1, hf1⟩; have HW1 := Lib.hid hw1; have HF1 := Lib.hid hf1; clear hw1 hf1)
  go_end0
  exact ⟨rfl, HW1.out, HF1.out⟩

end Go.Proofs.Ytbadpfcjoobniaa

namespace Go.Proofs.Ytbadpfcjoobniaa

/-- The bits of bytes. -/
def bitsOf : List Nat → List Bool
  | [] => []
  | b :: bs => putL b 8 ++ bitsOf bs
theorem bitsOf_length : ∀ bs, (bitsOf bs).length = 8 * bs.length
  | [] => rfl
  | b :: bs => by simp [bitsOf, putL_length, bitsOf_length bs]; omega
theorem putL_at (x : Nat) : ∀ n i, i < n → (putL x n)[i]? = some (x / 2 ^ (n - 1 - i) % 2 == 1)
  | 0, _, h => by omega
  | n + 1, 0, _ => by simp [putL]
  | n + 1, i + 1, h => by
    rw [putL, List.getElem?_cons_succ, putL_at x n i (by omega)]
    rw [show n + 1 - 1 - (i + 1) = n - 1 - i by omega]
theorem bitsOf_at : ∀ (bs : List Nat) (i b : Nat), bs[i / 8]? = some b → (bitsOf bs)[i]? = some (b / 2 ^ (7 - i % 8) % 2 == 1)
  | [], i, b, h => by simp at h
  | c :: bs, i, b, h => by
    rw [bitsOf]
    by_cases hi : i < 8
    · have h0 : i / 8 = 0 := by omega
      rw [h0] at h
      simp only [List.getElem?_cons_zero, Option.some.injEq] at h
      subst h
      rw [List.getElem?_append_left (by rw [putL_length]; exact hi), putL_at _ _ _ hi]
      rw [show i % 8 = i by omega]
    · have h0 : i / 8 = (i - 8) / 8 + 1 := by omega
      rw [h0, List.getElem?_cons_succ] at h
      rw [List.getElem?_append_right (by rw [putL_length]; omega), putL_length, bitsOf_at bs (i - 8) b h]
      rw [show (i - 8) % 8 = i % 8 by omega]
/-- The number of some bits. -/
def valL (L : List Bool) : Nat := L.foldl (fun a b => 2 * a + (if b then 1 else 0)) 0
theorem valL_snoc (L : List Bool) (b : Bool) : valL (L ++ [b]) = 2 * valL L + (if b then 1 else 0) := by simp [valL, List.foldl_append]
theorem foldl_val (L : List Bool) : ∀ a, L.foldl (fun a b => 2 * a + (if b then 1 else 0)) a = a * 2 ^ L.length + valL L := by
  induction L with
  | nil => intro a; simp [valL]
  | cons b L ih =>
    intro a
    show L.foldl _ _ = a * 2 ^ (L.length + 1) + L.foldl _ _
    rw [ih, ih, Nat.pow_succ, Nat.add_mul]
    rw [Nat.mul_comm 2 a, Nat.mul_assoc, Nat.mul_comm 2 (2 ^ L.length)]
    simp only [Nat.mul_zero, Nat.zero_add]; omega
theorem valL_cons (b : Bool) (L : List Bool) : valL (b :: L) = (if b then 1 else 0) * 2 ^ L.length + valL L := by
  show L.foldl _ _ = _
  rw [foldl_val]; simp
theorem valL_lt : ∀ L : List Bool, valL L < 2 ^ L.length
  | [] => by simp [valL]
  | b :: L => by
    have := valL_lt L
    rw [valL_cons, List.length_cons, Nat.pow_succ]
    cases b <;> simp <;> omega
theorem valL_putL (x : Nat) : ∀ n, valL (putL x n) = x % 2 ^ n
  | 0 => by simp [putL, valL, Nat.mod_one]
  | n + 1 => by
    rw [putL, valL_cons, putL_length, valL_putL x n]
    have h1 : x % 2 ^ (n + 1) = x % 2 ^ n + 2 ^ n * (x / 2 ^ n % 2) := by rw [Nat.pow_succ, Nat.mod_mul]
    rw [h1]
    have : x / 2 ^ n % 2 < 2 := Nat.mod_lt _ (by decide)
    rcases (show x / 2 ^ n % 2 = 0 ∨ x / 2 ^ n % 2 = 1 by omega) with h | h <;> rw [h] <;> simp <;> omega
theorem putL_valL : ∀ L : List Bool, putL (valL L) L.length = L
  | [] => rfl
  | b :: L => by
    have hlt := valL_lt L
    have ih := putL_valL L
    rw [List.length_cons, putL, valL_cons]
    have e1 : ((if b then 1 else 0) * 2 ^ L.length + valL L) / 2 ^ L.length % 2 = if b then 1 else 0 := by
      rw [Nat.add_comm, Nat.add_mul_div_right _ _ (Nat.two_pow_pos _), Nat.div_eq_of_lt hlt]
      cases b <;> rfl
    rw [e1]
    congr 1
    · cases b <;> rfl
    · have : ∀ n, n ≤ L.length → putL ((if b then 1 else 0) * 2 ^ L.length + valL L) n = putL (valL L) n := by
        intro n hn
        induction n with
        | zero => rfl
        | succ n ihn =>
          rw [putL, putL, ihn (by omega)]
          congr 2
          obtain ⟨d, hd⟩ : ∃ d, L.length = n + 1 + d := ⟨L.length - (n + 1), by omega⟩
          have e2 : (if b then 1 else 0) * 2 ^ L.length = 2 ^ n * (2 * ((if b then 1 else 0) * 2 ^ d)) := by
            rw [hd, Nat.pow_add, Nat.pow_succ]; cases b <;> simp [Nat.mul_comm, Nat.mul_left_comm, Nat.mul_assoc]
          rw [e2, Nat.add_comm, Nat.add_mul_div_left _ _ (Nat.two_pow_pos _)]
          omega
      rw [this _ (Nat.le_refl _), ih]
theorem valL_append (A B : List Bool) : valL (A ++ B) = valL A * 2 ^ B.length + valL B := by
  unfold valL; rw [List.foldl_append, foldl_val]; rfl
theorem valL_falses : ∀ n, valL (List.replicate n false) = 0
  | 0 => rfl
  | n + 1 => by rw [List.replicate_succ, valL_cons, valL_falses n]; simp
theorem putL_zero : ∀ n, putL 0 n = List.replicate n false
  | 0 => rfl
  | n + 1 => by rw [putL, putL_zero n, List.replicate_succ]; simp
theorem valL_zero : ∀ L : List Bool, valL L = 0 → L = List.replicate L.length false := fun L h => by
  have := putL_valL L
  rw [h, putL_zero] at this; exact this.symm

/-- What a reader has ahead of it, and why it stopped. -/
structure Rd where
  rest : List Bool
  bad : Int
/-- n bits read. -/
def getS (s : Rd) (n : Nat) : Nat × Rd :=
  if s.bad ≠ 0 then (0, s) else if s.rest.length < n then (0, ⟨s.rest, 10⟩) else (valL (s.rest.take n), ⟨s.rest.drop n, 0⟩)
/-- What reading gives: of something that is written what was written; nothing else. -/
def RdOK {α : Type} (enc : α → List Bool) (ok : α → Prop) (s s' : Rd) (x : α) : Prop :=
  (s.bad = 0 → ∀ y t, ok y → s.rest = enc y ++ t → x = y ∧ s'.rest = t ∧ s'.bad = 0) ∧ (s'.bad = 0 → s.bad = 0 ∧ ok x ∧ s.rest = enc x ++ s'.rest)
end Go.Proofs.Ytbadpfcjoobniaa

namespace Go.Proofs.Ytbadpfcjoobniaa

theorem bitLen_pow {m v : Nat} (hm : m < 64) (hv : v < 2 ^ m) : Lib.bitLen (2 ^ m + v) = m + 1 := by
  have h2 : 2 ^ m + v < 2 ^ 64 := by
    have : 2 ^ (m + 1) ≤ 2 ^ 64 := Nat.pow_le_pow_right (by decide) (by omega)
    rw [Nat.pow_succ] at this; omega
  rw [Lib.bitLen_shift m _ (Nat.le_add_right _ _) h2, Nat.add_comm (2 ^ m) v, Nat.add_div_right _ (Nat.two_pow_pos _), Nat.div_eq_of_lt hv]
  rfl
theorem putL_top {m v : Nat} (hv : v < 2 ^ m) : putL (2 ^ m + v) (m + 1) = true :: putL v m := by
  rw [putL, Nat.add_comm (2 ^ m) v, Nat.add_div_right _ (Nat.two_pow_pos _), Nat.div_eq_of_lt hv]
  congr 1
  have := putL_valL (putL (v + 2 ^ m) m)
  rw [putL_length, valL_putL, Nat.add_mod_right] at this
  have h2 := putL_valL (putL v m)
  rw [putL_length, valL_putL] at h2
  rw [← this, h2]
theorem numL_of {m : Nat} {tl : List Bool} (h : tl.length = m) (hm : m ≤ 64) (hv : 2 ^ m + valL tl ≤ 2 ^ 64) : numL (2 ^ m + valL tl - 1) = List.replicate m false ++ true :: tl := by
  have hlt := valL_lt tl
  rw [h] at hlt
  by_cases h64 : m = 64
  · subst h64
    have hz : valL tl = 0 := by omega
    have ht := valL_zero tl hz
    rw [h] at ht
    have h2 : valL (List.replicate 64 false) = 0 := valL_falses 64
    rw [ht, h2]; unfold numL
    rw [if_pos (by decide), putL_zero, List.append_assoc]; rfl
  · have hm2 : m < 64 := by omega
    have hp : 2 ^ (m + 1) ≤ 2 ^ 64 := Nat.pow_le_pow_right (by decide) (by omega)
    rw [Nat.pow_succ] at hp
    have hpos := Nat.two_pow_pos m
    unfold numL
    rw [if_neg (by omega)]
    have e : 2 ^ m + valL tl - 1 + 1 = 2 ^ m + valL tl := by omega
    rw [e, bitLen_pow hm2 hlt, putL_top hlt, putL_zero, Nat.add_sub_cancel]
    congr 2
    rw [← h]; exact putL_valL tl
theorem numL_form {y : Nat} (hy : y < 2 ^ 64) : ∃ m tl, tl.length = m ∧ m ≤ 64 ∧ y = 2 ^ m + valL tl - 1 ∧ 2 ^ m + valL tl ≤ 2 ^ 64 ∧ numL y = List.replicate m false ++ true :: tl := by
  have key : ∃ m tl, tl.length = m ∧ m ≤ 64 ∧ y = 2 ^ m + valL tl - 1 ∧ 2 ^ m + valL tl ≤ 2 ^ 64 := by
    by_cases h : y = 2 ^ 64 - 1
    · exact ⟨64, List.replicate 64 false, by simp, Nat.le_refl _, by rw [valL_falses]; omega, by rw [valL_falses]; omega⟩
    · have hlog : ∃ m, m < 64 ∧ 2 ^ m ≤ y + 1 ∧ y + 1 < 2 ^ (m + 1) := by
        have : ∀ k, y + 1 < 2 ^ k → k ≤ 64 → ∃ m, m < k ∧ 2 ^ m ≤ y + 1 ∧ y + 1 < 2 ^ (m + 1) := by
          intro k
          induction k with
          | zero => intro h _; omega
          | succ k ih =>
            intro h hk
            by_cases h2 : y + 1 < 2 ^ k
            · obtain ⟨m, a, b, c⟩ := ih h2 (by omega)
              exact ⟨m, by omega, b, c⟩
            · exact ⟨k, by omega, by omega, h⟩
        exact this 64 (by omega) (Nat.le_refl _)
      obtain ⟨m, hm, h1, h2⟩ := hlog
      have hv : valL (putL (y + 1 - 2 ^ m) m) = y + 1 - 2 ^ m := by
        rw [valL_putL, Nat.mod_eq_of_lt (by rw [Nat.pow_succ] at h2; omega)]
      exact ⟨m, putL (y + 1 - 2 ^ m) m, putL_length _ _, by omega, by rw [hv]; omega, by rw [hv]; omega⟩
  obtain ⟨m, tl, h1, h2, h3, h4⟩ := key
  refine ⟨m, tl, h1, h2, h3, h4, ?_⟩
  rw [h3]; exact numL_of h1 h2 h4
theorem falses_inj : ∀ {k m : Nat} {a b : List Bool}, List.replicate k false ++ true :: a = List.replicate m false ++ true :: b → k = m ∧ a = b
  | 0, 0, a, b, h => by simpa using h
  | 0, m + 1, a, b, h => by simp [List.replicate_succ] at h
  | k + 1, 0, a, b, h => by simp [List.replicate_succ] at h
  | k + 1, m + 1, a, b, h => by
    simp only [List.replicate_succ, List.cons_append, List.cons.injEq, true_and] at h
    obtain ⟨h1, h2⟩ := falses_inj h
    exact ⟨by omega, h2⟩
theorem falses_none : ∀ {k m : Nat} {a : List Bool}, List.replicate k false ≠ List.replicate m false ++ true :: a
  | 0, 0, a, h => by simp at h
  | 0, m + 1, a, h => by simp [List.replicate_succ] at h
  | k + 1, 0, a, h => by simp [List.replicate_succ] at h
  | k + 1, m + 1, a, h => by
    simp only [List.replicate_succ, List.cons_append, List.cons.injEq, true_and] at h
    exact falses_none h
theorem falses_more : ∀ {k m : Nat} {a b : List Bool}, List.replicate k false ++ b = List.replicate m false ++ true :: a → k ≤ m
  | 0, _, _, _, _ => by omega
  | k + 1, 0, a, b, h => by simp [List.replicate_succ] at h
  | k + 1, m + 1, a, b, h => by
    simp only [List.replicate_succ, List.cons_append, List.cons.injEq, true_and] at h
    have := falses_more h
    omega
abbrev NumOk (x : Nat) : Prop := x < 2 ^ 64
/-- It stopped. -/
theorem num_stop {s s' : Rd} {x : Nat} (hb : s'.bad ≠ 0) (h : s.bad = 0 → ∀ y t, NumOk y → s.rest ≠ numL y ++ t) : RdOK numL NumOk s s' x :=
  ⟨fun h0 y t hy e => absurd e (h h0 y t hy), fun h0 => absurd h0 hb⟩
theorem num_short {k : Nat} {s : Rd} (h : s.rest = List.replicate k false) (y : Nat) (t : List Bool) (hy : NumOk y) : s.rest ≠ numL y ++ t := by
  obtain ⟨m, tl, _, _, _, _, e⟩ := numL_form hy
  rw [h, e, List.append_assoc]; exact falses_none
theorem num_form {s : Rd} {b : List Bool} (h : s.rest = List.replicate 65 false ++ b) (y : Nat) (t : List Bool) (hy : NumOk y) : s.rest ≠ numL y ++ t := by
  obtain ⟨m, tl, _, hm, _, _, e⟩ := numL_form hy
  rw [h, e, List.append_assoc]; intro e2
  have := falses_more e2
  omega
/-- Too few bits behind the one, or, behind 64 noughts, others than noughts. -/
theorem num_cut {k : Nat} {s : Rd} {r : List Bool} (h : s.rest = List.replicate k false ++ true :: r) (hc : r.length < k ∨ (k = 64 ∧ valL (r.take 64) ≠ 0)) (y : Nat) (t : List Bool) (hy : NumOk y) : s.rest ≠ numL y ++ t := by
  obtain ⟨m, tl, hl, hm, _, hv, e⟩ := numL_form hy
  rw [h, e, List.append_assoc]; intro e2
  obtain ⟨rfl, e3⟩ := falses_inj (b := tl ++ t) e2
  rcases hc with hc | ⟨rfl, hc⟩
  · rw [e3] at hc; simp at hc; omega
  · rw [e3, ← hl, List.take_left] at hc
    omega
/-- A number. -/
theorem num_read {k : Nat} {s : Rd} {r : List Bool} (h0 : s.bad = 0) (h : s.rest = List.replicate k false ++ true :: r) (hk : k ≤ 64) (hr : k ≤ r.length) (hv : 2 ^ k + valL (r.take k) ≤ 2 ^ 64) {x : Nat} (hx : x = 2 ^ k + valL (r.take k) - 1) : RdOK numL NumOk s ⟨r.drop k, 0⟩ x := by
  have hl : (r.take k).length = k := by rw [List.length_take]; omega
  have e := numL_of hl hk hv
  rw [← hx] at e
  have hpos := Nat.two_pow_pos k
  have hxo : NumOk x := by unfold NumOk; omega
  refine ⟨fun _ y t hy e2 => ?_, fun _ => ⟨h0, hxo, ?_⟩⟩
  · obtain ⟨m, tl, hl2, hm, hy2, hv2, e3⟩ := numL_form hy
    rw [h, e3, List.append_assoc] at e2
    obtain ⟨rfl, e4⟩ := falses_inj (b := tl ++ t) e2
    refine ⟨?_, ?_, rfl⟩
    · rw [hx, hy2, e4, ← hl2, List.take_left]
    · show r.drop k = t
      rw [e4, ← hl2, List.drop_left]
  · rw [e, h, List.append_assoc]
    show _ = List.replicate k false ++ true :: (r.take k ++ r.drop k)
    rw [List.take_append_drop]
end Go.Proofs.Ytbadpfcjoobniaa

namespace Go.Proofs.Ytbadpfcjoobniaa
open Go.RowKit

theorem run_makeBytes (w : World) (n : Nat) (hn : n ≤ 1048576) : (Instr.makeSlice 76 (.int .i64 (n : Int)) (.int .i64 (n : Int))).run Try.prog w = .ok (.slice (some ⟨w.heap.size, 0, none⟩) n n) (w.alloc (.cells (Array.replicate n (u8 0)) 5)) := by
  obtain ⟨i, hi, h2⟩ := Option.map_eq_some_iff.1 Try.infoU8
  simp only [Prod.mk.injEq] at h2
  obtain ⟨hz, hs, hb⟩ := h2
  have := run_makeSlice (P := Try.prog) w 76 5 i (.int .u8 0) Try.underlying76 hi hz .i64 .i64 n n (by omega) (Int.le_refl _) (by rw [hs]; omega) (by rw [hb]; omega) (by omega)
  rw [this, hs]
  have e : madeCells (Value.int .u8 0).cells ((n : Int).toNat * 1) = (Array.replicate n (u8 0)) := by
    apply Array.toList_inj.1
    rw [show (Value.int IntKind.u8 0).cells = #[Value.int .u8 0] from rfl, toList_madeCells_one]
    simp
  rw [e]; simp
theorem run_copyB (w : World) (ty : TypeId) (b n : Nat) (v : Value) {base : Nat} {w0 : World} (cs : List Nat) (h : w0.ownsRow base 5 1 v n (cs.map u8)) (hbel : Below w0.heap.size w0 w)
    (hb : w.heap[b]? = some (.cells (Array.replicate n (u8 0)) 5)) :
    ∃ w', (Builtin.copy_ #[76, 76] ty #[.slice (some ⟨b, 0, none⟩) n n, v]).run Try.prog w = .ok (goInt (n : Nat)) w' ∧ Hid (w'.heap[b]? = some (.cells (cs.map u8).toArray 5) ∧ w.grownBy w' (some b) ∧ w'.heap.size = w.heap.size) := by
  have hl : cs.length = n := by simpa using h.1
  rcases h.2 with ⟨rfl, rfl⟩ | ⟨g, cap, cur, rfl, hg, hh, hn, hm, hs, ht⟩
  · have : cs = [] := List.length_eq_zero_iff.1 hl
    subst this
    obtain ⟨i, hi, h2⟩ := Option.map_eq_some_iff.1 Try.infoU8
    refine ⟨w, ?_, Lib.hid ⟨hb, ⟨rfl, rfl, rfl, Nat.le_refl _, fun _ _ _ => rfl⟩, rfl⟩⟩
    simp [Builtin.copy_, run_underlying Try.underlying76, Builtin.lenOf, Builtin.firstCells, sizeOf, typeInfo, hi]
    rfl
  · obtain ⟨i, hi, h2⟩ := Option.map_eq_some_iff.1 Try.infoU8
    simp only [Prod.mk.injEq] at h2
    have hmin : Nat.min n n = n := by simp
    have hgw : w.heap[g]? = some (.cells cur 5) := (hbel.block g (Array.getElem?_eq_some_iff.1 hh).1).trans hh
    obtain ⟨w', e, H⟩ := run_copyR (P := Try.prog) w 76 76 ty 5 1 b 0 n n (some ⟨g, 0, none⟩) n cap (cs.map u8) (Array.replicate n (u8 0)) 5 Try.underlying76 (by rw [hi]; simp [h2.2.1]) (by rw [hmin]; simp [hl]) hb
      ⟨⟨g, 0, none⟩, rfl, fun j u hj => by
        have h3 : cur[j]? = some u := by
          have hj2 : j < n := by have := (List.getElem?_eq_some_iff.1 hj).1; simp at this; omega
          rw [← ht, List.getElem?_take_of_lt (by omega), Array.getElem?_toList] at hj; exact hj
        rw [addr_add, Nat.zero_add, Bt.cell_of hgw]; exact h3⟩ (by simp [hl]) (by intro u hu; simp at hu; obtain ⟨a, _, rfl⟩ := hu; rfl)
    rw [hmin] at e
    refine ⟨w', e, Lib.hid ⟨?_, H.out.2⟩⟩
    rw [H.out.1]
    have : splice (Array.replicate n (u8 0)).toList 0 (cs.map u8) = cs.map u8 := by simp [splice, hl]
    rw [this]

def BytesQ (L : List Bool) (w : World) (e : Ending) (w' : World) : Prop :=
  ∃ v, e = .returned v ∧ OwU w.heap.size w' v (btBytes L) ∧ Below w.heap.size w w'
set_option maxRecDepth 100000 in
set_option maxHeartbeats 4000000 in
theorem bytes_call {base p : Nat} {L : List Bool} (w : World) (h : WrS base p L w) (hL : L.length ≤ 1048640) :
    Calls Try.prog 28 #[.pointer (some ⟨p, 0, none⟩)] w (BytesQ L w) := by
  obtain ⟨hbp, v, hp, ho⟩ := h
  obtain ⟨a, c, rfl⟩ := Bt.own_shape ho
  have hn : (btBytes L).length ≤ 1048576 := by rw [btBytes_length]; omega
  obtain ⟨bs, hbs⟩ : ∃ bs, bs = btBytes L := ⟨_, rfl⟩
  have HBS := Lib.hid hbs
  rw [← hbs] at ho hp hn
  have hlen : bs.length = bs.length := rfl
  clear hbs
  have HP := Lib.hid hp
  have HO := Lib.hid ho
  have c0 : w.cell? ⟨p, 0, none⟩ = some (.slice a bs.length c) := by rw [Bt.cell_of hp]; rfl
  have c1 : ∀ o, (w.alloc o).cell? ⟨p, 0, none⟩ = some (.slice a bs.length c) := fun o => cell_later ((Below.refl _ _).alloc (Nat.le_refl _) o) c0
  have hmk := run_makeBytes w bs.length hn
  have HN := Lib.hid hn
  clear hp ho hn
  go_enter Try.func28, Try.ntmps28
  obtain ⟨w2, hr, H2⟩ := run_copyB (w.alloc (.cells (Array.replicate bs.length (u8 0)) 5)) 3 w.heap.size bs.length (.slice a bs.length c) bs HO.out ((Below.refl _ _).alloc (Nat.le_refl _) _) (Bt.alloc_at _ _)
  go_wp2_with (refine wpList_copy_run rfl _ _ _ _ rfl _ _ rfl rfl hr ?_)
  go_ret
  obtain ⟨h1, h2, h3⟩ := H2.out
  have hcs : (bs.map u8).toArray.size = bs.length := by simp
  refine ⟨_, rfl, ?_, ?_⟩
  · show World.ownsRow _ _ _ _ _ _ _
    rw [← HBS.out]
    refine ⟨by simp, .inr ⟨w.heap.size, bs.length, (bs.map u8).toArray, rfl, Nat.le_refl _, h1, Nat.le_refl _, by unfold maxLen; have := HN.out; omega, by simp, by rw [Nat.mul_one]; exact List.take_of_length_le (by simp)⟩⟩
  · exact ⟨h2.os, h2.tape, h2.output, by rw [h3]; simp, fun j hj => (h2.block j (by simp; omega) (by simp; omega)).trans (Below.heap_alloc _ _ _ hj)⟩
end Go.Proofs.Ytbadpfcjoobniaa

namespace Go.Proofs.Ytbadpfcjoobniaa
open Go.RowKit

/-- A reader in memory. -/
def RdrS (base p : Nat) (s : Rd) (W : World) : Prop := base ≤ p ∧ ∃ v bs at', W.heap[p]? = some (.cells #[v, vi (at' : Nat), vi s.bad] 126) ∧ OwU base W v bs ∧ (∀ b ∈ bs, b < 256) ∧ bs.length ≤ 1048576 ∧ at' ≤ 8 * bs.length ∧ (bitsOf bs).drop at' = s.rest
def leftS (s : Rd) : Nat := if s.bad ≠ 0 then 0 else s.rest.length
theorem RdrS.later {base p : Nat} {s : Rd} {A B : World} (h : RdrS base p s A) (hb : Below A.heap.size A B) : RdrS base p s B := by
  obtain ⟨hp, v, bs, at', h1, h2, r⟩ := h
  exact ⟨hp, v, bs, at', (hb.block p (Array.getElem?_eq_some_iff.1 h1).1).trans h1, own_below h2 hb, r⟩
theorem RdrS.drewN {base p : Nat} {s : Rd} {A : World} (h : RdrS base p s A) (n : Nat) : RdrS base p s (A.drewN n) := h
theorem RdrS.lt {base p : Nat} {s : Rd} {A : World} (h : RdrS base p s A) : p < A.heap.size := by
  obtain ⟨hp, v, bs, at', h1, _⟩ := h
  exact (Array.getElem?_eq_some_iff.1 h1).1
theorem gro_refl (w : World) (r : Option Nat) : w.grownBy w r := ⟨rfl, rfl, rfl, Nat.le_refl _, fun _ _ _ => rfl⟩
theorem gro_trans {a b c : World} {r : Option Nat} (h : a.grownBy b r) (k : b.grownBy c r) : a.grownBy c r :=
  ⟨k.os.trans h.os, k.tape.trans h.tape, k.output.trans h.output, Nat.le_trans h.size k.size, fun i hi hne => (k.block i (Nat.lt_of_lt_of_le hi h.size) hne).trans (h.block i hi hne)⟩
theorem gro_drewN {a w : World} {r : Option Nat} (h : a.grownBy w r) (n : Nat) : a.grownBy (w.drewN n) r := ⟨h.os, h.tape, h.output, h.size, h.block⟩
theorem gro_setP {a w : World} {p o : Nat} (h : a.grownBy w (some p)) (v : Value) : a.grownBy (w.setCell ⟨p, o, none⟩ v) (some p) :=
  ⟨h.os, h.tape, h.output, by simpa [World.setCell] using h.size, fun i hi hne => (Below.heap_setCell w ⟨p, o, none⟩ v i (fun e => hne (by rw [e]))).trans (h.block i hi hne)⟩

def LeftQ (s : Rd) (w : World) (e : Ending) (w' : World) : Prop := e = .returned (vi (leftS s)) ∧ ∃ n, w' = w.drewN n
set_option maxRecDepth 100000 in
theorem left_call {base p : Nat} {s : Rd} (w : World) (h : RdrS base p s w) :
    Calls Try.prog 62 #[.pointer (some ⟨p, 0, none⟩)] w (LeftQ s w) := by
  obtain ⟨hbp, v, bs, at', hp, ho, hby, hl, hat, hr⟩ := h
  obtain ⟨a, c, rfl⟩ := Bt.own_shape ho
  have HE : s.rest.length = 8 * bs.length - at' := by rw [← hr]; simp [bitsOf_length]
  have HE := Lib.hid HE
  have c0 : w.cell? ⟨p, 0, none⟩ = some (.slice a bs.length c) := by rw [Bt.cell_of hp]; rfl
  have c1 : w.cell? ⟨p, 1, none⟩ = some (vi (at' : Nat)) := by rw [Bt.cell_of hp]; rfl
  have c2 : w.cell? ⟨p, 2, none⟩ = some (vi s.bad) := by rw [Bt.cell_of hp]; rfl
  clear hp ho hby hr
  by_cases hb : s.bad = 0
  · have hb1 : (s.bad != 0) = false := by simp [hb]
    have HB := Lib.hid hb
    clear hb
    have hw1 : IntKind.i64.wrap (8 * (bs.length : Int)) = 8 * (bs.length : Int) := IntWalk.i64_in _ (by omega)
    have hw2 : IntKind.i64.wrap (8 * (bs.length : Int) - at') = 8 * (bs.length : Int) - at' := IntWalk.i64_in _ (by omega)
    go_enter Try.func62, Try.ntmps62
    go_wp2_with fail
    go_quiet (fail)
    go_wp2_with fail
    go_ret
    refine ⟨congrArg Ending.returned (congrArg (Value.int IntKind.i64) ?_), _, rfl⟩
    rw [leftS, if_neg (by simp [HB.out]), HE.out]
    omega
  · have hb1 : (s.bad != 0) = true := by simp [hb]
    have HB := Lib.hid hb
    clear hb
    go_enter Try.func62, Try.ntmps62
    go_wp2_with fail
    go_ret
    refine ⟨congrArg Ending.returned (congrArg (Value.int IntKind.i64) ?_), 0, rfl⟩
    rw [leftS, if_pos HB.out]; rfl

def FailQ (base p : Nat) (s : Rd) (x : Int) (w : World) (e : Ending) (w' : World) : Prop := e = .returned (.int .u64 0) ∧ RdrS base p ⟨s.rest, if s.bad = 0 then x else s.bad⟩ w' ∧ w.grownBy w' (some p)
set_option maxRecDepth 100000 in
theorem fail_call {base p : Nat} {s : Rd} (x : Int) (w : World) (h : RdrS base p s w) :
    Calls Try.prog 77 #[.pointer (some ⟨p, 0, none⟩), vi x] w (FailQ base p s x w) := by
  have HW := Lib.hid h
  obtain ⟨hbp, v, bs, at', hp, ho, hby, hl, hat, hr⟩ := h
  have HP := Lib.hid hp
  have HO := Lib.hid ho
  have HR := Lib.hid hr
  have HBY := Lib.hid hby
  have c2 : w.cell? ⟨p, 2, none⟩ = some (vi s.bad) := by rw [Bt.cell_of hp]; rfl
  have f2 : w.frozen? ⟨p, 2, none⟩ = false := Bt.free_of hp 2
  clear hp ho hby hr
  by_cases hb : s.bad = 0
  · have hb1 : (s.bad == 0) = true := by simp [hb]
    have HB := Lib.hid hb
    clear hb
    go_enter Try.func77, Try.ntmps77
    go_wp2_with fail
    go_ret
    refine ⟨rfl, ⟨hbp, v, bs, at', ?_, ?_, HBY.out, hl, hat, HR.out⟩, gro_setP (gro_refl _ _) _⟩
    · rw [if_pos HB.out]; exact Bt.cells_set _ HP.out
    · refine Bt.own_frame HO.out (fun g hg => Below.heap_setCell _ _ _ _ (fun e => ?_))
      subst e
      rcases HO.out.2 with ⟨h1, _⟩ | ⟨g', cap, cur, h1, h2, h3, _⟩
      · rw [h1] at hg; cases hg
      · rw [h1] at hg; simp only [Value.ownBlock, Option.some.injEq] at hg; subst hg; rw [HP.out] at h3; cases h3
  · have hb1 : (s.bad == 0) = false := by simp [hb]
    have HB := Lib.hid hb
    clear hb
    go_enter Try.func77, Try.ntmps77
    go_wp2_with fail
    go_ret
    refine ⟨rfl, ?_, gro_refl _ _⟩
    rw [if_neg HB.out]; exact HW.out
end Go.Proofs.Ytbadpfcjoobniaa

namespace Go.Proofs.Ytbadpfcjoobniaa
open Go.RowKit

theorem getS_bad {s : Rd} {n : Nat} (h : s.bad ≠ 0) : getS s n = (0, s) := by rw [getS, if_pos h]
theorem getS_short {s : Rd} {n : Nat} (h : s.bad = 0) (h2 : s.rest.length < n) : getS s n = (0, ⟨s.rest, 10⟩) := by rw [getS, if_neg (by simp [h]), if_pos h2]
theorem getS_ok {s : Rd} {n : Nat} (h : s.bad = 0) (h2 : n ≤ s.rest.length) : getS s n = (valL (s.rest.take n), ⟨s.rest.drop n, 0⟩) := by rw [getS, if_neg (by simp [h]), if_neg (by omega)]
def GetQ (base p : Nat) (s : Rd) (n : Nat) (w : World) (e : Ending) (w' : World) : Prop := e = .returned (.int .u64 ((getS s n).1 : Nat)) ∧ RdrS base p (getS s n).2 w' ∧ w.grownBy w' (some p)
set_option maxHeartbeats 4000000 in
set_option maxRecDepth 100000 in
theorem get_bad {base p : Nat} {s : Rd} (n : Nat) (w : World) (h : RdrS base p s w) (hn : n ≤ 64) (hb : leftS s < n) :
    Calls Try.prog 76 #[.pointer (some ⟨p, 0, none⟩), vi n] w (GetQ base p s n w) := by
  have HW := Lib.hid h
  have HE : Hid (getS s n = (0, ⟨s.rest, if s.bad = 0 then 10 else s.bad⟩)) := by
    by_cases h0 : s.bad = 0
    · rw [getS_short h0 (by unfold leftS at hb; rw [if_neg (by simp [h0])] at hb; exact hb), if_pos h0]; exact Lib.hid rfl
    · rw [getS_bad h0, if_neg h0]; exact Lib.hid rfl
  have hlt : decide ((leftS s : Int) < n) = true := by simp; exact hb
  have hlt2 : decide (leftS s < n) = true := by simp; exact hb
  clear h
  go_enter Try.func76, Try.ntmps76
  go_wp2_with (first
    | (go_at_call 62; refine (left_call w HW.out).mono ?_; rintro e w1 ⟨rfl, n1, rfl⟩)
    | (go_at_call 77; refine (fail_call 10 _ (HW.out.drewN n1)).mono ?_; rintro e2 w2 ⟨rfl, hw2, hg2⟩; have HW2 := Lib.hid hw2; have HG2 := Lib.hid hg2; clear hw2 hg2))
  go_ret
  refine ⟨?_, ?_, ?_⟩
  · rw [HE.out]; rfl
  · rw [HE.out]; exact HW2.out
  · exact gro_trans (gro_drewN (gro_refl _ _) n1) HG2.out
set_option maxHeartbeats 4000000 in
set_option maxRecDepth 100000 in
theorem get_none {base p : Nat} {s : Rd} (w : World) (h : RdrS base p s w) (hb : s.bad ≠ 0) :
    Calls Try.prog 76 #[.pointer (some ⟨p, 0, none⟩), vi (0 : Nat)] w (GetQ base p s 0 w) := by
  have HW := Lib.hid h
  have HE := Lib.hid (getS_bad (n := 0) hb)
  have hl : leftS s = 0 := by unfold leftS; rw [if_pos hb]
  have hlt : decide ((leftS s : Int) < 0) = false := by simp
  clear h hb
  go_enter Try.func76, Try.ntmps76
  go_wp2_with (first
    | (go_at_call 62; refine (left_call w HW.out).mono ?_; rintro e w1 ⟨rfl, n1, rfl⟩))
  refine wp_loop_rounds 1 ?_
  rw [rounds_succ]
  go_wp2_with fail
  go_ret
  refine ⟨?_, ?_, gro_drewN (gro_refl _ _) n1⟩
  · rw [HE.out]; rfl
  · rw [HE.out]; exact HW.out.drewN n1

theorem byte_bit {b k : Nat} (hb : b < 256) {x : Nat} (hx : x < 9223372036854775808) : bits .or .u64 (2 * (x : Int)) (IntKind.u64.wrap (bits .and .u8 ((b : Int) / 2 ^ (7 - k)) 1)) = ((2 * x + (if (b / 2 ^ (7 - k) % 2 == 1) then 1 else 0) : Nat) : Int) := by
  have e1 : (b : Int) / 2 ^ (7 - k) = ((b / 2 ^ (7 - k) : Nat) : Int) := by simp
  have hlt : b / 2 ^ (7 - k) < 256 := Nat.lt_of_le_of_lt (Nat.div_le_self _ _) hb
  have e2 : bits .and .u8 ((b / 2 ^ (7 - k) : Nat) : Int) 1 = ((b / 2 ^ (7 - k) % 2 : Nat) : Int) := by
    generalize b / 2 ^ (7 - k) = y at *
    have := bits_mask .u8 8 (by decide) (fun n h0 h1 => by rw [IntKind.wrap_u8]; omega) 1 (by decide) (y : Int) (by omega) (by omega)
    have h2 : bits .and .u8 (y : Int) 1 = (y : Int) % 2 := this
    rw [h2]; omega
  rw [e1, e2]
  have hy2 : b / 2 ^ (7 - k) % 2 < 2 := Nat.mod_lt _ (by decide)
  have e3 : (2 * (x : Int)) = ((2 * x : Nat) : Int) := by omega
  have e4 : IntKind.u64.wrap ((b / 2 ^ (7 - k) % 2 : Nat) : Int) = ((b / 2 ^ (7 - k) % 2 : Nat) : Int) := by rw [IntKind.wrap_u64]; omega
  rw [e3, e4, u64_or_nat _ _ (by omega) (by omega)]
  rcases (show b / 2 ^ (7 - k) % 2 = 0 ∨ b / 2 ^ (7 - k) % 2 = 1 by omega) with h | h
  · rw [h]; simp
  · rw [h]
    have h3 := Nat.two_pow_add_eq_or_of_lt (i := 1) (b := 1) (by decide) x
    rw [show 2 ^ 1 * x = 2 * x by omega] at h3
    rw [← h3]; simp
set_option maxHeartbeats 4000000 in
set_option maxRecDepth 100000 in
theorem get_ok {base p : Nat} {s : Rd} (n : Nat) (w : World) (h : RdrS base p s w) (hn : n ≤ 64) (hb0 : s.bad = 0) (hle : n ≤ s.rest.length) :
    Calls Try.prog 76 #[.pointer (some ⟨p, 0, none⟩), vi n] w (GetQ base p s n w) := by
  have HW := Lib.hid h
  have HE := Lib.hid (getS_ok hb0 hle)
  have hlt : decide ((leftS s : Int) < n) = false := by simp [leftS, hb0]; exact hle
  have hlt2 : decide (leftS s < n) = false := by simp [leftS, hb0]; exact hle
  obtain ⟨hbp, v, bs, at', hp, ho, hby, hl, hat, hr⟩ := h
  have HP := Lib.hid hp
  have HO := Lib.hid ho
  have HR := Lib.hid hr
  have HBY := Lib.hid hby
  have HB0 := Lib.hid hb0
  have hmin : min (n : Int) 64 = n := by omega
  have hrl : s.rest.length ≤ 8 * bs.length - at' := by rw [← hr]; simp [bitsOf_length]
  clear hp ho hr hby hb0
  go_enter Try.func76, Try.ntmps76
  go_wp2_with (first
    | (go_at_call 62; refine (left_call w HW.out).mono ?_; rintro e w1 ⟨rfl, n1, rfl⟩))
  go_loopw [5, 16] (fun x i wr => ∃ k : Nat, k ≤ n ∧ i = vi k ∧ x = .int .u64 (valL (s.rest.take k) : Nat) ∧ Hid (wr.heap[p]? = some (.cells #[v, vi (at' + k : Nat), vi 0] 126) ∧ w.grownBy wr (some p))) (fun _ i _ => (n : Int).toNat - (intOf i).toNat)
  case atStart =>
    refine ⟨0, Nat.zero_le _, rfl, rfl, Lib.hid ⟨?_, gro_drewN (gro_refl _ _) n1⟩⟩
    show w.heap[p]? = _
    rw [HP.out, HB0.out]; rfl
  case round =>
    obtain ⟨wj, rfl⟩ : ∃ wj : World, wj = wr := ⟨_, rfl⟩
    obtain ⟨k, hk, rfl, rfl, HJ⟩ := hrel
    have ho2 : OwU base wj v bs := Bt.own_frame HO.out (fun g hg => HJ.out.2.block g ((HO.out.lt g hg).2) (fun e => by
      simp only [Option.some.injEq] at e
      subst e
      rcases HO.out.2 with ⟨h1, _⟩ | ⟨g', cap, cur, h1, h2, h3, _⟩
      · rw [h1] at hg; cases hg
      · rw [h1] at hg; simp only [Value.ownBlock, Option.some.injEq] at hg; subst hg; rw [HP.out] at h3; cases h3))
    by_cases hkn : k < n
    · have hkn2 : decide ((k : Int) < n) = true := by simp; exact hkn
      obtain ⟨A, hA⟩ : ∃ A, A = at' + k := ⟨_, rfl⟩
      have HJ1 := HJ.out.1
      have HJ2 := Lib.hid HJ.out.2
      rw [← hA] at HJ1
      have hAl : A < 8 * bs.length := by omega
      have hi : A / 8 < bs.length := by omega
      obtain ⟨b, hb⟩ : ∃ b, bs[(A) / 8]? = some b := ⟨_, List.getElem?_eq_getElem hi⟩
      have hbl : b < 256 := HBY.out b (List.mem_of_getElem? hb)
      have hbit : s.rest[k]? = some (b / 2 ^ (7 - (A) % 8) % 2 == 1) := by rw [← HR.out, List.getElem?_drop, ← hA]; exact bitsOf_at bs _ b hb
      have hv := valL_snoc (s.rest.take k) (b / 2 ^ (7 - (A) % 8) % 2 == 1)
      have htk : s.rest.take (k + 1) = s.rest.take k ++ [b / 2 ^ (7 - (A) % 8) % 2 == 1] := by
        rw [List.take_add_one, hbit]; rfl
      rw [← htk] at hv
      have hvl := valL_lt (s.rest.take k)
      have hvl2 : valL (s.rest.take k) < 9223372036854775808 := by
        refine Nat.lt_of_lt_of_le hvl (Nat.le_trans (Nat.pow_le_pow_right (by decide) (show _ ≤ 63 by rw [List.length_take]; omega)) (by decide))
      obtain ⟨X, hX⟩ : ∃ X, X = valL (s.rest.take k) := ⟨_, rfl⟩
      rw [← hX] at hv hvl2 ⊢
      have hbb := byte_bit (b := b) (k := (A) % 8) hbl (x := X) hvl2
      rw [← hv] at hbb
      have HBB := Lib.hid hbb
      clear hvl hX hv htk hbit hbb
      rcases ho2.2 with ⟨h1, h2⟩ | ⟨g, cap, cur, rfl, hgb, hg, hn2, hm, hs2, ht⟩
      · omega
      have c0 : wj.cell? ⟨p, 0, none⟩ = some (.slice (some ⟨g, 0, none⟩) bs.length cap) := by rw [Bt.cell_of HJ1]; rfl
      have c1 : wj.cell? ⟨p, 1, none⟩ = some (vi (A : Nat)) := by rw [Bt.cell_of HJ1]; rfl
      have c3 : wj.cell? ⟨g, (A) / 8, none⟩ = some (u8 b) := by
        rw [Bt.cell_of hg]
        have h3 : (bs.map u8)[(A) / 8]? = some (u8 b) := by rw [List.getElem?_map, hb]; rfl
        rw [← ht, List.getElem?_take_of_lt (by omega), Array.getElem?_toList] at h3; exact h3
      have f1 : wj.frozen? ⟨p, 1, none⟩ = false := Bt.free_of HJ1 1
      have h7 : bits .and .i64 ((A : Nat) : Int) 7 = (((A) % 8 : Nat) : Int) := and7 _ (by omega)
      have hw1 : IntKind.u64.wrap ((X : Int) * 2) = ((2 * X : Nat) : Int) := by rw [IntKind.wrap_u64]; omega
      have hw2 : IntKind.i64.wrap (((A : Nat) : Int) + 1) = ((A : Nat) : Int) + 1 := IntWalk.i64_in _ (by omega)
      have hi2 : (A : Int) / 8 < bs.length := by omega
      have hi3 : (A : Int) < 8 * bs.length := by omega
      have HHA := Lib.hid hA
      have HJ1' := Lib.hid HJ1
      clear hg hs2 ht hb hA HJ HJ1
      go_wp2_with fail
      go_quiet (fail)
      go_wp2_with fail
      refine ⟨⟨k + 1, by omega, by go_num, by rw [HBB.out], Lib.hid ⟨?_, gro_setP (gro_drewN HJ2.out nq) _⟩⟩, by simp only [intOf]; omega⟩
      have h1 : ((wj.drewN nq).setCell ⟨p, 1, none⟩ (.int .i64 ((A : Int) + 1))).heap[p]? = _ := Bt.cells_set _ HJ1'.out
      refine (show _ = _ from h1).trans ?_
      rw [HHA.out]
      simp; omega
    · have hkn2 : decide ((k : Int) < n) = false := by simp; omega
      have hke : k = n := by omega
      have HKE := Lib.hid hke
      clear hke
      go_wp2_with fail
      go_ret
      refine ⟨?_, ?_, HJ.out.2⟩
      · rw [HE.out, HKE.out]; rfl
      · rw [HE.out]
        refine ⟨hbp, v, bs, at' + k, HJ.out.1, ho2, HBY.out, hl, by omega, ?_⟩
        rw [← HR.out, List.drop_drop, HKE.out]
theorem get_call {base p : Nat} {s : Rd} (n : Nat) (w : World) (h : RdrS base p s w) (hn : n ≤ 64) :
    Calls Try.prog 76 #[.pointer (some ⟨p, 0, none⟩), vi n] w (GetQ base p s n w) := by
  by_cases hl : leftS s < n
  · exact get_bad n w h hn hl
  · by_cases h0 : s.bad = 0
    · exact get_ok n w h hn h0 (by unfold leftS at hl; rw [if_neg (by simp [h0])] at hl; omega)
    · have : n = 0 := by unfold leftS at hl; rw [if_pos h0] at hl; omega
      subst this
      exact get_none w h h0
end Go.Proofs.Ytbadpfcjoobniaa

namespace Go.Proofs.Ytbadpfcjoobniaa
open Go.RowKit

theorem RdrS.badCell {base p : Nat} {s : Rd} {W : World} (h : RdrS base p s W) : W.cell? ⟨p, 2, none⟩ = some (vi s.bad) := by
  obtain ⟨_, v, bs, at', h1, _⟩ := h
  rw [Bt.cell_of h1]; rfl
def Get1Q (base p : Nat) (s : Rd) (n x : Nat) (s' : Rd) (w : World) (e : Ending) (w' : World) : Prop := e = .returned (.int .u64 (x : Nat)) ∧ RdrS base p s' w' ∧ w.grownBy w' (some p)
theorem get_as {base p : Nat} {s : Rd} (n x : Nat) (s' : Rd) (w : World) (h : RdrS base p s w) (hn : n ≤ 64) (he : getS s n = (x, s')) (i : Int) (hi : i = n) :
    Calls Try.prog 76 #[.pointer (some ⟨p, 0, none⟩), .int .i64 i] w (Get1Q base p s n x s' w) := by
  subst hi
  refine (get_call n w h hn).mono ?_
  rintro e w' ⟨h1, h2, h3⟩
  rw [he] at h1 h2
  exact ⟨h1, h2, h3⟩
def NumRQ (base p : Nat) (s : Rd) (w : World) (e : Ending) (w' : World) : Prop := ∃ x s', e = .returned (.int .u64 (x : Nat)) ∧ x < 2 ^ 64 ∧ RdOK numL NumOk s s' x ∧ RdrS base p s' w' ∧ w.grownBy w' (some p)
theorem shl_or {k v : Nat} (hk : k < 64) (hv : v < 2 ^ k) : bits .or .u64 ((2 ^ k : Nat) : Int) (v : Int) = ((2 ^ k + v : Nat) : Int) := by
  have h1 : (2 : Nat) ^ k < 2 ^ 64 := Nat.pow_lt_pow_right (by decide) hk
  rw [u64_or_nat _ _ (by omega) (by omega)]
  have h3 := Nat.two_pow_add_eq_or_of_lt hv 1
  rw [Nat.mul_one] at h3
  rw [h3]
theorem num_val {k X : Nat} (hk : k < 64) (hX : X < 2 ^ k) : IntKind.u64.wrap (bits .or .u64 (IntKind.u64.wrap (2 ^ k)) (X : Int) - 1) = ((2 ^ k + X - 1 : Nat) : Int) := by
  have h1 : (2 : Nat) ^ k ≤ 2 ^ 63 := Nat.pow_le_pow_right (by decide) (by omega)
  have h2 := Nat.two_pow_pos k
  have e : ((2 : Int) ^ k) = ((2 ^ k : Nat) : Int) := by simp
  have e2 : IntKind.u64.wrap ((2 ^ k : Nat) : Int) = ((2 ^ k : Nat) : Int) := by rw [IntKind.wrap_u64]; omega
  rw [e, e2, shl_or hk hX, IntKind.wrap_u64]
  omega
set_option maxHeartbeats 4000000 in
set_option maxRecDepth 100000 in
theorem numR_call {base p : Nat} {s : Rd} (w : World) (h : RdrS base p s w) :
    Calls Try.prog 60 #[.pointer (some ⟨p, 0, none⟩)] w (NumRQ base p s w) := by
  have HW := Lib.hid h
  clear h
  go_enter Try.func60, Try.ntmps60
  go_wp2_with fail
  go_loopw [3] (fun n wr => ∃ k : Nat, k ≤ 64 ∧ n = vi k ∧ Hid (∃ r, (s.bad = 0 ∨ k = 0) ∧ s.rest = List.replicate k false ++ r ∧ RdrS base p ⟨r, s.bad⟩ wr ∧ w.grownBy wr (some p))) (fun n _ => 64 - (intOf n).toNat)
  case atStart => exact ⟨0, by omega, rfl, Lib.hid ⟨s.rest, .inr rfl, rfl, HW.out, gro_refl _ _⟩⟩
  case round =>
    obtain ⟨wj, rfl⟩ : ∃ wj : World, wj = wr := ⟨_, rfl⟩
    obtain ⟨k, hk, rfl, HJ⟩ := hrel
    obtain ⟨r, hor, hre, hS, hG⟩ := HJ.out
    have HRE := Lib.hid hre
    have HS := Lib.hid hS
    have HG := Lib.hid hG
    clear HJ hre hS hG
    by_cases hb : s.bad = 0
    · have HB := Lib.hid hb
      clear hb hor
      cases r with
      | nil =>
        have HGE : Hid (getS ⟨[], s.bad⟩ 1 = (0, ⟨[], 10⟩)) := by rw [getS_short (s := ⟨[], s.bad⟩) HB.out (by simp)]; exact Lib.hid rfl
        go_wp2_with (go_at_call 76; refine (get_as 1 0 ⟨[], 10⟩ wj HS.out (by decide) HGE.out 1 rfl).mono ?_; rintro e1 w1 ⟨rfl, hs1, hg1⟩; have hc1 := hs1.badCell; have HS1 := Lib.hid hs1; have HG1 := Lib.hid hg1; clear hs1 hg1)
        go_ret
        refine ⟨0, ⟨[], 10⟩, rfl, by decide, num_stop (by simp) (fun _ => num_short (k := k) (by rw [HRE.out]; simp)), HS1.out, gro_trans HG.out HG1.out⟩
      | cons b r =>
        cases b with
        | false =>
          have HGE : Hid (getS ⟨false :: r, s.bad⟩ 1 = (0, ⟨r, 0⟩)) := by rw [getS_ok (s := ⟨false :: r, s.bad⟩) HB.out (by simp)]; exact Lib.hid rfl
          have hw1 : IntKind.i64.wrap ((k : Int) + 1) = (k : Int) + 1 := IntWalk.i64_in _ (by omega)
          by_cases hk2 : k = 64
          · have hk3 : decide ((64 : Int) < k + 1) = true := by simp; omega
            have HK := Lib.hid hk2
            clear hk2
            go_wp2_with (first
              | (go_at_call 77; refine (fail_call 11 w1 HS1.out).mono ?_; rintro e2 w2 ⟨rfl, hs2, hg2⟩; have HS2 := Lib.hid hs2; have HG2 := Lib.hid hg2; clear hs2 hg2)
              | (go_at_call 76; refine (get_as 1 0 ⟨r, 0⟩ wj HS.out (by decide) HGE.out 1 rfl).mono ?_; rintro e1 w1 ⟨rfl, hs1, hg1⟩; have hc1 := hs1.badCell; have HS1 := Lib.hid hs1; have HG1 := Lib.hid hg1; clear hs1 hg1))
            go_ret
            refine ⟨0, ⟨r, 11⟩, rfl, by decide, num_stop (by simp) (fun _ => num_form (b := r) (by rw [HRE.out, HK.out]; rfl)), HS2.out, gro_trans (gro_trans HG.out HG1.out) HG2.out⟩
          · have hk3 : decide ((64 : Int) < k + 1) = false := by simp; omega
            have hk4 : k + 1 ≤ 64 := by omega
            clear hk2
            go_wp2_with (first
              | (go_at_call 76; refine (get_as 1 0 ⟨r, 0⟩ wj HS.out (by decide) HGE.out 1 rfl).mono ?_; rintro e1 w1 ⟨rfl, hs1, hg1⟩; have hc1 := hs1.badCell; have HS1 := Lib.hid hs1; have HG1 := Lib.hid hg1; clear hs1 hg1))
            refine ⟨⟨k + 1, hk4, by go_num, Lib.hid ⟨r, .inl HB.out, ?_, ?_, gro_trans HG.out HG1.out⟩⟩, by simp only [intOf]; omega⟩
            · rw [HRE.out, List.replicate_succ', List.append_assoc]; rfl
            · rw [HB.out]; exact HS1.out
        | true =>
          have HGE : Hid (getS ⟨true :: r, s.bad⟩ 1 = (1, ⟨r, 0⟩)) := by rw [getS_ok (s := ⟨true :: r, s.bad⟩) HB.out (by simp)]; exact Lib.hid rfl
          by_cases hk2 : k = 64
          · have HK := Lib.hid hk2
            have hk3 : ((k : Int) == 64) = true := by simp; omega
            clear hk2
            by_cases hl : r.length < 64
            · have HG2E : Hid (getS ⟨r, 0⟩ 64 = (0, ⟨r, 10⟩)) := by rw [getS_short (s := ⟨r, 0⟩) rfl hl]; exact Lib.hid rfl
              go_wp2_with (first
                | (go_at_call 76; refine (get_as 64 0 ⟨r, 10⟩ w1 HS1.out (by omega) HG2E.out 64 rfl).mono ?_; rintro e2 w2 ⟨rfl, hs2, hg2⟩; have hc2 := hs2.badCell; have HS2 := Lib.hid hs2; have HG2 := Lib.hid hg2; clear hs2 hg2)
                | (go_at_call 76; refine (get_as 1 1 ⟨r, 0⟩ wj HS.out (by decide) HGE.out 1 rfl).mono ?_; rintro e1 w1 ⟨rfl, hs1, hg1⟩; have hc1 := hs1.badCell; have HS1 := Lib.hid hs1; have HG1 := Lib.hid hg1; clear hs1 hg1))
              go_ret
              exact ⟨0, ⟨r, 10⟩, rfl, by decide, num_stop (by simp) (fun _ => num_cut (k := k) (r := r) HRE.out (.inl (by rw [HK.out]; exact hl))), HS2.out, gro_trans (gro_trans HG.out HG1.out) HG2.out⟩
            · have hlr : 64 ≤ r.length := by omega
              obtain ⟨X, hX⟩ : ∃ X, X = valL (r.take 64) := ⟨_, rfl⟩
              have HG2E : Hid (getS ⟨r, 0⟩ 64 = (X, ⟨r.drop 64, 0⟩)) := by rw [getS_ok (s := ⟨r, 0⟩) rfl hlr, hX]; exact Lib.hid rfl
              have HX := Lib.hid hX
              clear hX
              by_cases hx0 : X = 0
              · have hx1 : ((X : Int) != 0) = false := by simp [hx0]
                have HX0 := Lib.hid hx0
                clear hx0
                go_wp2_with (first
                  | (go_at_call 76; refine (get_as 64 X ⟨r.drop 64, 0⟩ w1 HS1.out (by omega) HG2E.out 64 rfl).mono ?_; rintro e2 w2 ⟨rfl, hs2, hg2⟩; have hc2 := hs2.badCell; have HS2 := Lib.hid hs2; have HG2 := Lib.hid hg2; clear hs2 hg2)
                  | (go_at_call 76; refine (get_as 1 1 ⟨r, 0⟩ wj HS.out (by decide) HGE.out 1 rfl).mono ?_; rintro e1 w1 ⟨rfl, hs1, hg1⟩; have hc1 := hs1.badCell; have HS1 := Lib.hid hs1; have HG1 := Lib.hid hg1; clear hs1 hg1))
                go_ret
                refine ⟨2 ^ 64 - 1, ⟨r.drop 64, 0⟩, rfl, by decide, ?_, HS2.out, gro_trans (gro_trans HG.out HG1.out) HG2.out⟩
                have hv0 : valL (r.take 64) = 0 := HX.out.symm.trans HX0.out
                refine num_read (k := 64) HB.out (by have := HRE.out; rw [HK.out] at this; exact this) (Nat.le_refl _) hlr (by rw [hv0]; decide) (by rw [hv0])
              · have hx1 : ((X : Int) != 0) = true := by simp; exact hx0
                go_wp2_with (first
                  | (go_at_call 77; refine (fail_call 11 w2 HS2.out).mono ?_; rintro e3 w3 ⟨rfl, hs3, hg3⟩; have HS3 := Lib.hid hs3; have HG3 := Lib.hid hg3; clear hs3 hg3)
                  | (go_at_call 76; refine (get_as 64 X ⟨r.drop 64, 0⟩ w1 HS1.out (by omega) HG2E.out 64 rfl).mono ?_; rintro e2 w2 ⟨rfl, hs2, hg2⟩; have hc2 := hs2.badCell; have HS2 := Lib.hid hs2; have HG2 := Lib.hid hg2; clear hs2 hg2)
                  | (go_at_call 76; refine (get_as 1 1 ⟨r, 0⟩ wj HS.out (by decide) HGE.out 1 rfl).mono ?_; rintro e1 w1 ⟨rfl, hs1, hg1⟩; have hc1 := hs1.badCell; have HS1 := Lib.hid hs1; have HG1 := Lib.hid hg1; clear hs1 hg1))
                go_ret
                exact ⟨0, ⟨r.drop 64, 11⟩, rfl, by decide, num_stop (by simp) (fun _ => num_cut (k := k) (r := r) HRE.out (.inr ⟨HK.out, by rw [← HX.out]; exact hx0⟩)), HS3.out, gro_trans (gro_trans (gro_trans HG.out HG1.out) HG2.out) HG3.out⟩
          · have hk3 : ((k : Int) == 64) = false := by simp; omega
            have hk4 : k < 64 := by omega
            clear hk2
            by_cases hl : r.length < k
            · have HG2E : Hid (getS ⟨r, 0⟩ k = (0, ⟨r, 10⟩)) := by rw [getS_short (s := ⟨r, 0⟩) rfl hl]; exact Lib.hid rfl
              go_wp2_with (first
                | (go_at_call 76; refine (get_as k 0 ⟨r, 10⟩ w1 HS1.out (by omega) HG2E.out k rfl).mono ?_; rintro e2 w2 ⟨rfl, hs2, hg2⟩; have hc2 := hs2.badCell; have HS2 := Lib.hid hs2; have HG2 := Lib.hid hg2; clear hs2 hg2)
                | (go_at_call 76; refine (get_as 1 1 ⟨r, 0⟩ wj HS.out (by decide) HGE.out 1 rfl).mono ?_; rintro e1 w1 ⟨rfl, hs1, hg1⟩; have hc1 := hs1.badCell; have HS1 := Lib.hid hs1; have HG1 := Lib.hid hg1; clear hs1 hg1))
              go_ret
              exact ⟨0, ⟨r, 10⟩, rfl, by decide, num_stop (by simp) (fun _ => num_cut (k := k) (r := r) HRE.out (.inl hl)), HS2.out, gro_trans (gro_trans HG.out HG1.out) HG2.out⟩
            · have HG2E : Hid (getS ⟨r, 0⟩ k = (valL (r.take k), ⟨r.drop k, 0⟩)) := by rw [getS_ok (s := ⟨r, 0⟩) rfl (by simp; omega)]; exact Lib.hid rfl
              have hvl := valL_lt (r.take k)
              have HVL : valL (r.take k) < 2 ^ k := Nat.lt_of_lt_of_le hvl (Nat.pow_le_pow_right (by decide) (by rw [List.length_take]; omega))
              have hpk : 2 ^ k ≤ 2 ^ 63 := Nat.pow_le_pow_right (by decide) (by omega)
              have hpp := Nat.two_pow_pos k
              obtain ⟨X, hX⟩ : ∃ X, X = valL (r.take k) := ⟨_, rfl⟩
              rw [← hX] at HVL HG2E
              have hso := Lib.hid (num_val hk4 HVL)
              have hlr : k ≤ r.length := by omega
              have HX := Lib.hid hX
              clear hX hvl
              go_wp2_with (first
                | (go_at_call 76; refine (get_as k X ⟨r.drop k, 0⟩ w1 HS1.out (by omega) HG2E.out k rfl).mono ?_; rintro e2 w2 ⟨rfl, hs2, hg2⟩; have hc2 := hs2.badCell; have HS2 := Lib.hid hs2; have HG2 := Lib.hid hg2; clear hs2 hg2)
                | (go_at_call 76; refine (get_as 1 1 ⟨r, 0⟩ wj HS.out (by decide) HGE.out 1 rfl).mono ?_; rintro e1 w1 ⟨rfl, hs1, hg1⟩; have hc1 := hs1.badCell; have HS1 := Lib.hid hs1; have HG1 := Lib.hid hg1; clear hs1 hg1))
              go_ret
              refine ⟨2 ^ k + X - 1, ⟨r.drop k, 0⟩, congrArg Ending.returned (congrArg (Value.int IntKind.u64) hso.out), by omega, num_read HB.out HRE.out hk hlr (by rw [← HX.out]; omega) (by rw [← HX.out]), HS2.out, gro_trans (gro_trans HG.out HG1.out) HG2.out⟩
    · have HB := Lib.hid hb
      have hk0 : k = 0 := by rcases hor with h | h; exact absurd h hb; exact h
      have hbb : (s.bad != 0) = true := by simp [hb]
      clear hb hor hk0
      have HGE : Hid (getS ⟨r, s.bad⟩ 1 = (0, ⟨r, s.bad⟩)) := by rw [getS_bad (s := ⟨r, s.bad⟩) HB.out]; exact Lib.hid rfl
      go_wp2_with (go_at_call 76; refine (get_as 1 0 ⟨r, s.bad⟩ wj HS.out (by decide) HGE.out 1 rfl).mono ?_; rintro e1 w1 ⟨rfl, hs1, hg1⟩; have hc1 := hs1.badCell; have HS1 := Lib.hid hs1; have HG1 := Lib.hid hg1; clear hs1 hg1)
      go_ret
      refine ⟨0, ⟨r, s.bad⟩, rfl, by decide, num_stop HB.out (fun h => absurd h HB.out), HS1.out, gro_trans HG.out HG1.out⟩
end Go.Proofs.Ytbadpfcjoobniaa

namespace Go.Proofs.Ytbadpfcjoobniaa
open Go.RowKit

def zag (x : Nat) : Int := if x % 2 = 1 then -((x / 2 : Nat) : Int) - 1 else ((x / 2 : Nat) : Int)
theorem zag_zig (z : Int) : zag (zig z) = z := by unfold zag zig; split <;> split <;> omega
theorem zig_zag (x : Nat) : zig (zag x) = x := by unfold zag zig; split <;> split <;> omega
abbrev IntOk (z : Int) : Prop := -9223372036854775808 ≤ z ∧ z ≤ 9223372036854775807
theorem zag_ok {x : Nat} (h : x < 2 ^ 64) : IntOk (zag x) := by unfold zag IntOk; split <;> omega
theorem int_read {s s' : Rd} {x : Nat} (h : RdOK numL NumOk s s' x) : RdOK intL IntOk s s' (zag x) := by
  refine ⟨fun h0 y t hy e => ?_, fun h0 => ?_⟩
  · obtain ⟨a, b, c⟩ := h.1 h0 (zig y) t (by have := zig_lt hy.1 hy.2; unfold NumOk; omega) e
    exact ⟨by rw [a, zag_zig], b, c⟩
  · obtain ⟨a, b, c⟩ := h.2 h0
    exact ⟨a, zag_ok b, by rw [c]; unfold intL; rw [zig_zag]⟩
theorem i64_xor_all (a : Nat) (h : a < 9223372036854775808) : bits .xor .i64 (a : Int) (-1) = -(a : Int) - 1 := by
  have h1 : BitVec.ofInt 64 (-1) = BitVec.allOnes 64 := by decide
  have h2 : BitVec.ofInt 64 (a : Int) = BitVec.ofNat 64 a := by simp
  show IntKind.i64.wrap (((BitVec.ofInt 64 (a : Int)) ^^^ (BitVec.ofInt 64 (-1))).toNat : Int) = _
  rw [h1, h2, BitVec.xor_allOnes, BitVec.toNat_not, BitVec.toNat_ofNat, Nat.mod_eq_of_lt (by omega), IntKind.wrap_i64]
  omega
theorem i64_xor_none (a : Nat) (h : a < 9223372036854775808) : bits .xor .i64 (a : Int) 0 = (a : Int) := by
  have h1 : BitVec.ofInt 64 0 = 0#64 := by decide
  have h2 : BitVec.ofInt 64 (a : Int) = BitVec.ofNat 64 a := by simp
  show IntKind.i64.wrap (((BitVec.ofInt 64 (a : Int)) ^^^ (BitVec.ofInt 64 0)).toNat : Int) = _
  rw [h1, h2, BitVec.xor_zero, BitVec.toNat_ofNat, Nat.mod_eq_of_lt (by omega), IntKind.wrap_i64]
  omega
theorem zag_bits (x : Nat) (h : x < 2 ^ 64) : bits .xor .i64 ((x : Int) / 2) (wrap64 (-wrap64 (bits .and .u64 (x : Int) 1))) = zag x := by
  have e2 : bits .and .u64 (x : Int) 1 = ((x % 2 : Nat) : Int) := by
    have := u64_and_nat x 1 (by omega) (by decide)
    rw [nat_mask1] at this; exact this
  have e1 : (x : Int) / 2 = ((x / 2 : Nat) : Int) := by omega
  rw [e1, e2, IntWalk.wrap64_in ((x % 2 : Nat) : Int) ⟨by omega, by omega⟩, IntWalk.wrap64_in (-((x % 2 : Nat) : Int)) ⟨by omega, by omega⟩]
  unfold zag
  by_cases hx : x % 2 = 1
  · rw [if_pos hx, hx]; exact i64_xor_all _ (by omega)
  · rw [if_neg hx, show x % 2 = 0 by omega]; exact i64_xor_none _ (by omega)
def IntRQ (base p : Nat) (s : Rd) (w : World) (e : Ending) (w' : World) : Prop := ∃ z s', e = .returned (vi z) ∧ IntOk z ∧ RdOK intL IntOk s s' z ∧ RdrS base p s' w' ∧ w.grownBy w' (some p)
set_option maxHeartbeats 4000000 in
set_option maxRecDepth 100000 in
theorem intR_call {base p : Nat} {s : Rd} (w : World) (h : RdrS base p s w) :
    Calls Try.prog 59 #[.pointer (some ⟨p, 0, none⟩)] w (IntRQ base p s w) := by
  have HW := Lib.hid h
  clear h
  go_enter Try.func59, Try.ntmps59
  go_wp2_with (go_at_call 60; refine (numR_call w HW.out).mono ?_; rintro e1 w1 ⟨x, s1, rfl, hx, hr, hs1, hg1⟩; have HR := Lib.hid hr; have HS1 := Lib.hid hs1; have HG1 := Lib.hid hg1; clear hr hs1 hg1)
  go_ret
  exact ⟨zag x, s1, congrArg Ending.returned (congrArg (Value.int IntKind.i64) (zag_bits x hx)), zag_ok hx, int_read HR.out, HS1.out, HG1.out⟩

set_option maxRecDepth 100000 in
theorem err_call {base p : Nat} {s : Rd} (w : World) (h : RdrS base p s w) :
    Calls Try.prog 61 #[.pointer (some ⟨p, 0, none⟩)] w fun e w' => e = .returned (vi s.bad) ∧ w = w' := by
  have c2 := h.badCell
  clear h
  go_enter Try.func61, Try.ntmps61
  go_wp2_with fail
  go_ret
  exact ⟨rfl, rfl⟩

/-- Nothing is left but noughts up to the end of a byte. -/
def atEnd (s : Rd) : Prop := s.bad = 0 ∧ s.rest.length ≤ 7 ∧ valL s.rest = 0
def EndQ (s : Rd) (w : World) (e : Ending) (w' : World) : Prop := ∃ x : Int, e = .returned (vi x) ∧ (x = 0 ↔ atEnd s) ∧ (s.bad = 0 → x = 0 ∨ x = 12) ∧ (s.bad ≠ 0 → x = s.bad) ∧ ∃ n, w' = w.drewN n
theorem bitsOf_snoc : ∀ (bs : List Nat) (b : Nat), bitsOf (bs ++ [b]) = bitsOf bs ++ putL b 8
  | [], b => by simp [bitsOf]
  | c :: bs, b => by rw [List.cons_append, bitsOf, bitsOf_snoc bs b, bitsOf, List.append_assoc]
theorem putL_drop (x : Nat) : ∀ n k, k ≤ n → (putL x n).drop (n - k) = putL x k
  | 0, k, h => by rw [show k = 0 by omega]; rfl
  | n + 1, k, h => by
    by_cases hk : k = n + 1
    · subst hk; simp
    · rw [show n + 1 - k = (n - k) + 1 by omega, putL, List.drop_succ_cons, putL_drop x n k (by omega)]
theorem last_bits {bs : List Nat} {b at' n : Nat} (h : bs[bs.length - 1]? = some b) (h2 : 8 * bs.length - at' = n) (hn : n ≤ 7) (hn0 : 0 < n) : (bitsOf bs).drop at' = putL b n := by
  have hl : bs.length - 1 < bs.length := (List.getElem?_eq_some_iff.1 h).1
  obtain ⟨cs, hcs⟩ : ∃ cs, bs = cs ++ [b] := ⟨bs.take (bs.length - 1), by
    have := List.take_append_getElem (l := bs) (i := bs.length - 1) hl
    rw [List.getElem?_eq_getElem hl] at h
    rw [Option.some.inj h] at this
    rw [this, show bs.length - 1 + 1 = bs.length by omega, List.take_length]⟩
  subst hcs
  simp only [List.length_append, List.length_cons, List.length_nil] at h2 hl
  rw [bitsOf_snoc, List.drop_append, List.drop_of_length_le (by rw [bitsOf_length]; omega), bitsOf_length, List.nil_append, show at' - 8 * cs.length = 8 - n by omega]
  exact putL_drop b 8 n (by omega)
end Go.Proofs.Ytbadpfcjoobniaa

namespace Go.Proofs.Ytbadpfcjoobniaa
open Go.RowKit

theorem last_and {b n : Nat} (hb : b < 256) (hn : n ≤ 7) : bits .and .u8 (b : Int) ((2 ^ n - 1) % 256) = ((b % 2 ^ n : Nat) : Int) := by
  have h2 : ((2 : Int) ^ n - 1) % 256 = ((2 ^ n - 1 : Nat) : Int) := by
    rcases (show n = 0 ∨ n = 1 ∨ n = 2 ∨ n = 3 ∨ n = 4 ∨ n = 5 ∨ n = 6 ∨ n = 7 by omega) with rfl | rfl | rfl | rfl | rfl | rfl | rfl | rfl <;> decide
  have hp : 2 ^ n ≤ 2 ^ 7 := Nat.pow_le_pow_right (by decide) hn
  rw [h2, u8_and_nat b _ hb (by omega), Nat.and_two_pow_sub_one_eq_mod]
set_option maxHeartbeats 4000000 in
set_option maxRecDepth 100000 in
theorem end_call {base p : Nat} {s : Rd} (w : World) (h : RdrS base p s w) :
    Calls Try.prog 33 #[.pointer (some ⟨p, 0, none⟩)] w (EndQ s w) := by
  have HW := Lib.hid h
  have c2 := h.badCell
  by_cases hb : s.bad = 0
  · have HB := Lib.hid hb
    have hls : leftS s = s.rest.length := by unfold leftS; rw [if_neg (by simp [hb])]
    obtain ⟨n, hn⟩ : ∃ n, n = s.rest.length := ⟨_, rfl⟩
    rw [← hn] at hls
    have HL := Lib.hid hls
    have HN := Lib.hid hn
    have hbb : (s.bad != 0) = false := by simp [hb]
    obtain ⟨hbp, v, bs, at', hp, ho, hby, hl, hat, hr⟩ := h
    have hle : n = 8 * bs.length - at' := by rw [hn, ← hr]; simp [bitsOf_length]
    have HLE := Lib.hid hle
    clear hls hn hb
    by_cases h7 : 7 < n
    · have h71 : decide ((7 : Int) < n) = true := decide_eq_true (by omega)
      clear hp ho hby hr hle
      go_enter Try.func33, Try.ntmps33
      go_wp2_with (go_at_call 62; refine (left_call w HW.out).mono ?_; rintro e w1 ⟨rfl, n1, rfl⟩; rw [HL.out])
      go_quiet (fail)
      go_wp2_with fail
      go_ret
      exact ⟨12, rfl, ⟨fun h => (by cases h), fun h => (by have h1 := h.2.1; have := HN.out; omega)⟩, fun _ => .inr rfl, fun h => absurd HB.out h, _, World.drewN_drewN _ _ _⟩
    · have h71 : decide ((7 : Int) < n) = false := decide_eq_false (by omega)
      by_cases h0 : n = 0
      · have h01 : decide ((0 : Int) < n) = false := decide_eq_false (by omega)
        have h02 : decide (0 < n) = false := decide_eq_false (by omega)
        have HN0 := Lib.hid h0
        clear hp ho hby hr hle h0
        go_enter Try.func33, Try.ntmps33
        go_wp2_with (go_at_call 62; refine (left_call w HW.out).mono ?_; rintro e w1 ⟨rfl, n1, rfl⟩; rw [HL.out])
        go_quiet (fail)
        go_wp2_with fail
        go_ret
        have he : s.rest = [] := List.length_eq_zero_iff.1 (by rw [← HN.out, HN0.out])
        exact ⟨0, rfl, ⟨fun _ => ⟨HB.out, by rw [he]; simp, by rw [he]; rfl⟩, fun _ => rfl⟩, fun _ => .inl rfl, fun h => absurd HB.out h, _, World.drewN_drewN _ _ _⟩
      · have h01 : decide ((0 : Int) < n) = true := decide_eq_true (by omega)
        have h02 : decide (0 < n) = true := decide_eq_true (by omega)
        rcases ho.2 with ⟨hv, h2⟩ | ⟨g, cap, cur, rfl, hgb, hg, hn2, hm, hs2, ht⟩
        · omega
        have hlen : bs.length - 1 < bs.length := by omega
        obtain ⟨b, hbe⟩ : ∃ b, bs[bs.length - 1]? = some b := ⟨_, List.getElem?_eq_getElem hlen⟩
        have hb256 : b < 256 := hby b (List.mem_of_getElem? hbe)
        have hlb := last_bits hbe hle.symm (by omega) (by omega)
        rw [hr] at hlb
        have hval : valL s.rest = b % 2 ^ n := by rw [hlb, valL_putL]
        have c0 : w.cell? ⟨p, 0, none⟩ = some (.slice (some ⟨g, 0, none⟩) bs.length cap) := by rw [Bt.cell_of hp]; rfl
        have c3 : w.cell? ⟨g, bs.length - 1, none⟩ = some (u8 b) := by
          rw [Bt.cell_of hg]
          have h3 : (bs.map u8)[bs.length - 1]? = some (u8 b) := by rw [List.getElem?_map, hbe]; rfl
          rw [← ht, List.getElem?_take_of_lt (by omega), Array.getElem?_toList] at h3; exact h3
        obtain ⟨m, hm2⟩ : ∃ m, bs.length = m + 1 := ⟨bs.length - 1, by omega⟩
        have hla := last_and hb256 (n := n) (by omega)
        obtain ⟨Y, hY⟩ : ∃ Y, Y = b % 2 ^ n := ⟨_, rfl⟩
        rw [← hY] at hla hval
        clear hY
        have H77 := Lib.hid (show n ≤ 7 by omega)
        have HV := Lib.hid hval
        rw [hm2] at c0 c3
        simp only [Nat.add_sub_cancel] at c3
        have hw1 : IntKind.i64.wrap (m : Int) = (m : Int) := IntWalk.i64_in _ (by omega)
        have hw2 : (((m + 1 : Nat) : Int) - 1) = (m : Int) := by omega
        have hi : (m : Int) < ((m + 1 : Nat) : Int) := by omega
        have hi2 : (m : Int) < (m : Int) + 1 := by omega
        clear hp ho hby hr hle h0 hg hs2 ht hbe hlb hval hm2 hat hn2
        by_cases hy : Y = 0
        · have hy1 : ((Y : Int) != 0) = false := by simp [hy]
          have HY := Lib.hid hy
          clear hy
          go_enter Try.func33, Try.ntmps33
          go_wp2_with (go_at_call 62; refine (left_call w HW.out).mono ?_; rintro e w1 ⟨rfl, n1, rfl⟩; rw [HL.out])
          go_quiet (fail)
          go_wp2_with fail
          go_ret
          exact ⟨0, rfl, ⟨fun _ => ⟨HB.out, by rw [← HN.out]; exact H77.out, by rw [HV.out, HY.out]⟩, fun _ => rfl⟩, fun _ => .inl rfl, fun h => absurd HB.out h, _, World.drewN_drewN _ _ _⟩
        · have hy1 : ((Y : Int) != 0) = true := by simp; exact hy
          have HY := Lib.hid hy
          clear hy
          go_enter Try.func33, Try.ntmps33
          go_wp2_with (go_at_call 62; refine (left_call w HW.out).mono ?_; rintro e w1 ⟨rfl, n1, rfl⟩; rw [HL.out])
          go_quiet (fail)
          go_wp2_with fail
          go_ret
          exact ⟨12, rfl, ⟨fun h => (by cases h), fun h => absurd (HV.out.symm.trans h.2.2) HY.out⟩, fun _ => .inr rfl, fun h => absurd HB.out h, _, World.drewN_drewN _ _ _⟩
  · have HB := Lib.hid hb
    have hbb : (s.bad != 0) = true := by simp [hb]
    clear h hb
    go_enter Try.func33, Try.ntmps33
    go_wp2_with fail
    go_ret
    exact ⟨s.bad, rfl, ⟨fun h => absurd h HB.out, fun h => absurd h.1 HB.out⟩, fun h => absurd h HB.out, fun _ => rfl, 0, rfl⟩

/-- The bits of what was written. -/
theorem bitsOf_btBytes (L : List Bool) : ∃ z, z ≤ 7 ∧ bitsOf (btBytes L) = L ++ List.replicate z false := by
  have hlen : (bitsOf (btBytes L)).length = 8 * ((L.length + 7) / 8) := by rw [bitsOf_length, btBytes_length]
  refine ⟨8 * ((L.length + 7) / 8) - L.length, by omega, ?_⟩
  apply List.ext_getElem?
  intro i
  by_cases hi : i < 8 * ((L.length + 7) / 8)
  · have hj : i / 8 < (L.length + 7) / 8 := by omega
    rw [bitsOf_at _ i _ (btBytes_at hj)]
    have hv : (btByte L (i / 8) / 2 ^ (7 - i % 8) % 2 == 1) = (L[i]? == some true) := by
      have h := fun k => btv_le L (8 * (i / 8) + k)
      have e0 : btv L (8 * (i / 8)) ≤ 1 := btv_le _ _
      have e1 := h 1; have e2 := h 2; have e3 := h 3; have e4 := h 4; have e5 := h 5; have e6 := h 6; have e7 := h 7
      have hb : btv L i = btByte L (i / 8) / 2 ^ (7 - i % 8) % 2 := by
        unfold btByte
        rcases (show i % 8 = 0 ∨ i % 8 = 1 ∨ i % 8 = 2 ∨ i % 8 = 3 ∨ i % 8 = 4 ∨ i % 8 = 5 ∨ i % 8 = 6 ∨ i % 8 = 7 by omega) with hk | hk | hk | hk | hk | hk | hk | hk
        · have : i = 8 * (i / 8) := by omega
          rw [hk]; rw [show btv L i = btv L (8 * (i / 8)) by rw [← this]]; simp only [Nat.reducePow, Nat.reduceSub]; omega
        · rw [hk]; rw [show btv L i = btv L (8 * (i / 8) + 1) by congr 1; omega]; simp only [Nat.reducePow, Nat.reduceSub]; omega
        · rw [hk]; rw [show btv L i = btv L (8 * (i / 8) + 2) by congr 1; omega]; simp only [Nat.reducePow, Nat.reduceSub]; omega
        · rw [hk]; rw [show btv L i = btv L (8 * (i / 8) + 3) by congr 1; omega]; simp only [Nat.reducePow, Nat.reduceSub]; omega
        · rw [hk]; rw [show btv L i = btv L (8 * (i / 8) + 4) by congr 1; omega]; simp only [Nat.reducePow, Nat.reduceSub]; omega
        · rw [hk]; rw [show btv L i = btv L (8 * (i / 8) + 5) by congr 1; omega]; simp only [Nat.reducePow, Nat.reduceSub]; omega
        · rw [hk]; rw [show btv L i = btv L (8 * (i / 8) + 6) by congr 1; omega]; simp only [Nat.reducePow, Nat.reduceSub]; omega
        · rw [hk]; rw [show btv L i = btv L (8 * (i / 8) + 7) by congr 1; omega]; simp only [Nat.reducePow, Nat.reduceSub]; omega
      rw [← hb]; unfold btv
      by_cases ht : L[i]? = some true
      · rw [if_pos ht, ht]; rfl
      · rw [if_neg ht, show (L[i]? == some true) = false by simpa using ht]; rfl
    rw [hv]
    by_cases hL : i < L.length
    · rw [List.getElem?_append_left hL, List.getElem?_eq_getElem hL]
      cases L[i] <;> rfl
    · rw [List.getElem?_append_right (by omega), List.getElem?_eq_none (by omega), List.getElem?_replicate, if_pos (by omega)]; rfl
  · rw [List.getElem?_eq_none (by omega), List.getElem?_eq_none (by simp; omega)]
end Go.Proofs.Ytbadpfcjoobniaa

namespace Go.Proofs.Ytbadpfcjoobniaa
open Go.RowKit

theorem eltU8_one : ∀ (bs : List Nat), ∀ u ∈ bs.map u8, u.oneCell' = true := by
  intro bs u hu; simp at hu; obtain ⟨a, _, rfl⟩ := hu; rfl
def BReadQ (bs : List Nat) (w : World) (e : Ending) (w' : World) : Prop :=
  ∃ p, e = .returned (.pointer (some ⟨p, 0, none⟩)) ∧ RdrS w.heap.size p ⟨bitsOf bs, 0⟩ w' ∧ Below w.heap.size w w'
set_option maxRecDepth 100000 in
set_option maxHeartbeats 4000000 in
theorem readB_call {bs : List Nat} {v : Value} (w : World) (h : Src w v 1 bs.length (bs.map u8)) (hb : ∀ b ∈ bs, b < 256) (hl : bs.length ≤ 1048576) :
    Calls Try.prog 29 #[v] w (BReadQ bs w) := by
  have HS := Lib.hid h
  have HB := Lib.hid hb
  have HL := Lib.hid hl
  have hl2 : 0 + bs.length ≤ 68719476736 := by omega
  clear h hb hl
  go_enter Try.func29, Try.ntmps29
  go_wp2_with (refine wpList_append_src rfl (.const (.slice none 0 0)) (.tmp 3) 76 rfl eltU8 w.heap.size 0 [] (World.ownsRow_nil _ _ _ _) rfl bs.length (bs.map u8) HS.out rfl (eltU8_one bs) hl2 (by omega) (Nat.le_refl _) ?_; intro v1 w1 ho1 hg1 _; obtain ⟨a1, c1, rfl⟩ := Bt.own_shape ho1; have HO1 := Lib.hid ho1; have HG1 := Lib.hid hg1; clear ho1 hg1)
  go_ret
  have hbel : Below w.heap.size w w1 := below_grown HG1.out (Nat.le_refl _) (by simp [Value.ownBlock])
  have ho : OwU w.heap.size w1 (.slice a1 bs.length c1) bs := by
    have := HO1.out
    simp only [Nat.zero_add, List.nil_append] at this; exact this
  refine ⟨w1.heap.size, rfl, ⟨hbel.size, .slice a1 bs.length c1, bs, 0, ?_, ?_, HB.out, HL.out, Nat.zero_le _, rfl⟩, hbel.alloc hbel.size _⟩
  · exact Bt.alloc_at _ _
  · exact own_below ho ((Below.refl _ _).alloc (Nat.le_refl _) _)
end Go.Proofs.Ytbadpfcjoobniaa

namespace Go.Proofs.Ytbadpfcjoobniaa

theorem RdOK.seq {α β : Type} {e1 : α → List Bool} {o1 : α → Prop} {e2 : β → List Bool} {o2 : β → Prop} {s s1 s2 : Rd} {x : α} {y : β} (h : RdOK e1 o1 s s1 x) (k : RdOK e2 o2 s1 s2 y) :
    RdOK (fun z : α × β => e1 z.1 ++ e2 z.2) (fun z => o1 z.1 ∧ o2 z.2) s s2 (x, y) := by
  refine ⟨fun h0 z t hz e => ?_, fun h0 => ?_⟩
  · obtain ⟨a, b, c⟩ := h.1 h0 z.1 (e2 z.2 ++ t) hz.1 (by rw [e, List.append_assoc])
    obtain ⟨a', b', c'⟩ := k.1 c z.2 t hz.2 b
    exact ⟨by rw [a, a'], b', c'⟩
  · obtain ⟨a, b, c⟩ := k.2 h0
    obtain ⟨a', b', c'⟩ := h.2 a
    exact ⟨a', ⟨b', b⟩, by rw [c', c, List.append_assoc]⟩
/-- The same reading told of another kind of thing. -/
theorem RdOK.map {α β : Type} {e1 : α → List Bool} {o1 : α → Prop} {e2 : β → List Bool} {o2 : β → Prop} {s s1 : Rd} {x : α} (h : RdOK e1 o1 s s1 x) (f : α → β) (g : β → α) (hg : ∀ y, o2 y → o1 (g y) ∧ e2 y = e1 (g y) ∧ f (g y) = y) (hf : ∀ x, o1 x → o2 (f x) ∧ e2 (f x) = e1 x) : RdOK e2 o2 s s1 (f x) := by
  refine ⟨fun h0 y t hy e => ?_, fun h0 => ?_⟩
  · obtain ⟨p, q, r⟩ := hg y hy
    obtain ⟨a, b, c⟩ := h.1 h0 (g y) t p (by rw [e, q])
    exact ⟨by rw [a, r], b, c⟩
  · obtain ⟨a, b, c⟩ := h.2 h0
    obtain ⟨p, q⟩ := hf x b
    exact ⟨a, p, by rw [q, c]⟩
abbrev LenOk {α : Type} (ok : α → Prop) (n : Nat) (l : List α) : Prop := l.length = n ∧ ∀ x ∈ l, ok x
theorem RdOK.none {α : Type} {enc : α → List Bool} {ok : α → Prop} (s : Rd) : RdOK (fun l : List α => l.flatMap enc) (LenOk ok 0) s s [] := by
  refine ⟨fun h0 y t hy e => ?_, fun h0 => ⟨h0, ⟨rfl, fun x h => by cases h⟩, by simp⟩⟩
  obtain rfl := List.length_eq_zero_iff.1 hy.1
  exact ⟨rfl, by simpa using e, h0⟩
theorem RdOK.snoc {α : Type} {enc : α → List Bool} {ok : α → Prop} {k : Nat} {s s1 s2 : Rd} {l : List α} {x : α} (h : RdOK (fun l : List α => l.flatMap enc) (LenOk ok k) s s1 l) (hx : RdOK enc ok s1 s2 x) :
    RdOK (fun l : List α => l.flatMap enc) (LenOk ok (k + 1)) s s2 (l ++ [x]) := by
  refine ⟨fun h0 y t hy e => ?_, fun h0 => ?_⟩
  · obtain ⟨l', x', rfl⟩ : ∃ l' x', y = l' ++ [x'] := by
      have hne : y ≠ [] := fun e => by have := hy.1; rw [e] at this; cases this
      exact ⟨y.dropLast, y.getLast hne, (List.dropLast_concat_getLast hne).symm⟩
    have hl : l'.length = k := by have := hy.1; simp at this; exact this
    obtain ⟨a, b, c⟩ := h.1 h0 l' (enc x' ++ t) ⟨hl, fun z hz => hy.2 z (by simp [hz])⟩ (by rw [e]; simp)
    obtain ⟨a', b', c'⟩ := hx.1 c x' t (hy.2 x' (by simp)) b
    exact ⟨by rw [a, a'], b', c'⟩
  · obtain ⟨a, b, c⟩ := hx.2 h0
    obtain ⟨a', b', c'⟩ := h.2 a
    refine ⟨a', ⟨by simp [b'.1], fun z hz => ?_⟩, by rw [c', c]; simp⟩
    rcases List.mem_append.1 hz with hz | hz
    · exact b'.2 z hz
    · simp at hz; subst hz; exact b
theorem RdOK.cut {α : Type} {enc : α → List Bool} {ok : α → Prop} {k n : Nat} {s s1 : Rd} {l : List α} (h : RdOK (fun l : List α => l.flatMap enc) (LenOk ok k) s s1 l) (hb : s1.bad ≠ 0) (hk : k ≤ n) :
    RdOK (fun l : List α => l.flatMap enc) (LenOk ok n) s s1 l := by
  refine ⟨fun h0 y t hy e => ?_, fun h0 => absurd h0 hb⟩
  obtain ⟨a, b, c⟩ := h.1 h0 (y.take k) ((y.drop k).flatMap enc ++ t) ⟨by rw [List.length_take, hy.1]; omega, fun z hz => hy.2 z (List.mem_of_mem_take hz)⟩ (by
    rw [e, ← List.append_assoc, ← List.flatMap_append, List.take_append_drop])
  exact absurd c hb
def seqL {α : Type} (enc : α → List Bool) (l : List α) : List Bool := numL l.length ++ l.flatMap enc
abbrev SeqOk {α : Type} (ok : α → Prop) (l : List α) : Prop := l.length < 2 ^ 64 ∧ ∀ x ∈ l, ok x
theorem RdOK.dep {α : Type} {enc : α → List Bool} {ok : α → Prop} {n : Nat} {s s1 s2 : Rd} {l : List α} (h : RdOK numL NumOk s s1 n) (k : RdOK (fun l : List α => l.flatMap enc) (LenOk ok n) s1 s2 l) : RdOK (seqL enc) (SeqOk ok) s s2 l := by
  refine ⟨fun h0 y t hy e => ?_, fun h0 => ?_⟩
  · obtain ⟨a, b, c⟩ := h.1 h0 y.length (y.flatMap enc ++ t) hy.1 (by rw [e, seqL, List.append_assoc])
    exact k.1 c y t ⟨a.symm, hy.2⟩ b
  · obtain ⟨a, b, c⟩ := k.2 h0
    obtain ⟨a', b', c'⟩ := h.2 a
    exact ⟨a', ⟨by rw [b.1]; exact b', b.2⟩, by rw [c', c, seqL, b.1, List.append_assoc]⟩
/-- Nothing is read without a bit, unless it is written in none. -/
theorem RdOK.less {α : Type} {enc : α → List Bool} {ok : α → Prop} {s s1 : Rd} {x : α} (h : RdOK enc ok s s1 x) (h0 : s1.bad = 0) : s.rest.length = (enc x).length + s1.rest.length := by
  rw [(h.2 h0).2.2, List.length_append]
theorem RdOK.was {α : Type} {enc : α → List Bool} {ok : α → Prop} {s s1 : Rd} {x : α} (h : RdOK enc ok s s1 x) (h0 : s.bad ≠ 0) : s1.bad ≠ 0 := fun e => h0 (h.2 e).1
theorem numL_pos {x : Nat} (h : x < 2 ^ 64) : 1 ≤ (numL x).length := by
  obtain ⟨m, tl, _, _, _, _, e⟩ := numL_form h
  rw [e]; simp; omega
end Go.Proofs.Ytbadpfcjoobniaa

namespace Go.Proofs.Ytbadpfcjoobniaa
open Go.RowKit

/-- Bits as a list of noughts and ones. -/
def b01 (L : List Bool) : List Nat := L.map (fun b => if b then 1 else 0)
theorem b01_length (L : List Bool) : (b01 L).length = L.length := by simp [b01]
theorem b01_append (A B : List Bool) : b01 (A ++ B) = b01 A ++ b01 B := by simp [b01]
theorem b01_cons (b : Bool) (B : List Bool) : b01 (b :: B) = (if b then 1 else 0) :: b01 B := by simp [b01]
theorem u8_one (bs : List Nat) : ∀ u ∈ bs.map u8, u.oneCell' = true := by
  intro u hu; simp at hu; obtain ⟨a, _, rfl⟩ := hu; rfl
/-- A row of bits that the call owns. -/
def Ow01 (base : Nat) (w : World) (v : Value) (L : List Bool) : Prop := w.ownsRow base 5 1 v L.length ((b01 L).map u8)
def O01Q (L : List Bool) (w : World) (e : Ending) (w' : World) : Prop := ∃ v, e = .returned v ∧ Ow01 w.heap.size w' v L ∧ Below w.heap.size w w'
theorem own_lit {base : Nat} (w : World) (z : Value) (hb : base ≤ w.heap.size) : (w.alloc (.cells #[z] 5)).ownsRow base 5 1 (.slice (some ⟨w.heap.size, 0, none⟩) 1 1) 1 [z] :=
  ⟨rfl, .inr ⟨w.heap.size, 1, #[z], rfl, hb, Bt.alloc_at _ _, Nat.le_refl _, by decide, rfl, rfl⟩⟩
set_option maxRecDepth 100000 in
set_option maxHeartbeats 4000000 in
theorem refPut_call (x n : Nat) (w : World) (hx : x < 18446744073709551616) (hn : n ≤ 64) :
    Calls Try.prog 58 #[.int .u64 x, .int .i64 n] w (O01Q (putL x n) w) := by
  have h64 : decide ((64 : Int) < n) = false := decide_eq_false (by omega)
  go_enter Try.func58, Try.ntmps58
  go_wp2_with fail
  go_loopw [0, 5, 6] (fun y v i wr => ∃ (k : Nat) (z : Nat), k ≤ n ∧ i = vi k ∧ z < 18446744073709551616 ∧ y = .int .u64 (z : Nat) ∧ Hid (z = x / 2 ^ k ∧ Ow01 w.heap.size wr v (putL x k) ∧ Below w.heap.size w wr)) (fun _ _ i _ => (n : Int).toNat - (intOf i).toNat)
  case atStart =>
    refine ⟨0, x, Nat.zero_le _, rfl, hx, rfl, Lib.hid ⟨by simp, ?_, ?_⟩⟩
    · exact ⟨rfl, .inr ⟨w.heap.size, 0, #[], rfl, Nat.le_refl _, Bt.alloc_at _ _, Nat.le_refl _, by decide, rfl, rfl⟩⟩
    · exact (Below.refl _ _).alloc (Nat.le_refl _) _
  case round =>
    obtain ⟨wj, rfl⟩ : ∃ wj : World, wj = wr := ⟨_, rfl⟩
    obtain ⟨k, z, hk, rfl, hz, rfl, HJ⟩ := hrel
    by_cases hkn : k < n
    · have hkn2 : decide ((k : Int) < n) = true := decide_eq_true (by omega)
      have hw1 : IntKind.i64.wrap ((k : Int) + 1) = (k : Int) + 1 := IntWalk.i64_in _ (by omega)
      have hbw := HJ.out.2.2.size
      have hw2 : IntKind.u8.wrap ((z : Int) % 2) = ((z % 2 : Nat) : Int) := by rw [IntKind.wrap_u8]; omega
      have hk2 : 1 + (putL x k).length ≤ 68719476736 := by rw [putL_length]; omega
      have hrow := HJ.out.2.1
      obtain ⟨a, c, rfl⟩ := Bt.own_shape hrow
      rw [putL_length] at hk2 ⊢
      have hrow2 : wj.ownsRow w.heap.size 5 1 (.slice a (putL x k).length c) k ((b01 (putL x k)).map u8) := by unfold Ow01 at hrow; rw [putL_length] at hrow ⊢; exact hrow
      clear hrow
      rw [putL_length] at hrow2
      have HROW := Lib.hid hrow2
      have HSRC := fun o => Lib.hid ((own_src hrow2).below ((Below.refl wj.heap.size wj).alloc (Nat.le_refl _) o))
      clear hrow2
      go_wp2_with (refine wpList_append_src rfl (.tmp 18) (.tmp 19) 76 rfl eltU8 w.heap.size 1 _ (own_lit wj _ hbw) rfl k _ (HSRC _).out rfl (u8_one _) hk2 (by omega) (by simp; omega) ?_; intro v1 w1 ho1 hg1 _; have HO1 := Lib.hid ho1; have HG1 := Lib.hid hg1; clear ho1 hg1)
      refine ⟨⟨k + 1, z / 2, by omega, by go_num, by omega, by go_num, Lib.hid ⟨?_, ?_, ?_⟩⟩, by simp only [intOf]; omega⟩
      · rw [HJ.out.1, Nat.div_div_eq_div_mul, Nat.pow_succ]
      · have h1 := HO1.out
        unfold Ow01
        rw [putL_length, putL, b01_cons, List.map_cons, Nat.add_comm k 1, ← HJ.out.1]
        have h2 : (u8 (if (z % 2 == 1) = true then 1 else 0)) = Value.int IntKind.u8 ((z : Int) % 2) := by
          rcases (show z % 2 = 0 ∨ z % 2 = 1 by omega) with h | h
          · rw [h, show ((z : Int) % 2) = 0 by omega]; rfl
          · rw [h, show ((z : Int) % 2) = 1 by omega]; rfl
        rw [h2]; exact h1
      · exact HJ.out.2.2.trans (((Below.refl _ _).alloc hbw _).trans (below_grown HG1.out (by simp; omega) (fun j hj => by simp [Value.ownBlock] at hj; omega)))
    · have hkn2 : decide ((k : Int) < n) = false := decide_eq_false (by omega)
      have hke := Lib.hid (show k = n by omega)
      go_wp2_with fail
      go_ret
      exact ⟨_, rfl, by rw [← hke.out]; exact HJ.out.2.1, HJ.out.2.2⟩
end Go.Proofs.Ytbadpfcjoobniaa

namespace Go.Proofs.Ytbadpfcjoobniaa
open Go.RowKit

theorem zeroCells_u8 (k : Nat) : (Builtin.zeroCells (Value.int .u8 0).cells k).toList = List.replicate k (u8 0) := by
  unfold Builtin.zeroCells
  apply List.ext_getElem?
  intro j
  simp only [Array.toList_map, Array.toList_range, List.getElem?_map]
  have hs : (Value.int .u8 0).cells.size = 1 := rfl
  rw [hs, Nat.mul_one]
  by_cases h : j < k
  · rw [List.getElem?_range h, List.getElem?_replicate, if_pos h, Option.map_some, Nat.mod_one]; rfl
  · rw [List.getElem?_eq_none (by simp; omega), List.getElem?_eq_none (by simp; omega)]; rfl
theorem run_append_zeros {base : Nat} (w : World) (ty : TypeId) (g n cap k : Nat) (xs : List Value) (h : w.ownsRow base 5 1 (.slice (some ⟨g, 0, none⟩) n cap) n xs) (h0 : 0 < k) (hk : k ≤ 1048576) (hn : n ≤ 1048576) (hbase : base ≤ w.heap.size) :
    ∃ v' w', (Builtin.append_ #[76, 3] ty #[.slice (some ⟨g, 0, none⟩) n cap, .int .i64 (k : Nat)]).run Try.prog w = .ok v' w' ∧ Hid (w'.ownsRow base 5 1 v' (n + k) (xs ++ List.replicate k (u8 0)) ∧ w.grownBy w' (some g)) := by
  obtain ⟨i, hi, h2⟩ := Option.map_eq_some_iff.1 Try.infoU8
  simp only [Prod.mk.injEq] at h2
  obtain ⟨hz, hs, hb⟩ := h2
  have ht := Try.underlying76
  have hlen : (xs ++ List.replicate k (u8 0)).length = (n + k) * 1 := by rw [List.length_append, h.1, List.length_replicate]; omega
  rcases h.2 with ⟨hv, _⟩ | ⟨g', cap', cur, hv, hbg, hg, hnc, hcm, hcs, htake⟩
  · cases hv
  cases hv
  by_cases hroom : n + k ≤ cap
  · have hfit : n * 1 + (List.replicate k (u8 0)).length ≤ cur.size := by rw [hcs, List.length_replicate]; omega
    have hst := run_storeCells_at Try.prog g (n * 1) 5 (List.replicate k (u8 0)) 0 cur w hg (by simpa using hfit) (by intro u hu; rw [List.eq_of_mem_replicate hu]; rfl)
    have hkz : k ≠ 0 := by omega
    have hw : IntKind.i64.wrap (k : Int) = k := by rw [IntKind.wrap_i64]; omega
    have hneg : ¬ ((k : Int) < 0) := by omega
    have h48i : ¬ (281474976710656 < (k : Int)) := by omega
    simp only [Nat.add_zero, Nat.mul_one] at hst
    refine ⟨_, _, ?_, Lib.hid ⟨⟨hlen, .inr ⟨g, cap, (cur.toList.take n ++ List.replicate k (u8 0) ++ cur.toList.drop (n + k)).toArray, rfl, hbg, setRow_heap w g cur _ _ _ hg, hroom, hcm, ?_, ?_⟩⟩, ⟨rfl, rfl, rfl, by simp, fun j hj hne => setRow_other w g j _ (fun e => hne (by rw [e]))⟩⟩⟩
    · have hzc := zeroCells_u8 k
      simp [Builtin.append_, run_underlying ht, run_underlying Try.underlying3, sizeOf, typeInfo, zeroValue, hi, hz, hs, hb, asInt, asIntOf, hw, hneg, h48i, hkz, hroom, Addr.add_lit, hzc, hst]
    · simp only [List.size_toArray, List.length_append, List.length_take, List.length_drop, Array.length_toList, List.length_replicate]
      omega
    · have : cur.toList.take n = xs := by rw [← htake, Nat.mul_one]
      rw [this, ← hlen]; exact List.take_left
  · have hold := run_firstCells_some (P := Try.prog) w.drew 1 n ⟨g, 0, none⟩ n cap xs h.1 (fun j u hu => h.cells (g := g) rfl j u hu)
    have hold2 : (Builtin.firstCells i.size n (.slice (some ⟨g, 0, none⟩) n cap)).run Try.prog w.drew = .ok xs.toArray w.drew := by rw [hs]; exact hold
    have hnx : Builtin.nextslicecap (n + k) cap * i.bytes ≤ 281474976710656 := growslice_fits (by omega) (by rw [hb]; omega)
    have hr := Lib.run_append_grow_zeros (P := Try.prog) w 76 3 ty 5 i (.int .u8 0) .i64 .i64 ht Try.underlying3 hi hz (some ⟨g, 0, none⟩) n cap xs hold2 k h0 (by omega) (by omega) (by omega) (by rw [hb]; omega) hnx
    refine ⟨_, _, hr, Lib.hid ⟨⟨hlen, .inr ⟨w.heap.size, _, _, rfl, hbase, heap_alloc_new w.drew _, grownCap_ge w _ _ _, grownCap_le_maxLen w _ _ _ (by unfold maxLen; omega), ?_, ?_⟩⟩, ⟨rfl, rfl, rfl, by simp, fun j hj _ => heap_alloc_old w.drew _ hj⟩⟩⟩
    · have hge := grownCap_ge w (n + k) cap 5
      have e1 : xs.length = n := by rw [h.1]; omega
      simp only [Array.size_append, List.size_toArray, size_zeroCells, e1]
      have e2 : (Value.int IntKind.u8 0).cells.size = 1 := rfl
      rw [e2]; omega
    · simp only [Array.toList_append, zeroCells_u8, List.append_assoc]
      rw [← List.append_assoc, ← hlen]
      exact List.take_left
end Go.Proofs.Ytbadpfcjoobniaa

namespace Go.Proofs.Ytbadpfcjoobniaa
open Go.RowKit

theorem b01_falses (n : Nat) : (b01 (List.replicate n false)).map u8 = List.replicate n (u8 0) := by simp [b01]
theorem b01_zeros (n : Nat) : (b01 (putL 0 n)).map u8 = List.replicate n (u8 0) := by rw [putL_zero]; exact b01_falses n
theorem own_zeros {base : Nat} (w : World) (n : Nat) (hb : base ≤ w.heap.size) (hn : n ≤ 1048576) : (w.alloc (.cells (Array.replicate n (u8 0)) 5)).ownsRow base 5 1 (.slice (some ⟨w.heap.size, 0, none⟩) n n) n (List.replicate n (u8 0)) :=
  ⟨by simp, .inr ⟨w.heap.size, n, Array.replicate n (u8 0), rfl, hb, Bt.alloc_at _ _, Nat.le_refl _, by unfold maxLen; omega, by simp, by simp⟩⟩
set_option maxRecDepth 100000 in
set_option maxHeartbeats 4000000 in
theorem refNum_big (w : World) :
    Calls Try.prog 27 #[.int .u64 18446744073709551615] w (O01Q (numL 18446744073709551615) w) := by
  go_enter Try.func27, Try.ntmps27
  have hmk : ∀ w : World, (Instr.makeSlice 76 (.int .i64 64) (.int .i64 64)).run Try.prog w = .ok (.slice (some ⟨w.heap.size, 0, none⟩) 64 64) (w.alloc (.cells (Array.replicate 64 (u8 0)) 5)) := fun w => run_makeBytes w 64 (by decide)
  have hrow := fun (o : Obj) => Lib.hid ((own_zeros (base := w.heap.size) w 64 (Nat.le_refl _) (by decide)).alloc o)
  go_wp2_with (first
    | (refine wpList_append_src rfl (.tmp 7) (.tmp 8) 76 rfl eltU8 w.heap.size 64 _ (hrow _).out rfl 1 [u8 1] (src_new (cs := #[u8 1]) rfl (by simp)) rfl (by intro u hu; simp at hu; subst hu; rfl) (by omega) (by omega) (by simp; omega) ?_; intro v1 w1 ho1 hg1 _; obtain ⟨g1, c1, rfl⟩ := Bt.own_some ho1 (by omega); have HO1 := Lib.hid ho1; have HG1 := Lib.hid hg1; obtain ⟨v2, w2, hr2, H2⟩ := run_append_zeros (base := w.heap.size) w1 76 g1 65 c1 64 _ ho1 (by omega) (by omega) (by omega) (by have := hg1.size; simp at this; omega); have HR2 := Lib.hid hr2; clear ho1 hg1 hr2)
    | (at_builtin; refine Lib.wpList_append_run _ rfl _ _ _ _ rfl _ _ rfl rfl _ _ HR2.out ?_))
  go_ret
  obtain ⟨h2, g2⟩ := H2.out
  have hs1 := HG1.out.size
  simp at hs1
  refine ⟨_, rfl, ?_, ?_⟩
  · unfold Ow01
    have e : numL 18446744073709551615 = putL 0 64 ++ putL 1 1 ++ putL 0 64 := by unfold numL; rw [if_pos rfl]
    rw [e, b01_append, b01_append, List.map_append, List.map_append, b01_zeros, List.length_append, List.length_append, putL_length, putL_length]
    exact h2
  · refine ((((Below.refl _ _).alloc (Nat.le_refl _) _).alloc (by simp) _).trans (below_grown HG1.out (by simp; omega) (fun j hj => by simp [Value.ownBlock] at hj; omega))).trans ?_
    refine (Below.refl _ _).grown g2 (by omega) (fun j hj => ?_)
    rcases HO1.out.2 with ⟨h, _⟩ | ⟨g', cap, cur, h, hg, _⟩
    · cases h
    · cases h; simp at hj; omega
set_option maxRecDepth 100000 in
set_option maxHeartbeats 4000000 in
theorem refNum_small (x : Nat) (w : World) (hx : x < 18446744073709551615) :
    Calls Try.prog 27 #[.int .u64 x] w (O01Q (numL x) w) := by
  have hb1 : ((x : Int) == 18446744073709551615) = false := by simp; omega
  have hlt : x + 1 < 18446744073709551616 := by omega
  have hw1 : IntKind.u64.wrap ((x : Int) + 1) = (x : Int) + 1 := by rw [IntKind.wrap_u64]; omega
  have hle := Lib.bitLen_le (x + 1) 64 (by decide) hlt
  have hp := bitLen_pos (x := x + 1) (by omega) hlt
  have HN := Lib.hid (show numL x = putL 0 (Lib.bitLen (x + 1) - 1) ++ putL (x + 1) (Lib.bitLen (x + 1)) by unfold numL; rw [if_neg (by omega)])
  go_enter Try.func27, Try.ntmps27
  go_wp2_with fail
  go_loop [3, 4] (fun n y => ∃ (k z : Nat), n = vi k ∧ y = .int .u64 (z : Nat) ∧ z < 18446744073709551616 ∧ k ≤ 64 ∧ Hid (Lib.bitLen (x + 1) = k + Lib.bitLen z)) (fun _ y => (intOf y).toNat)
  case atStart => exact ⟨0, x + 1, rfl, by go_num, hlt, by omega, Lib.hid (by omega)⟩
  case round =>
    obtain ⟨k, z, rfl, rfl, hz, hk, HB⟩ := hrel
    by_cases h0 : z = 0
    · have h01 : decide ((0 : Int) < z) = false := decide_eq_false (by omega)
      have h02 : decide (0 < z) = false := decide_eq_false (by omega)
      have hkb : Lib.bitLen (x + 1) = k := by
        have h2 : Lib.bitLen 0 = 0 := by decide
        rw [HB.out, h0, h2]; rfl
      obtain ⟨m, rfl⟩ : ∃ m, k = m + 1 := ⟨k - 1, by omega⟩
      have HK := Lib.hid hkb
      have hw2 : IntKind.i64.wrap (m : Int) = (m : Int) := IntWalk.i64_in _ (by omega)
      have hm0 : (0 : Int) ≤ m := by omega
      have hm1 : (m : Int) ≤ 1048576 := by omega
      have hmk : ∀ w : World, (Instr.makeSlice 76 (.int .i64 (m : Int)) (.int .i64 (m : Int))).run Try.prog w = .ok (.slice (some ⟨w.heap.size, 0, none⟩) m m) (w.alloc (.cells (Array.replicate m (u8 0)) 5)) := fun w => run_makeBytes w m (by omega)
      clear hkb h0 hle hp HB
      have hmm : m ≤ 1048576 := by omega
      have hm64 : m + 1 ≤ 64 := by omega
      have hln := putL_length (x + 1) (m + 1)
      have HLN := Lib.hid hln
      clear hln
      go_wp2_with fail
      go_region_law (first
        | (go_simp; go_at_call 58; refine (refPut_call (x + 1) (m + 1) _ hlt hm64).mono ?_; rintro e2 w2 ⟨v2, rfl, ho2, hb2⟩; have hs2 : w.heap.size ≤ w2.heap.size := Nat.le_trans (by simp) hb2.size; have hs3 := hb2.size; unfold Ow01 at ho2; rw [HLN.out] at ho2; obtain ⟨a2, c2, rfl⟩ := Bt.own_shape ho2; have HO2 := Lib.hid ho2; have HB2 := Lib.hid hb2; clear ho2 hb2)
        | (refine step_append_src rfl _ _ 76 rfl eltU8 w.heap.size m _ (own_below (w := (w.alloc (.cells (Array.replicate m (u8 0)) 5)).drew) (own_zeros (base := w.heap.size) w m (Nat.le_refl _) hmm) HB2.out) rfl (m + 1) _ (own_src HO2.out) rfl (u8_one _) (by omega) (by omega) (by simp at hs3; omega) ?_; intro v3 w3 ho3 hg3 _; have HO3 := Lib.hid ho3; have HB3 := Lib.hid (show Below w.heap.size w w3 from (((Below.refl w.heap.size w).alloc (Nat.le_refl _) (.cells (Array.replicate m (u8 0)) 5)).drew).trans ((HB2.out.mono (by simp)).trans (below_grown hg3 (by simp at hs3; omega) (fun j hj => by simp [Value.ownBlock] at hj; omega)))); clear ho3 hg3)
        | (refine step_append_src rfl _ _ 76 rfl eltU8 w.heap.size m _ (own_zeros (base := w.heap.size) w2 m hs2 hmm) rfl (m + 1) _ (own_src (HO2.out.alloc _)) rfl (u8_one _) (by omega) (by omega) (by simp; omega) ?_; intro v3 w3 ho3 hg3 _; have HO3 := Lib.hid ho3; have HB3 := Lib.hid (show Below w.heap.size w w3 from ((((Below.refl w.heap.size w).drew).trans HB2.out).alloc hs2 _).trans (below_grown hg3 (by simp; omega) (fun j hj => by simp [Value.ownBlock] at hj; omega))); clear ho3 hg3))
      all_goals
        go_wp2
        go_ret
        refine ⟨_, rfl, ?_, HB3.out⟩
        unfold Ow01
        rw [HN.out, HK.out, Nat.add_sub_cancel, b01_append, List.map_append, b01_zeros, List.length_append, putL_length, putL_length]
        exact HO3.out
    · have h01 : decide ((0 : Int) < z) = true := decide_eq_true (by omega)
      have h02 : decide (0 < z) = true := decide_eq_true (by omega)
      have hh := Lib.bitLen_half z h0 hz
      have hk2 : k + 1 ≤ 64 := by have := HB.out; omega
      have HH := Lib.hid hh
      have hw2 : IntKind.i64.wrap ((k : Int) + 1) = (k : Int) + 1 := IntWalk.i64_in _ (by omega)
      clear hh
      go_wp2_with fail
      exact ⟨⟨k + 1, z / 2, by go_num, by go_num, by omega, hk2, Lib.hid (by rw [HB.out, HH.out]; omega)⟩, by simp only [intOf]; omega⟩
end Go.Proofs.Ytbadpfcjoobniaa

namespace Go.Proofs.Ytbadpfcjoobniaa
open Go.RowKit

theorem refNum_call (x : Nat) (i : Int) (hi : i = x) (w : World) (hx : x < 18446744073709551616) :
    Calls Try.prog 27 #[.int .u64 i] w (O01Q (numL x) w) := by
  subst hi
  by_cases h : x = 18446744073709551615
  · subst h; exact refNum_big w
  · exact refNum_small x w (by omega)
set_option maxRecDepth 100000 in
set_option maxHeartbeats 4000000 in
theorem refInt_call (z : Int) (w : World) (h : IntOk z) :
    Calls Try.prog 26 #[.int .i64 z] w (O01Q (intL z) w) := by
  have hlt := zig_lt h.1 h.2
  obtain ⟨h1, h2⟩ := h
  by_cases hz : z < 0
  · have hb : decide (z < 0) = true := decide_eq_true hz
    have he : (zig z : Int) = -(z + 1) * 2 + 1 := by unfold zig; rw [if_pos hz]; omega
    have hw1 : IntKind.i64.wrap (z + 1) = z + 1 := IntWalk.i64_in _ (by omega)
    have hw2 : IntKind.i64.wrap (-(z + 1)) = -(z + 1) := IntWalk.i64_in _ (by omega)
    have hw3 : IntKind.u64.wrap (-(z + 1)) = -(z + 1) := by rw [IntKind.wrap_u64]; omega
    have hw4 : IntKind.u64.wrap (-(z + 1) * 2) = -(z + 1) * 2 := by rw [IntKind.wrap_u64]; omega
    have hw5 : IntKind.u64.wrap (-(z + 1) * 2 + 1) = -(z + 1) * 2 + 1 := by rw [IntKind.wrap_u64]; omega
    have HE := Lib.hid he
    clear he
    go_enter Try.func26, Try.ntmps26
    go_wp2_with (go_at_call 27; refine (refNum_call (zig z) _ (by rw [HE.out]) w hlt).mono ?_; rintro e1 w1 ⟨v1, rfl, ho1, hb1⟩)
    go_ret
    exact ⟨_, rfl, ho1, hb1⟩
  · have hb : decide (z < 0) = false := decide_eq_false hz
    have he : (zig z : Int) = z * 2 := by unfold zig; rw [if_neg hz]; omega
    have hw3 : IntKind.u64.wrap z = z := by rw [IntKind.wrap_u64]; omega
    have hw4 : IntKind.u64.wrap (z * 2) = z * 2 := by rw [IntKind.wrap_u64]; omega
    have HE := Lib.hid he
    clear he
    go_enter Try.func26, Try.ntmps26
    go_wp2_with (go_at_call 27; refine (refNum_call (zig z) _ (by rw [HE.out]) w hlt).mono ?_; rintro e1 w1 ⟨v1, rfl, ho1, hb1⟩)
    go_ret
    exact ⟨_, rfl, ho1, hb1⟩

/-- Rows of bytes as a string. -/
theorem conv_u8 {w : World} {v : Value} {bs : List Nat} (h : Src w v 1 bs.length (bs.map u8)) (hb : ∀ b ∈ bs, b < 256) : ∃ a c, v = .slice a bs.length c ∧ (convert 76 9 (.slice a bs.length c)).run Try.prog w = .ok (.string ⟨(bs.map UInt8.ofNat).toArray⟩) w := by
  obtain ⟨a, c, rfl, hl, hn, hs⟩ := h
  refine ⟨a, c, rfl, ?_⟩
  cases a with
  | none =>
    obtain ⟨h0, rfl⟩ := hn rfl
    obtain rfl := List.length_eq_zero_iff.1 h0
    show (convert 76 9 (.slice none 0 0)).run Try.prog w = _
    rw [run_convert_bytes_string w 76 9 5 none 0 0 Try.underlying76 Try.underlying5 Try.underlying9]
    rfl
  | some ad =>
    have hr := run_convert_bytes_back (P := Try.prog) w 76 9 5 ad c (bs.map UInt8.ofNat) Try.underlying76 Try.underlying5 Try.underlying9 (fun j hj => by
      rw [List.length_map] at hj
      have h1 : (bs.map u8)[j]? = some (u8 bs[j]) := by rw [List.getElem?_map, List.getElem?_eq_getElem hj]; rfl
      have h2 := hs ad rfl j _ h1
      rw [h2, List.getElem_map]
      have h3 := hb bs[j] (List.getElem_mem _)
      have h4 : (UInt8.ofNat bs[j]).toNat = bs[j] := by rw [UInt8.toNat_ofNat']; omega
      rw [h4])
    rw [List.length_map] at hr
    exact hr
theorem u8s_inj {a b : List Nat} (ha : ∀ x ∈ a, x < 256) (hb : ∀ x ∈ b, x < 256) : (a.map UInt8.ofNat == b.map UInt8.ofNat) = (a == b) := by
  have key : ∀ a b : List Nat, (∀ x ∈ a, x < 256) → (∀ x ∈ b, x < 256) → a.map UInt8.ofNat = b.map UInt8.ofNat → a = b := by
    intro a
    induction a with
    | nil => intro b _ _ h; cases b; rfl; cases h
    | cons x a ih =>
      intro b ha hb h
      cases b with
      | nil => cases h
      | cons y b =>
        simp only [List.map_cons, List.cons.injEq] at h
        have h1 := congrArg UInt8.toNat h.1
        rw [UInt8.toNat_ofNat', UInt8.toNat_ofNat'] at h1
        have := ha x (by simp); have := hb y (by simp)
        rw [show x = y by omega, ih b (fun z hz => ha z (by simp [hz])) (fun z hz => hb z (by simp [hz])) h.2]
  rw [Bool.eq_iff_iff]
  simp only [beq_iff_eq]
  exact ⟨key a b ha hb, fun h => by rw [h]⟩
set_option maxRecDepth 100000 in
set_option maxHeartbeats 4000000 in
theorem sameB_call {v v' : Value} {a b : List Nat} (w : World) (h : Src w v 1 a.length (a.map u8)) (h' : Src w v' 1 b.length (b.map u8)) (ha : ∀ x ∈ a, x < 256) (hb : ∀ x ∈ b, x < 256) :
    Calls Try.prog 31 #[v, v'] w fun e w' => e = .returned (.bool (a == b)) ∧ w = w' := by
  obtain ⟨p, c, rfl, hr⟩ := conv_u8 h ha
  obtain ⟨p', c', rfl, hr'⟩ := conv_u8 h' hb
  have HE := Lib.hid (show ((ByteArray.mk (a.map UInt8.ofNat).toArray).toList == (ByteArray.mk (b.map UInt8.ofNat).toArray).toList) = (a == b) by
    have e : ∀ l : List UInt8, (ByteArray.mk l.toArray).toList = l := fun l => by rw [Go.ByteArray.toList_eq]
    rw [e, e]; exact u8s_inj ha hb)
  have HE2 := Lib.hid (u8s_inj ha hb)
  clear h h' ha hb
  obtain ⟨A, hA⟩ : ∃ A, A = a.map UInt8.ofNat := ⟨_, rfl⟩
  obtain ⟨B, hB⟩ : ∃ B, B = b.map UInt8.ofNat := ⟨_, rfl⟩
  rw [← hA] at hr HE HE2
  rw [← hB] at hr' HE HE2
  clear hA hB
  go_enter Try.func31, Try.ntmps31
  go_wp2_with fail
  go_ret
  exact ⟨by first | (rw [← HE.out]; rfl) | (simp; exact HE.out) | (simp; exact HE2.out), rfl⟩
end Go.Proofs.Ytbadpfcjoobniaa

namespace Go.Proofs.Ytbadpfcjoobniaa
open Go.RowKit

/-- The first k bits of byte j. -/
def accB (L : List Bool) (j : Nat) : Nat → Nat
  | 0 => 0
  | k + 1 => 2 * accB L j k + btv L (8 * j + k)
theorem accB_lt (L : List Bool) (j : Nat) : ∀ k, accB L j k < 2 ^ k
  | 0 => by simp [accB]
  | k + 1 => by have := accB_lt L j k; have := btv_le L (8 * j + k); rw [accB, Nat.pow_succ]; omega
theorem accB_8 (L : List Bool) (j : Nat) : accB L j 8 = btByte L j := by
  unfold btByte; simp only [accB, Nat.add_zero]; omega
theorem b01_at {L : List Bool} {i : Nat} (h : i < L.length) : (b01 L)[i]? = some (btv L i) := by
  unfold b01 btv
  rw [List.getElem?_map, List.getElem?_eq_getElem h]
  cases L[i] <;> rfl
theorem btBytes_pre (L : List Bool) (j : Nat) : (List.range (j + 1)).map (btByte L) = (List.range j).map (btByte L) ++ [btByte L j] := by
  rw [List.range_succ, List.map_append]; rfl
set_option maxRecDepth 100000 in
set_option maxHeartbeats 8000000 in
theorem refBytes_call {L : List Bool} {v : Value} (w : World) (h : Src w v 1 L.length ((b01 L).map u8)) (hL : L.length ≤ 1048576) :
    Calls Try.prog 32 #[v] w (BytesQ L w) := by
  obtain ⟨a, c, rfl, hl, hn, hs⟩ := h
  have HS := Lib.hid hs
  have HN := Lib.hid (show a = none → L.length = 0 from fun h => (hn h).1)
  clear hl hn hs
  go_enter Try.func32, Try.ntmps32
  go_wp2_with fail
  go_loopw [3, 4] (fun o i wr => ∃ j : Nat, j ≤ (L.length + 7) / 8 ∧ i = vi (8 * j : Nat) ∧ Hid (wr.ownsRow w.heap.size 5 1 o j (((List.range j).map (btByte L)).map u8) ∧ Below w.heap.size w wr)) (fun _ i _ => L.length + 8 - (intOf i).toNat)
  case atStart =>
    exact ⟨0, Nat.zero_le _, rfl, Lib.hid ⟨⟨rfl, .inr ⟨w.heap.size, 0, #[], rfl, Nat.le_refl _, Bt.alloc_at _ _, Nat.le_refl _, by decide, rfl, rfl⟩⟩, (Below.refl _ _).alloc (Nat.le_refl _) _⟩⟩
  case round =>
    obtain ⟨wo, rfl⟩ : ∃ wo : World, wo = wr := ⟨_, rfl⟩
    obtain ⟨j, hj, rfl, HJ⟩ := hrel
    have hbw := HJ.out.2.size
    obtain ⟨ao, co, rfl⟩ := Bt.own_shape HJ.out.1
    by_cases hlt : 8 * j < L.length
    · have h1 : decide (((8 * j : Nat) : Int) < L.length) = true := decide_eq_true (by omega)
      have h2 : decide (8 * (j : Int) < L.length) = true := decide_eq_true (by omega)
      have h3 : decide (8 * j < L.length) = true := decide_eq_true (by omega)
      have hw8 : IntKind.i64.wrap (8 * (j : Int) + 8) = 8 * (j : Int) + 8 := IntWalk.i64_in _ (by omega)
      go_wp2_with fail
      go_loop [5, 6] (fun x y => ∃ (k z : Nat), k ≤ 8 ∧ y = vi k ∧ x = vi z ∧ z < 256 ∧ Hid (z = accB L j k)) (fun _ y => 8 - (intOf y).toNat)
      case atStart => exact ⟨0, 0, by omega, rfl, rfl, by omega, Lib.hid rfl⟩
      case round =>
        obtain ⟨k, z, hk, rfl, rfl, hz, HZ⟩ := hrel
        by_cases hk8 : k < 8
        · have k1 : decide ((k : Int) < 8) = true := decide_eq_true (by omega)
          have hzk : z < 128 := by
            have := accB_lt L j k
            rw [← HZ.out] at this
            exact Nat.lt_of_lt_of_le this (Nat.le_trans (Nat.pow_le_pow_right (by decide) (show k ≤ 7 by omega)) (by decide))
          have hw1 : IntKind.i64.wrap (2 * (z : Int)) = 2 * (z : Int) := IntWalk.i64_in _ (by omega)
          have hw2 : IntKind.i64.wrap (8 * (j : Int) + k) = 8 * (j : Int) + k := IntWalk.i64_in _ (by omega)
          have hw3 : IntKind.i64.wrap ((k : Int) + 1) = (k : Int) + 1 := IntWalk.i64_in _ (by omega)
          by_cases hin : 8 * j + k < L.length
          · have k2 : decide (8 * (j : Int) + k < L.length) = true := decide_eq_true (by omega)
            have hbl := btv_le L (8 * j + k)
            obtain ⟨x, hx⟩ : ∃ x, x = btv L (8 * j + k) := ⟨_, rfl⟩
            rw [← hx] at hbl
            have hc : ∃ b off, a = some ⟨b, off, none⟩ ∧ wo.cell? ⟨b, off + (8 * j + k), none⟩ = some (.int .u8 (x : Nat)) := by
              cases a with
              | none => have := HN.out rfl; omega
              | some ad =>
                have h0 := HS.out ad rfl 0 _ (by rw [List.getElem?_map, b01_at (show 0 < L.length by omega)]; rfl)
                have h3 : ad = ⟨ad.block, ad.off, none⟩ := addr_flat (x := ad) h0
                have h1 := HS.out ad rfl (8 * j + k) (.int .u8 (x : Nat)) (by rw [List.getElem?_map, b01_at hin, hx]; rfl)
                rw [h3] at h1
                rw [addr_add] at h1
                exact ⟨ad.block, ad.off, congrArg some h3, by rw [HJ.out.2.cell (World.block_lt_of_cell? w _ h1)]; exact h1⟩
            obtain ⟨b, off, rfl, hc⟩ := hc
            have HX := Lib.hid hx
            have hi1 : (8 * (j : Int) + k) < L.length := by omega
            have hi2 : (8 * (j : Int) + k).toNat = 8 * j + k := by omega
            have hw4 : IntKind.i64.wrap (2 * (z : Int) + x) = 2 * (z : Int) + x := IntWalk.i64_in _ (by omega)
            clear hx
            go_wp2_with fail
            refine ⟨⟨k + 1, 2 * z + x, by omega, by go_num, by go_num, by omega, Lib.hid ?_⟩, by simp only [intOf]; omega⟩
            rw [accB, ← HZ.out, HX.out]
          · have k2 : decide (8 * (j : Int) + k < L.length) = false := decide_eq_false (by omega)
            have hb0 := Lib.hid (btv_past (L := L) (i := 8 * j + k) (by omega))
            go_wp2_with fail
            refine ⟨⟨k + 1, 2 * z, by omega, by go_num, by go_num, by omega, Lib.hid ?_⟩, by simp only [intOf]; omega⟩
            rw [accB, ← HZ.out, hb0.out]; rfl
        · have hke : k = 8 := by omega
          have HK := Lib.hid hke
          have k1 : decide ((k : Int) < 8) = false := decide_eq_false (by omega)
          clear hke
          have hj2 : j + 1 ≤ 68719476736 := by omega
          go_wp2_with (refine wpList_append_src rfl (.tmp 35) (.tmp 38) 76 rfl eltU8 w.heap.size j _ (HJ.out.1.alloc _) rfl 1 [.int .u8 (z : Nat)] (src_new (cs := #[.int .u8 (z : Nat)]) rfl rfl) rfl (by intro u hu; simp at hu; subst hu; rfl) hj2 (by omega) (by simp; omega) ?_; intro v1 w1 ho1 hg1 _; have HO1 := Lib.hid ho1; have HG1 := Lib.hid hg1; clear ho1 hg1)
          refine ⟨⟨j + 1, by omega, by go_num, Lib.hid ⟨?_, ?_⟩⟩, by simp only [intOf]; omega⟩
          · have hz8 : z = btByte L j := by rw [HZ.out, HK.out]; exact accB_8 L j
            rw [btBytes_pre, List.map_append, ← hz8]
            exact HO1.out
          · exact HJ.out.2.trans (((Below.refl _ _).alloc hbw _).trans (below_grown HG1.out (by simp; omega) (fun g hg => (HJ.out.1.lt g hg).1)))
    · have hje : j = (L.length + 7) / 8 := by omega
      have HE := Lib.hid hje
      have h1 : decide (((8 * j : Nat) : Int) < L.length) = false := decide_eq_false (by omega)
      have h2 : decide (8 * (j : Int) < L.length) = false := decide_eq_false (by omega)
      have h3 : decide (8 * j < L.length) = false := decide_eq_false (by omega)
      clear hje
      go_wp2_with fail
      go_ret
      refine ⟨_, rfl, ?_, HJ.out.2⟩
      show World.ownsRow _ _ _ _ _ _ _
      rw [btBytes_length, ← HE.out]
      have := HJ.out.1
      rw [show btBytes L = (List.range j).map (btByte L) by rw [HE.out]; rfl]
      exact this
end Go.Proofs.Ytbadpfcjoobniaa

namespace Go.Proofs.Ytbadpfcjoobniaa
open Go.RowKit

def opL (o : GOp) : List Bool := intL o.key ++ intL o.val
def opsBL (ws : List GOp) : List Bool := ws.flatMap opL
def intsBL (rs : List Int) : List Bool := rs.flatMap intL
/-- A transaction that waits, in bits. -/
def rdyBL (r : Rdy) : List Bool := intL r.txn ++ intL r.home ++ intL r.start ++ numL r.writes.length ++ opsBL r.writes ++ numL r.reads.length ++ intsBL r.reads
theorem intL_length {z : Int} (h : IntOk z) : (intL z).length ≤ 129 := numL_length _ (zig_lt h.1 h.2)
theorem opsBL_length : ∀ ws : List GOp, (∀ o ∈ ws, IntOk o.key ∧ IntOk o.val) → (opsBL ws).length ≤ 258 * ws.length
  | [], _ => by simp [opsBL]
  | o :: ws, h => by
    have h1 := h o (by simp)
    have := opsBL_length ws (fun x hx => h x (by simp [hx]))
    have a := intL_length h1.1
    have b := intL_length h1.2
    simp only [opsBL, List.flatMap_cons, List.length_append, opL, List.length_cons] at *
    omega
theorem intsBL_length : ∀ rs : List Int, (∀ o ∈ rs, IntOk o) → (intsBL rs).length ≤ 129 * rs.length
  | [], _ => by simp [intsBL]
  | o :: ws, h => by
    have h1 := h o (by simp)
    have := intsBL_length ws (fun x hx => h x (by simp [hx]))
    have a := intL_length h1
    simp only [intsBL, List.flatMap_cons, List.length_append, List.length_cons] at *
    omega
theorem opsBL_snoc {ws : List GOp} {k : Nat} {o : GOp} (h : ws[k]? = some o) : opsBL (ws.take (k + 1)) = opsBL (ws.take k) ++ (intL o.key ++ intL o.val) := by
  rw [take_at h]; simp [opsBL, opL]
theorem intsBL_snoc {ws : List Int} {k : Nat} {o : Int} (h : ws[k]? = some o) : intsBL (ws.take (k + 1)) = intsBL (ws.take k) ++ intL o := by
  rw [take_at h]; simp [intsBL]
/-- What the numbers of a transaction are within. -/
structure RdyOk (r : Rdy) : Prop where
  txn : IntOk r.txn
  home : IntOk r.home
  start : IntOk r.start
  ws : ∀ o ∈ r.writes, IntOk o.key ∧ IntOk o.val
  rs : ∀ k ∈ r.reads, IntOk k
theorem FrW.alloc {base p : Nat} {a b : World} (h : FrW base p a b) (o : Obj) : FrW base p a (b.alloc o) := h.trans (FrW.below ((Below.refl _ _).alloc (Nat.le_refl _) o))
theorem WrS.alloc {base p : Nat} {L : List Bool} {A : World} (h : WrS base p L A) (o : Obj) : WrS base p L (A.alloc o) := h.later ((Below.refl _ _).alloc (Nat.le_refl _) o)

set_option maxRecDepth 100000 in
set_option maxHeartbeats 8000000 in
theorem rdyBits_call {base p : Nat} {L : List Bool} (x : RV) (w : World) (hw : WrS base p L w) (hb : base ≤ w.heap.size) (hx : ∀ W, Below base w W → RdyS W x) (hi : RdyOk x.r) (hlw : x.r.writes.length ≤ 1000) (hlr : x.r.reads.length ≤ 1000) (hL : L.length ≤ 500000) :
    Calls Try.prog 25 #[rdyV x, .pointer (some ⟨p, 0, none⟩)] w (PutQ base p (L ++ rdyBL x.r) w) := by
  obtain ⟨wv, rv, r⟩ := x
  have hx0 := hx w (Below.refl _ _)
  obtain ⟨aw, nw, cw, hwv, rfl, hmw, -⟩ := (show RdOps w wv r.writes from hx0.ws).at
  obtain ⟨ar, nr, cr, hrv, rfl, hmr, -⟩ := (show RdInts w rv r.reads from hx0.rs).at
  subst hwv hrv
  clear hx0
  have HX := Lib.hid (Bt.alloc_at w (.cells (rdyC ⟨.slice aw r.writes.length cw, .slice ar r.reads.length cr, r⟩) 29))
  have HW := Lib.hid (hw.alloc (.cells (rdyC ⟨.slice aw r.writes.length cw, .slice ar r.reads.length cr, r⟩) 29))
  have HF := Lib.hid ((FrW.refl base p w).alloc (.cells (rdyC ⟨.slice aw r.writes.length cw, .slice ar r.reads.length cr, r⟩) 29))
  have hne := hw.lt
  have HRD := Lib.hid hx
  have HI := Lib.hid hi
  have hl1 := intL_length hi.txn
  have hl2 := intL_length hi.home
  have hl3 := intL_length hi.start
  have hl4 := numL_length r.writes.length (by omega)
  have hl5 := numL_length r.reads.length (by omega)
  have hl6 := opsBL_length r.writes hi.ws
  have hl7 := intsBL_length r.reads hi.rs
  simp only at hlw hlr
  have hlen := Lib.hid (show (rdyBL r).length = (intL r.txn).length + (intL r.home).length + (intL r.start).length + (numL r.writes.length).length + (opsBL r.writes).length + (numL r.reads.length).length + (intsBL r.reads).length by simp [rdyBL]; omega)
  have hba : base ≤ (w.alloc (.cells (rdyC ⟨.slice aw r.writes.length cw, .slice ar r.reads.length cr, r⟩) 29)).heap.size := by simp; omega
  clear hx hi
  unfold rdyV at *
  unfold rdyC at *
  simp only at HX HW HF hba
  go_enter Try.func25, Try.ntmps25
  go_upto_region 1 with fail
  generalize w.alloc (.cells #[vi r.txn, vi r.home, vi r.start, .slice aw r.writes.length cw, .slice ar r.reads.length cr] 29) = w1 at *
  obtain ⟨X, hX⟩ : ∃ X, X = w.heap.size := ⟨_, rfl⟩
  rw [← hX] at HX hne ⊢
  have hnX : X ≠ p := by omega
  have hbX : base ≤ X := by omega
  have HXE := Lib.hid hX
  clear hX hb hw
  have x0 : w1.cell? ⟨X, 0, none⟩ = some (vi r.txn) := by rw [Bt.cell_of HX.out]; rfl
  go_upto_region 2 with (go_at_call 56; refine (int_call (L := L) r.txn w1 HW.out HI.out.txn.1 HI.out.txn.2 (by omega) hba).mono ?_; rintro e2 w2 ⟨rfl, hw2, hf2⟩; have HW2 := Lib.hid hw2; have HF2 := Lib.hid hf2; have hz2 := Nat.le_trans hba hf2.size; have x1 : w2.cell? ⟨X, 1, none⟩ = some (vi r.home) := (by rw [Bt.cell_of (hf2.cells HX.out hnX (by decide))]; rfl); have HX2 := Lib.hid (hf2.cells HX.out hnX (by decide)); clear hw2 hf2)
  go_upto_region 3 with (go_at_call 56; refine (int_call (L := L ++ intL r.txn) r.home w2 HW2.out HI.out.home.1 HI.out.home.2 (by simp; omega) hz2).mono ?_; rintro e3 w3 ⟨rfl, hw3, hf3⟩; have HW3 := Lib.hid hw3; have HF3 := Lib.hid hf3; have hz3 := Nat.le_trans hz2 hf3.size; have x2 : w3.cell? ⟨X, 2, none⟩ = some (vi r.start) := (by rw [Bt.cell_of (hf3.cells HX2.out hnX (by decide))]; rfl); have HX3 := Lib.hid (hf3.cells HX2.out hnX (by decide)); clear hw3 hf3)
  go_upto_region 4 with (go_at_call 56; refine (int_call (L := L ++ intL r.txn ++ intL r.home) r.start w3 HW3.out HI.out.start.1 HI.out.start.2 (by simp; omega) hz3).mono ?_; rintro e4 w4 ⟨rfl, hw4, hf4⟩; have HW4 := Lib.hid hw4; have HF4 := Lib.hid hf4; have hz4 := Nat.le_trans hz3 hf4.size; have x3 : w4.cell? ⟨X, 3, none⟩ = some (.slice aw r.writes.length cw) := (by rw [Bt.cell_of (hf4.cells HX3.out hnX (by decide))]; rfl); have HX4 := Lib.hid (hf4.cells HX3.out hnX (by decide)); clear hw4 hf4)
  have hwr1 : IntKind.u64.wrap (r.writes.length : Int) = (r.writes.length : Int) := by rw [IntKind.wrap_u64]; omega
  go_upto_region 5 with (go_at_call 57; refine (num_call (L := L ++ intL r.txn ++ intL r.home ++ intL r.start) r.writes.length w4 HW4.out (by omega) (by simp; omega) hz4).mono ?_; rintro e5 w5 ⟨rfl, hw5, hf5⟩; have HW5 := Lib.hid hw5; have HF5 := Lib.hid hf5; have hz5 := Nat.le_trans hz4 hf5.size; have x3' : w5.cell? ⟨X, 3, none⟩ = some (.slice aw r.writes.length cw) := (by rw [Bt.cell_of (hf5.cells HX4.out hnX (by decide))]; rfl); have HX5 := Lib.hid (hf5.cells HX4.out hnX (by decide)); clear hw5 hf5)
  have HFA := Lib.hid ((((HF.out.trans HF2.out).trans HF3.out).trans HF4.out).trans HF5.out)
  have HW5' := HW5
  clear x0 x1 x2 x3 HW HW2 HW3 HW4 HF HF2 HF3 HF4 HF5 HX HX2 HX3 HX4 hba hz2 hz3 hz4 hwr1
  obtain ⟨L5, hL5⟩ : ∃ L5, L5 = L ++ intL r.txn ++ intL r.home ++ intL r.start ++ numL r.writes.length := ⟨_, rfl⟩
  rw [← hL5] at HW5
  have hl55 : L5.length = L.length + (intL r.txn).length + (intL r.home).length + (intL r.start).length + (numL r.writes.length).length := by rw [hL5]; simp; omega
  have HLL5 := Lib.hid hl55
  have HL5 := Lib.hid hL5
  have hl5m : L5.length ≤ 500000 + 129 * 4 := by omega
  clear hL5 hl55 HW5'
  go_wp2_with fail
  go_loopw [29] (fun i wr => ∃ k : Nat, k ≤ r.writes.length ∧ i = vi k ∧ Hid (WrS base p (L5 ++ opsBL (r.writes.take k)) wr ∧ FrW base p w wr ∧ wr.heap[X]? = some (.cells #[vi r.txn, vi r.home, vi r.start, .slice aw r.writes.length cw, .slice ar r.reads.length cr] 29))) (fun i _ => r.writes.length - (intOf i).toNat)
  case atStart => exact ⟨0, Nat.zero_le _, rfl, Lib.hid ⟨by simpa [opsBL] using HW5.out, HFA.out, HX5.out⟩⟩
  case round =>
    obtain ⟨wj, rfl⟩ : ∃ wj : World, wj = wr := ⟨_, rfl⟩
    obtain ⟨k, hk, rfl, HJ⟩ := hrel
    have HBJ := Lib.hid (HJ.out.2.1.toBelow (by have := HXE.out; omega) HJ.out.1.1)
    by_cases hlt : k < r.writes.length
    · have k1 : decide ((k : Int) < r.writes.length) = true := decide_eq_true (by omega)
      have hwk : IntKind.i64.wrap ((k : Int) + 1) = (k : Int) + 1 := IntWalk.i64_in _ (by omega)
      obtain ⟨o, ho⟩ := some_at hlt
      have HO := Lib.hid ho
      have hoi := HI.out.ws o (List.mem_of_getElem? ho)
      obtain ⟨a', n', c', he, _, _, hcells⟩ := (show RdOps wj (.slice aw r.writes.length cw) r.writes from (HRD.out wj HBJ.out).ws).at
      obtain ⟨b, off, ha, k2, k3, k4⟩ := hcells k o ho
      simp only [Value.slice.injEq] at he
      obtain ⟨rfl, -, -⟩ := he
      subst ha
      clear hcells ho
      have hpj := HJ.out.1.lt
      have HWA := Lib.hid (HJ.out.1.alloc (.cells #[vi o.kind, vi o.key, vi o.val] 55))
      have HYA := Lib.hid (Bt.alloc_at wj (.cells #[vi o.kind, vi o.key, vi o.val] 55))
      have HFA1 := Lib.hid ((FrW.refl base p wj).alloc (.cells #[vi o.kind, vi o.key, vi o.val] 55))
      have hjb : base ≤ (wj.alloc (.cells #[vi o.kind, vi o.key, vi o.val] 55)).heap.size := by have := HBJ.out.size; have := HXE.out; simp; omega
      have htk := opsBL_snoc HO.out
      have hlk : (opsBL (r.writes.take k)).length ≤ 258 * r.writes.length := by
        have h1 := opsBL_length (r.writes.take k) (fun x hx => HI.out.ws x (List.mem_of_mem_take hx))
        have h2 : (r.writes.take k).length ≤ r.writes.length := by rw [List.length_take]; omega
        omega
      have hla := intL_length hoi.1
      have HTK := Lib.hid htk
      clear htk
      go_upto_region 8 with fail
      generalize wj.alloc (.cells #[vi o.kind, vi o.key, vi o.val] 55) = wa at *
      obtain ⟨Y, hY⟩ : ∃ Y, Y = wj.heap.size := ⟨_, rfl⟩
      rw [← hY] at HYA hpj ⊢
      have hnY : Y ≠ p := by omega
      have y1 : wa.cell? ⟨Y, 1, none⟩ = some (vi o.key) := by rw [Bt.cell_of HYA.out]; rfl
      have HY := Lib.hid hY
      clear hY
      go_wp2_with (first
        | (go_at_call 56; refine (int_call (L := L5 ++ opsBL (r.writes.take k) ++ intL o.key) o.val wb HWB.out hoi.2.1 hoi.2.2 (by simp; omega) hzb).mono ?_; rintro ec wc ⟨rfl, hwc, hfc⟩; have HWC := Lib.hid hwc; have HFC := Lib.hid hfc; clear hwc hfc)
        | (go_at_call 56; refine (int_call (L := L5 ++ opsBL (r.writes.take k)) o.key wa HWA.out hoi.1.1 hoi.1.2 (by simp; omega) hjb).mono ?_; rintro eb wb ⟨rfl, hwb, hfb⟩; have HWB := Lib.hid hwb; have HFB := Lib.hid hfb; have hzb := Nat.le_trans hjb hfb.size; have y2 : wb.cell? ⟨Y, 2, none⟩ = some (vi o.val) := (by rw [Bt.cell_of (hfb.cells HYA.out hnY (by decide))]; rfl); clear hwb hfb))
      refine ⟨⟨k + 1, by omega, by go_num, Lib.hid ⟨?_, ?_, ?_⟩⟩, by simp only [intOf]; omega⟩
      · rw [HTK.out, ← List.append_assoc, ← List.append_assoc]; exact HWC.out
      · exact ((HJ.out.2.1.trans HFA1.out).trans HFB.out).trans HFC.out
      · exact ((HFA1.out.trans HFB.out).trans HFC.out).cells HJ.out.2.2 hnX (by decide)
    · have k1 : decide ((k : Int) < r.writes.length) = false := decide_eq_false (by omega)
      have hke := Lib.hid (show k = r.writes.length by omega)
      have HWJ := Lib.hid HJ.out.1
      have hjb : base ≤ wj.heap.size := by have := HBJ.out.size; have := HXE.out; omega
      have HWJ2 : Hid (WrS base p (L5 ++ opsBL r.writes) wj) := by have := HJ.out.1; rw [hke.out, List.take_length] at this; exact Lib.hid this
      have HFJ := Lib.hid HJ.out.2.1
      have HXJ := Lib.hid HJ.out.2.2
      have x4 : wj.cell? ⟨X, 4, none⟩ = some (.slice ar r.reads.length cr) := by rw [Bt.cell_of HJ.out.2.2]; rfl
      have hwr2 : IntKind.u64.wrap (r.reads.length : Int) = (r.reads.length : Int) := by rw [IntKind.wrap_u64]; omega
      have HJ0 := HJ
      clear HJ0 HJ HWJ
      go_upto_region 12 with (go_at_call 57; refine (num_call (L := L5 ++ opsBL r.writes) r.reads.length wj HWJ2.out (by omega) (by simp; omega) hjb).mono ?_; rintro e6 w6 ⟨rfl, hw6, hf6⟩; have HW6 := Lib.hid hw6; have HF6 := Lib.hid hf6; have hz6 := Nat.le_trans hjb hf6.size; have x4' : w6.cell? ⟨X, 4, none⟩ = some (.slice ar r.reads.length cr) := (by rw [Bt.cell_of (hf6.cells HXJ.out hnX (by decide))]; rfl); clear hw6 hf6)
      obtain ⟨L6, hL6⟩ : ∃ L6, L6 = L5 ++ opsBL r.writes ++ numL r.reads.length := ⟨_, rfl⟩
      rw [← hL6] at HW6
      have hl66 : L6.length = L5.length + (opsBL r.writes).length + (numL r.reads.length).length := by rw [hL6]; simp; omega
      have hl6m : L6.length ≤ 500000 + 129 * 5 + 258 * 1000 := by omega
      have HL6 := Lib.hid hL6
      have HF6J := Lib.hid (HFJ.out.trans HF6.out)
      clear hL6 hl66
      go_wp2_with fail
      go_loopw [51] (fun i wr => ∃ k : Nat, k ≤ r.reads.length ∧ i = vi k ∧ Hid (WrS base p (L6 ++ intsBL (r.reads.take k)) wr ∧ FrW base p w wr)) (fun i _ => r.reads.length - (intOf i).toNat)
      case atStart => exact ⟨0, Nat.zero_le _, rfl, Lib.hid ⟨by simpa [intsBL] using HW6.out, HF6J.out⟩⟩
      case round =>
        obtain ⟨wq, rfl⟩ : ∃ wq : World, wq = wr := ⟨_, rfl⟩
        obtain ⟨q, hq, rfl, HQ⟩ := hrel
        have HBQ := Lib.hid (HQ.out.2.toBelow (by have := HXE.out; omega) HQ.out.1.1)
        by_cases hlt2 : q < r.reads.length
        · have k1 : decide ((q : Int) < r.reads.length) = true := decide_eq_true (by omega)
          have hwk : IntKind.i64.wrap ((q : Int) + 1) = (q : Int) + 1 := IntWalk.i64_in _ (by omega)
          obtain ⟨o, ho⟩ := some_at hlt2
          have HO := Lib.hid ho
          have hoi := HI.out.rs o (List.mem_of_getElem? ho)
          obtain ⟨a', n', c', he, _, _, hcells⟩ := (show RdInts wq (.slice ar r.reads.length cr) r.reads from (HRD.out wq HBQ.out).rs).at
          obtain ⟨b, off, ha, k2, _⟩ := hcells q o ho
          simp only [Value.slice.injEq] at he
          obtain ⟨rfl, -, -⟩ := he
          subst ha
          have htk := intsBL_snoc ho
          have hlk : (intsBL (r.reads.take q)).length ≤ 129 * r.reads.length := by
            have h1 := intsBL_length (r.reads.take q) (fun x hx => HI.out.rs x (List.mem_of_mem_take hx))
            have h2 : (r.reads.take q).length ≤ r.reads.length := by rw [List.length_take]; omega
            omega
          have hqb : base ≤ wq.heap.size := by have := HBQ.out.size; have := HXE.out; omega
          have HTK := Lib.hid htk
          clear hcells ho htk
          go_wp2_with (go_at_call 56; refine (int_call (L := L6 ++ intsBL (r.reads.take q)) o wq HQ.out.1 hoi.1 hoi.2 (by simp; omega) hqb).mono ?_; rintro eb wb ⟨rfl, hwb, hfb⟩; have HWB := Lib.hid hwb; have HFB := Lib.hid hfb; clear hwb hfb)
          refine ⟨⟨q + 1, by omega, by go_num, Lib.hid ⟨?_, HQ.out.2.trans HFB.out⟩⟩, by simp only [intOf]; omega⟩
          rw [HTK.out, ← List.append_assoc]; exact HWB.out
        · have k1 : decide ((q : Int) < r.reads.length) = false := decide_eq_false (by omega)
          have hqe := Lib.hid (show q = r.reads.length by omega)
          go_wp2_with fail
          go_end0
          refine ⟨rfl, ?_, HQ.out.2⟩
          have h1 := HQ.out.1
          rw [hqe.out, List.take_length] at h1
          have h2 : L ++ rdyBL r = L6 ++ intsBL r.reads := by rw [HL6.out, HL5.out]; simp [rdyBL]
          show WrS base p (L ++ rdyBL r) wq
          rw [h2]; exact h1
end Go.Proofs.Ytbadpfcjoobniaa

namespace Go.Proofs.Ytbadpfcjoobniaa
open Go.RowKit

abbrev OpBOk (o : GOp) : Prop := o.kind = 2 ∧ IntOk o.key ∧ IntOk o.val
/-- What is read as a transaction. -/
structure RdyBOk (r : Rdy) : Prop where
  txn : IntOk r.txn
  home : IntOk r.home
  start : IntOk r.start
  ws : SeqOk OpBOk r.writes
  rs : SeqOk IntOk r.reads
theorem op_read {s s1 s2 : Rd} {a b : Int} (h1 : RdOK intL IntOk s s1 a) (h2 : RdOK intL IntOk s1 s2 b) : RdOK opL OpBOk s s2 ⟨2, a, b⟩ :=
  (h1.seq h2).map (fun z : Int × Int => (⟨2, z.1, z.2⟩ : GOp)) (fun o => (o.key, o.val)) (fun o ho => ⟨⟨ho.2.1, ho.2.2⟩, rfl, by obtain ⟨k, a, b⟩ := o; have := ho.1; simp only at this; subst this; rfl⟩) (fun z hz => ⟨⟨rfl, hz.1, hz.2⟩, rfl⟩)
theorem rdy_read {s s1 s2 s3 s4 s5 : Rd} {a b c : Int} {ws : List GOp} {rs : List Int} (h1 : RdOK intL IntOk s s1 a) (h2 : RdOK intL IntOk s1 s2 b) (h3 : RdOK intL IntOk s2 s3 c) (h4 : RdOK (seqL opL) (SeqOk OpBOk) s3 s4 ws) (h5 : RdOK (seqL intL) (SeqOk IntOk) s4 s5 rs) : RdOK rdyBL RdyBOk s s5 ⟨a, b, c, ws, rs⟩ :=
  ((((h1.seq h2).seq h3).seq h4).seq h5).map (fun z => (⟨z.1.1.1.1, z.1.1.1.2, z.1.1.2, z.1.2, z.2⟩ : Rdy)) (fun r => ((((r.txn, r.home), r.start), r.writes), r.reads))
    (fun r hr => ⟨⟨⟨⟨⟨hr.txn, hr.home⟩, hr.start⟩, hr.ws⟩, hr.rs⟩, by simp [rdyBL, seqL, opsBL, intsBL], rfl⟩)
    (fun z hz => ⟨⟨hz.1.1.1.1, hz.1.1.1.2, hz.1.1.2, hz.1.2, hz.2⟩, by simp [rdyBL, seqL, opsBL, intsBL]⟩)
def RdyRQ (base p : Nat) (s : Rd) (w : World) (e : Ending) (w' : World) : Prop :=
  ∃ (x : RV) (s' : Rd), e = .returned (rdyV x) ∧ OwOps w.heap.size w' x.wv x.r.writes ∧ OwI w.heap.size w' x.rv x.r.reads ∧ RdyBOk x.r ∧ x.r.writes.length ≤ s.rest.length + 1 ∧ x.r.reads.length ≤ s.rest.length + 1 ∧
    RdOK rdyBL RdyBOk s s' x.r ∧ RdrS base p s' w' ∧ w.grownBy w' (some p)
/-- The reading of a transaction, in memory. -/
structure RRS (w : World) (base p X Y : Nat) (s : Rd) (a b c : Int) (wv rv : Value) (ws : List GOp) (rs : List Int) (W : World) : Prop where
  rd : RdrS base p s W
  gro : w.grownBy W (some p)
  res : W.heap[X]? = some (.cells #[vi 0, vi 0, vi 0, .slice none 0 0, .slice none 0 0] 29)
  box : W.heap[Y]? = some (.cells #[vi a, vi b, vi c, wv, rv] 29)
  ows : OwOps w.heap.size W wv ws
  ors : OwI w.heap.size W rv rs
  px : p < w.heap.size
  lx : w.heap.size ≤ X
  ly : w.heap.size ≤ Y
  xy : X ≠ Y
theorem RRS.y3 {w : World} {base p X Y : Nat} {s : Rd} {a b c : Int} {wv rv : Value} {ws : List GOp} {rs : List Int} {W : World} (h : RRS w base p X Y s a b c wv rv ws rs W) : W.cell? ⟨Y, 3, none⟩ = some wv := by rw [Bt.cell_of h.box]; rfl
theorem RRS.y4 {w : World} {base p X Y : Nat} {s : Rd} {a b c : Int} {wv rv : Value} {ws : List GOp} {rs : List Int} {W : World} (h : RRS w base p X Y s a b c wv rv ws rs W) : W.cell? ⟨Y, 4, none⟩ = some rv := by rw [Bt.cell_of h.box]; rfl
theorem RRS.fy {w : World} {base p X Y : Nat} {s : Rd} {a b c : Int} {wv rv : Value} {ws : List GOp} {rs : List Int} {W : World} (h : RRS w base p X Y s a b c wv rv ws rs W) (o : Nat) : W.frozen? ⟨Y, o, none⟩ = false := Bt.free_of h.box o
theorem own_ne {w : World} {base e size n p : Nat} {v : Value} {xs : List Value} (h : w.ownsRow base e size v n xs) (hp : p < base) : v.ownBlock = none ∨ v.ownBlock ≠ some p := by
  cases hv : v.ownBlock with
  | none => exact .inl rfl
  | some g => exact .inr (fun e => by cases e; have := (h.lt _ hv).1; omega)
theorem RRS.read {w : World} {base p X Y : Nat} {s s' : Rd} {a b c : Int} {wv rv : Value} {ws : List GOp} {rs : List Int} {A B : World} (h : RRS w base p X Y s a b c wv rv ws rs A) (hg : A.grownBy B (some p)) (hs : RdrS base p s' B) : RRS w base p X Y s' a b c wv rv ws rs B :=
  ⟨hs, gro_trans h.gro hg, (hg.block X (Array.getElem?_eq_some_iff.1 h.res).1 (fun e => by have := Option.some.inj e; have := h.px; have := h.lx; omega)).trans h.res,
    (hg.block Y (Array.getElem?_eq_some_iff.1 h.box).1 (fun e => by have := Option.some.inj e; have := h.px; have := h.ly; omega)).trans h.box,
    World.ownsRow.kept h.ows hg (own_ne h.ows h.px), World.ownsRow.kept h.ors hg (own_ne h.ors h.px), h.px, h.lx, h.ly, h.xy⟩
theorem RRS.alloc {w : World} {base p X Y : Nat} {s : Rd} {a b c : Int} {wv rv : Value} {ws : List GOp} {rs : List Int} {A : World} (h : RRS w base p X Y s a b c wv rv ws rs A) (o : Obj) : RRS w base p X Y s a b c wv rv ws rs (A.alloc o) :=
  h.read (World.grownBy_alloc A o _) (h.rd.later ((Below.refl _ _).alloc (Nat.le_refl _) o))
theorem RRS.drew {w : World} {base p X Y : Nat} {s : Rd} {a b c : Int} {wv rv : Value} {ws : List GOp} {rs : List Int} {A : World} (h : RRS w base p X Y s a b c wv rv ws rs A) : RRS w base p X Y s a b c wv rv ws rs A.drew :=
  h.read ⟨rfl, rfl, rfl, Nat.le_refl _, fun _ _ _ => rfl⟩ h.rd
theorem row_ne {w : World} {base e size n j : Nat} {v : Value} {xs : List Value} {cs : Array Value} {T : TypeId} {fz : Nat × Nat} (h : w.ownsRow base e size v n xs) (hj : w.heap[j]? = some (.cells cs T fz)) (hT : T ≠ e) : some j ≠ v.ownBlock := by
  intro hv
  rcases h.2 with ⟨rfl, _⟩ | ⟨g, cap, cur, rfl, _, hh, _⟩
  · cases hv
  · simp only [Value.ownBlock, Option.some.injEq] at hv; subst hv; rw [hh] at hj; cases hj; exact hT rfl
theorem RdrS.grown {base p b e size n : Nat} {s : Rd} {v : Value} {xs : List Value} {A B : World} (h : RdrS base p s A) (hr : A.ownsRow b e size v n xs) (hg : A.grownBy B v.ownBlock) (h1 : e ≠ 126) (h2 : e ≠ 5) : RdrS base p s B := by
  obtain ⟨hp, v', bs, at', a1, a2, a3⟩ := h
  refine ⟨hp, v', bs, at', (hg.block p (Array.getElem?_eq_some_iff.1 a1).1 (row_ne hr a1 (fun e => h1 e.symm))).trans a1, World.ownsRow.kept a2 hg ?_, a3⟩
  rcases a2.2 with ⟨hv, _⟩ | ⟨g, cap, cur, hv, _, hh, _⟩
  · left; rw [hv]; rfl
  · right; rw [hv]; exact row_ne hr hh (fun e => h2 e.symm)
theorem RdrS.setO {base p Y o : Nat} {s : Rd} {A : World} (h : RdrS base p s A) {cs : Array Value} {T : TypeId} (hY : A.heap[Y]? = some (.cells cs T)) (h1 : T ≠ 126) (h2 : T ≠ 5) (u : Value) : RdrS base p s (A.setCell ⟨Y, o, none⟩ u) := by
  obtain ⟨hp, v', bs, at', a1, a2, a3⟩ := h
  refine ⟨hp, v', bs, at', Bt.cells_other _ a1 (fun e => by subst e; rw [hY] at a1; cases a1; exact h1 rfl), Bt.own_frame a2 (fun g hg => ?_), a3⟩
  refine Bt.cells_other _ rfl (fun e => ?_)
  subst e
  rcases a2.2 with ⟨hv, _⟩ | ⟨g', cap, cur, hv, _, hh, _⟩
  · rw [hv] at hg; cases hg
  · rw [hv] at hg; simp only [Value.ownBlock, Option.some.injEq] at hg; subst hg; rw [hY] at hh; cases hh; exact h2 rfl
theorem own_setO {A : World} {b e size n Y o : Nat} {v : Value} {xs : List Value} (h : A.ownsRow b e size v n xs) {cs : Array Value} {T : TypeId} (hY : A.heap[Y]? = some (.cells cs T)) (h1 : T ≠ e) (u : Value) : (A.setCell ⟨Y, o, none⟩ u).ownsRow b e size v n xs :=
  Bt.own_frame h (fun g hg => Bt.cells_other _ rfl (fun e => by
    subst e
    rcases h.2 with ⟨hv, _⟩ | ⟨g', cap, cur, hv, _, hh, _⟩
    · rw [hv] at hg; cases hg
    · rw [hv] at hg; simp only [Value.ownBlock, Option.some.injEq] at hg; subst hg; rw [hY] at hh; cases hh; exact h1 rfl))
theorem own_apart' {w : World} {b1 b2 e1 e2 s1 s2 n1 n2 : Nat} {v1 v2 : Value} {xs1 xs2 : List Value} (h1 : w.ownsRow b1 e1 s1 v1 n1 xs1) (h2 : w.ownsRow b2 e2 s2 v2 n2 xs2) (hne : e1 ≠ e2) : v1.ownBlock = none ∨ v1.ownBlock ≠ v2.ownBlock := by
  rcases h1.2 with ⟨hv, _⟩ | ⟨g, cap, cur, hv, _, hh, _⟩
  · left; rw [hv]; rfl
  · right; rw [hv]; exact row_ne h2 hh hne
/-- One operation more. -/
theorem RRS.addW {w : World} {base p X Y : Nat} {s : Rd} {a b c : Int} {wv wv' rv : Value} {ws : List GOp} {rs : List Int} {A B : World} (o : GOp) (h : RRS w base p X Y s a b c wv rv ws rs A) (hg : A.grownBy B wv.ownBlock) (hr : B.ownsRow w.heap.size 55 3 wv' (ws.length + 1) (ws.flatMap opV ++ opV o)) :
    RRS w base p X Y s a b c wv' rv (ws ++ [o]) rs (B.setCell ⟨Y, 3, none⟩ wv') := by
  have hY : B.heap[Y]? = _ := (hg.block Y (Array.getElem?_eq_some_iff.1 h.box).1 (row_ne h.ows h.box (by decide))).trans h.box
  have hX : B.heap[X]? = _ := (hg.block X (Array.getElem?_eq_some_iff.1 h.res).1 (row_ne h.ows h.res (by decide))).trans h.res
  have hor : OwI w.heap.size B rv rs := World.ownsRow.kept h.ors hg (own_apart' h.ors h.ows (by decide))
  have hrow : OwOps w.heap.size B wv' (ws ++ [o]) := by
    show World.ownsRow _ _ _ _ _ _ _
    rw [List.length_append, List.flatMap_append]; simpa using hr
  have hgro : w.grownBy B (some p) := ⟨hg.os.trans h.gro.os, hg.tape.trans h.gro.tape, hg.output.trans h.gro.output, Nat.le_trans h.gro.size hg.size, fun k hk hne => (hg.block k (Nat.lt_of_lt_of_le hk h.gro.size) (fun e => by have := (World.ownsRow.lt h.ows k e.symm).1; omega)).trans (h.gro.block k hk hne)⟩
  refine ⟨(h.rd.grown h.ows hg (by decide) (by decide)).setO hY (by decide) (by decide) _, ⟨hgro.os, hgro.tape, hgro.output, by simpa [World.setCell] using hgro.size, fun k hk hne => (Bt.cells_other _ rfl (fun e => by subst e; have := h.ly; omega)).trans (hgro.block k hk hne)⟩, Bt.cells_other _ hX h.xy, ?_, own_setO hrow hY (by decide) _, own_setO hor hY (by decide) _, h.px, h.lx, h.ly, h.xy⟩
  exact Bt.cells_set _ hY
theorem RRS.addR {w : World} {base p X Y : Nat} {s : Rd} {a b c : Int} {wv rv rv' : Value} {ws : List GOp} {rs : List Int} {A B : World} (o : Int) (h : RRS w base p X Y s a b c wv rv ws rs A) (hg : A.grownBy B rv.ownBlock) (hr : B.ownsRow w.heap.size 3 1 rv' (rs.length + 1) (rs.flatMap viC ++ [vi o])) :
    RRS w base p X Y s a b c wv rv' ws (rs ++ [o]) (B.setCell ⟨Y, 4, none⟩ rv') := by
  have hY : B.heap[Y]? = _ := (hg.block Y (Array.getElem?_eq_some_iff.1 h.box).1 (row_ne h.ors h.box (by decide))).trans h.box
  have hX : B.heap[X]? = _ := (hg.block X (Array.getElem?_eq_some_iff.1 h.res).1 (row_ne h.ors h.res (by decide))).trans h.res
  have hor : OwOps w.heap.size B wv ws := World.ownsRow.kept h.ows hg (own_apart' h.ows h.ors (by decide))
  have hrow : OwI w.heap.size B rv' (rs ++ [o]) := by
    show World.ownsRow _ _ _ _ _ _ _
    rw [List.length_append, List.flatMap_append]; simpa [viC] using hr
  have hgro : w.grownBy B (some p) := ⟨hg.os.trans h.gro.os, hg.tape.trans h.gro.tape, hg.output.trans h.gro.output, Nat.le_trans h.gro.size hg.size, fun k hk hne => (hg.block k (Nat.lt_of_lt_of_le hk h.gro.size) (fun e => by have := (World.ownsRow.lt h.ors k e.symm).1; omega)).trans (h.gro.block k hk hne)⟩
  refine ⟨(h.rd.grown h.ors hg (by decide) (by decide)).setO hY (by decide) (by decide) _, ⟨hgro.os, hgro.tape, hgro.output, by simpa [World.setCell] using hgro.size, fun k hk hne => (Bt.cells_other _ rfl (fun e => by subst e; have := h.ly; omega)).trans (hgro.block k hk hne)⟩, Bt.cells_other _ hX h.xy, ?_, own_setO hor hY (by decide) _, own_setO hrow hY (by decide) _, h.px, h.lx, h.ly, h.xy⟩
  exact Bt.cells_set _ hY
def setReady (W : World) (X : Nat) (a b c : Int) (wv rv : Value) : World := ((((W.setCell ⟨X, 0, none⟩ (vi a)).setCell ⟨X, 1, none⟩ (vi b)).setCell ⟨X, 2, none⟩ (vi c)).setCell ⟨X, 3, none⟩ wv).setCell ⟨X, 4, none⟩ rv
theorem gro_setNew {w A : World} {r : Option Nat} {X o : Nat} (h : w.grownBy A r) (hX : w.heap.size ≤ X) (u : Value) : w.grownBy (A.setCell ⟨X, o, none⟩ u) r :=
  ⟨h.os, h.tape, h.output, by simpa [World.setCell] using h.size, fun k hk hne => (Bt.cells_other _ rfl (fun e => by omega)).trans (h.block k hk hne)⟩
theorem RRS.done {w : World} {base p X Y : Nat} {s : Rd} {a b c : Int} {wv rv : Value} {ws : List GOp} {rs : List Int} {W : World} (h : RRS w base p X Y s a b c wv rv ws rs W) :
    (setReady W X a b c wv rv).heap[X]? = some (.cells #[vi a, vi b, vi c, wv, rv] 29) ∧ OwOps w.heap.size (setReady W X a b c wv rv) wv ws ∧ OwI w.heap.size (setReady W X a b c wv rv) rv rs ∧ RdrS base p s (setReady W X a b c wv rv) ∧ w.grownBy (setReady W X a b c wv rv) (some p) := by
  have h0 := h.res
  have h1 := Bt.cells_set (o := 0) (vi a) h0
  have h2 := Bt.cells_set (o := 1) (vi b) h1
  have h3 := Bt.cells_set (o := 2) (vi c) h2
  have h4 := Bt.cells_set (o := 3) wv h3
  have h5 := Bt.cells_set (o := 4) rv h4
  exact ⟨h5, own_setO (own_setO (own_setO (own_setO (own_setO h.ows h0 (by decide) _) h1 (by decide) _) h2 (by decide) _) h3 (by decide) _) h4 (by decide) _,
    own_setO (own_setO (own_setO (own_setO (own_setO h.ors h0 (by decide) _) h1 (by decide) _) h2 (by decide) _) h3 (by decide) _) h4 (by decide) _,
    ((((h.rd.setO h0 (by decide) (by decide) _).setO h1 (by decide) (by decide) _).setO h2 (by decide) (by decide) _).setO h3 (by decide) (by decide) _).setO h4 (by decide) (by decide) _,
    gro_setNew (gro_setNew (gro_setNew (gro_setNew (gro_setNew h.gro h.lx _) h.lx _) h.lx _) h.lx _) h.lx _⟩
theorem RdrS.restLe {base p : Nat} {s : Rd} {W : World} (h : RdrS base p s W) : s.rest.length ≤ 8388608 := by
  obtain ⟨_, v, bs, at', _, _, _, h4, _, h6⟩ := h
  rw [← h6, List.length_drop, bitsOf_length]; omega
set_option maxRecDepth 100000 in
set_option maxHeartbeats 8000000 in
theorem rdyR_call {base p : Nat} {s : Rd} (w : World) (h : RdrS base p s w) :
    Calls Try.prog 30 #[.pointer (some ⟨p, 0, none⟩)] w (RdyRQ base p s w) := by
  have hp := h.lt
  have HW := Lib.hid h
  clear h
  go_enter Try.func30, Try.ntmps30
  go_upto_region 1 with fail
  have hba : w.heap.size < (w.alloc (.cells #[vi 0, vi 0, vi 0, .slice none 0 0, .slice none 0 0] 29)).heap.size := by simp
  have HXA := Lib.hid (Bt.alloc_at w (.cells #[vi 0, vi 0, vi 0, .slice none 0 0, .slice none 0 0] 29))
  have HSA := Lib.hid (HW.out.later ((Below.refl w.heap.size w).alloc (Nat.le_refl _) (.cells #[vi 0, vi 0, vi 0, .slice none 0 0, .slice none 0 0] 29)))
  have HGA := Lib.hid (World.grownBy_alloc w (.cells #[vi 0, vi 0, vi 0, .slice none 0 0, .slice none 0 0] 29) (some p))
  generalize w.alloc (.cells #[vi 0, vi 0, vi 0, .slice none 0 0, .slice none 0 0] 29) = wa at *
  go_upto_region 2 with (first
    | (go_at_call 59; refine (intR_call w2 HS2.out).mono ?_; rintro e3 w3 ⟨z3, s3, rfl, hz3, hr3, hs3, hg3⟩; have HR3 := Lib.hid hr3; have HS3 := Lib.hid hs3; have HG3 := Lib.hid hg3; clear hr3 hs3 hg3)
    | (go_at_call 59; refine (intR_call w1 HS1.out).mono ?_; rintro e2 w2 ⟨z2, s2, rfl, hz2, hr2, hs2, hg2⟩; have HR2 := Lib.hid hr2; have HS2 := Lib.hid hs2; have HG2 := Lib.hid hg2; clear hr2 hs2 hg2)
    | (go_at_call 59; refine (intR_call wa HSA.out).mono ?_; rintro e1 w1 ⟨z1, s1, rfl, hz1, hr1, hs1, hg1⟩; have HR1 := Lib.hid hr1; have HS1 := Lib.hid hs1; have HG1 := Lib.hid hg1; clear hr1 hs1 hg1))
  have HG13 := Lib.hid (gro_trans (gro_trans HG1.out HG2.out) HG3.out)
  have hX3 : w3.heap[w.heap.size]? = some (.cells #[vi 0, vi 0, vi 0, .slice none 0 0, .slice none 0 0] 29) := (HG13.out.block w.heap.size hba (fun e => by have := Option.some.inj e; omega)).trans HXA.out
  have hw3s := HG13.out.size
  have HI3 := Lib.hid (show RRS w base p w.heap.size w3.heap.size s3 z1 z2 z3 (.slice none 0 0) (.slice none 0 0) [] [] (w3.alloc (.cells #[vi z1, vi z2, vi z3, .slice none 0 0, .slice none 0 0] 29)) from
    ⟨HS3.out.later ((Below.refl _ _).alloc (Nat.le_refl _) _), gro_trans (gro_trans HGA.out HG13.out) (World.grownBy_alloc _ _ _), (Below.heap_alloc _ _ _ (by omega)).trans hX3, Bt.alloc_at _ _, World.ownsRow_nil _ _ _ _, World.ownsRow_nil _ _ _ _, hp, Nat.le_refl _, by omega, by omega⟩)
  obtain ⟨X, hXX⟩ : ∃ X, X = w.heap.size := ⟨_, rfl⟩
  obtain ⟨Y, hYY⟩ : ∃ Y, Y = w3.heap.size := ⟨_, rfl⟩
  rw [← hYY] at HI3 ⊢
  rw [show RRS w base p w.heap.size = RRS w base p X by rw [hXX]] at HI3
  rw [← hXX]
  have HXX := Lib.hid hXX
  clear hXX hYY hX3 hw3s HSA HGA HXA HS1 HS2 HS3 HG1 HG2 HG3
  generalize w3.alloc (.cells #[vi z1, vi z2, vi z3, .slice none 0 0, .slice none 0 0] 29) = w4 at *
  go_wp2_with (go_at_call 60; refine (numR_call w4 HI3.out.rd).mono ?_; rintro e5 w5 ⟨n5, s5, rfl, hn5, hr5, hs5, hg5⟩; have HR5 := Lib.hid hr5; have HI5 := Lib.hid (HI3.out.read hg5 hs5); clear hr5 hs5 hg5)
  have hrl := HI5.out.rd.restLe
  go_loopw [4] (fun t wr => ∃ m : Nat, t = .int .u64 (m : Nat) ∧ m < 2 ^ 64 ∧ Hid (∃ (sk : Rd) (wv : Value) (ws : List GOp), RRS w base p X Y sk z1 z2 z3 wv (.slice none 0 0) ws [] wr ∧ RdOK (fun l : List GOp => l.flatMap opL) (LenOk OpBOk ws.length) s5 sk ws ∧ ws.length + m = n5 ∧ (∀ o ∈ ws, OpBOk o) ∧ (sk.bad = 0 → ws.length + sk.rest.length ≤ s5.rest.length) ∧ ws.length ≤ s5.rest.length + 1 ∧ (s5.bad ≠ 0 → ws = []))) (fun t _ => (intOf t).toNat)
  case atStart => exact ⟨n5, rfl, hn5, Lib.hid ⟨s5, _, [], HI5.out, RdOK.none _, by simp, (fun o h => by cases h), (fun _ => by simp), by simp, fun _ => rfl⟩⟩
  case round =>
    obtain ⟨wj, rfl⟩ : ∃ wj : World, wj = wr := ⟨_, rfl⟩
    obtain ⟨m, rfl, hm, HJ⟩ := hrel
    obtain ⟨sk, wv, ws, hI, hR, hn, hok, hlen, hle, hs5b⟩ := HJ.out
    have HI := Lib.hid hI
    have HR := Lib.hid hR
    have HN := Lib.hid hn
    have HOK := Lib.hid hok
    have HLEN := Lib.hid hlen
    have HS5B := Lib.hid hs5b
    clear HJ hI hR hn hok hlen hs5b
    have fin : (m = 0 ∨ sk.bad ≠ 0) → RdOK (seqL opL) (SeqOk OpBOk) s3 sk ws ∧ (ws.length ≤ s3.rest.length + 1) ∧ (s3.bad ≠ 0 → ws = []) := by
      intro hc
      have hRn : RdOK (fun l : List GOp => l.flatMap opL) (LenOk OpBOk n5) s5 sk ws := by
        have hn := HN.out
        rcases hc with h0 | hb
        · rw [h0, Nat.add_zero] at hn; rw [← hn]; exact HR.out
        · exact HR.out.cut hb (by omega)
      refine ⟨HR5.out.dep hRn, ?_, fun h3 => HS5B.out (HR5.out.was h3)⟩
      by_cases h5 : s5.bad = 0
      · have := HR5.out.less h5; omega
      · rw [HS5B.out h5]; simp
    have FIN := Lib.hid fin
    clear fin
    by_cases hm0 : m = 0
    · have h1 : decide ((0 : Int) < m) = false := decide_eq_false (by omega)
      have h2 : decide (0 < m) = false := decide_eq_false (by omega)
      have HM0 := Lib.hid hm0
      clear hm0
      go_wp2_with (go_at_call 60; refine (numR_call wj HI.out.rd).mono ?_; rintro e8 w8 ⟨n8, s8, rfl, hn8, hr8, hs8, hg8⟩; have HR8 := Lib.hid hr8; have HI8 := Lib.hid (HI.out.read hg8 hs8); clear hr8 hs8 hg8)
      have hF1 := FIN.out (.inl HM0.out)
      have hrl8 := HI8.out.rd.restLe
      go_loopw [5] (fun t wr => ∃ m : Nat, t = .int .u64 (m : Nat) ∧ m < 2 ^ 64 ∧ Hid (∃ (sk : Rd) (rv : Value) (rs : List Int), RRS w base p X Y sk z1 z2 z3 wv rv ws rs wr ∧ RdOK (fun l : List Int => l.flatMap intL) (LenOk IntOk rs.length) s8 sk rs ∧ rs.length + m = n8 ∧ (∀ o ∈ rs, IntOk o) ∧ (sk.bad = 0 → rs.length + sk.rest.length ≤ s8.rest.length) ∧ rs.length ≤ s8.rest.length + 1 ∧ (s8.bad ≠ 0 → rs = []))) (fun t _ => (intOf t).toNat)
      case atStart => exact ⟨n8, rfl, hn8, Lib.hid ⟨s8, _, [], HI8.out, RdOK.none _, by simp, (fun o h => by cases h), (fun _ => by simp), by simp, fun _ => rfl⟩⟩
      case round =>
        obtain ⟨wq, rfl⟩ : ∃ wq : World, wq = wr := ⟨_, rfl⟩
        obtain ⟨m', rfl, hm', HJ⟩ := hrel
        obtain ⟨sq, rv, rs, hI, hR, hn, hok, hlen, hle2, hs8b⟩ := HJ.out
        have HQ := Lib.hid hI
        have HRQ := Lib.hid hR
        have HNQ := Lib.hid hn
        have HOKQ := Lib.hid hok
        have HLENQ := Lib.hid hlen
        have HS8B := Lib.hid hs8b
        have HF1 := Lib.hid hF1
        clear HJ hI hR hn hok hlen hs8b hF1
        have fin : (m' = 0 ∨ sq.bad ≠ 0) → RdOK rdyBL RdyBOk s sq ⟨z1, z2, z3, ws, rs⟩ ∧ rs.length ≤ s.rest.length + 1 ∧ ws.length ≤ s.rest.length + 1 ∧ RdyBOk ⟨z1, z2, z3, ws, rs⟩ := by
          intro hc
          have hRn : RdOK (fun l : List Int => l.flatMap intL) (LenOk IntOk n8) s8 sq rs := by
            have hn := HNQ.out
            rcases hc with h0 | hb
            · rw [h0, Nat.add_zero] at hn; rw [← hn]; exact HRQ.out
            · exact HRQ.out.cut hb (by omega)
          have hd := HR8.out.dep hRn
          have hws := HF1.out.2.1
          have hrr := HF1.out.2.2
          have hw64 : ws.length < 2 ^ 64 := by have := HN.out; omega
          have hr64 : rs.length < 2 ^ 64 := by have := HNQ.out; omega
          refine ⟨rdy_read HR1.out HR2.out HR3.out HF1.out.1 hd, ?_, ?_, ⟨hz1, hz2, hz3, ⟨hw64, HOK.out⟩, ⟨hr64, HOKQ.out⟩⟩⟩
          · by_cases h8 : s8.bad = 0
            · have := HR8.out.less h8
              have h6 := (HR8.out.2 h8).1
              have := HF1.out.1.less h6
              have h3 := (HF1.out.1.2 h6).1
              have := HR3.out.less h3
              have h2 := (HR3.out.2 h3).1
              have := HR2.out.less h2
              have h1 := (HR2.out.2 h2).1
              have := HR1.out.less h1
              omega
            · rw [HS8B.out h8]; simp
          · by_cases h3 : s3.bad = 0
            · have := HR3.out.less h3
              have h2 := (HR3.out.2 h3).1
              have := HR2.out.less h2
              have h1 := (HR2.out.2 h2).1
              have := HR1.out.less h1
              omega
            · rw [hrr h3]; simp
        have FIN2 := Lib.hid fin
        clear fin
        by_cases hm0 : m' = 0
        · have h1 : decide ((0 : Int) < m') = false := decide_eq_false (by omega)
          have h2 : decide (0 < m') = false := decide_eq_false (by omega)
          have HC := Lib.hid (show m' = 0 ∨ sq.bad ≠ 0 from .inl hm0)
          clear hm0
          obtain ⟨aw, cw, rfl⟩ := Bt.own_shape HQ.out.ows
          obtain ⟨ar, cr, rfl⟩ := Bt.own_shape HQ.out.ors
          have c0 : wq.cell? ⟨Y, 0, none⟩ = some (vi z1) := by rw [Bt.cell_of HQ.out.box]; rfl
          have c1 : wq.cell? ⟨Y, 1, none⟩ = some (vi z2) := by rw [Bt.cell_of HQ.out.box]; rfl
          have c2 : wq.cell? ⟨Y, 2, none⟩ = some (vi z3) := by rw [Bt.cell_of HQ.out.box]; rfl
          have c3 := HQ.out.y3
          have c4 := HQ.out.y4
          have d0 : ∀ o, wq.frozen? ⟨X, o, none⟩ = false := fun o => Bt.free_of HQ.out.res o
          have e0 : wq.cell? ⟨X, 0, none⟩ = some (vi 0) := by rw [Bt.cell_of HQ.out.res]; rfl
          have e1 : wq.cell? ⟨X, 1, none⟩ = some (vi 0) := by rw [Bt.cell_of HQ.out.res]; rfl
          have e2 : wq.cell? ⟨X, 2, none⟩ = some (vi 0) := by rw [Bt.cell_of HQ.out.res]; rfl
          have e3 : wq.cell? ⟨X, 3, none⟩ = some (.slice none 0 0) := by rw [Bt.cell_of HQ.out.res]; rfl
          have e4 : wq.cell? ⟨X, 4, none⟩ = some (.slice none 0 0) := by rw [Bt.cell_of HQ.out.res]; rfl
          go_wp2_with (go_at_call 61; refine (err_call wq HQ.out.rd).mono ?_; rintro e9 w9 ⟨rfl, rfl⟩)
          change bodyPost _ _ _ _ _ (setReady wq X z1 z2 z3 (.slice aw ws.length cw) (.slice ar rs.length cr))
          have HD := Lib.hid HQ.out.done
          clear c0 c1 c2 c3 c4 d0 e0 e1 e2 e3 e4
          generalize setReady wq X z1 z2 z3 (.slice aw ws.length cw) (.slice ar rs.length cr) = wz at *
          have r0 : wz.cell? ⟨X, 0, none⟩ = some (vi z1) := by rw [Bt.cell_of HD.out.1]; rfl
          have r1 : wz.cell? ⟨X, 1, none⟩ = some (vi z2) := by rw [Bt.cell_of HD.out.1]; rfl
          have r2 : wz.cell? ⟨X, 2, none⟩ = some (vi z3) := by rw [Bt.cell_of HD.out.1]; rfl
          have r3 : wz.cell? ⟨X, 3, none⟩ = some (.slice aw ws.length cw) := by rw [Bt.cell_of HD.out.1]; rfl
          have r4 : wz.cell? ⟨X, 4, none⟩ = some (.slice ar rs.length cr) := by rw [Bt.cell_of HD.out.1]; rfl
          obtain ⟨f1, f2, f3, f4⟩ := FIN2.out HC.out
          exact bodyPost_ret (v := rdyV ⟨.slice aw ws.length cw, .slice ar rs.length cr, ⟨z1, z2, z3, ws, rs⟩⟩) (by simp [results, Try.results30, go_sem, rdyV, rdyC, r0, r1, r2, r3, r4]) rfl ⟨_, sq, rfl, HD.out.2.1, HD.out.2.2.1, f4, f3, f2, f1, HD.out.2.2.2.1, HD.out.2.2.2.2⟩
        · have h1 : decide ((0 : Int) < m') = true := decide_eq_true (by omega)
          have h2 : decide (0 < m') = true := decide_eq_true (by omega)
          by_cases hb : sq.bad = 0
          · have hb1 : (sq.bad == 0) = true := by simp [hb]
            have HB := Lib.hid hb
            clear hb
            go_upto_region 9 with (go_at_call 61; refine (err_call wq HQ.out.rd).mono ?_; rintro e9 w9 ⟨rfl, rfl⟩)
            obtain ⟨m', rfl⟩ : ∃ m'', m' = m'' + 1 := ⟨m' - 1, by omega⟩
            obtain ⟨ar, cr, rfl⟩ := Bt.own_shape HQ.out.ors
            have HID := Lib.hid (HQ.out.drew)
            have y3 := HQ.out.y4
            have y3' := HID.out.y4
            have hwm : IntKind.u64.wrap (m' : Int) = (m' : Int) := by rw [IntKind.wrap_u64]; omega
            have hbw := HQ.out.gro.size
            have hwl : rs.length + 1 ≤ 68719476736 := by omega
            clear hm0
            go_region_law (first
              | (go_simp; go_at_call 59; refine (intR_call _ HID.out.rd).mono ?_; rintro ea1 wa1 ⟨q1, t1, rfl, hq1, hra, hsa, hga⟩; have HRA := Lib.hid hra; have HA1 := Lib.hid (HID.out.read hga hsa); have hbw1 : w.heap.size ≤ wa1.heap.size := Nat.le_trans hbw hga.size; have y3a := HA1.out.y4; have y3a' := (fun o => (HA1.out.alloc o).y4); clear hra hsa hga)
              | (refine step_append_src rfl _ _ 27 rfl eltI w.heap.size rs.length _ ((HA1.out.alloc _).ors) rfl 1 [vi q1] (src_new (cs := #[vi q1]) rfl rfl) rfl (by intro u hu; simp at hu; subst hu; rfl) hwl (by omega) (by simp; omega) ?_; intro vc1 wc1 hoc hgc _; obtain ⟨gc, cc, rfl⟩ := Bt.own_some hoc (by omega); have HC1 := Lib.hid ((HA1.out.alloc (.cells #[vi q1] 3)).addR q1 hgc hoc); have hYc : wc1.heap[Y]? = _ := (hgc.block Y (Array.getElem?_eq_some_iff.1 (HA1.out.alloc (.cells #[vi q1] 3)).box).1 (row_ne (HA1.out.alloc (.cells #[vi q1] 3)).ors (HA1.out.alloc (.cells #[vi q1] 3)).box (by decide))).trans (HA1.out.alloc (.cells #[vi q1] 3)).box; have y3c : wc1.cell? ⟨Y, 4, none⟩ = some (.slice ar rs.length cr) := (by rw [Bt.cell_of hYc]; rfl); have f3c : wc1.frozen? ⟨Y, 4, none⟩ = false := Bt.free_of hYc 4; clear hoc hgc hYc))
            all_goals
              go_wp2
              refine ⟨⟨m', by go_num, by omega, Lib.hid ⟨t1, _, rs ++ [q1], HC1.out, ?_, ?_, ?_, ?_, ?_, ?_⟩⟩, by simp only [intOf]; omega⟩
              · rw [List.length_append]; exact HRQ.out.snoc HRA.out
              · have := HNQ.out; simp; omega
              · intro o ho
                rcases List.mem_append.1 ho with ho | ho
                · exact HOKQ.out o ho
                · simp at ho; subst ho; exact hq1
              · intro h
                have e1 := HRA.out.less h
                have e2 := HLENQ.out HB.out
                have e3 := numL_pos (x := zig q1) (by have := zig_lt hq1.1 hq1.2; omega)
                have e4 : 1 ≤ (intL q1).length := e3
                simp; omega
              · have e2 := HLENQ.out HB.out
                simp; omega
              · intro h
                exact absurd ((HRQ.out.2 HB.out).1) h
          · have hb1 : (sq.bad == 0) = false := by simp [hb]
            have HC := Lib.hid (show m' = 0 ∨ sq.bad ≠ 0 from .inr hb)
            clear hb
            obtain ⟨aw, cw, rfl⟩ := Bt.own_shape HQ.out.ows
            obtain ⟨ar, cr, rfl⟩ := Bt.own_shape HQ.out.ors
            have c0 : wq.cell? ⟨Y, 0, none⟩ = some (vi z1) := by rw [Bt.cell_of HQ.out.box]; rfl
            have c1 : wq.cell? ⟨Y, 1, none⟩ = some (vi z2) := by rw [Bt.cell_of HQ.out.box]; rfl
            have c2 : wq.cell? ⟨Y, 2, none⟩ = some (vi z3) := by rw [Bt.cell_of HQ.out.box]; rfl
            have c3 := HQ.out.y3
            have c4 := HQ.out.y4
            have d0 : ∀ o, wq.frozen? ⟨X, o, none⟩ = false := fun o => Bt.free_of HQ.out.res o
            have e0 : wq.cell? ⟨X, 0, none⟩ = some (vi 0) := by rw [Bt.cell_of HQ.out.res]; rfl
            have e1 : wq.cell? ⟨X, 1, none⟩ = some (vi 0) := by rw [Bt.cell_of HQ.out.res]; rfl
            have e2 : wq.cell? ⟨X, 2, none⟩ = some (vi 0) := by rw [Bt.cell_of HQ.out.res]; rfl
            have e3 : wq.cell? ⟨X, 3, none⟩ = some (.slice none 0 0) := by rw [Bt.cell_of HQ.out.res]; rfl
            have e4 : wq.cell? ⟨X, 4, none⟩ = some (.slice none 0 0) := by rw [Bt.cell_of HQ.out.res]; rfl
            go_wp2_with (go_at_call 61; refine (err_call wq HQ.out.rd).mono ?_; rintro e9 w9 ⟨rfl, rfl⟩)
            change bodyPost _ _ _ _ _ (setReady wq X z1 z2 z3 (.slice aw ws.length cw) (.slice ar rs.length cr))
            have HD := Lib.hid HQ.out.done
            clear c0 c1 c2 c3 c4 d0 e0 e1 e2 e3 e4
            generalize setReady wq X z1 z2 z3 (.slice aw ws.length cw) (.slice ar rs.length cr) = wz at *
            have r0 : wz.cell? ⟨X, 0, none⟩ = some (vi z1) := by rw [Bt.cell_of HD.out.1]; rfl
            have r1 : wz.cell? ⟨X, 1, none⟩ = some (vi z2) := by rw [Bt.cell_of HD.out.1]; rfl
            have r2 : wz.cell? ⟨X, 2, none⟩ = some (vi z3) := by rw [Bt.cell_of HD.out.1]; rfl
            have r3 : wz.cell? ⟨X, 3, none⟩ = some (.slice aw ws.length cw) := by rw [Bt.cell_of HD.out.1]; rfl
            have r4 : wz.cell? ⟨X, 4, none⟩ = some (.slice ar rs.length cr) := by rw [Bt.cell_of HD.out.1]; rfl
            obtain ⟨f1, f2, f3, f4⟩ := FIN2.out HC.out
            exact bodyPost_ret (v := rdyV ⟨.slice aw ws.length cw, .slice ar rs.length cr, ⟨z1, z2, z3, ws, rs⟩⟩) (by simp [results, Try.results30, go_sem, rdyV, rdyC, r0, r1, r2, r3, r4]) rfl ⟨_, sq, rfl, HD.out.2.1, HD.out.2.2.1, f4, f3, f2, f1, HD.out.2.2.2.1, HD.out.2.2.2.2⟩
    · have h1 : decide ((0 : Int) < m) = true := decide_eq_true (by omega)
      have h2 : decide (0 < m) = true := decide_eq_true (by omega)
      by_cases hb : sk.bad = 0
      · have hb1 : (sk.bad == 0) = true := by simp [hb]
        have HB := Lib.hid hb
        clear hb
        go_upto_region 5 with (go_at_call 61; refine (err_call wj HI.out.rd).mono ?_; rintro e7 w7 ⟨rfl, rfl⟩)
        obtain ⟨m, rfl⟩ : ∃ m', m = m' + 1 := ⟨m - 1, by omega⟩
        obtain ⟨aw, cw, rfl⟩ := Bt.own_shape HI.out.ows
        have HID := Lib.hid (HI.out.drew)
        have y3 := HI.out.y3
        have y3' := HID.out.y3
        have hwm : IntKind.u64.wrap (m : Int) = (m : Int) := by rw [IntKind.wrap_u64]; omega
        have hbw := HI.out.gro.size
        have hwl : ws.length + 1 ≤ 68719476736 := by omega
        clear hm0
        go_region_law (first
          | (go_simp; go_at_call 59; refine (intR_call wa1 HA1.out.rd).mono ?_; rintro eb1 wb1 ⟨q2, t2, rfl, hq2, hrb, hsb, hgb⟩; have HRB := Lib.hid hrb; have HB1 := Lib.hid (HA1.out.read hgb hsb); have hbw2 := Nat.le_trans hbw1 hgb.size; have y3b := HB1.out.y3; have y3b' := (fun o => (HB1.out.alloc o).y3); clear hrb hsb hgb)
          | (go_simp; go_at_call 59; refine (intR_call _ HID.out.rd).mono ?_; rintro ea1 wa1 ⟨q1, t1, rfl, hq1, hra, hsa, hga⟩; have HRA := Lib.hid hra; have HA1 := Lib.hid (HID.out.read hga hsa); have hbw1 : w.heap.size ≤ wa1.heap.size := Nat.le_trans hbw hga.size; have y3a := HA1.out.y3; clear hra hsa hga)
          | (refine step_append_src rfl _ _ 26 rfl eltOp w.heap.size ws.length _ ((HB1.out.alloc _).ows) rfl 1 [vi 2, vi q1, vi q2] (src_new (cs := #[vi 2, vi q1, vi q2]) rfl rfl) rfl (by intro u hu; simp at hu; rcases hu with rfl | rfl | rfl <;> rfl) hwl (by omega) (by simp; omega) ?_; intro vc1 wc1 hoc hgc _; obtain ⟨gc, cc, rfl⟩ := Bt.own_some hoc (by omega); have HC1 := Lib.hid ((HB1.out.alloc (.cells #[vi 2, vi q1, vi q2] 55)).addW ⟨2, q1, q2⟩ hgc hoc); have hYc : wc1.heap[Y]? = _ := (hgc.block Y (Array.getElem?_eq_some_iff.1 (HB1.out.alloc (.cells #[vi 2, vi q1, vi q2] 55)).box).1 (row_ne (HB1.out.alloc (.cells #[vi 2, vi q1, vi q2] 55)).ows (HB1.out.alloc (.cells #[vi 2, vi q1, vi q2] 55)).box (by decide))).trans (HB1.out.alloc (.cells #[vi 2, vi q1, vi q2] 55)).box; have y3c : wc1.cell? ⟨Y, 3, none⟩ = some (.slice aw ws.length cw) := (by rw [Bt.cell_of hYc]; rfl); have f3c : wc1.frozen? ⟨Y, 3, none⟩ = false := Bt.free_of hYc 3; clear hoc hgc hYc))
        all_goals
          go_wp2
          refine ⟨⟨m, by go_num, by omega, Lib.hid ⟨t2, _, ws ++ [⟨2, q1, q2⟩], HC1.out, ?_, ?_, ?_, ?_, ?_, ?_⟩⟩, by simp only [intOf]; omega⟩
          · rw [List.length_append]; exact HR.out.snoc (op_read HRA.out HRB.out)
          · have := HN.out; simp; omega
          · intro o ho
            rcases List.mem_append.1 ho with ho | ho
            · exact HOK.out o ho
            · simp at ho; subst ho; exact ⟨rfl, hq1, hq2⟩
          · intro h
            have e1 := (op_read HRA.out HRB.out).less h
            have e2 := HLEN.out HB.out
            have e3 := numL_pos (x := zig q1) (by have := zig_lt hq1.1 hq1.2; omega)
            have e4 : 1 ≤ (opL ⟨2, q1, q2⟩).length := by unfold opL; rw [List.length_append]; exact Nat.le_trans e3 (Nat.le_add_right _ _)
            simp; omega
          · have e2 := HLEN.out HB.out
            simp; omega
          · intro h
            exact absurd ((HR.out.2 HB.out).1) h
      · have hb1 : (sk.bad == 0) = false := by simp [hb]
        have HB := Lib.hid hb
        clear hb
        go_wp2_with (first | (go_at_call 60; refine (numR_call wj HI.out.rd).mono ?_; rintro e8 w8 ⟨n8, s8, rfl, hn8, hr8, hs8, hg8⟩; have HR8 := Lib.hid hr8; have HI8 := Lib.hid (HI.out.read hg8 hs8); clear hr8 hs8 hg8) | (go_at_call 61; refine (err_call wj HI.out.rd).mono ?_; rintro e7 w7 ⟨rfl, rfl⟩))
        have hF1 := FIN.out (.inr HB.out)
        have hrl8 := HI8.out.rd.restLe
        go_loopw [5] (fun t wr => ∃ m : Nat, t = .int .u64 (m : Nat) ∧ m < 2 ^ 64 ∧ Hid (∃ (sk : Rd) (rv : Value) (rs : List Int), RRS w base p X Y sk z1 z2 z3 wv rv ws rs wr ∧ RdOK (fun l : List Int => l.flatMap intL) (LenOk IntOk rs.length) s8 sk rs ∧ rs.length + m = n8 ∧ (∀ o ∈ rs, IntOk o) ∧ (sk.bad = 0 → rs.length + sk.rest.length ≤ s8.rest.length) ∧ rs.length ≤ s8.rest.length + 1 ∧ (s8.bad ≠ 0 → rs = []))) (fun t _ => (intOf t).toNat)
        case atStart => exact ⟨n8, rfl, hn8, Lib.hid ⟨s8, _, [], HI8.out, RdOK.none _, by simp, (fun o h => by cases h), (fun _ => by simp), by simp, fun _ => rfl⟩⟩
        case round =>
          obtain ⟨wq, rfl⟩ : ∃ wq : World, wq = wr := ⟨_, rfl⟩
          obtain ⟨m', rfl, hm', HJ⟩ := hrel
          obtain ⟨sq, rv, rs, hI, hR, hn, hok, hlen, hle2, hs8b⟩ := HJ.out
          have HQ := Lib.hid hI
          have HRQ := Lib.hid hR
          have HNQ := Lib.hid hn
          have HOKQ := Lib.hid hok
          have HLENQ := Lib.hid hlen
          have HS8B := Lib.hid hs8b
          have HF1 := Lib.hid hF1
          clear HJ hI hR hn hok hlen hs8b hF1
          have fin : (m' = 0 ∨ sq.bad ≠ 0) → RdOK rdyBL RdyBOk s sq ⟨z1, z2, z3, ws, rs⟩ ∧ rs.length ≤ s.rest.length + 1 ∧ ws.length ≤ s.rest.length + 1 ∧ RdyBOk ⟨z1, z2, z3, ws, rs⟩ := by
            intro hc
            have hRn : RdOK (fun l : List Int => l.flatMap intL) (LenOk IntOk n8) s8 sq rs := by
              have hn := HNQ.out
              rcases hc with h0 | hb
              · rw [h0, Nat.add_zero] at hn; rw [← hn]; exact HRQ.out
              · exact HRQ.out.cut hb (by omega)
            have hd := HR8.out.dep hRn
            have hws := HF1.out.2.1
            have hrr := HF1.out.2.2
            have hw64 : ws.length < 2 ^ 64 := by have := HN.out; omega
            have hr64 : rs.length < 2 ^ 64 := by have := HNQ.out; omega
            refine ⟨rdy_read HR1.out HR2.out HR3.out HF1.out.1 hd, ?_, ?_, ⟨hz1, hz2, hz3, ⟨hw64, HOK.out⟩, ⟨hr64, HOKQ.out⟩⟩⟩
            · by_cases h8 : s8.bad = 0
              · have := HR8.out.less h8
                have h6 := (HR8.out.2 h8).1
                have := HF1.out.1.less h6
                have h3 := (HF1.out.1.2 h6).1
                have := HR3.out.less h3
                have h2 := (HR3.out.2 h3).1
                have := HR2.out.less h2
                have h1 := (HR2.out.2 h2).1
                have := HR1.out.less h1
                omega
              · rw [HS8B.out h8]; simp
            · by_cases h3 : s3.bad = 0
              · have := HR3.out.less h3
                have h2 := (HR3.out.2 h3).1
                have := HR2.out.less h2
                have h1 := (HR2.out.2 h2).1
                have := HR1.out.less h1
                omega
              · rw [hrr h3]; simp
          have FIN2 := Lib.hid fin
          clear fin
          by_cases hm0 : m' = 0
          · have h1 : decide ((0 : Int) < m') = false := decide_eq_false (by omega)
            have h2 : decide (0 < m') = false := decide_eq_false (by omega)
            have HC := Lib.hid (show m' = 0 ∨ sq.bad ≠ 0 from .inl hm0)
            clear hm0
            obtain ⟨aw, cw, rfl⟩ := Bt.own_shape HQ.out.ows
            obtain ⟨ar, cr, rfl⟩ := Bt.own_shape HQ.out.ors
            have c0 : wq.cell? ⟨Y, 0, none⟩ = some (vi z1) := by rw [Bt.cell_of HQ.out.box]; rfl
            have c1 : wq.cell? ⟨Y, 1, none⟩ = some (vi z2) := by rw [Bt.cell_of HQ.out.box]; rfl
            have c2 : wq.cell? ⟨Y, 2, none⟩ = some (vi z3) := by rw [Bt.cell_of HQ.out.box]; rfl
            have c3 := HQ.out.y3
            have c4 := HQ.out.y4
            have d0 : ∀ o, wq.frozen? ⟨X, o, none⟩ = false := fun o => Bt.free_of HQ.out.res o
            have e0 : wq.cell? ⟨X, 0, none⟩ = some (vi 0) := by rw [Bt.cell_of HQ.out.res]; rfl
            have e1 : wq.cell? ⟨X, 1, none⟩ = some (vi 0) := by rw [Bt.cell_of HQ.out.res]; rfl
            have e2 : wq.cell? ⟨X, 2, none⟩ = some (vi 0) := by rw [Bt.cell_of HQ.out.res]; rfl
            have e3 : wq.cell? ⟨X, 3, none⟩ = some (.slice none 0 0) := by rw [Bt.cell_of HQ.out.res]; rfl
            have e4 : wq.cell? ⟨X, 4, none⟩ = some (.slice none 0 0) := by rw [Bt.cell_of HQ.out.res]; rfl
            go_wp2_with (go_at_call 61; refine (err_call wq HQ.out.rd).mono ?_; rintro e9 w9 ⟨rfl, rfl⟩)
            change bodyPost _ _ _ _ _ (setReady wq X z1 z2 z3 (.slice aw ws.length cw) (.slice ar rs.length cr))
            have HD := Lib.hid HQ.out.done
            clear c0 c1 c2 c3 c4 d0 e0 e1 e2 e3 e4
            generalize setReady wq X z1 z2 z3 (.slice aw ws.length cw) (.slice ar rs.length cr) = wz at *
            have r0 : wz.cell? ⟨X, 0, none⟩ = some (vi z1) := by rw [Bt.cell_of HD.out.1]; rfl
            have r1 : wz.cell? ⟨X, 1, none⟩ = some (vi z2) := by rw [Bt.cell_of HD.out.1]; rfl
            have r2 : wz.cell? ⟨X, 2, none⟩ = some (vi z3) := by rw [Bt.cell_of HD.out.1]; rfl
            have r3 : wz.cell? ⟨X, 3, none⟩ = some (.slice aw ws.length cw) := by rw [Bt.cell_of HD.out.1]; rfl
            have r4 : wz.cell? ⟨X, 4, none⟩ = some (.slice ar rs.length cr) := by rw [Bt.cell_of HD.out.1]; rfl
            obtain ⟨f1, f2, f3, f4⟩ := FIN2.out HC.out
            exact bodyPost_ret (v := rdyV ⟨.slice aw ws.length cw, .slice ar rs.length cr, ⟨z1, z2, z3, ws, rs⟩⟩) (by simp [results, Try.results30, go_sem, rdyV, rdyC, r0, r1, r2, r3, r4]) rfl ⟨_, sq, rfl, HD.out.2.1, HD.out.2.2.1, f4, f3, f2, f1, HD.out.2.2.2.1, HD.out.2.2.2.2⟩
          · have h1 : decide ((0 : Int) < m') = true := decide_eq_true (by omega)
            have h2 : decide (0 < m') = true := decide_eq_true (by omega)
            by_cases hb : sq.bad = 0
            · have hb1 : (sq.bad == 0) = true := by simp [hb]
              have HB := Lib.hid hb
              clear hb
              go_upto_region 9 with (go_at_call 61; refine (err_call wq HQ.out.rd).mono ?_; rintro e9 w9 ⟨rfl, rfl⟩)
              obtain ⟨m', rfl⟩ : ∃ m'', m' = m'' + 1 := ⟨m' - 1, by omega⟩
              obtain ⟨ar, cr, rfl⟩ := Bt.own_shape HQ.out.ors
              have HID := Lib.hid (HQ.out.drew)
              have y3 := HQ.out.y4
              have y3' := HID.out.y4
              have hwm : IntKind.u64.wrap (m' : Int) = (m' : Int) := by rw [IntKind.wrap_u64]; omega
              have hbw := HQ.out.gro.size
              have hwl : rs.length + 1 ≤ 68719476736 := by omega
              clear hm0
              go_region_law (first
                | (go_simp; go_at_call 59; refine (intR_call _ HID.out.rd).mono ?_; rintro ea1 wa1 ⟨q1, t1, rfl, hq1, hra, hsa, hga⟩; have HRA := Lib.hid hra; have HA1 := Lib.hid (HID.out.read hga hsa); have hbw1 : w.heap.size ≤ wa1.heap.size := Nat.le_trans hbw hga.size; have y3a := HA1.out.y4; have y3a' := (fun o => (HA1.out.alloc o).y4); clear hra hsa hga)
                | (refine step_append_src rfl _ _ 27 rfl eltI w.heap.size rs.length _ ((HA1.out.alloc _).ors) rfl 1 [vi q1] (src_new (cs := #[vi q1]) rfl rfl) rfl (by intro u hu; simp at hu; subst hu; rfl) hwl (by omega) (by simp; omega) ?_; intro vc1 wc1 hoc hgc _; obtain ⟨gc, cc, rfl⟩ := Bt.own_some hoc (by omega); have HC1 := Lib.hid ((HA1.out.alloc (.cells #[vi q1] 3)).addR q1 hgc hoc); have hYc : wc1.heap[Y]? = _ := (hgc.block Y (Array.getElem?_eq_some_iff.1 (HA1.out.alloc (.cells #[vi q1] 3)).box).1 (row_ne (HA1.out.alloc (.cells #[vi q1] 3)).ors (HA1.out.alloc (.cells #[vi q1] 3)).box (by decide))).trans (HA1.out.alloc (.cells #[vi q1] 3)).box; have y3c : wc1.cell? ⟨Y, 4, none⟩ = some (.slice ar rs.length cr) := (by rw [Bt.cell_of hYc]; rfl); have f3c : wc1.frozen? ⟨Y, 4, none⟩ = false := Bt.free_of hYc 4; clear hoc hgc hYc))
              all_goals
                go_wp2
                refine ⟨⟨m', by go_num, by omega, Lib.hid ⟨t1, _, rs ++ [q1], HC1.out, ?_, ?_, ?_, ?_, ?_, ?_⟩⟩, by simp only [intOf]; omega⟩
                · rw [List.length_append]; exact HRQ.out.snoc HRA.out
                · have := HNQ.out; simp; omega
                · intro o ho
                  rcases List.mem_append.1 ho with ho | ho
                  · exact HOKQ.out o ho
                  · simp at ho; subst ho; exact hq1
                · intro h
                  have e1 := HRA.out.less h
                  have e2 := HLENQ.out HB.out
                  have e3 := numL_pos (x := zig q1) (by have := zig_lt hq1.1 hq1.2; omega)
                  have e4 : 1 ≤ (intL q1).length := e3
                  simp; omega
                · have e2 := HLENQ.out HB.out
                  simp; omega
                · intro h
                  exact absurd ((HRQ.out.2 HB.out).1) h
            · have hb1 : (sq.bad == 0) = false := by simp [hb]
              have HC := Lib.hid (show m' = 0 ∨ sq.bad ≠ 0 from .inr hb)
              clear hb
              obtain ⟨aw, cw, rfl⟩ := Bt.own_shape HQ.out.ows
              obtain ⟨ar, cr, rfl⟩ := Bt.own_shape HQ.out.ors
              have c0 : wq.cell? ⟨Y, 0, none⟩ = some (vi z1) := by rw [Bt.cell_of HQ.out.box]; rfl
              have c1 : wq.cell? ⟨Y, 1, none⟩ = some (vi z2) := by rw [Bt.cell_of HQ.out.box]; rfl
              have c2 : wq.cell? ⟨Y, 2, none⟩ = some (vi z3) := by rw [Bt.cell_of HQ.out.box]; rfl
              have c3 := HQ.out.y3
              have c4 := HQ.out.y4
              have d0 : ∀ o, wq.frozen? ⟨X, o, none⟩ = false := fun o => Bt.free_of HQ.out.res o
              have e0 : wq.cell? ⟨X, 0, none⟩ = some (vi 0) := by rw [Bt.cell_of HQ.out.res]; rfl
              have e1 : wq.cell? ⟨X, 1, none⟩ = some (vi 0) := by rw [Bt.cell_of HQ.out.res]; rfl
              have e2 : wq.cell? ⟨X, 2, none⟩ = some (vi 0) := by rw [Bt.cell_of HQ.out.res]; rfl
              have e3 : wq.cell? ⟨X, 3, none⟩ = some (.slice none 0 0) := by rw [Bt.cell_of HQ.out.res]; rfl
              have e4 : wq.cell? ⟨X, 4, none⟩ = some (.slice none 0 0) := by rw [Bt.cell_of HQ.out.res]; rfl
              go_wp2_with (go_at_call 61; refine (err_call wq HQ.out.rd).mono ?_; rintro e9 w9 ⟨rfl, rfl⟩)
              change bodyPost _ _ _ _ _ (setReady wq X z1 z2 z3 (.slice aw ws.length cw) (.slice ar rs.length cr))
              have HD := Lib.hid HQ.out.done
              clear c0 c1 c2 c3 c4 d0 e0 e1 e2 e3 e4
              generalize setReady wq X z1 z2 z3 (.slice aw ws.length cw) (.slice ar rs.length cr) = wz at *
              have r0 : wz.cell? ⟨X, 0, none⟩ = some (vi z1) := by rw [Bt.cell_of HD.out.1]; rfl
              have r1 : wz.cell? ⟨X, 1, none⟩ = some (vi z2) := by rw [Bt.cell_of HD.out.1]; rfl
              have r2 : wz.cell? ⟨X, 2, none⟩ = some (vi z3) := by rw [Bt.cell_of HD.out.1]; rfl
              have r3 : wz.cell? ⟨X, 3, none⟩ = some (.slice aw ws.length cw) := by rw [Bt.cell_of HD.out.1]; rfl
              have r4 : wz.cell? ⟨X, 4, none⟩ = some (.slice ar rs.length cr) := by rw [Bt.cell_of HD.out.1]; rfl
              obtain ⟨f1, f2, f3, f4⟩ := FIN2.out HC.out
              exact bodyPost_ret (v := rdyV ⟨.slice aw ws.length cw, .slice ar rs.length cr, ⟨z1, z2, z3, ws, rs⟩⟩) (by simp [results, Try.results30, go_sem, rdyV, rdyC, r0, r1, r2, r3, r4]) rfl ⟨_, sq, rfl, HD.out.2.1, HD.out.2.2.1, f4, f3, f2, f1, HD.out.2.2.2.1, HD.out.2.2.2.2⟩
end Go.Proofs.Ytbadpfcjoobniaa

namespace Go.Proofs.Ytbadpfcjoobniaa
open Go.RowKit Go.Maps

set_option maxRecDepth 100000 in
set_option maxHeartbeats 8000000 in
theorem ready_call (x : RV) (w : World) (hv : ∃ a c a' c', x.wv = .slice a x.r.writes.length c ∧ x.rv = .slice a' x.r.reads.length c') :
    Calls Try.prog 19 #[rdyV x] w fun e w' => e = .returned (rdyV x) ∧ Below w.heap.size w w' := by
  obtain ⟨wv, rv, r⟩ := x
  obtain ⟨a, c, a', c', h1, h2⟩ := hv
  simp only at h1 h2
  subst h1 h2
  unfold rdyV rdyC
  go_enter Try.func19, Try.ntmps19
  go_wp2_with fail
  refine bodyPost_ret (v := rdyV ⟨.slice a r.writes.length c, .slice a' r.reads.length c', r⟩) (by simp [results, Try.results19, go_sem, rdyV, rdyC]) rfl ⟨rfl, ?_⟩
  exact ((Below.refl _ _).alloc (Nat.le_refl _) _).alloc (by simp) _

set_option maxRecDepth 100000 in
set_option maxHeartbeats 8000000 in
theorem same_call (x y : RV) (w : World) (hx : RdyS w x) (hy : RdyS w y) (he : x.r = y.r) :
    Calls Try.prog 23 #[rdyV x, rdyV y] w fun e w' => e = .returned (.bool true) ∧ Below w.heap.size w w' := by
  obtain ⟨wv, rv, r⟩ := x
  obtain ⟨wv', rv', r'⟩ := y
  simp only at he
  subst he
  obtain ⟨aw, nw, cw, hwv, rfl, hmw, -⟩ := (show RdOps w wv r.writes from hx.ws).at
  obtain ⟨ar, nr, cr, hrv, rfl, hmr, -⟩ := (show RdInts w rv r.reads from hx.rs).at
  obtain ⟨aw', nw, cw', hwv', rfl, -, -⟩ := (show RdOps w wv' r.writes from hy.ws).at
  obtain ⟨ar', nr, cr', hrv', rfl, -, -⟩ := (show RdInts w rv' r.reads from hy.rs).at
  subst hwv hrv hwv' hrv'
  have HX := Lib.hid hx
  have HY := Lib.hid hy
  clear hx hy
  have HB := Lib.hid (show Below w.heap.size w ((w.alloc (.cells (rdyC ⟨.slice aw r.writes.length cw, .slice ar r.reads.length cr, r⟩) 29)).alloc (.cells (rdyC ⟨.slice aw' r.writes.length cw', .slice ar' r.reads.length cr', r⟩) 58)) from ((Below.refl _ _).alloc (Nat.le_refl _) _).alloc (by simp) _)
  have HA : ((w.alloc (.cells (rdyC ⟨.slice aw r.writes.length cw, .slice ar r.reads.length cr, r⟩) 29)).alloc (.cells (rdyC ⟨.slice aw' r.writes.length cw', .slice ar' r.reads.length cr', r⟩) 58)).heap[w.heap.size]? = some (.cells (rdyC ⟨.slice aw r.writes.length cw, .slice ar r.reads.length cr, r⟩) 29) := (Below.heap_alloc _ _ _ (by simp)).trans (alloc_at w _)
  have HC : ((w.alloc (.cells (rdyC ⟨.slice aw r.writes.length cw, .slice ar r.reads.length cr, r⟩) 29)).alloc (.cells (rdyC ⟨.slice aw' r.writes.length cw', .slice ar' r.reads.length cr', r⟩) 58)).heap[w.heap.size + 1]? = some (.cells (rdyC ⟨.slice aw' r.writes.length cw', .slice ar' r.reads.length cr', r⟩) 58) := by
    have := alloc_at (w.alloc (.cells (rdyC ⟨.slice aw r.writes.length cw, .slice ar r.reads.length cr, r⟩) 29)) (.cells (rdyC ⟨.slice aw' r.writes.length cw', .slice ar' r.reads.length cr', r⟩) 58)
    simpa using this
  have HA := Lib.hid HA
  have HC := Lib.hid HC
  unfold rdyV rdyC at *
  simp only at HA HC HB
  go_enter Try.func23, Try.ntmps23
  go_upto_region 1 with fail
  generalize ((w.alloc (.cells #[vi r.txn, vi r.home, vi r.start, .slice aw r.writes.length cw, .slice ar r.reads.length cr] 29)).alloc (.cells #[vi r.txn, vi r.home, vi r.start, .slice aw' r.writes.length cw', .slice ar' r.reads.length cr'] 58)) = w1 at *
  obtain ⟨X, hX⟩ : ∃ X, X = w.heap.size := ⟨_, rfl⟩
  rw [← hX] at HA HC ⊢
  have HXE := Lib.hid hX
  have hXl : X + 1 < w1.heap.size := (Array.getElem?_eq_some_iff.1 HC.out).1
  clear hX
  have HCX := Lib.hid (show ∀ W, Below w1.heap.size w1 W → W.heap[X]? = some (.cells #[vi r.txn, vi r.home, vi r.start, .slice aw r.writes.length cw, .slice ar r.reads.length cr] 29) ∧ W.heap[X + 1]? = some (.cells #[vi r.txn, vi r.home, vi r.start, .slice aw' r.writes.length cw', .slice ar' r.reads.length cr'] 58) from
    fun W hW => ⟨(hW.block X (by omega)).trans HA.out, (hW.block (X + 1) hXl).trans HC.out⟩)
  have a0 : w1.cell? ⟨X, 0, none⟩ = some (vi r.txn) := by rw [cell_of HA.out]; rfl
  have a1 : w1.cell? ⟨X, 1, none⟩ = some (vi r.home) := by rw [cell_of HA.out]; rfl
  have a2 : w1.cell? ⟨X, 2, none⟩ = some (vi r.start) := by rw [cell_of HA.out]; rfl
  have a3 : w1.cell? ⟨X, 3, none⟩ = some (.slice aw r.writes.length cw) := by rw [cell_of HA.out]; rfl
  have a4 : w1.cell? ⟨X, 4, none⟩ = some (.slice ar r.reads.length cr) := by rw [cell_of HA.out]; rfl
  have b0 : w1.cell? ⟨X + 1, 0, none⟩ = some (vi r.txn) := by rw [cell_of HC.out]; rfl
  have b1 : w1.cell? ⟨X + 1, 1, none⟩ = some (vi r.home) := by rw [cell_of HC.out]; rfl
  have b2 : w1.cell? ⟨X + 1, 2, none⟩ = some (vi r.start) := by rw [cell_of HC.out]; rfl
  have b3 : w1.cell? ⟨X + 1, 3, none⟩ = some (.slice aw' r.writes.length cw') := by rw [cell_of HC.out]; rfl
  have b4 : w1.cell? ⟨X + 1, 4, none⟩ = some (.slice ar' r.reads.length cr') := by rw [cell_of HC.out]; rfl
  go_wp2_with fail
  go_loopw [47] (fun i wr => ∃ k : Nat, k ≤ r.writes.length ∧ i = vi k ∧ Hid (Below w1.heap.size w1 wr)) (fun i _ => r.writes.length - (intOf i).toNat)
  case atStart => exact ⟨0, Nat.zero_le _, rfl, Lib.hid (Below.refl _ _)⟩
  case round =>
    obtain ⟨wj, rfl⟩ : ∃ wj : World, wj = wr := ⟨_, rfl⟩
    obtain ⟨k, hk, rfl, HJ⟩ := hrel
    clear a0 a1 a2 a3 a4 b0 b1 b2 b3 b4
    by_cases hlt : k < r.writes.length
    · have k1 : decide ((k : Int) < r.writes.length) = true := decide_eq_true (by omega)
      have k2 : (k : Int) < r.writes.length := by omega
      have hwk : IntKind.i64.wrap ((k : Int) + 1) = (k : Int) + 1 := IntWalk.i64_in _ (by omega)
      have a3 : wj.cell? ⟨X, 3, none⟩ = some (.slice aw r.writes.length cw) := by rw [cell_of (HCX.out wj HJ.out).1]; rfl
      have b3 : wj.cell? ⟨X + 1, 3, none⟩ = some (.slice aw' r.writes.length cw') := by rw [cell_of (HCX.out wj HJ.out).2]; rfl
      obtain ⟨o, ho⟩ := some_at hlt
      have HWJ := Lib.hid (HB.out.trans (HJ.out.mono (by have := HB.out.size; omega)))
      obtain ⟨_, _, _, he, _, _, hc⟩ := (show RdOps wj (.slice aw r.writes.length cw) r.writes from (HX.out.later HWJ.out).ws).at
      obtain ⟨g, off, ha, c0, c1, c2⟩ := hc k o ho
      simp only [Value.slice.injEq] at he
      obtain ⟨rfl, -, -⟩ := he
      subst ha
      obtain ⟨_, _, _, he, _, _, hc'⟩ := (show RdOps wj (.slice aw' r.writes.length cw') r.writes from (HY.out.later HWJ.out).ws).at
      obtain ⟨g', off', ha, d0, d1, d2⟩ := hc' k o ho
      simp only [Value.slice.injEq] at he
      obtain ⟨rfl, -, -⟩ := he
      subst ha
      clear hc hc' ho
      go_wp2_with fail
      go_quiet (fail)
      go_wp2_with fail
      exact ⟨⟨k + 1, by omega, by go_num, Lib.hid (HJ.out.trans ⟨rfl, rfl, rfl, Nat.le_refl _, fun _ _ => rfl⟩)⟩, by simp only [intOf]; omega⟩
    · have k1 : decide ((k : Int) < r.writes.length) = false := decide_eq_false (by omega)
      have a4 : wj.cell? ⟨X, 4, none⟩ = some (.slice ar r.reads.length cr) := by rw [cell_of (HCX.out wj HJ.out).1]; rfl
      go_wp2_with fail
      go_loopw [65] (fun i wr => ∃ k : Nat, k ≤ r.reads.length ∧ i = vi k ∧ Hid (Below w1.heap.size w1 wr)) (fun i _ => r.reads.length - (intOf i).toNat)
      case atStart => exact ⟨0, Nat.zero_le _, rfl, Lib.hid HJ.out⟩
      case round =>
        obtain ⟨wq, rfl⟩ : ∃ wq : World, wq = wr := ⟨_, rfl⟩
        obtain ⟨q, hq, rfl, HQ⟩ := hrel
        clear a4
        have HWQ := Lib.hid (HB.out.trans (HQ.out.mono (by have := HB.out.size; omega)))
        by_cases hlt2 : q < r.reads.length
        · have k1 : decide ((q : Int) < r.reads.length) = true := decide_eq_true (by omega)
          have k2 : (q : Int) < r.reads.length := by omega
          have hwk : IntKind.i64.wrap ((q : Int) + 1) = (q : Int) + 1 := IntWalk.i64_in _ (by omega)
          have a4 : wq.cell? ⟨X, 4, none⟩ = some (.slice ar r.reads.length cr) := by rw [cell_of (HCX.out wq HQ.out).1]; rfl
          have b4 : wq.cell? ⟨X + 1, 4, none⟩ = some (.slice ar' r.reads.length cr') := by rw [cell_of (HCX.out wq HQ.out).2]; rfl
          obtain ⟨o, ho⟩ := some_at hlt2
          obtain ⟨_, _, _, he, _, _, hc⟩ := (show RdInts wq (.slice ar r.reads.length cr) r.reads from (HX.out.later HWQ.out).rs).at
          obtain ⟨g, off, ha, c0, -⟩ := hc q o ho
          simp only [Value.slice.injEq] at he
          obtain ⟨rfl, -, -⟩ := he
          subst ha
          obtain ⟨_, _, _, he, _, _, hc'⟩ := (show RdInts wq (.slice ar' r.reads.length cr') r.reads from (HY.out.later HWQ.out).rs).at
          obtain ⟨g', off', ha, d0, -⟩ := hc' q o ho
          simp only [Value.slice.injEq] at he
          obtain ⟨rfl, -, -⟩ := he
          subst ha
          clear hc hc' ho
          go_wp2_with fail
          go_quiet (fail)
          go_wp2_with fail
          exact ⟨⟨q + 1, by omega, by go_num, Lib.hid (HQ.out.trans ⟨rfl, rfl, rfl, Nat.le_refl _, fun _ _ => rfl⟩)⟩, by simp only [intOf]; omega⟩
        · have k1 : decide ((q : Int) < r.reads.length) = false := decide_eq_false (by omega)
          go_wp2_with fail
          go_ret
          exact ⟨rfl, HWQ.out⟩
end Go.Proofs.Ytbadpfcjoobniaa

namespace Go.Proofs.Ytbadpfcjoobniaa
open Go.RowKit Go.Maps

theorem rdv_sl {W : World} {x : RV} (h : RdyS W x) : ∃ (a : Option Addr) (c : Nat) (a' : Option Addr) (c' : Nat), x.wv = .slice a x.r.writes.length c ∧ x.rv = .slice a' x.r.reads.length c' ∧ x.r.writes.length ≤ 9223372036854775807 ∧ x.r.reads.length ≤ 9223372036854775807 := by
  obtain ⟨a, n, c, h1, h2, h3, -⟩ := (show RdOps W x.wv x.r.writes from h.ws).at
  obtain ⟨a', n', c', h1', h2', h3', -⟩ := (show RdInts W x.rv x.r.reads from h.rs).at
  exact ⟨a, c, a', c', by rw [h1, h2], by rw [h1', h2'], h3, h3'⟩
theorem RdyI.ok {r : Rdy} (h : RdyI r) : RdyOk r := ⟨h.txn, h.home, h.start, fun o ho => (h.ws o ho).2, h.rs⟩
theorem own01_mono {b b' : Nat} {w : World} {v : Value} {L : List Bool} (h : Ow01 b w v L) (hb : b' ≤ b) : Ow01 b' w v L := own_mono h hb
theorem own01_below {b : Nat} {w w' : World} {v : Value} {L : List Bool} (h : Ow01 b w v L) (hb : Below w.heap.size w w') : Ow01 b w' v L := own_below h hb
/-- The law's own state: what was written, what is gathered. -/
structure LawB (w6 : World) (v : Value) (A : List Bool) (W : World) : Prop where
  row : Ow01 w6.heap.size W v A
  bel : Below w6.heap.size w6 W
theorem LawB.sz {w6 : World} {v : Value} {A : List Bool} {W : World} (h : LawB w6 v A W) : w6.heap.size ≤ W.heap.size := h.bel.size
theorem LawB.later {w6 : World} {v : Value} {A : List Bool} {W W' : World} (h : LawB w6 v A W) (hb : Below W.heap.size W W') : LawB w6 v A W' := ⟨own01_below h.row hb, h.bel.trans (hb.mono h.sz)⟩
theorem LawB.more {w6 : World} {v v' : Value} {A C : List Bool} {W W' : World} (h : LawB w6 v A W) (hg : W.grownBy W' v.ownBlock) (hr : W'.ownsRow w6.heap.size 5 1 v' (A.length + C.length) ((b01 A).map u8 ++ (b01 C).map u8)) : LawB w6 v' (A ++ C) W' :=
  ⟨by unfold Ow01; rw [List.length_append, b01_append, List.map_append]; exact hr, h.bel.trans (below_grown hg h.sz (fun k hk => (World.ownsRow.lt h.row k hk).1))⟩
theorem ow01_src {b : Nat} {w : World} {v : Value} {L : List Bool} (h : Ow01 b w v L) : Src w v 1 L.length ((b01 L).map u8) := own_src h

/-- The same transaction, each of its operations a write. -/
def killK (r : Rdy) : Rdy := ⟨r.txn, r.home, r.start, r.writes.map (fun o => ⟨2, o.key, o.val⟩), r.reads⟩
theorem killK_len (r : Rdy) : (killK r).writes.length = r.writes.length := by simp [killK]
theorem killK_bits (r : Rdy) : rdyBL (killK r) = rdyBL r := by
  have : opsBL (r.writes.map (fun o => (⟨2, o.key, o.val⟩ : GOp))) = opsBL r.writes := by
    unfold opsBL; rw [List.flatMap_map]; rfl
  show intL r.txn ++ intL r.home ++ intL r.start ++ numL (r.writes.map _).length ++ opsBL (r.writes.map _) ++ numL r.reads.length ++ intsBL r.reads = _
  rw [this, List.length_map]; rfl
theorem killK_ok {r : Rdy} (h : RdyOk r) (hw : r.writes.length ≤ 20) (hr : r.reads.length ≤ 20) : RdyBOk (killK r) := by
  refine ⟨h.txn, h.home, h.start, ⟨by rw [killK_len]; omega, fun o ho => ?_⟩, ⟨by show r.reads.length < _; omega, h.rs⟩⟩
  obtain ⟨x, hx, rfl⟩ := List.mem_map.1 ho
  exact ⟨rfl, h.ws x hx⟩
theorem killK_at {r : Rdy} {k : Nat} {o : GOp} (h : r.writes[k]? = some o) : (killK r).writes[k]? = some ⟨2, o.key, o.val⟩ := by
  show (r.writes.map _)[k]? = _
  rw [List.getElem?_map, h]; rfl
theorem btBytes_lt (L : List Bool) : ∀ b ∈ btBytes L, b < 256 := by
  intro b hb
  obtain ⟨j, _, rfl⟩ := List.mem_map.1 hb
  exact btByte_lt _ _
theorem sameB_refl {v v' : Value} {a : List Nat} (w : World) (h : Src w v 1 a.length (a.map u8)) (h' : Src w v' 1 a.length (a.map u8)) (ha : ∀ x ∈ a, x < 256) :
    Calls Try.prog 31 #[v, v'] w fun e w' => e = .returned (.bool true) ∧ w = w' :=
  (sameB_call w h h' ha ha).mono fun e w' he => ⟨by rw [he.1, beq_self_eq_true], he.2⟩
theorem end_ok {base p : Nat} {s : Rd} (w : World) (h : RdrS base p s w) (he : atEnd s) :
    Calls Try.prog 33 #[.pointer (some ⟨p, 0, none⟩)] w fun e w' => e = .returned (vi 0) ∧ ∃ n, w' = w.drewN n :=
  (end_call w h).mono fun e w' he2 => by
    obtain ⟨x, h1, h2, _, _, h5⟩ := he2
    rw [h2.2 he] at h1
    exact ⟨h1, h5⟩
theorem gro_below {w w' : World} {B q : Nat} (h : w.grownBy w' (some q)) (hq : B ≤ q) (hB : B ≤ w.heap.size) : Below B w w' :=
  ⟨h.os, h.tape, h.output, h.size, fun j hj => h.block j (by omega) (fun e => by have := Option.some.inj e; omega)⟩
set_option maxRecDepth 100000 in
set_option maxHeartbeats 16000000 in
theorem mvccBits.walk (v0 : Value) (x0 : RV) (w : World) (r0 : RdyV w v0 x0) :
    Calls Try.prog 8 #[v0] w fun e w' => e = .returned (.bool true) ∧ Below w.heap.size w w' := by
  obtain ⟨rfl, s0, i0⟩ := r0
  obtain ⟨wv0, rv0, r⟩ := x0
  obtain ⟨aw, cw, ar, cr, hw0, hr0, lw0, lr0⟩ := rdv_sl s0
  simp only at hw0 hr0 lw0 lr0 i0
  subst hw0 hr0
  have HS := Lib.hid s0
  have HI := Lib.hid i0.ok
  have HB1 := Lib.hid ((Below.refl w.heap.size w).alloc (Nat.le_refl _) (.cells (rdyC ⟨.slice aw r.writes.length cw, .slice ar r.reads.length cr, r⟩) 29))
  have HX1 := Lib.hid (alloc_at w (.cells (rdyC ⟨.slice aw r.writes.length cw, .slice ar r.reads.length cr, r⟩) 29))
  clear s0 i0
  unfold rdyV at *
  unfold rdyC at *
  simp only at HB1 HX1
  go_enter Try.func8, Try.ntmps8
  go_upto_region 1 with fail
  generalize w.alloc (.cells #[vi r.txn, vi r.home, vi r.start, .slice aw r.writes.length cw, .slice ar r.reads.length cr] 29) = w1 at *
  go_wp2_with fail
  refine (head_call w1).mono ?_
  rintro e w2 ⟨rfl, hb2⟩
  have HB2 := Lib.hid (HB1.out.trans (hb2.mono HB1.out.size))
  have HX2 := Lib.hid ((hb2.block _ (Array.getElem?_eq_some_iff.1 HX1.out).1).trans HX1.out)
  clear hb2 HB1 HX1
  dsimp only
  have a0 : w2.cell? ⟨w.heap.size, 0, none⟩ = some (vi r.txn) := by rw [cell_of HX2.out]; rfl
  have a1 : w2.cell? ⟨w.heap.size, 1, none⟩ = some (vi r.home) := by rw [cell_of HX2.out]; rfl
  have a2 : w2.cell? ⟨w.heap.size, 2, none⟩ = some (vi r.start) := by rw [cell_of HX2.out]; rfl
  have a3 : w2.cell? ⟨w.heap.size, 3, none⟩ = some (.slice aw r.writes.length cw) := by rw [cell_of HX2.out]; rfl
  have a4 : w2.cell? ⟨w.heap.size, 4, none⟩ = some (.slice ar r.reads.length cr) := by rw [cell_of HX2.out]; rfl
  go_wp2_with fail
  refine (big_call 0 0 0 false aw ar cw cr r w2 lw0 lr0).mono ?_
  rintro e w3 ⟨rfl, hb3⟩
  have HB3 := Lib.hid (HB2.out.trans (hb3.mono HB2.out.size))
  have HX3 := Lib.hid ((hb3.block _ (Array.getElem?_eq_some_iff.1 HX2.out).1).trans HX2.out)
  clear hb3 a0 a1 a2 a3 a4 HX2
  dsimp only
  obtain ⟨g0, hg0⟩ : ∃ g, bigB r = g := ⟨_, rfl⟩
  rw [hg0]
  have HG0 := Lib.hid hg0
  clear hg0
  cases g0
  rotate_left
  · go_wp2_with fail
    go_ret
    exact ⟨rfl, HB3.out⟩
  obtain ⟨hsw, hsr⟩ := bigB_false HG0.out
  have HW4 := Lib.hid (show WrS w.heap.size w3.heap.size [] (w3.alloc (.cells #[.slice none 0 0, vi 0] 78)) from ⟨HB3.out.size, .slice none 0 0, alloc_at w3 _, ⟨rfl, .inl ⟨rfl, rfl⟩⟩⟩)
  have HB4 := Lib.hid (HB3.out.alloc HB3.out.size (.cells #[.slice none 0 0, vi 0] 78))
  have HX4 := Lib.hid ((Below.heap_alloc w3 (.cells #[.slice none 0 0, vi 0] 78) w.heap.size (Array.getElem?_eq_some_iff.1 HX3.out).1).trans HX3.out)
  have hXP : w.heap.size < w3.heap.size := (Array.getElem?_eq_some_iff.1 HX3.out).1
  go_upto_region 6 with fail
  generalize w3.alloc (.cells #[.slice none 0 0, vi 0] 78) = w4 at *
  obtain ⟨X, hX⟩ : ∃ X, X = w.heap.size := ⟨_, rfl⟩
  obtain ⟨p, hp⟩ : ∃ p, p = w3.heap.size := ⟨_, rfl⟩
  rw [← hp] at HW4 hXP ⊢
  rw [← hX] at HX4 hXP ⊢
  have HXE := Lib.hid hX
  have HPE := Lib.hid hp
  clear hX hp HX3
  have a0 : w4.cell? ⟨X, 0, none⟩ = some (vi r.txn) := by rw [cell_of HX4.out]; rfl
  have a1 : w4.cell? ⟨X, 1, none⟩ = some (vi r.home) := by rw [cell_of HX4.out]; rfl
  have a2 : w4.cell? ⟨X, 2, none⟩ = some (vi r.start) := by rw [cell_of HX4.out]; rfl
  have a3 : w4.cell? ⟨X, 3, none⟩ = some (.slice aw r.writes.length cw) := by rw [cell_of HX4.out]; rfl
  have a4 : w4.cell? ⟨X, 4, none⟩ = some (.slice ar r.reads.length cr) := by rw [cell_of HX4.out]; rfl
  have hnXp : X ≠ p := by omega
  go_upto_region 7 with (go_at_call 25; refine (rdyBits_call (base := w.heap.size) (p := p) (L := []) ⟨.slice aw r.writes.length cw, .slice ar r.reads.length cr, r⟩ w4 HW4.out HB4.out.size (fun W hW => HS.out.solid (Solid.below (HB4.out.trans hW))) HI.out (by simp only; omega) (by simp only; omega) (by simp)).mono ?_; rintro e6 w6 ⟨rfl, hw6, hf6⟩; have HW6 := Lib.hid hw6; have HF6 := Lib.hid hf6; clear hw6 hf6)
  have HX6 := Lib.hid (HF6.out.cells HX4.out hnXp (by decide))
  have HB6 := Lib.hid (HB4.out.trans (HF6.out.toBelow HB4.out.size HW4.out.1))
  clear a0 a1 a2 a3 a4 HB2 HB3 HX4 HF6 HW4 HB4
  have HCX := Lib.hid (show ∀ W, Below w6.heap.size w6 W → W.cell? ⟨X, 0, none⟩ = some (vi r.txn) ∧ W.cell? ⟨X, 1, none⟩ = some (vi r.home) ∧ W.cell? ⟨X, 2, none⟩ = some (vi r.start) ∧ W.cell? ⟨X, 3, none⟩ = some (.slice aw r.writes.length cw) ∧ W.cell? ⟨X, 4, none⟩ = some (.slice ar r.reads.length cr) from fun W hW => by
    have h := (hW.block X (Array.getElem?_eq_some_iff.1 HX6.out).1).trans HX6.out
    exact ⟨by rw [cell_of h]; rfl, by rw [cell_of h]; rfl, by rw [cell_of h]; rfl, by rw [cell_of h]; rfl, by rw [cell_of h]; rfl⟩)
  have hl1 := intL_length HI.out.txn
  have hl2 := intL_length HI.out.home
  have hl3 := intL_length HI.out.start
  have hs1 : (intL r.txn).length + (intL r.home).length ≤ 68719476736 := by omega
  have hs2 : (intL r.txn ++ intL r.home).length + (intL r.start).length ≤ 68719476736 := by simp; omega
  go_cut [4] (fun v wx => LawB w6 v (intL r.txn ++ intL r.home ++ intL r.start) wx)
  case first =>
    have HS3 := Lib.hid (show ∀ W, Below w6.heap.size w6 W → W.cell? ⟨X, 0, none⟩ = some (vi r.txn) ∧ W.cell? ⟨X, 1, none⟩ = some (vi r.home) ∧ W.cell? ⟨X, 2, none⟩ = some (vi r.start) from fun W hW => ⟨(HCX.out W hW).1, (HCX.out W hW).2.1, (HCX.out W hW).2.2.1⟩)
    go_region_held3 (fun w' : World => w'.cell? ⟨X, 0, none⟩ = some (vi r.txn) ∧ w'.cell? ⟨X, 1, none⟩ = some (vi r.home) ∧ w'.cell? ⟨X, 2, none⟩ = some (vi r.start))
      (first | exact HS3.out _ HLE.out.bel | exact HS3.out _ HLD.out.bel | exact HS3.out _ HLC.out.bel | exact HS3.out _ HLB.out.bel | exact HS3.out _ HLA.out.bel | exact HS3.out _ ((Below.refl w6.heap.size w6).drew) | exact HS3.out _ (Below.refl w6.heap.size w6))
      (first
        | (go_at_call 26; refine (refInt_call r.start wc1 HI.out.start).mono ?_; rintro ed wd1 ⟨vd, rfl, hod, hbd⟩; have HOD := Lib.hid hod; have HLD := Lib.hid (HLC.out.later hbd); clear hod hbd)
        | (go_at_call 26; refine (refInt_call r.home wa1 HI.out.home).mono ?_; rintro eb wb1 ⟨vb, rfl, hob, hbb⟩; have HOB := Lib.hid hob; have HLB := Lib.hid (HLA.out.later hbb); clear hob hbb)
        | (go_at_call 26; refine (refInt_call r.txn _ HI.out.txn).mono ?_; rintro ea wa1 ⟨va, rfl, hoa, hba⟩; have HLA := Lib.hid (show LawB w6 va (intL r.txn) wa1 from ⟨hoa, ((Below.refl w6.heap.size w6).drew).trans hba⟩); clear hoa hba)
        | (refine step_append_src rfl _ _ 76 rfl eltU8 w6.heap.size (intL r.txn ++ intL r.home).length _ HLD.out.row rfl (intL r.start).length _ (ow01_src HOD.out) rfl (u8_one _) hs2 (by omega) HLD.out.sz ?_; intro ve we1 hoe hge _; have HLE := Lib.hid (HLD.out.more hge hoe); clear hoe hge)
        | (refine step_append_src rfl _ _ 76 rfl eltU8 w6.heap.size (intL r.txn).length _ HLB.out.row rfl (intL r.home).length _ (ow01_src HOB.out) rfl (u8_one _) hs1 (by omega) HLB.out.sz ?_; intro vc wc1 hoc hgc _; have HLC := Lib.hid (HLB.out.more hgc hoc); clear hoc hgc))
    all_goals
      go_wp2
      go_meet
      exact HLE.out
  case rest =>
    obtain ⟨w7, rfl⟩ : ∃ w7 : World, w7 = wc := ⟨_, rfl⟩
    have HL7 := Lib.hid hcut
    obtain ⟨_, _, _, a3, _⟩ := HCX.out w7 hcut.bel
    have hl4 := numL_length r.writes.length (by omega)
    have hl5 := numL_length r.reads.length (by omega)
    have hl6 := opsBL_length r.writes HI.out.ws
    have hl7 := intsBL_length r.reads HI.out.rs
    obtain ⟨L1, hL1⟩ : ∃ L1, L1 = intL r.txn ++ intL r.home ++ intL r.start := ⟨_, rfl⟩
    have hL1l : L1.length ≤ 387 := by rw [hL1]; simp; omega
    rw [← hL1] at HL7
    have HL1 := Lib.hid hL1
    have hwr1 : IntKind.u64.wrap (r.writes.length : Int) = (r.writes.length : Int) := by rw [IntKind.wrap_u64]; omega
    have hs3 : L1.length + (numL r.writes.length).length ≤ 68719476736 := by omega
    clear hL1 hcut
    go_upto_region 9 with (first
      | (refine wpList_append_src rfl (.tmp 35) (.tmp 40) 76 rfl eltU8 w6.heap.size L1.length _ HLA.out.row rfl (numL r.writes.length).length _ (ow01_src HOA.out) rfl (u8_one _) hs3 (by omega) HLA.out.sz ?_; intro vb w8 hob hgb _; have HL8 := Lib.hid (HLA.out.more hgb hob); clear hob hgb)
      | (go_at_call 27; refine (refNum_call r.writes.length _ (by rfl) w7 (by omega)).mono ?_; rintro ea wa1 ⟨va, rfl, hoa, hba⟩; have HOA := Lib.hid hoa; have HLA := Lib.hid (HL7.out.later hba); clear hoa hba))
    obtain ⟨_, _, _, b3, _⟩ := HCX.out w8 HL8.out.bel
    clear a3
    go_wp2_with fail
    go_loopw [4, 45] (fun v i wr => ∃ k : Nat, k ≤ r.writes.length ∧ i = vi k ∧ Hid (LawB w6 v (L1 ++ numL r.writes.length ++ opsBL (r.writes.take k)) wr)) (fun _ i _ => r.writes.length - (intOf i).toNat)
    case atStart => exact ⟨0, Nat.zero_le _, rfl, Lib.hid (by simpa [opsBL] using HL8.out)⟩
    case round =>
      obtain ⟨wj, rfl⟩ : ∃ wj : World, wj = wr := ⟨_, rfl⟩
      obtain ⟨k, hk, rfl, HJ⟩ := hrel
      have HWJ := Lib.hid (HB6.out.trans (HJ.out.bel.mono HB6.out.size))
      by_cases hlt : k < r.writes.length
      · have k1 : decide ((k : Int) < r.writes.length) = true := decide_eq_true (by omega)
        have hwk : IntKind.i64.wrap ((k : Int) + 1) = (k : Int) + 1 := IntWalk.i64_in _ (by omega)
        obtain ⟨o, ho⟩ := some_at hlt
        have HO := Lib.hid ho
        have hoi := HI.out.ws o (List.mem_of_getElem? ho)
        have HLK := Lib.hid (HJ.out.later ((Below.refl wj.heap.size wj).alloc (Nat.le_refl _) (.cells #[vi o.kind, vi o.key, vi o.val] 55)))
        have HYA := Lib.hid (alloc_at wj (.cells #[vi o.kind, vi o.key, vi o.val] 55))
        obtain ⟨a', n', c', he, _, _, hcells⟩ := (show RdOps wj (.slice aw r.writes.length cw) r.writes from (HS.out.solid (Solid.below HWJ.out)).ws).at
        obtain ⟨b, off, ha, c2, c3, c4⟩ := hcells k o ho
        simp only [Value.slice.injEq] at he
        obtain ⟨rfl, -, -⟩ := he
        subst ha
        clear hcells ho HWJ HJ b3
        obtain ⟨A, hA⟩ : ∃ A, A = L1 ++ numL r.writes.length ++ opsBL (r.writes.take k) := ⟨_, rfl⟩
        rw [← hA] at HLK
        have hAl : A.length ≤ 700 + 258 * 20 := by
          have h1 := opsBL_length (r.writes.take k) (fun x hx => HI.out.ws x (List.mem_of_mem_take hx))
          have h2 : (r.writes.take k).length ≤ 20 := by rw [List.length_take]; omega
          rw [hA]; simp only [List.length_append]; omega
        have HAE := Lib.hid hA
        have hq1 := intL_length hoi.1
        have hq2 := intL_length hoi.2
        have hs4 : A.length + (intL o.key).length ≤ 68719476736 := by omega
        have hs5 : (A ++ intL o.key).length + (intL o.val).length ≤ 68719476736 := by simp; omega
        clear hA
        go_upto_region 12 with fail
        generalize wj.alloc (.cells #[vi o.kind, vi o.key, vi o.val] 55) = wa at *
        obtain ⟨Y, hY⟩ : ∃ Y, Y = wj.heap.size := ⟨_, rfl⟩
        rw [← hY] at HYA ⊢
        have HYE := Lib.hid hY
        clear hY c2 c3 c4
        have HSY := Lib.hid (show ∀ W : World, W.heap[Y]? = some (.cells #[vi o.kind, vi o.key, vi o.val] 55) → W.cell? ⟨Y, 1, none⟩ = some (vi o.key) ∧ W.cell? ⟨Y, 2, none⟩ = some (vi o.val) from fun W h => ⟨by rw [cell_of h]; rfl, by rw [cell_of h]; rfl⟩)
        have HLK' := Lib.hid (show LawB w6 u4 A wa.drew from ⟨HLK.out.row, HLK.out.bel.trans ((Below.refl _ _).drew)⟩)
        go_region_held3 (fun w' : World => w'.cell? ⟨Y, 1, none⟩ = some (vi o.key) ∧ w'.cell? ⟨Y, 2, none⟩ = some (vi o.val))
          (first | exact HSY.out _ HYD.out | exact HSY.out _ HYC.out | exact HSY.out _ HYB.out | exact HSY.out _ HYA1.out | exact HSY.out wa.drew HYA.out | exact HSY.out wa HYA.out)
          (first
            | (go_at_call 26; refine (refInt_call o.val wb1 hoi.2).mono ?_; rintro ec wc1 ⟨vc, rfl, hoc, hbc⟩; have HOC := Lib.hid hoc; have HLC := Lib.hid (HLB.out.later hbc); have HYC := Lib.hid ((hbc.block Y (Array.getElem?_eq_some_iff.1 HYB.out).1).trans HYB.out); clear hoc hbc)
            | (go_at_call 26; refine (refInt_call o.key _ hoi.1).mono ?_; rintro ea wa1 ⟨va, rfl, hoa, hba⟩; have HOA := Lib.hid hoa; have HLA := Lib.hid (HLK'.out.later hba); have HYA1 := Lib.hid ((hba.block Y (Array.getElem?_eq_some_iff.1 HYA.out).1).trans HYA.out); clear hoa hba)
            | (refine step_append_src rfl _ _ 76 rfl eltU8 w6.heap.size (A ++ intL o.key).length _ HLC.out.row rfl (intL o.val).length _ (ow01_src HOC.out) rfl (u8_one _) hs5 (by omega) HLC.out.sz ?_; intro vd wd1 hod hgd _; have HLD := Lib.hid (HLC.out.more hgd hod); have HYD := Lib.hid ((hgd.block Y (Array.getElem?_eq_some_iff.1 HYC.out).1 (row_ne HLC.out.row HYC.out (by decide))).trans HYC.out); clear hod hgd)
            | (refine step_append_src rfl _ _ 76 rfl eltU8 w6.heap.size A.length _ HLA.out.row rfl (intL o.key).length _ (ow01_src HOA.out) rfl (u8_one _) hs4 (by omega) HLA.out.sz ?_; intro vb wb1 hob hgb _; have HLB := Lib.hid (HLA.out.more hgb hob); have HYB := Lib.hid ((hgb.block Y (Array.getElem?_eq_some_iff.1 HYA1.out).1 (row_ne HLA.out.row HYA1.out (by decide))).trans HYA1.out); clear hob hgb))
        all_goals
          go_wp2
          refine ⟨⟨k + 1, by omega, by go_num, Lib.hid ?_⟩, by simp only [intOf]; omega⟩
          rw [opsBL_snoc HO.out]
          have := HLD.out
          rw [HAE.out] at this
          simpa [List.append_assoc] using this
      · have k1 : decide ((k : Int) < r.writes.length) = false := decide_eq_false (by omega)
        have hke := Lib.hid (show k = r.writes.length by omega)
        obtain ⟨L2, hL2⟩ : ∃ L2, L2 = L1 ++ numL r.writes.length ++ opsBL r.writes := ⟨_, rfl⟩
        have HJ2 := Lib.hid (show LawB w6 u4 L2 wj by have := HJ.out; rw [hke.out, List.take_length] at this; rw [hL2]; exact this)
        have hL2l : L2.length ≤ 700 + 258 * 20 := by rw [hL2]; simp only [List.length_append]; omega
        have HL2 := Lib.hid hL2
        obtain ⟨_, _, _, _, a4⟩ := HCX.out wj HJ.out.bel
        have hwr2 : IntKind.u64.wrap (r.reads.length : Int) = (r.reads.length : Int) := by rw [IntKind.wrap_u64]; omega
        have hs4 : L2.length + (numL r.reads.length).length ≤ 68719476736 := by omega
        clear hL2 HJ b3 HWJ
        go_upto_region 15 with (first
          | (refine wpList_append_src rfl (.tmp 59) (.tmp 64) 76 rfl eltU8 w6.heap.size L2.length _ HLA.out.row rfl (numL r.reads.length).length _ (ow01_src HOA.out) rfl (u8_one _) hs4 (by omega) HLA.out.sz ?_; intro vb w9 hob hgb _; have HL9 := Lib.hid (HLA.out.more hgb hob); clear hob hgb)
          | (go_at_call 27; refine (refNum_call r.reads.length _ (by rfl) wj (by omega)).mono ?_; rintro ea wa1 ⟨va, rfl, hoa, hba⟩; have HOA := Lib.hid hoa; have HLA := Lib.hid (HJ2.out.later hba); clear hoa hba))
        obtain ⟨_, _, _, _, b4⟩ := HCX.out w9 HL9.out.bel
        clear a4
        go_wp2_with fail
        go_loopw [4, 69] (fun v i wr => ∃ k : Nat, k ≤ r.reads.length ∧ i = vi k ∧ Hid (LawB w6 v (L2 ++ numL r.reads.length ++ intsBL (r.reads.take k)) wr)) (fun _ i _ => r.reads.length - (intOf i).toNat)
        case atStart => exact ⟨0, Nat.zero_le _, rfl, Lib.hid (by simpa [intsBL] using HL9.out)⟩
        case round =>
          obtain ⟨wq, rfl⟩ : ∃ wq : World, wq = wr := ⟨_, rfl⟩
          obtain ⟨q, hq, rfl, HQ⟩ := hrel
          have HWQ := Lib.hid (HB6.out.trans (HQ.out.bel.mono HB6.out.size))
          by_cases hlt2 : q < r.reads.length
          · have q1 : decide ((q : Int) < r.reads.length) = true := decide_eq_true (by omega)
            have hwk : IntKind.i64.wrap ((q : Int) + 1) = (q : Int) + 1 := IntWalk.i64_in _ (by omega)
            obtain ⟨o, ho⟩ := some_at hlt2
            have HO := Lib.hid ho
            have hoi := HI.out.rs o (List.mem_of_getElem? ho)
            obtain ⟨a', n', c', he, _, _, hcells⟩ := (show RdInts wq (.slice ar r.reads.length cr) r.reads from (HS.out.solid (Solid.below HWQ.out)).rs).at
            obtain ⟨b, off, ha, c2, _⟩ := hcells q o ho
            simp only [Value.slice.injEq] at he
            obtain ⟨rfl, -, -⟩ := he
            subst ha
            obtain ⟨A, hA⟩ : ∃ A, A = L2 ++ numL r.reads.length ++ intsBL (r.reads.take q) := ⟨_, rfl⟩
            have hAl : A.length ≤ 900 + 258 * 20 + 129 * 20 := by
              have h1 := intsBL_length (r.reads.take q) (fun x hx => HI.out.rs x (List.mem_of_mem_take hx))
              have h2 : (r.reads.take q).length ≤ 20 := by rw [List.length_take]; omega
              rw [hA]; simp only [List.length_append]; omega
            rw [← hA] at HQ
            have HAE := Lib.hid hA
            have hq1 := intL_length hoi
            have hs5 : A.length + (intL o).length ≤ 68719476736 := by omega
            clear hcells ho HWQ b4 hA
            go_wp2_with (first
              | (refine wpList_append_src rfl (.tmp 73) (.tmp 75) 76 rfl eltU8 w6.heap.size A.length _ HLA.out.row rfl (intL o).length _ (ow01_src HOA.out) rfl (u8_one _) hs5 (by omega) HLA.out.sz ?_; intro vb wb hob hgb _; have HLB := Lib.hid (HLA.out.more hgb hob); clear hob hgb)
              | (go_at_call 26; refine (refInt_call o wq hoi).mono ?_; rintro ea wa1 ⟨va, rfl, hoa, hba⟩; have HOA := Lib.hid hoa; have HLA := Lib.hid (HQ.out.later hba); clear hoa hba))
            refine ⟨⟨q + 1, by omega, by go_num, Lib.hid ?_⟩, by simp only [intOf]; omega⟩
            rw [intsBL_snoc HO.out]
            have := HLB.out
            rw [HAE.out] at this
            simpa [List.append_assoc] using this
          · have q1 : decide ((q : Int) < r.reads.length) = false := decide_eq_false (by omega)
            have hqe := Lib.hid (show q = r.reads.length by omega)
            have HQ2 := Lib.hid (show LawB w6 u4 (rdyBL r) wq by
              have := HQ.out
              rw [hqe.out, List.take_length, HL2.out, HL1.out] at this
              exact this)
            have hbl : (rdyBL r).length ≤ 20000 := by simp only [rdyBL, List.length_append]; omega
            have hbb : (btBytes (rdyBL r)).length ≤ 1048576 := by rw [btBytes_length]; omega
            have HWW := Lib.hid (show WrS w.heap.size p (rdyBL r) wq from HW6.out.later HQ2.out.bel)
            clear b4 HQ
            go_upto_region 21 with (go_at_call 28; refine (bytes_call wq HWW.out (by omega)).mono ?_; rintro e8 wb8 ⟨vb8, rfl, hob8, hbb8⟩; have HOB8 := Lib.hid hob8; have HQ8 := Lib.hid (HQ2.out.later hbb8); clear hob8 hbb8)
            obtain ⟨bs, hbs⟩ : ∃ bs, bs = btBytes (rdyBL r) := ⟨_, rfl⟩
            rw [← hbs] at HOB8 hbb
            have HBS := Lib.hid hbs
            clear hbs
            go_upto_region 22 with (go_at_call 29; refine (readB_call (bs := bs) wb8 (own_src HOB8.out) (by rw [HBS.out]; exact btBytes_lt _) hbb).mono ?_; rintro e9 wc9 ⟨qp, rfl, hrd9, hbe9⟩; have HRD9 := Lib.hid hrd9; have HBE9 := Lib.hid hbe9; clear hrd9 hbe9)
            go_wp2_with fail
            refine (rdyR_call wc9 HRD9.out).mono ?_
            rintro e10 wd10 ⟨⟨yw, yr, ry⟩, s10, rfl, how, hor, -, -, -, hrok, hrd10, hgr10⟩
            obtain ⟨z, hz7, hbits⟩ := bitsOf_btBytes (rdyBL r)
            obtain ⟨hry, hs10, hb10⟩ := hrok.1 rfl (killK r) (List.replicate z false) (killK_ok HI.out hsw hsr) (by rw [killK_bits, ← hbits, HBS.out])
            simp only at hry
            subst hry
            have HEND := Lib.hid (show atEnd s10 from ⟨hb10, by rw [hs10]; simpa using hz7, by rw [hs10]; exact valL_falses z⟩)
            have how2 : wd10.ownsRow wc9.heap.size 55 3 yw r.writes.length ((killK r).writes.flatMap opV) := by have := how; unfold OwOps at this; rw [killK_len] at this; exact this
            obtain ⟨aY, cY, rfl⟩ := Bt.own_shape how2
            have hor2 : wd10.ownsRow wc9.heap.size 3 1 yr r.reads.length (r.reads.flatMap viC) := hor
            obtain ⟨aR, cR, rfl⟩ := Bt.own_shape hor2
            have HB10 := Lib.hid (show Below w6.heap.size w6 wd10 from (HQ8.out.bel.trans (HBE9.out.mono HQ8.out.sz)).trans (gro_below hgr10 (Nat.le_trans HQ8.out.sz HRD9.out.1) (Nat.le_trans HQ8.out.sz HBE9.out.size)))
            have HB8 := Lib.hid (show Below wb8.heap.size wb8 wd10 from HBE9.out.trans (gro_below hgr10 HRD9.out.1 HBE9.out.size))
            have HOW := Lib.hid how
            have HOR := Lib.hid hor
            have HRD := Lib.hid hrd10
            clear how hor how2 hor2 hrok hrd10 hgr10 hs10 hb10 hbits hz7
            unfold rdyV rdyC
            dsimp only [killK]
            go_upto_region 23 with fail
            have HYE := Lib.hid (alloc_at wd10 (.cells #[vi r.txn, vi r.home, vi r.start, .slice aY r.writes.length cY, .slice aR r.reads.length cR] 29))
            have HBE := Lib.hid ((Below.refl wd10.heap.size wd10).alloc (Nat.le_refl _) (.cells #[vi r.txn, vi r.home, vi r.start, .slice aY r.writes.length cY, .slice aR r.reads.length cR] 29))
            have hbs10 := HB8.out.size
            have hb6s := HB10.out.size
            generalize wd10.alloc (.cells #[vi r.txn, vi r.home, vi r.start, .slice aY r.writes.length cY, .slice aR r.reads.length cR] 29) = we at *
            obtain ⟨Y, hY⟩ : ∃ Y, Y = wd10.heap.size := ⟨_, rfl⟩
            rw [← hY] at HYE ⊢
            have HYY := Lib.hid hY
            clear hY
            have HF := Lib.hid (show ∀ W, Below we.heap.size we W → W.heap[Y]? = some (.cells #[vi r.txn, vi r.home, vi r.start, .slice aY r.writes.length cY, .slice aR r.reads.length cR] 29) ∧ Below w6.heap.size w6 W ∧ OwOps wc9.heap.size W (.slice aY r.writes.length cY) (killK r).writes ∧ OwI wc9.heap.size W (.slice aR r.reads.length cR) (killK r).reads ∧ RdrS wb8.heap.size qp s10 W ∧ OwU wq.heap.size W vb8 bs ∧ LawB w6 u4 (rdyBL r) W from fun W hW => by
              have hB : Below wd10.heap.size wd10 W := HBE.out.trans (hW.mono HBE.out.size)
              have hB8 : Below wb8.heap.size wb8 W := HB8.out.trans (hB.mono hbs10)
              exact ⟨(hW.block Y (Array.getElem?_eq_some_iff.1 HYE.out).1).trans HYE.out, HB10.out.trans (hB.mono hb6s), own_below HOW.out hB, own_below HOR.out hB, HRD.out.later hB, own_below HOB8.out hB8, HQ8.out.later hB8⟩)
            have x3 : we.cell? ⟨X, 3, none⟩ = some (.slice aw r.writes.length cw) := (HCX.out we (HF.out we (Below.refl _ _)).2.1).2.2.2.1
            clear HQ8 HOB8 HRD HOR HOW HB10 HB8 HBE HRD9 HBE9
            go_wp2_with fail
            go_loopw [87] (fun i wr => ∃ k : Nat, k ≤ r.writes.length ∧ i = vi k ∧ Hid (Below we.heap.size we wr)) (fun i _ => r.writes.length - (intOf i).toNat)
            case atStart => exact ⟨0, Nat.zero_le _, rfl, Lib.hid (Below.refl _ _)⟩
            case round =>
              obtain ⟨wv, rfl⟩ : ∃ wv : World, wv = wr := ⟨_, rfl⟩
              obtain ⟨k', hk', rfl, HJ⟩ := hrel
              clear x3
              have x3 : wv.cell? ⟨X, 3, none⟩ = some (.slice aw r.writes.length cw) := (HCX.out wv (HF.out wv HJ.out).2.1).2.2.2.1
              have y3 : wv.cell? ⟨Y, 3, none⟩ = some (.slice aY r.writes.length cY) := by rw [cell_of (HF.out wv HJ.out).1]; rfl
              by_cases hlt3 : k' < r.writes.length
              · have q1 : decide ((k' : Int) < r.writes.length) = true := decide_eq_true (by omega)
                have q2 : (k' : Int) < r.writes.length := by omega
                have hwk : IntKind.i64.wrap ((k' : Int) + 1) = (k' : Int) + 1 := IntWalk.i64_in _ (by omega)
                obtain ⟨o, ho⟩ := some_at hlt3
                have hko := killK_at ho
                have HWV := Lib.hid (HB6.out.trans ((HF.out wv HJ.out).2.1.mono HB6.out.size))
                obtain ⟨_, _, _, he, _, _, hc⟩ := (show RdOps wv (.slice aw r.writes.length cw) r.writes from (HS.out.solid (Solid.below HWV.out)).ws).at
                obtain ⟨g, off, ha, c0, c1, c2⟩ := hc k' o ho
                simp only [Value.slice.injEq] at he
                obtain ⟨rfl, -, -⟩ := he
                subst ha
                obtain ⟨_, _, _, he, _, _, hc'⟩ := (show RdOps wv (.slice aY r.writes.length cY) (killK r).writes from (HF.out wv HJ.out).2.2.1.rd).at
                obtain ⟨g', off', ha, d0, d1, d2⟩ := hc' k' _ hko
                simp only [Value.slice.injEq] at he
                obtain ⟨rfl, -, -⟩ := he
                subst ha
                clear hc hc' ho hko
                go_wp2_with fail
                go_quiet (fail)
                go_wp2_with fail
                exact ⟨⟨k' + 1, by omega, by go_num, Lib.hid (HJ.out.trans ⟨rfl, rfl, rfl, Nat.le_refl _, fun _ _ => rfl⟩)⟩, by simp only [intOf]; omega⟩
              · have q1 : decide ((k' : Int) < r.writes.length) = false := decide_eq_false (by omega)
                have x0 : wv.cell? ⟨X, 0, none⟩ = some (vi r.txn) := (HCX.out wv (HF.out wv HJ.out).2.1).1
                have x1 : wv.cell? ⟨X, 1, none⟩ = some (vi r.home) := (HCX.out wv (HF.out wv HJ.out).2.1).2.1
                have x2 : wv.cell? ⟨X, 2, none⟩ = some (vi r.start) := (HCX.out wv (HF.out wv HJ.out).2.1).2.2.1
                have x4 : wv.cell? ⟨X, 4, none⟩ = some (.slice ar r.reads.length cr) := (HCX.out wv (HF.out wv HJ.out).2.1).2.2.2.2
                have y3' : ∀ o, (wv.alloc o).cell? ⟨Y, 3, none⟩ = some (.slice aY r.writes.length cY) := fun o => cell_later ((Below.refl _ _).alloc (Nat.le_refl _) o) y3
                go_upto_region 31 with fail
                have HZA := Lib.hid (alloc_at wv (.cells #[vi r.txn, vi r.home, vi r.start, .slice aY r.writes.length cY, .slice ar r.reads.length cr] 29))
                have HBZ := Lib.hid (HJ.out.alloc HJ.out.size (.cells #[vi r.txn, vi r.home, vi r.start, .slice aY r.writes.length cY, .slice ar r.reads.length cr] 29))
                generalize wv.alloc (.cells #[vi r.txn, vi r.home, vi r.start, .slice aY r.writes.length cY, .slice ar r.reads.length cr] 29) = wz at *
                obtain ⟨Z, hZ⟩ : ∃ Z, Z = wv.heap.size := ⟨_, rfl⟩
                rw [← hZ] at HZA ⊢
                have HZZ := Lib.hid hZ
                have hez : we.heap.size ≤ wz.heap.size := HBZ.out.size
                clear hZ x0 x1 x2 x3 x4 y3 y3'
                have HS3 := Lib.hid (show ∀ W, Below wz.heap.size wz W → W.cell? ⟨X, 3, none⟩ = some (.slice aw r.writes.length cw) ∧ W.cell? ⟨Y, 0, none⟩ = some (vi r.txn) ∧ W.cell? ⟨Y, 1, none⟩ = some (vi r.home) ∧ W.cell? ⟨Y, 2, none⟩ = some (vi r.start) ∧ W.cell? ⟨Y, 3, none⟩ = some (.slice aY r.writes.length cY) ∧ W.cell? ⟨Y, 4, none⟩ = some (.slice aR r.reads.length cR) ∧ W.cell? ⟨Z, 0, none⟩ = some (vi r.txn) ∧ W.cell? ⟨Z, 1, none⟩ = some (vi r.home) ∧ W.cell? ⟨Z, 2, none⟩ = some (vi r.start) ∧ W.cell? ⟨Z, 3, none⟩ = some (.slice aY r.writes.length cY) ∧ W.cell? ⟨Z, 4, none⟩ = some (.slice ar r.reads.length cr) from fun W hW => by
                  have hb := HBZ.out.trans (hW.mono hez)
                  have hy := (HF.out W hb).1
                  have hz := (hW.block Z (Array.getElem?_eq_some_iff.1 HZA.out).1).trans HZA.out
                  exact ⟨(HCX.out W (HF.out W hb).2.1).2.2.2.1, by rw [cell_of hy]; rfl, by rw [cell_of hy]; rfl, by rw [cell_of hy]; rfl, by rw [cell_of hy]; rfl, by rw [cell_of hy]; rfl, by rw [cell_of hz]; rfl, by rw [cell_of hz]; rfl, by rw [cell_of hz]; rfl, by rw [cell_of hz]; rfl, by rw [cell_of hz]; rfl⟩)
                have HD := Lib.hid (show Below wz.heap.size wz wz.drew from (Below.refl _ _).drew)
                have HFZ := Lib.hid (show ∀ W, Below wz.heap.size wz W → Below we.heap.size we W from fun W hW => HBZ.out.trans (hW.mono hez))
                have HRZ := Lib.hid (show ∀ W, Below wz.heap.size wz W → RdyS W ⟨.slice aY r.writes.length cY, .slice aR r.reads.length cR, killK r⟩ ∧ RdyS W ⟨.slice aY r.writes.length cY, .slice ar r.reads.length cr, killK r⟩ from fun W hW => by
                  have h := HF.out W (HFZ.out W hW)
                  have hw := HS.out.solid (Solid.below (HB6.out.trans (h.2.1.mono HB6.out.size)))
                  have h2 : RdInts W (.slice aR r.reads.length cR) (killK r).reads := own_rds (enc := viC) (fun _ => rfl) h.2.2.2.1 (fun x hx => ⟨rfl, HI.out.rs x hx⟩)
                  exact ⟨⟨h.2.2.1.rd, h2⟩, ⟨h.2.2.1.rd, hw.rs⟩⟩)
                have HLAW := Lib.hid (HF.out wz.drew (HFZ.out _ HD.out)).2.2.2.2.2.2
                have hln : (rdyBL r).length ≤ 1048576 := by omega
                have hkl := killK_len r
                have HKL := Lib.hid hkl
                clear hkl
                go_region_held3 (fun W : World => W.cell? ⟨X, 3, none⟩ = some (.slice aw r.writes.length cw) ∧ W.cell? ⟨Y, 0, none⟩ = some (vi r.txn) ∧ W.cell? ⟨Y, 1, none⟩ = some (vi r.home) ∧ W.cell? ⟨Y, 2, none⟩ = some (vi r.start) ∧ W.cell? ⟨Y, 3, none⟩ = some (.slice aY r.writes.length cY) ∧ W.cell? ⟨Y, 4, none⟩ = some (.slice aR r.reads.length cR) ∧ W.cell? ⟨Z, 0, none⟩ = some (vi r.txn) ∧ W.cell? ⟨Z, 1, none⟩ = some (vi r.home) ∧ W.cell? ⟨Z, 2, none⟩ = some (vi r.start) ∧ W.cell? ⟨Z, 3, none⟩ = some (.slice aY r.writes.length cY) ∧ W.cell? ⟨Z, 4, none⟩ = some (.slice ar r.reads.length cr))
                  (first | exact HS3.out _ HSA.out | exact HS3.out _ HRE.out | exact HS3.out _ HEN.out | exact HS3.out _ HBY.out | exact HS3.out _ HD.out | exact HS3.out _ (Below.refl _ _))
                  (first
                    | (go_at_call 23; refine (same_call ⟨.slice aY r.writes.length cY, .slice aR r.reads.length cR, killK r⟩ ⟨.slice aY r.writes.length cY, .slice ar r.reads.length cr, killK r⟩ wr2 (HRZ.out _ HRE.out).1 (HRZ.out _ HRE.out).2 rfl).mono ?_; rintro es ws2 ⟨rfl, hbs⟩; have HSA := Lib.hid (HRE.out.trans (hbs.mono HRE.out.size)); clear hbs)
                    | (go_at_call 19; refine (ready_call ⟨.slice aY r.writes.length cY, .slice ar r.reads.length cr, killK r⟩ _ ⟨aY, cY, ar, cr, by rw [HKL.out], rfl⟩).mono ?_; rintro er wr2 ⟨rfl, hbr⟩; have HRE := Lib.hid (HEN.out.trans (hbr.mono HEN.out.size)); clear hbr)
                    | (go_at_call 33; refine (end_ok wb2 (HF.out wb2 (HFZ.out _ HBY.out)).2.2.2.2.1 HEND.out).mono ?_; rintro ee we2 ⟨rfl, nn, rfl⟩; have HEN := Lib.hid (show Below wz.heap.size wz (wb2.drewN nn) from HBY.out.trans ⟨rfl, rfl, rfl, Nat.le_refl _, fun _ _ => rfl⟩))
                    | (go_at_call 31; refine (sameB_refl (a := bs) wb2 (own_src (HF.out wb2 (HFZ.out _ HBY.out)).2.2.2.2.2.1) (own_src HOBY.out) (by rw [HBS.out]; exact btBytes_lt _)).mono ?_; rintro eq wq2 ⟨rfl, rfl⟩)
                    | (go_at_call 32; refine (refBytes_call _ (ow01_src HLAW.out.row) hln).mono ?_; rintro eb wb2 ⟨vb2, rfl, hob, hbb2⟩; have HBY := Lib.hid (show Below wz.heap.size wz wb2 from HD.out.trans hbb2); have HOBY := Lib.hid (show OwU wz.drew.heap.size wb2 vb2 bs from by rw [HBS.out]; exact hob); clear hob hbb2))
                all_goals
                  go_wp2
                  go_ret
                  exact ⟨rfl, HB6.out.trans ((HF.out ws2 (HFZ.out _ HSA.out)).2.1.mono HB6.out.size)⟩
end Go.Proofs.Ytbadpfcjoobniaa
