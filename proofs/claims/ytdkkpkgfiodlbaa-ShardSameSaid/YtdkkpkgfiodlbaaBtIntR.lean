/- (*bits.Reader).Int, Err, End; bits.Read. -/
import Derived.Test.YtdkkpkgfiodlbaaBtNumR
namespace Go.Proofs.Ytdkkpkgfiodlbaa
open Go.RowKit

def zag (x : Nat) : Int := if x % 2 = 1 then -((x / 2 : Nat) : Int) - 1 else ((x / 2 : Nat) : Int)
theorem zag_zig (z : Int) : zag (zig z) = z := by unfold zag zig; split <;> split <;> omega
theorem zig_zag (x : Nat) : zig (zag x) = x := by unfold zag zig; split <;> split <;> omega
abbrev IntOk (z : Int) : Prop := -9223372036854775808 ≤ z ∧ z ≤ 9223372036854775807
theorem zag_ok {x : Nat} (h : x < 2 ^ 64) : IntOk (zag x) := by unfold zag IntOk; split <;> omega
theorem int_read {s s' : Rd} {x : Nat} (h : RdOK numL NumOk s s' x) : RdOK intL IntOk s s' (zag x) := by
  refine ⟨fun h0 y t hy e => ?_, fun h0 => ?_⟩
  · obtain ⟨a, b, c⟩ := h.1 h0 (zig y) t (by have := zig_lt hy.1 hy.2; unfold NumOk; omega) e
    exact ⟨by rw [a, zag_zig], b, c⟩
  · obtain ⟨a, b, c⟩ := h.2 h0
    exact ⟨a, zag_ok b, by rw [c]; unfold intL; rw [zig_zag]⟩
theorem i64_xor_all (a : Nat) (h : a < 9223372036854775808) : bits .xor .i64 (a : Int) (-1) = -(a : Int) - 1 := by
  have h1 : BitVec.ofInt 64 (-1) = BitVec.allOnes 64 := by decide
  have h2 : BitVec.ofInt 64 (a : Int) = BitVec.ofNat 64 a := by simp
  show IntKind.i64.wrap (((BitVec.ofInt 64 (a : Int)) ^^^ (BitVec.ofInt 64 (-1))).toNat : Int) = _
  rw [h1, h2, BitVec.xor_allOnes, BitVec.toNat_not, BitVec.toNat_ofNat, Nat.mod_eq_of_lt (by omega), IntKind.wrap_i64]
  omega
theorem i64_xor_none (a : Nat) (h : a < 9223372036854775808) : bits .xor .i64 (a : Int) 0 = (a : Int) := by
  have h1 : BitVec.ofInt 64 0 = 0#64 := by decide
  have h2 : BitVec.ofInt 64 (a : Int) = BitVec.ofNat 64 a := by simp
  show IntKind.i64.wrap (((BitVec.ofInt 64 (a : Int)) ^^^ (BitVec.ofInt 64 0)).toNat : Int) = _
  rw [h1, h2, BitVec.xor_zero, BitVec.toNat_ofNat, Nat.mod_eq_of_lt (by omega), IntKind.wrap_i64]
  omega
theorem zag_bits (x : Nat) (h : x < 2 ^ 64) : bits .xor .i64 ((x : Int) / 2) (wrap64 (-wrap64 (bits .and .u64 (x : Int) 1))) = zag x := by
  have e2 : bits .and .u64 (x : Int) 1 = ((x % 2 : Nat) : Int) := by
    have := u64_and_nat x 1 (by omega) (by decide)
    rw [nat_mask1] at this; exact this
  have e1 : (x : Int) / 2 = ((x / 2 : Nat) : Int) := by omega
  rw [e1, e2, IntWalk.wrap64_in ((x % 2 : Nat) : Int) ⟨by omega, by omega⟩, IntWalk.wrap64_in (-((x % 2 : Nat) : Int)) ⟨by omega, by omega⟩]
  unfold zag
  by_cases hx : x % 2 = 1
  · rw [if_pos hx, hx]; exact i64_xor_all _ (by omega)
  · rw [if_neg hx, show x % 2 = 0 by omega]; exact i64_xor_none _ (by omega)
def IntRQ (base p : Nat) (s : Rd) (w : World) (e : Ending) (w' : World) : Prop := ∃ z s', e = .returned (vi z) ∧ IntOk z ∧ RdOK intL IntOk s s' z ∧ RdrS base p s' w' ∧ w.grownBy w' (some p)
set_option maxHeartbeats 4000000 in
set_option maxRecDepth 100000 in
theorem intR_call {base p : Nat} {s : Rd} (w : World) (h : RdrS base p s w) :
    Calls Try.prog 50 #[.pointer (some ⟨p, 0, none⟩)] w (IntRQ base p s w) := by
  have HW := Lib.hid h
  clear h
  go_enter Try.func50, Try.ntmps50
  go_wp2_with (go_at_call 55; refine (numR_call w HW.out).mono ?_; rintro e1 w1 ⟨x, s1, rfl, hx, hr, hs1, hg1⟩; have HR := Lib.hid hr; have HS1 := Lib.hid hs1; have HG1 := Lib.hid hg1; clear hr hs1 hg1)
  go_ret
  exact ⟨zag x, s1, congrArg Ending.returned (congrArg (Value.int IntKind.i64) (zag_bits x hx)), zag_ok hx, int_read HR.out, HS1.out, HG1.out⟩

set_option maxRecDepth 100000 in
theorem err_call {base p : Nat} {s : Rd} (w : World) (h : RdrS base p s w) :
    Calls Try.prog 56 #[.pointer (some ⟨p, 0, none⟩)] w fun e w' => e = .returned (vi s.bad) ∧ w = w' := by
  have c2 := h.badCell
  clear h
  go_enter Try.func56, Try.ntmps56
  go_wp2_with fail
  go_ret
  exact ⟨rfl, rfl⟩

/-- Nothing is left but noughts up to the end of a byte. -/
def atEnd (s : Rd) : Prop := s.bad = 0 ∧ s.rest.length ≤ 7 ∧ valL s.rest = 0
def EndQ (s : Rd) (w : World) (e : Ending) (w' : World) : Prop := ∃ x : Int, e = .returned (vi x) ∧ (x = 0 ↔ atEnd s) ∧ (s.bad = 0 → x = 0 ∨ x = 12) ∧ (s.bad ≠ 0 → x = s.bad) ∧ ∃ n, w' = w.drewN n
theorem bitsOf_snoc : ∀ (bs : List Nat) (b : Nat), bitsOf (bs ++ [b]) = bitsOf bs ++ putL b 8
  | [], b => by simp [bitsOf]
  | c :: bs, b => by rw [List.cons_append, bitsOf, bitsOf_snoc bs b, bitsOf, List.append_assoc]
theorem putL_drop (x : Nat) : ∀ n k, k ≤ n → (putL x n).drop (n - k) = putL x k
  | 0, k, h => by rw [show k = 0 by omega]; rfl
  | n + 1, k, h => by
    by_cases hk : k = n + 1
    · subst hk; simp
    · rw [show n + 1 - k = (n - k) + 1 by omega, putL, List.drop_succ_cons, putL_drop x n k (by omega)]
theorem last_bits {bs : List Nat} {b at' n : Nat} (h : bs[bs.length - 1]? = some b) (h2 : 8 * bs.length - at' = n) (hn : n ≤ 7) (hn0 : 0 < n) : (bitsOf bs).drop at' = putL b n := by
  have hl : bs.length - 1 < bs.length := (List.getElem?_eq_some_iff.1 h).1
  obtain ⟨cs, hcs⟩ : ∃ cs, bs = cs ++ [b] := ⟨bs.take (bs.length - 1), by
    have := List.take_append_getElem (l := bs) (i := bs.length - 1) hl
    rw [List.getElem?_eq_getElem hl] at h
    rw [Option.some.inj h] at this
    rw [this, show bs.length - 1 + 1 = bs.length by omega, List.take_length]⟩
  subst hcs
  simp only [List.length_append, List.length_cons, List.length_nil] at h2 hl
  rw [bitsOf_snoc, List.drop_append, List.drop_of_length_le (by rw [bitsOf_length]; omega), bitsOf_length, List.nil_append, show at' - 8 * cs.length = 8 - n by omega]
  exact putL_drop b 8 n (by omega)
end Go.Proofs.Ytdkkpkgfiodlbaa