/- Texts of one proof, one behind the other: BtLen, BtNum, BtInt, CopyK, BtBytes, BtRd, BtGet, BtGet2, BtNumP, BtNumR, BtIntR. -/
import Derived.Test.YtdkkpkgfiodlbaaJb1
import Derived.Lib.BitFns
import Derived.Shelf.LaysM
import Derived.Lib.Strings
import Derived.Lib.Slices
import Derived.Lib.Small
import Derived.Lib.Walk
import Derived.Deep.Light
import Derived.Shelf.Sort.So_math_bits_Len64In
import Derived.Laws.CopyOwn
import Derived.Laws.MakeOwn
set_option linter.all false
/- math/bits.Len64. -/
namespace Go.Proofs.Ytdkkpkgfiodlbaa
open Go.RowKit
set_option maxHeartbeats 4000000 in
set_option maxRecDepth 100000 in
theorem len64_call (x : Int) (w : World) (h0 : 0 ≤ x) (h1 : x ≤ 18446744073709551615) :
    Calls Try.prog 82 #[.int .u64 x] w fun e w' => e = .returned (.int .i64 (Lib.bitLen x.toNat)) ∧ w' = w := by
  go_enter Try.func82, Try.ntmps82
  go_wp2
  all_goals first
    | (go_ret; refine ⟨congrArg Ending.returned (congrArg (Value.int IntKind.i64) ?_), rfl⟩; go_light)
    | (exfalso
       go_light
       have hs := len8tab_size
       omega)
  all_goals first
    | (rw [len8_get (x / 4294967296 / 65536 / 256) _, Lib.len8_of (x / 4294967296 / 65536 / 256) (by omega) (by omega)]
       have e : (x / 4294967296 / 65536 / 256).toNat = x.toNat / 72057594037927936 := by omega
       have l := Lib.bitLen_le8' (x / 4294967296 / 65536 / 256) (by omega) (by omega)
       have s := Lib.bitLen_shift56 x.toNat (by omega) (by omega)
       rw [e] at l ⊢
       exact wrap_add 56 _ _ (by decide) l s)
    | (rw [len8_get (x / 4294967296 / 65536) _, Lib.len8_of (x / 4294967296 / 65536) (by omega) (by omega)]
       have e : (x / 4294967296 / 65536).toNat = x.toNat / 281474976710656 := by omega
       have l := Lib.bitLen_le8' (x / 4294967296 / 65536) (by omega) (by omega)
       have s := Lib.bitLen_shift48 x.toNat (by omega) (by omega)
       rw [e] at l ⊢
       exact wrap_add 48 _ _ (by decide) l s)
    | (rw [len8_get (x / 4294967296 / 256) _, Lib.len8_of (x / 4294967296 / 256) (by omega) (by omega)]
       have e : (x / 4294967296 / 256).toNat = x.toNat / 1099511627776 := by omega
       have l := Lib.bitLen_le8' (x / 4294967296 / 256) (by omega) (by omega)
       have s := Lib.bitLen_shift40 x.toNat (by omega) (by omega)
       rw [e] at l ⊢
       exact wrap_add 40 _ _ (by decide) l s)
    | (rw [len8_get (x / 4294967296) _, Lib.len8_of (x / 4294967296) (by omega) (by omega)]
       have e : (x / 4294967296).toNat = x.toNat / 4294967296 := by omega
       have l := Lib.bitLen_le8' (x / 4294967296) (by omega) (by omega)
       have s := Lib.bitLen_shift32 x.toNat (by omega) (by omega)
       rw [e] at l ⊢
       exact wrap_add 32 _ _ (by decide) l s)
    | (rw [len8_get (x / 65536 / 256) _, Lib.len8_of (x / 65536 / 256) (by omega) (by omega)]
       have e : (x / 65536 / 256).toNat = x.toNat / 16777216 := by omega
       have l := Lib.bitLen_le8' (x / 65536 / 256) (by omega) (by omega)
       have s := Lib.bitLen_shift24 x.toNat (by omega) (by omega)
       rw [e] at l ⊢
       exact wrap_add 24 _ _ (by decide) l s)
    | (rw [len8_get (x / 65536) _, Lib.len8_of (x / 65536) (by omega) (by omega)]
       have e : (x / 65536).toNat = x.toNat / 65536 := by omega
       have l := Lib.bitLen_le8' (x / 65536) (by omega) (by omega)
       have s := Lib.bitLen_shift16 x.toNat (by omega) (by omega)
       rw [e] at l ⊢
       exact wrap_add 16 _ _ (by decide) l s)
    | (rw [len8_get (x / 256) _, Lib.len8_of (x / 256) (by omega) (by omega)]
       have e : (x / 256).toNat = x.toNat / 256 := by omega
       have l := Lib.bitLen_le8' (x / 256) (by omega) (by omega)
       have s := Lib.bitLen_shift8 x.toNat (by omega) (by omega)
       rw [e] at l ⊢
       exact wrap_add 8 _ _ (by decide) l s)
    | (rw [len8_get (x) _, Lib.len8_of (x) (by omega) (by omega)]
       have e : (x).toNat = x.toNat := by omega
       have l := Lib.bitLen_le8' (x) (by omega) (by omega)
       rw [e] at l ⊢
       first | exact wrap_wrap _ l | exact wrap_add 0 _ _ (by decide) l (by omega) | exact wrap_one _ l)
end Go.Proofs.Ytdkkpkgfiodlbaa

/- (*bits.Writer).Num. -/
namespace Go.Proofs.Ytdkkpkgfiodlbaa
open Go.RowKit
/-- A number's bits. -/
def numL (x : Nat) : List Bool :=
  if x = 18446744073709551615 then putL 0 64 ++ putL 1 1 ++ putL 0 64
  else putL 0 (Lib.bitLen (x + 1) - 1) ++ putL (x + 1) (Lib.bitLen (x + 1))
theorem numL_length (x : Nat) (h : x < 18446744073709551616) : (numL x).length ≤ 129 := by
  unfold numL
  split
  · simp [putL_length]
  · have := Lib.bitLen_le (x + 1) 64 (by decide) (by omega)
    simp [putL_length]; omega
theorem bitLen_pos {x : Nat} (h : x ≠ 0) (h2 : x < 2 ^ 64) : 1 ≤ Lib.bitLen x := by rw [Lib.bitLen_half x h h2]; omega
def NumQ (base p : Nat) (L : List Bool) (w : World) (e : Ending) (w' : World) : Prop := e = .returned (.tuple #[]) ∧ WrS base p L w' ∧ FrW base p w w'

set_option maxRecDepth 100000 in
set_option maxHeartbeats 4000000 in
theorem num_call {base p : Nat} {L : List Bool} (x : Nat) (w : World) (h : WrS base p L w) (hx : x < 18446744073709551616) (hL : L.length ≤ 1048000) (hb : base ≤ w.heap.size) :
    Calls Try.prog 54 #[.pointer (some ⟨p, 0, none⟩), .int .u64 x] w (PutQ base p (L ++ numL x) w) := by
  have HW := Lib.hid h
  clear h
  go_enter Try.func54, Try.ntmps54
  by_cases hm : x = 18446744073709551615
  · have hN := Lib.hid (show numL x = putL 0 64 ++ putL 1 1 ++ putL 0 64 by unfold numL; rw [if_pos hm])
    have hb1 : ((x : Int) == 18446744073709551615) = true := by subst hm; rfl
    clear hm
    go_wp2_with (first
      | (go_at_call 72; refine (put_call (L := L ++ putL 0 64 ++ putL 1 1) 0 64 w2 HW2.out (by decide) (by decide) (by simp [putL_length]; omega) (by omega)).mono ?_; rintro e3 w3 ⟨rfl, hw3, hf3⟩; have HW3 := Lib.hid hw3; have HF3 := Lib.hid hf3; clear hw3 hf3)
      | (go_at_call 72; refine (put_call (L := L ++ putL 0 64) 1 1 w1 HW1.out (by decide) (by decide) (by simp [putL_length]; omega) (by omega)).mono ?_; rintro e2 w2 ⟨rfl, hw2, hf2⟩; have HW2 := Lib.hid hw2; have HF2 := Lib.hid hf2; have hz2 := hf2.size; clear hw2 hf2)
      | (go_at_call 72; refine (put_call (L := L) 0 64 w HW.out (by decide) (by decide) (by omega) hb).mono ?_; rintro e1 w1 ⟨rfl, hw1, hf1⟩; have HW1 := Lib.hid hw1; have HF1 := Lib.hid hf1; have hz1 := hf1.size; clear hw1 hf1))
    (try simp only [Exit.inBlock, Exit.then])
    refine bodyPost_ret (results_none rfl _ _ _) rfl ?_
    refine ⟨rfl, ?_, (HF1.out.trans HF2.out).trans HF3.out⟩
    rw [hN.out, ← List.append_assoc, ← List.append_assoc]; exact HW3.out
  · have hN := Lib.hid (show numL x = putL 0 (Lib.bitLen (x + 1) - 1) ++ putL (x + 1) (Lib.bitLen (x + 1)) by unfold numL; rw [if_neg hm])
    have hb1 : ((x : Int) == 18446744073709551615) = false := by simp; omega
    have hlt : x + 1 < 18446744073709551616 := by omega
    have hw1 : IntKind.u64.wrap ((x : Int) + 1) = (x : Int) + 1 := by rw [IntKind.wrap_u64]; omega
    have hp := bitLen_pos (x := x + 1) (by omega) hlt
    have hle := Lib.bitLen_le (x + 1) 64 (by decide) hlt
    have hcs : ((Lib.bitLen (x + 1) : Int) - 1) = ((Lib.bitLen (x + 1) - 1 : Nat) : Int) := by omega
    have htn : ((x : Int) + 1).toNat = x + 1 := by omega
    clear hm
    go_wp2_with (first
      | (go_at_call 72; refine (put_call (L := L ++ putL 0 (Lib.bitLen (x + 1) - 1)) (x + 1) (Lib.bitLen (x + 1)) w1 HW1.out (by omega) (by omega) (by simp [putL_length]; omega) (by omega)).mono ?_; rintro e2 w2 ⟨rfl, hw2, hf2⟩; have HW2 := Lib.hid hw2; have HF2 := Lib.hid hf2; clear hw2 hf2)
      | (go_at_call 72; (try rw [hcs]); refine (put_call (L := L) 0 (Lib.bitLen (x + 1) - 1) w0 HW.out (by decide) (by omega) (by omega) hb).mono ?_; rintro e1 w1 ⟨rfl, hw1, hf1⟩; have HW1 := Lib.hid hw1; have HF1 := Lib.hid hf1; have hz1 := hf1.size; clear hw1 hf1)
      | (go_at_call 82; refine (len64_call ((x : Int) + 1) w (by omega) (by omega)).mono ?_; rintro e0 w0 ⟨rfl, rfl⟩; rw [htn]))


    go_end0
    refine ⟨rfl, ?_, HF1.out.trans HF2.out⟩
    rw [hN.out, ← List.append_assoc]; exact HW2.out
end Go.Proofs.Ytdkkpkgfiodlbaa

/- (*bits.Writer).Int. -/
namespace Go.Proofs.Ytdkkpkgfiodlbaa
open Go.RowKit
/-- A number that may be below nought, as one that is not. -/
def zig (z : Int) : Nat := if z < 0 then (-(z + 1)).toNat * 2 + 1 else z.toNat * 2
def intL (z : Int) : List Bool := numL (zig z)
theorem zig_lt {z : Int} (h1 : -9223372036854775808 ≤ z) (h2 : z ≤ 9223372036854775807) : zig z < 18446744073709551616 := by
  unfold zig; split <;> omega
theorem xor_ones (m : Nat) (h : m < 18446744073709551616) : m ^^^ 18446744073709551615 = 18446744073709551615 - m := by
  have e := congrArg BitVec.toNat (BitVec.xor_allOnes (x := BitVec.ofNat 64 m))
  rw [BitVec.toNat_xor, BitVec.toNat_not, BitVec.toNat_allOnes, BitVec.toNat_ofNat, Nat.mod_eq_of_lt (by omega)] at e
  have e2 : (2 ^ 64 - 1 : Nat) = 18446744073709551615 := by decide
  rw [e2] at e; exact e
theorem zig_bits {z : Int} (h1 : -9223372036854775808 ≤ z) (h2 : z ≤ 9223372036854775807) : bits .xor .u64 (IntKind.u64.wrap (IntKind.u64.wrap z * 2)) (IntKind.u64.wrap (z / 9223372036854775808)) = (zig z : Int) := by
  rw [IntKind.wrap_u64, IntKind.wrap_u64, IntKind.wrap_u64]
  unfold zig
  by_cases h : z < 0
  · rw [if_pos h]
    have e1 : z % 18446744073709551616 * 2 % 18446744073709551616 = ((18446744073709551616 + 2 * z).toNat : Int) := by omega
    have e2 : z / 9223372036854775808 % 18446744073709551616 = ((18446744073709551615 : Nat) : Int) := by omega
    rw [e1, e2, u64_xor_nat _ _ (by omega) (by decide), xor_ones _ (by omega)]
    omega
  · rw [if_neg h]
    have e1 : z % 18446744073709551616 * 2 % 18446744073709551616 = ((z.toNat * 2 : Nat) : Int) := by omega
    have e2 : z / 9223372036854775808 % 18446744073709551616 = ((0 : Nat) : Int) := by omega
    rw [e1, e2, u64_xor_nat _ _ (by omega) (by decide), Nat.xor_zero]
set_option maxRecDepth 100000 in
set_option maxHeartbeats 4000000 in
theorem int_call {base p : Nat} {L : List Bool} (z : Int) (w : World) (h : WrS base p L w) (h1 : -9223372036854775808 ≤ z) (h2 : z ≤ 9223372036854775807) (hL : L.length ≤ 1048000) (hb : base ≤ w.heap.size) :
    Calls Try.prog 33 #[.pointer (some ⟨p, 0, none⟩), .int .i64 z] w (PutQ base p (L ++ intL z) w) := by
  have HW := Lib.hid h
  clear h
  go_enter Try.func33, Try.ntmps33
  have hz := zig_bits h1 h2
  have hlt := zig_lt h1 h2
  go_wp2_with (go_at_call 54; (try rw [hz]); refine (num_call (L := L) (zig z) w HW.out hlt hL hb).mono ?_; rintro e1 w1 ⟨rfl, hw1, hf1⟩; have HW1 := Lib.hid hw1; have HF1 := Lib.hid hf1; clear hw1 hf1)
  go_end0
  exact ⟨rfl, HW1.out, HF1.out⟩

end Go.Proofs.Ytdkkpkgfiodlbaa

/- copy(d, s) at elements of k cells, into a block that is known whole. Names no program. -/
namespace Go.Proofs.Ytdkkpkgfiodlbaa
open Go.RowKit
/-- Whatever memory: all is read, then all is written. -/
theorem run_copyK {P : Program} (w : World) (dT sT ty elem : TypeId) (k b o dLen dCap : Nat) (a : Addr) (sLen sCap : Nat) (cs : List Value)
    (hu : P.underlying dT = some (.slice elem)) (hs : (P.info? elem).map (·.size) = some k) (hn : cs.length = Nat.min sLen dLen * k)
    (hsrc : ∀ j v, cs[j]? = some v → w.cell? (a.add j) = some v) (hc : ∀ j, j < cs.length → (w.cell? ⟨b, o + j, none⟩).isSome = true) (hf : ∀ j, j < cs.length → w.frozen? ⟨b, o + j, none⟩ = false) (h1 : ∀ v ∈ cs, v.oneCell' = true) :
    (Builtin.copy_ #[dT, sT] ty #[.slice (some ⟨b, o, none⟩) dLen dCap, .slice (some a) sLen sCap]).run P w = .ok (goInt (Nat.min sLen dLen : Nat)) (w.setCells b o cs) := by
  have e1 := run_loadCells_list (P := P) w a cs hsrc
  have e2 := run_storeCells_cells (P := P) b o cs 0 w (by simpa using hc) (by simpa using hf) h1
  cases q : P.info? elem with
  | none => simp [q] at hs
  | some i =>
    have hi : i.size = k := by simpa [q] using hs
    rw [hn] at e1
    simp [Builtin.copy_, run_underlying hu, Builtin.lenOf, Builtin.firstCells, sizeOf, typeInfo, q, hi, e1, e2]

theorem frozen_setCells' (b : Nat) (cs : List Value) (o : Nat) (w : World) (x : Addr) : (w.setCells b o cs).frozen? x = w.frozen? x := World.frozen?_setCells _ _ _ _ _

/-- What lies in a block behind some stores into it. -/
theorem setCells_block (b : Nat) (T : TypeId) (fz : Nat × Nat) : ∀ (cs : List Value) (o : Nat) (w : World) (cur : Array Value), w.heap[b]? = some (.cells cur T fz) → o + cs.length ≤ cur.size →
    (w.setCells b o cs).heap[b]? = some (.cells (splice cur.toList o cs).toArray T fz)
  | [], o, w, cur, h, _ => by simp [World.setCells, splice, h]
  | v :: cs, o, w, cur, h, hl => by
    rw [World.setCells]
    have h2 : (w.setCell ⟨b, o, none⟩ v).heap[b]? = some (.cells (cur.setIfInBounds o v) T fz) := by
      simp [World.setCell, Array.getElem?_modify, h]
    have hlen : o < cur.size := by simp at hl; omega
    rw [setCells_block b T fz cs (o + 1) _ _ h2 (by simp at hl ⊢; omega)]
    congr 2
    unfold splice
    have ha : cur.toList.length = cur.size := by simp
    have hs : (cur.setIfInBounds o v).toList = cur.toList.set o v := by simp
    rw [hs]
    apply Array.ext'
    simp only [List.length_cons]
    apply List.ext_getElem?
    intro j
    have lt1 : (List.take (o + 1) (cur.toList.set o v)).length = o + 1 := by rw [List.length_take, List.length_set]; omega
    have lt2 : (List.take o cur.toList).length = o := by rw [List.length_take]; omega
    by_cases h3 : j < o
    · rw [List.getElem?_append_left (l₁ := List.take (o + 1) (cur.toList.set o v)) (by omega), List.getElem?_append_left (l₁ := List.take o cur.toList) (by omega), List.getElem?_take_of_lt (by omega), List.getElem?_take_of_lt h3, List.getElem?_set_ne (by omega)]
    · by_cases h4 : j = o
      · subst h4
        rw [List.getElem?_append_left (l₁ := List.take (j + 1) (cur.toList.set j v)) (by omega), List.getElem?_take_of_lt (by omega), List.getElem?_set_self (by omega), List.getElem?_append_right (l₁ := List.take j cur.toList) (by omega), lt2]
        simp
      · rw [List.getElem?_append_right (l₁ := List.take (o + 1) (cur.toList.set o v)) (by omega), List.getElem?_append_right (l₁ := List.take o cur.toList) (by omega), lt1, lt2]
        have e2 : j - o = (j - (o + 1)) + 1 := by omega
        rw [e2, List.cons_append, List.getElem?_cons_succ]
        by_cases h5 : j - (o + 1) < cs.length
        · rw [List.getElem?_append_left h5, List.getElem?_append_left h5]
        · rw [List.getElem?_append_right (by omega), List.getElem?_append_right (by omega), List.getElem?_drop, List.getElem?_drop, List.getElem?_set_ne (by omega)]
          congr 1; omega

theorem setCells_other (b : Nat) : ∀ (cs : List Value) (o : Nat) (w : World) (j : Nat), j ≠ b → (w.setCells b o cs).heap[j]? = w.heap[j]?
  | [], _, _, _, _ => rfl
  | v :: cs, o, w, j, h => by rw [World.setCells, setCells_other b cs _ _ _ h]; exact Below.heap_setCell _ _ _ _ h
theorem setCells_size (b : Nat) : ∀ (cs : List Value) (o : Nat) (w : World), (w.setCells b o cs).heap.size = w.heap.size
  | [], _, _ => rfl
  | v :: cs, o, w => by rw [World.setCells, setCells_size b cs]; simp [World.setCell]
theorem setCells_env (b : Nat) : ∀ (cs : List Value) (o : Nat) (w : World), (w.setCells b o cs).os = w.os ∧ (w.setCells b o cs).tape = w.tape ∧ (w.setCells b o cs).output = w.output
  | [], _, _ => ⟨rfl, rfl, rfl⟩
  | v :: cs, o, w => by rw [World.setCells]; exact setCells_env b cs _ _
theorem setCells_grown (b : Nat) (cs : List Value) (o : Nat) (w : World) : w.grownBy (w.setCells b o cs) (some b) :=
  ⟨(setCells_env b cs o w).1, (setCells_env b cs o w).2.1, (setCells_env b cs o w).2.2, by rw [setCells_size]; exact Nat.le_refl _, fun k _ hne => setCells_other b cs o w k (fun e => hne (by rw [e]))⟩

/-- copy(d, s) into a block that is known whole. -/
theorem run_copyR {P : Program} (w : World) (dT sT ty elem : TypeId) (k b o dLen dCap : Nat) (sp : Option Addr) (sLen sCap : Nat) (cs : List Value) (cur : Array Value) (T : TypeId)
    (hu : P.underlying dT = some (.slice elem)) (hs : (P.info? elem).map (·.size) = some k) (hn : cs.length = Nat.min sLen dLen * k) (hb : w.heap[b]? = some (.cells cur T (0, 0)))
    (hsrc : ∃ a, sp = some a ∧ ∀ j v, cs[j]? = some v → w.cell? (a.add j) = some v) (hfit : o + cs.length ≤ cur.size) (h1 : ∀ v ∈ cs, v.oneCell' = true) :
    ∃ w', (Builtin.copy_ #[dT, sT] ty #[.slice (some ⟨b, o, none⟩) dLen dCap, .slice sp sLen sCap]).run P w = .ok (goInt (Nat.min sLen dLen : Nat)) w' ∧ Hid (w'.heap[b]? = some (.cells (splice cur.toList o cs).toArray T (0, 0)) ∧ w.grownBy w' (some b) ∧ w'.heap.size = w.heap.size) := by
  obtain ⟨a, rfl, hsrc⟩ := hsrc
  refine ⟨_, run_copyK w dT sT ty elem k b o dLen dCap a sLen sCap cs hu hs hn hsrc (fun j hj => ?_) (fun j hj => ?_) h1, Lib.hid ⟨setCells_block b T (0, 0) cs o w cur hb hfit, setCells_grown b cs o w, setCells_size b cs o w⟩⟩
  · simp [World.cell?, hb]; omega
  · simp [World.frozen?, hb]

theorem wpList_copy_run {P : Program} {w : World} {ops : Array Oper} {rest : List Oper} {o : Oper} {a : Act} {Q : Exit → Act → World → Prop} (hgd : o.guard = none) (d s : Operand) (t t' : TypeId)
    (ho : o.op = .call { callee := .builtin .copy, args := #[d, s], argTypes := #[t, t'] }) (v u : Value) (hd : a.eval d = v) (hs : a.eval s = u) {v' : Value} {w' : World}
    (hr : (Builtin.copy_ #[t, t'] o.type #[v, u]).run P w = .ok v' w') (h : wpList P ops Q rest (a.put o.dst v') w') : wpList P ops Q (o :: rest) a w := by
  refine wpList_plain hgd fun K hK => ?_
  unfold Oper.wp
  simp [execOp, ho, resolve, invoke, builtin, hd, hs, hr, Result.andThen]
  exact hK _ _ h
theorem step_copy_run {P : Program} {ops : Array Oper} {o : Oper} {a : Act} {w : World} {K : Act → World → Prop} {Q : Exit → Act → World → Prop} {E : Prop} (hgd : o.guard = none) (d s : Operand) (t t' : TypeId)
    (ho : o.op = .call { callee := .builtin .copy, args := #[d, s], argTypes := #[t, t'] }) (v u : Value) (hd : a.eval d = v) (hs : a.eval s = u) {v' : Value} {w' : World}
    (hr : (Builtin.copy_ #[t, t'] o.type #[v, u]).run P w = .ok v' w') (hK : K (a.put o.dst v') w') : if Region.wanted o (yielded ops a.tmps) = true then Oper.wp P o a w K Q else E := by
  rw [if_pos (by simp [Region.wanted, hgd])]
  unfold Oper.wp
  simp [execOp, ho, resolve, invoke, builtin, hd, hs, hr, Result.andThen]
  exact hK
end Go.Proofs.Ytdkkpkgfiodlbaa

/- (*bits.Writer).Bytes. -/
namespace Go.Proofs.Ytdkkpkgfiodlbaa
open Go.RowKit

theorem run_makeBytes (w : World) (n : Nat) (hn : n ≤ 1048576) : (Instr.makeSlice 39 (.int .i64 (n : Int)) (.int .i64 (n : Int))).run Try.prog w = .ok (.slice (some ⟨w.heap.size, 0, none⟩) n n) (w.alloc (.cells (Array.replicate n (u8 0)) 5)) := by
  obtain ⟨i, hi, h2⟩ := Option.map_eq_some_iff.1 Try.infoU8
  simp only [Prod.mk.injEq] at h2
  obtain ⟨hz, hs, hb⟩ := h2
  have := run_makeSlice (P := Try.prog) w 39 5 i (.int .u8 0) Try.underlying39 hi hz .i64 .i64 n n (by omega) (Int.le_refl _) (by rw [hs]; omega) (by rw [hb]; omega) (by omega)
  rw [this, hs]
  have e : madeCells (Value.int .u8 0).cells ((n : Int).toNat * 1) = (Array.replicate n (u8 0)) := by
    apply Array.toList_inj.1
    rw [show (Value.int IntKind.u8 0).cells = #[Value.int .u8 0] from rfl, toList_madeCells_one]
    simp
  rw [e]; simp
theorem run_copyB (w : World) (ty : TypeId) (b n : Nat) (v : Value) {base : Nat} {w0 : World} (cs : List Nat) (h : w0.ownsRow base 5 1 v n (cs.map u8)) (hbel : Below w0.heap.size w0 w)
    (hb : w.heap[b]? = some (.cells (Array.replicate n (u8 0)) 5)) :
    ∃ w', (Builtin.copy_ #[39, 39] ty #[.slice (some ⟨b, 0, none⟩) n n, v]).run Try.prog w = .ok (goInt (n : Nat)) w' ∧ Hid (w'.heap[b]? = some (.cells (cs.map u8).toArray 5) ∧ w.grownBy w' (some b) ∧ w'.heap.size = w.heap.size) := by
  have hl : cs.length = n := by simpa using h.1
  rcases h.2 with ⟨rfl, rfl⟩ | ⟨g, cap, cur, rfl, hg, hh, hn, hm, hs, ht⟩
  · have : cs = [] := List.length_eq_zero_iff.1 hl
    subst this
    obtain ⟨i, hi, h2⟩ := Option.map_eq_some_iff.1 Try.infoU8
    refine ⟨w, ?_, Lib.hid ⟨hb, ⟨rfl, rfl, rfl, Nat.le_refl _, fun _ _ _ => rfl⟩, rfl⟩⟩
    simp [Builtin.copy_, run_underlying Try.underlying39, Builtin.lenOf, Builtin.firstCells, sizeOf, typeInfo, hi]
    rfl
  · obtain ⟨i, hi, h2⟩ := Option.map_eq_some_iff.1 Try.infoU8
    simp only [Prod.mk.injEq] at h2
    have hmin : Nat.min n n = n := by simp
    have hgw : w.heap[g]? = some (.cells cur 5) := (hbel.block g (Array.getElem?_eq_some_iff.1 hh).1).trans hh
    obtain ⟨w', e, H⟩ := run_copyR (P := Try.prog) w 39 39 ty 5 1 b 0 n n (some ⟨g, 0, none⟩) n cap (cs.map u8) (Array.replicate n (u8 0)) 5 Try.underlying39 (by rw [hi]; simp [h2.2.1]) (by rw [hmin]; simp [hl]) hb
      ⟨⟨g, 0, none⟩, rfl, fun j u hj => by
        have h3 : cur[j]? = some u := by
          have hj2 : j < n := by have := (List.getElem?_eq_some_iff.1 hj).1; simp at this; omega
          rw [← ht, List.getElem?_take_of_lt (by omega), Array.getElem?_toList] at hj; exact hj
        rw [addr_add, Nat.zero_add, Bt.cell_of hgw]; exact h3⟩ (by simp [hl]) (by intro u hu; simp at hu; obtain ⟨a, _, rfl⟩ := hu; rfl)
    rw [hmin] at e
    refine ⟨w', e, Lib.hid ⟨?_, H.out.2⟩⟩
    rw [H.out.1]
    have : splice (Array.replicate n (u8 0)).toList 0 (cs.map u8) = cs.map u8 := by simp [splice, hl]
    rw [this]

def BytesQ (L : List Bool) (w : World) (e : Ending) (w' : World) : Prop :=
  ∃ v, e = .returned v ∧ OwU w.heap.size w' v (btBytes L) ∧ Below w.heap.size w w'
set_option maxRecDepth 100000 in
set_option maxHeartbeats 4000000 in
theorem bytes_call {base p : Nat} {L : List Bool} (w : World) (h : WrS base p L w) (hL : L.length ≤ 1048640) :
    Calls Try.prog 36 #[.pointer (some ⟨p, 0, none⟩)] w (BytesQ L w) := by
  obtain ⟨hbp, v, hp, ho⟩ := h
  obtain ⟨a, c, rfl⟩ := Bt.own_shape ho
  have hn : (btBytes L).length ≤ 1048576 := by rw [btBytes_length]; omega
  obtain ⟨bs, hbs⟩ : ∃ bs, bs = btBytes L := ⟨_, rfl⟩
  have HBS := Lib.hid hbs
  rw [← hbs] at ho hp hn
  have hlen : bs.length = bs.length := rfl
  clear hbs
  have HP := Lib.hid hp
  have HO := Lib.hid ho
  have c0 : w.cell? ⟨p, 0, none⟩ = some (.slice a bs.length c) := by rw [Bt.cell_of hp]; rfl
  have c1 : ∀ o, (w.alloc o).cell? ⟨p, 0, none⟩ = some (.slice a bs.length c) := fun o => cell_later ((Below.refl _ _).alloc (Nat.le_refl _) o) c0
  have hmk := run_makeBytes w bs.length hn
  have HN := Lib.hid hn
  clear hp ho hn
  go_enter Try.func36, Try.ntmps36
  obtain ⟨w2, hr, H2⟩ := run_copyB (w.alloc (.cells (Array.replicate bs.length (u8 0)) 5)) 3 w.heap.size bs.length (.slice a bs.length c) bs HO.out ((Below.refl _ _).alloc (Nat.le_refl _) _) (Bt.alloc_at _ _)
  go_wp2_with (refine wpList_copy_run rfl _ _ _ _ rfl _ _ rfl rfl hr ?_)
  go_ret
  obtain ⟨h1, h2, h3⟩ := H2.out
  have hcs : (bs.map u8).toArray.size = bs.length := by simp
  refine ⟨_, rfl, ?_, ?_⟩
  · show World.ownsRow _ _ _ _ _ _ _
    rw [← HBS.out]
    refine ⟨by simp, .inr ⟨w.heap.size, bs.length, (bs.map u8).toArray, rfl, Nat.le_refl _, h1, Nat.le_refl _, by unfold maxLen; have := HN.out; omega, by simp, by rw [Nat.mul_one]; exact List.take_of_length_le (by simp)⟩⟩
  · exact ⟨h2.os, h2.tape, h2.output, by rw [h3]; simp, fun j hj => (h2.block j (by simp; omega) (by simp; omega)).trans (Below.heap_alloc _ _ _ hj)⟩
end Go.Proofs.Ytdkkpkgfiodlbaa

/- Reading bits: plain. Names no program. -/
namespace Go.Proofs.Ytdkkpkgfiodlbaa
/-- The bits of bytes. -/
def bitsOf : List Nat → List Bool
  | [] => []
  | b :: bs => putL b 8 ++ bitsOf bs
theorem bitsOf_length : ∀ bs, (bitsOf bs).length = 8 * bs.length
  | [] => rfl
  | b :: bs => by simp [bitsOf, putL_length, bitsOf_length bs]; omega
theorem putL_at (x : Nat) : ∀ n i, i < n → (putL x n)[i]? = some (x / 2 ^ (n - 1 - i) % 2 == 1)
  | 0, _, h => by omega
  | n + 1, 0, _ => by simp [putL]
  | n + 1, i + 1, h => by
    rw [putL, List.getElem?_cons_succ, putL_at x n i (by omega)]
    rw [show n + 1 - 1 - (i + 1) = n - 1 - i by omega]
theorem bitsOf_at : ∀ (bs : List Nat) (i b : Nat), bs[i / 8]? = some b → (bitsOf bs)[i]? = some (b / 2 ^ (7 - i % 8) % 2 == 1)
  | [], i, b, h => by simp at h
  | c :: bs, i, b, h => by
    rw [bitsOf]
    by_cases hi : i < 8
    · have h0 : i / 8 = 0 := by omega
      rw [h0] at h
      simp only [List.getElem?_cons_zero, Option.some.injEq] at h
      subst h
      rw [List.getElem?_append_left (by rw [putL_length]; exact hi), putL_at _ _ _ hi]
      rw [show i % 8 = i by omega]
    · have h0 : i / 8 = (i - 8) / 8 + 1 := by omega
      rw [h0, List.getElem?_cons_succ] at h
      rw [List.getElem?_append_right (by rw [putL_length]; omega), putL_length, bitsOf_at bs (i - 8) b h]
      rw [show (i - 8) % 8 = i % 8 by omega]
/-- The number of some bits. -/
def valL (L : List Bool) : Nat := L.foldl (fun a b => 2 * a + (if b then 1 else 0)) 0
theorem valL_snoc (L : List Bool) (b : Bool) : valL (L ++ [b]) = 2 * valL L + (if b then 1 else 0) := by simp [valL, List.foldl_append]
theorem foldl_val (L : List Bool) : ∀ a, L.foldl (fun a b => 2 * a + (if b then 1 else 0)) a = a * 2 ^ L.length + valL L := by
  induction L with
  | nil => intro a; simp [valL]
  | cons b L ih =>
    intro a
    show L.foldl _ _ = a * 2 ^ (L.length + 1) + L.foldl _ _
    rw [ih, ih, Nat.pow_succ, Nat.add_mul]
    rw [Nat.mul_comm 2 a, Nat.mul_assoc, Nat.mul_comm 2 (2 ^ L.length)]
    simp only [Nat.mul_zero, Nat.zero_add]; omega
theorem valL_cons (b : Bool) (L : List Bool) : valL (b :: L) = (if b then 1 else 0) * 2 ^ L.length + valL L := by
  show L.foldl _ _ = _
  rw [foldl_val]; simp
theorem valL_lt : ∀ L : List Bool, valL L < 2 ^ L.length
  | [] => by simp [valL]
  | b :: L => by
    have := valL_lt L
    rw [valL_cons, List.length_cons, Nat.pow_succ]
    cases b <;> simp <;> omega
theorem valL_putL (x : Nat) : ∀ n, valL (putL x n) = x % 2 ^ n
  | 0 => by simp [putL, valL, Nat.mod_one]
  | n + 1 => by
    rw [putL, valL_cons, putL_length, valL_putL x n]
    have h1 : x % 2 ^ (n + 1) = x % 2 ^ n + 2 ^ n * (x / 2 ^ n % 2) := by rw [Nat.pow_succ, Nat.mod_mul]
    rw [h1]
    have : x / 2 ^ n % 2 < 2 := Nat.mod_lt _ (by decide)
    rcases (show x / 2 ^ n % 2 = 0 ∨ x / 2 ^ n % 2 = 1 by omega) with h | h <;> rw [h] <;> simp <;> omega
theorem putL_valL : ∀ L : List Bool, putL (valL L) L.length = L
  | [] => rfl
  | b :: L => by
    have hlt := valL_lt L
    have ih := putL_valL L
    rw [List.length_cons, putL, valL_cons]
    have e1 : ((if b then 1 else 0) * 2 ^ L.length + valL L) / 2 ^ L.length % 2 = if b then 1 else 0 := by
      rw [Nat.add_comm, Nat.add_mul_div_right _ _ (Nat.two_pow_pos _), Nat.div_eq_of_lt hlt]
      cases b <;> rfl
    rw [e1]
    congr 1
    · cases b <;> rfl
    · have : ∀ n, n ≤ L.length → putL ((if b then 1 else 0) * 2 ^ L.length + valL L) n = putL (valL L) n := by
        intro n hn
        induction n with
        | zero => rfl
        | succ n ihn =>
          rw [putL, putL, ihn (by omega)]
          congr 2
          obtain ⟨d, hd⟩ : ∃ d, L.length = n + 1 + d := ⟨L.length - (n + 1), by omega⟩
          have e2 : (if b then 1 else 0) * 2 ^ L.length = 2 ^ n * (2 * ((if b then 1 else 0) * 2 ^ d)) := by
            rw [hd, Nat.pow_add, Nat.pow_succ]; cases b <;> simp [Nat.mul_comm, Nat.mul_left_comm, Nat.mul_assoc]
          rw [e2, Nat.add_comm, Nat.add_mul_div_left _ _ (Nat.two_pow_pos _)]
          omega
      rw [this _ (Nat.le_refl _), ih]
theorem valL_append (A B : List Bool) : valL (A ++ B) = valL A * 2 ^ B.length + valL B := by
  unfold valL; rw [List.foldl_append, foldl_val]; rfl
theorem valL_falses : ∀ n, valL (List.replicate n false) = 0
  | 0 => rfl
  | n + 1 => by rw [List.replicate_succ, valL_cons, valL_falses n]; simp
theorem putL_zero : ∀ n, putL 0 n = List.replicate n false
  | 0 => rfl
  | n + 1 => by rw [putL, putL_zero n, List.replicate_succ]; simp
theorem valL_zero : ∀ L : List Bool, valL L = 0 → L = List.replicate L.length false := fun L h => by
  have := putL_valL L
  rw [h, putL_zero] at this; exact this.symm

/-- What a reader has ahead of it, and why it stopped. -/
structure Rd where
  rest : List Bool
  bad : Int
/-- n bits read. -/
def getS (s : Rd) (n : Nat) : Nat × Rd :=
  if s.bad ≠ 0 then (0, s) else if s.rest.length < n then (0, ⟨s.rest, 10⟩) else (valL (s.rest.take n), ⟨s.rest.drop n, 0⟩)
/-- What reading gives: of something that is written what was written; nothing else. -/
def RdOK {α : Type} (enc : α → List Bool) (ok : α → Prop) (s s' : Rd) (x : α) : Prop :=
  (s.bad = 0 → ∀ y t, ok y → s.rest = enc y ++ t → x = y ∧ s'.rest = t ∧ s'.bad = 0) ∧ (s'.bad = 0 → s.bad = 0 ∧ ok x ∧ s.rest = enc x ++ s'.rest)
end Go.Proofs.Ytdkkpkgfiodlbaa

/- (*bits.Reader).Left, fail, Get. -/
namespace Go.Proofs.Ytdkkpkgfiodlbaa
open Go.RowKit
/-- A reader in memory. -/
def RdrS (base p : Nat) (s : Rd) (W : World) : Prop := base ≤ p ∧ ∃ v bs at', W.heap[p]? = some (.cells #[v, vi (at' : Nat), vi s.bad] 155) ∧ OwU base W v bs ∧ (∀ b ∈ bs, b < 256) ∧ bs.length ≤ 1048576 ∧ at' ≤ 8 * bs.length ∧ (bitsOf bs).drop at' = s.rest
def leftS (s : Rd) : Nat := if s.bad ≠ 0 then 0 else s.rest.length
theorem RdrS.later {base p : Nat} {s : Rd} {A B : World} (h : RdrS base p s A) (hb : Below A.heap.size A B) : RdrS base p s B := by
  obtain ⟨hp, v, bs, at', h1, h2, r⟩ := h
  exact ⟨hp, v, bs, at', (hb.block p (Array.getElem?_eq_some_iff.1 h1).1).trans h1, own_below h2 hb, r⟩
theorem RdrS.drewN {base p : Nat} {s : Rd} {A : World} (h : RdrS base p s A) (n : Nat) : RdrS base p s (A.drewN n) := h
theorem RdrS.lt {base p : Nat} {s : Rd} {A : World} (h : RdrS base p s A) : p < A.heap.size := by
  obtain ⟨hp, v, bs, at', h1, _⟩ := h
  exact (Array.getElem?_eq_some_iff.1 h1).1
theorem gro_refl (w : World) (r : Option Nat) : w.grownBy w r := ⟨rfl, rfl, rfl, Nat.le_refl _, fun _ _ _ => rfl⟩
theorem gro_trans {a b c : World} {r : Option Nat} (h : a.grownBy b r) (k : b.grownBy c r) : a.grownBy c r :=
  ⟨k.os.trans h.os, k.tape.trans h.tape, k.output.trans h.output, Nat.le_trans h.size k.size, fun i hi hne => (k.block i (Nat.lt_of_lt_of_le hi h.size) hne).trans (h.block i hi hne)⟩
theorem gro_drewN {a w : World} {r : Option Nat} (h : a.grownBy w r) (n : Nat) : a.grownBy (w.drewN n) r := ⟨h.os, h.tape, h.output, h.size, h.block⟩
theorem gro_setP {a w : World} {p o : Nat} (h : a.grownBy w (some p)) (v : Value) : a.grownBy (w.setCell ⟨p, o, none⟩ v) (some p) :=
  ⟨h.os, h.tape, h.output, by simpa [World.setCell] using h.size, fun i hi hne => (Below.heap_setCell w ⟨p, o, none⟩ v i (fun e => hne (by rw [e]))).trans (h.block i hi hne)⟩

def LeftQ (s : Rd) (w : World) (e : Ending) (w' : World) : Prop := e = .returned (vi (leftS s)) ∧ ∃ n, w' = w.drewN n
set_option maxRecDepth 100000 in
theorem left_call {base p : Nat} {s : Rd} (w : World) (h : RdrS base p s w) :
    Calls Try.prog 81 #[.pointer (some ⟨p, 0, none⟩)] w (LeftQ s w) := by
  obtain ⟨hbp, v, bs, at', hp, ho, hby, hl, hat, hr⟩ := h
  obtain ⟨a, c, rfl⟩ := Bt.own_shape ho
  have HE : s.rest.length = 8 * bs.length - at' := by rw [← hr]; simp [bitsOf_length]
  have HE := Lib.hid HE
  have c0 : w.cell? ⟨p, 0, none⟩ = some (.slice a bs.length c) := by rw [Bt.cell_of hp]; rfl
  have c1 : w.cell? ⟨p, 1, none⟩ = some (vi (at' : Nat)) := by rw [Bt.cell_of hp]; rfl
  have c2 : w.cell? ⟨p, 2, none⟩ = some (vi s.bad) := by rw [Bt.cell_of hp]; rfl
  clear hp ho hby hr
  by_cases hb : s.bad = 0
  · have hb1 : (s.bad != 0) = false := by simp [hb]
    have HB := Lib.hid hb
    clear hb
    have hw1 : IntKind.i64.wrap (8 * (bs.length : Int)) = 8 * (bs.length : Int) := IntWalk.i64_in _ (by omega)
    have hw2 : IntKind.i64.wrap (8 * (bs.length : Int) - at') = 8 * (bs.length : Int) - at' := IntWalk.i64_in _ (by omega)
    go_enter Try.func81, Try.ntmps81
    go_wp2_with fail
    go_quiet (fail)
    go_wp2_with fail
    go_ret
    refine ⟨congrArg Ending.returned (congrArg (Value.int IntKind.i64) ?_), _, rfl⟩
    rw [leftS, if_neg (by simp [HB.out]), HE.out]
    omega
  · have hb1 : (s.bad != 0) = true := by simp [hb]
    have HB := Lib.hid hb
    clear hb
    go_enter Try.func81, Try.ntmps81
    go_wp2_with fail
    go_ret
    refine ⟨congrArg Ending.returned (congrArg (Value.int IntKind.i64) ?_), 0, rfl⟩
    rw [leftS, if_pos HB.out]; rfl

def FailQ (base p : Nat) (s : Rd) (x : Int) (w : World) (e : Ending) (w' : World) : Prop := e = .returned (.int .u64 0) ∧ RdrS base p ⟨s.rest, if s.bad = 0 then x else s.bad⟩ w' ∧ w.grownBy w' (some p)
set_option maxRecDepth 100000 in
theorem fail_call {base p : Nat} {s : Rd} (x : Int) (w : World) (h : RdrS base p s w) :
    Calls Try.prog 83 #[.pointer (some ⟨p, 0, none⟩), vi x] w (FailQ base p s x w) := by
  have HW := Lib.hid h
  obtain ⟨hbp, v, bs, at', hp, ho, hby, hl, hat, hr⟩ := h
  have HP := Lib.hid hp
  have HO := Lib.hid ho
  have HR := Lib.hid hr
  have HBY := Lib.hid hby
  have c2 : w.cell? ⟨p, 2, none⟩ = some (vi s.bad) := by rw [Bt.cell_of hp]; rfl
  have f2 : w.frozen? ⟨p, 2, none⟩ = false := Bt.free_of hp 2
  clear hp ho hby hr
  by_cases hb : s.bad = 0
  · have hb1 : (s.bad == 0) = true := by simp [hb]
    have HB := Lib.hid hb
    clear hb
    go_enter Try.func83, Try.ntmps83
    go_wp2_with fail
    go_ret
    refine ⟨rfl, ⟨hbp, v, bs, at', ?_, ?_, HBY.out, hl, hat, HR.out⟩, gro_setP (gro_refl _ _) _⟩
    · rw [if_pos HB.out]; exact Bt.cells_set _ HP.out
    · refine Bt.own_frame HO.out (fun g hg => Below.heap_setCell _ _ _ _ (fun e => ?_))
      subst e
      rcases HO.out.2 with ⟨h1, _⟩ | ⟨g', cap, cur, h1, h2, h3, _⟩
      · rw [h1] at hg; cases hg
      · rw [h1] at hg; simp only [Value.ownBlock, Option.some.injEq] at hg; subst hg; rw [HP.out] at h3; cases h3
  · have hb1 : (s.bad == 0) = false := by simp [hb]
    have HB := Lib.hid hb
    clear hb
    go_enter Try.func83, Try.ntmps83
    go_wp2_with fail
    go_ret
    refine ⟨rfl, ?_, gro_refl _ _⟩
    rw [if_neg HB.out]; exact HW.out
end Go.Proofs.Ytdkkpkgfiodlbaa

/- (*bits.Reader).Get. -/
namespace Go.Proofs.Ytdkkpkgfiodlbaa
open Go.RowKit

theorem getS_bad {s : Rd} {n : Nat} (h : s.bad ≠ 0) : getS s n = (0, s) := by rw [getS, if_pos h]
theorem getS_short {s : Rd} {n : Nat} (h : s.bad = 0) (h2 : s.rest.length < n) : getS s n = (0, ⟨s.rest, 10⟩) := by rw [getS, if_neg (by simp [h]), if_pos h2]
theorem getS_ok {s : Rd} {n : Nat} (h : s.bad = 0) (h2 : n ≤ s.rest.length) : getS s n = (valL (s.rest.take n), ⟨s.rest.drop n, 0⟩) := by rw [getS, if_neg (by simp [h]), if_neg (by omega)]
def GetQ (base p : Nat) (s : Rd) (n : Nat) (w : World) (e : Ending) (w' : World) : Prop := e = .returned (.int .u64 ((getS s n).1 : Nat)) ∧ RdrS base p (getS s n).2 w' ∧ w.grownBy w' (some p)
set_option maxHeartbeats 4000000 in
set_option maxRecDepth 100000 in
theorem get_bad {base p : Nat} {s : Rd} (n : Nat) (w : World) (h : RdrS base p s w) (hn : n ≤ 64) (hb : leftS s < n) :
    Calls Try.prog 80 #[.pointer (some ⟨p, 0, none⟩), vi n] w (GetQ base p s n w) := by
  have HW := Lib.hid h
  have HE : Hid (getS s n = (0, ⟨s.rest, if s.bad = 0 then 10 else s.bad⟩)) := by
    by_cases h0 : s.bad = 0
    · rw [getS_short h0 (by unfold leftS at hb; rw [if_neg (by simp [h0])] at hb; exact hb), if_pos h0]; exact Lib.hid rfl
    · rw [getS_bad h0, if_neg h0]; exact Lib.hid rfl
  have hlt : decide ((leftS s : Int) < n) = true := by simp; exact hb
  have hlt2 : decide (leftS s < n) = true := by simp; exact hb
  clear h
  go_enter Try.func80, Try.ntmps80
  go_wp2_with (first
    | (go_at_call 81; refine (left_call w HW.out).mono ?_; rintro e w1 ⟨rfl, n1, rfl⟩)
    | (go_at_call 83; refine (fail_call 10 _ (HW.out.drewN n1)).mono ?_; rintro e2 w2 ⟨rfl, hw2, hg2⟩; have HW2 := Lib.hid hw2; have HG2 := Lib.hid hg2; clear hw2 hg2))
  go_ret
  refine ⟨?_, ?_, ?_⟩
  · rw [HE.out]; rfl
  · rw [HE.out]; exact HW2.out
  · exact gro_trans (gro_drewN (gro_refl _ _) n1) HG2.out
set_option maxHeartbeats 4000000 in
set_option maxRecDepth 100000 in
theorem get_none {base p : Nat} {s : Rd} (w : World) (h : RdrS base p s w) (hb : s.bad ≠ 0) :
    Calls Try.prog 80 #[.pointer (some ⟨p, 0, none⟩), vi (0 : Nat)] w (GetQ base p s 0 w) := by
  have HW := Lib.hid h
  have HE := Lib.hid (getS_bad (n := 0) hb)
  have hl : leftS s = 0 := by unfold leftS; rw [if_pos hb]
  have hlt : decide ((leftS s : Int) < 0) = false := by simp
  clear h hb
  go_enter Try.func80, Try.ntmps80
  go_wp2_with (first
    | (go_at_call 81; refine (left_call w HW.out).mono ?_; rintro e w1 ⟨rfl, n1, rfl⟩))
  refine wp_loop_rounds 1 ?_
  rw [rounds_succ]
  go_wp2_with fail
  go_ret
  refine ⟨?_, ?_, gro_drewN (gro_refl _ _) n1⟩
  · rw [HE.out]; rfl
  · rw [HE.out]; exact HW.out.drewN n1

theorem byte_bit {b k : Nat} (hb : b < 256) {x : Nat} (hx : x < 9223372036854775808) : bits .or .u64 (2 * (x : Int)) (IntKind.u64.wrap (bits .and .u8 ((b : Int) / 2 ^ (7 - k)) 1)) = ((2 * x + (if (b / 2 ^ (7 - k) % 2 == 1) then 1 else 0) : Nat) : Int) := by
  have e1 : (b : Int) / 2 ^ (7 - k) = ((b / 2 ^ (7 - k) : Nat) : Int) := by simp
  have hlt : b / 2 ^ (7 - k) < 256 := Nat.lt_of_le_of_lt (Nat.div_le_self _ _) hb
  have e2 : bits .and .u8 ((b / 2 ^ (7 - k) : Nat) : Int) 1 = ((b / 2 ^ (7 - k) % 2 : Nat) : Int) := by
    generalize b / 2 ^ (7 - k) = y at *
    have := bits_mask .u8 8 (by decide) (fun n h0 h1 => by rw [IntKind.wrap_u8]; omega) 1 (by decide) (y : Int) (by omega) (by omega)
    have h2 : bits .and .u8 (y : Int) 1 = (y : Int) % 2 := this
    rw [h2]; omega
  rw [e1, e2]
  have hy2 : b / 2 ^ (7 - k) % 2 < 2 := Nat.mod_lt _ (by decide)
  have e3 : (2 * (x : Int)) = ((2 * x : Nat) : Int) := by omega
  have e4 : IntKind.u64.wrap ((b / 2 ^ (7 - k) % 2 : Nat) : Int) = ((b / 2 ^ (7 - k) % 2 : Nat) : Int) := by rw [IntKind.wrap_u64]; omega
  rw [e3, e4, u64_or_nat _ _ (by omega) (by omega)]
  rcases (show b / 2 ^ (7 - k) % 2 = 0 ∨ b / 2 ^ (7 - k) % 2 = 1 by omega) with h | h
  · rw [h]; simp
  · rw [h]
    have h3 := Nat.two_pow_add_eq_or_of_lt (i := 1) (b := 1) (by decide) x
    rw [show 2 ^ 1 * x = 2 * x by omega] at h3
    rw [← h3]; simp
set_option maxHeartbeats 4000000 in
set_option maxRecDepth 100000 in
theorem get_ok {base p : Nat} {s : Rd} (n : Nat) (w : World) (h : RdrS base p s w) (hn : n ≤ 64) (hb0 : s.bad = 0) (hle : n ≤ s.rest.length) :
    Calls Try.prog 80 #[.pointer (some ⟨p, 0, none⟩), vi n] w (GetQ base p s n w) := by
  have HW := Lib.hid h
  have HE := Lib.hid (getS_ok hb0 hle)
  have hlt : decide ((leftS s : Int) < n) = false := by simp [leftS, hb0]; exact hle
  have hlt2 : decide (leftS s < n) = false := by simp [leftS, hb0]; exact hle
  obtain ⟨hbp, v, bs, at', hp, ho, hby, hl, hat, hr⟩ := h
  have HP := Lib.hid hp
  have HO := Lib.hid ho
  have HR := Lib.hid hr
  have HBY := Lib.hid hby
  have HB0 := Lib.hid hb0
  have hmin : min (n : Int) 64 = n := by omega
  have hrl : s.rest.length ≤ 8 * bs.length - at' := by rw [← hr]; simp [bitsOf_length]
  clear hp ho hr hby hb0
  go_enter Try.func80, Try.ntmps80
  go_wp2_with (first
    | (go_at_call 81; refine (left_call w HW.out).mono ?_; rintro e w1 ⟨rfl, n1, rfl⟩))
  go_loopw [5, 16] (fun x i wr => ∃ k : Nat, k ≤ n ∧ i = vi k ∧ x = .int .u64 (valL (s.rest.take k) : Nat) ∧ Hid (wr.heap[p]? = some (.cells #[v, vi (at' + k : Nat), vi 0] 155) ∧ w.grownBy wr (some p))) (fun _ i _ => (n : Int).toNat - (intOf i).toNat)
  case atStart =>
    refine ⟨0, Nat.zero_le _, rfl, rfl, Lib.hid ⟨?_, gro_drewN (gro_refl _ _) n1⟩⟩
    show w.heap[p]? = _
    rw [HP.out, HB0.out]; rfl
  case round =>
    obtain ⟨wj, rfl⟩ : ∃ wj : World, wj = wr := ⟨_, rfl⟩
    obtain ⟨k, hk, rfl, rfl, HJ⟩ := hrel
    have ho2 : OwU base wj v bs := Bt.own_frame HO.out (fun g hg => HJ.out.2.block g ((HO.out.lt g hg).2) (fun e => by
      simp only [Option.some.injEq] at e
      subst e
      rcases HO.out.2 with ⟨h1, _⟩ | ⟨g', cap, cur, h1, h2, h3, _⟩
      · rw [h1] at hg; cases hg
      · rw [h1] at hg; simp only [Value.ownBlock, Option.some.injEq] at hg; subst hg; rw [HP.out] at h3; cases h3))
    by_cases hkn : k < n
    · have hkn2 : decide ((k : Int) < n) = true := by simp; exact hkn
      obtain ⟨A, hA⟩ : ∃ A, A = at' + k := ⟨_, rfl⟩
      have HJ1 := HJ.out.1
      have HJ2 := Lib.hid HJ.out.2
      rw [← hA] at HJ1
      have hAl : A < 8 * bs.length := by omega
      have hi : A / 8 < bs.length := by omega
      obtain ⟨b, hb⟩ : ∃ b, bs[(A) / 8]? = some b := ⟨_, List.getElem?_eq_getElem hi⟩
      have hbl : b < 256 := HBY.out b (List.mem_of_getElem? hb)
      have hbit : s.rest[k]? = some (b / 2 ^ (7 - (A) % 8) % 2 == 1) := by rw [← HR.out, List.getElem?_drop, ← hA]; exact bitsOf_at bs _ b hb
      have hv := valL_snoc (s.rest.take k) (b / 2 ^ (7 - (A) % 8) % 2 == 1)
      have htk : s.rest.take (k + 1) = s.rest.take k ++ [b / 2 ^ (7 - (A) % 8) % 2 == 1] := by
        rw [List.take_add_one, hbit]; rfl
      rw [← htk] at hv
      have hvl := valL_lt (s.rest.take k)
      have hvl2 : valL (s.rest.take k) < 9223372036854775808 := by
        refine Nat.lt_of_lt_of_le hvl (Nat.le_trans (Nat.pow_le_pow_right (by decide) (show _ ≤ 63 by rw [List.length_take]; omega)) (by decide))
      obtain ⟨X, hX⟩ : ∃ X, X = valL (s.rest.take k) := ⟨_, rfl⟩
      rw [← hX] at hv hvl2 ⊢
      have hbb := byte_bit (b := b) (k := (A) % 8) hbl (x := X) hvl2
      rw [← hv] at hbb
      have HBB := Lib.hid hbb
      clear hvl hX hv htk hbit hbb
      rcases ho2.2 with ⟨h1, h2⟩ | ⟨g, cap, cur, rfl, hgb, hg, hn2, hm, hs2, ht⟩
      · omega
      have c0 : wj.cell? ⟨p, 0, none⟩ = some (.slice (some ⟨g, 0, none⟩) bs.length cap) := by rw [Bt.cell_of HJ1]; rfl
      have c1 : wj.cell? ⟨p, 1, none⟩ = some (vi (A : Nat)) := by rw [Bt.cell_of HJ1]; rfl
      have c3 : wj.cell? ⟨g, (A) / 8, none⟩ = some (u8 b) := by
        rw [Bt.cell_of hg]
        have h3 : (bs.map u8)[(A) / 8]? = some (u8 b) := by rw [List.getElem?_map, hb]; rfl
        rw [← ht, List.getElem?_take_of_lt (by omega), Array.getElem?_toList] at h3; exact h3
      have f1 : wj.frozen? ⟨p, 1, none⟩ = false := Bt.free_of HJ1 1
      have h7 : bits .and .i64 ((A : Nat) : Int) 7 = (((A) % 8 : Nat) : Int) := and7 _ (by omega)
      have hw1 : IntKind.u64.wrap ((X : Int) * 2) = ((2 * X : Nat) : Int) := by rw [IntKind.wrap_u64]; omega
      have hw2 : IntKind.i64.wrap (((A : Nat) : Int) + 1) = ((A : Nat) : Int) + 1 := IntWalk.i64_in _ (by omega)
      have hi2 : (A : Int) / 8 < bs.length := by omega
      have hi3 : (A : Int) < 8 * bs.length := by omega
      have HHA := Lib.hid hA
      have HJ1' := Lib.hid HJ1
      clear hg hs2 ht hb hA HJ HJ1
      go_wp2_with fail
      go_quiet (fail)
      go_wp2_with fail
      refine ⟨⟨k + 1, by omega, by go_num, by rw [HBB.out], Lib.hid ⟨?_, gro_setP (gro_drewN HJ2.out nq) _⟩⟩, by simp only [intOf]; omega⟩
      have h1 : ((wj.drewN nq).setCell ⟨p, 1, none⟩ (.int .i64 ((A : Int) + 1))).heap[p]? = _ := Bt.cells_set _ HJ1'.out
      refine (show _ = _ from h1).trans ?_
      rw [HHA.out]
      simp; omega
    · have hkn2 : decide ((k : Int) < n) = false := by simp; omega
      have hke : k = n := by omega
      have HKE := Lib.hid hke
      clear hke
      go_wp2_with fail
      go_ret
      refine ⟨?_, ?_, HJ.out.2⟩
      · rw [HE.out, HKE.out]; rfl
      · rw [HE.out]
        refine ⟨hbp, v, bs, at' + k, HJ.out.1, ho2, HBY.out, hl, by omega, ?_⟩
        rw [← HR.out, List.drop_drop, HKE.out]
theorem get_call {base p : Nat} {s : Rd} (n : Nat) (w : World) (h : RdrS base p s w) (hn : n ≤ 64) :
    Calls Try.prog 80 #[.pointer (some ⟨p, 0, none⟩), vi n] w (GetQ base p s n w) := by
  by_cases hl : leftS s < n
  · exact get_bad n w h hn hl
  · by_cases h0 : s.bad = 0
    · exact get_ok n w h hn h0 (by unfold leftS at hl; rw [if_neg (by simp [h0])] at hl; omega)
    · have : n = 0 := by unfold leftS at hl; rw [if_pos h0] at hl; omega
      subst this
      exact get_none w h h0
end Go.Proofs.Ytdkkpkgfiodlbaa

/- Numbers in bits: what is written is read. Plain. Names no program. -/
namespace Go.Proofs.Ytdkkpkgfiodlbaa

theorem bitLen_pow {m v : Nat} (hm : m < 64) (hv : v < 2 ^ m) : Lib.bitLen (2 ^ m + v) = m + 1 := by
  have h2 : 2 ^ m + v < 2 ^ 64 := by
    have : 2 ^ (m + 1) ≤ 2 ^ 64 := Nat.pow_le_pow_right (by decide) (by omega)
    rw [Nat.pow_succ] at this; omega
  rw [Lib.bitLen_shift m _ (Nat.le_add_right _ _) h2, Nat.add_comm (2 ^ m) v, Nat.add_div_right _ (Nat.two_pow_pos _), Nat.div_eq_of_lt hv]
  rfl
theorem putL_top {m v : Nat} (hv : v < 2 ^ m) : putL (2 ^ m + v) (m + 1) = true :: putL v m := by
  rw [putL, Nat.add_comm (2 ^ m) v, Nat.add_div_right _ (Nat.two_pow_pos _), Nat.div_eq_of_lt hv]
  congr 1
  have := putL_valL (putL (v + 2 ^ m) m)
  rw [putL_length, valL_putL, Nat.add_mod_right] at this
  have h2 := putL_valL (putL v m)
  rw [putL_length, valL_putL] at h2
  rw [← this, h2]
theorem numL_of {m : Nat} {tl : List Bool} (h : tl.length = m) (hm : m ≤ 64) (hv : 2 ^ m + valL tl ≤ 2 ^ 64) : numL (2 ^ m + valL tl - 1) = List.replicate m false ++ true :: tl := by
  have hlt := valL_lt tl
  rw [h] at hlt
  by_cases h64 : m = 64
  · subst h64
    have hz : valL tl = 0 := by omega
    have ht := valL_zero tl hz
    rw [h] at ht
    have h2 : valL (List.replicate 64 false) = 0 := valL_falses 64
    rw [ht, h2]; unfold numL
    rw [if_pos (by decide), putL_zero, List.append_assoc]; rfl
  · have hm2 : m < 64 := by omega
    have hp : 2 ^ (m + 1) ≤ 2 ^ 64 := Nat.pow_le_pow_right (by decide) (by omega)
    rw [Nat.pow_succ] at hp
    have hpos := Nat.two_pow_pos m
    unfold numL
    rw [if_neg (by omega)]
    have e : 2 ^ m + valL tl - 1 + 1 = 2 ^ m + valL tl := by omega
    rw [e, bitLen_pow hm2 hlt, putL_top hlt, putL_zero, Nat.add_sub_cancel]
    congr 2
    rw [← h]; exact putL_valL tl
theorem numL_form {y : Nat} (hy : y < 2 ^ 64) : ∃ m tl, tl.length = m ∧ m ≤ 64 ∧ y = 2 ^ m + valL tl - 1 ∧ 2 ^ m + valL tl ≤ 2 ^ 64 ∧ numL y = List.replicate m false ++ true :: tl := by
  have key : ∃ m tl, tl.length = m ∧ m ≤ 64 ∧ y = 2 ^ m + valL tl - 1 ∧ 2 ^ m + valL tl ≤ 2 ^ 64 := by
    by_cases h : y = 2 ^ 64 - 1
    · exact ⟨64, List.replicate 64 false, by simp, Nat.le_refl _, by rw [valL_falses]; omega, by rw [valL_falses]; omega⟩
    · have hlog : ∃ m, m < 64 ∧ 2 ^ m ≤ y + 1 ∧ y + 1 < 2 ^ (m + 1) := by
        have : ∀ k, y + 1 < 2 ^ k → k ≤ 64 → ∃ m, m < k ∧ 2 ^ m ≤ y + 1 ∧ y + 1 < 2 ^ (m + 1) := by
          intro k
          induction k with
          | zero => intro h _; omega
          | succ k ih =>
            intro h hk
            by_cases h2 : y + 1 < 2 ^ k
            · obtain ⟨m, a, b, c⟩ := ih h2 (by omega)
              exact ⟨m, by omega, b, c⟩
            · exact ⟨k, by omega, by omega, h⟩
        exact this 64 (by omega) (Nat.le_refl _)
      obtain ⟨m, hm, h1, h2⟩ := hlog
      have hv : valL (putL (y + 1 - 2 ^ m) m) = y + 1 - 2 ^ m := by
        rw [valL_putL, Nat.mod_eq_of_lt (by rw [Nat.pow_succ] at h2; omega)]
      exact ⟨m, putL (y + 1 - 2 ^ m) m, putL_length _ _, by omega, by rw [hv]; omega, by rw [hv]; omega⟩
  obtain ⟨m, tl, h1, h2, h3, h4⟩ := key
  refine ⟨m, tl, h1, h2, h3, h4, ?_⟩
  rw [h3]; exact numL_of h1 h2 h4
theorem falses_inj : ∀ {k m : Nat} {a b : List Bool}, List.replicate k false ++ true :: a = List.replicate m false ++ true :: b → k = m ∧ a = b
  | 0, 0, a, b, h => by simpa using h
  | 0, m + 1, a, b, h => by simp [List.replicate_succ] at h
  | k + 1, 0, a, b, h => by simp [List.replicate_succ] at h
  | k + 1, m + 1, a, b, h => by
    simp only [List.replicate_succ, List.cons_append, List.cons.injEq, true_and] at h
    obtain ⟨h1, h2⟩ := falses_inj h
    exact ⟨by omega, h2⟩
theorem falses_none : ∀ {k m : Nat} {a : List Bool}, List.replicate k false ≠ List.replicate m false ++ true :: a
  | 0, 0, a, h => by simp at h
  | 0, m + 1, a, h => by simp [List.replicate_succ] at h
  | k + 1, 0, a, h => by simp [List.replicate_succ] at h
  | k + 1, m + 1, a, h => by
    simp only [List.replicate_succ, List.cons_append, List.cons.injEq, true_and] at h
    exact falses_none h
theorem falses_more : ∀ {k m : Nat} {a b : List Bool}, List.replicate k false ++ b = List.replicate m false ++ true :: a → k ≤ m
  | 0, _, _, _, _ => by omega
  | k + 1, 0, a, b, h => by simp [List.replicate_succ] at h
  | k + 1, m + 1, a, b, h => by
    simp only [List.replicate_succ, List.cons_append, List.cons.injEq, true_and] at h
    have := falses_more h
    omega
abbrev NumOk (x : Nat) : Prop := x < 2 ^ 64
/-- It stopped. -/
theorem num_stop {s s' : Rd} {x : Nat} (hb : s'.bad ≠ 0) (h : s.bad = 0 → ∀ y t, NumOk y → s.rest ≠ numL y ++ t) : RdOK numL NumOk s s' x :=
  ⟨fun h0 y t hy e => absurd e (h h0 y t hy), fun h0 => absurd h0 hb⟩
theorem num_short {k : Nat} {s : Rd} (h : s.rest = List.replicate k false) (y : Nat) (t : List Bool) (hy : NumOk y) : s.rest ≠ numL y ++ t := by
  obtain ⟨m, tl, _, _, _, _, e⟩ := numL_form hy
  rw [h, e, List.append_assoc]; exact falses_none
theorem num_form {s : Rd} {b : List Bool} (h : s.rest = List.replicate 65 false ++ b) (y : Nat) (t : List Bool) (hy : NumOk y) : s.rest ≠ numL y ++ t := by
  obtain ⟨m, tl, _, hm, _, _, e⟩ := numL_form hy
  rw [h, e, List.append_assoc]; intro e2
  have := falses_more e2
  omega
/-- Too few bits behind the one, or, behind 64 noughts, others than noughts. -/
theorem num_cut {k : Nat} {s : Rd} {r : List Bool} (h : s.rest = List.replicate k false ++ true :: r) (hc : r.length < k ∨ (k = 64 ∧ valL (r.take 64) ≠ 0)) (y : Nat) (t : List Bool) (hy : NumOk y) : s.rest ≠ numL y ++ t := by
  obtain ⟨m, tl, hl, hm, _, hv, e⟩ := numL_form hy
  rw [h, e, List.append_assoc]; intro e2
  obtain ⟨rfl, e3⟩ := falses_inj (b := tl ++ t) e2
  rcases hc with hc | ⟨rfl, hc⟩
  · rw [e3] at hc; simp at hc; omega
  · rw [e3, ← hl, List.take_left] at hc
    omega
/-- A number. -/
theorem num_read {k : Nat} {s : Rd} {r : List Bool} (h0 : s.bad = 0) (h : s.rest = List.replicate k false ++ true :: r) (hk : k ≤ 64) (hr : k ≤ r.length) (hv : 2 ^ k + valL (r.take k) ≤ 2 ^ 64) {x : Nat} (hx : x = 2 ^ k + valL (r.take k) - 1) : RdOK numL NumOk s ⟨r.drop k, 0⟩ x := by
  have hl : (r.take k).length = k := by rw [List.length_take]; omega
  have e := numL_of hl hk hv
  rw [← hx] at e
  have hpos := Nat.two_pow_pos k
  have hxo : NumOk x := by unfold NumOk; omega
  refine ⟨fun _ y t hy e2 => ?_, fun _ => ⟨h0, hxo, ?_⟩⟩
  · obtain ⟨m, tl, hl2, hm, hy2, hv2, e3⟩ := numL_form hy
    rw [h, e3, List.append_assoc] at e2
    obtain ⟨rfl, e4⟩ := falses_inj (b := tl ++ t) e2
    refine ⟨?_, ?_, rfl⟩
    · rw [hx, hy2, e4, ← hl2, List.take_left]
    · show r.drop k = t
      rw [e4, ← hl2, List.drop_left]
  · rw [e, h, List.append_assoc]
    show _ = List.replicate k false ++ true :: (r.take k ++ r.drop k)
    rw [List.take_append_drop]
end Go.Proofs.Ytdkkpkgfiodlbaa

/- (*bits.Reader).Num. -/
namespace Go.Proofs.Ytdkkpkgfiodlbaa
open Go.RowKit

theorem RdrS.badCell {base p : Nat} {s : Rd} {W : World} (h : RdrS base p s W) : W.cell? ⟨p, 2, none⟩ = some (vi s.bad) := by
  obtain ⟨_, v, bs, at', h1, _⟩ := h
  rw [Bt.cell_of h1]; rfl
def Get1Q (base p : Nat) (s : Rd) (n x : Nat) (s' : Rd) (w : World) (e : Ending) (w' : World) : Prop := e = .returned (.int .u64 (x : Nat)) ∧ RdrS base p s' w' ∧ w.grownBy w' (some p)
theorem get_as {base p : Nat} {s : Rd} (n x : Nat) (s' : Rd) (w : World) (h : RdrS base p s w) (hn : n ≤ 64) (he : getS s n = (x, s')) (i : Int) (hi : i = n) :
    Calls Try.prog 80 #[.pointer (some ⟨p, 0, none⟩), .int .i64 i] w (Get1Q base p s n x s' w) := by
  subst hi
  refine (get_call n w h hn).mono ?_
  rintro e w' ⟨h1, h2, h3⟩
  rw [he] at h1 h2
  exact ⟨h1, h2, h3⟩
def NumRQ (base p : Nat) (s : Rd) (w : World) (e : Ending) (w' : World) : Prop := ∃ x s', e = .returned (.int .u64 (x : Nat)) ∧ x < 2 ^ 64 ∧ RdOK numL NumOk s s' x ∧ RdrS base p s' w' ∧ w.grownBy w' (some p)
theorem shl_or {k v : Nat} (hk : k < 64) (hv : v < 2 ^ k) : bits .or .u64 ((2 ^ k : Nat) : Int) (v : Int) = ((2 ^ k + v : Nat) : Int) := by
  have h1 : (2 : Nat) ^ k < 2 ^ 64 := Nat.pow_lt_pow_right (by decide) hk
  rw [u64_or_nat _ _ (by omega) (by omega)]
  have h3 := Nat.two_pow_add_eq_or_of_lt hv 1
  rw [Nat.mul_one] at h3
  rw [h3]
theorem num_val {k X : Nat} (hk : k < 64) (hX : X < 2 ^ k) : IntKind.u64.wrap (bits .or .u64 (IntKind.u64.wrap (2 ^ k)) (X : Int) - 1) = ((2 ^ k + X - 1 : Nat) : Int) := by
  have h1 : (2 : Nat) ^ k ≤ 2 ^ 63 := Nat.pow_le_pow_right (by decide) (by omega)
  have h2 := Nat.two_pow_pos k
  have e : ((2 : Int) ^ k) = ((2 ^ k : Nat) : Int) := by simp
  have e2 : IntKind.u64.wrap ((2 ^ k : Nat) : Int) = ((2 ^ k : Nat) : Int) := by rw [IntKind.wrap_u64]; omega
  rw [e, e2, shl_or hk hX, IntKind.wrap_u64]
  omega
set_option maxHeartbeats 4000000 in
set_option maxRecDepth 100000 in
theorem numR_call {base p : Nat} {s : Rd} (w : World) (h : RdrS base p s w) :
    Calls Try.prog 55 #[.pointer (some ⟨p, 0, none⟩)] w (NumRQ base p s w) := by
  have HW := Lib.hid h
  clear h
  go_enter Try.func55, Try.ntmps55
  go_wp2_with fail
  go_loopw [3] (fun n wr => ∃ k : Nat, k ≤ 64 ∧ n = vi k ∧ Hid (∃ r, (s.bad = 0 ∨ k = 0) ∧ s.rest = List.replicate k false ++ r ∧ RdrS base p ⟨r, s.bad⟩ wr ∧ w.grownBy wr (some p))) (fun n _ => 64 - (intOf n).toNat)
  case atStart => exact ⟨0, by omega, rfl, Lib.hid ⟨s.rest, .inr rfl, rfl, HW.out, gro_refl _ _⟩⟩
  case round =>
    obtain ⟨wj, rfl⟩ : ∃ wj : World, wj = wr := ⟨_, rfl⟩
    obtain ⟨k, hk, rfl, HJ⟩ := hrel
    obtain ⟨r, hor, hre, hS, hG⟩ := HJ.out
    have HRE := Lib.hid hre
    have HS := Lib.hid hS
    have HG := Lib.hid hG
    clear HJ hre hS hG
    by_cases hb : s.bad = 0
    · have HB := Lib.hid hb
      clear hb hor
      cases r with
      | nil =>
        have HGE : Hid (getS ⟨[], s.bad⟩ 1 = (0, ⟨[], 10⟩)) := by rw [getS_short (s := ⟨[], s.bad⟩) HB.out (by simp)]; exact Lib.hid rfl
        go_wp2_with (go_at_call 80; refine (get_as 1 0 ⟨[], 10⟩ wj HS.out (by decide) HGE.out 1 rfl).mono ?_; rintro e1 w1 ⟨rfl, hs1, hg1⟩; have hc1 := hs1.badCell; have HS1 := Lib.hid hs1; have HG1 := Lib.hid hg1; clear hs1 hg1)
        go_ret
        refine ⟨0, ⟨[], 10⟩, rfl, by decide, num_stop (by simp) (fun _ => num_short (k := k) (by rw [HRE.out]; simp)), HS1.out, gro_trans HG.out HG1.out⟩
      | cons b r =>
        cases b with
        | false =>
          have HGE : Hid (getS ⟨false :: r, s.bad⟩ 1 = (0, ⟨r, 0⟩)) := by rw [getS_ok (s := ⟨false :: r, s.bad⟩) HB.out (by simp)]; exact Lib.hid rfl
          have hw1 : IntKind.i64.wrap ((k : Int) + 1) = (k : Int) + 1 := IntWalk.i64_in _ (by omega)
          by_cases hk2 : k = 64
          · have hk3 : decide ((64 : Int) < k + 1) = true := by simp; omega
            have HK := Lib.hid hk2
            clear hk2
            go_wp2_with (first
              | (go_at_call 83; refine (fail_call 11 w1 HS1.out).mono ?_; rintro e2 w2 ⟨rfl, hs2, hg2⟩; have HS2 := Lib.hid hs2; have HG2 := Lib.hid hg2; clear hs2 hg2)
              | (go_at_call 80; refine (get_as 1 0 ⟨r, 0⟩ wj HS.out (by decide) HGE.out 1 rfl).mono ?_; rintro e1 w1 ⟨rfl, hs1, hg1⟩; have hc1 := hs1.badCell; have HS1 := Lib.hid hs1; have HG1 := Lib.hid hg1; clear hs1 hg1))
            go_ret
            refine ⟨0, ⟨r, 11⟩, rfl, by decide, num_stop (by simp) (fun _ => num_form (b := r) (by rw [HRE.out, HK.out]; rfl)), HS2.out, gro_trans (gro_trans HG.out HG1.out) HG2.out⟩
          · have hk3 : decide ((64 : Int) < k + 1) = false := by simp; omega
            have hk4 : k + 1 ≤ 64 := by omega
            clear hk2
            go_wp2_with (first
              | (go_at_call 80; refine (get_as 1 0 ⟨r, 0⟩ wj HS.out (by decide) HGE.out 1 rfl).mono ?_; rintro e1 w1 ⟨rfl, hs1, hg1⟩; have hc1 := hs1.badCell; have HS1 := Lib.hid hs1; have HG1 := Lib.hid hg1; clear hs1 hg1))
            refine ⟨⟨k + 1, hk4, by go_num, Lib.hid ⟨r, .inl HB.out, ?_, ?_, gro_trans HG.out HG1.out⟩⟩, by simp only [intOf]; omega⟩
            · rw [HRE.out, List.replicate_succ', List.append_assoc]; rfl
            · rw [HB.out]; exact HS1.out
        | true =>
          have HGE : Hid (getS ⟨true :: r, s.bad⟩ 1 = (1, ⟨r, 0⟩)) := by rw [getS_ok (s := ⟨true :: r, s.bad⟩) HB.out (by simp)]; exact Lib.hid rfl
          by_cases hk2 : k = 64
          · have HK := Lib.hid hk2
            have hk3 : ((k : Int) == 64) = true := by simp; omega
            clear hk2
            by_cases hl : r.length < 64
            · have HG2E : Hid (getS ⟨r, 0⟩ 64 = (0, ⟨r, 10⟩)) := by rw [getS_short (s := ⟨r, 0⟩) rfl hl]; exact Lib.hid rfl
              go_wp2_with (first
                | (go_at_call 80; refine (get_as 64 0 ⟨r, 10⟩ w1 HS1.out (by omega) HG2E.out 64 rfl).mono ?_; rintro e2 w2 ⟨rfl, hs2, hg2⟩; have hc2 := hs2.badCell; have HS2 := Lib.hid hs2; have HG2 := Lib.hid hg2; clear hs2 hg2)
                | (go_at_call 80; refine (get_as 1 1 ⟨r, 0⟩ wj HS.out (by decide) HGE.out 1 rfl).mono ?_; rintro e1 w1 ⟨rfl, hs1, hg1⟩; have hc1 := hs1.badCell; have HS1 := Lib.hid hs1; have HG1 := Lib.hid hg1; clear hs1 hg1))
              go_ret
              exact ⟨0, ⟨r, 10⟩, rfl, by decide, num_stop (by simp) (fun _ => num_cut (k := k) (r := r) HRE.out (.inl (by rw [HK.out]; exact hl))), HS2.out, gro_trans (gro_trans HG.out HG1.out) HG2.out⟩
            · have hlr : 64 ≤ r.length := by omega
              obtain ⟨X, hX⟩ : ∃ X, X = valL (r.take 64) := ⟨_, rfl⟩
              have HG2E : Hid (getS ⟨r, 0⟩ 64 = (X, ⟨r.drop 64, 0⟩)) := by rw [getS_ok (s := ⟨r, 0⟩) rfl hlr, hX]; exact Lib.hid rfl
              have HX := Lib.hid hX
              clear hX
              by_cases hx0 : X = 0
              · have hx1 : ((X : Int) != 0) = false := by simp [hx0]
                have HX0 := Lib.hid hx0
                clear hx0
                go_wp2_with (first
                  | (go_at_call 80; refine (get_as 64 X ⟨r.drop 64, 0⟩ w1 HS1.out (by omega) HG2E.out 64 rfl).mono ?_; rintro e2 w2 ⟨rfl, hs2, hg2⟩; have hc2 := hs2.badCell; have HS2 := Lib.hid hs2; have HG2 := Lib.hid hg2; clear hs2 hg2)
                  | (go_at_call 80; refine (get_as 1 1 ⟨r, 0⟩ wj HS.out (by decide) HGE.out 1 rfl).mono ?_; rintro e1 w1 ⟨rfl, hs1, hg1⟩; have hc1 := hs1.badCell; have HS1 := Lib.hid hs1; have HG1 := Lib.hid hg1; clear hs1 hg1))
                go_ret
                refine ⟨2 ^ 64 - 1, ⟨r.drop 64, 0⟩, rfl, by decide, ?_, HS2.out, gro_trans (gro_trans HG.out HG1.out) HG2.out⟩
                have hv0 : valL (r.take 64) = 0 := HX.out.symm.trans HX0.out
                refine num_read (k := 64) HB.out (by have := HRE.out; rw [HK.out] at this; exact this) (Nat.le_refl _) hlr (by rw [hv0]; decide) (by rw [hv0])
              · have hx1 : ((X : Int) != 0) = true := by simp; exact hx0
                go_wp2_with (first
                  | (go_at_call 83; refine (fail_call 11 w2 HS2.out).mono ?_; rintro e3 w3 ⟨rfl, hs3, hg3⟩; have HS3 := Lib.hid hs3; have HG3 := Lib.hid hg3; clear hs3 hg3)
                  | (go_at_call 80; refine (get_as 64 X ⟨r.drop 64, 0⟩ w1 HS1.out (by omega) HG2E.out 64 rfl).mono ?_; rintro e2 w2 ⟨rfl, hs2, hg2⟩; have hc2 := hs2.badCell; have HS2 := Lib.hid hs2; have HG2 := Lib.hid hg2; clear hs2 hg2)
                  | (go_at_call 80; refine (get_as 1 1 ⟨r, 0⟩ wj HS.out (by decide) HGE.out 1 rfl).mono ?_; rintro e1 w1 ⟨rfl, hs1, hg1⟩; have hc1 := hs1.badCell; have HS1 := Lib.hid hs1; have HG1 := Lib.hid hg1; clear hs1 hg1))
                go_ret
                exact ⟨0, ⟨r.drop 64, 11⟩, rfl, by decide, num_stop (by simp) (fun _ => num_cut (k := k) (r := r) HRE.out (.inr ⟨HK.out, by rw [← HX.out]; exact hx0⟩)), HS3.out, gro_trans (gro_trans (gro_trans HG.out HG1.out) HG2.out) HG3.out⟩
          · have hk3 : ((k : Int) == 64) = false := by simp; omega
            have hk4 : k < 64 := by omega
            clear hk2
            by_cases hl : r.length < k
            · have HG2E : Hid (getS ⟨r, 0⟩ k = (0, ⟨r, 10⟩)) := by rw [getS_short (s := ⟨r, 0⟩) rfl hl]; exact Lib.hid rfl
              go_wp2_with (first
                | (go_at_call 80; refine (get_as k 0 ⟨r, 10⟩ w1 HS1.out (by omega) HG2E.out k rfl).mono ?_; rintro e2 w2 ⟨rfl, hs2, hg2⟩; have hc2 := hs2.badCell; have HS2 := Lib.hid hs2; have HG2 := Lib.hid hg2; clear hs2 hg2)
                | (go_at_call 80; refine (get_as 1 1 ⟨r, 0⟩ wj HS.out (by decide) HGE.out 1 rfl).mono ?_; rintro e1 w1 ⟨rfl, hs1, hg1⟩; have hc1 := hs1.badCell; have HS1 := Lib.hid hs1; have HG1 := Lib.hid hg1; clear hs1 hg1))
              go_ret
              exact ⟨0, ⟨r, 10⟩, rfl, by decide, num_stop (by simp) (fun _ => num_cut (k := k) (r := r) HRE.out (.inl hl)), HS2.out, gro_trans (gro_trans HG.out HG1.out) HG2.out⟩
            · have HG2E : Hid (getS ⟨r, 0⟩ k = (valL (r.take k), ⟨r.drop k, 0⟩)) := by rw [getS_ok (s := ⟨r, 0⟩) rfl (by simp; omega)]; exact Lib.hid rfl
              have hvl := valL_lt (r.take k)
              have HVL : valL (r.take k) < 2 ^ k := Nat.lt_of_lt_of_le hvl (Nat.pow_le_pow_right (by decide) (by rw [List.length_take]; omega))
              have hpk : 2 ^ k ≤ 2 ^ 63 := Nat.pow_le_pow_right (by decide) (by omega)
              have hpp := Nat.two_pow_pos k
              obtain ⟨X, hX⟩ : ∃ X, X = valL (r.take k) := ⟨_, rfl⟩
              rw [← hX] at HVL HG2E
              have hso := Lib.hid (num_val hk4 HVL)
              have hlr : k ≤ r.length := by omega
              have HX := Lib.hid hX
              clear hX hvl
              go_wp2_with (first
                | (go_at_call 80; refine (get_as k X ⟨r.drop k, 0⟩ w1 HS1.out (by omega) HG2E.out k rfl).mono ?_; rintro e2 w2 ⟨rfl, hs2, hg2⟩; have hc2 := hs2.badCell; have HS2 := Lib.hid hs2; have HG2 := Lib.hid hg2; clear hs2 hg2)
                | (go_at_call 80; refine (get_as 1 1 ⟨r, 0⟩ wj HS.out (by decide) HGE.out 1 rfl).mono ?_; rintro e1 w1 ⟨rfl, hs1, hg1⟩; have hc1 := hs1.badCell; have HS1 := Lib.hid hs1; have HG1 := Lib.hid hg1; clear hs1 hg1))
              go_ret
              refine ⟨2 ^ k + X - 1, ⟨r.drop k, 0⟩, congrArg Ending.returned (congrArg (Value.int IntKind.u64) hso.out), by omega, num_read HB.out HRE.out hk hlr (by rw [← HX.out]; omega) (by rw [← HX.out]), HS2.out, gro_trans (gro_trans HG.out HG1.out) HG2.out⟩
    · have HB := Lib.hid hb
      have hk0 : k = 0 := by rcases hor with h | h; exact absurd h hb; exact h
      have hbb : (s.bad != 0) = true := by simp [hb]
      clear hb hor hk0
      have HGE : Hid (getS ⟨r, s.bad⟩ 1 = (0, ⟨r, s.bad⟩)) := by rw [getS_bad (s := ⟨r, s.bad⟩) HB.out]; exact Lib.hid rfl
      go_wp2_with (go_at_call 80; refine (get_as 1 0 ⟨r, s.bad⟩ wj HS.out (by decide) HGE.out 1 rfl).mono ?_; rintro e1 w1 ⟨rfl, hs1, hg1⟩; have hc1 := hs1.badCell; have HS1 := Lib.hid hs1; have HG1 := Lib.hid hg1; clear hs1 hg1)
      go_ret
      refine ⟨0, ⟨r, s.bad⟩, rfl, by decide, num_stop HB.out (fun h => absurd h HB.out), HS1.out, gro_trans HG.out HG1.out⟩
end Go.Proofs.Ytdkkpkgfiodlbaa

/- (*bits.Reader).Int, Err, End; bits.Read. -/
namespace Go.Proofs.Ytdkkpkgfiodlbaa
open Go.RowKit

def zag (x : Nat) : Int := if x % 2 = 1 then -((x / 2 : Nat) : Int) - 1 else ((x / 2 : Nat) : Int)
theorem zag_zig (z : Int) : zag (zig z) = z := by unfold zag zig; split <;> split <;> omega
theorem zig_zag (x : Nat) : zig (zag x) = x := by unfold zag zig; split <;> split <;> omega
abbrev IntOk (z : Int) : Prop := -9223372036854775808 ≤ z ∧ z ≤ 9223372036854775807
theorem zag_ok {x : Nat} (h : x < 2 ^ 64) : IntOk (zag x) := by unfold zag IntOk; split <;> omega
theorem int_read {s s' : Rd} {x : Nat} (h : RdOK numL NumOk s s' x) : RdOK intL IntOk s s' (zag x) := by
  refine ⟨fun h0 y t hy e => ?_, fun h0 => ?_⟩
  · obtain ⟨a, b, c⟩ := h.1 h0 (zig y) t (by have := zig_lt hy.1 hy.2; unfold NumOk; omega) e
    exact ⟨by rw [a, zag_zig], b, c⟩
  · obtain ⟨a, b, c⟩ := h.2 h0
    exact ⟨a, zag_ok b, by rw [c]; unfold intL; rw [zig_zag]⟩
theorem i64_xor_all (a : Nat) (h : a < 9223372036854775808) : bits .xor .i64 (a : Int) (-1) = -(a : Int) - 1 := by
  have h1 : BitVec.ofInt 64 (-1) = BitVec.allOnes 64 := by decide
  have h2 : BitVec.ofInt 64 (a : Int) = BitVec.ofNat 64 a := by simp
  show IntKind.i64.wrap (((BitVec.ofInt 64 (a : Int)) ^^^ (BitVec.ofInt 64 (-1))).toNat : Int) = _
  rw [h1, h2, BitVec.xor_allOnes, BitVec.toNat_not, BitVec.toNat_ofNat, Nat.mod_eq_of_lt (by omega), IntKind.wrap_i64]
  omega
theorem i64_xor_none (a : Nat) (h : a < 9223372036854775808) : bits .xor .i64 (a : Int) 0 = (a : Int) := by
  have h1 : BitVec.ofInt 64 0 = 0#64 := by decide
  have h2 : BitVec.ofInt 64 (a : Int) = BitVec.ofNat 64 a := by simp
  show IntKind.i64.wrap (((BitVec.ofInt 64 (a : Int)) ^^^ (BitVec.ofInt 64 0)).toNat : Int) = _
  rw [h1, h2, BitVec.xor_zero, BitVec.toNat_ofNat, Nat.mod_eq_of_lt (by omega), IntKind.wrap_i64]
  omega
theorem zag_bits (x : Nat) (h : x < 2 ^ 64) : bits .xor .i64 ((x : Int) / 2) (wrap64 (-wrap64 (bits .and .u64 (x : Int) 1))) = zag x := by
  have e2 : bits .and .u64 (x : Int) 1 = ((x % 2 : Nat) : Int) := by
    have := u64_and_nat x 1 (by omega) (by decide)
    rw [nat_mask1] at this; exact this
  have e1 : (x : Int) / 2 = ((x / 2 : Nat) : Int) := by omega
  rw [e1, e2, IntWalk.wrap64_in ((x % 2 : Nat) : Int) ⟨by omega, by omega⟩, IntWalk.wrap64_in (-((x % 2 : Nat) : Int)) ⟨by omega, by omega⟩]
  unfold zag
  by_cases hx : x % 2 = 1
  · rw [if_pos hx, hx]; exact i64_xor_all _ (by omega)
  · rw [if_neg hx, show x % 2 = 0 by omega]; exact i64_xor_none _ (by omega)
def IntRQ (base p : Nat) (s : Rd) (w : World) (e : Ending) (w' : World) : Prop := ∃ z s', e = .returned (vi z) ∧ IntOk z ∧ RdOK intL IntOk s s' z ∧ RdrS base p s' w' ∧ w.grownBy w' (some p)
set_option maxHeartbeats 4000000 in
set_option maxRecDepth 100000 in
theorem intR_call {base p : Nat} {s : Rd} (w : World) (h : RdrS base p s w) :
    Calls Try.prog 50 #[.pointer (some ⟨p, 0, none⟩)] w (IntRQ base p s w) := by
  have HW := Lib.hid h
  clear h
  go_enter Try.func50, Try.ntmps50
  go_wp2_with (go_at_call 55; refine (numR_call w HW.out).mono ?_; rintro e1 w1 ⟨x, s1, rfl, hx, hr, hs1, hg1⟩; have HR := Lib.hid hr; have HS1 := Lib.hid hs1; have HG1 := Lib.hid hg1; clear hr hs1 hg1)
  go_ret
  exact ⟨zag x, s1, congrArg Ending.returned (congrArg (Value.int IntKind.i64) (zag_bits x hx)), zag_ok hx, int_read HR.out, HS1.out, HG1.out⟩

set_option maxRecDepth 100000 in
theorem err_call {base p : Nat} {s : Rd} (w : World) (h : RdrS base p s w) :
    Calls Try.prog 56 #[.pointer (some ⟨p, 0, none⟩)] w fun e w' => e = .returned (vi s.bad) ∧ w = w' := by
  have c2 := h.badCell
  clear h
  go_enter Try.func56, Try.ntmps56
  go_wp2_with fail
  go_ret
  exact ⟨rfl, rfl⟩

/-- Nothing is left but noughts up to the end of a byte. -/
def atEnd (s : Rd) : Prop := s.bad = 0 ∧ s.rest.length ≤ 7 ∧ valL s.rest = 0
def EndQ (s : Rd) (w : World) (e : Ending) (w' : World) : Prop := ∃ x : Int, e = .returned (vi x) ∧ (x = 0 ↔ atEnd s) ∧ (s.bad = 0 → x = 0 ∨ x = 12) ∧ (s.bad ≠ 0 → x = s.bad) ∧ ∃ n, w' = w.drewN n
theorem bitsOf_snoc : ∀ (bs : List Nat) (b : Nat), bitsOf (bs ++ [b]) = bitsOf bs ++ putL b 8
  | [], b => by simp [bitsOf]
  | c :: bs, b => by rw [List.cons_append, bitsOf, bitsOf_snoc bs b, bitsOf, List.append_assoc]
theorem putL_drop (x : Nat) : ∀ n k, k ≤ n → (putL x n).drop (n - k) = putL x k
  | 0, k, h => by rw [show k = 0 by omega]; rfl
  | n + 1, k, h => by
    by_cases hk : k = n + 1
    · subst hk; simp
    · rw [show n + 1 - k = (n - k) + 1 by omega, putL, List.drop_succ_cons, putL_drop x n k (by omega)]
theorem last_bits {bs : List Nat} {b at' n : Nat} (h : bs[bs.length - 1]? = some b) (h2 : 8 * bs.length - at' = n) (hn : n ≤ 7) (hn0 : 0 < n) : (bitsOf bs).drop at' = putL b n := by
  have hl : bs.length - 1 < bs.length := (List.getElem?_eq_some_iff.1 h).1
  obtain ⟨cs, hcs⟩ : ∃ cs, bs = cs ++ [b] := ⟨bs.take (bs.length - 1), by
    have := List.take_append_getElem (l := bs) (i := bs.length - 1) hl
    rw [List.getElem?_eq_getElem hl] at h
    rw [Option.some.inj h] at this
    rw [this, show bs.length - 1 + 1 = bs.length by omega, List.take_length]⟩
  subst hcs
  simp only [List.length_append, List.length_cons, List.length_nil] at h2 hl
  rw [bitsOf_snoc, List.drop_append, List.drop_of_length_le (by rw [bitsOf_length]; omega), bitsOf_length, List.nil_append, show at' - 8 * cs.length = 8 - n by omega]
  exact putL_drop b 8 n (by omega)
end Go.Proofs.Ytdkkpkgfiodlbaa
