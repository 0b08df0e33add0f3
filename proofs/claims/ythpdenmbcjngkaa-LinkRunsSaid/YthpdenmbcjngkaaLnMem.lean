/- Rows of bytes, links as keys, slices.Clone at []byte. -/
import Derived.Test.YthpdenmbcjngkaaMaps2
import Derived.Test.YthpdenmbcjngkaaArgs
import Derived.Test.YthpdenmbcjngkaaProg
import Derived.KernelRfl
import Derived.DeepKeys4
import Derived.WalkKit
import Derived.Lib.AppendZeros
namespace Go.Proofs.Ythpdenmbcjngkaa
open Go.RowKit Go.Maps
open Go.ChangeShapes Go.WideShapes

abbrev vi (n : Int) : Value := .int .i64 n
abbrev u8 (n : Int) : Value := .int .u8 n
def i64 (n : Int) : Prop := -9223372036854775808 ≤ n ∧ n ≤ 9223372036854775807
theorem some_at {α : Type} {l : List α} {k : Nat} (h : k < l.length) : ∃ x, l[k]? = some x := ⟨_, List.getElem?_eq_getElem h⟩
theorem alloc_at (w : World) (o : Obj) : (w.alloc o).heap[w.heap.size]? = some o := by show (w.heap.push o)[w.heap.size]? = some o; simp

theorem cell_of {w : World} {b : Nat} {cs : Array Value} {T : TypeId} {fz : Nat × Nat} (h : w.heap[b]? = some (.cells cs T fz)) (o : Nat) : w.cell? ⟨b, o, none⟩ = cs[o]? := by
  simp [World.cell?, h]
theorem free_of {w : World} {b : Nat} {cs : Array Value} {T : TypeId} (h : w.heap[b]? = some (.cells cs T)) (o : Nat) : w.frozen? ⟨b, o, none⟩ = false := by
  simp [World.frozen?, h]

theorem laidOutP : laidOutB Try.prog = true := by kernel_rfl
theorem linkKeyed : Keyed Try.prog 29 := Keyed.of_law (deep_law_laid laidOutP (m := 2) (by omega) (of_decide_eq_true (by kernel_rfl)) (by kernel_rfl) (by rw [Try.underlying29]))
abbrev LK := Int × Int
abbrev lkV (p : LK) : Value := .agg #[vi p.1, vi p.2]
theorem lkV_inj (x y : LK) (h : lkV x = lkV y) : x = y := by
  obtain ⟨a, b⟩ := x; obtain ⟨c, d⟩ := y
  simp [lkV] at h; obtain ⟨rfl, rfl⟩ := h; rfl
theorem wf_of {n : Int} (h : i64 n) : (Lit.int .i64 n).wf = true := by
  simp [Lit.wf, IntKind.min, IntKind.max, IntKind.signed, IntKind.bits]; exact h
theorem lit_int {n : Int} (h : i64 n) (d : Nat) : Try.prog.keyLits (d + 1) 3 [vi n] = some [.int .i64 n] := by
  unfold Program.keyLits; simp [Try.underlying3, wf_of h]
theorem linkLits {a b : Int} (ha : i64 a) (hb : i64 b) (d : Nat) : Try.prog.keyLits (d + 1 + 1) 29 [vi a, vi b] = some [.int .i64 a, .int .i64 b] := by
  have hc : Try.prog.cellsOf 29 = 2 := by kernel_rfl
  have hi : Try.prog.cellsOf 3 = 1 := by kernel_rfl
  unfold Program.keyLits
  rw [Try.underlying29]
  simp [hc, hi, lit_int ha, lit_int hb]
theorem linkKey {l : LK} (h : i64 l.1 ∧ i64 l.2) : ∃ kl, keyOf Try.prog 29 (lkV l) = some kl := by
  have hk : Try.prog.keyType 29 = true := by kernel_rfl
  have hc : Try.prog.cellsOf 29 = 2 := by kernel_rfl
  obtain ⟨d, hd⟩ : ∃ d, Try.prog.types.size = d + 1 := ⟨Try.prog.types.size - 1, by have : 0 < Try.prog.types.size := of_decide_eq_true (by kernel_rfl); omega⟩
  have hf : (lkV l).formed Try.prog 29 = true := by simp [Value.formed, Try.underlying29, hc]
  have hl := linkLits h.1 h.2 d
  unfold keyOf
  rw [Try.underlying29, hd]
  simp [hk, hf, Value.cells, hl]

/-- A row of bytes that the call owns. -/
def OwB (base : Nat) (w : World) (v : Value) (bs : List Int) : Prop := w.ownsRow base 5 1 v bs.length (bs.map u8)
def EU8 (_ : World) (cs : List Value) (n : Int) : Prop := cs = [u8 n]
abbrev RdB8 (w : World) (v : Value) (bs : List Int) : Prop := RdS 1 EU8 w v bs
theorem RdB8.later {w w' : World} {v : Value} {bs : List Int} (h : RdB8 w v bs) (hb : Below w.heap.size w w') : RdB8 w' v bs := RdS.below h hb fun _ _ h => h
theorem RdB8.at {w : World} {v : Value} {bs : List Int} (h : RdB8 w v bs) : ∃ a len cap, v = .slice a len cap ∧ len = bs.length ∧ bs.length ≤ 9223372036854775807 ∧ (a = none → len = 0 ∧ cap = 0) ∧ ∀ j x, bs[j]? = some x → ∃ b off, a = some ⟨b, off, none⟩ ∧ w.cell? ⟨b, off + j, none⟩ = some (u8 x) := by
  obtain ⟨a, len, cap, h1, h2, h3, h4, h5, h6⟩ := h
  refine ⟨a, len, cap, h1, h2, h3, h5, fun j x hj => ?_⟩
  obtain ⟨b, off, cs, ha, hl, hc, rfl⟩ := h6 j x hj
  exact ⟨b, off, ha, by have := hc 0 _ rfl; simpa using this⟩
theorem RdB8.src {w : World} {v : Value} {bs : List Int} (h : RdB8 w v bs) : Src w v 1 bs.length (bs.map u8) := by
  obtain ⟨a, len, cap, h1, h2, h3, h4, h5, h6⟩ := h
  subst h2
  refine ⟨a, cap, h1, by simp, h5, fun ad had j u hu => ?_⟩
  rw [List.getElem?_map, Option.map_eq_some_iff] at hu
  obtain ⟨x, hx, rfl⟩ := hu
  obtain ⟨b, off, cs, ha, hl, hc, rfl⟩ := h6 j x hx
  rw [ha] at had; cases had
  rw [addr_add]
  have := hc 0 _ rfl
  simpa using this
theorem OwB.rd {base : Nat} {w : World} {v : Value} {bs : List Int} (h : OwB base w v bs) : RdB8 w v bs := by
  obtain ⟨h1, h2⟩ := id h
  rcases h2 with ⟨hv, h0⟩ | ⟨g, cap, cur, hv, hg, hh, hn, hcm, hs, ht⟩
  · have : bs = [] := List.length_eq_zero_iff.1 h0
    subst this
    exact ⟨none, 0, 0, hv, rfl, by simp, Nat.le_refl _, fun _ => ⟨rfl, rfl⟩, fun j x hj => by simp at hj⟩
  · refine ⟨some ⟨g, 0, none⟩, bs.length, cap, hv, rfl, by simp only [maxLen] at hcm; omega, hn, fun h => (by cases h), fun j x hj => ⟨g, 0, [u8 x], rfl, rfl, fun i u hu => ?_, rfl⟩⟩
    have hi : i = 0 := by have := (List.getElem?_eq_some_iff.1 hu).1; simp at this; omega
    subst hi
    simp at hu; subst hu
    have := World.ownsRow.cells h (g := g) (by rw [hv]; rfl) j (u8 x) (by simp [hj])
    rw [addr_add] at this
    simpa using this
theorem u8_one {bs : List Int} : ∀ u ∈ bs.map u8, u.oneCell' = true := by
  intro u hu
  obtain ⟨x, _, rfl⟩ := List.mem_map.1 hu
  rfl
theorem Try.infoU8 : (Try.prog.info? 5).map (fun i => (i.zero, i.size, i.bytes)) = some (some (u8 0), 1, 1) := by kernel_rfl
theorem eltU8 : Elt Try.prog 30 5 1 1 (u8 0) := by
  obtain ⟨i0, hi, hz0, hz1, hz2⟩ := info_parts Try.infoU8
  exact ⟨Try.underlying30, by decide, rfl, i0, hi, hz0, hz1, hz2⟩
theorem Try.infoRow : (Try.prog.info? 30).map (fun i => (i.zero, i.size, i.bytes)) = some (some (.slice none 0 0), 1, 24) := by kernel_rfl
theorem eltRow : Elt Try.prog 57 30 1 24 (.slice none 0 0) := by
  obtain ⟨i0, hi, hz0, hz1, hz2⟩ := info_parts Try.infoRow
  exact ⟨Try.underlying57, by decide, rfl, i0, hi, hz0, hz1, hz2⟩

set_option maxRecDepth 100000 in
set_option maxHeartbeats 1000000 in
theorem clone_call (v : Value) (bs : List Int) (w : World) (hv : RdB8 w v bs) (hl : bs.length ≤ 1048576) :
    Calls Try.prog 22 #[v] w fun e w' => ∃ v', e = .returned v' ∧ OwB w.heap.size w' v' bs ∧ Below w.heap.size w w' := by
  have HO0 := Lib.hid (World.ownsRow_lit (base := w.heap.size) (e := 5) (size := 1) w #[] 0 (Nat.le_refl _) (by simp [maxLen]) rfl)
  have HB0 := Lib.hid ((Below.refl w.heap.size w).alloc (Nat.le_refl _) (.cells #[] 5))
  have HS := Lib.hid (hv.later HB0.out).src
  obtain ⟨a, len, cap, rfl, rfl, hm, hn, -⟩ := hv.at
  clear hv
  have qT : ∀ (w : World) (a : Option Addr) (n c : Nat), (binOp .eql 30 (.slice a n c) (.slice none 0 0)).run Try.prog w = .ok (.bool a.isNone) w := fun w a n c => Lib.run_eql_slice_nil w _ _ a n c 0 0 Try.underlying30
  cases a with
  | none =>
    obtain ⟨h0, rfl⟩ := hn rfl
    have hbs : bs = [] := List.length_eq_zero_iff.1 h0
    subst hbs
    go_enter Try.func22, Try.ntmps22
    go_wp2_with fail
    go_ret
    exact ⟨_, rfl, World.ownsRow_nil _ _ _ _, Below.refl _ _⟩
  | some ad =>
    go_enter Try.func22, Try.ntmps22
    go_wp2_with (at_builtin; refine wpList_append_src rfl _ _ 30 rfl eltU8 w.heap.size 0 [] HO0.out rfl bs.length _ HS.out rfl u8_one (by omega) (by omega) (by simp) ?_; intro v1 w1 hown hg _)
    go_ret
    exact ⟨_, rfl, by simpa [OwB] using hown, HB0.out.grown hg (by simp) (by simp [Value.ownBlock])⟩
end Go.Proofs.Ythpdenmbcjngkaa
