import Derived.Test.YtafboehdihokhaaHist
import Derived.DeepKeys4
namespace Go.Proofs.Ytafboehdihokhaa
open Go.RowKit Go.Maps

theorem laidOutP : laidOutB Try.prog = true := by kernel_rfl
theorem placeKeyed : Keyed Try.prog 99 := Keyed.of_law (deep_law_laid laidOutP (m := 2) (by omega) (of_decide_eq_true (by kernel_rfl)) (by kernel_rfl) (by rw [Try.underlying99]))

theorem wf_of {n : Int} (h : i64 n) : (Lit.int .i64 n).wf = true := by
  simp [Lit.wf, IntKind.min, IntKind.max, IntKind.signed, IntKind.bits]; exact h

theorem lit_int {n : Int} (h : i64 n) (d : Nat) : Try.prog.keyLits (d + 1) 3 [vi n] = some [.int .i64 n] := by
  unfold Program.keyLits; simp [Try.underlying3, wf_of h]

theorem placeLits {a b : Int} (ha : i64 a) (hb : i64 b) (d : Nat) : Try.prog.keyLits (d + 1 + 1) 99 [vi a, vi b] = some [.int .i64 a, .int .i64 b] := by
  have hc : Try.prog.cellsOf 99 = 2 := by kernel_rfl
  have hi : Try.prog.cellsOf 3 = 1 := by kernel_rfl
  unfold Program.keyLits
  rw [Try.underlying99]
  simp [hc, hi, lit_int ha, lit_int hb]

theorem placeKey {a b : Int} (ha : i64 a) (hb : i64 b) : ∃ kl, keyOf Try.prog 99 (.agg #[vi a, vi b]) = some kl := by
  have hk : Try.prog.keyType 99 = true := by kernel_rfl
  have hc : Try.prog.cellsOf 99 = 2 := by kernel_rfl
  obtain ⟨d, hd⟩ : ∃ d, Try.prog.types.size = d + 1 := ⟨Try.prog.types.size - 1, by have : 0 < Try.prog.types.size := of_decide_eq_true (by kernel_rfl); omega⟩
  have hf : (Value.agg #[vi a, vi b]).formed Try.prog 99 = true := by simp [Value.formed, Try.underlying99, hc]
  have hl := placeLits ha hb d
  unfold keyOf
  rw [Try.underlying99, hd]
  simp [hk, hf, Value.cells, hl]
end Go.Proofs.Ytafboehdihokhaa
