/- The law ShrinkLess answers true for every input: the walk through the law, over the contracts of Less and of the reference. No condition. -/
import Derived.Test.YtkobpjndkgjcjaaShrinkG
import Derived.ProofKit
import Derived.OpenShut
import Derived.ShutString
import Derived.ChangeOld
namespace Go.Proofs.Ytkobpjndkgjcjaa.shrinkLess
open Go.RowKit
set_option linter.unusedVariables false

/-- What is known of a slice of integers that came in. -/
def IsRow (k : IntKind) (w : World) (a : Option Addr) (len cap : Nat) (zs : List Int) : Prop :=
  (a = none ∧ len = 0 ∧ cap = 0 ∧ zs = []) ∨
  ∃ x, a = some x ∧ len ≤ cap ∧ cap ≤ maxLen ∧ zs.length = cap ∧ (∀ i, i < zs.length → w.cell? (x.add i) = some (.int k (zs.getD i 0))) ∧ ∀ n ∈ zs, (Lit.int k n).wf = true

theorem IsRow.rd {w : World} {a : Option Addr} {len cap : Nat} {zs : List Int} (h : IsRow .i64 w a len cap zs) : RdI w (.slice a len cap) (zs.take len) := by
  rcases h with ⟨rfl, rfl, rfl, rfl⟩ | ⟨x, rfl, hl, hm, hz, hc, _⟩
  · exact ⟨none, 0, 0, rfl, rfl, by simp, Nat.le_refl _, fun _ => ⟨rfl, rfl⟩, fun j x hj => by simp at hj⟩
  · refine ⟨some x, len, cap, rfl, by simp; omega, by simp only [maxLen] at hm; simp; omega, hl, (fun h => by cases h), fun j y hj => ?_⟩
    rw [List.getElem?_take] at hj
    split at hj
    · have hlt : j < zs.length := (List.getElem?_eq_some_iff.1 hj).1
      have h0 := hc 0 (by omega)
      have hs : x = ⟨x.block, x.off, none⟩ := by
        have : x.add 0 = x := rfl
        rw [this] at h0
        obtain ⟨b, o, s⟩ := x
        cases s with
        | none => rfl
        | some s => unfold World.cell? at h0; split at h0 <;> simp_all
      refine ⟨x.block, x.off, by rw [← hs], ?_⟩
      have := hc j hlt
      rw [hs, addr_add] at this
      rw [this, List.getD_eq_getElem?_getD, hj]; rfl
    · cases hj

/-- A row that is compared with itself, place by place. -/
theorem same_ok {xs : List Int} {k : Nat} {x y : Int} (hx : xs[k]? = some x) (hy : xs[k]? = some y) : (x != y) = false := by
  rw [hx] at hy; cases hy; simp

set_option maxRecDepth 100000 in
set_option maxHeartbeats 2000000 in
theorem walk (a0 : Option Addr) (len0 cap0 : Nat) (z0 : List Int) (a1 : Option Addr) (len1 cap1 : Nat) (z1 : List Int) (a2 : Int) (a3 : Int) (w : World) (w0 : IsRow .i64 w a0 len0 cap0 z0) (w1 : IsRow .i64 w a1 len1 cap1 z1) (w2 : (Lit.int .i64 a2).wf = true) (w3 : (Lit.int .i64 a3).wf = true) :
    Calls Try.prog 3 #[.slice a0 len0 cap0, .slice a1 len1 cap1, .int .i64 a2, .int .i64 a3] w fun e w' => e = .returned (.bool true) ∧ Below w.heap.size w w' := by
  have hbu : a3 ≤ 9223372036854775807 := by
    have := w3; simp [Lit.wf, IntKind.min, IntKind.max, IntKind.signed, IntKind.bits] at this; omega
  clear w2 w3
  obtain ⟨xs, hX, hx⟩ : ∃ xs, RdI w (.slice a0 len0 cap0) xs ∧ len0 = xs.length := ⟨_, w0.rd, by obtain ⟨_, _, _, h, h', _⟩ := w0.rd; cases h; exact h'⟩
  obtain ⟨ys, hY, hy⟩ : ∃ ys, RdI w (.slice a1 len1 cap1) ys ∧ len1 = ys.length := ⟨_, w1.rd, by obtain ⟨_, _, _, h, h', _⟩ := w1.rd; cases h; exact h'⟩
  subst hx hy
  clear w0 w1
  have hB2 : Below w.heap.size w ((w.alloc (.cells #[.slice a1 ys.length cap1] 22)).alloc (.cells #[.int .i64 a2] 3)) := ((Below.refl _ _).alloc (Nat.le_refl _) _).alloc (by simp) _
  have c0 : ((w.alloc (.cells #[.slice a1 ys.length cap1] 22)).alloc (.cells #[.int .i64 a2] 3)).cell? ⟨w.heap.size, 0, none⟩ = some (.slice a1 ys.length cap1) := by
    rw [World.cell?_alloc_past _ _ _ (by simp), World.cell?_alloc_at _ _ _ _ rfl]; rfl
  have c1 : ((w.alloc (.cells #[.slice a1 ys.length cap1] 22)).alloc (.cells #[.int .i64 a2] 3)).cell? ⟨w.heap.size + 1, 0, none⟩ = some (.int .i64 a2) := by
    rw [World.cell?_alloc_at _ _ _ _ (by simp)]; rfl
  have HX := Lib.hid hX
  have HY := Lib.hid hY
  clear hX hY
  go_enter Try.func3, Try.ntmps3
  go_wp2_with fail
  generalize ((w.alloc (.cells #[.slice a1 ys.length cap1] 22)).alloc (.cells #[.int .i64 a2] 3)) = W at *
  refine (head_any W).mono ?_
  rintro e W1 ⟨rfl, hb1⟩
  have d0 := cell_later hb1 c0
  have d1 := cell_later hb1 c1
  have hb1' := hB2.trans (hb1.mono hB2.size)
  have HX1 := Lib.hid (HX.out.below hb1')
  have HY1 := Lib.hid (HY.out.below hb1')
  have HB1 := Lib.hid hb1'
  clear hb1 hb1' c0 c1 hB2 HX HY
  by_cases hc1 : 60 < xs.length
  · go_wp2
    go_ret
    exact ⟨rfl, HB1.out⟩
  · by_cases hc2 : 60 < ys.length
    · go_wp2
      go_ret
      exact ⟨rfl, HB1.out⟩
    · have HS := Lib.hid HX1.out.src
      go_upto_region 6 with (at_builtin; refine wpList_append_src rfl _ _ 22 rfl eltI W1.heap.size 0 [] (World.ownsRow_made W1 #[] 0 (Nat.le_refl _) (by simp [maxLen]) rfl) rfl xs.length _ (HS.out.below ((Below.refl _ _).alloc (Nat.le_refl _) _)) rfl int_one (by omega) (by omega) (by simp) ?_; intro v1 W2 hown hg _)
      have hb2 : Below W1.heap.size W1 W2 := ((Below.refl W1.heap.size W1).alloc (Nat.le_refl _) _).grown hg (by simp) (by simp [Value.ownBlock])
      have ho2 : OwI W1.heap.size W2 v1 xs := by simpa [OwI] using hown
      have d0' := cell_later hb2 d0
      have d1' := cell_later hb2 d1
      have HX2 := Lib.hid (HX1.out.below hb2)
      have HY2 := Lib.hid (HY1.out.below hb2)
      have HM2 := Lib.hid ho2
      have HB2 := Lib.hid (HB1.out.trans (hb2.mono HB1.out.size))
      clear hown hg hb2 ho2 d0 d1 HX1 HY1 HB1 HS
      have hmf : ∀ (fn : Fn) (first cap : Array Value) (w : World), (Instr.makeFunc fn first cap).run Try.prog w = .ok (.func fn first cap) w := fun _ _ _ _ => rfl
      go_wp2_with fail
      refine (less_any _ _ _ xs a3 () _ (less1_bad _ _ _ rfl _ ys a2 _ _ HY2.out d0' d1') HM2.out.rd (by omega) (Below.refl _ _) hbu).mono ?_
      rintro e W3 ⟨v2, rfl, ho3, hb3⟩
      obtain ⟨R, hR⟩ : ∃ R, lessM (stepN ys a2) a3 xs () = R := ⟨_, rfl⟩
      have hR' : lessM (fun (s : Unit) xs => (needB xs ys a2, s)) a3 xs () = R := hR
      rw [hR'] at ho3 ⊢
      have e0 := cell_later hb3 d0'
      have e1 := cell_later hb3 d1'
      have HR := Lib.hid hR
      have HM3 := Lib.hid (HM2.out.below hb3)
      have HX3 := Lib.hid (HX2.out.below hb3)
      have HY3 := Lib.hid (HY2.out.below hb3)
      have HB3 := Lib.hid (HB2.out.trans (hb3.mono HB2.out.size))
      have HG3 := Lib.hid ho3
      obtain ⟨am, lm, cm, rfl, rfl, -⟩ := id HM2.out.rd
      obtain ⟨ag, lg, cg, rfl, rfl, -⟩ := id ho3.rd
      clear hR hR' ho3 hb3 d0' d1' HX2 HY2 HB2 HM2
      go_wp2_with fail
      refine (ref_less _ _ xs ys a2 a3 _ HX3.out HY3.out (by omega) hbu).mono ?_
      rw [HR.out]
      rintro e W4 ⟨v4, rfl, ho4, hb4⟩
      have HM4 := Lib.hid (HM3.out.below hb4).rd
      have HX4 := Lib.hid (HX3.out.below hb4)
      have HG4 := Lib.hid (HG3.out.below hb4).rd
      have HB4 := Lib.hid (HB3.out.trans (hb4.mono HB3.out.size))
      have HF4 := Lib.hid ho4.rd
      obtain ⟨af, lf, cf, rfl, rfl, -⟩ := id ho4.rd
      clear ho4 hb4 e0 e1 HR HM3 HX3 HY3 HB3 HG3
      obtain ⟨W, rfl⟩ : ∃ X : World, X = W4 := ⟨_, rfl⟩
      have hlx : xs.length ≤ 60 := by omega
      obtain ⟨_, _, _, e4, -, hgm, -⟩ := HG4.out
      cases e4
      go_wp2_with fail
      have hgm' : R.1.length ≤ 9223372036854775807 := hgm
      go_loopw [14, 56] (fun _ i wr => ∃ k : Nat, k ≤ R.1.length ∧ i = .int .i64 k ∧ Below W.heap.size W wr) (fun _ i _ => R.1.length - (intOf i).toNat)
      case atStart => exact ⟨0, Nat.zero_le _, rfl, Below.refl _ _⟩
      case round =>
        obtain ⟨k, hk, rfl, hb⟩ := hrel
        have HB := Lib.hid hb
        clear hb
        by_cases hlt : k < R.1.length
        · obtain ⟨y, hy⟩ := some_at hlt
          obtain ⟨_, _, _, e5, -, -, -, -, hcg⟩ := HG4.out.below HB.out
          cases e5
          obtain ⟨bg, og, rfl, hcg'⟩ := hcg k y hy
          obtain ⟨_, _, _, e5, -, -, -, -, hcf⟩ := HF4.out.below HB.out
          cases e5
          obtain ⟨bf, of, rfl, hcf'⟩ := hcf k y hy
          have hlt' : (k : Int) < (R.1.length : Int) := by omega
          clear hcg hcf hy
          go_wp2
          go_quiet (fail)
          go_wp2
          go_roundw
          case rel => exact ⟨k + 1, by omega, by go_num, below_drewN HB.out _⟩
          case measure => simp [intOf]; omega
        · go_wp2
          go_loopw [15, 71] (fun _ i wr => ∃ k : Nat, k ≤ xs.length ∧ i = .int .i64 k ∧ Below W.heap.size W wr) (fun _ i _ => xs.length - (intOf i).toNat)
          case atStart => exact ⟨0, Nat.zero_le _, rfl, HB.out⟩
          case round =>
            obtain ⟨k2, hk2, rfl, hb⟩ := hrel
            have HB := Lib.hid hb
            clear hb
            by_cases hlt2 : k2 < xs.length
            · obtain ⟨y, hy⟩ := some_at hlt2
              obtain ⟨_, _, _, e5, -, -, -, -, hcg⟩ := HM4.out.below HB.out
              cases e5
              obtain ⟨bg, og, rfl, hcg'⟩ := hcg k2 y hy
              obtain ⟨_, _, _, e5, -, -, -, -, hcf⟩ := HX4.out.below HB.out
              cases e5
              obtain ⟨bf, of, rfl, hcf'⟩ := hcf k2 y hy
              have hlt' : (k2 : Int) < (xs.length : Int) := by omega
              clear hcg hcf hy
              go_wp2
              go_quiet (fail)
              go_wp2
              go_roundw
              case rel => exact ⟨k2 + 1, by omega, by go_num, below_drewN HB.out _⟩
              case measure => simp [intOf]; omega
            · go_wp2
              go_ret
              exact ⟨rfl, HB4.out.trans (HB.out.mono HB4.out.size)⟩
end Go.Proofs.Ytkobpjndkgjcjaa.shrinkLess
