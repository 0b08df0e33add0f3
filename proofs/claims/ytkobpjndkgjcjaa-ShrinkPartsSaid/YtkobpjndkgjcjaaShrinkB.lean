import Derived.Test.YtkobpjndkgjcjaaShrinkA
namespace Go.Proofs.Ytkobpjndkgjcjaa
open Go.RowKit

theorem Try.info3 : (Try.prog.info? 3).map (fun i => (i.zero, i.size, i.bytes)) = some (some (.int .i64 0), 1, 8) := by kernel_rfl
theorem eltI : Elt Try.prog 22 3 1 8 (.int .i64 0) := by
  obtain ⟨i0, hi, hz0, hz1, hz2⟩ := info_parts Try.info3
  exact ⟨Try.underlying22, by decide, rfl, i0, hi, hz0, hz1, hz2⟩

theorem int_one {xs : List Int} : ∀ u ∈ xs.map (Value.int .i64), u.oneCell' = true := by
  intro u hu; obtain ⟨x, _, rfl⟩ := List.mem_map.1 hu; rfl

theorem RdI.src {w : World} {v : Value} {xs : List Int} (h : RdI w v xs) : Src w v 1 xs.length (xs.map (Value.int .i64)) := by
  obtain ⟨a, len, cap, rfl, rfl, hm, hlc, hn, hc⟩ := h
  refine ⟨a, cap, rfl, by simp, fun h => ?_, fun ad had j u hu => ?_⟩
  · exact hn h
  · rw [List.getElem?_map] at hu
    cases hx : xs[j]? with
    | none => simp [hx] at hu
    | some x =>
      simp [hx] at hu; subst hu
      obtain ⟨b, off, hb, hcell⟩ := hc j x hx
      rw [hb] at had; cases had
      rw [addr_add]; exact hcell

set_option maxHeartbeats 400000 in
theorem clone_any (v : Value) (zs : List Int) (w : World) (hv : RdI w v zs) (hz : zs.length ≤ 1073741824) :
    Calls Try.prog 16 #[v] w fun e w' => ∃ v', e = .returned v' ∧ OwI w.heap.size w' v' zs ∧ Below w.heap.size w w' := by
  have HS := Lib.hid hv.src
  have HV := Lib.hid hv
  obtain ⟨a, len, cap, rfl, rfl, hm, hlc, hn, hc⟩ := hv
  clear hc
  have qT : ∀ (w : World) (a : Option Addr) (n c : Nat), (binOp .eql 22 (.slice a n c) (.slice none 0 0)).run Try.prog w = .ok (.bool a.isNone) w := fun w a n c => Lib.run_eql_slice_nil w _ _ a n c 0 0 Try.underlying22
  cases a with
  | none =>
    obtain ⟨h0, h1⟩ := hn rfl
    have : zs = [] := List.length_eq_zero_iff.1 h0
    subst this
    subst h1
    clear hn
    go_enter Try.func16, Try.ntmps16
    go_wp2
    go_ret
    exact ⟨_, rfl, World.ownsRow_nil _ _ _ _, Below.refl _ _⟩
  | some ad =>
    clear hn
    go_enter Try.func16, Try.ntmps16
    go_wp2_with (at_builtin; refine wpList_append_src rfl _ _ 22 rfl eltI w.heap.size 0 [] (World.ownsRow_made w #[] 0 (Nat.le_refl _) (by simp [maxLen]) rfl) rfl zs.length _ (HS.out.below ((Below.refl _ _).alloc (Nat.le_refl _) _)) rfl int_one (by omega) (by omega) (by simp) ?_; intro v' w1 hown hg _)
    have hown' : w1.ownsRow w.heap.size 3 1 v' zs.length (zs.map (Value.int .i64)) := by simpa using hown
    go_ret
    exact ⟨_, rfl, hown', ((Below.refl w.heap.size w).alloc (Nat.le_refl _) _).grown hg (by simp) (by simp [Value.ownBlock])⟩

set_option maxHeartbeats 400000 in
theorem grow_any (m : Int) (w : World) (hm0 : 0 ≤ m) (hm1 : m ≤ 1073741824) :
    Calls Try.prog 18 #[.slice none 0 0, .int .i64 m] w fun e w' => ∃ v', e = .returned v' ∧ OwI w.heap.size w' v' [] ∧ Below w.heap.size w w' := by
  obtain ⟨n, rfl⟩ := Int.eq_ofNat_of_zero_le hm0
  have hn : n ≤ 1073741824 := by omega
  clear hm0 hm1
  by_cases h0 : n = 0
  · subst h0
    go_enter Try.func18, Try.ntmps18
    go_wp2
    go_ret
    exact ⟨_, rfl, World.ownsRow_nil _ _ _ _, Below.refl _ _⟩
  · have h0' : 0 < n := by omega
    obtain ⟨i0, hi, hz0, hz1, hz2⟩ := info_parts Try.info3
    have HR := Lib.hid (fun ty => Lib.run_append_nil_zeros (P := Try.prog) w 22 3 ty 3 i0 (.int .i64 0) .i64 .i64 Try.underlying22 Try.underlying3 hi hz0 n h0' (by omega) (by omega) (by rw [hz2]; omega))
    have HC := Lib.hid (grownCap_ge w n 0 3)
    have HM := Lib.hid (grownCap_le_maxLen w n 0 3 (by simp [maxLen]; omega))
    clear h0 hi hz0 hz1 hz2
    go_enter Try.func18, Try.ntmps18
    go_wp2_with (at_builtin; refine Lib.wpList_append_run _ rfl _ _ _ _ rfl _ _ rfl rfl _ _ (HR.out _) ?_)
    go_ret
    refine ⟨_, rfl, ⟨rfl, .inr ⟨w.heap.size, grownCap w n 0 3, _, rfl, Nat.le_refl _, heap_alloc_new w.drew _, Nat.zero_le _, HM.out, ?_, by simp⟩⟩, ((Below.refl w.heap.size w).drew).alloc (Nat.le_refl _) _⟩
    have := HC.out
    simp [Builtin.zeroCells]
    omega

set_option maxHeartbeats 400000 in
theorem concat_any (b1 : Nat) (x y : Value) (xs ys : List Int) (w : World) (hx : RdI w x xs) (hy : RdI w y ys) (hz : xs.length + ys.length ≤ 1073741824)
    (h0 : w.cell? ⟨b1, 0, none⟩ = some x) (h1 : w.cell? ⟨b1, 1, none⟩ = some y) :
    Calls Try.prog 17 #[.slice (some ⟨b1, 0, none⟩) 2 2] w fun e w' => ∃ v', e = .returned v' ∧ OwI w.heap.size w' v' (xs ++ ys) ∧ Below w.heap.size w w' := by
  have HX := Lib.hid hx
  have HY := Lib.hid hy
  obtain ⟨ax, lx, cx, rfl, rfl, -, -, -, -⟩ := hx
  obtain ⟨ay, ly, cy, rfl, rfl, -, -, -, -⟩ := hy
  go_enter Try.func17, Try.ntmps17
  go_wp2
  refine wp_loop_rounds 3 ?_
  rw [rounds_succ]
  go_wp2
  rw [rounds_succ]
  go_wp2
  rw [rounds_succ]
  go_wp2_with fail
  refine (grow_any _ _ (by omega) (by omega)).mono ?_
  rintro e w1 ⟨v1, rfl, hown, hb⟩
  have h0' : w1.cell? ⟨b1, 0, none⟩ = some (.slice ax xs.length cx) := cell_later hb h0
  have h1' : w1.cell? ⟨b1, 1, none⟩ = some (.slice ay ys.length cy) := cell_later hb h1
  have HX1 := Lib.hid (HX.out.below hb)
  have HY1 := Lib.hid (HY.out.below hb)
  have HO := Lib.hid hown
  have HB := Lib.hid hb
  have hle := hb.size
  have H1 := Lib.hid h1
  clear hown hb h0 h1
  go_wp2
  refine wp_loop_rounds 3 ?_
  rw [rounds_succ]
  go_wp2_with (at_builtin; refine wpList_append_src rfl _ _ 22 rfl eltI w.heap.size 0 [] HO.out rfl xs.length _ HX1.out.src rfl int_one (by omega) (by omega) hle ?_)
  intro v2 w2 hown2 hg2 _
  have hb2 := HB.out.grown hg2 hle (fun k hk => (HO.out.lt k hk).1)
  have h1'' : w2.cell? ⟨b1, 1, none⟩ = some (.slice ay ys.length cy) := cell_later hb2 H1.out
  have HY2 := Lib.hid (HY.out.below hb2)
  have HB2 := Lib.hid hb2
  have hle2 := hb2.size
  have HO2 := Lib.hid hown2
  clear hown2 hb2 hg2 h0' h1'
  go_wp2
  rw [rounds_succ]
  go_wp2_with (at_builtin; refine wpList_append_src rfl _ _ 22 rfl eltI w.heap.size xs.length (xs.map (Value.int .i64)) HO2.out rfl ys.length _ HY2.out.src rfl int_one (by omega) (by omega) hle2 ?_)
  intro v3 w3 hown3 hg3 _
  have hb3 := HB2.out.grown hg3 hle2 (fun k hk => (HO2.out.lt k hk).1)
  go_wp2
  rw [rounds_succ]
  go_wp2
  go_ret
  exact ⟨_, rfl, by unfold OwI; rw [List.length_append, List.map_append]; exact hown3, hb3⟩
end Go.Proofs.Ytkobpjndkgjcjaa
