/- The law ShrinkParts answers true for every input: the walk through the law, over the contract of Less and the plain law on what it leaves. No condition. -/
import Derived.Test.YtkobpjndkgjcjaaShrinkH
import Derived.Test.YtkobpjndkgjcjaaShrinkL1
namespace Go.Proofs.Ytkobpjndkgjcjaa.shrinkParts
open Go.RowKit
set_option linter.unusedVariables false
abbrev IsRow := @shrinkLess.IsRow

theorem cut_own {base : Nat} {xs : List Int} {k : Nat} {w : World} {v : Value} (htl : (xs.take k).length = k) (hdl : (xs.drop (k + 1)).length = xs.length - (k + 1))
    (h : w.ownsRow base 3 1 v (0 + k + (xs.length - (k + 1))) ([] ++ (xs.take k).map (Value.int .i64) ++ (xs.drop (k + 1)).map (Value.int .i64))) : RdI w v (cutM xs k 1) := by
  have hk : k ≤ xs.length := by rw [List.length_take] at htl; omega
  have e : cutM xs k 1 = xs.take k ++ xs.drop (k + 1) := by
    unfold cutM
    by_cases h : k + 1 ≤ xs.length
    · rw [Nat.min_eq_left h]
    · rw [Nat.min_eq_right (by omega), List.drop_length, List.drop_eq_nil_of_le (by omega)]
  rw [e]
  refine OwI.rd (base := base) ?_
  unfold OwI
  rw [List.length_append, htl, hdl, List.map_append]
  simpa using h

set_option maxRecDepth 100000 in
set_option maxHeartbeats 2000000 in
theorem walk (a0 : Option Addr) (len0 cap0 : Nat) (z0 : List Int) (a1 : Option Addr) (len1 cap1 : Nat) (z1 : List Int) (a2 : Int) (w : World) (w0 : IsRow .i64 w a0 len0 cap0 z0) (w1 : IsRow .i64 w a1 len1 cap1 z1) (w2 : (Lit.int .i64 a2).wf = true) :
    Calls Try.prog 4 #[.slice a0 len0 cap0, .slice a1 len1 cap1, .int .i64 a2] w fun e w' => e = .returned (.bool true) ∧ Below w.heap.size w w' := by
  clear w2
  obtain ⟨xs, hX, hx⟩ : ∃ xs, RdI w (.slice a0 len0 cap0) xs ∧ len0 = xs.length := ⟨_, w0.rd, by obtain ⟨_, _, _, h, h', _⟩ := w0.rd; cases h; exact h'⟩
  obtain ⟨ys, hY, hy⟩ : ∃ ys, RdI w (.slice a1 len1 cap1) ys ∧ len1 = ys.length := ⟨_, w1.rd, by obtain ⟨_, _, _, h, h', _⟩ := w1.rd; cases h; exact h'⟩
  subst hx hy
  clear w0 w1
  have hB2 : Below w.heap.size w ((w.alloc (.cells #[.slice a1 ys.length cap1] 22)).alloc (.cells #[.int .i64 a2] 3)) := ((Below.refl _ _).alloc (Nat.le_refl _) _).alloc (by simp) _
  have c0 : ((w.alloc (.cells #[.slice a1 ys.length cap1] 22)).alloc (.cells #[.int .i64 a2] 3)).cell? ⟨w.heap.size, 0, none⟩ = some (.slice a1 ys.length cap1) := by
    rw [World.cell?_alloc_past _ _ _ (by simp), World.cell?_alloc_at _ _ _ _ rfl]; rfl
  have c1 : ((w.alloc (.cells #[.slice a1 ys.length cap1] 22)).alloc (.cells #[.int .i64 a2] 3)).cell? ⟨w.heap.size + 1, 0, none⟩ = some (.int .i64 a2) := by
    rw [World.cell?_alloc_at _ _ _ _ (by simp)]; rfl
  have HX := Lib.hid hX
  have HY := Lib.hid hY
  clear hX hY
  go_enter Try.func4, Try.ntmps4
  go_wp2_with fail
  generalize ((w.alloc (.cells #[.slice a1 ys.length cap1] 22)).alloc (.cells #[.int .i64 a2] 3)) = W at *
  refine (head_any W).mono ?_
  rintro e W1 ⟨rfl, hb1⟩
  have d0 := cell_later hb1 c0
  have d1 := cell_later hb1 c1
  have hb1' := hB2.trans (hb1.mono hB2.size)
  have HX1 := Lib.hid (HX.out.below hb1')
  have HY1 := Lib.hid (HY.out.below hb1')
  have HB1 := Lib.hid hb1'
  clear hb1 hb1' c0 c1 hB2 HX HY
  by_cases hc1 : 40 < xs.length
  · go_wp2
    go_ret
    exact ⟨rfl, HB1.out⟩
  · by_cases hc2 : 40 < ys.length
    · go_wp2
      go_ret
      exact ⟨rfl, HB1.out⟩
    · have hmf : ∀ (fn : Fn) (first cap : Array Value) (w : World), (Instr.makeFunc fn first cap).run Try.prog w = .ok (.func fn first cap) w := fun _ _ _ _ => rfl
      go_wp2_with fail
      refine (less_any _ _ _ xs 1073741824 () _ (parts1_bad _ _ _ rfl _ ys a2 _ _ HY1.out d0 d1) HX1.out (by omega) (Below.refl _ _) (by omega)).mono ?_
      rintro e W3 ⟨v2, rfl, ho3, hb3⟩
      obtain ⟨hp1, hp2, hp3⟩ := lessM_parts ys a2 xs (by omega)
      obtain ⟨R, hR⟩ : ∃ R, lessM (stepN ys a2) 1073741824 xs () = R := ⟨_, rfl⟩
      have hR' : lessM (fun (s : Unit) xs => (needB xs ys a2, s)) 1073741824 xs () = R := hR
      rw [hR] at hp1 hp2 hp3
      rw [hR'] at ho3 ⊢
      have e0 := cell_later hb3 d0
      have e1 := cell_later hb3 d1
      have HX3 := Lib.hid (HX1.out.below hb3)
      have HY3 := Lib.hid (HY1.out.below hb3)
      have HB3 := Lib.hid (HB1.out.trans (hb3.mono HB1.out.size))
      have HG3 := Lib.hid ho3
      obtain ⟨ag, lg, cg, rfl, rfl, -⟩ := id ho3.rd
      have HP1 := Lib.hid hp1
      have HP2 := Lib.hid hp2
      have HP3 := Lib.hid hp3
      have hgl : R.1.length ≤ xs.length := hp1.length_le
      clear hR hR' ho3 hb3 d0 d1 HX1 HY1 HB1 hp1 hp2 hp3
      obtain ⟨W, rfl⟩ : ∃ X : World, X = W3 := ⟨_, rfl⟩
      have hgm' : R.1.length ≤ 40 := by omega
      go_wp2_with fail
      go_loop [10, 12, 33] (fun q _ i => ∃ (k j : Nat), q = .int .i64 k ∧ i = .int .i64 j ∧ k ≤ R.1.length ∧ j ≤ xs.length ∧ (R.1.drop k).Sublist (xs.drop j)) (fun _ _ i => xs.length - (intOf i).toNat)
      case atStart => exact ⟨0, 0, rfl, rfl, Nat.zero_le _, Nat.zero_le _, by simpa using HP1.out⟩
      case round =>
        obtain ⟨k, j, rfl, rfl, hk, hj, hs⟩ := hrel
        have HS := Lib.hid hs
        clear hs
        by_cases hlt : j < xs.length
        · obtain ⟨x, hx⟩ := some_at hlt
          obtain ⟨_, _, _, e5, -, -, -, -, hcx⟩ := HX3.out
          cases e5
          obtain ⟨bx, ox, rfl, hcx'⟩ := hcx j x hx
          have HXX := Lib.hid hx
          clear hcx hx
          by_cases hkl : k < R.1.length
          · obtain ⟨y, hy⟩ := some_at hkl
            obtain ⟨_, _, _, e5, -, -, -, -, hcg⟩ := HG3.out.rd
            cases e5
            obtain ⟨bg, og, rfl, hcg'⟩ := hcg k y hy
            have HYY := Lib.hid hy
            have hkl' : (k : Int) < (R.1.length : Int) := by omega
            clear hcg hy
            by_cases hyx : y = x
            · subst hyx
              go_wp2
              go_round
              case rel => exact ⟨k + 1, j + 1, by go_num, by go_num, by omega, by omega, sub_hit HS.out HYY.out HXX.out⟩
              case measure => simp [intOf]; omega
            · have hyx' : (y == x) = false := by simpa using hyx
              have HNE := Lib.hid (show R.1[k]? ≠ some x by rw [HYY.out]; simpa using hyx)
              clear hyx
              go_wp2
              go_round
              case rel => exact ⟨k, j + 1, rfl, by go_num, by omega, by omega, sub_miss HS.out HNE.out HXX.out⟩
              case measure => simp [intOf]; omega
          · have HNE := Lib.hid (show R.1[k]? ≠ some x by rw [List.getElem?_eq_none (by omega)]; simp)
            have hkl' : ¬ (k : Int) < (R.1.length : Int) := by omega
            go_wp2
            go_round
            case rel => exact ⟨k, j + 1, rfl, by go_num, by omega, by omega, sub_miss HS.out HNE.out HXX.out⟩
            case measure => simp [intOf]; omega
        · have hke := sub_end HS.out (by omega) hk
          subst hke
          clear hk
          cases hq : needB xs ys a2
          · have hlen : R.1.length = xs.length := HP2.out hq
            have HLE := Lib.hid hlen
            clear hlen
            go_wp2_with (go_at_call 11; refine (parts1_call _ _ _ _ _ _ _ _ HX3.out HY3.out e0 e1).mono ?_; rintro e w' ⟨rfl, rfl⟩)
            go_ret
            exact ⟨ret_bool (by simp [HLE.out]), HB3.out⟩
          · obtain ⟨hq2, hq3⟩ := HP3.out hq
            have HQ3 := Lib.hid hq3
            clear hq3
            go_wp2_with (first | (go_at_call_of 11 (Value.slice a0 xs.length cap0); refine (parts1_call _ _ _ _ _ _ _ _ HX3.out HY3.out e0 e1).mono ?_; rintro e w' ⟨rfl, rfl⟩) | (go_at_call_of 11 (Value.slice ag R.1.length cg); refine (parts1_call _ _ _ _ _ _ _ _ HG3.out.rd HY3.out e0 e1).mono ?_; rintro e w' ⟨rfl, rfl⟩))
            go_loopw [13, 71] (fun _ i wr => ∃ k : Nat, k ≤ R.1.length ∧ i = .int .i64 k ∧ Below W.heap.size W wr) (fun _ i _ => R.1.length - (intOf i).toNat)
            case atStart => exact ⟨0, Nat.zero_le _, rfl, Below.refl _ _⟩
            case round =>
              obtain ⟨k, hk, rfl, hb⟩ := hrel
              have HB := Lib.hid hb
              clear hb
              by_cases hlt : k < R.1.length
              · obtain ⟨g, hcap, rfl⟩ : ∃ g, R.1.length ≤ cg ∧ ag = some ⟨g, 0, none⟩ := by
                  rcases HG3.out.2 with ⟨e, e0⟩ | ⟨g, cp', cur, e, _, _, hn, _⟩
                  · rw [e0] at hlt; omega
                  · cases e; exact ⟨g, hn, rfl⟩
                have HG := Lib.hid (HG3.out.rd.below HB.out)
                have HYr := Lib.hid (HY3.out.below HB.out)
                have e0' := cell_later HB.out e0
                have e1' := cell_later HB.out e1
                have HT := Lib.hid (RdI.src (HG.out.takeS k (by omega)))
                have HD := Lib.hid (RdI.src (HG.out.dropS (k + 1) hlt))
                have htl : (R.1.take k).length = k := by simp; omega
                have hdl : (R.1.drop (k + 1)).length = R.1.length - (k + 1) := by simp
                rw [htl] at HT
                rw [hdl] at HD
                have htk : ∀ w, (Instr.slice 22 (.slice (some ⟨g, 0, none⟩) R.1.length cg) none (some (.int .i64 k)) none).run Try.prog w = .ok (.slice (some ⟨g, 0, none⟩) k cg) w := run_take (by omega)
                have hdr : ∀ w, (Instr.slice 22 (.slice (some ⟨g, 0, none⟩) R.1.length cg) (some (.int .i64 ((k : Int) + 1))) none none).run Try.prog w = .ok (sliced (some ⟨g, 0, none⟩) (k + 1) R.1.length cg 1) w := fun w => by
                  have := run_drop (b := g) (off := 0) (c := cg) (k := k + 1) hlt w
                  rwa [Int.natCast_add] at this
                have hw1 : IntKind.i64.wrap ((k : Int) + 1) = (k : Int) + 1 := IntWalk.i64_in _ (by omega)
                generalize sliced (some ⟨g, 0, none⟩) (k + 1) R.1.length cg 1 = VB at *
                go_upto_region 23 with fail
                go_cut [85] (fun b wx => b = .bool false ∧ Below W.heap.size W wx)
                case first =>
                  go_region_law (first
                    | (refine step_append_src rfl _ _ 22 rfl eltI wr.heap.size 0 [] (World.ownsRow_made wr.drew #[] 0 (Nat.le_refl _) (by simp [maxLen]) rfl) rfl k _ (HT.out.below (((Below.refl wr.heap.size wr).drew).alloc (Nat.le_refl _) _)) rfl int_one (by omega) (by omega) (by simp) ?_; intro v2 w2 hown2 hg2 _; have HO2 := Lib.hid hown2; have HBB := Lib.hid (((((Below.refl wr.heap.size wr).drew).alloc (Nat.le_refl _) _).grown hg2 (by simp) (by simp [Value.ownBlock]))); clear hown2 hg2)
                    | (refine step_append_src rfl _ _ 22 rfl eltI wr.heap.size (0 + k) _ HO2.out rfl (R.1.length - (k + 1)) _ (HD.out.below HBB.out) rfl int_one (by omega) (by omega) HBB.out.size ?_; intro v3 w3 hown3 hg3 _; have HC3 := Lib.hid (cut_own htl hdl hown3); have HBC := Lib.hid (HBB.out.grown hg3 HBB.out.size (fun j hj => (HO2.out.lt j hj).1)); clear hown3 hg3)
                    | (go_simp; go_at_call 11; refine (parts1_call _ _ _ _ _ _ _ _ HC3.out (HYr.out.below HBC.out) (cell_later HBC.out e0') (cell_later HBC.out e1')).mono ?_; rw [HQ3.out k hlt]; rintro e w' ⟨rfl, rfl⟩))
                  all_goals
                    go_wp2
                    go_meet
                    exact ⟨rfl, HB.out.trans (HBC.out.mono HB.out.size)⟩
                case rest =>
                  obtain ⟨rfl, hbc⟩ := hcut
                  have HBD := Lib.hid hbc
                  clear hbc
                  go_wp2
                  go_roundw
                  case rel => exact ⟨k + 1, by omega, by go_num, HBD.out⟩
                  case measure => simp [intOf]; omega
              · go_wp2
                go_ret
                exact ⟨rfl, HB3.out.trans (HB.out.mono HB3.out.size)⟩
end Go.Proofs.Ytkobpjndkgjcjaa.shrinkParts
