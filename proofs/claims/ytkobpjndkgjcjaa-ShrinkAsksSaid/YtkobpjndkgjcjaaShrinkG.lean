import Derived.Test.YtkobpjndkgjcjaaShrinkF
namespace Go.Proofs.Ytkobpjndkgjcjaa
open Go.RowKit

def stepN (ys : List Int) (least : Int) : Unit → List Int → Bool × Unit := fun s xs => (needB xs ys least, s)

theorem tryM_no {ys : List Int} {least budget n : Int} {s : Unit} (zs : List Int) (h : budget ≤ n) : tryM (stepN ys least) budget (n, s) zs = (false, n, s) := by simp [tryM, h]
theorem tryM_yes {ys : List Int} {least budget n : Int} {s : Unit} (zs : List Int) (h : ¬ budget ≤ n) : tryM (stepN ys least) budget (n, s) zs = (needB zs ys least, n + 1, s) := by simp [tryM, h, stepN]

/-- append([]int{}, x...) : the own copy; the law with the fresh empty row. -/
theorem RdI.takeAny {w : World} {a : Option Addr} {n c : Nat} {xs : List Int} (h : RdI w (.slice a n c) xs) (ha : a ≠ none) (k : Nat) (hk : k ≤ n) : RdI w (.slice a k c) (xs.take k) := by
  cases a with
  | none => exact absurd rfl ha
  | some ad => exact h.takeS k hk

set_option maxRecDepth 100000 in
set_option maxHeartbeats 2000000 in
theorem ref_less (v u : Value) (xs ys : List Int) (least budget : Int) (w : World) (hv : RdI w v xs) (hu : RdI w u ys) (hl : xs.length ≤ 1048576) (hbu : budget ≤ 9223372036854775807) :
    Calls Try.prog 10 #[v, .int .i64 budget, u, .int .i64 least] w fun e w' =>
      ∃ v', e = .returned (.tuple #[v', .int .i64 (lessM (stepN ys least) budget xs ()).2.1]) ∧ OwI w.heap.size w' v' (lessM (stepN ys least) budget xs ()).1 ∧ Below w.heap.size w w' := by
  have HS := Lib.hid hv.src
  have HU := Lib.hid hu
  obtain ⟨R, hR⟩ : ∃ R, lessM (stepN ys least) budget xs () = R := ⟨_, rfl⟩
  rw [hR]
  have HR := Lib.hid hR
  obtain ⟨av, lv, cv, rfl, rfl, -⟩ := id hv
  obtain ⟨au, lu, cu, rfl, rfl, -⟩ := id hu
  clear hv hu hR
  go_enter Try.func10, Try.ntmps10
  go_upto_region 3 with (at_builtin; refine wpList_append_src rfl _ _ 22 rfl eltI w.heap.size 0 [] (World.ownsRow_made w #[] 0 (Nat.le_refl _) (by simp [maxLen]) rfl) rfl xs.length _ (HS.out.below ((Below.refl _ _).alloc (Nat.le_refl _) _)) rfl int_one (by omega) (by omega) (by simp) ?_; intro v1 w1 hown hg _)
  have hb1 : Below w.heap.size w w1 := ((Below.refl w.heap.size w).alloc (Nat.le_refl _) _).grown hg (by simp) (by simp [Value.ownBlock])
  have ho1 : OwI w.heap.size w1 v1 xs := by simpa [OwI] using hown
  obtain ⟨a1, l1, c1, rfl, rfl, -⟩ := id ho1.rd
  have HO1 := Lib.hid ho1
  have HB1 := Lib.hid hb1
  have HU1 := Lib.hid (HU.out.below hb1)
  clear hown hg hb1 ho1 HS
  by_cases hb0 : budget ≤ 0
  · have hR : R = (xs, 0, ()) := by rw [← HR.out]; unfold lessM; rw [tryM_no _ hb0]; rfl
    subst hR
    go_wp2
    go_ret2
    exact ⟨_, rfl, HO1.out, HB1.out⟩
  · cases hT : needB xs ys least
    · have hR : R = (xs, 1, ()) := by rw [← HR.out]; unfold lessM; rw [tryM_yes _ hb0]; simp [hT]
      subst hR
      go_wp2_with (go_at_call 9; refine (need_any _ _ _ _ _ _ HO1.out.rd HU1.out).mono ?_; rintro e w' ⟨rfl, rfl⟩)
      go_ret2
      exact ⟨_, rfl, HO1.out, HB1.out⟩
    · have HR2 := Lib.hid (show R = outerM (stepN ys least) budget (xs.length + max 1 (xs.length / 2)) (max 1 (xs.length / 2)) xs (1, ()) by rw [← HR.out]; unfold lessM; rw [tryM_yes _ hb0]; simp [hT])
      go_upto_region 8 with (go_at_call 9; refine (need_any _ _ _ _ _ _ HO1.out.rd HU1.out).mono ?_; rintro e w' ⟨rfl, rfl⟩)
      go_upto_if 36 with fail
      go_cut [11] (fun z wx => z = .int .i64 ((max 1 (xs.length / 2) : Nat) : Int) ∧ wx = w1)
      case first =>
        by_cases h2 : 2 ≤ xs.length
        · go_wp2
          all_goals (go_meet; exact ⟨by rw [Nat.max_eq_right (by omega)]; go_num, rfl⟩)
        · go_wp2
          all_goals (go_meet; exact ⟨by rw [Nat.max_eq_left (by omega)]; go_num, rfl⟩)
      case rest =>
        obtain ⟨rfl, rfl⟩ := hcut
        generalize hm0 : max 1 (xs.length / 2) = m0
        have hm1 : 1 ≤ m0 := by omega
        have hm2 : m0 ≤ 1048576 := by omega
        rw [hm0] at HR2
        clear hm0
        go_wp2
        go_loopw [0, 10, 11] (fun v q z wr => ∃ (zs : List Int) (sz f : Nat) (n : Int) (a : Option Addr) (cap : Nat), v = .slice a zs.length cap ∧ q = .int .i64 n ∧ z = .int .i64 sz ∧ OwI w.heap.size wr v zs ∧ 0 ≤ n ∧ n ≤ 9223372036854775807 ∧ 1 ≤ sz ∧ sz ≤ 1048576 ∧ zs.length ≤ 1048576 ∧ Below w.heap.size w wr ∧ R = outerM (stepN ys least) budget f sz zs (n, ()) ∧ zs.length + sz ≤ f)
          (fun v _ z _ => lenV v + (intOf z).toNat)
        case atStart => exact ⟨xs, m0, _, 1, a1, c1, rfl, rfl, rfl, HO1.out, by omega, by omega, hm1, hm2, hl, HB1.out, HR2.out, Nat.le_refl _⟩
        case round =>
          obtain ⟨zs0, sz, f, n0, a, cap, rfl, rfl, rfl, ho, hn0, hn1, h1, h2, h3, hB, hR, hf⟩ := hrel
          have HO := Lib.hid ho
          have HB := Lib.hid hB
          have HR := Lib.hid hR
          clear ho hB hR
          obtain ⟨wo, rfl⟩ : ∃ wo : World, wo = wr := ⟨_, rfl⟩
          obtain ⟨p, hp⟩ : ∃ p, passM (stepN ys least) budget sz zs0.length zs0 false 0 (n0, ()) = p := ⟨_, rfl⟩
          have HP := Lib.hid hp
          clear hp
          go_wp2
          go_loopw [0, 10, 12, 13] (fun v q g i wr => ∃ (zs : List Int) (gb : Bool) (k f : Nat) (n : Int) (a : Option Addr) (cap : Nat), v = .slice a zs.length cap ∧ q = .int .i64 n ∧ g = .bool gb ∧ i = .int .i64 k ∧ OwI w.heap.size wr v zs ∧ 0 ≤ n ∧ n ≤ 9223372036854775807 ∧ zs.length ≤ zs0.length ∧ k ≤ 2097152 ∧ Below w.heap.size w wr ∧ passM (stepN ys least) budget sz f zs gb k (n, ()) = p ∧ zs.length - k ≤ f)
            (fun v _ _ i _ => lenV v - (intOf i).toNat)
          case atStart => exact ⟨zs0, false, 0, _, n0, a, cap, rfl, rfl, rfl, rfl, HO.out, hn0, hn1, Nat.le_refl _, by omega, HB.out, HP.out, Nat.le_refl _⟩
          case round =>
            obtain ⟨zs, gb, k, f', n, a', cap', rfl, rfl, rfl, rfl, ho, hn2, hn3, g1, g2, hB, hq, hf'⟩ := hrel
            by_cases hlt : k < zs.length
            · obtain ⟨g, hcap, rfl⟩ : ∃ g, zs.length ≤ cap' ∧ a' = some ⟨g, 0, none⟩ := by
                rcases ho.2 with ⟨e, e0⟩ | ⟨g, cp', cur, e, _, _, hn, _⟩
                · rw [e0] at hlt; omega
                · cases e; exact ⟨g, hn, rfl⟩
              have HO' := Lib.hid ho
              have HB' := Lib.hid hB
              have HQ := Lib.hid hq
              have hle := hB.size
              have HT := Lib.hid (RdI.src (ho.rd.takeS k (by omega)))
              have htl : (zs.take k).length = k := by simp; omega
              rw [htl] at HT
              clear ho hB hq
              have htk : ∀ w, (Instr.slice 22 (.slice (some ⟨g, 0, none⟩) zs.length cap') none (some (.int .i64 k)) none).run Try.prog w = .ok (.slice (some ⟨g, 0, none⟩) k cap') w := run_take (by omega)
              go_upto_if 51 with (at_builtin; refine wpList_append_src rfl _ _ 22 rfl eltI wr.heap.size 0 [] (World.ownsRow_made wr #[] 0 (Nat.le_refl _) (by simp [maxLen]) rfl) rfl k _ (HT.out.below ((Below.refl _ _).alloc (Nat.le_refl _) _)) rfl int_one (by omega) (by omega) (by simp) ?_; intro v2 w2 hown2 hg2 _)
              have hb2 : Below wr.heap.size wr w2 := ((Below.refl wr.heap.size wr).alloc (Nat.le_refl _) _).grown hg2 (by simp) (by simp [Value.ownBlock])
              have ho2 : OwI wr.heap.size w2 v2 (zs.take k) := by simpa [OwI, htl, Nat.min_eq_left (Nat.le_of_lt hlt)] using hown2
              have HO2 := Lib.hid ho2
              have HB2 := Lib.hid hb2
              clear hown2 hg2 hb2 ho2 htk
              go_cut [14] (fun r wx => OwI wr.heap.size wx r (cutM zs k sz) ∧ Below wr.heap.size wr wx)
              case first =>
                by_cases hk : k + sz < zs.length
                · have hdr : ∀ w, (Instr.slice 22 (.slice (some ⟨g, 0, none⟩) zs.length cap') (some (.int .i64 ((k : Int) + (sz : Int)))) none none).run Try.prog w = .ok (sliced (some ⟨g, 0, none⟩) (k + sz) zs.length cap' 1) w := fun w => by
                    have := run_drop (b := g) (off := 0) (c := cap') (Nat.le_of_lt hk) w
                    rwa [Int.natCast_add] at this
                  have HD := Lib.hid (RdI.src ((HO'.out.rd.dropS (k + sz) (Nat.le_of_lt hk)).below HB2.out))
                  have hwd : IntKind.i64.wrap ((k : Int) + (sz : Int)) = (k : Int) + (sz : Int) := IntWalk.i64_in _ (by omega)
                  have hdl : (zs.drop (k + sz)).length = zs.length - (k + sz) := by simp
                  rw [hdl] at HD
                  have hle2 := HB2.out.size
                  generalize sliced (some ⟨g, 0, none⟩) (k + sz) zs.length cap' 1 = VB at *
                  go_wp2_with (at_builtin; refine wpList_append_src rfl _ _ 22 rfl eltI wr.heap.size (zs.take k).length _ HO2.out rfl (zs.length - (k + sz)) _ HD.out rfl int_one (by rw [htl]; omega) (by omega) hle2 ?_; intro v3 w3 hown3 hg3 _)
                  have hb3 := HB2.out.grown hg3 hle2 (fun k hk => (HO2.out.lt k hk).1)
                  go_meet
                  refine ⟨?_, hb3⟩
                  have e : cutM zs k sz = zs.take k ++ zs.drop (k + sz) := by unfold cutM; rw [Nat.min_eq_left (by omega)]
                  unfold OwI
                  rw [e, List.length_append, List.map_append, hdl]
                  exact hown3
                · go_wp2
                  go_meet
                  refine ⟨?_, HB2.out⟩
                  have e : cutM zs k sz = zs.take k := by unfold cutM; rw [Nat.min_eq_right (by omega), List.drop_length, List.append_nil]
                  rw [e]; exact HO2.out
              case rest =>
                obtain ⟨ho3, hb3⟩ := hcut
                have HO3 := Lib.hid (ho3.mono hle)
                have HL3 := Lib.hid (HO'.out.below hb3)
                have HB3 := Lib.hid (HB'.out.trans (hb3.mono hle))
                have HU3 := Lib.hid (HU.out.below HB3.out)
                have hcl := cutM_length zs k sz
                have hll2 : (cutM zs k sz).length < zs.length := by omega
                clear ho3 hb3 hcl HO2 HB2 HT htl
                obtain ⟨a3, l3, c3, rfl, rfl, -⟩ := id HO3.out.rd
                by_cases hbn : budget ≤ n
                · obtain ⟨f3, e1, e2⟩ := passM_miss (g := gb) (stepN ys least) budget (st := (n, ())) hlt hf' (by rw [tryM_no _ hbn])
                  rw [tryM_no _ hbn] at e1
                  have E1 := Lib.hid e1
                  clear e1
                  go_wp2
                  go_roundw
                  case rel => exact ⟨zs, gb, k + sz, f3, n, _, cap', rfl, rfl, rfl, by go_num, HL3.out, hn2, hn3, g1, by omega, HB3.out, E1.out.symm.trans HQ.out, by omega⟩
                  case measure => simp [intOf, lenV]; omega
                · cases hT2 : needB (cutM zs k sz) ys least
                  · obtain ⟨f3, e1, e2⟩ := passM_miss (g := gb) (stepN ys least) budget (st := (n, ())) hlt hf' (by rw [tryM_yes _ hbn]; exact hT2)
                    rw [tryM_yes _ hbn] at e1
                    have E1 := Lib.hid e1
                    clear e1
                    go_wp2_with (go_at_call 9; refine (need_any _ _ _ _ _ _ HO3.out.rd HU3.out).mono ?_; rintro e w' ⟨rfl, rfl⟩)
                    go_roundw
                    case rel => exact ⟨zs, gb, k + sz, f3, n + 1, _, cap', rfl, rfl, rfl, by go_num, HL3.out, by omega, by omega, g1, by omega, HB3.out, E1.out.symm.trans HQ.out, by omega⟩
                    case measure => simp [intOf, lenV]; omega
                  · obtain ⟨f3, e1, e2⟩ := passM_hit (g := gb) (stepN ys least) budget (st := (n, ())) hlt hf' (by rw [tryM_yes _ hbn]; exact hT2)
                    rw [tryM_yes _ hbn] at e1
                    have E1 := Lib.hid e1
                    clear e1
                    go_wp2_with (go_at_call 9; refine (need_any _ _ _ _ _ _ HO3.out.rd HU3.out).mono ?_; rintro e w' ⟨rfl, rfl⟩)
                    go_roundw
                    case rel => exact ⟨cutM zs k sz, true, k, f3, n + 1, _, c3, rfl, rfl, rfl, rfl, HO3.out, by omega, by omega, by omega, by omega, HB3.out, E1.out.symm.trans HQ.out, by omega⟩
                    case measure => simp [intOf, lenV]; omega
            · have hpe : p = (zs, gb, n, ()) := by rw [← hq]; exact passM_done _ _ _ _ _ _ _ _ (by omega)
              subst hpe
              clear hq hf'
              have HO' := Lib.hid ho
              have HB' := Lib.hid hB
              clear ho hB
              by_cases hb : budget ≤ n
              · obtain rfl : R = (zs, n, ()) := by rw [HR.out]; exact outerM_end _ budget HP.out h1 hf (.inl hb)
                go_wp2
                go_ret2
                exact ⟨_, rfl, HO'.out, HB'.out⟩
              · by_cases hs : sz = 1
                · subst hs
                  cases gb
                  · obtain rfl : R = (zs, n, ()) := by rw [HR.out]; exact outerM_end _ budget HP.out h1 hf (.inr ⟨rfl, rfl⟩)
                    go_wp2
                    go_ret2
                    exact ⟨_, rfl, HO'.out, HB'.out⟩
                  · obtain ⟨f2, e1, e2, e3⟩ := outerM_on _ budget HP.out h1 hf hb (.inr rfl)
                    have E1 := Lib.hid e1
                    clear e1
                    go_wp2
                    go_roundw
                    case rel => exact ⟨zs, 1, f2, n, a', cap', rfl, rfl, rfl, HO'.out, hn2, hn3, by omega, by omega, by omega, HB'.out, HR.out.trans E1.out, e3⟩
                    case measure => simp [intOf, lenV] at e2 ⊢; omega
                · obtain ⟨f2, e1, e2, e3⟩ := outerM_on _ budget HP.out h1 hf hb (.inl (by omega))
                  rw [if_pos (by omega)] at e1 e2 e3
                  have E1 := Lib.hid e1
                  clear e1
                  have hs1 : ((sz : Int) == 1) = false := by simp; omega
                  have hs2 : (1 : Int) < (sz : Int) := by omega
                  go_wp2
                  go_roundw
                  case rel => exact ⟨zs, sz / 2, f2, n, a', cap', rfl, rfl, by go_num, HO'.out, hn2, hn3, by omega, by omega, by omega, HB'.out, HR.out.trans E1.out, e3⟩
                  case measure => simp [intOf, lenV] at e2 ⊢; omega
end Go.Proofs.Ytkobpjndkgjcjaa
