import Derived.Test.YtkobpjndkgjcjaaShrinkD
namespace Go.Proofs.Ytkobpjndkgjcjaa
open Go.RowKit
variable {σ : Type} {I : Int × σ → World → Prop} {step : σ → List Int → Bool × σ}

def lenV : Value → Nat
  | .slice _ n _ => n
  | _ => 0

/-- A piece of a readable slice from the front. -/
theorem RdI.takeS {w : World} {ad : Addr} {n c : Nat} {xs : List Int} (h : RdI w (.slice (some ad) n c) xs) (k : Nat) (hk : k ≤ n) : RdI w (.slice (some ad) k c) (xs.take k) := by
  obtain ⟨a, len, cap, h1, rfl, hm, hlc, hn, hc⟩ := h
  cases h1
  refine ⟨_, k, c, rfl, by simp; omega, by simp; omega, by omega, (fun h => by cases h), fun j x hj => hc j x ?_⟩
  rw [List.getElem?_take] at hj
  split at hj
  · exact hj
  · cases hj

/-- A piece of a readable slice from a place on. -/
theorem RdI.dropS {w : World} {b off n c : Nat} {xs : List Int} (h : RdI w (.slice (some ⟨b, off, none⟩) n c) xs) (k : Nat) (hk : k ≤ n) :
    RdI w (sliced (some ⟨b, off, none⟩) k n c 1) (xs.drop k) := by
  obtain ⟨a, len, cap, h1, rfl, hm, hlc, hn, hc⟩ := h
  cases h1
  unfold sliced
  by_cases h0 : c = k
  · subst h0
    refine ⟨_, _, _, rfl, by simp, by simp; omega, by omega, (fun h => by simp at h), fun j x hj => ?_⟩
    rw [List.getElem?_drop] at hj
    have := (List.getElem?_eq_some_iff.1 hj).1
    omega
  · refine ⟨_, _, _, rfl, by simp, by simp; omega, by omega, (fun h => by simp [h0] at h), fun j x hj => ?_⟩
    rw [List.getElem?_drop] at hj
    obtain ⟨b', off', hb, hcell⟩ := hc _ x hj
    cases hb
    refine ⟨b, off + k, by simp [h0, addr_add], ?_⟩
    rw [Nat.add_assoc]; exact hcell

/-- The run of list[k:]. -/
theorem run_drop {b off n c k : Nat} (hk : k ≤ n) (w : World) : (Instr.slice 22 (.slice (some ⟨b, off, none⟩) n c) (some (.int .i64 k)) none none).run Try.prog w = .ok (sliced (some ⟨b, off, none⟩) k n c 1) w := by
  have hs : ∀ w, (sizeOf 3).run Try.prog w = .ok 1 w := fun w => by
    obtain ⟨i0, hi, _, hz1, _⟩ := info_parts Try.info3
    simp [sizeOf, typeInfo, hi, hz1]
  have he : Try.prog.elem 22 = 3 := by kernel_rfl
  rw [run_slice_l w _ _ _ _ (by rw [he]; exact Try.underlying22) .i64 _ (by omega) (by omega), he, hs]
  simp [Result.andThen]

/-- The run of list[:k]. -/
theorem run_take {b off n c k : Nat} (hk : k ≤ c) (w : World) : (Instr.slice 22 (.slice (some ⟨b, off, none⟩) n c) none (some (.int .i64 k)) none).run Try.prog w = .ok (.slice (some ⟨b, off, none⟩) k c) w := by
  have hs : ∀ w, (sizeOf 3).run Try.prog w = .ok 1 w := fun w => by
    obtain ⟨i0, hi, _, hz1, _⟩ := info_parts Try.info3
    simp [sizeOf, typeInfo, hi, hz1]
  have he : Try.prog.elem 22 = 3 := by kernel_rfl
  rw [run_slice_h w _ _ _ _ (by rw [he]; exact Try.underlying22) .i64 _ (by omega) (by omega), he, hs]
  simp [Result.andThen, sliced, Addr.add]

set_option maxRecDepth 100000 in
set_option maxHeartbeats 1000000 in
theorem less_any (fb : FuncId) (cp : Array Value) (v : Value) (xs : List Int) (budget : Int) (s : σ) (w : World) (hbad : Bad w.heap.size fb cp budget I step)
    (hv : RdI w v xs) (hl : xs.length ≤ 1048576) (hI : I (0, s) w) (hbu : budget ≤ 9223372036854775807) :
    Calls Try.prog 7 #[v, .int .i64 budget, .func (.func fb) #[] cp] w fun e w' =>
      ∃ v', e = .returned (.tuple #[v', .int .i64 (lessM step budget xs s).2.1]) ∧ OwI (w.heap.size + 3) w' v' (lessM step budget xs s).1 ∧ I (lessM step budget xs s).2 w' := by
  have hmf : ∀ (fn : Fn) (first cap : Array Value) (w : World), (Instr.makeFunc fn first cap).run Try.prog w = .ok (.func fn first cap) w := fun _ _ _ _ => rfl
  have hB3 : Below w.heap.size w (((w.alloc (.cells #[.int .i64 budget] 3)).alloc (.cells #[.func (.func fb) #[] cp] 27)).alloc (.cells #[.int .i64 0] 3)) :=
    (((Below.refl _ _).alloc (Nat.le_refl _) _).alloc (by simp) _).alloc (by simp; omega) _
  have hL : LW w.heap.size fb cp I budget (0, s) (((w.alloc (.cells #[.int .i64 budget] 3)).alloc (.cells #[.func (.func fb) #[] cp] 27)).alloc (.cells #[.int .i64 0] 3)) := by
    refine ⟨hbad.stable _ _ _ hI hB3, Int.le_refl _, ?_, World.frozen?_alloc_at _ _ _ _ (by simp), ?_, ?_, by simp⟩
    · rw [World.cell?_alloc_at _ _ _ _ (by simp)]; rfl
    · rw [World.cell?_alloc_past _ _ _ (by simp; omega), World.cell?_alloc_past _ _ _ (by simp), World.cell?_alloc_at _ _ _ _ rfl]; rfl
    · rw [World.cell?_alloc_past _ _ _ (by simp), World.cell?_alloc_at _ _ _ _ (by simp)]; rfl
  have hV := hv.below hB3
  have hsz : (((w.alloc (.cells #[.int .i64 budget] 3)).alloc (.cells #[.func (.func fb) #[] cp] 27)).alloc (.cells #[.int .i64 0] 3)).heap.size = w.heap.size + 3 := by simp
  have HL := Lib.hid hL
  have HV := Lib.hid hV
  have HS := Lib.hid hsz
  have HBad := Lib.hid hbad
  clear hL hV hsz hB3 hv hI
  clear hbad
  obtain ⟨R, hR⟩ : ∃ R, lessM step budget xs s = R := ⟨_, rfl⟩
  rw [hR]
  have HR := Lib.hid hR
  clear hR
  go_enter Try.func7, Try.ntmps7
  go_wp2_with fail
  refine (clone_any _ _ _ HV.out (by omega)).mono ?_
  rintro e w1 ⟨v1, rfl, ho, hb⟩
  have HL1 := Lib.hid (HL.out.below HBad.out hb)
  have HO := Lib.hid (ho.mono (Nat.le_of_eq HS.out.symm))
  clear ho hb HL HV HS
  obtain ⟨a1, len1, cap1, rfl, rfl, -⟩ := id HO.out.rd
  cases hT : (tryM step budget (0, s) xs).1
  · go_wp2_with (go_at_call 15; refine (try_lw _ fb cp budget HBad.out _ xs (0, s) _ HO.out hl HL1.out hbu).mono ?_; rintro e w2 ⟨rfl, hL2, hk2⟩)
    have a2 : w2.cell? ⟨w.heap.size + 1 + 1, 0, none⟩ = some (.int .i64 (tryM step budget (0, s) xs).2.1) := hL2.asked
    have hR : R = (xs, (tryM step budget (0, s) xs).2) := by rw [← HR.out]; unfold lessM; rw [if_neg (by simp [hT])]
    subst hR
    have HO2 := Lib.hid (hk2 _ _ HO.out)
    have HL2 := Lib.hid hL2
    clear hL2 hk2 hT
    go_quiet (fail)
    go_wp2
    go_ret2
    exact ⟨_, rfl, HO2.out, HBad.out.stable _ _ _ HL2.out.inv (below_drewN (Below.refl _ _) _)⟩
  · go_upto_region 6 with (go_at_call 15; refine (try_lw _ fb cp budget HBad.out _ xs (0, s) _ HO.out hl HL1.out hbu).mono ?_; rintro e w2 ⟨rfl, hL2, hk2⟩)
    have HR2 := Lib.hid (show R = outerM step budget (xs.length + max 1 (xs.length / 2)) (max 1 (xs.length / 2)) xs (tryM step budget (0, s) xs).2 by rw [← HR.out]; unfold lessM; rw [if_pos hT])
    have HO2 := Lib.hid (hk2 _ _ HO.out)
    have HL2 := Lib.hid hL2
    clear hL2 hk2 hT
    go_cut [10] (fun z wx => z = .int .i64 ((max 1 (xs.length / 2) : Nat) : Int) ∧ wx = w2)
    case first =>
      by_cases h2 : 2 ≤ xs.length
      · go_wp2
        all_goals (go_meet; exact ⟨by rw [Nat.max_eq_right (by omega)]; go_num, rfl⟩)
      · go_wp2
        all_goals (go_meet; exact ⟨by rw [Nat.max_eq_left (by omega)]; go_num, rfl⟩)
    case rest =>
      obtain ⟨rfl, rfl⟩ := hcut
      have hx2 : xs.length / 2 ≤ xs.length := Nat.div_le_self _ _
      generalize hm0 : max 1 (xs.length / 2) = m0
      have hm1 : 1 ≤ m0 := by omega
      have hm2 : m0 ≤ 1048576 := by omega
      rw [hm0] at HR2
      clear hm0
      go_wp2
      go_loopw [0, 10] (fun v z wr => ∃ (ys : List Int) (sz f : Nat) (st : Int × σ) (a : Option Addr) (cap : Nat), v = .slice a ys.length cap ∧ z = .int .i64 sz ∧ OwI (w.heap.size + 3) wr v ys ∧ 1 ≤ sz ∧ sz ≤ 1048576 ∧ ys.length ≤ 1048576 ∧ LW w.heap.size fb cp I budget st wr ∧ R = outerM step budget f sz ys st ∧ ys.length + sz ≤ f)
        (fun v z _ => lenV v + (intOf z).toNat)
      case atStart => exact ⟨xs, m0, _, _, a1, cap1, rfl, rfl, HO2.out, hm1, hm2, hl, HL2.out, HR2.out, Nat.le_refl _⟩
      case round =>
        obtain ⟨ys, sz, f, st, a, cap, rfl, rfl, ho, h1, h2, h3, hL, hR, hf⟩ := hrel
        have HO := Lib.hid ho
        have HL := Lib.hid hL
        have HR := Lib.hid hR
        clear ho hL hR
        obtain ⟨wo, rfl⟩ : ∃ wo : World, wo = wr := ⟨_, rfl⟩
        obtain ⟨p, hp⟩ : ∃ p, passM step budget sz ys.length ys false 0 st = p := ⟨_, rfl⟩
        have HP := Lib.hid hp
        clear hp
        go_wp2
        go_loopw [0, 11, 12] (fun v g i wr => ∃ (zs : List Int) (gb : Bool) (k f : Nat) (st : Int × σ) (a : Option Addr) (cap : Nat), v = .slice a zs.length cap ∧ g = .bool gb ∧ i = .int .i64 k ∧ OwI (w.heap.size + 3) wr v zs ∧ zs.length ≤ ys.length ∧ k ≤ 2097152 ∧ LW w.heap.size fb cp I budget st wr ∧ passM step budget sz f zs gb k st = p ∧ zs.length - k ≤ f)
          (fun v _ i _ => lenV v - (intOf i).toNat)
        case atStart => exact ⟨ys, false, 0, _, _, a, cap, rfl, rfl, rfl, HO.out, Nat.le_refl _, by omega, HL.out, HP.out, Nat.le_refl _⟩
        case round =>
          obtain ⟨zs, gb, k, f', st', a', cap', rfl, rfl, rfl, ho, g1, g2, hL, hq, hf'⟩ := hrel
          by_cases hlt : k < zs.length
          · obtain ⟨g, hcap, rfl⟩ : ∃ g, zs.length ≤ cap' ∧ a' = some ⟨g, 0, none⟩ := by
              rcases ho.2 with ⟨e, e0⟩ | ⟨g, cp', cur, e, _, _, hn, _⟩
              · rw [e0] at hlt; omega
              · cases e; exact ⟨g, hn, rfl⟩
            have HO' := Lib.hid ho
            have HL' := Lib.hid hL
            have HQ := Lib.hid hq
            clear ho hL hq
            go_upto_region 10 with fail
            go_cut [13] (fun r wx => OwI (w.heap.size + 3) wx r (cutM zs k sz) ∧ LW w.heap.size fb cp I budget st' wx ∧ Keeps w.heap.size wr wx)
            case first =>
              by_cases hk : k + sz ≤ zs.length
              · have hdr : ∀ w, (Instr.slice 22 (.slice (some ⟨g, 0, none⟩) zs.length cap') (some (.int .i64 ((k : Int) + (sz : Int)))) none none).run Try.prog w = .ok (sliced (some ⟨g, 0, none⟩) (k + sz) zs.length cap' 1) w := fun w => by
                  have := run_drop (b := g) (off := 0) (c := cap') hk w
                  rwa [Int.natCast_add] at this
                have htk : ∀ w, (Instr.slice 22 (.slice (some ⟨g, 0, none⟩) zs.length cap') none (some (.int .i64 k)) none).run Try.prog w = .ok (.slice (some ⟨g, 0, none⟩) k cap') w := run_take (by omega)
                obtain ⟨aB, nB, cB, hVB⟩ : ∃ aB nB cB, sliced (some ⟨g, 0, none⟩) (k + sz) zs.length cap' 1 = .slice aB nB cB := ⟨_, _, _, rfl⟩
                rw [hVB] at hdr
                have HVB := Lib.hid hVB
                clear hVB
                have hw1 : IntKind.i64.wrap ((k : Int) + (sz : Int)) = (k : Int) + (sz : Int) := IntWalk.i64_in _ (by omega)
                have hw2 : ¬ ((zs.length : Int) < (k : Int) + (sz : Int)) := by omega
                have HD := Lib.hid (HO'.out.rd.dropS (k + sz) hk)
                have hcut : zs.drop (k + sz) = zs.drop (min (k + sz) zs.length) := by rw [Nat.min_eq_left hk]
                rw [HVB.out, hcut] at HD
                clear hcut
                go_still_tail 11, (by kernel_rfl)
                change wpList _ _ _ _ _ wr.drew
                go_wp2_with fail
                refine (concat_any _ _ _ (zs.take k) (zs.drop (min (k + sz) zs.length)) _ ((HO'.out.rd.takeS k (by omega)).below ?ca) (HD.out.below ?ca) (by simp; omega) ?cb ?cc).mono ?cd
                case ca => exact ((Below.refl _ _).drew).alloc (Nat.le_refl _) _
                case cb => exact (World.cell?_alloc_at _ _ _ _ rfl).trans rfl
                case cc => exact (World.cell?_alloc_at _ _ _ _ rfl).trans rfl
                case cd =>
                  rintro e w3 ⟨v3, rfl, ho3, hb3⟩
                  have hb4 : Below wr.heap.size wr w3 := (((Below.refl wr.heap.size wr).drew).alloc (Nat.le_refl _) _).trans (hb3.mono (by simp))
                  have hs4 := HL'.out.size
                  have ho4 : OwI (w.heap.size + 3) w3 v3 (cutM zs k sz) := ho3.mono (by simp; omega)
                  go_wp2
                  go_meet
                  exact ⟨ho4, HL'.out.below HBad.out hb4, Below.keeps hb4⟩
              · have hdr : ∀ w, (Instr.slice 22 (.slice (some ⟨g, 0, none⟩) zs.length cap') (some (.int .i64 (zs.length : Int))) none none).run Try.prog w = .ok (sliced (some ⟨g, 0, none⟩) zs.length zs.length cap' 1) w := fun w => run_drop (b := g) (off := 0) (c := cap') (Nat.le_refl _) w
                have htk : ∀ w, (Instr.slice 22 (.slice (some ⟨g, 0, none⟩) zs.length cap') none (some (.int .i64 k)) none).run Try.prog w = .ok (.slice (some ⟨g, 0, none⟩) k cap') w := run_take (by omega)
                obtain ⟨aB, nB, cB, hVB⟩ : ∃ aB nB cB, sliced (some ⟨g, 0, none⟩) zs.length zs.length cap' 1 = .slice aB nB cB := ⟨_, _, _, rfl⟩
                rw [hVB] at hdr
                have HVB := Lib.hid hVB
                clear hVB
                have hw1 : IntKind.i64.wrap ((k : Int) + (sz : Int)) = (k : Int) + (sz : Int) := IntWalk.i64_in _ (by omega)
                have hw2 : (zs.length : Int) < (k : Int) + (sz : Int) := by omega
                have HD := Lib.hid (HO'.out.rd.dropS zs.length (Nat.le_refl _))
                have hcut : zs.drop zs.length = zs.drop (min (k + sz) zs.length) := by rw [Nat.min_eq_right (by omega)]
                rw [HVB.out, hcut] at HD
                clear hcut
                go_still_tail 11, (by kernel_rfl)
                change wpList _ _ _ _ _ wr.drew
                go_wp2_with fail
                refine (concat_any _ _ _ (zs.take k) (zs.drop (min (k + sz) zs.length)) _ ((HO'.out.rd.takeS k (by omega)).below ?ca2) (HD.out.below ?ca2) (by simp; omega) ?cb2 ?cc2).mono ?cd2
                case ca2 => exact ((Below.refl _ _).drew).alloc (Nat.le_refl _) _
                case cb2 => exact (World.cell?_alloc_at _ _ _ _ rfl).trans rfl
                case cc2 => exact (World.cell?_alloc_at _ _ _ _ rfl).trans rfl
                case cd2 =>
                  rintro e w3 ⟨v3, rfl, ho3, hb3⟩
                  have hb4 : Below wr.heap.size wr w3 := (((Below.refl wr.heap.size wr).drew).alloc (Nat.le_refl _) _).trans (hb3.mono (by simp))
                  have hs4 := HL'.out.size
                  have ho4 : OwI (w.heap.size + 3) w3 v3 (cutM zs k sz) := ho3.mono (by simp; omega)
                  go_wp2
                  go_meet
                  exact ⟨ho4, HL'.out.below HBad.out hb4, Below.keeps hb4⟩
            case rest =>
              obtain ⟨ho3, hL3, hk3⟩ := hcut
              have HO3 := Lib.hid ho3
              have HL3 := Lib.hid hL3
              have HK3 := Lib.hid hk3
              have hcl := cutM_length zs k sz
              have hll : (cutM zs k sz).length ≤ 1048576 := by omega
              have hll2 : (cutM zs k sz).length < zs.length := by omega
              clear ho3 hL3 hk3 hcl
              obtain ⟨a3, l3, c3, rfl, rfl, -⟩ := id HO3.out.rd
              cases hT : (tryM step budget st' (cutM zs k sz)).1
              · obtain ⟨f3, e1, e2⟩ := passM_miss (g := gb) step budget hlt hf' hT
                have E1 := Lib.hid e1
                clear e1
                go_wp2_with (go_at_call 15; refine (try_lw _ fb cp budget HBad.out _ (cutM zs k sz) st' _ HO3.out hll HL3.out hbu).mono ?_; rintro e w4 ⟨rfl, hL4, hk4⟩)
                go_roundw
                case rel => exact ⟨zs, gb, k + sz, f3, _, _, cap', rfl, rfl, by go_num, hk4 _ _ (HK3.out _ _ HO'.out), g1, by omega, hL4, E1.out.symm.trans HQ.out, by omega⟩
                case measure => simp [intOf, lenV]; omega
              · obtain ⟨f3, e1, e2⟩ := passM_hit (g := gb) step budget hlt hf' hT
                have E1 := Lib.hid e1
                clear e1
                go_wp2_with (go_at_call 15; refine (try_lw _ fb cp budget HBad.out _ (cutM zs k sz) st' _ HO3.out hll HL3.out hbu).mono ?_; rintro e w4 ⟨rfl, hL4, hk4⟩)
                go_roundw
                case rel => exact ⟨cutM zs k sz, true, k, f3, _, _, c3, rfl, rfl, rfl, hk4 _ _ HO3.out, by omega, by omega, hL4, E1.out.symm.trans HQ.out, by omega⟩
                case measure => simp [intOf, lenV]; omega
          · have hpe : p = (zs, gb, st') := by rw [← hq]; exact passM_done _ _ _ _ _ _ _ _ (by omega)
            subst hpe
            clear hq hf'
            have a2 : wr.cell? ⟨w.heap.size + 1 + 1, 0, none⟩ = some (.int .i64 st'.1) := hL.asked
            have b0 : wr.cell? ⟨w.heap.size, 0, none⟩ = some (.int .i64 budget) := hL.bud
            have HO' := Lib.hid ho
            have HL' := Lib.hid hL
            clear ho hL
            by_cases hb : budget ≤ st'.1
            · obtain rfl : R = (zs, st') := by rw [HR.out]; exact outerM_end step budget HP.out h1 hf (.inl hb)
              go_wp2
              go_quiet (fail)
              go_wp2
              go_ret2
              exact ⟨_, rfl, HO'.out, HBad.out.stable _ _ _ HL'.out.inv (below_drewN (Below.refl _ _) _)⟩
            · by_cases hs : sz = 1
              · subst hs
                cases gb
                · obtain rfl : R = (zs, st') := by rw [HR.out]; exact outerM_end step budget HP.out h1 hf (.inr ⟨rfl, rfl⟩)
                  go_wp2
                  go_quiet (fail)
                  go_wp2
                  go_ret2
                  exact ⟨_, rfl, HO'.out, HBad.out.stable _ _ _ HL'.out.inv (below_drewN (Below.refl _ _) _)⟩
                · obtain ⟨f2, e1, e2, e3⟩ := outerM_on step budget HP.out h1 hf hb (.inr rfl)
                  have E1 := Lib.hid e1
                  clear e1
                  go_wp2
                  go_roundw
                  case rel => exact ⟨zs, 1, f2, st', a', cap', rfl, rfl, HO'.out, by omega, by omega, by omega, HL'.out, HR.out.trans E1.out, e3⟩
                  case measure => simp [intOf, lenV] at e2 ⊢; omega
              · obtain ⟨f2, e1, e2, e3⟩ := outerM_on step budget HP.out h1 hf hb (.inl (by omega))
                rw [if_pos (by omega)] at e1 e2 e3
                have E1 := Lib.hid e1
                clear e1
                have hs1 : ((sz : Int) == 1) = false := by simp; omega
                have hs2 : (1 : Int) < (sz : Int) := by omega
                go_wp2
                go_roundw
                case rel => exact ⟨zs, sz / 2, f2, st', a', cap', rfl, by go_num, HO'.out, by omega, by omega, by omega, HL'.out, HR.out.trans E1.out, e3⟩
                case measure => simp [intOf, lenV] at e2 ⊢; omega
end Go.Proofs.Ytkobpjndkgjcjaa
