/- Texts of one proof, one behind the other: SoPart, SoLay, SoBrk, SoPdq, SoTop. -/
import Derived.Test.YtjpmimanigjjoaaJo11
import Derived.Shelf.SlSortCmp.Insertion
import Derived.Shelf.SlGeneric
import Derived.Shelf.SlLaysF
import Derived.Test.YtjpmimanigjjoaaProg
import Derived.Test.YtjpmimanigjjoaaJo10
import Derived.Shelf.SlSortCmp.BreakPatterns1
import Derived.Sort.LotD1
import Derived.Sort.Walk13
set_option linter.all false
/- slices.partitionCmpFunc at ints, the comparison known at permutations. -/
namespace Go.Proofs.Ytjpmimanigjjoaa
open Go.RowKit Go.Maps Go.Sort
attribute [local go_sem] Oper.semAt_some

theorem pt_end {lt : Int → Int → Bool} {d : Array Int} {a b pv i2 j2 : Nat} (h1 : scanUp (fun x => lt x (Sort.swp d a pv)[a]!) (Sort.swp d a pv) (b - 1) (a + 1) = i2) (h2 : scanDown (fun x => !lt x (Sort.swp d a pv)[a]!) (Sort.swp d a pv) i2 (b - 1) = j2) (h : j2 < i2) :
    Sort.partition lt d a b pv = (j2, true, Sort.swp (Sort.swp d a pv) j2 a) := by
  unfold Sort.partition
  simp only [h1, h2]
  rw [if_pos h]
theorem pt_go {lt : Int → Int → Bool} {d : Array Int} {a b pv i2 j2 : Nat} (h1 : scanUp (fun x => lt x (Sort.swp d a pv)[a]!) (Sort.swp d a pv) (b - 1) (a + 1) = i2) (h2 : scanDown (fun x => !lt x (Sort.swp d a pv)[a]!) (Sort.swp d a pv) i2 (b - 1) = j2) (h : ¬ j2 < i2) :
    Sort.partition lt d a b pv = ((partLoop lt a (i2 + 1) (j2 - 1) (Sort.swp (Sort.swp d a pv) i2 j2)).1, false, Sort.swp (partLoop lt a (i2 + 1) (j2 - 1) (Sort.swp (Sort.swp d a pv) i2 j2)).2 (partLoop lt a (i2 + 1) (j2 - 1) (Sort.swp (Sort.swp d a pv) i2 j2)).1 a) := by
  unfold Sort.partition
  simp only [h1, h2]
  rw [if_neg h]

set_option maxHeartbeats 32000000 in
set_option maxRecDepth 100000 in
theorem soPart_call (cf : Int → Int → Int) (g : FuncId) (cb : Array Value) (blk off cap a b pv : Nat) (d0 d : Array Int) (w0 w : World)
    (eg : ∀ args w, (callFunc g args).run Try.prog w = .ok (.enter g args) w) (hC : CmpP g cb cf blk off d0 w0) (R : Row1 vi w0 blk off d0) (hS : SoW w0 blk off d0 d w) (hap : a ≤ pv) (hpb : pv < b) (hb : b ≤ d0.size) (hsz : d0.size < 4611686018427387904) :
    Calls Try.prog 75 #[.slice (some ⟨blk, off, none⟩) d0.size cap, vi a, vi b, vi pv, .func (.func g) #[] cb] w fun e w' =>
      e = .returned (.tuple #[vi (Sort.partition (ltOf cf) d a b pv).1, .bool (Sort.partition (ltOf cf) d a b pv).2.1]) ∧ SoW w0 blk off d0 (Sort.partition (ltOf cf) d a b pv).2.2 w' := by
  have HC := Lib.hid hC
  have HS := Lib.hid hS
  have mixed : Try.prog.follows .mixedOrders = true := by kernel_rfl
  clear hC hS
  obtain ⟨RR, hRR⟩ : ∃ r, Sort.partition (ltOf cf) d a b pv = r := ⟨_, rfl⟩
  rw [hRR]
  obtain ⟨D1, hD1⟩ : ∃ x, Sort.swp d a pv = x := ⟨_, rfl⟩
  obtain ⟨a1, ha1⟩ : ∃ x, a + 1 = x := ⟨_, rfl⟩
  obtain ⟨b1, hb1⟩ : ∃ x, b - 1 = x := ⟨_, rfl⟩
  have HP1 := Lib.hid (show ∀ i2 j2, scanUp (fun x => (ltOf cf) x D1[a]!) D1 b1 a1 = i2 → scanDown (fun x => !(ltOf cf) x D1[a]!) D1 i2 b1 = j2 → j2 < i2 → RR = (j2, true, Sort.swp D1 j2 a) from by
    rw [← hD1, ← ha1, ← hb1, ← hRR]; exact fun _ _ h1 h2 h => pt_end h1 h2 h)
  have HP2 := Lib.hid (show ∀ i2 j2, scanUp (fun x => (ltOf cf) x D1[a]!) D1 b1 a1 = i2 → scanDown (fun x => !(ltOf cf) x D1[a]!) D1 i2 b1 = j2 → ¬ j2 < i2 → ∃ r, partLoop (ltOf cf) a (i2 + 1) (j2 - 1) (Sort.swp D1 i2 j2) = r ∧ RR = (r.1, false, Sort.swp r.2 r.1 a) from by
    rw [← hD1, ← ha1, ← hb1, ← hRR]; exact fun _ _ h1 h2 h => ⟨_, rfl, pt_go h1 h2 h⟩)
  have wa1 : IntKind.i64.wrap ((a : Int) + 1) = (a1 : Int) := by rw [IntWalk.i64_in _ (by omega)]; omega
  have wb1 : IntKind.i64.wrap ((b : Int) - 1) = (b1 : Int) := by rw [IntWalk.i64_in _ (by omega)]; omega
  have ba : (a : Int) < (d0.size : Int) := by omega
  have bp : (pv : Int) < (d0.size : Int) := by omega
  clear hRR
  go_enter Try.func75, Try.ntmps75
  go_upto_region 1 with fail
  have HS3 := Lib.hid (HS.out.swp R (i := a) (j := pv) (by omega) (by omega))
  have ca := HS.out.c1 R (i := a) (by omega)
  have cb2 := HS.out.c1 R (i := pv) (by omega)
  have fa := HS.out.f1 R (i := a) (by omega)
  have fb := HS.out.f1 R (i := pv) (by omega)
  obtain ⟨ux, hux⟩ : ∃ x, x = d[a]! := ⟨_, rfl⟩
  obtain ⟨uy, huy⟩ : ∃ y, y = d[pv]! := ⟨_, rfl⟩
  obtain ⟨u2, cc⟩ := HS.out.c2 R (i := a) (j := pv) (by omega) (by omega) (vi uy)
  rw [← hux] at ca HS3
  rw [← huy] at cb2 HS3
  clear hux huy
  go_wp2_with fail
  go_big_region_o
  clear ca cb2 fa fb cc
  generalize ((w.setCell ⟨blk, off + a, none⟩ (vi uy)).setCell ⟨blk, off + pv, none⟩ (vi ux)).drew = w3 at HS3 ⊢
  rw [hD1] at HS3
  clear hD1
  go_wp2_with fail
  go_loopw [12] (fun u wr => ∃ i' : Nat, a1 ≤ i' ∧ i' ≤ b1 + 2 ∧ u = vi i' ∧ Hid (SoW w0 blk off d0 D1 wr ∧ scanUp (fun x => (ltOf cf) x D1[a]!) D1 b1 i' = scanUp (fun x => (ltOf cf) x D1[a]!) D1 b1 a1)) (fun u _ => b1 + 2 - (intOf u).toNat)
  case atStart => exact ⟨a1, Nat.le_refl _, by omega, rfl, Lib.hid ⟨HS3.out, rfl⟩⟩
  case round =>
    clear HS3
    obtain ⟨wi1, rfl⟩ : ∃ wi : World, wi = wr := ⟨_, rfl⟩
    obtain ⟨x1, hax1, hbx1, rfl, HJ⟩ := hrel
    have HA1 := Lib.hid HJ.out.2
    have SA1 := Lib.hid HJ.out.1
    clear HJ
    by_cases hle : x1 ≤ b1
    · have k1 : decide ((x1 : Int) ≤ (b1 : Int)) = true := decide_eq_true (by omega)
      have k2 : (x1 : Int) ≤ (b1 : Int) := by omega
      have bi1 : (x1 : Int) < (d0.size : Int) := by omega
      cases hlv : (ltOf cf) D1[x1]! D1[a]! with
      | true =>
        have HN := Lib.hid (scanUp_go (p := (fun x => (ltOf cf) x D1[a]!)) (d := D1) (j := b1) (i := x1) hle (by simp [hlv]))
        obtain ⟨z2, hx3⟩ : ∃ x, x1 + 1 = x := ⟨_, rfl⟩
        rw [hx3] at HN
        have wz2 : IntKind.i64.wrap ((x1 : Int) + 1) = (z2 : Int) := by rw [IntWalk.i64_in _ (by omega)]; omega
        obtain ⟨x, hx⟩ : ∃ x, x = D1[x1]! := ⟨_, rfl⟩
        obtain ⟨y, hy⟩ : ∃ y, y = D1[a]! := ⟨_, rfl⟩
        have la := SA1.out.cl R (i := x1) (by omega)
        have lb := SA1.out.cl R (i := a) (by omega)
        rw [← hx] at la
        rw [← hy] at lb
        have hc := SA1.out.cmp HC.out x y (by rw [hx]; exact SA1.out.mem (by omega)) (by rw [hy]; exact SA1.out.mem (by omega))
        have hd : decide (cf x y < 0) = true := by rw [hx, hy]; exact hlv
        have hv : cf x y < 0 := of_decide_eq_true hd
        clear hx hy
        go_wp2_with fail
        go_quiet_grown (first | (go_at_fn g; refine Calls.grown_of (hc _ _)))
        have SA12 := Lib.hid (SA1.out.grown nq osq)
        clear la lb hc hd hv
        generalize grow (wi1.drewN nq) osq = w4 at SA12 ⊢
        clear nq osq
        go_wp2_with fail
        exact ⟨⟨z2, by omega, by omega, rfl, Lib.hid ⟨SA12.out, by rw [← HA1.out, HN.out]⟩⟩, by simp only [intOf]; omega⟩
      | false =>
        have HU1 := Lib.hid (show scanUp (fun x => (ltOf cf) x D1[a]!) D1 b1 a1 = x1 from by rw [← HA1.out]; exact scanUp_stop (Or.inr (by simp [hlv])))
        obtain ⟨x, hx⟩ : ∃ x, x = D1[x1]! := ⟨_, rfl⟩
        obtain ⟨y, hy⟩ : ∃ y, y = D1[a]! := ⟨_, rfl⟩
        have la := SA1.out.cl R (i := x1) (by omega)
        have lb := SA1.out.cl R (i := a) (by omega)
        rw [← hx] at la
        rw [← hy] at lb
        have hc := SA1.out.cmp HC.out x y (by rw [hx]; exact SA1.out.mem (by omega)) (by rw [hy]; exact SA1.out.mem (by omega))
        have hd : decide (cf x y < 0) = false := by rw [hx, hy]; exact hlv
        have hv : ¬ cf x y < 0 := of_decide_eq_false hd
        clear hx hy
        go_wp2_with fail
        go_quiet_grown (first | (go_at_fn g; refine Calls.grown_of (hc _ _)))
        have SA12 := Lib.hid (SA1.out.grown nq osq)
        clear la lb hc hd hv
        generalize grow (wi1.drewN nq) osq = w41 at SA12 ⊢
        clear nq osq
        go_wp2_with fail
        go_loopw [13] (fun u wr => ∃ j' : Nat, j' ≤ b1 ∧ x1 ≤ j' + 2 ∧ u = vi j' ∧ Hid (SoW w0 blk off d0 D1 wr ∧ scanDown (fun x => !(ltOf cf) x D1[a]!) D1 x1 j' = scanDown (fun x => !(ltOf cf) x D1[a]!) D1 x1 b1)) (fun u _ => (intOf u).toNat)
        case atStart => exact ⟨b1, Nat.le_refl _, hbx1, rfl, Lib.hid ⟨SA12.out, rfl⟩⟩
        case round =>
          clear SA12
          obtain ⟨wq1, rfl⟩ : ∃ wq : World, wq = wr := ⟨_, rfl⟩
          obtain ⟨y1, hay1, hby1, rfl, HJ⟩ := hrel
          have HB1 := Lib.hid HJ.out.2
          have SB1 := Lib.hid HJ.out.1
          clear HJ
          by_cases hle2 : x1 ≤ y1
          · have l1 : decide ((x1 : Int) ≤ (y1 : Int)) = true := decide_eq_true (by omega)
            have l2 : (x1 : Int) ≤ (y1 : Int) := by omega
            have bj1 : (y1 : Int) < (d0.size : Int) := by omega
            cases hlv : (ltOf cf) D1[y1]! D1[a]! with
            | false =>
              have HN := Lib.hid (scanDown_go (p := (fun x => !(ltOf cf) x D1[a]!)) (d := D1) (i := x1) (j := y1) (by omega) hle2 (by simp [hlv]))
              obtain ⟨z2, hy3⟩ : ∃ x, y1 - 1 = x := ⟨_, rfl⟩
              rw [hy3] at HN
              have wz2 : IntKind.i64.wrap ((y1 : Int) - 1) = (z2 : Int) := by rw [IntWalk.i64_in _ (by omega)]; omega
              obtain ⟨x, hx⟩ : ∃ x, x = D1[y1]! := ⟨_, rfl⟩
              obtain ⟨y, hy⟩ : ∃ y, y = D1[a]! := ⟨_, rfl⟩
              have la := SB1.out.cl R (i := y1) (by omega)
              have lb := SB1.out.cl R (i := a) (by omega)
              rw [← hx] at la
              rw [← hy] at lb
              have hc := SB1.out.cmp HC.out x y (by rw [hx]; exact SB1.out.mem (by omega)) (by rw [hy]; exact SB1.out.mem (by omega))
              have hd : decide (cf x y < 0) = false := by rw [hx, hy]; exact hlv
              have hv : ¬ cf x y < 0 := of_decide_eq_false hd
              clear hx hy
              go_wp2_with fail
              go_quiet_grown (first | (go_at_fn g; refine Calls.grown_of (hc _ _)))
              have SB12 := Lib.hid (SB1.out.grown nq osq)
              clear la lb hc hd hv
              generalize grow (wq1.drewN nq) osq = w5 at SB12 ⊢
              clear nq osq
              go_wp2_with fail
              exact ⟨⟨z2, by omega, by omega, rfl, Lib.hid ⟨SB12.out, by rw [← HB1.out, HN.out]⟩⟩, by simp only [intOf]; omega⟩
            | true =>
              have HD1 := Lib.hid (show scanDown (fun x => !(ltOf cf) x D1[a]!) D1 x1 b1 = y1 from by rw [← HB1.out]; exact scanDown_stop (Or.inr (by simp [hlv])))
              obtain ⟨x, hx⟩ : ∃ x, x = D1[y1]! := ⟨_, rfl⟩
              obtain ⟨y, hy⟩ : ∃ y, y = D1[a]! := ⟨_, rfl⟩
              have la := SB1.out.cl R (i := y1) (by omega)
              have lb := SB1.out.cl R (i := a) (by omega)
              rw [← hx] at la
              rw [← hy] at lb
              have hc := SB1.out.cmp HC.out x y (by rw [hx]; exact SB1.out.mem (by omega)) (by rw [hy]; exact SB1.out.mem (by omega))
              have hd : decide (cf x y < 0) = true := by rw [hx, hy]; exact hlv
              have hv : cf x y < 0 := of_decide_eq_true hd
              clear hx hy
              go_wp2_with fail
              go_quiet_grown (first | (go_at_fn g; refine Calls.grown_of (hc _ _)))
              have SB12 := Lib.hid (SB1.out.grown nq osq)
              clear la lb hc hd hv
              generalize grow (wq1.drewN nq) osq = w51 at SB12 ⊢
              clear nq osq
              have hgt : ¬ y1 < x1 := by omega
              have g1 : decide ((y1 : Int) < (x1 : Int)) = false := decide_eq_false (by omega)
              have g2 : ¬ (y1 : Int) < (x1 : Int) := by omega
              obtain ⟨PR, hPR, hRP⟩ := HP2.out _ _ HU1.out HD1.out hgt
              have HR2 := Lib.hid hRP
              clear hRP HP1 HP2
              obtain ⟨x3, hx3⟩ : ∃ x, x1 + 1 = x := ⟨_, rfl⟩
              obtain ⟨y3, hy3⟩ : ∃ x, y1 - 1 = x := ⟨_, rfl⟩
              rw [hx3, hy3] at hPR
              have HO0 := Lib.hid hPR
              clear hPR
              have wx3 : IntKind.i64.wrap ((x1 : Int) + 1) = (x3 : Int) := by rw [IntWalk.i64_in _ (by omega)]; omega
              have wy3 : IntKind.i64.wrap ((y1 : Int) - 1) = (y3 : Int) := by rw [IntWalk.i64_in _ (by omega)]; omega
              go_wp2_with fail
              have SB123 := Lib.hid (SB12.out.swp R (i := x1) (j := y1) (by omega) (by omega))
              have ca := SB12.out.c1 R (i := x1) (by omega)
              have cb2 := SB12.out.c1 R (i := y1) (by omega)
              have fa := SB12.out.f1 R (i := x1) (by omega)
              have fb := SB12.out.f1 R (i := y1) (by omega)
              obtain ⟨ux, hux⟩ : ∃ x, x = D1[x1]! := ⟨_, rfl⟩
              obtain ⟨uy, huy⟩ : ∃ y, y = D1[y1]! := ⟨_, rfl⟩
              obtain ⟨u2, cc⟩ := SB12.out.c2 R (i := x1) (j := y1) (by omega) (by omega) (vi uy)
              rw [← hux] at ca SB123
              rw [← huy] at cb2 SB123
              clear hux huy
              go_wp2_with fail
              go_big_region_o
              clear ca cb2 fa fb cc
              generalize ((w51.setCell ⟨blk, off + x1, none⟩ (vi uy)).setCell ⟨blk, off + y1, none⟩ (vi ux)).drew = w6 at SB123 ⊢
              go_wp2_with fail
              go_loopw [12, 13] (fun u v wr => ∃ (i j : Nat) (dk : Array Int), a < i ∧ i ≤ b ∧ j < b ∧ i ≤ j + 2 ∧ u = vi i ∧ v = vi j ∧ Hid (SoW w0 blk off d0 dk wr ∧ partLoop (ltOf cf) a i j dk = PR)) (fun u v _ => (intOf v).toNat + 2 + b - (intOf u).toNat)
              case atStart => exact ⟨x3, y3, _, by omega, by omega, by omega, by omega, rfl, rfl, Lib.hid ⟨SB123.out, HO0.out⟩⟩
              case round =>
                clear SB123 HO0 HU1 HD1
                obtain ⟨wj, rfl⟩ : ∃ wj : World, wj = wr := ⟨_, rfl⟩
                obtain ⟨i, j, dk, hai, hib, hjb, hij, rfl, rfl, HJ⟩ := hrel
                have HO := Lib.hid HJ.out.2
                have S0 := Lib.hid HJ.out.1
                clear HJ
                go_wp2_with fail
                go_loopw [12] (fun u wr => ∃ i' : Nat, i ≤ i' ∧ i' ≤ j + 2 ∧ u = vi i' ∧ Hid (SoW w0 blk off d0 dk wr ∧ scanUp (fun x => (ltOf cf) x dk[a]!) dk j i' = scanUp (fun x => (ltOf cf) x dk[a]!) dk j i)) (fun u _ => j + 2 - (intOf u).toNat)
                case atStart => exact ⟨i, Nat.le_refl _, by omega, rfl, Lib.hid ⟨S0.out, rfl⟩⟩
                case round =>
                  clear S0
                  obtain ⟨wi2, rfl⟩ : ∃ wi : World, wi = wr := ⟨_, rfl⟩
                  obtain ⟨x2, hax2, hbx2, rfl, HJ⟩ := hrel
                  have HA2 := Lib.hid HJ.out.2
                  have SA2 := Lib.hid HJ.out.1
                  clear HJ
                  by_cases hle : x2 ≤ j
                  · have k1 : decide ((x2 : Int) ≤ (j : Int)) = true := decide_eq_true (by omega)
                    have k2 : (x2 : Int) ≤ (j : Int) := by omega
                    have bi2 : (x2 : Int) < (d0.size : Int) := by omega
                    cases hlv : (ltOf cf) dk[x2]! dk[a]! with
                    | true =>
                      have HN := Lib.hid (scanUp_go (p := (fun x => (ltOf cf) x dk[a]!)) (d := dk) (j := j) (i := x2) hle (by simp [hlv]))
                      obtain ⟨z2, hx3⟩ : ∃ x, x2 + 1 = x := ⟨_, rfl⟩
                      rw [hx3] at HN
                      have wz2 : IntKind.i64.wrap ((x2 : Int) + 1) = (z2 : Int) := by rw [IntWalk.i64_in _ (by omega)]; omega
                      obtain ⟨x, hx⟩ : ∃ x, x = dk[x2]! := ⟨_, rfl⟩
                      obtain ⟨y, hy⟩ : ∃ y, y = dk[a]! := ⟨_, rfl⟩
                      have la := SA2.out.cl R (i := x2) (by omega)
                      have lb := SA2.out.cl R (i := a) (by omega)
                      rw [← hx] at la
                      rw [← hy] at lb
                      have hc := SA2.out.cmp HC.out x y (by rw [hx]; exact SA2.out.mem (by omega)) (by rw [hy]; exact SA2.out.mem (by omega))
                      have hd : decide (cf x y < 0) = true := by rw [hx, hy]; exact hlv
                      have hv : cf x y < 0 := of_decide_eq_true hd
                      clear hx hy
                      go_wp2_with fail
                      go_quiet_grown (first | (go_at_fn g; refine Calls.grown_of (hc _ _)))
                      have SA22 := Lib.hid (SA2.out.grown nq osq)
                      clear la lb hc hd hv
                      generalize grow (wi2.drewN nq) osq = w4 at SA22 ⊢
                      clear nq osq
                      go_wp2_with fail
                      exact ⟨⟨z2, by omega, by omega, rfl, Lib.hid ⟨SA22.out, by rw [← HA2.out, HN.out]⟩⟩, by simp only [intOf]; omega⟩
                    | false =>
                      have HU2 := Lib.hid (show scanUp (fun x => (ltOf cf) x dk[a]!) dk j i = x2 from by rw [← HA2.out]; exact scanUp_stop (Or.inr (by simp [hlv])))
                      obtain ⟨x, hx⟩ : ∃ x, x = dk[x2]! := ⟨_, rfl⟩
                      obtain ⟨y, hy⟩ : ∃ y, y = dk[a]! := ⟨_, rfl⟩
                      have la := SA2.out.cl R (i := x2) (by omega)
                      have lb := SA2.out.cl R (i := a) (by omega)
                      rw [← hx] at la
                      rw [← hy] at lb
                      have hc := SA2.out.cmp HC.out x y (by rw [hx]; exact SA2.out.mem (by omega)) (by rw [hy]; exact SA2.out.mem (by omega))
                      have hd : decide (cf x y < 0) = false := by rw [hx, hy]; exact hlv
                      have hv : ¬ cf x y < 0 := of_decide_eq_false hd
                      clear hx hy
                      go_wp2_with fail
                      go_quiet_grown (first | (go_at_fn g; refine Calls.grown_of (hc _ _)))
                      have SA22 := Lib.hid (SA2.out.grown nq osq)
                      clear la lb hc hd hv
                      generalize grow (wi2.drewN nq) osq = w42 at SA22 ⊢
                      clear nq osq
                      go_wp2_with fail
                      go_loopw [13] (fun u wr => ∃ j' : Nat, j' ≤ j ∧ x2 ≤ j' + 2 ∧ u = vi j' ∧ Hid (SoW w0 blk off d0 dk wr ∧ scanDown (fun x => !(ltOf cf) x dk[a]!) dk x2 j' = scanDown (fun x => !(ltOf cf) x dk[a]!) dk x2 j)) (fun u _ => (intOf u).toNat)
                      case atStart => exact ⟨j, Nat.le_refl _, hbx2, rfl, Lib.hid ⟨SA22.out, rfl⟩⟩
                      case round =>
                        clear SA22
                        obtain ⟨wq2, rfl⟩ : ∃ wq : World, wq = wr := ⟨_, rfl⟩
                        obtain ⟨y2, hay2, hby2, rfl, HJ⟩ := hrel
                        have HB2 := Lib.hid HJ.out.2
                        have SB2 := Lib.hid HJ.out.1
                        clear HJ
                        by_cases hle2 : x2 ≤ y2
                        · have l1 : decide ((x2 : Int) ≤ (y2 : Int)) = true := decide_eq_true (by omega)
                          have l2 : (x2 : Int) ≤ (y2 : Int) := by omega
                          have bj2 : (y2 : Int) < (d0.size : Int) := by omega
                          cases hlv : (ltOf cf) dk[y2]! dk[a]! with
                          | false =>
                            have HN := Lib.hid (scanDown_go (p := (fun x => !(ltOf cf) x dk[a]!)) (d := dk) (i := x2) (j := y2) (by omega) hle2 (by simp [hlv]))
                            obtain ⟨z2, hy3⟩ : ∃ x, y2 - 1 = x := ⟨_, rfl⟩
                            rw [hy3] at HN
                            have wz2 : IntKind.i64.wrap ((y2 : Int) - 1) = (z2 : Int) := by rw [IntWalk.i64_in _ (by omega)]; omega
                            obtain ⟨x, hx⟩ : ∃ x, x = dk[y2]! := ⟨_, rfl⟩
                            obtain ⟨y, hy⟩ : ∃ y, y = dk[a]! := ⟨_, rfl⟩
                            have la := SB2.out.cl R (i := y2) (by omega)
                            have lb := SB2.out.cl R (i := a) (by omega)
                            rw [← hx] at la
                            rw [← hy] at lb
                            have hc := SB2.out.cmp HC.out x y (by rw [hx]; exact SB2.out.mem (by omega)) (by rw [hy]; exact SB2.out.mem (by omega))
                            have hd : decide (cf x y < 0) = false := by rw [hx, hy]; exact hlv
                            have hv : ¬ cf x y < 0 := of_decide_eq_false hd
                            clear hx hy
                            go_wp2_with fail
                            go_quiet_grown (first | (go_at_fn g; refine Calls.grown_of (hc _ _)))
                            have SB22 := Lib.hid (SB2.out.grown nq osq)
                            clear la lb hc hd hv
                            generalize grow (wq2.drewN nq) osq = w5 at SB22 ⊢
                            clear nq osq
                            go_wp2_with fail
                            exact ⟨⟨z2, by omega, by omega, rfl, Lib.hid ⟨SB22.out, by rw [← HB2.out, HN.out]⟩⟩, by simp only [intOf]; omega⟩
                          | true =>
                            have HD2 := Lib.hid (show scanDown (fun x => !(ltOf cf) x dk[a]!) dk x2 j = y2 from by rw [← HB2.out]; exact scanDown_stop (Or.inr (by simp [hlv])))
                            obtain ⟨x, hx⟩ : ∃ x, x = dk[y2]! := ⟨_, rfl⟩
                            obtain ⟨y, hy⟩ : ∃ y, y = dk[a]! := ⟨_, rfl⟩
                            have la := SB2.out.cl R (i := y2) (by omega)
                            have lb := SB2.out.cl R (i := a) (by omega)
                            rw [← hx] at la
                            rw [← hy] at lb
                            have hc := SB2.out.cmp HC.out x y (by rw [hx]; exact SB2.out.mem (by omega)) (by rw [hy]; exact SB2.out.mem (by omega))
                            have hd : decide (cf x y < 0) = true := by rw [hx, hy]; exact hlv
                            have hv : cf x y < 0 := of_decide_eq_true hd
                            clear hx hy
                            go_wp2_with fail
                            go_quiet_grown (first | (go_at_fn g; refine Calls.grown_of (hc _ _)))
                            have SB22 := Lib.hid (SB2.out.grown nq osq)
                            clear la lb hc hd hv
                            generalize grow (wq2.drewN nq) osq = w52 at SB22 ⊢
                            clear nq osq
                            have hgt : ¬ y2 < x2 := by omega
                            have g1 : decide ((y2 : Int) < (x2 : Int)) = false := decide_eq_false (by omega)
                            have g2 : ¬ (y2 : Int) < (x2 : Int) := by omega
                            have HE := Lib.hid (pl_go (lt := ltOf cf) HU2.out HD2.out hgt hax2 hay2 (by omega))
                            obtain ⟨x3, hx3⟩ : ∃ x, x2 + 1 = x := ⟨_, rfl⟩
                            obtain ⟨y3, hy3⟩ : ∃ x, y2 - 1 = x := ⟨_, rfl⟩
                            rw [hx3, hy3] at HE
                            have wx3 : IntKind.i64.wrap ((x2 : Int) + 1) = (x3 : Int) := by rw [IntWalk.i64_in _ (by omega)]; omega
                            have wy3 : IntKind.i64.wrap ((y2 : Int) - 1) = (y3 : Int) := by rw [IntWalk.i64_in _ (by omega)]; omega
                            go_wp2_with fail
                            have SB223 := Lib.hid (SB22.out.swp R (i := x2) (j := y2) (by omega) (by omega))
                            have ca := SB22.out.c1 R (i := x2) (by omega)
                            have cb2 := SB22.out.c1 R (i := y2) (by omega)
                            have fa := SB22.out.f1 R (i := x2) (by omega)
                            have fb := SB22.out.f1 R (i := y2) (by omega)
                            obtain ⟨ux, hux⟩ : ∃ x, x = dk[x2]! := ⟨_, rfl⟩
                            obtain ⟨uy, huy⟩ : ∃ y, y = dk[y2]! := ⟨_, rfl⟩
                            obtain ⟨u2, cc⟩ := SB22.out.c2 R (i := x2) (j := y2) (by omega) (by omega) (vi uy)
                            rw [← hux] at ca SB223
                            rw [← huy] at cb2 SB223
                            clear hux huy
                            go_wp2_with fail
                            go_big_region_o
                            clear ca cb2 fa fb cc
                            generalize ((w52.setCell ⟨blk, off + x2, none⟩ (vi uy)).setCell ⟨blk, off + y2, none⟩ (vi ux)).drew = w9 at SB223 ⊢
                            go_wp2_with fail
                            exact ⟨⟨x3, y3, Sort.swp dk x2 y2, by omega, by omega, by omega, by omega, rfl, rfl, Lib.hid ⟨SB223.out, by rw [← HO.out, HE.out]⟩⟩, by simp only [intOf]; omega⟩
                        · have l1 : decide ((x2 : Int) ≤ (y2 : Int)) = false := decide_eq_false (by omega)
                          have l2 : ¬ (x2 : Int) ≤ (y2 : Int) := by omega
                          have HD2 := Lib.hid (show scanDown (fun x => !(ltOf cf) x dk[a]!) dk x2 j = y2 from by rw [← HB2.out]; exact scanDown_stop (Or.inl (by omega)))
                          go_wp2_with fail
                          go_big_region_o
                          have SB22 := Lib.hid SB2.out.drew
                          clear SB2
                          generalize wq2.drew = w52 at SB22 ⊢
                          have hgt : y2 < x2 := by omega
                          have g1 : decide ((y2 : Int) < (x2 : Int)) = true := decide_eq_true (by omega)
                          have g2 : (y2 : Int) < (x2 : Int) := by omega
                          have bj2 : (y2 : Int) < (d0.size : Int) := by omega
                          have HE := Lib.hid (pl_end (lt := ltOf cf) HU2.out HD2.out hgt)
                          go_wp2_with fail
                          have SB223 := Lib.hid (SB22.out.swp R (i := y2) (j := a) (by omega) (by omega))
                          have ca := SB22.out.c1 R (i := y2) (by omega)
                          have cb2 := SB22.out.c1 R (i := a) (by omega)
                          have fa := SB22.out.f1 R (i := y2) (by omega)
                          have fb := SB22.out.f1 R (i := a) (by omega)
                          obtain ⟨ux, hux⟩ : ∃ x, x = dk[y2]! := ⟨_, rfl⟩
                          obtain ⟨uy, huy⟩ : ∃ y, y = dk[a]! := ⟨_, rfl⟩
                          obtain ⟨u2, cc⟩ := SB22.out.c2 R (i := y2) (j := a) (by omega) (by omega) (vi uy)
                          rw [← hux] at ca SB223
                          rw [← huy] at cb2 SB223
                          clear hux huy
                          go_wp2_with fail
                          go_big_region_o
                          clear ca cb2 fa fb cc
                          generalize ((w52.setCell ⟨blk, off + y2, none⟩ (vi uy)).setCell ⟨blk, off + a, none⟩ (vi ux)).drew = w9 at SB223 ⊢
                          go_wp2_with fail
                          go_ret2
                          exact ⟨by rw [HR2.out, ← HO.out, HE.out]; rfl, by rw [HR2.out, ← HO.out, HE.out]; exact SB223.out⟩
                  · have k1 : decide ((x2 : Int) ≤ (j : Int)) = false := decide_eq_false (by omega)
                    have k2 : ¬ (x2 : Int) ≤ (j : Int) := by omega
                    have HU2 := Lib.hid (show scanUp (fun x => (ltOf cf) x dk[a]!) dk j i = x2 from by rw [← HA2.out]; exact scanUp_stop (Or.inl (by omega)))
                    go_wp2_with fail
                    go_big_region_o
                    have SA22 := Lib.hid SA2.out.drew
                    clear SA2
                    generalize wi2.drew = w42 at SA22 ⊢
                    go_wp2_with fail
                    go_loopw [13] (fun u wr => ∃ j' : Nat, j' ≤ j ∧ x2 ≤ j' + 2 ∧ u = vi j' ∧ Hid (SoW w0 blk off d0 dk wr ∧ scanDown (fun x => !(ltOf cf) x dk[a]!) dk x2 j' = scanDown (fun x => !(ltOf cf) x dk[a]!) dk x2 j)) (fun u _ => (intOf u).toNat)
                    case atStart => exact ⟨j, Nat.le_refl _, hbx2, rfl, Lib.hid ⟨SA22.out, rfl⟩⟩
                    case round =>
                      clear SA22
                      obtain ⟨wq2, rfl⟩ : ∃ wq : World, wq = wr := ⟨_, rfl⟩
                      obtain ⟨y2, hay2, hby2, rfl, HJ⟩ := hrel
                      have HB2 := Lib.hid HJ.out.2
                      have SB2 := Lib.hid HJ.out.1
                      clear HJ
                      by_cases hle2 : x2 ≤ y2
                      · exact absurd hle2 (by omega)
                      · have l1 : decide ((x2 : Int) ≤ (y2 : Int)) = false := decide_eq_false (by omega)
                        have l2 : ¬ (x2 : Int) ≤ (y2 : Int) := by omega
                        have HD2 := Lib.hid (show scanDown (fun x => !(ltOf cf) x dk[a]!) dk x2 j = y2 from by rw [← HB2.out]; exact scanDown_stop (Or.inl (by omega)))
                        go_wp2_with fail
                        go_big_region_o
                        have SB22 := Lib.hid SB2.out.drew
                        clear SB2
                        generalize wq2.drew = w52 at SB22 ⊢
                        have hgt : y2 < x2 := by omega
                        have g1 : decide ((y2 : Int) < (x2 : Int)) = true := decide_eq_true (by omega)
                        have g2 : (y2 : Int) < (x2 : Int) := by omega
                        have bj2 : (y2 : Int) < (d0.size : Int) := by omega
                        have HE := Lib.hid (pl_end (lt := ltOf cf) HU2.out HD2.out hgt)
                        go_wp2_with fail
                        have SB223 := Lib.hid (SB22.out.swp R (i := y2) (j := a) (by omega) (by omega))
                        have ca := SB22.out.c1 R (i := y2) (by omega)
                        have cb2 := SB22.out.c1 R (i := a) (by omega)
                        have fa := SB22.out.f1 R (i := y2) (by omega)
                        have fb := SB22.out.f1 R (i := a) (by omega)
                        obtain ⟨ux, hux⟩ : ∃ x, x = dk[y2]! := ⟨_, rfl⟩
                        obtain ⟨uy, huy⟩ : ∃ y, y = dk[a]! := ⟨_, rfl⟩
                        obtain ⟨u2, cc⟩ := SB22.out.c2 R (i := y2) (j := a) (by omega) (by omega) (vi uy)
                        rw [← hux] at ca SB223
                        rw [← huy] at cb2 SB223
                        clear hux huy
                        go_wp2_with fail
                        go_big_region_o
                        clear ca cb2 fa fb cc
                        generalize ((w52.setCell ⟨blk, off + y2, none⟩ (vi uy)).setCell ⟨blk, off + a, none⟩ (vi ux)).drew = w9 at SB223 ⊢
                        go_wp2_with fail
                        go_ret2
                        exact ⟨by rw [HR2.out, ← HO.out, HE.out]; rfl, by rw [HR2.out, ← HO.out, HE.out]; exact SB223.out⟩
          · have l1 : decide ((x1 : Int) ≤ (y1 : Int)) = false := decide_eq_false (by omega)
            have l2 : ¬ (x1 : Int) ≤ (y1 : Int) := by omega
            have HD1 := Lib.hid (show scanDown (fun x => !(ltOf cf) x D1[a]!) D1 x1 b1 = y1 from by rw [← HB1.out]; exact scanDown_stop (Or.inl (by omega)))
            go_wp2_with fail
            go_big_region_o
            have SB12 := Lib.hid SB1.out.drew
            clear SB1
            generalize wq1.drew = w51 at SB12 ⊢
            have hgt : y1 < x1 := by omega
            have g1 : decide ((y1 : Int) < (x1 : Int)) = true := decide_eq_true (by omega)
            have g2 : (y1 : Int) < (x1 : Int) := by omega
            have bj1 : (y1 : Int) < (d0.size : Int) := by omega
            have HE := Lib.hid (HP1.out _ _ HU1.out HD1.out hgt)
            clear HP1 HP2
            go_wp2_with fail
            have SB123 := Lib.hid (SB12.out.swp R (i := y1) (j := a) (by omega) (by omega))
            have ca := SB12.out.c1 R (i := y1) (by omega)
            have cb2 := SB12.out.c1 R (i := a) (by omega)
            have fa := SB12.out.f1 R (i := y1) (by omega)
            have fb := SB12.out.f1 R (i := a) (by omega)
            obtain ⟨ux, hux⟩ : ∃ x, x = D1[y1]! := ⟨_, rfl⟩
            obtain ⟨uy, huy⟩ : ∃ y, y = D1[a]! := ⟨_, rfl⟩
            obtain ⟨u2, cc⟩ := SB12.out.c2 R (i := y1) (j := a) (by omega) (by omega) (vi uy)
            rw [← hux] at ca SB123
            rw [← huy] at cb2 SB123
            clear hux huy
            go_wp2_with fail
            go_big_region_o
            clear ca cb2 fa fb cc
            generalize ((w51.setCell ⟨blk, off + y1, none⟩ (vi uy)).setCell ⟨blk, off + a, none⟩ (vi ux)).drew = w9 at SB123 ⊢
            go_wp2_with fail
            go_ret2
            exact ⟨by rw [HE.out]; rfl, by rw [HE.out]; exact SB123.out⟩
    · have k1 : decide ((x1 : Int) ≤ (b1 : Int)) = false := decide_eq_false (by omega)
      have k2 : ¬ (x1 : Int) ≤ (b1 : Int) := by omega
      have HU1 := Lib.hid (show scanUp (fun x => (ltOf cf) x D1[a]!) D1 b1 a1 = x1 from by rw [← HA1.out]; exact scanUp_stop (Or.inl (by omega)))
      go_wp2_with fail
      go_big_region_o
      have SA12 := Lib.hid SA1.out.drew
      clear SA1
      generalize wi1.drew = w41 at SA12 ⊢
      go_wp2_with fail
      go_loopw [13] (fun u wr => ∃ j' : Nat, j' ≤ b1 ∧ x1 ≤ j' + 2 ∧ u = vi j' ∧ Hid (SoW w0 blk off d0 D1 wr ∧ scanDown (fun x => !(ltOf cf) x D1[a]!) D1 x1 j' = scanDown (fun x => !(ltOf cf) x D1[a]!) D1 x1 b1)) (fun u _ => (intOf u).toNat)
      case atStart => exact ⟨b1, Nat.le_refl _, hbx1, rfl, Lib.hid ⟨SA12.out, rfl⟩⟩
      case round =>
        clear SA12
        obtain ⟨wq1, rfl⟩ : ∃ wq : World, wq = wr := ⟨_, rfl⟩
        obtain ⟨y1, hay1, hby1, rfl, HJ⟩ := hrel
        have HB1 := Lib.hid HJ.out.2
        have SB1 := Lib.hid HJ.out.1
        clear HJ
        by_cases hle2 : x1 ≤ y1
        · exact absurd hle2 (by omega)
        · have l1 : decide ((x1 : Int) ≤ (y1 : Int)) = false := decide_eq_false (by omega)
          have l2 : ¬ (x1 : Int) ≤ (y1 : Int) := by omega
          have HD1 := Lib.hid (show scanDown (fun x => !(ltOf cf) x D1[a]!) D1 x1 b1 = y1 from by rw [← HB1.out]; exact scanDown_stop (Or.inl (by omega)))
          go_wp2_with fail
          go_big_region_o
          have SB12 := Lib.hid SB1.out.drew
          clear SB1
          generalize wq1.drew = w51 at SB12 ⊢
          have hgt : y1 < x1 := by omega
          have g1 : decide ((y1 : Int) < (x1 : Int)) = true := decide_eq_true (by omega)
          have g2 : (y1 : Int) < (x1 : Int) := by omega
          have bj1 : (y1 : Int) < (d0.size : Int) := by omega
          have HE := Lib.hid (HP1.out _ _ HU1.out HD1.out hgt)
          clear HP1 HP2
          go_wp2_with fail
          have SB123 := Lib.hid (SB12.out.swp R (i := y1) (j := a) (by omega) (by omega))
          have ca := SB12.out.c1 R (i := y1) (by omega)
          have cb2 := SB12.out.c1 R (i := a) (by omega)
          have fa := SB12.out.f1 R (i := y1) (by omega)
          have fb := SB12.out.f1 R (i := a) (by omega)
          obtain ⟨ux, hux⟩ : ∃ x, x = D1[y1]! := ⟨_, rfl⟩
          obtain ⟨uy, huy⟩ : ∃ y, y = D1[a]! := ⟨_, rfl⟩
          obtain ⟨u2, cc⟩ := SB12.out.c2 R (i := y1) (j := a) (by omega) (by omega) (vi uy)
          rw [← hux] at ca SB123
          rw [← huy] at cb2 SB123
          clear hux huy
          go_wp2_with fail
          go_big_region_o
          clear ca cb2 fa fb cc
          generalize ((w51.setCell ⟨blk, off + y1, none⟩ (vi uy)).setCell ⟨blk, off + a, none⟩ (vi ux)).drew = w9 at SB123 ⊢
          go_wp2_with fail
          go_ret2
          exact ⟨by rw [HE.out]; rfl, by rw [HE.out]; exact SB123.out⟩
end Go.Proofs.Ytjpmimanigjjoaa

/- Contracts of Go's library, laid at this program. -/
namespace Go.Proofs.Ytjpmimanigjjoaa
open Go.Proofs Go.Shelf
def soLay_ren : Go.Shelf.Ren := ⟨fun | 6 => 31 | 15 => 55 | 14 => 54 | 28 => 76 | 29 => 77 | 20 => 68 | 21 => 69 | 22 => 70 | 23 => 71 | 24 => 72 | 25 => 73 | 26 => 74 | 27 => 75 | 46 => 84 | 47 => 85 | 48 => 86 | 49 => 87 | 50 => 88 | 57 => 109 | n => n, fun | 22 => 23 | 24 => 3 | 25 => 87 | 3 => 3 | 39 => 60 | 0 => 0 | 53 => 145 | 55 => 147 | 4 => 4 | 46 => 139 | 45 => 138 | 50 => 116 | 5 => 5 | 9 => 9 | 66 => 156 | 70 => 160 | 76 => 185 | 77 => 186 | n => n, fun | n => n⟩
theorem soLay : Go.Proofs.SlLaysF.n6 Try.prog soLay_ren := {
  mixed := by kernel_rfl,
  f6 := ⟨Try.f31.name, by decide, Try.func31.trans (congrArg some (by kernel_rfl))⟩,
  f14 := ⟨Try.f54.name, by decide, Try.func54.trans (congrArg some (by kernel_rfl))⟩,
  f15 := Try.func55.trans (congrArg some (by kernel_rfl)),
  f20 := ⟨Try.f68.name, by decide, Try.func68.trans (congrArg some (by kernel_rfl))⟩,
  f21 := ⟨Try.f69.name, by decide, Try.func69.trans (congrArg some (by kernel_rfl))⟩,
  f22 := ⟨Try.f70.name, by decide, Try.func70.trans (congrArg some (by kernel_rfl))⟩,
  f23 := ⟨Try.f71.name, by decide, Try.func71.trans (congrArg some (by kernel_rfl))⟩,
  f24 := ⟨Try.f72.name, by decide, Try.func72.trans (congrArg some (by kernel_rfl))⟩,
  f25 := ⟨Try.f73.name, by decide, Try.func73.trans (congrArg some (by kernel_rfl))⟩,
  f26 := ⟨Try.f74.name, by decide, Try.func74.trans (congrArg some (by kernel_rfl))⟩,
  f27 := ⟨Try.f75.name, by decide, Try.func75.trans (congrArg some (by kernel_rfl))⟩,
  f28 := Try.func76.trans (congrArg some (by kernel_rfl)),
  f29 := Try.func77.trans (congrArg some (by kernel_rfl)),
  f46 := ⟨Try.f84.name, by decide, Try.func84.trans (congrArg some (by kernel_rfl))⟩,
  f47 := Try.func85.trans (congrArg some (by kernel_rfl)),
  f48 := Try.func86.trans (congrArg some (by kernel_rfl)),
  f49 := ⟨Try.f87.name, by decide, Try.func87.trans (congrArg some (by kernel_rfl))⟩,
  f50 := ⟨Try.f88.name, by decide, Try.func88.trans (congrArg some (by kernel_rfl))⟩,
  f57 := ⟨Try.f109.name, by decide, Try.func109.trans (congrArg some (by kernel_rfl))⟩,
  t0 := Try.underlying0,
  a0 := Try.isAgg0,
  z0 := Try.sizeOf0,
  v0 := Try.zeroValue0,
  t3 := Try.underlying3,
  a3 := Try.isAgg3,
  z3 := Try.sizeOf3,
  v3 := Try.zeroValue3,
  t4 := Try.underlying4,
  a4 := Try.isAgg4,
  z4 := Try.sizeOf4,
  v4 := Try.zeroValue4,
  t5 := Try.underlying5,
  a5 := Try.isAgg5,
  z5 := Try.sizeOf5,
  v5 := Try.zeroValue5,
  t9 := Try.underlying9,
  a9 := Try.isAgg9,
  z9 := Try.sizeOf9,
  v9 := Try.zeroValue9,
  t22 := Try.underlying23,
  a22 := Try.isAgg23,
  z22 := Try.sizeOf23,
  v22 := Try.zeroValue23,
  a24 := Try.isAgg3,
  z24 := Try.sizeOf3,
  t25 := Try.underlying87,
  a25 := Try.isAgg87,
  z25 := Try.sizeOf87,
  v25 := Try.zeroValue87,
  t39 := Try.underlying60,
  a39 := Try.isAgg60,
  z39 := Try.sizeOf60,
  v39 := Try.zeroValue60,
  t45 := Try.underlying138,
  a45 := Try.isAgg138,
  z45 := Try.sizeOf138,
  v45 := Try.zeroValue138,
  t46 := Try.underlying139,
  a46 := Try.isAgg139,
  z46 := Try.sizeOf139,
  v46 := Try.zeroValue139,
  t50 := Try.underlying116,
  a50 := Try.isAgg116,
  z50 := Try.sizeOf116,
  v50 := Try.zeroValue116,
  t53 := Try.underlying145,
  a53 := Try.isAgg145,
  z53 := Try.sizeOf145,
  v53 := Try.zeroValue145,
  t55 := Try.underlying147,
  a55 := Try.isAgg147,
  z55 := Try.sizeOf147,
  v55 := Try.zeroValue147,
  t66 := Try.underlying156,
  a66 := Try.isAgg156,
  z66 := Try.sizeOf156,
  v66 := Try.zeroValue156,
  t70 := Try.underlying160,
  a70 := Try.isAgg160,
  z70 := Try.sizeOf160,
  v70 := Try.zeroValue160,
  t76 := Try.underlying185,
  a76 := Try.isAgg185,
  z76 := Try.sizeOf185,
  v76 := Try.zeroValue185,
  t77 := Try.underlying186,
  a77 := Try.isAgg186,
  z77 := Try.sizeOf186,
  v77 := Try.zeroValue186 }
end Go.Proofs.Ytjpmimanigjjoaa

/- slices.breakPatternsCmpFunc at ints: the shelf's contract, with the permutation. -/
namespace Go.Proofs.Ytjpmimanigjjoaa
open Go.RowKit Go.Maps Go.Sort

theorem soBrk_call (g : FuncId) (cb : Array Value) (blk off cap a b : Nat) (d0 d : Array Int) (w0 w : World)
    (R : Row1 vi w0 blk off d0) (hS : SoW w0 blk off d0 d w) (hab : a ≤ b) (hb : b ≤ d0.size) (hsz : d0.size < 4611686018427387904) :
    Calls Try.prog 70 #[.slice (some ⟨blk, off, none⟩) d0.size cap, vi a, vi b, .func (.func g) #[] cb] w fun e w' => e = .returned (.tuple #[]) ∧ SoW w0 blk off d0 (Sort.breakPatterns d a b) w' := by
  have hs := hS.sz
  have h := Go.Proofs.Any.breakPatternsCmpFunc (P := Try.prog) (ρ := soLay_ren) { soLay with } vi g cb blk off cap a b d0 d w0 w R hs.symm hS.sw hab (by omega) (by omega)
  change Calls Try.prog 70 _ _ _ at h
  rw [hs] at h
  exact Calls.mono h fun e w' h => ⟨h.1, h.2, permIn_trans _ _ _ _ _ hS.pm (permIn_mono _ _ _ _ _ _ (Nat.zero_le _) hb (by omega) (breakPatterns_holds d a b hab (by omega)))⟩
end Go.Proofs.Ytjpmimanigjjoaa

/- slices.pdqsortCmpFunc at ints, the comparison known at permutations. -/
namespace Go.Proofs.Ytjpmimanigjjoaa
open Go.RowKit Go.Maps Go.Sort
attribute [local go_sem] Oper.semAt_some

set_option maxHeartbeats 32000000 in
set_option maxRecDepth 100000 in
theorem soPdq_call (cf : Int → Int → Int) (g : FuncId) (cb : Array Value) (hO : SWO (ltOf cf)) (blk off cap : Nat) (d0 : Array Int) (w0 : World)
    (eg : ∀ args w, (callFunc g args).run Try.prog w = .ok (.enter g args) w) (hC : CmpP g cb cf blk off d0 w0) (R : Row1 vi w0 blk off d0) (hsz : d0.size < 4611686018427387904) :
    ∀ (N a b limit : Nat) (d : Array Int) (w : World), b - a < N → SoW w0 blk off d0 d w → a ≤ b → b ≤ d0.size → limit < 4611686018427387904 → Sort.Below (ltOf cf) a b d →
    Calls Try.prog 54 #[.slice (some ⟨blk, off, none⟩) d0.size cap, vi a, vi b, vi limit, .func (.func g) #[] cb] w fun e w' => e = .returned (.tuple #[]) ∧ SoW w0 blk off d0 (pdq (ltOf cf) d a b limit true true) w' := by
  have HC := Lib.hid hC
  have HO := Lib.hid hO
  have mixed : Try.prog.follows .mixedOrders = true := by kernel_rfl
  clear hC hO
  intro N
  induction N with
  | zero => intro _ _ _ _ _ h; exact absurd h (Nat.not_lt_zero _)
  | succ N ih =>
    intro a b limit d w hN hS hab hb hlimit hBel
    have IH := Lib.hid ih
    have HS := Lib.hid hS
    have HB := Lib.hid hBel
    clear ih hS hBel
    obtain ⟨RR, hRR⟩ : ∃ r, pdq (ltOf cf) d a b limit true true = r := ⟨_, rfl⟩
    have HR := Lib.hid hRR
    rw [hRR]
    clear hRR
    go_enter Try.func54, Try.ntmps54
    go_wp2_with fail
    go_loopw [1, 2, 3, 10, 11] (fun s1 s2 s3 s8 s9 wr => ∃ (a' b' lim : Nat) (wb wp : Bool) (dk : Array Int), a' ≤ b' ∧ b' ≤ d0.size ∧ b' - a' ≤ b - a ∧ lim < 4611686018427387904 ∧ s1 = vi a' ∧ s2 = vi b' ∧ s3 = vi lim ∧ s8 = .bool wb ∧ s9 = .bool wp ∧ Hid (Sort.Below (ltOf cf) a' b' dk ∧ SoW w0 blk off d0 dk wr ∧ pdq (ltOf cf) dk a' b' lim wb wp = RR)) (fun s1 s2 _ _ _ _ => (intOf s2).toNat - (intOf s1).toNat)
    case atStart => exact ⟨a, b, limit, true, true, d, hab, hb, Nat.le_refl _, hlimit, rfl, rfl, rfl, rfl, rfl, Lib.hid ⟨HB.out, HS.out, HR.out⟩⟩
    case round =>
      clear HS HB HR
      obtain ⟨wj, rfl⟩ : ∃ wj : World, wj = wr := ⟨_, rfl⟩
      obtain ⟨a', b', lim, wb_, wp, dk, hab', hb', hkN, hlim, rfl, rfl, rfl, rfl, rfl, HJ⟩ := hrel
      have HB := Lib.hid HJ.out.1
      have S0 := Lib.hid HJ.out.2.1
      have HR := Lib.hid HJ.out.2.2
      clear HJ
      obtain ⟨ln, hln⟩ : ∃ q, b' - a' = q := ⟨_, rfl⟩
      have wln : IntKind.i64.wrap ((b' : Int) - (a' : Int)) = (ln : Int) := by rw [IntWalk.i64_in _ (by omega)]; omega
      by_cases h12 : ln ≤ 12
      · have k1 : decide ((ln : Int) ≤ 12) = true := decide_eq_true (by omega)
        have k2 : (ln : Int) ≤ 12 := by omega
        have H1 := Lib.hid (soIns_call cf g cb blk off cap a' b' d0 dk w0 wj eg HC.out R S0.out hab' hb' hsz)
        have HE := Lib.hid (pdq_small (lt := ltOf cf) (d := dk) (limit := lim) (wb := wb_) (wp := wp) (show b' - a' ≤ 12 by omega))
        go_wp2_with (go_at_call 68; refine H1.out.mono ?_; rintro e1 w1 ⟨rfl, hw1⟩)
        (first | go_end0 | ((try simp only [Exit.inBlock, Exit.then]); refine bodyPost_ret (results_none rfl _ _ _) rfl ?_))
        exact ⟨rfl, by rw [← HR.out, HE.out]; exact hw1⟩
      · have k1 : decide ((ln : Int) ≤ 12) = false := decide_eq_false (by omega)
        have k2 : ¬ (ln : Int) ≤ 12 := by omega
        by_cases hl0 : lim = 0
        · have l1 : ((lim : Int) == 0) = true := beq_iff_eq.2 (by omega)
          have H1 := Lib.hid (soHeap_call cf g cb blk off cap a' b' d0 dk w0 wj eg HC.out R S0.out hab' hb' hsz)
          have HE := Lib.hid (pdq_heap (lt := ltOf cf) (d := dk) (limit := lim) (wb := wb_) (wp := wp) (show ¬ b' - a' ≤ 12 by omega) hl0)
          clear hl0
          go_wp2_with (go_at_call 69; refine H1.out.mono ?_; rintro e1 w1 ⟨rfl, hw1⟩)
          (first | go_end0 | ((try simp only [Exit.inBlock, Exit.then]); refine bodyPost_ret (results_none rfl _ _ _) rfl ?_))
          exact ⟨rfl, by rw [← HR.out, HE.out]; exact hw1⟩
        · have l1 : ((lim : Int) == 0) = false := beq_eq_false_iff_ne.2 (by omega)
          obtain ⟨Q, hQ⟩ := rdF (lim := lim) (wb := wb_) (wp := wp) HO.out (show a' < b' by omega) (show b' ≤ dk.size by rw [S0.out.sz]; exact hb') HB.out (show ¬ b' - a' ≤ 12 by omega) hl0
          rw [HR.out] at hQ
          have HQ := Lib.hid hQ
          have hQl := hQ.le
          have hQc := hQ.c1
          have hQp := hQ.pv
          clear hQ HR
          obtain ⟨ql, hql⟩ : ∃ x, Q.lim = x := ⟨_, rfl⟩
          obtain ⟨qp, hqp⟩ : ∃ x, Q.pivot = x := ⟨_, rfl⟩
          obtain ⟨qc, hqc⟩ : ∃ x, Q.c.1 = x := ⟨_, rfl⟩
          obtain ⟨qh, hqh⟩ : ∃ x, Q.c.2 = x := ⟨_, rfl⟩
          rw [hql] at hQl
          rw [hqp] at hQp
          rw [hqc] at hQc
          have HQL := Lib.hid hql
          have HQP := Lib.hid hqp
          have HQC := Lib.hid hqc
          have HQH := Lib.hid hqh
          clear hql hqp hqc hqh
          have wlm : IntKind.i64.wrap ((lim : Int) - 1) = ((lim - 1 : Nat) : Int) := by rw [IntWalk.i64_in _ (by omega)]; omega
          go_upto_if 39 with fail
          go_cut [3] (fun s3 wx => s3 = vi ql ∧ Hid (SoW w0 blk off d0 Q.d1 wx))
          case first =>
            cases wb_ with
            | false =>
              have HF := Lib.hid (HQ.out.brk rfl)
              have H1 := Lib.hid (soBrk_call g cb blk off cap a' b' d0 dk w0 wj R S0.out hab' hb' hsz)
              go_wp2_with (go_at_call 70; refine H1.out.mono ?_; rintro e1 w1 ⟨rfl, hw1⟩; have HW1 := Lib.hid hw1; clear hw1)
              go_meet
              exact ⟨by rw [← HQL.out, HF.out.2], Lib.hid (by rw [HF.out.1]; exact HW1.out)⟩
            | true =>
              have HF := Lib.hid (HQ.out.same rfl)
              go_wp2_with fail
              go_meet
              exact ⟨by rw [← HQL.out, HF.out.2], Lib.hid (by rw [HF.out.1]; exact S0.out)⟩
          case rest =>
            obtain ⟨wa, rfl⟩ : ∃ wa : World, wa = wc := ⟨_, rfl⟩
            obtain ⟨rfl, S1⟩ := hcut
            clear S0
            have H1 := Lib.hid (soPiv_call cf g cb blk off cap a' b' d0 Q.d1 w0 wa eg HC.out R S1.out (by omega) hb' hsz)
            rw [← HQ.out.c, HQC.out, HQH.out] at H1
            go_upto_if 56 with (go_at_call 71; refine H1.out.mono ?_; rintro e1 w2 ⟨rfl, hw2⟩; have S2 := Lib.hid hw2; clear hw2)
            clear H1
            obtain ⟨qt, hqt⟩ : ∃ x, Q.hint = x := ⟨_, rfl⟩
            have HQT := Lib.hid hqt
            clear hqt
            have wb1 : IntKind.i64.wrap ((b' : Int) - 1) = ((b' - 1 : Nat) : Int) := by rw [IntWalk.i64_in _ (by omega)]; omega
            have wqa : IntKind.i64.wrap ((qc : Int) - (a' : Int)) = ((qc - a' : Nat) : Int) := by rw [IntWalk.i64_in _ (by omega)]; omega
            have wbq : IntKind.i64.wrap (((b' - 1 : Nat) : Int) - ((qc - a' : Nat) : Int)) = ((b' - 1 - (qc - a') : Nat) : Int) := by rw [IntWalk.i64_in _ (by omega)]; omega
            go_cut [13, 14] (fun s11 s12 wx => s11 = vi qp ∧ s12 = vi (hintN qt) ∧ Hid (SoW w0 blk off d0 Q.d2 wx))
            case first =>
              by_cases hh : qh = .decreasing
              · have HF := Lib.hid (HQ.out.dec (by rw [HQH.out]; exact hh))
                have hcode : (hintN qh == 2) = true := by rw [hh]; rfl
                have hcode2 : hintN qh = 2 := by rw [hh]; rfl
                clear hh
                have H1 := Lib.hid (soRev_call (.func (.func g) #[] cb) blk off cap a' b' d0 Q.d1 w0 w2 R S2.out (by omega) hab' hb' hsz)
                go_wp2_with (go_at_call 72; refine H1.out.mono ?_; rintro e1 w3 ⟨rfl, hw3⟩; have S3 := Lib.hid hw3; clear hw3)
                go_meet
                exact ⟨by rw [← HQP.out, HF.out.2.1, HQC.out], by rw [← HQT.out, HF.out.2.2]; rfl, Lib.hid (by rw [HF.out.1]; exact S3.out)⟩
              · have HF := Lib.hid (HQ.out.nodec (by rw [HQH.out]; exact hh))
                have hcode : (hintN qh == 2) = false := by cases qh <;> first | rfl | exact absurd rfl hh
                have hcode2 : ¬ hintN qh = 2 := by cases qh <;> first | decide | exact absurd rfl hh
                clear hh
                go_wp2_with fail
                go_meet
                exact ⟨by rw [← HQP.out, HF.out.2.1, HQC.out], by rw [← HQT.out, HF.out.2.2, HQH.out], Lib.hid (by rw [HF.out.1]; exact S2.out)⟩
            case rest =>
              obtain ⟨wb, rfl⟩ : ∃ wa : World, wa = wc := ⟨_, rfl⟩
              obtain ⟨rfl, rfl, S3⟩ := hcut
              clear S2 S1
              go_upto_region 15 with fail
              go_cut [14, 75] (fun s12 s68 wx => s12 = vi (hintN qt) ∧ s68 = .bool (wb_ && wp && decide (qt = .increasing)) ∧ wx = wb)
              case first =>
                clear HQ IH HQL HQP HQC HQH HC R
                cases wb_ with
                | false =>
                  go_wp2_with fail
                  go_meet
                  exact ⟨rfl, by simp, rfl⟩
                | true =>
                  cases wp with
                  | false =>
                    go_wp2_with fail
                    go_meet
                    exact ⟨rfl, by simp, rfl⟩
                  | true =>
                    have hq1 : (hintN qt == 1) = decide (qt = .increasing) := by cases qt <;> rfl
                    cases hd : decide (qt = .increasing) with
                    | false =>
                      rw [hd] at hq1
                      go_wp2_with fail
                      go_meet
                      exact ⟨rfl, by rw [hd]; rfl, rfl⟩
                    | true =>
                      rw [hd] at hq1
                      go_wp2_with fail
                      go_meet
                      exact ⟨rfl, by rw [hd]; rfl, rfl⟩
              case rest =>
                obtain ⟨rfl, rfl, hwc⟩ := hcut
                replace hwc := hwc.symm
                subst hwc
                go_upto_if 75 with fail
                go_cut [] (fun wx => Hid (Q.pi.2 = false ∧ SoW w0 blk off d0 Q.pi.1 wx))
                case first =>
                  cases h68 : (wb_ && wp && decide (qt = .increasing)) with
                  | false =>
                    have HF := Lib.hid (HQ.out.no (by rw [HQT.out]; exact h68))
                    clear h68
                    go_wp2_with fail
                    go_meet
                    exact Lib.hid ⟨by rw [HF.out], by rw [HF.out]; exact S3.out⟩
                  | true =>
                    have HF := Lib.hid (HQ.out.yes (by rw [HQT.out]; exact h68))
                    clear h68
                    have H1 := Lib.hid (soPins_call cf g cb blk off cap a' b' d0 Q.d2 w0 wb eg HC.out R S3.out (by omega) hb' hsz)
                    rw [← HF.out] at H1
                    cases hp : Q.pi.2 with
                    | false =>
                      rw [hp] at H1
                      have HP := Lib.hid hp
                      clear hp
                      go_wp2_with (go_at_call 73; refine H1.out.mono ?_; rintro e1 w4 ⟨rfl, hw4⟩; have S4 := Lib.hid hw4; clear hw4)
                      go_meet
                      exact Lib.hid ⟨HP.out, S4.out⟩
                    | true =>
                      rw [hp] at H1
                      have HP := Lib.hid hp
                      clear hp
                      go_wp2_with (go_at_call 73; refine H1.out.mono ?_; rintro e1 w4 ⟨rfl, hw4⟩; have S4 := Lib.hid hw4; clear hw4)
                      (first | go_end0 | ((try simp only [Exit.inBlock, Exit.then]); refine bodyPost_ret (results_none rfl _ _ _) rfl ?_))
                      exact ⟨rfl, by rw [← HQ.out.done HP.out]; exact S4.out⟩
                case rest =>
                  obtain ⟨wd, rfl⟩ : ∃ wa : World, wa = wc := ⟨_, rfl⟩
                  have HP := Lib.hid hcut.out.1
                  have S5 := Lib.hid hcut.out.2
                  clear hcut S3
                  obtain ⟨D, hD⟩ : ∃ x, Q.pi.1 = x := ⟨_, rfl⟩
                  rw [hD] at S5
                  have HD := Lib.hid hD
                  clear hD
                  rcases Nat.eq_zero_or_pos a' with ha0 | ha0
                  · have HL := Lib.hid (show a' = 0 ∨ (ltOf cf) D[a' - 1]! D[qp]! = true from Or.inl ha0)
                    have z1 : decide ((0 : Int) < (a' : Int)) = false := decide_eq_false (by omega)
                    have z2 : ¬ (0 : Int) < (a' : Int) := by omega
                    have z3 : decide (0 < a') = false := decide_eq_false (by omega)
                    have z4 : ¬ 0 < a' := by omega
                    clear ha0
                    go_wp2_with fail
                    go_big_region_o
                    have S6 := Lib.hid S5.out.drew
                    clear S5
                    generalize wd.drew = w6 at S6 ⊢
                    have H1 := Lib.hid (soPart_call cf g cb blk off cap a' b' qp d0 D w0 w6 eg HC.out R S6.out (by omega) (by omega) hb' hsz)
                    obtain ⟨mid, ap, d4, hx⟩ : ∃ mid ap d4, Sort.partition (ltOf cf) D a' b' qp = (mid, ap, d4) := ⟨_, _, _, rfl⟩
                    obtain ⟨hx1, hx2, hx3, hx4, hx5, hx6⟩ := HQ.out.part HP.out (by rw [HD.out, HQP.out]; exact HL.out) mid ap d4 (by rw [HD.out, HQP.out]; exact hx)
                    rw [HQL.out] at hx5 hx6
                    have HX := Lib.hid (And.intro (And.intro hx3 hx4) (And.intro hx5 hx6))
                    clear hx3 hx4 hx5 hx6
                    rw [hx] at H1
                    clear hx
                    obtain ⟨ll, hll⟩ : ∃ x, mid - a' = x := ⟨_, rfl⟩
                    obtain ⟨rl, hrl⟩ : ∃ x, b' - mid = x := ⟨_, rfl⟩
                    have em1 : ((mid + 1 : Nat) : Int) = (mid : Int) + 1 := by omega
                    have wll : IntKind.i64.wrap ((mid : Int) - (a' : Int)) = (ll : Int) := by rw [IntWalk.i64_in _ (by omega)]; omega
                    have wrl : IntKind.i64.wrap ((b' : Int) - (mid : Int)) = (rl : Int) := by rw [IntWalk.i64_in _ (by omega)]; omega
                    have wm1 : IntKind.i64.wrap ((mid : Int) + 1) = (mid : Int) + 1 := IntWalk.i64_in _ (by omega)
                    go_upto_if 125 with (go_at_call 75; refine H1.out.mono ?_; rintro e1 w7 ⟨rfl, hw7⟩; have S7 := Lib.hid hw7; clear hw7)
                    by_cases h4 : mid - a' < b' - mid
                    · have HF := Lib.hid (HX.out.2.1 h4)
                      have m1 : decide ((ll : Int) < (rl : Int)) = true := decide_eq_true (by omega)
                      have m2 : (ll : Int) < (rl : Int) := by omega
                      have H2 := Lib.hid (IH.out a' mid ql d4 w7 (by omega) S7.out hx1 (by omega) (by omega) HX.out.1.1)
                      have EBX : decide ((ln : Int) / 8 ≤ (ll : Int)) = decide (mid - a' ≥ (b' - a') / 8) := by rw [← hll, ← hln]; exact decide_eq_decide.2 (by omega)
                      have EBY : decide (ln / 8 ≤ ll) = decide (mid - a' ≥ (b' - a') / 8) := by rw [← hll, ← hln]
                      go_wp2_with (go_at_call 54; refine H2.out.mono ?_; rintro e1 w8 ⟨rfl, hw8⟩; have S8 := Lib.hid hw8; clear hw8)
                      exact ⟨⟨mid + 1, b', ql, decide (mid - a' ≥ (b' - a') / 8), ap, pdq (ltOf cf) d4 a' mid ql true true, by omega, hb', by omega, by omega, by rw [em1], rfl, rfl, (by first | with_reducible rfl | exact congrArg Value.bool EBX | exact congrArg Value.bool EBY), rfl, Lib.hid ⟨HF.out.1, S8.out, HF.out.2⟩⟩, by simp only [intOf]; omega⟩
                    · have HF := Lib.hid (HX.out.2.2 h4)
                      have m1 : decide ((ll : Int) < (rl : Int)) = false := decide_eq_false (by omega)
                      have m2 : ¬ (ll : Int) < (rl : Int) := by omega
                      have EBX : decide ((ln : Int) / 8 ≤ (rl : Int)) = decide (b' - mid ≥ (b' - a') / 8) := by rw [← hrl, ← hln]; exact decide_eq_decide.2 (by omega)
                      have EBY : decide (ln / 8 ≤ rl) = decide (b' - mid ≥ (b' - a') / 8) := by rw [← hrl, ← hln]
                      have H2 := Lib.hid (IH.out (mid + 1) b' ql d4 w7 (by omega) S7.out (by omega) hb' (by omega) HX.out.1.2)
                      rw [em1] at H2
                      go_wp2_with (go_at_call 54; refine H2.out.mono ?_; rintro e1 w8 ⟨rfl, hw8⟩; have S8 := Lib.hid hw8; clear hw8)
                      exact ⟨⟨a', mid, ql, decide (b' - mid ≥ (b' - a') / 8), ap, pdq (ltOf cf) d4 (mid + 1) b' ql true true, hx1, by omega, by omega, by omega, rfl, rfl, rfl, (by first | with_reducible rfl | exact congrArg Value.bool EBX | exact congrArg Value.bool EBY), rfl, Lib.hid ⟨HF.out.1, S8.out, HF.out.2⟩⟩, by simp only [intOf]; omega⟩
                  · obtain ⟨ap', hap'⟩ : ∃ q, q + 1 = a' := ⟨a' - 1, by omega⟩
                    have eap : a' - 1 = ap' := by omega
                    have z1 : decide ((0 : Int) < (a' : Int)) = true := decide_eq_true (by omega)
                    have z2 : (0 : Int) < (a' : Int) := by omega
                    have z3 : decide (0 < a') = true := decide_eq_true (by omega)
                    have wap : IntKind.i64.wrap ((a' : Int) - 1) = (ap' : Int) := by rw [IntWalk.i64_in _ (by omega)]; omega
                    have bap : (ap' : Int) < (d0.size : Int) := by omega
                    have bqp : (qp : Int) < (d0.size : Int) := by omega
                    cases hlv : (ltOf cf) D[ap']! D[qp]! with
                    | true =>
                      have HL := Lib.hid (show a' = 0 ∨ (ltOf cf) D[a' - 1]! D[qp]! = true from Or.inr (by rw [eap]; exact hlv))
                      obtain ⟨x, hx⟩ : ∃ x, x = D[ap']! := ⟨_, rfl⟩
                      obtain ⟨y, hy⟩ : ∃ y, y = D[qp]! := ⟨_, rfl⟩
                      have la := S5.out.cl R (i := ap') (by omega)
                      have lb := S5.out.cl R (i := qp) (by omega)
                      rw [← hx] at la
                      rw [← hy] at lb
                      have hc := S5.out.cmp HC.out x y (by rw [hx]; exact S5.out.mem (by omega)) (by rw [hy]; exact S5.out.mem (by omega))
                      have hd : decide (cf x y < 0) = true := by rw [hx, hy]; exact hlv
                      have hv : cf x y < 0 := of_decide_eq_true hd
                      clear hx hy
                      go_wp2_with fail
                      go_quiet_grown (first | (go_at_fn g; refine Calls.grown_of (hc _ _)))
                      have S52 := Lib.hid (S5.out.grown nq osq)
                      clear la lb hc hd hv
                      generalize grow (wd.drewN nq) osq = w6 at S52 ⊢
                      clear nq osq
                      have H1 := Lib.hid (soPart_call cf g cb blk off cap a' b' qp d0 D w0 w6 eg HC.out R S52.out (by omega) (by omega) hb' hsz)
                      obtain ⟨mid, ap, d4, hx⟩ : ∃ mid ap d4, Sort.partition (ltOf cf) D a' b' qp = (mid, ap, d4) := ⟨_, _, _, rfl⟩
                      obtain ⟨hx1, hx2, hx3, hx4, hx5, hx6⟩ := HQ.out.part HP.out (by rw [HD.out, HQP.out]; exact HL.out) mid ap d4 (by rw [HD.out, HQP.out]; exact hx)
                      rw [HQL.out] at hx5 hx6
                      have HX := Lib.hid (And.intro (And.intro hx3 hx4) (And.intro hx5 hx6))
                      clear hx3 hx4 hx5 hx6
                      rw [hx] at H1
                      clear hx
                      obtain ⟨ll, hll⟩ : ∃ x, mid - a' = x := ⟨_, rfl⟩
                      obtain ⟨rl, hrl⟩ : ∃ x, b' - mid = x := ⟨_, rfl⟩
                      have em1 : ((mid + 1 : Nat) : Int) = (mid : Int) + 1 := by omega
                      have wll : IntKind.i64.wrap ((mid : Int) - (a' : Int)) = (ll : Int) := by rw [IntWalk.i64_in _ (by omega)]; omega
                      have wrl : IntKind.i64.wrap ((b' : Int) - (mid : Int)) = (rl : Int) := by rw [IntWalk.i64_in _ (by omega)]; omega
                      have wm1 : IntKind.i64.wrap ((mid : Int) + 1) = (mid : Int) + 1 := IntWalk.i64_in _ (by omega)
                      go_upto_if 125 with (go_at_call 75; refine H1.out.mono ?_; rintro e1 w7 ⟨rfl, hw7⟩; have S7 := Lib.hid hw7; clear hw7)
                      by_cases h4 : mid - a' < b' - mid
                      · have HF := Lib.hid (HX.out.2.1 h4)
                        have m1 : decide ((ll : Int) < (rl : Int)) = true := decide_eq_true (by omega)
                        have m2 : (ll : Int) < (rl : Int) := by omega
                        have H2 := Lib.hid (IH.out a' mid ql d4 w7 (by omega) S7.out hx1 (by omega) (by omega) HX.out.1.1)
                        have EBX : decide ((ln : Int) / 8 ≤ (ll : Int)) = decide (mid - a' ≥ (b' - a') / 8) := by rw [← hll, ← hln]; exact decide_eq_decide.2 (by omega)
                        have EBY : decide (ln / 8 ≤ ll) = decide (mid - a' ≥ (b' - a') / 8) := by rw [← hll, ← hln]
                        go_wp2_with (go_at_call 54; refine H2.out.mono ?_; rintro e1 w8 ⟨rfl, hw8⟩; have S8 := Lib.hid hw8; clear hw8)
                        exact ⟨⟨mid + 1, b', ql, decide (mid - a' ≥ (b' - a') / 8), ap, pdq (ltOf cf) d4 a' mid ql true true, by omega, hb', by omega, by omega, by rw [em1], rfl, rfl, (by first | with_reducible rfl | exact congrArg Value.bool EBX | exact congrArg Value.bool EBY), rfl, Lib.hid ⟨HF.out.1, S8.out, HF.out.2⟩⟩, by simp only [intOf]; omega⟩
                      · have HF := Lib.hid (HX.out.2.2 h4)
                        have m1 : decide ((ll : Int) < (rl : Int)) = false := decide_eq_false (by omega)
                        have m2 : ¬ (ll : Int) < (rl : Int) := by omega
                        have EBX : decide ((ln : Int) / 8 ≤ (rl : Int)) = decide (b' - mid ≥ (b' - a') / 8) := by rw [← hrl, ← hln]; exact decide_eq_decide.2 (by omega)
                        have EBY : decide (ln / 8 ≤ rl) = decide (b' - mid ≥ (b' - a') / 8) := by rw [← hrl, ← hln]
                        have H2 := Lib.hid (IH.out (mid + 1) b' ql d4 w7 (by omega) S7.out (by omega) hb' (by omega) HX.out.1.2)
                        rw [em1] at H2
                        go_wp2_with (go_at_call 54; refine H2.out.mono ?_; rintro e1 w8 ⟨rfl, hw8⟩; have S8 := Lib.hid hw8; clear hw8)
                        exact ⟨⟨a', mid, ql, decide (b' - mid ≥ (b' - a') / 8), ap, pdq (ltOf cf) d4 (mid + 1) b' ql true true, hx1, by omega, by omega, by omega, rfl, rfl, rfl, (by first | with_reducible rfl | exact congrArg Value.bool EBX | exact congrArg Value.bool EBY), rfl, Lib.hid ⟨HF.out.1, S8.out, HF.out.2⟩⟩, by simp only [intOf]; omega⟩
                    | false =>
                      have HL := Lib.hid (show (ltOf cf) D[a' - 1]! D[qp]! = false from by rw [eap]; exact hlv)
                      obtain ⟨x, hx⟩ : ∃ x, x = D[ap']! := ⟨_, rfl⟩
                      obtain ⟨y, hy⟩ : ∃ y, y = D[qp]! := ⟨_, rfl⟩
                      have la := S5.out.cl R (i := ap') (by omega)
                      have lb := S5.out.cl R (i := qp) (by omega)
                      rw [← hx] at la
                      rw [← hy] at lb
                      have hc := S5.out.cmp HC.out x y (by rw [hx]; exact S5.out.mem (by omega)) (by rw [hy]; exact S5.out.mem (by omega))
                      have hd : decide (cf x y < 0) = false := by rw [hx, hy]; exact hlv
                      have hv : ¬ cf x y < 0 := of_decide_eq_false hd
                      clear hx hy
                      go_wp2_with fail
                      go_quiet_grown (first | (go_at_fn g; refine Calls.grown_of (hc _ _)))
                      have S52 := Lib.hid (S5.out.grown nq osq)
                      clear la lb hc hd hv
                      generalize grow (wd.drewN nq) osq = w6 at S52 ⊢
                      clear nq osq
                      have H1 := Lib.hid (soPeq_call cf g cb blk off cap a' b' qp d0 D w0 w6 eg HC.out R S52.out (by omega) (by omega) hb' hsz)
                      obtain ⟨mid, d4, hx⟩ : ∃ mid d4, partitionEqual (ltOf cf) D a' b' qp = (mid, d4) := ⟨_, _, rfl⟩
                      obtain ⟨hx1, hx2, hx3, hx4⟩ := HQ.out.eq HP.out ha0 (by rw [HD.out, HQP.out]; exact HL.out) mid d4 (by rw [HD.out, HQP.out]; exact hx)
                      rw [HQL.out] at hx4
                      have HX := Lib.hid (And.intro hx3 hx4)
                      clear hx3 hx4
                      rw [hx] at H1
                      clear hx
                      go_wp2_with (go_at_call 74; refine H1.out.mono ?_; rintro e1 w7 ⟨rfl, hw7⟩; have S7 := Lib.hid hw7; clear hw7)
                      exact ⟨⟨mid, b', ql, wb_, wp, d4, hx2, hb', by omega, by omega, rfl, rfl, rfl, rfl, rfl, Lib.hid ⟨HX.out.1, S7.out, HX.out.2⟩⟩, by simp only [intOf]; omega⟩
end Go.Proofs.Ytjpmimanigjjoaa

/- slices.SortFunc at ints, the comparison known at the row's permutations alone: whole. -/
namespace Go.Proofs.Ytjpmimanigjjoaa
open Go.RowKit Go.Maps Go.Sort
attribute [local go_sem] Oper.semAt_some

set_option maxHeartbeats 4000000 in
set_option maxRecDepth 100000 in
theorem soSort_call (cf : Int → Int → Int) (g : FuncId) (cb : Array Value) (hO : SWO (ltOf cf)) (blk off cap : Nat) (d : Array Int) (w : World)
    (eg : ∀ args w, (callFunc g args).run Try.prog w = .ok (.enter g args) w) (hC : CmpP g cb cf blk off d w) (R : Row1 vi w blk off d) (hsz : d.size < 4611686018427387904) :
    Calls Try.prog 31 #[.slice (some ⟨blk, off, none⟩) d.size cap, .func (.func g) #[] cb] w fun e w' => e = .returned (.tuple #[]) ∧ ∃ d', SoW w blk off d d' w' ∧ SortedIn (ltOf cf) 0 d.size d' := by
  have hlim : Lib.bitLen d.size < 4611686018427387904 := Nat.lt_of_le_of_lt (Lib.bitLen_le d.size 62 (by omega) (by omega)) (by omega)
  have HP := Lib.hid (soPdq_call cf g cb hO blk off cap d w eg hC R hsz (d.size + 1) 0 d.size (Lib.bitLen d.size) d w (by omega) (SoW.start R) (Nat.zero_le _) (Nat.le_refl _) hlim (Or.inl rfl))
  have HL : Hid (Calls Try.prog 55 #[.int .u64 (d.size : Int)] w fun e w' => e = .returned (vi (Lib.bitLen d.size : Nat)) ∧ w' = w) := by
    have h := Go.Proofs.Any.bits_Len (Go.Proofs.SlLaysF0.n15.bits (P := Try.prog) (ρ := soLay_ren) { soLay with }) (d.size : Int) w (by omega) (by omega)
    rw [Int.toNat_natCast] at h
    exact Lib.hid h
  have HQ := Lib.hid (pdq_sorts (ltOf cf) hO d 0 d.size (Lib.bitLen d.size) true true (Nat.zero_le _) (Nat.le_refl _) (Or.inl rfl))
  have wr : IntKind.u64.wrap (d.size : Int) = d.size := by simp [IntKind.wrap, IntKind.bits, IntKind.signed]; omega
  generalize Lib.bitLen d.size = bl at *
  clear hC hO hlim
  go_enter Try.func31, Try.ntmps31
  go_wp2_with (first
    | (go_at_call 55; refine HL.out.mono ?_; rintro e1 w1 ⟨rfl, hw1⟩; subst hw1)
    | (go_at_call 54; refine HP.out.mono ?_; rintro e2 w2 ⟨rfl, hw2⟩))
  (first | go_end0 | ((try simp only [Exit.inBlock, Exit.then]); refine bodyPost_ret (results_none rfl _ _ _) rfl ?_))
  exact ⟨rfl, _, hw2, HQ.out.2⟩
set_option maxHeartbeats 4000000 in
set_option maxRecDepth 100000 in
theorem soIns_none (p : Option Addr) (cap : Nat) (f : Value) (w : World) :
    Calls Try.prog 68 #[.slice p 0 cap, vi 0, vi 0, f] w fun e w' => e = .returned (.tuple #[]) ∧ w' = w := by
  go_enter Try.func68, Try.ntmps68
  go_wp2_with fail
  go_loopw [8] (fun u wr => u = vi 1 ∧ wr = w) (fun _ _ => 0)
  case atStart => exact ⟨rfl, rfl⟩
  case round =>
    obtain ⟨rfl, rfl⟩ := hrel
    go_wp2_with fail
    (first | go_end0 | ((try simp only [Exit.inBlock, Exit.then]); refine bodyPost_ret (results_none rfl _ _ _) rfl ?_))
    exact ⟨rfl, rfl⟩
set_option maxHeartbeats 4000000 in
set_option maxRecDepth 100000 in
theorem soPdq_none (p : Option Addr) (cap : Nat) (l : Int) (f : Value) (w : World) :
    Calls Try.prog 54 #[.slice p 0 cap, vi 0, vi 0, vi l, f] w fun e w' => e = .returned (.tuple #[]) ∧ w' = w := by
  go_enter Try.func54, Try.ntmps54
  go_wp2_with fail
  go_loopw [1, 2, 3, 10, 11] (fun s1 s2 s3 s8 s9 wr => s1 = vi 0 ∧ s2 = vi 0 ∧ s3 = vi l ∧ s8 = .bool true ∧ s9 = .bool true ∧ wr = w) (fun _ _ _ _ _ _ => 0)
  case atStart => exact ⟨rfl, rfl, rfl, rfl, rfl, rfl⟩
  case round =>
    obtain ⟨rfl, rfl, rfl, rfl, rfl, rfl⟩ := hrel
    go_wp2_with (go_at_call 68; refine (soIns_none p cap f _).mono ?_; rintro e1 w1 ⟨rfl, rfl⟩)
    (first | go_end0 | ((try simp only [Exit.inBlock, Exit.then]); refine bodyPost_ret (results_none rfl _ _ _) rfl ?_))
    exact ⟨rfl, rfl⟩
set_option maxHeartbeats 4000000 in
set_option maxRecDepth 100000 in
theorem soSort_none (p : Option Addr) (cap : Nat) (f : Value) (w : World) :
    Calls Try.prog 31 #[.slice p 0 cap, f] w fun e w' => e = .returned (.tuple #[]) ∧ w' = w := by
  have HL : Hid (Calls Try.prog 55 #[.int .u64 0] w fun e w' => e = .returned (vi 0) ∧ w' = w) := by
    have h := Go.Proofs.Any.bits_Len (Go.Proofs.SlLaysF0.n15.bits (P := Try.prog) (ρ := soLay_ren) { soLay with }) 0 w (by omega) (by omega)
    exact Lib.hid h
  have wr : IntKind.u64.wrap 0 = 0 := by rfl
  go_enter Try.func31, Try.ntmps31
  go_wp2_with (first
    | (go_at_call 55; refine HL.out.mono ?_; rintro e1 w1 ⟨rfl, hw1⟩; subst hw1)
    | (go_at_call 54; refine (soPdq_none p cap 0 f _).mono ?_; rintro e2 w2 ⟨rfl, rfl⟩))
  (first | go_end0 | ((try simp only [Exit.inBlock, Exit.then]); refine bodyPost_ret (results_none rfl _ _ _) rfl ?_))
  exact ⟨rfl, rfl⟩
end Go.Proofs.Ytjpmimanigjjoaa
