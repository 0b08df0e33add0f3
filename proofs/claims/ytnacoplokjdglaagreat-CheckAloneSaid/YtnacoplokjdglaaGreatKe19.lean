/- Texts of one proof, one behind the other: SoPart, SoLay, SoBrk. -/
import Derived.Shelf.SlSortCmp.Insertion
import Derived.Shelf.SlGeneric
import Derived.Shelf.SlLaysF
import Derived.Test.YtnacoplokjdglaaGreatProg
import Derived.Shelf.SlSortCmp.BreakPatterns1
import Derived.Sort.LotD1
import Derived.Test.YtnacoplokjdglaaGreatKe1
import Derived.Test.YtnacoplokjdglaaGreatKe2
import Derived.Test.YtnacoplokjdglaaGreatKe3
import Derived.Test.YtnacoplokjdglaaGreatKe16
import Derived.Test.YtnacoplokjdglaaGreatKe17
set_option linter.all false
namespace Go.Proofs.YtnacoplokjdglaaGreat
open Go.RowKit Go.Maps Go.Sort
attribute [local go_sem] Oper.semAt_some

theorem pt_end {lt : Int → Int → Bool} {d : Array Int} {a b pv i2 j2 : Nat} (h1 : scanUp (fun x => lt x (Sort.swp d a pv)[a]!) (Sort.swp d a pv) (b - 1) (a + 1) = i2) (h2 : scanDown (fun x => !lt x (Sort.swp d a pv)[a]!) (Sort.swp d a pv) i2 (b - 1) = j2) (h : j2 < i2) :
    Sort.partition lt d a b pv = (j2, true, Sort.swp (Sort.swp d a pv) j2 a) := by
  unfold Sort.partition
  simp only [h1, h2]
  rw [if_pos h]
theorem pt_go {lt : Int → Int → Bool} {d : Array Int} {a b pv i2 j2 : Nat} (h1 : scanUp (fun x => lt x (Sort.swp d a pv)[a]!) (Sort.swp d a pv) (b - 1) (a + 1) = i2) (h2 : scanDown (fun x => !lt x (Sort.swp d a pv)[a]!) (Sort.swp d a pv) i2 (b - 1) = j2) (h : ¬ j2 < i2) :
    Sort.partition lt d a b pv = ((partLoop lt a (i2 + 1) (j2 - 1) (Sort.swp (Sort.swp d a pv) i2 j2)).1, false, Sort.swp (partLoop lt a (i2 + 1) (j2 - 1) (Sort.swp (Sort.swp d a pv) i2 j2)).2 (partLoop lt a (i2 + 1) (j2 - 1) (Sort.swp (Sort.swp d a pv) i2 j2)).1 a) := by
  unfold Sort.partition
  simp only [h1, h2]
  rw [if_neg h]

set_option maxHeartbeats 32000000 in
set_option maxRecDepth 100000 in
theorem soPart_call (cf : Int → Int → Int) (g : FuncId) (cb : Array Value) (blk off cap a b pv : Nat) (d0 d : Array Int) (w0 w : World)
    (eg : ∀ args w, (callFunc g args).run Tryz.prog w = .ok (.enter g args) w) (hC : CmpP g cb cf blk off d0 w0) (R : Row1 vi w0 blk off d0) (hS : SoW w0 blk off d0 d w) (hap : a ≤ pv) (hpb : pv < b) (hb : b ≤ d0.size) (hsz : d0.size < 4611686018427387904) :
    Calls Tryz.prog 112 #[.slice (some ⟨blk, off, none⟩) d0.size cap, vi a, vi b, vi pv, .func (.func g) #[] cb] w fun e w' =>
      e = .returned (.tuple #[vi (Sort.partition (ltOf cf) d a b pv).1, .bool (Sort.partition (ltOf cf) d a b pv).2.1]) ∧ SoW w0 blk off d0 (Sort.partition (ltOf cf) d a b pv).2.2 w' := by
  have HC := Lib.hid hC
  have HS := Lib.hid hS
  have mixed : Tryz.prog.follows .mixedOrders = true := by kernel_rfl
  clear hC hS
  obtain ⟨RR, hRR⟩ : ∃ r, Sort.partition (ltOf cf) d a b pv = r := ⟨_, rfl⟩
  rw [hRR]
  obtain ⟨D1, hD1⟩ : ∃ x, Sort.swp d a pv = x := ⟨_, rfl⟩
  obtain ⟨a1, ha1⟩ : ∃ x, a + 1 = x := ⟨_, rfl⟩
  obtain ⟨b1, hb1⟩ : ∃ x, b - 1 = x := ⟨_, rfl⟩
  have HP1 := Lib.hid (show ∀ i2 j2, scanUp (fun x => (ltOf cf) x D1[a]!) D1 b1 a1 = i2 → scanDown (fun x => !(ltOf cf) x D1[a]!) D1 i2 b1 = j2 → j2 < i2 → RR = (j2, true, Sort.swp D1 j2 a) from by
    rw [← hD1, ← ha1, ← hb1, ← hRR]; exact fun _ _ h1 h2 h => pt_end h1 h2 h)
  have HP2 := Lib.hid (show ∀ i2 j2, scanUp (fun x => (ltOf cf) x D1[a]!) D1 b1 a1 = i2 → scanDown (fun x => !(ltOf cf) x D1[a]!) D1 i2 b1 = j2 → ¬ j2 < i2 → ∃ r, partLoop (ltOf cf) a (i2 + 1) (j2 - 1) (Sort.swp D1 i2 j2) = r ∧ RR = (r.1, false, Sort.swp r.2 r.1 a) from by
    rw [← hD1, ← ha1, ← hb1, ← hRR]; exact fun _ _ h1 h2 h => ⟨_, rfl, pt_go h1 h2 h⟩)
  have wa1 : IntKind.i64.wrap ((a : Int) + 1) = (a1 : Int) := by rw [IntWalk.i64_in _ (by omega)]; omega
  have wb1 : IntKind.i64.wrap ((b : Int) - 1) = (b1 : Int) := by rw [IntWalk.i64_in _ (by omega)]; omega
  have ba : (a : Int) < (d0.size : Int) := by omega
  have bp : (pv : Int) < (d0.size : Int) := by omega
  clear hRR
  go_enter Tryz.func112, Tryz.ntmps112
  go_upto_region 1 with fail
  have HS3 := Lib.hid (HS.out.swp R (i := a) (j := pv) (by omega) (by omega))
  have ca := HS.out.c1 R (i := a) (by omega)
  have cb2 := HS.out.c1 R (i := pv) (by omega)
  have fa := HS.out.f1 R (i := a) (by omega)
  have fb := HS.out.f1 R (i := pv) (by omega)
  obtain ⟨ux, hux⟩ : ∃ x, x = d[a]! := ⟨_, rfl⟩
  obtain ⟨uy, huy⟩ : ∃ y, y = d[pv]! := ⟨_, rfl⟩
  obtain ⟨u2, cc⟩ := HS.out.c2 R (i := a) (j := pv) (by omega) (by omega) (vi uy)
  rw [← hux] at ca HS3
  rw [← huy] at cb2 HS3
  clear hux huy
  go_wp2_with fail
  go_big_region_o
  clear ca cb2 fa fb cc
  generalize ((w.setCell ⟨blk, off + a, none⟩ (vi uy)).setCell ⟨blk, off + pv, none⟩ (vi ux)).drew = w3 at HS3 ⊢
  rw [hD1] at HS3
  clear hD1
  go_wp2_with fail
  go_loopw [12] (fun u wr => ∃ i' : Nat, a1 ≤ i' ∧ i' ≤ b1 + 2 ∧ u = vi i' ∧ Hid (SoW w0 blk off d0 D1 wr ∧ scanUp (fun x => (ltOf cf) x D1[a]!) D1 b1 i' = scanUp (fun x => (ltOf cf) x D1[a]!) D1 b1 a1)) (fun u _ => b1 + 2 - (intOf u).toNat)
  case atStart => exact ⟨a1, Nat.le_refl _, by omega, rfl, Lib.hid ⟨HS3.out, rfl⟩⟩
  case round =>
    clear HS3
    obtain ⟨wi1, rfl⟩ : ∃ wi : World, wi = wr := ⟨_, rfl⟩
    obtain ⟨x1, hax1, hbx1, rfl, HJ⟩ := hrel
    have HA1 := Lib.hid HJ.out.2
    have SA1 := Lib.hid HJ.out.1
    clear HJ
    by_cases hle : x1 ≤ b1
    · have k1 : decide ((x1 : Int) ≤ (b1 : Int)) = true := decide_eq_true (by omega)
      have k2 : (x1 : Int) ≤ (b1 : Int) := by omega
      have bi1 : (x1 : Int) < (d0.size : Int) := by omega
      cases hlv : (ltOf cf) D1[x1]! D1[a]! with
      | true =>
        have HN := Lib.hid (scanUp_go (p := (fun x => (ltOf cf) x D1[a]!)) (d := D1) (j := b1) (i := x1) hle (by simp [hlv]))
        obtain ⟨z2, hx3⟩ : ∃ x, x1 + 1 = x := ⟨_, rfl⟩
        rw [hx3] at HN
        have wz2 : IntKind.i64.wrap ((x1 : Int) + 1) = (z2 : Int) := by rw [IntWalk.i64_in _ (by omega)]; omega
        obtain ⟨x, hx⟩ : ∃ x, x = D1[x1]! := ⟨_, rfl⟩
        obtain ⟨y, hy⟩ : ∃ y, y = D1[a]! := ⟨_, rfl⟩
        have la := SA1.out.cl R (i := x1) (by omega)
        have lb := SA1.out.cl R (i := a) (by omega)
        rw [← hx] at la
        rw [← hy] at lb
        have hc := SA1.out.cmp HC.out x y (by rw [hx]; exact SA1.out.mem (by omega)) (by rw [hy]; exact SA1.out.mem (by omega))
        have hd : decide (cf x y < 0) = true := by rw [hx, hy]; exact hlv
        have hv : cf x y < 0 := of_decide_eq_true hd
        clear hx hy
        go_wp2_with fail
        go_quiet_grown (first | (go_at_fn g; refine Calls.grown_of (hc _ _)))
        have SA12 := Lib.hid (SA1.out.grown nq osq)
        clear la lb hc hd hv
        generalize grow (wi1.drewN nq) osq = w4 at SA12 ⊢
        clear nq osq
        go_wp2_with fail
        exact ⟨⟨z2, by omega, by omega, rfl, Lib.hid ⟨SA12.out, by rw [← HA1.out, HN.out]⟩⟩, by simp only [intOf]; omega⟩
      | false =>
        have HU1 := Lib.hid (show scanUp (fun x => (ltOf cf) x D1[a]!) D1 b1 a1 = x1 from by rw [← HA1.out]; exact scanUp_stop (Or.inr (by simp [hlv])))
        obtain ⟨x, hx⟩ : ∃ x, x = D1[x1]! := ⟨_, rfl⟩
        obtain ⟨y, hy⟩ : ∃ y, y = D1[a]! := ⟨_, rfl⟩
        have la := SA1.out.cl R (i := x1) (by omega)
        have lb := SA1.out.cl R (i := a) (by omega)
        rw [← hx] at la
        rw [← hy] at lb
        have hc := SA1.out.cmp HC.out x y (by rw [hx]; exact SA1.out.mem (by omega)) (by rw [hy]; exact SA1.out.mem (by omega))
        have hd : decide (cf x y < 0) = false := by rw [hx, hy]; exact hlv
        have hv : ¬ cf x y < 0 := of_decide_eq_false hd
        clear hx hy
        go_wp2_with fail
        go_quiet_grown (first | (go_at_fn g; refine Calls.grown_of (hc _ _)))
        have SA12 := Lib.hid (SA1.out.grown nq osq)
        clear la lb hc hd hv
        generalize grow (wi1.drewN nq) osq = w41 at SA12 ⊢
        clear nq osq
        go_wp2_with fail
        go_loopw [13] (fun u wr => ∃ j' : Nat, j' ≤ b1 ∧ x1 ≤ j' + 2 ∧ u = vi j' ∧ Hid (SoW w0 blk off d0 D1 wr ∧ scanDown (fun x => !(ltOf cf) x D1[a]!) D1 x1 j' = scanDown (fun x => !(ltOf cf) x D1[a]!) D1 x1 b1)) (fun u _ => (intOf u).toNat)
        case atStart => exact ⟨b1, Nat.le_refl _, hbx1, rfl, Lib.hid ⟨SA12.out, rfl⟩⟩
        case round =>
          clear SA12
          obtain ⟨wq1, rfl⟩ : ∃ wq : World, wq = wr := ⟨_, rfl⟩
          obtain ⟨y1, hay1, hby1, rfl, HJ⟩ := hrel
          have HB1 := Lib.hid HJ.out.2
          have SB1 := Lib.hid HJ.out.1
          clear HJ
          by_cases hle2 : x1 ≤ y1
          · have l1 : decide ((x1 : Int) ≤ (y1 : Int)) = true := decide_eq_true (by omega)
            have l2 : (x1 : Int) ≤ (y1 : Int) := by omega
            have bj1 : (y1 : Int) < (d0.size : Int) := by omega
            cases hlv : (ltOf cf) D1[y1]! D1[a]! with
            | false =>
              have HN := Lib.hid (scanDown_go (p := (fun x => !(ltOf cf) x D1[a]!)) (d := D1) (i := x1) (j := y1) (by omega) hle2 (by simp [hlv]))
              obtain ⟨z2, hy3⟩ : ∃ x, y1 - 1 = x := ⟨_, rfl⟩
              rw [hy3] at HN
              have wz2 : IntKind.i64.wrap ((y1 : Int) - 1) = (z2 : Int) := by rw [IntWalk.i64_in _ (by omega)]; omega
              obtain ⟨x, hx⟩ : ∃ x, x = D1[y1]! := ⟨_, rfl⟩
              obtain ⟨y, hy⟩ : ∃ y, y = D1[a]! := ⟨_, rfl⟩
              have la := SB1.out.cl R (i := y1) (by omega)
              have lb := SB1.out.cl R (i := a) (by omega)
              rw [← hx] at la
              rw [← hy] at lb
              have hc := SB1.out.cmp HC.out x y (by rw [hx]; exact SB1.out.mem (by omega)) (by rw [hy]; exact SB1.out.mem (by omega))
              have hd : decide (cf x y < 0) = false := by rw [hx, hy]; exact hlv
              have hv : ¬ cf x y < 0 := of_decide_eq_false hd
              clear hx hy
              go_wp2_with fail
              go_quiet_grown (first | (go_at_fn g; refine Calls.grown_of (hc _ _)))
              have SB12 := Lib.hid (SB1.out.grown nq osq)
              clear la lb hc hd hv
              generalize grow (wq1.drewN nq) osq = w5 at SB12 ⊢
              clear nq osq
              go_wp2_with fail
              exact ⟨⟨z2, by omega, by omega, rfl, Lib.hid ⟨SB12.out, by rw [← HB1.out, HN.out]⟩⟩, by simp only [intOf]; omega⟩
            | true =>
              have HD1 := Lib.hid (show scanDown (fun x => !(ltOf cf) x D1[a]!) D1 x1 b1 = y1 from by rw [← HB1.out]; exact scanDown_stop (Or.inr (by simp [hlv])))
              obtain ⟨x, hx⟩ : ∃ x, x = D1[y1]! := ⟨_, rfl⟩
              obtain ⟨y, hy⟩ : ∃ y, y = D1[a]! := ⟨_, rfl⟩
              have la := SB1.out.cl R (i := y1) (by omega)
              have lb := SB1.out.cl R (i := a) (by omega)
              rw [← hx] at la
              rw [← hy] at lb
              have hc := SB1.out.cmp HC.out x y (by rw [hx]; exact SB1.out.mem (by omega)) (by rw [hy]; exact SB1.out.mem (by omega))
              have hd : decide (cf x y < 0) = true := by rw [hx, hy]; exact hlv
              have hv : cf x y < 0 := of_decide_eq_true hd
              clear hx hy
              go_wp2_with fail
              go_quiet_grown (first | (go_at_fn g; refine Calls.grown_of (hc _ _)))
              have SB12 := Lib.hid (SB1.out.grown nq osq)
              clear la lb hc hd hv
              generalize grow (wq1.drewN nq) osq = w51 at SB12 ⊢
              clear nq osq
              have hgt : ¬ y1 < x1 := by omega
              have g1 : decide ((y1 : Int) < (x1 : Int)) = false := decide_eq_false (by omega)
              have g2 : ¬ (y1 : Int) < (x1 : Int) := by omega
              obtain ⟨PR, hPR, hRP⟩ := HP2.out _ _ HU1.out HD1.out hgt
              have HR2 := Lib.hid hRP
              clear hRP HP1 HP2
              obtain ⟨x3, hx3⟩ : ∃ x, x1 + 1 = x := ⟨_, rfl⟩
              obtain ⟨y3, hy3⟩ : ∃ x, y1 - 1 = x := ⟨_, rfl⟩
              rw [hx3, hy3] at hPR
              have HO0 := Lib.hid hPR
              clear hPR
              have wx3 : IntKind.i64.wrap ((x1 : Int) + 1) = (x3 : Int) := by rw [IntWalk.i64_in _ (by omega)]; omega
              have wy3 : IntKind.i64.wrap ((y1 : Int) - 1) = (y3 : Int) := by rw [IntWalk.i64_in _ (by omega)]; omega
              go_wp2_with fail
              have SB123 := Lib.hid (SB12.out.swp R (i := x1) (j := y1) (by omega) (by omega))
              have ca := SB12.out.c1 R (i := x1) (by omega)
              have cb2 := SB12.out.c1 R (i := y1) (by omega)
              have fa := SB12.out.f1 R (i := x1) (by omega)
              have fb := SB12.out.f1 R (i := y1) (by omega)
              obtain ⟨ux, hux⟩ : ∃ x, x = D1[x1]! := ⟨_, rfl⟩
              obtain ⟨uy, huy⟩ : ∃ y, y = D1[y1]! := ⟨_, rfl⟩
              obtain ⟨u2, cc⟩ := SB12.out.c2 R (i := x1) (j := y1) (by omega) (by omega) (vi uy)
              rw [← hux] at ca SB123
              rw [← huy] at cb2 SB123
              clear hux huy
              go_wp2_with fail
              go_big_region_o
              clear ca cb2 fa fb cc
              generalize ((w51.setCell ⟨blk, off + x1, none⟩ (vi uy)).setCell ⟨blk, off + y1, none⟩ (vi ux)).drew = w6 at SB123 ⊢
              go_wp2_with fail
              go_loopw [12, 13] (fun u v wr => ∃ (i j : Nat) (dk : Array Int), a < i ∧ i ≤ b ∧ j < b ∧ i ≤ j + 2 ∧ u = vi i ∧ v = vi j ∧ Hid (SoW w0 blk off d0 dk wr ∧ partLoop (ltOf cf) a i j dk = PR)) (fun u v _ => (intOf v).toNat + 2 + b - (intOf u).toNat)
              case atStart => exact ⟨x3, y3, _, by omega, by omega, by omega, by omega, rfl, rfl, Lib.hid ⟨SB123.out, HO0.out⟩⟩
              case round =>
                clear SB123 HO0 HU1 HD1
                obtain ⟨wj, rfl⟩ : ∃ wj : World, wj = wr := ⟨_, rfl⟩
                obtain ⟨i, j, dk, hai, hib, hjb, hij, rfl, rfl, HJ⟩ := hrel
                have HO := Lib.hid HJ.out.2
                have S0 := Lib.hid HJ.out.1
                clear HJ
                go_wp2_with fail
                go_loopw [12] (fun u wr => ∃ i' : Nat, i ≤ i' ∧ i' ≤ j + 2 ∧ u = vi i' ∧ Hid (SoW w0 blk off d0 dk wr ∧ scanUp (fun x => (ltOf cf) x dk[a]!) dk j i' = scanUp (fun x => (ltOf cf) x dk[a]!) dk j i)) (fun u _ => j + 2 - (intOf u).toNat)
                case atStart => exact ⟨i, Nat.le_refl _, by omega, rfl, Lib.hid ⟨S0.out, rfl⟩⟩
                case round =>
                  clear S0
                  obtain ⟨wi2, rfl⟩ : ∃ wi : World, wi = wr := ⟨_, rfl⟩
                  obtain ⟨x2, hax2, hbx2, rfl, HJ⟩ := hrel
                  have HA2 := Lib.hid HJ.out.2
                  have SA2 := Lib.hid HJ.out.1
                  clear HJ
                  by_cases hle : x2 ≤ j
                  · have k1 : decide ((x2 : Int) ≤ (j : Int)) = true := decide_eq_true (by omega)
                    have k2 : (x2 : Int) ≤ (j : Int) := by omega
                    have bi2 : (x2 : Int) < (d0.size : Int) := by omega
                    cases hlv : (ltOf cf) dk[x2]! dk[a]! with
                    | true =>
                      have HN := Lib.hid (scanUp_go (p := (fun x => (ltOf cf) x dk[a]!)) (d := dk) (j := j) (i := x2) hle (by simp [hlv]))
                      obtain ⟨z2, hx3⟩ : ∃ x, x2 + 1 = x := ⟨_, rfl⟩
                      rw [hx3] at HN
                      have wz2 : IntKind.i64.wrap ((x2 : Int) + 1) = (z2 : Int) := by rw [IntWalk.i64_in _ (by omega)]; omega
                      obtain ⟨x, hx⟩ : ∃ x, x = dk[x2]! := ⟨_, rfl⟩
                      obtain ⟨y, hy⟩ : ∃ y, y = dk[a]! := ⟨_, rfl⟩
                      have la := SA2.out.cl R (i := x2) (by omega)
                      have lb := SA2.out.cl R (i := a) (by omega)
                      rw [← hx] at la
                      rw [← hy] at lb
                      have hc := SA2.out.cmp HC.out x y (by rw [hx]; exact SA2.out.mem (by omega)) (by rw [hy]; exact SA2.out.mem (by omega))
                      have hd : decide (cf x y < 0) = true := by rw [hx, hy]; exact hlv
                      have hv : cf x y < 0 := of_decide_eq_true hd
                      clear hx hy
                      go_wp2_with fail
                      go_quiet_grown (first | (go_at_fn g; refine Calls.grown_of (hc _ _)))
                      have SA22 := Lib.hid (SA2.out.grown nq osq)
                      clear la lb hc hd hv
                      generalize grow (wi2.drewN nq) osq = w4 at SA22 ⊢
                      clear nq osq
                      go_wp2_with fail
                      exact ⟨⟨z2, by omega, by omega, rfl, Lib.hid ⟨SA22.out, by rw [← HA2.out, HN.out]⟩⟩, by simp only [intOf]; omega⟩
                    | false =>
                      have HU2 := Lib.hid (show scanUp (fun x => (ltOf cf) x dk[a]!) dk j i = x2 from by rw [← HA2.out]; exact scanUp_stop (Or.inr (by simp [hlv])))
                      obtain ⟨x, hx⟩ : ∃ x, x = dk[x2]! := ⟨_, rfl⟩
                      obtain ⟨y, hy⟩ : ∃ y, y = dk[a]! := ⟨_, rfl⟩
                      have la := SA2.out.cl R (i := x2) (by omega)
                      have lb := SA2.out.cl R (i := a) (by omega)
                      rw [← hx] at la
                      rw [← hy] at lb
                      have hc := SA2.out.cmp HC.out x y (by rw [hx]; exact SA2.out.mem (by omega)) (by rw [hy]; exact SA2.out.mem (by omega))
                      have hd : decide (cf x y < 0) = false := by rw [hx, hy]; exact hlv
                      have hv : ¬ cf x y < 0 := of_decide_eq_false hd
                      clear hx hy
                      go_wp2_with fail
                      go_quiet_grown (first | (go_at_fn g; refine Calls.grown_of (hc _ _)))
                      have SA22 := Lib.hid (SA2.out.grown nq osq)
                      clear la lb hc hd hv
                      generalize grow (wi2.drewN nq) osq = w42 at SA22 ⊢
                      clear nq osq
                      go_wp2_with fail
                      go_loopw [13] (fun u wr => ∃ j' : Nat, j' ≤ j ∧ x2 ≤ j' + 2 ∧ u = vi j' ∧ Hid (SoW w0 blk off d0 dk wr ∧ scanDown (fun x => !(ltOf cf) x dk[a]!) dk x2 j' = scanDown (fun x => !(ltOf cf) x dk[a]!) dk x2 j)) (fun u _ => (intOf u).toNat)
                      case atStart => exact ⟨j, Nat.le_refl _, hbx2, rfl, Lib.hid ⟨SA22.out, rfl⟩⟩
                      case round =>
                        clear SA22
                        obtain ⟨wq2, rfl⟩ : ∃ wq : World, wq = wr := ⟨_, rfl⟩
                        obtain ⟨y2, hay2, hby2, rfl, HJ⟩ := hrel
                        have HB2 := Lib.hid HJ.out.2
                        have SB2 := Lib.hid HJ.out.1
                        clear HJ
                        by_cases hle2 : x2 ≤ y2
                        · have l1 : decide ((x2 : Int) ≤ (y2 : Int)) = true := decide_eq_true (by omega)
                          have l2 : (x2 : Int) ≤ (y2 : Int) := by omega
                          have bj2 : (y2 : Int) < (d0.size : Int) := by omega
                          cases hlv : (ltOf cf) dk[y2]! dk[a]! with
                          | false =>
                            have HN := Lib.hid (scanDown_go (p := (fun x => !(ltOf cf) x dk[a]!)) (d := dk) (i := x2) (j := y2) (by omega) hle2 (by simp [hlv]))
                            obtain ⟨z2, hy3⟩ : ∃ x, y2 - 1 = x := ⟨_, rfl⟩
                            rw [hy3] at HN
                            have wz2 : IntKind.i64.wrap ((y2 : Int) - 1) = (z2 : Int) := by rw [IntWalk.i64_in _ (by omega)]; omega
                            obtain ⟨x, hx⟩ : ∃ x, x = dk[y2]! := ⟨_, rfl⟩
                            obtain ⟨y, hy⟩ : ∃ y, y = dk[a]! := ⟨_, rfl⟩
                            have la := SB2.out.cl R (i := y2) (by omega)
                            have lb := SB2.out.cl R (i := a) (by omega)
                            rw [← hx] at la
                            rw [← hy] at lb
                            have hc := SB2.out.cmp HC.out x y (by rw [hx]; exact SB2.out.mem (by omega)) (by rw [hy]; exact SB2.out.mem (by omega))
                            have hd : decide (cf x y < 0) = false := by rw [hx, hy]; exact hlv
                            have hv : ¬ cf x y < 0 := of_decide_eq_false hd
                            clear hx hy
                            go_wp2_with fail
                            go_quiet_grown (first | (go_at_fn g; refine Calls.grown_of (hc _ _)))
                            have SB22 := Lib.hid (SB2.out.grown nq osq)
                            clear la lb hc hd hv
                            generalize grow (wq2.drewN nq) osq = w5 at SB22 ⊢
                            clear nq osq
                            go_wp2_with fail
                            exact ⟨⟨z2, by omega, by omega, rfl, Lib.hid ⟨SB22.out, by rw [← HB2.out, HN.out]⟩⟩, by simp only [intOf]; omega⟩
                          | true =>
                            have HD2 := Lib.hid (show scanDown (fun x => !(ltOf cf) x dk[a]!) dk x2 j = y2 from by rw [← HB2.out]; exact scanDown_stop (Or.inr (by simp [hlv])))
                            obtain ⟨x, hx⟩ : ∃ x, x = dk[y2]! := ⟨_, rfl⟩
                            obtain ⟨y, hy⟩ : ∃ y, y = dk[a]! := ⟨_, rfl⟩
                            have la := SB2.out.cl R (i := y2) (by omega)
                            have lb := SB2.out.cl R (i := a) (by omega)
                            rw [← hx] at la
                            rw [← hy] at lb
                            have hc := SB2.out.cmp HC.out x y (by rw [hx]; exact SB2.out.mem (by omega)) (by rw [hy]; exact SB2.out.mem (by omega))
                            have hd : decide (cf x y < 0) = true := by rw [hx, hy]; exact hlv
                            have hv : cf x y < 0 := of_decide_eq_true hd
                            clear hx hy
                            go_wp2_with fail
                            go_quiet_grown (first | (go_at_fn g; refine Calls.grown_of (hc _ _)))
                            have SB22 := Lib.hid (SB2.out.grown nq osq)
                            clear la lb hc hd hv
                            generalize grow (wq2.drewN nq) osq = w52 at SB22 ⊢
                            clear nq osq
                            have hgt : ¬ y2 < x2 := by omega
                            have g1 : decide ((y2 : Int) < (x2 : Int)) = false := decide_eq_false (by omega)
                            have g2 : ¬ (y2 : Int) < (x2 : Int) := by omega
                            have HE := Lib.hid (pl_go (lt := ltOf cf) HU2.out HD2.out hgt hax2 hay2 (by omega))
                            obtain ⟨x3, hx3⟩ : ∃ x, x2 + 1 = x := ⟨_, rfl⟩
                            obtain ⟨y3, hy3⟩ : ∃ x, y2 - 1 = x := ⟨_, rfl⟩
                            rw [hx3, hy3] at HE
                            have wx3 : IntKind.i64.wrap ((x2 : Int) + 1) = (x3 : Int) := by rw [IntWalk.i64_in _ (by omega)]; omega
                            have wy3 : IntKind.i64.wrap ((y2 : Int) - 1) = (y3 : Int) := by rw [IntWalk.i64_in _ (by omega)]; omega
                            go_wp2_with fail
                            have SB223 := Lib.hid (SB22.out.swp R (i := x2) (j := y2) (by omega) (by omega))
                            have ca := SB22.out.c1 R (i := x2) (by omega)
                            have cb2 := SB22.out.c1 R (i := y2) (by omega)
                            have fa := SB22.out.f1 R (i := x2) (by omega)
                            have fb := SB22.out.f1 R (i := y2) (by omega)
                            obtain ⟨ux, hux⟩ : ∃ x, x = dk[x2]! := ⟨_, rfl⟩
                            obtain ⟨uy, huy⟩ : ∃ y, y = dk[y2]! := ⟨_, rfl⟩
                            obtain ⟨u2, cc⟩ := SB22.out.c2 R (i := x2) (j := y2) (by omega) (by omega) (vi uy)
                            rw [← hux] at ca SB223
                            rw [← huy] at cb2 SB223
                            clear hux huy
                            go_wp2_with fail
                            go_big_region_o
                            clear ca cb2 fa fb cc
                            generalize ((w52.setCell ⟨blk, off + x2, none⟩ (vi uy)).setCell ⟨blk, off + y2, none⟩ (vi ux)).drew = w9 at SB223 ⊢
                            go_wp2_with fail
                            exact ⟨⟨x3, y3, Sort.swp dk x2 y2, by omega, by omega, by omega, by omega, rfl, rfl, Lib.hid ⟨SB223.out, by rw [← HO.out, HE.out]⟩⟩, by simp only [intOf]; omega⟩
                        · have l1 : decide ((x2 : Int) ≤ (y2 : Int)) = false := decide_eq_false (by omega)
                          have l2 : ¬ (x2 : Int) ≤ (y2 : Int) := by omega
                          have HD2 := Lib.hid (show scanDown (fun x => !(ltOf cf) x dk[a]!) dk x2 j = y2 from by rw [← HB2.out]; exact scanDown_stop (Or.inl (by omega)))
                          go_wp2_with fail
                          go_big_region_o
                          have SB22 := Lib.hid SB2.out.drew
                          clear SB2
                          generalize wq2.drew = w52 at SB22 ⊢
                          have hgt : y2 < x2 := by omega
                          have g1 : decide ((y2 : Int) < (x2 : Int)) = true := decide_eq_true (by omega)
                          have g2 : (y2 : Int) < (x2 : Int) := by omega
                          have bj2 : (y2 : Int) < (d0.size : Int) := by omega
                          have HE := Lib.hid (pl_end (lt := ltOf cf) HU2.out HD2.out hgt)
                          go_wp2_with fail
                          have SB223 := Lib.hid (SB22.out.swp R (i := y2) (j := a) (by omega) (by omega))
                          have ca := SB22.out.c1 R (i := y2) (by omega)
                          have cb2 := SB22.out.c1 R (i := a) (by omega)
                          have fa := SB22.out.f1 R (i := y2) (by omega)
                          have fb := SB22.out.f1 R (i := a) (by omega)
                          obtain ⟨ux, hux⟩ : ∃ x, x = dk[y2]! := ⟨_, rfl⟩
                          obtain ⟨uy, huy⟩ : ∃ y, y = dk[a]! := ⟨_, rfl⟩
                          obtain ⟨u2, cc⟩ := SB22.out.c2 R (i := y2) (j := a) (by omega) (by omega) (vi uy)
                          rw [← hux] at ca SB223
                          rw [← huy] at cb2 SB223
                          clear hux huy
                          go_wp2_with fail
                          go_big_region_o
                          clear ca cb2 fa fb cc
                          generalize ((w52.setCell ⟨blk, off + y2, none⟩ (vi uy)).setCell ⟨blk, off + a, none⟩ (vi ux)).drew = w9 at SB223 ⊢
                          go_wp2_with fail
                          go_ret2
                          exact ⟨by rw [HR2.out, ← HO.out, HE.out]; rfl, by rw [HR2.out, ← HO.out, HE.out]; exact SB223.out⟩
                  · have k1 : decide ((x2 : Int) ≤ (j : Int)) = false := decide_eq_false (by omega)
                    have k2 : ¬ (x2 : Int) ≤ (j : Int) := by omega
                    have HU2 := Lib.hid (show scanUp (fun x => (ltOf cf) x dk[a]!) dk j i = x2 from by rw [← HA2.out]; exact scanUp_stop (Or.inl (by omega)))
                    go_wp2_with fail
                    go_big_region_o
                    have SA22 := Lib.hid SA2.out.drew
                    clear SA2
                    generalize wi2.drew = w42 at SA22 ⊢
                    go_wp2_with fail
                    go_loopw [13] (fun u wr => ∃ j' : Nat, j' ≤ j ∧ x2 ≤ j' + 2 ∧ u = vi j' ∧ Hid (SoW w0 blk off d0 dk wr ∧ scanDown (fun x => !(ltOf cf) x dk[a]!) dk x2 j' = scanDown (fun x => !(ltOf cf) x dk[a]!) dk x2 j)) (fun u _ => (intOf u).toNat)
                    case atStart => exact ⟨j, Nat.le_refl _, hbx2, rfl, Lib.hid ⟨SA22.out, rfl⟩⟩
                    case round =>
                      clear SA22
                      obtain ⟨wq2, rfl⟩ : ∃ wq : World, wq = wr := ⟨_, rfl⟩
                      obtain ⟨y2, hay2, hby2, rfl, HJ⟩ := hrel
                      have HB2 := Lib.hid HJ.out.2
                      have SB2 := Lib.hid HJ.out.1
                      clear HJ
                      by_cases hle2 : x2 ≤ y2
                      · exact absurd hle2 (by omega)
                      · have l1 : decide ((x2 : Int) ≤ (y2 : Int)) = false := decide_eq_false (by omega)
                        have l2 : ¬ (x2 : Int) ≤ (y2 : Int) := by omega
                        have HD2 := Lib.hid (show scanDown (fun x => !(ltOf cf) x dk[a]!) dk x2 j = y2 from by rw [← HB2.out]; exact scanDown_stop (Or.inl (by omega)))
                        go_wp2_with fail
                        go_big_region_o
                        have SB22 := Lib.hid SB2.out.drew
                        clear SB2
                        generalize wq2.drew = w52 at SB22 ⊢
                        have hgt : y2 < x2 := by omega
                        have g1 : decide ((y2 : Int) < (x2 : Int)) = true := decide_eq_true (by omega)
                        have g2 : (y2 : Int) < (x2 : Int) := by omega
                        have bj2 : (y2 : Int) < (d0.size : Int) := by omega
                        have HE := Lib.hid (pl_end (lt := ltOf cf) HU2.out HD2.out hgt)
                        go_wp2_with fail
                        have SB223 := Lib.hid (SB22.out.swp R (i := y2) (j := a) (by omega) (by omega))
                        have ca := SB22.out.c1 R (i := y2) (by omega)
                        have cb2 := SB22.out.c1 R (i := a) (by omega)
                        have fa := SB22.out.f1 R (i := y2) (by omega)
                        have fb := SB22.out.f1 R (i := a) (by omega)
                        obtain ⟨ux, hux⟩ : ∃ x, x = dk[y2]! := ⟨_, rfl⟩
                        obtain ⟨uy, huy⟩ : ∃ y, y = dk[a]! := ⟨_, rfl⟩
                        obtain ⟨u2, cc⟩ := SB22.out.c2 R (i := y2) (j := a) (by omega) (by omega) (vi uy)
                        rw [← hux] at ca SB223
                        rw [← huy] at cb2 SB223
                        clear hux huy
                        go_wp2_with fail
                        go_big_region_o
                        clear ca cb2 fa fb cc
                        generalize ((w52.setCell ⟨blk, off + y2, none⟩ (vi uy)).setCell ⟨blk, off + a, none⟩ (vi ux)).drew = w9 at SB223 ⊢
                        go_wp2_with fail
                        go_ret2
                        exact ⟨by rw [HR2.out, ← HO.out, HE.out]; rfl, by rw [HR2.out, ← HO.out, HE.out]; exact SB223.out⟩
          · have l1 : decide ((x1 : Int) ≤ (y1 : Int)) = false := decide_eq_false (by omega)
            have l2 : ¬ (x1 : Int) ≤ (y1 : Int) := by omega
            have HD1 := Lib.hid (show scanDown (fun x => !(ltOf cf) x D1[a]!) D1 x1 b1 = y1 from by rw [← HB1.out]; exact scanDown_stop (Or.inl (by omega)))
            go_wp2_with fail
            go_big_region_o
            have SB12 := Lib.hid SB1.out.drew
            clear SB1
            generalize wq1.drew = w51 at SB12 ⊢
            have hgt : y1 < x1 := by omega
            have g1 : decide ((y1 : Int) < (x1 : Int)) = true := decide_eq_true (by omega)
            have g2 : (y1 : Int) < (x1 : Int) := by omega
            have bj1 : (y1 : Int) < (d0.size : Int) := by omega
            have HE := Lib.hid (HP1.out _ _ HU1.out HD1.out hgt)
            clear HP1 HP2
            go_wp2_with fail
            have SB123 := Lib.hid (SB12.out.swp R (i := y1) (j := a) (by omega) (by omega))
            have ca := SB12.out.c1 R (i := y1) (by omega)
            have cb2 := SB12.out.c1 R (i := a) (by omega)
            have fa := SB12.out.f1 R (i := y1) (by omega)
            have fb := SB12.out.f1 R (i := a) (by omega)
            obtain ⟨ux, hux⟩ : ∃ x, x = D1[y1]! := ⟨_, rfl⟩
            obtain ⟨uy, huy⟩ : ∃ y, y = D1[a]! := ⟨_, rfl⟩
            obtain ⟨u2, cc⟩ := SB12.out.c2 R (i := y1) (j := a) (by omega) (by omega) (vi uy)
            rw [← hux] at ca SB123
            rw [← huy] at cb2 SB123
            clear hux huy
            go_wp2_with fail
            go_big_region_o
            clear ca cb2 fa fb cc
            generalize ((w51.setCell ⟨blk, off + y1, none⟩ (vi uy)).setCell ⟨blk, off + a, none⟩ (vi ux)).drew = w9 at SB123 ⊢
            go_wp2_with fail
            go_ret2
            exact ⟨by rw [HE.out]; rfl, by rw [HE.out]; exact SB123.out⟩
    · have k1 : decide ((x1 : Int) ≤ (b1 : Int)) = false := decide_eq_false (by omega)
      have k2 : ¬ (x1 : Int) ≤ (b1 : Int) := by omega
      have HU1 := Lib.hid (show scanUp (fun x => (ltOf cf) x D1[a]!) D1 b1 a1 = x1 from by rw [← HA1.out]; exact scanUp_stop (Or.inl (by omega)))
      go_wp2_with fail
      go_big_region_o
      have SA12 := Lib.hid SA1.out.drew
      clear SA1
      generalize wi1.drew = w41 at SA12 ⊢
      go_wp2_with fail
      go_loopw [13] (fun u wr => ∃ j' : Nat, j' ≤ b1 ∧ x1 ≤ j' + 2 ∧ u = vi j' ∧ Hid (SoW w0 blk off d0 D1 wr ∧ scanDown (fun x => !(ltOf cf) x D1[a]!) D1 x1 j' = scanDown (fun x => !(ltOf cf) x D1[a]!) D1 x1 b1)) (fun u _ => (intOf u).toNat)
      case atStart => exact ⟨b1, Nat.le_refl _, hbx1, rfl, Lib.hid ⟨SA12.out, rfl⟩⟩
      case round =>
        clear SA12
        obtain ⟨wq1, rfl⟩ : ∃ wq : World, wq = wr := ⟨_, rfl⟩
        obtain ⟨y1, hay1, hby1, rfl, HJ⟩ := hrel
        have HB1 := Lib.hid HJ.out.2
        have SB1 := Lib.hid HJ.out.1
        clear HJ
        by_cases hle2 : x1 ≤ y1
        · exact absurd hle2 (by omega)
        · have l1 : decide ((x1 : Int) ≤ (y1 : Int)) = false := decide_eq_false (by omega)
          have l2 : ¬ (x1 : Int) ≤ (y1 : Int) := by omega
          have HD1 := Lib.hid (show scanDown (fun x => !(ltOf cf) x D1[a]!) D1 x1 b1 = y1 from by rw [← HB1.out]; exact scanDown_stop (Or.inl (by omega)))
          go_wp2_with fail
          go_big_region_o
          have SB12 := Lib.hid SB1.out.drew
          clear SB1
          generalize wq1.drew = w51 at SB12 ⊢
          have hgt : y1 < x1 := by omega
          have g1 : decide ((y1 : Int) < (x1 : Int)) = true := decide_eq_true (by omega)
          have g2 : (y1 : Int) < (x1 : Int) := by omega
          have bj1 : (y1 : Int) < (d0.size : Int) := by omega
          have HE := Lib.hid (HP1.out _ _ HU1.out HD1.out hgt)
          clear HP1 HP2
          go_wp2_with fail
          have SB123 := Lib.hid (SB12.out.swp R (i := y1) (j := a) (by omega) (by omega))
          have ca := SB12.out.c1 R (i := y1) (by omega)
          have cb2 := SB12.out.c1 R (i := a) (by omega)
          have fa := SB12.out.f1 R (i := y1) (by omega)
          have fb := SB12.out.f1 R (i := a) (by omega)
          obtain ⟨ux, hux⟩ : ∃ x, x = D1[y1]! := ⟨_, rfl⟩
          obtain ⟨uy, huy⟩ : ∃ y, y = D1[a]! := ⟨_, rfl⟩
          obtain ⟨u2, cc⟩ := SB12.out.c2 R (i := y1) (j := a) (by omega) (by omega) (vi uy)
          rw [← hux] at ca SB123
          rw [← huy] at cb2 SB123
          clear hux huy
          go_wp2_with fail
          go_big_region_o
          clear ca cb2 fa fb cc
          generalize ((w51.setCell ⟨blk, off + y1, none⟩ (vi uy)).setCell ⟨blk, off + a, none⟩ (vi ux)).drew = w9 at SB123 ⊢
          go_wp2_with fail
          go_ret2
          exact ⟨by rw [HE.out]; rfl, by rw [HE.out]; exact SB123.out⟩
end Go.Proofs.YtnacoplokjdglaaGreat

namespace Go.Proofs.YtnacoplokjdglaaGreat
open Go.Proofs Go.Shelf
def soLay_ren : Go.Shelf.Ren := ⟨fun | 6 => 68 | 15 => 86 | 14 => 85 | 28 => 113 | 29 => 114 | 20 => 105 | 21 => 106 | 22 => 107 | 23 => 108 | 24 => 109 | 25 => 110 | 26 => 111 | 27 => 112 | 46 => 125 | 47 => 126 | 48 => 127 | 49 => 128 | 50 => 129 | 57 => 149 | n => n, fun | 22 => 58 | 24 => 3 | 25 => 133 | 3 => 3 | 39 => 152 | 0 => 0 | 53 => 184 | 55 => 186 | 4 => 4 | 46 => 178 | 45 => 177 | 50 => 118 | 5 => 5 | 9 => 9 | 66 => 195 | 70 => 199 | 76 => 214 | 77 => 215 | n => n, fun | n => n⟩
theorem soLay : Go.Proofs.SlLaysF.n6 Tryz.prog soLay_ren := {
  mixed := by kernel_rfl,
  f6 := ⟨Tryz.f68.name, by decide, Tryz.func68.trans (congrArg some (by kernel_rfl))⟩,
  f14 := ⟨Tryz.f85.name, by decide, Tryz.func85.trans (congrArg some (by kernel_rfl))⟩,
  f15 := Tryz.func86.trans (congrArg some (by kernel_rfl)),
  f20 := ⟨Tryz.f105.name, by decide, Tryz.func105.trans (congrArg some (by kernel_rfl))⟩,
  f21 := ⟨Tryz.f106.name, by decide, Tryz.func106.trans (congrArg some (by kernel_rfl))⟩,
  f22 := ⟨Tryz.f107.name, by decide, Tryz.func107.trans (congrArg some (by kernel_rfl))⟩,
  f23 := ⟨Tryz.f108.name, by decide, Tryz.func108.trans (congrArg some (by kernel_rfl))⟩,
  f24 := ⟨Tryz.f109.name, by decide, Tryz.func109.trans (congrArg some (by kernel_rfl))⟩,
  f25 := ⟨Tryz.f110.name, by decide, Tryz.func110.trans (congrArg some (by kernel_rfl))⟩,
  f26 := ⟨Tryz.f111.name, by decide, Tryz.func111.trans (congrArg some (by kernel_rfl))⟩,
  f27 := ⟨Tryz.f112.name, by decide, Tryz.func112.trans (congrArg some (by kernel_rfl))⟩,
  f28 := Tryz.func113.trans (congrArg some (by kernel_rfl)),
  f29 := Tryz.func114.trans (congrArg some (by kernel_rfl)),
  f46 := ⟨Tryz.f125.name, by decide, Tryz.func125.trans (congrArg some (by kernel_rfl))⟩,
  f47 := Tryz.func126.trans (congrArg some (by kernel_rfl)),
  f48 := Tryz.func127.trans (congrArg some (by kernel_rfl)),
  f49 := ⟨Tryz.f128.name, by decide, Tryz.func128.trans (congrArg some (by kernel_rfl))⟩,
  f50 := ⟨Tryz.f129.name, by decide, Tryz.func129.trans (congrArg some (by kernel_rfl))⟩,
  f57 := ⟨Tryz.f149.name, by decide, Tryz.func149.trans (congrArg some (by kernel_rfl))⟩,
  t0 := Tryz.underlying0,
  a0 := Tryz.isAgg0,
  z0 := Tryz.sizeOf0,
  v0 := Tryz.zeroValue0,
  t3 := Tryz.underlying3,
  a3 := Tryz.isAgg3,
  z3 := Tryz.sizeOf3,
  v3 := Tryz.zeroValue3,
  t4 := Tryz.underlying4,
  a4 := Tryz.isAgg4,
  z4 := Tryz.sizeOf4,
  v4 := Tryz.zeroValue4,
  t5 := Tryz.underlying5,
  a5 := Tryz.isAgg5,
  z5 := Tryz.sizeOf5,
  v5 := Tryz.zeroValue5,
  t9 := Tryz.underlying9,
  a9 := Tryz.isAgg9,
  z9 := Tryz.sizeOf9,
  v9 := Tryz.zeroValue9,
  t22 := Tryz.underlying58,
  a22 := Tryz.isAgg58,
  z22 := Tryz.sizeOf58,
  v22 := Tryz.zeroValue58,
  a24 := Tryz.isAgg3,
  z24 := Tryz.sizeOf3,
  t25 := Tryz.underlying133,
  a25 := Tryz.isAgg133,
  z25 := Tryz.sizeOf133,
  v25 := Tryz.zeroValue133,
  t39 := Tryz.underlying152,
  a39 := Tryz.isAgg152,
  z39 := Tryz.sizeOf152,
  v39 := Tryz.zeroValue152,
  t45 := Tryz.underlying177,
  a45 := Tryz.isAgg177,
  z45 := Tryz.sizeOf177,
  v45 := Tryz.zeroValue177,
  t46 := Tryz.underlying178,
  a46 := Tryz.isAgg178,
  z46 := Tryz.sizeOf178,
  v46 := Tryz.zeroValue178,
  t50 := Tryz.underlying118,
  a50 := Tryz.isAgg118,
  z50 := Tryz.sizeOf118,
  v50 := Tryz.zeroValue118,
  t53 := Tryz.underlying184,
  a53 := Tryz.isAgg184,
  z53 := Tryz.sizeOf184,
  v53 := Tryz.zeroValue184,
  t55 := Tryz.underlying186,
  a55 := Tryz.isAgg186,
  z55 := Tryz.sizeOf186,
  v55 := Tryz.zeroValue186,
  t66 := Tryz.underlying195,
  a66 := Tryz.isAgg195,
  z66 := Tryz.sizeOf195,
  v66 := Tryz.zeroValue195,
  t70 := Tryz.underlying199,
  a70 := Tryz.isAgg199,
  z70 := Tryz.sizeOf199,
  v70 := Tryz.zeroValue199,
  t76 := Tryz.underlying214,
  a76 := Tryz.isAgg214,
  z76 := Tryz.sizeOf214,
  v76 := Tryz.zeroValue214,
  t77 := Tryz.underlying215,
  a77 := Tryz.isAgg215,
  z77 := Tryz.sizeOf215,
  v77 := Tryz.zeroValue215 }
end Go.Proofs.YtnacoplokjdglaaGreat

namespace Go.Proofs.YtnacoplokjdglaaGreat
open Go.RowKit Go.Maps Go.Sort

theorem soBrk_call (g : FuncId) (cb : Array Value) (blk off cap a b : Nat) (d0 d : Array Int) (w0 w : World)
    (R : Row1 vi w0 blk off d0) (hS : SoW w0 blk off d0 d w) (hab : a ≤ b) (hb : b ≤ d0.size) (hsz : d0.size < 4611686018427387904) :
    Calls Tryz.prog 107 #[.slice (some ⟨blk, off, none⟩) d0.size cap, vi a, vi b, .func (.func g) #[] cb] w fun e w' => e = .returned (.tuple #[]) ∧ SoW w0 blk off d0 (Sort.breakPatterns d a b) w' := by
  have hs := hS.sz
  have h := Go.Proofs.Any.breakPatternsCmpFunc (P := Tryz.prog) (ρ := soLay_ren) { soLay with } vi g cb blk off cap a b d0 d w0 w R hs.symm hS.sw hab (by omega) (by omega)
  change Calls Tryz.prog 107 _ _ _ at h
  rw [hs] at h
  exact Calls.mono h fun e w' h => ⟨h.1, h.2, permIn_trans _ _ _ _ _ hS.pm (permIn_mono _ _ _ _ _ _ (Nat.zero_le _) hb (by omega) (breakPatterns_holds d a b hab (by omega)))⟩
end Go.Proofs.YtnacoplokjdglaaGreat
