/- Texts of one proof, one behind the other: SoSift, SoHeap, SoMedA, SoMedB, SoMedC, SoPiv, SoRev, SoScan. -/
import Derived.Sort.WalkB2
import Derived.Sort.WalkB3
import Derived.Shelf.SlSortCmp.Insertion
import Derived.Test.YtnacoplokjdglaaGreatKe1
import Derived.Test.YtnacoplokjdglaaGreatKe2
import Derived.Test.YtnacoplokjdglaaGreatKe3
import Derived.Test.YtnacoplokjdglaaGreatKe16
set_option linter.all false
namespace Go.Proofs.YtnacoplokjdglaaGreat
open Go.RowKit Go.Maps Go.Sort
attribute [local go_sem] Oper.semAt_some

set_option maxHeartbeats 16000000 in
set_option maxRecDepth 100000 in
theorem soSift_call (cf : Int → Int → Int) (g : FuncId) (cb : Array Value) (blk off cap lo hi F : Nat) (d0 d : Array Int) (w0 w : World)
    (eg : ∀ args w, (callFunc g args).run Tryz.prog w = .ok (.enter g args) w) (hC : CmpP g cb cf blk off d0 w0) (R : Row1 vi w0 blk off d0) (hS : SoW w0 blk off d0 d w) (hlo : lo ≤ hi) (hb : F + hi ≤ d0.size) (hsz : d0.size < 4611686018427387904) :
    Calls Tryz.prog 125 #[.slice (some ⟨blk, off, none⟩) d0.size cap, vi lo, vi hi, vi F, .func (.func g) #[] cb] w fun e w' => e = .returned (.tuple #[]) ∧ SoW w0 blk off d0 (Sort.siftDown (ltOf cf) hi F lo d) w' := by
  have HC := Lib.hid hC
  have HS := Lib.hid hS
  have mixed : Tryz.prog.follows .mixedOrders = true := by kernel_rfl
  clear hC hS
  go_enter Tryz.func125, Tryz.ntmps125
  go_wp2_with fail
  go_loopw [10] (fun vr wr => ∃ (r : Nat) (dk : Array Int), r ≤ hi ∧ vr = vi (r : Nat) ∧ Hid (SoW w0 blk off d0 dk wr ∧ siftDown (ltOf cf) hi F r dk = siftDown (ltOf cf) hi F lo d)) (fun r _ => hi - (intOf r).toNat)
  case atStart => exact ⟨lo, d, hlo, rfl, Lib.hid ⟨HS.out, rfl⟩⟩
  case round =>
    obtain ⟨wj, rfl⟩ : ∃ wj : World, wj = wr := ⟨_, rfl⟩
    obtain ⟨r, dk, hr, rfl, HJ⟩ := hrel
    have HO := Lib.hid HJ.out.2
    have S0 := Lib.hid HJ.out.1
    clear HJ HS
    obtain ⟨c, hc⟩ : ∃ c, 2 * r + 1 = c := ⟨_, rfl⟩
    obtain ⟨r2, hr2⟩ : ∃ c, 2 * r = c := ⟨_, rfl⟩
    have hw1 : IntKind.i64.wrap (2 * (r : Int)) = (r2 : Int) := by rw [IntWalk.i64_in _ (by omega)]; omega
    have hw2 : IntKind.i64.wrap ((r2 : Int) + 1) = (c : Int) := by rw [IntWalk.i64_in _ (by omega)]; omega
    by_cases hch : hi ≤ c
    · have k1 : decide ((hi : Int) ≤ (c : Int)) = true := decide_eq_true (by omega)
      have k2 : (hi : Int) ≤ (c : Int) := by omega
      go_wp2_with fail
      (first | go_end0 | ((try simp only [Exit.inBlock, Exit.then]); refine bodyPost_ret (results_none rfl _ _ _) rfl ?_))
      exact ⟨rfl, by rw [← HO.out, sd_end (ltOf cf) dk (by omega)]; exact S0.out⟩
    · have k1 : decide ((hi : Int) ≤ (c : Int)) = false := decide_eq_false (by omega)
      have k2 : ¬ (hi : Int) ≤ (c : Int) := by omega
      obtain ⟨c1, hc1⟩ : ∃ x, c + 1 = x := ⟨_, rfl⟩
      obtain ⟨fc, hfc⟩ : ∃ x, F + c = x := ⟨_, rfl⟩
      obtain ⟨fr, hfr⟩ : ∃ x, F + r = x := ⟨_, rfl⟩
      obtain ⟨fc1, hfc1⟩ : ∃ x, fc + 1 = x := ⟨_, rfl⟩
      have hw3 : IntKind.i64.wrap ((c : Int) + 1) = (c1 : Int) := by rw [IntWalk.i64_in _ (by omega)]; omega
      have hw4 : IntKind.i64.wrap ((F : Int) + (c : Int)) = (fc : Int) := by rw [IntWalk.i64_in _ (by omega)]; omega
      have hw5 : IntKind.i64.wrap ((fc : Int) + 1) = (fc1 : Int) := by rw [IntWalk.i64_in _ (by omega)]; omega
      have hw6 : IntKind.i64.wrap ((F : Int) + (r : Int)) = (fr : Int) := by rw [IntWalk.i64_in _ (by omega)]; omega
      have b1 : (fc : Int) < (d0.size : Int) := by omega
      have b2 : (fr : Int) < (d0.size : Int) := by omega
      have ec : 2 * r + 1 = c := by omega
      have ec1 : 2 * r + 2 = c1 := by omega
      have ef1 : F + c1 = fc1 := by omega
      by_cases hc1h : c1 < hi
      · have k3 : decide ((c1 : Int) < (hi : Int)) = true := decide_eq_true (by omega)
        have k4 : (c1 : Int) < (hi : Int) := by omega
        have b3 : (fc1 : Int) < (d0.size : Int) := by omega
        have hw7 : IntKind.i64.wrap ((F : Int) + (c1 : Int)) = (fc1 : Int) := by rw [IntWalk.i64_in _ (by omega)]; omega
        cases hlv : (ltOf cf) dk[fc]! dk[fc1]! with
        | true =>
          have HL := Lib.hid hlv
          obtain ⟨x, hx⟩ : ∃ x, x = dk[fc]! := ⟨_, rfl⟩
          obtain ⟨y, hy⟩ : ∃ y, y = dk[fc1]! := ⟨_, rfl⟩
          have la := S0.out.cl R (i := fc) (by omega)
          have lb := S0.out.cl R (i := fc1) (by omega)
          rw [← hx] at la
          rw [← hy] at lb
          have hc := S0.out.cmp HC.out x y (by rw [hx]; exact S0.out.mem (by omega)) (by rw [hy]; exact S0.out.mem (by omega))
          have hd : decide (cf x y < 0) = true := by rw [hx, hy]; exact hlv
          have hv : cf x y < 0 := of_decide_eq_true hd
          clear hx hy
          go_wp2_with fail
          go_quiet_grown (first | (go_at_fn g; refine Calls.grown_of (hc _ _)))
          have S02 := Lib.hid (S0.out.grown nq osq)
          clear la lb hc hd hv
          generalize grow (wj.drewN nq) osq = w2 at S02 ⊢
          clear nq osq
          go_upto_region 5 with fail
          cases hlv : (ltOf cf) dk[fr]! dk[fc1]! with
          | true =>
            have HG := Lib.hid (sd_right_go (lt := ltOf cf) dk (hi := hi) (F := F) (root := r) (by omega) (by rw [ec, ec1, hfc, ef1]; exact HL.out) (by rw [ec1, hfr, ef1]; exact hlv))
            rw [ec1, hfr, ef1] at HG
            obtain ⟨x, hx⟩ : ∃ x, x = dk[fr]! := ⟨_, rfl⟩
            obtain ⟨y, hy⟩ : ∃ y, y = dk[fc1]! := ⟨_, rfl⟩
            have la := S02.out.cl R (i := fr) (by omega)
            have lb := S02.out.cl R (i := fc1) (by omega)
            rw [← hx] at la
            rw [← hy] at lb
            have hc := S02.out.cmp HC.out x y (by rw [hx]; exact S02.out.mem (by omega)) (by rw [hy]; exact S02.out.mem (by omega))
            have hd : decide (cf x y < 0) = true := by rw [hx, hy]; exact hlv
            have hv : cf x y < 0 := of_decide_eq_true hd
            clear hx hy
            go_wp2_with fail
            go_quiet_grown (first | (go_at_fn g; refine Calls.grown_of (hc _ _)))
            have S022 := Lib.hid (S02.out.grown nq osq)
            clear la lb hc hd hv
            generalize grow (w2.drewN nq) osq = w4 at S022 ⊢
            clear nq osq
            have S0223 := Lib.hid (S022.out.swp R (i := fr) (j := fc1) (by omega) (by omega))
            have ca := S022.out.c1 R (i := fr) (by omega)
            have cb2 := S022.out.c1 R (i := fc1) (by omega)
            have fa := S022.out.f1 R (i := fr) (by omega)
            have fb := S022.out.f1 R (i := fc1) (by omega)
            obtain ⟨ux, hux⟩ : ∃ x, x = dk[fr]! := ⟨_, rfl⟩
            obtain ⟨uy, huy⟩ : ∃ y, y = dk[fc1]! := ⟨_, rfl⟩
            obtain ⟨u2, cc⟩ := S022.out.c2 R (i := fr) (j := fc1) (by omega) (by omega) (vi uy)
            rw [← hux] at ca S0223
            rw [← huy] at cb2 S0223
            clear hux huy
            go_wp2_with fail
            go_big_region_o
            clear ca cb2 fa fb cc
            generalize ((w4.setCell ⟨blk, off + fr, none⟩ (vi uy)).setCell ⟨blk, off + fc1, none⟩ (vi ux)).drew = w5 at S0223 ⊢
            go_wp2_with fail
            exact ⟨⟨c1, Sort.swp dk fr fc1, by omega, rfl, Lib.hid ⟨S0223.out, by rw [← HO.out, HG.out]⟩⟩, by simp only [intOf]; omega⟩
          | false =>
            have HG := Lib.hid (sd_right_stop (lt := ltOf cf) dk (hi := hi) (F := F) (root := r) (by omega) (by rw [ec, ec1, hfc, ef1]; exact HL.out) (by rw [ec1, hfr, ef1]; exact hlv))
            obtain ⟨x, hx⟩ : ∃ x, x = dk[fr]! := ⟨_, rfl⟩
            obtain ⟨y, hy⟩ : ∃ y, y = dk[fc1]! := ⟨_, rfl⟩
            have la := S02.out.cl R (i := fr) (by omega)
            have lb := S02.out.cl R (i := fc1) (by omega)
            rw [← hx] at la
            rw [← hy] at lb
            have hc := S02.out.cmp HC.out x y (by rw [hx]; exact S02.out.mem (by omega)) (by rw [hy]; exact S02.out.mem (by omega))
            have hd : decide (cf x y < 0) = false := by rw [hx, hy]; exact hlv
            have hv : ¬ cf x y < 0 := of_decide_eq_false hd
            clear hx hy
            go_wp2_with fail
            go_quiet_grown (first | (go_at_fn g; refine Calls.grown_of (hc _ _)))
            have S022 := Lib.hid (S02.out.grown nq osq)
            clear la lb hc hd hv
            generalize grow (w2.drewN nq) osq = w4 at S022 ⊢
            clear nq osq
            go_wp2_with fail
            (first | go_end0 | ((try simp only [Exit.inBlock, Exit.then]); refine bodyPost_ret (results_none rfl _ _ _) rfl ?_))
            exact ⟨rfl, by rw [← HO.out, HG.out]; exact S022.out⟩
        | false =>
          have HL := Lib.hid hlv
          obtain ⟨x, hx⟩ : ∃ x, x = dk[fc]! := ⟨_, rfl⟩
          obtain ⟨y, hy⟩ : ∃ y, y = dk[fc1]! := ⟨_, rfl⟩
          have la := S0.out.cl R (i := fc) (by omega)
          have lb := S0.out.cl R (i := fc1) (by omega)
          rw [← hx] at la
          rw [← hy] at lb
          have hc := S0.out.cmp HC.out x y (by rw [hx]; exact S0.out.mem (by omega)) (by rw [hy]; exact S0.out.mem (by omega))
          have hd : decide (cf x y < 0) = false := by rw [hx, hy]; exact hlv
          have hv : ¬ cf x y < 0 := of_decide_eq_false hd
          clear hx hy
          go_wp2_with fail
          go_quiet_grown (first | (go_at_fn g; refine Calls.grown_of (hc _ _)))
          have S02 := Lib.hid (S0.out.grown nq osq)
          clear la lb hc hd hv
          generalize grow (wj.drewN nq) osq = w2 at S02 ⊢
          clear nq osq
          go_upto_region 5 with fail
          cases hlv : (ltOf cf) dk[fr]! dk[fc]! with
          | true =>
            have HG := Lib.hid (sd_left_go (lt := ltOf cf) dk (hi := hi) (F := F) (root := r) (by omega) (fun _ => by rw [ec, ec1, hfc, ef1]; exact HL.out) (by rw [ec, hfr, hfc]; exact hlv))
            rw [ec, hfr, hfc] at HG
            obtain ⟨x, hx⟩ : ∃ x, x = dk[fr]! := ⟨_, rfl⟩
            obtain ⟨y, hy⟩ : ∃ y, y = dk[fc]! := ⟨_, rfl⟩
            have la := S02.out.cl R (i := fr) (by omega)
            have lb := S02.out.cl R (i := fc) (by omega)
            rw [← hx] at la
            rw [← hy] at lb
            have hc := S02.out.cmp HC.out x y (by rw [hx]; exact S02.out.mem (by omega)) (by rw [hy]; exact S02.out.mem (by omega))
            have hd : decide (cf x y < 0) = true := by rw [hx, hy]; exact hlv
            have hv : cf x y < 0 := of_decide_eq_true hd
            clear hx hy
            go_wp2_with fail
            go_quiet_grown (first | (go_at_fn g; refine Calls.grown_of (hc _ _)))
            have S022 := Lib.hid (S02.out.grown nq osq)
            clear la lb hc hd hv
            generalize grow (w2.drewN nq) osq = w4 at S022 ⊢
            clear nq osq
            have S0223 := Lib.hid (S022.out.swp R (i := fr) (j := fc) (by omega) (by omega))
            have ca := S022.out.c1 R (i := fr) (by omega)
            have cb2 := S022.out.c1 R (i := fc) (by omega)
            have fa := S022.out.f1 R (i := fr) (by omega)
            have fb := S022.out.f1 R (i := fc) (by omega)
            obtain ⟨ux, hux⟩ : ∃ x, x = dk[fr]! := ⟨_, rfl⟩
            obtain ⟨uy, huy⟩ : ∃ y, y = dk[fc]! := ⟨_, rfl⟩
            obtain ⟨u2, cc⟩ := S022.out.c2 R (i := fr) (j := fc) (by omega) (by omega) (vi uy)
            rw [← hux] at ca S0223
            rw [← huy] at cb2 S0223
            clear hux huy
            go_wp2_with fail
            go_big_region_o
            clear ca cb2 fa fb cc
            generalize ((w4.setCell ⟨blk, off + fr, none⟩ (vi uy)).setCell ⟨blk, off + fc, none⟩ (vi ux)).drew = w5 at S0223 ⊢
            go_wp2_with fail
            exact ⟨⟨c, Sort.swp dk fr fc, by omega, rfl, Lib.hid ⟨S0223.out, by rw [← HO.out, HG.out]⟩⟩, by simp only [intOf]; omega⟩
          | false =>
            have HG := Lib.hid (sd_left_stop (lt := ltOf cf) dk (hi := hi) (F := F) (root := r) (by omega) (fun _ => by rw [ec, ec1, hfc, ef1]; exact HL.out) (by rw [ec, hfr, hfc]; exact hlv))
            obtain ⟨x, hx⟩ : ∃ x, x = dk[fr]! := ⟨_, rfl⟩
            obtain ⟨y, hy⟩ : ∃ y, y = dk[fc]! := ⟨_, rfl⟩
            have la := S02.out.cl R (i := fr) (by omega)
            have lb := S02.out.cl R (i := fc) (by omega)
            rw [← hx] at la
            rw [← hy] at lb
            have hc := S02.out.cmp HC.out x y (by rw [hx]; exact S02.out.mem (by omega)) (by rw [hy]; exact S02.out.mem (by omega))
            have hd : decide (cf x y < 0) = false := by rw [hx, hy]; exact hlv
            have hv : ¬ cf x y < 0 := of_decide_eq_false hd
            clear hx hy
            go_wp2_with fail
            go_quiet_grown (first | (go_at_fn g; refine Calls.grown_of (hc _ _)))
            have S022 := Lib.hid (S02.out.grown nq osq)
            clear la lb hc hd hv
            generalize grow (w2.drewN nq) osq = w4 at S022 ⊢
            clear nq osq
            go_wp2_with fail
            (first | go_end0 | ((try simp only [Exit.inBlock, Exit.then]); refine bodyPost_ret (results_none rfl _ _ _) rfl ?_))
            exact ⟨rfl, by rw [← HO.out, HG.out]; exact S022.out⟩
      · have k3 : decide ((c1 : Int) < (hi : Int)) = false := decide_eq_false (by omega)
        have k4 : ¬ (c1 : Int) < (hi : Int) := by omega
        have HL := Lib.hid (show 2 * r + 2 < hi → (ltOf cf) dk[F + (2 * r + 1)]! dk[F + (2 * r + 2)]! = false from fun h => absurd h (by omega))
        go_wp2_with fail
        go_big_region_o
        have S02 := Lib.hid S0.out.drew
        clear S0
        generalize wj.drew = w2 at S02 ⊢
        go_upto_region 5 with fail
        cases hlv : (ltOf cf) dk[fr]! dk[fc]! with
        | true =>
          have HG := Lib.hid (sd_left_go (lt := ltOf cf) dk (hi := hi) (F := F) (root := r) (by omega) (HL.out) (by rw [ec, hfr, hfc]; exact hlv))
          rw [ec, hfr, hfc] at HG
          obtain ⟨x, hx⟩ : ∃ x, x = dk[fr]! := ⟨_, rfl⟩
          obtain ⟨y, hy⟩ : ∃ y, y = dk[fc]! := ⟨_, rfl⟩
          have la := S02.out.cl R (i := fr) (by omega)
          have lb := S02.out.cl R (i := fc) (by omega)
          rw [← hx] at la
          rw [← hy] at lb
          have hc := S02.out.cmp HC.out x y (by rw [hx]; exact S02.out.mem (by omega)) (by rw [hy]; exact S02.out.mem (by omega))
          have hd : decide (cf x y < 0) = true := by rw [hx, hy]; exact hlv
          have hv : cf x y < 0 := of_decide_eq_true hd
          clear hx hy
          go_wp2_with fail
          go_quiet_grown (first | (go_at_fn g; refine Calls.grown_of (hc _ _)))
          have S022 := Lib.hid (S02.out.grown nq osq)
          clear la lb hc hd hv
          generalize grow (w2.drewN nq) osq = w4 at S022 ⊢
          clear nq osq
          have S0223 := Lib.hid (S022.out.swp R (i := fr) (j := fc) (by omega) (by omega))
          have ca := S022.out.c1 R (i := fr) (by omega)
          have cb2 := S022.out.c1 R (i := fc) (by omega)
          have fa := S022.out.f1 R (i := fr) (by omega)
          have fb := S022.out.f1 R (i := fc) (by omega)
          obtain ⟨ux, hux⟩ : ∃ x, x = dk[fr]! := ⟨_, rfl⟩
          obtain ⟨uy, huy⟩ : ∃ y, y = dk[fc]! := ⟨_, rfl⟩
          obtain ⟨u2, cc⟩ := S022.out.c2 R (i := fr) (j := fc) (by omega) (by omega) (vi uy)
          rw [← hux] at ca S0223
          rw [← huy] at cb2 S0223
          clear hux huy
          go_wp2_with fail
          go_big_region_o
          clear ca cb2 fa fb cc
          generalize ((w4.setCell ⟨blk, off + fr, none⟩ (vi uy)).setCell ⟨blk, off + fc, none⟩ (vi ux)).drew = w5 at S0223 ⊢
          go_wp2_with fail
          exact ⟨⟨c, Sort.swp dk fr fc, by omega, rfl, Lib.hid ⟨S0223.out, by rw [← HO.out, HG.out]⟩⟩, by simp only [intOf]; omega⟩
        | false =>
          have HG := Lib.hid (sd_left_stop (lt := ltOf cf) dk (hi := hi) (F := F) (root := r) (by omega) (HL.out) (by rw [ec, hfr, hfc]; exact hlv))
          obtain ⟨x, hx⟩ : ∃ x, x = dk[fr]! := ⟨_, rfl⟩
          obtain ⟨y, hy⟩ : ∃ y, y = dk[fc]! := ⟨_, rfl⟩
          have la := S02.out.cl R (i := fr) (by omega)
          have lb := S02.out.cl R (i := fc) (by omega)
          rw [← hx] at la
          rw [← hy] at lb
          have hc := S02.out.cmp HC.out x y (by rw [hx]; exact S02.out.mem (by omega)) (by rw [hy]; exact S02.out.mem (by omega))
          have hd : decide (cf x y < 0) = false := by rw [hx, hy]; exact hlv
          have hv : ¬ cf x y < 0 := of_decide_eq_false hd
          clear hx hy
          go_wp2_with fail
          go_quiet_grown (first | (go_at_fn g; refine Calls.grown_of (hc _ _)))
          have S022 := Lib.hid (S02.out.grown nq osq)
          clear la lb hc hd hv
          generalize grow (w2.drewN nq) osq = w4 at S022 ⊢
          clear nq osq
          go_wp2_with fail
          (first | go_end0 | ((try simp only [Exit.inBlock, Exit.then]); refine bodyPost_ret (results_none rfl _ _ _) rfl ?_))
          exact ⟨rfl, by rw [← HO.out, HG.out]; exact S022.out⟩
end Go.Proofs.YtnacoplokjdglaaGreat

namespace Go.Proofs.YtnacoplokjdglaaGreat
open Go.RowKit Go.Maps Go.Sort
attribute [local go_sem] Oper.semAt_some

theorem so_half {h : Nat} : (((h : Int) - 1).tdiv 2) = (((h - 1) / 2 + 1 : Nat) : Int) - 1 := by
  rcases Nat.eq_zero_or_pos h with rfl | hp
  · decide
  · rw [Int.tdiv_eq_ediv_of_nonneg (by omega)]; omega

set_option maxHeartbeats 16000000 in
set_option maxRecDepth 100000 in
theorem soHeap_call (cf : Int → Int → Int) (g : FuncId) (cb : Array Value) (blk off cap a b : Nat) (d0 d : Array Int) (w0 w : World)
    (eg : ∀ args w, (callFunc g args).run Tryz.prog w = .ok (.enter g args) w) (hC : CmpP g cb cf blk off d0 w0) (R : Row1 vi w0 blk off d0) (hS : SoW w0 blk off d0 d w) (hab : a ≤ b) (hb : b ≤ d0.size) (hsz : d0.size < 4611686018427387904) :
    Calls Tryz.prog 106 #[.slice (some ⟨blk, off, none⟩) d0.size cap, vi a, vi b, .func (.func g) #[] cb] w fun e w' => e = .returned (.tuple #[]) ∧ SoW w0 blk off d0 (Sort.heapSort (ltOf cf) d a b) w' := by
  have HC := Lib.hid hC
  have HS := Lib.hid hS
  have mixed : Tryz.prog.follows .mixedOrders = true := by kernel_rfl
  clear hC hS
  obtain ⟨h, hh⟩ : ∃ h, b - a = h := ⟨_, rfl⟩
  have hw1 : IntKind.i64.wrap ((b : Int) - (a : Int)) = (h : Int) := by rw [IntWalk.i64_in _ (by omega)]; omega
  have hw2 : IntKind.i64.wrap ((h : Int) - 1) = (h : Int) - 1 := IntWalk.i64_in _ (by omega)
  obtain ⟨K, hK⟩ : ∃ K, (h - 1) / 2 + 1 = K := ⟨_, rfl⟩
  have hq : ((h : Int) - 1).tdiv 2 = (K : Int) - 1 := by rw [so_half, hK]
  have hKs : K ≤ h + 1 := by omega
  have hw3 : IntKind.i64.wrap ((K : Int) - 1) = (K : Int) - 1 := IntWalk.i64_in _ (by omega)
  go_enter Tryz.func106, Tryz.ntmps106
  go_wp2_with fail
  go_loopw [11] (fun v wr => ∃ (k : Nat) (dk : Array Int), k ≤ K ∧ v = vi ((k : Int) - 1) ∧ Hid (SoW w0 blk off d0 dk wr ∧ heapBuild (ltOf cf) h a k dk = heapBuild (ltOf cf) h a K d)) (fun v _ => (intOf v + 1).toNat)
  case atStart => exact ⟨K, d, Nat.le_refl _, rfl, Lib.hid ⟨HS.out, rfl⟩⟩
  case round =>
    clear HS
    obtain ⟨wj, rfl⟩ : ∃ wj : World, wj = wr := ⟨_, rfl⟩
    obtain ⟨k, dk, hk, rfl, HJ⟩ := hrel
    have HO := Lib.hid HJ.out.2
    have S0 := Lib.hid HJ.out.1
    clear HJ
    rcases Nat.eq_zero_or_pos k with rfl | hkp
    · have k1 : decide ((0 : Int) ≤ ((0 : Nat) : Int) - 1) = false := by decide
      have k2 : ¬ ((0 : Int) ≤ ((0 : Nat) : Int) - 1) := by decide
      have HB := Lib.hid (show dk = heapBuild (ltOf cf) h a K d from HO.out)
      go_wp2_with fail
      go_loopw [12] (fun v wr => ∃ (k : Nat) (dk : Array Int), k ≤ h ∧ v = vi ((k : Int) - 1) ∧ Hid (SoW w0 blk off d0 dk wr ∧ heapPop (ltOf cf) a k dk = Sort.heapSort (ltOf cf) d a b)) (fun v _ => (intOf v + 1).toNat)
      case atStart => exact ⟨h, dk, Nat.le_refl _, rfl, Lib.hid ⟨S0.out, by unfold Sort.heapSort; rw [hh, hK, HB.out]⟩⟩
      case round =>
        clear S0 HO HB
        obtain ⟨wq, rfl⟩ : ∃ wq : World, wq = wr := ⟨_, rfl⟩
        obtain ⟨q, dq, hq', rfl, HJ⟩ := hrel
        have HO := Lib.hid HJ.out.2
        have S0 := Lib.hid HJ.out.1
        clear HJ
        rcases Nat.eq_zero_or_pos q with rfl | hqp
        · go_wp2_with fail
          (first | go_end0 | ((try simp only [Exit.inBlock, Exit.then]); refine bodyPost_ret (results_none rfl _ _ _) rfl ?_))
          exact ⟨rfl, by rw [← HO.out]; exact S0.out⟩
        · obtain ⟨p, hp⟩ : ∃ p, p + 1 = q := ⟨q - 1, by omega⟩
          have epq : (q : Int) - 1 = (p : Int) := by omega
          rw [epq]
          obtain ⟨ap, hap⟩ : ∃ x, a + p = x := ⟨_, rfl⟩
          have l1 : decide ((0 : Int) ≤ (p : Int)) = true := decide_eq_true (by omega)
          have l2 : (0 : Int) ≤ (p : Int) := by omega
          have hw4 : IntKind.i64.wrap ((a : Int) + (p : Int)) = (ap : Int) := by rw [IntWalk.i64_in _ (by omega)]; omega
          have hw5 : IntKind.i64.wrap ((p : Int) - 1) = (p : Int) - 1 := IntWalk.i64_in _ (by omega)
          have b1 : (ap : Int) < (d0.size : Int) := by omega
          have b2 : (a : Int) < (d0.size : Int) := by omega
          have S03 := Lib.hid (S0.out.swp R (i := a) (j := ap) (by omega) (by omega))
          have ca := S0.out.c1 R (i := a) (by omega)
          have cb2 := S0.out.c1 R (i := ap) (by omega)
          have fa := S0.out.f1 R (i := a) (by omega)
          have fb := S0.out.f1 R (i := ap) (by omega)
          obtain ⟨ux, hux⟩ : ∃ x, x = dq[a]! := ⟨_, rfl⟩
          obtain ⟨uy, huy⟩ : ∃ y, y = dq[ap]! := ⟨_, rfl⟩
          obtain ⟨u2, cc⟩ := S0.out.c2 R (i := a) (j := ap) (by omega) (by omega) (vi uy)
          rw [← hux] at ca S03
          rw [← huy] at cb2 S03
          clear hux huy
          go_wp2_with fail
          go_big_region_o
          clear ca cb2 fa fb cc
          generalize ((wq.setCell ⟨blk, off + a, none⟩ (vi uy)).setCell ⟨blk, off + ap, none⟩ (vi ux)).drew = w3 at S03 ⊢
          go_wp2_with (go_at_call 125; refine (soSift_call cf g cb blk off cap 0 p a d0 _ w0 w3 eg HC.out R S03.out (Nat.zero_le _) (by omega) hsz).mono ?_; rintro e4 w4 ⟨rfl, h4⟩; have S4 := Lib.hid h4; clear h4)
          exact ⟨⟨p, _, by omega, by first | rfl | go_num, Lib.hid ⟨S4.out, by rw [← HO.out, ← hp, heapPop, hap]⟩⟩, by simp only [intOf]; omega⟩
    · obtain ⟨p, hp⟩ : ∃ p, p + 1 = k := ⟨k - 1, by omega⟩
      have epq : (k : Int) - 1 = (p : Int) := by omega
      rw [epq]
      have l1 : decide ((0 : Int) ≤ (p : Int)) = true := decide_eq_true (by omega)
      have l2 : (0 : Int) ≤ (p : Int) := by omega
      have hw5 : IntKind.i64.wrap ((p : Int) - 1) = (p : Int) - 1 := IntWalk.i64_in _ (by omega)
      go_wp2_with (go_at_call 125; refine (soSift_call cf g cb blk off cap p h a d0 dk w0 wj eg HC.out R S0.out (by omega) (by omega) hsz).mono ?_; rintro e4 w4 ⟨rfl, h4⟩; have S4 := Lib.hid h4; clear h4)
      exact ⟨⟨p, _, by omega, by first | rfl | go_num, Lib.hid ⟨S4.out, by rw [← HO.out, ← hp, heapBuild]⟩⟩, by simp only [intOf]; omega⟩
end Go.Proofs.YtnacoplokjdglaaGreat

namespace Go.Proofs.YtnacoplokjdglaaGreat
open Go.RowKit Go.Maps Go.Sort
attribute [local go_sem] Oper.semAt_some

/-- The row, and the counter's box. -/
structure SoC (w0 : World) (blk off : Nat) (d0 dk : Array Int) (c s : Nat) (W : World) : Prop where
  so : SoW w0 blk off d0 dk W
  box : W.cell? ⟨c, 0, none⟩ = some (vi s)
  free : W.frozen? ⟨c, 0, none⟩ = false
  new : w0.heap.size ≤ c
  lt : c < W.heap.size
section
variable {w0 W : World} {blk off c s : Nat} {d0 dk : Array Int}
theorem SoC.cnt (h : SoC w0 blk off d0 dk c s W) : Cnt1 vi w0 blk off dk c s W := ⟨h.so.sw, h.box, h.free, h.new, h.lt⟩
theorem SoC.of (h : Cnt1 vi w0 blk off dk c s W) (hp : PermIn 0 d0.size d0 dk) : SoC w0 blk off d0 dk c s W := ⟨⟨h.1, hp⟩, h.2.1, h.2.2.1, h.2.2.2.1, h.2.2.2.2⟩
theorem SoC.grown (h : SoC w0 blk off d0 dk c s W) (n : Nat) (os : Array Obj) : SoC w0 blk off d0 dk c s (grow (W.drewN n) os) := .of (h.cnt.grown n os) h.so.pm
theorem SoC.bump (h : SoC w0 blk off d0 dk c s W) (t : Nat) : SoC w0 blk off d0 dk c t (W.setCell ⟨c, 0, none⟩ (vi t)) := .of (h.cnt.bump t) h.so.pm
end
set_option maxHeartbeats 16000000 in
set_option maxRecDepth 100000 in
theorem soOrd2_call (cf : Int → Int → Int) (g : FuncId) (cb : Array Value) (blk off cap a b c s : Nat) (d0 d : Array Int) (w0 w : World)
    (eg : ∀ args w, (callFunc g args).run Tryz.prog w = .ok (.enter g args) w) (hC : CmpP g cb cf blk off d0 w0) (R : Row1 vi w0 blk off d0) (hS : SoC w0 blk off d0 d c s w) (ha : a < d0.size) (hb : b < d0.size) (hsz : d0.size < 4611686018427387904) (hs : s < 4611686018427387904) :
    Calls Tryz.prog 149 #[.slice (some ⟨blk, off, none⟩) d0.size cap, vi a, vi b, .pointer (some ⟨c, 0, none⟩), .func (.func g) #[] cb] w fun e w' =>
      e = .returned (.tuple #[vi (order2 (ltOf cf) d a b s).1, vi (order2 (ltOf cf) d a b s).2.1]) ∧ SoC w0 blk off d0 d c (order2 (ltOf cf) d a b s).2.2 w' := by
  have HC := Lib.hid hC
  have S0 := Lib.hid hS.so
  have HS := Lib.hid hS
  have mixed : Tryz.prog.follows .mixedOrders = true := by kernel_rfl
  clear hC hS
  have b1 : (a : Int) < (d0.size : Int) := by omega
  have b2 : (b : Int) < (d0.size : Int) := by omega
  have hws : IntKind.i64.wrap ((s : Int) + 1) = (s : Int) + 1 := IntWalk.i64_in _ (by omega)
  go_enter Tryz.func149, Tryz.ntmps149
  go_upto_region 1 with fail
  cases hlv : (ltOf cf) d[b]! d[a]! with
  | true =>
    have HE := Lib.hid (show order2 (ltOf cf) d a b s = (b, a, s + 1) from by unfold order2; rw [hlv]; rfl)
    obtain ⟨x, hx⟩ : ∃ x, x = d[b]! := ⟨_, rfl⟩
    obtain ⟨y, hy⟩ : ∃ y, y = d[a]! := ⟨_, rfl⟩
    have la := S0.out.cl R (i := b) (by omega)
    have lb := S0.out.cl R (i := a) (by omega)
    rw [← hx] at la
    rw [← hy] at lb
    have hc := S0.out.cmp HC.out x y (by rw [hx]; exact S0.out.mem (by omega)) (by rw [hy]; exact S0.out.mem (by omega))
    have hd : decide (cf x y < 0) = true := by rw [hx, hy]; exact hlv
    have hv : cf x y < 0 := of_decide_eq_true hd
    clear hx hy
    go_wp2_with fail
    go_quiet_grown (first | (go_at_fn g; refine Calls.grown_of (hc _ _)))
    have S02 := Lib.hid (S0.out.grown nq osq)
    clear la lb hc hd hv
    have HS2 := Lib.hid (HS.out.grown nq osq)
    generalize grow (w.drewN nq) osq = w2 at S02 HS2 ⊢
    clear nq osq
    have f0 := HS2.out.free
    have c0 := HS2.out.box
    have HB := Lib.hid (show SoC w0 blk off d0 d c (s + 1) (w2.setCell ⟨c, 0, none⟩ (.int .i64 ((s : Int) + 1))) from by have h := HS2.out.bump (s + 1); rw [show ((s + 1 : Nat) : Int) = (s : Int) + 1 by omega] at h; exact h)
    go_wp2_with fail
    go_ret2
    exact ⟨by rw [HE.out]; rfl, by rw [HE.out]; exact HB.out⟩
  | false =>
    have HE := Lib.hid (show order2 (ltOf cf) d a b s = (a, b, s) from by unfold order2; rw [hlv]; rfl)
    obtain ⟨x, hx⟩ : ∃ x, x = d[b]! := ⟨_, rfl⟩
    obtain ⟨y, hy⟩ : ∃ y, y = d[a]! := ⟨_, rfl⟩
    have la := S0.out.cl R (i := b) (by omega)
    have lb := S0.out.cl R (i := a) (by omega)
    rw [← hx] at la
    rw [← hy] at lb
    have hc := S0.out.cmp HC.out x y (by rw [hx]; exact S0.out.mem (by omega)) (by rw [hy]; exact S0.out.mem (by omega))
    have hd : decide (cf x y < 0) = false := by rw [hx, hy]; exact hlv
    have hv : ¬ cf x y < 0 := of_decide_eq_false hd
    clear hx hy
    go_wp2_with fail
    go_quiet_grown (first | (go_at_fn g; refine Calls.grown_of (hc _ _)))
    have S02 := Lib.hid (S0.out.grown nq osq)
    clear la lb hc hd hv
    have HS2 := Lib.hid (HS.out.grown nq osq)
    generalize grow (w.drewN nq) osq = w2 at S02 HS2 ⊢
    clear nq osq
    go_wp2_with fail
    go_ret2
    exact ⟨by rw [HE.out]; rfl, by rw [HE.out]; exact HS2.out⟩

end Go.Proofs.YtnacoplokjdglaaGreat

namespace Go.Proofs.YtnacoplokjdglaaGreat
open Go.RowKit Go.Maps Go.Sort
attribute [local go_sem] Oper.semAt_some

theorem order2_lt {cf : Int → Int → Int} {d : Array Int} {a b s n : Nat} (ha : a < n) (hb : b < n) : (order2 (ltOf cf) d a b s).1 < n ∧ (order2 (ltOf cf) d a b s).2.1 < n ∧ (order2 (ltOf cf) d a b s).2.2 ≤ s + 1 := by
  unfold order2
  split
  · exact ⟨hb, ha, Nat.le_refl _⟩
  · exact ⟨ha, hb, Nat.le_succ _⟩

set_option maxHeartbeats 16000000 in
set_option maxRecDepth 100000 in
theorem soMed_call (cf : Int → Int → Int) (g : FuncId) (cb : Array Value) (blk off cap a b c' c s : Nat) (d0 d : Array Int) (w0 w : World)
    (eg : ∀ args w, (callFunc g args).run Tryz.prog w = .ok (.enter g args) w) (hC : CmpP g cb cf blk off d0 w0) (R : Row1 vi w0 blk off d0) (hS : SoC w0 blk off d0 d c s w) (ha : a < d0.size) (hb : b < d0.size) (hc : c' < d0.size) (hsz : d0.size < 4611686018427387904) (hs : s + 3 < 4611686018427387904) :
    Calls Tryz.prog 129 #[.slice (some ⟨blk, off, none⟩) d0.size cap, vi a, vi b, vi c', .pointer (some ⟨c, 0, none⟩), .func (.func g) #[] cb] w fun e w' =>
      e = .returned (vi (median (ltOf cf) d a b c' s).1) ∧ SoC w0 blk off d0 d c (median (ltOf cf) d a b c' s).2 w' := by
  have HC := Lib.hid hC
  have HS := Lib.hid hS
  clear hC hS
  obtain ⟨r1, hr1⟩ : ∃ r, order2 (ltOf cf) d a b s = r := ⟨_, rfl⟩
  have B1 := order2_lt (cf := cf) (d := d) (s := s) ha hb
  rw [hr1] at B1
  obtain ⟨r2, hr2⟩ : ∃ r, order2 (ltOf cf) d r1.2.1 c' r1.2.2 = r := ⟨_, rfl⟩
  have B2 := order2_lt (cf := cf) (d := d) (s := r1.2.2) B1.2.1 hc
  rw [hr2] at B2
  obtain ⟨r3, hr3⟩ : ∃ r, order2 (ltOf cf) d r1.1 r2.1 r2.2.2 = r := ⟨_, rfl⟩
  have HM := Lib.hid (show median (ltOf cf) d a b c' s = (r3.2.1, r3.2.2) from by simp only [median, hr1, hr2, hr3])
  have H1 := Lib.hid (soOrd2_call cf g cb blk off cap a b c s d0 d w0 w eg HC.out R HS.out ha hb hsz (by omega))
  have H2 := Lib.hid (fun w1 h1 => soOrd2_call cf g cb blk off cap r1.2.1 c' c r1.2.2 d0 d w0 w1 eg HC.out R h1 B1.2.1 hc hsz (by omega))
  have H3 := Lib.hid (fun w2 h2 => soOrd2_call cf g cb blk off cap r1.1 r2.1 c r2.2.2 d0 d w0 w2 eg HC.out R h2 B1.1 B2.1 hsz (by omega))
  rw [hr1] at H1
  rw [hr2] at H2
  rw [hr3] at H3
  obtain ⟨x1, y1, z1⟩ := r1
  obtain ⟨x2, y2, z2⟩ := r2
  obtain ⟨x3, y3, z3⟩ := r3
  simp only at H1 H2 H3 HM B1 B2
  clear hr1 hr2 hr3
  go_enter Tryz.func129, Tryz.ntmps129
  go_upto_region 2 with (go_at_call 149; refine H1.out.mono ?_; rintro e1 w1 ⟨rfl, h1⟩; have S1 := Lib.hid h1; clear h1)
  go_upto_region 3 with (go_at_call 149; refine (H2.out w1 S1.out).mono ?_; rintro e2 w2 ⟨rfl, h2⟩; have S2 := Lib.hid h2; clear h2)
  go_wp2_with (go_at_call 149; refine (H3.out w2 S2.out).mono ?_; rintro e3 w3 ⟨rfl, h3⟩; have S3 := Lib.hid h3; clear h3)
  go_ret
  exact ⟨by rw [HM.out]; rfl, by rw [HM.out]; exact S3.out⟩

end Go.Proofs.YtnacoplokjdglaaGreat

namespace Go.Proofs.YtnacoplokjdglaaGreat
open Go.RowKit Go.Maps Go.Sort
attribute [local go_sem] Oper.semAt_some

set_option maxHeartbeats 16000000 in
set_option maxRecDepth 100000 in
theorem soAdj_call (cf : Int → Int → Int) (g : FuncId) (cb : Array Value) (blk off cap a c s : Nat) (d0 d : Array Int) (w0 w : World)
    (eg : ∀ args w, (callFunc g args).run Tryz.prog w = .ok (.enter g args) w) (hC : CmpP g cb cf blk off d0 w0) (R : Row1 vi w0 blk off d0) (hS : SoC w0 blk off d0 d c s w) (ha1 : 1 ≤ a) (ha2 : a + 1 < d0.size) (hsz : d0.size < 4611686018427387904) (hs : s + 3 < 4611686018427387904) :
    Calls Tryz.prog 128 #[.slice (some ⟨blk, off, none⟩) d0.size cap, vi a, .pointer (some ⟨c, 0, none⟩), .func (.func g) #[] cb] w fun e w' =>
      e = .returned (vi (medianAdjacent (ltOf cf) d a s).1) ∧ SoC w0 blk off d0 d c (medianAdjacent (ltOf cf) d a s).2 w' := by
  have H1 := Lib.hid (soMed_call cf g cb blk off cap (a - 1) a (a + 1) c s d0 d w0 w eg hC R hS (by omega) (by omega) ha2 hsz hs)
  clear hC hS
  have hw1 : IntKind.i64.wrap ((a : Int) - 1) = ((a - 1 : Nat) : Int) := by rw [IntWalk.i64_in _ (by omega)]; omega
  have hw2 : IntKind.i64.wrap ((a : Int) + 1) = ((a + 1 : Nat) : Int) := by rw [IntWalk.i64_in _ (by omega)]; omega
  obtain ⟨p, hp⟩ : ∃ p, a - 1 = p := ⟨_, rfl⟩
  obtain ⟨q, hq⟩ : ∃ q, a + 1 = q := ⟨_, rfl⟩
  have HM := Lib.hid (show medianAdjacent (ltOf cf) d a s = median (ltOf cf) d p a q s from by unfold medianAdjacent; rw [hp, hq])
  rw [hp] at hw1 H1
  rw [hq] at hw2 H1
  clear hp hq
  go_enter Tryz.func128, Tryz.ntmps128
  go_wp2_with (go_at_call 129; refine H1.out.mono ?_; rintro e1 w1 ⟨rfl, h1⟩; have S1 := Lib.hid h1; clear h1)
  go_ret
  exact ⟨by rw [HM.out]; rfl, by rw [HM.out]; exact S1.out⟩
end Go.Proofs.YtnacoplokjdglaaGreat

namespace Go.Proofs.YtnacoplokjdglaaGreat
open Go.RowKit Go.Maps Go.Sort
attribute [local go_sem] Oper.semAt_some

def hintN : Hint → Int
  | .unknown => 0
  | .increasing => 1
  | .decreasing => 2
def hintOf (s : Nat) : Hint := if s = 0 then .increasing else if s = 12 then .decreasing else .unknown
theorem med_lt {cf : Int → Int → Int} {d : Array Int} {a b c s n : Nat} (ha : a < n) (hb : b < n) (hc : c < n) : (median (ltOf cf) d a b c s).1 < n ∧ (median (ltOf cf) d a b c s).2 ≤ s + 3 := by
  have B1 := order2_lt (cf := cf) (d := d) (s := s) ha hb
  have B2 := order2_lt (cf := cf) (d := d) (s := (order2 (ltOf cf) d a b s).2.2) B1.2.1 hc
  have B3 := order2_lt (cf := cf) (d := d) (s := (order2 (ltOf cf) d (order2 (ltOf cf) d a b s).2.1 c (order2 (ltOf cf) d a b s).2.2).2.2) B1.1 B2.1
  refine ⟨B3.2.1, ?_⟩
  have h1 := B1.2.2
  have h2 := B2.2.2
  have h3 := B3.2.2
  show (order2 (ltOf cf) d _ _ _).2.2 ≤ s + 3
  omega

set_option maxHeartbeats 16000000 in
set_option maxRecDepth 100000 in
theorem soPiv_call (cf : Int → Int → Int) (g : FuncId) (cb : Array Value) (blk off cap a b : Nat) (d0 d : Array Int) (w0 w : World)
    (eg : ∀ args w, (callFunc g args).run Tryz.prog w = .ok (.enter g args) w) (hC : CmpP g cb cf blk off d0 w0) (R : Row1 vi w0 blk off d0) (hS : SoW w0 blk off d0 d w) (hab : a < b) (hb : b ≤ d0.size) (hsz : d0.size < 4611686018427387904) :
    Calls Tryz.prog 108 #[.slice (some ⟨blk, off, none⟩) d0.size cap, vi a, vi b, .func (.func g) #[] cb] w fun e w' =>
      e = .returned (.tuple #[vi (choosePivot (ltOf cf) d a b).1, vi (hintN (choosePivot (ltOf cf) d a b).2)]) ∧ SoW w0 blk off d0 d w' := by
  have HC := Lib.hid hC
  have HN := Lib.hid (SoC.of (Cnt1.start hS.sw 3) hS.pm)
  clear hC hS
  obtain ⟨l, hl⟩ : ∃ l, b - a = l := ⟨_, rfl⟩
  obtain ⟨q, hq⟩ : ∃ q, l / 4 = q := ⟨_, rfl⟩
  obtain ⟨i, hi⟩ : ∃ i, a + q * 1 = i := ⟨_, rfl⟩
  obtain ⟨j, hj⟩ : ∃ j, a + q * 2 = j := ⟨_, rfl⟩
  obtain ⟨k, hk⟩ : ∃ k, a + q * 3 = k := ⟨_, rfl⟩
  obtain ⟨q2, hq2⟩ : ∃ x, q * 2 = x := ⟨_, rfl⟩
  obtain ⟨q3, hq3⟩ : ∃ x, q * 3 = x := ⟨_, rfl⟩
  have HCP := Lib.hid (show choosePivot (ltOf cf) d a b = (let r : Nat × Nat := if l ≥ 8 then (if l ≥ 50 then median (ltOf cf) d (medianAdjacent (ltOf cf) d i 0).1 (medianAdjacent (ltOf cf) d j (medianAdjacent (ltOf cf) d i 0).2).1 (medianAdjacent (ltOf cf) d k (medianAdjacent (ltOf cf) d j (medianAdjacent (ltOf cf) d i 0).2).2).1 (medianAdjacent (ltOf cf) d k (medianAdjacent (ltOf cf) d j (medianAdjacent (ltOf cf) d i 0).2).2).2 else median (ltOf cf) d i j k 0) else (j, 0); (r.1, hintOf r.2)) from by
    subst hk hj hi hq hl; rfl)
  have w1 : IntKind.i64.wrap ((b : Int) - (a : Int)) = (l : Int) := by rw [IntWalk.i64_in _ (by omega)]; omega
  have e4 : ((l : Int)).tdiv 4 = (q : Int) := by rw [Int.tdiv_eq_ediv_of_nonneg (by omega)]; omega
  have w2 : IntKind.i64.wrap (q : Int) = (q : Int) := IntWalk.i64_in _ (by omega)
  have w4 : IntKind.i64.wrap ((q : Int) * 2) = (q2 : Int) := by rw [IntWalk.i64_in _ (by omega)]; omega
  have w5 : IntKind.i64.wrap ((q : Int) * 3) = (q3 : Int) := by rw [IntWalk.i64_in _ (by omega)]; omega
  have w6 : IntKind.i64.wrap ((a : Int) + (q : Int)) = (i : Int) := by rw [IntWalk.i64_in _ (by omega)]; omega
  have w7 : IntKind.i64.wrap ((a : Int) + (q2 : Int)) = (j : Int) := by rw [IntWalk.i64_in _ (by omega)]; omega
  have w8 : IntKind.i64.wrap ((a : Int) + (q3 : Int)) = (k : Int) := by rw [IntWalk.i64_in _ (by omega)]; omega
  go_enter Tryz.func108, Tryz.ntmps108
  go_upto_region 3 with fail
  generalize w.alloc (.cells #[.int .i64 0] 3) = wa at *
  obtain ⟨c, hc⟩ : ∃ c, c = w.heap.size := ⟨_, rfl⟩
  rw [← hc] at HN ⊢
  clear hc
  by_cases h8 : 8 ≤ l
  · have k8 : decide ((8 : Int) ≤ (l : Int)) = true := decide_eq_true (by omega)
    have k8' : (8 : Int) ≤ (l : Int) := by omega
    by_cases h50 : 50 ≤ l
    · have k50 : decide ((50 : Int) ≤ (l : Int)) = true := decide_eq_true (by omega)
      have k50' : (50 : Int) ≤ (l : Int) := by omega
      obtain ⟨r1, hr1⟩ : ∃ r, medianAdjacent (ltOf cf) d i 0 = r := ⟨_, rfl⟩
      have B1 := med_lt (cf := cf) (d := d) (a := i - 1) (b := i) (c := i + 1) (s := 0) (n := d0.size) (by omega) (by omega) (by omega)
      rw [show median (ltOf cf) d (i - 1) i (i + 1) 0 = r1 from hr1] at B1
      obtain ⟨r2, hr2⟩ : ∃ r, medianAdjacent (ltOf cf) d j r1.2 = r := ⟨_, rfl⟩
      have B2 := med_lt (cf := cf) (d := d) (a := j - 1) (b := j) (c := j + 1) (s := r1.2) (n := d0.size) (by omega) (by omega) (by omega)
      rw [show median (ltOf cf) d (j - 1) j (j + 1) r1.2 = r2 from hr2] at B2
      obtain ⟨r3, hr3⟩ : ∃ r, medianAdjacent (ltOf cf) d k r2.2 = r := ⟨_, rfl⟩
      have B3 := med_lt (cf := cf) (d := d) (a := k - 1) (b := k) (c := k + 1) (s := r2.2) (n := d0.size) (by omega) (by omega) (by omega)
      rw [show median (ltOf cf) d (k - 1) k (k + 1) r2.2 = r3 from hr3] at B3
      obtain ⟨r4, hr4⟩ : ∃ r, median (ltOf cf) d r1.1 r2.1 r3.1 r3.2 = r := ⟨_, rfl⟩
      have HE := Lib.hid (show choosePivot (ltOf cf) d a b = (r4.1, hintOf r4.2) from by rw [HCP.out, if_pos h8, if_pos h50, hr1, hr2, hr3, hr4])
      have H1 := Lib.hid (soAdj_call cf g cb blk off cap i c 0 d0 d w0 wa eg HC.out R HN.out (by omega) (by omega) hsz (by omega))
      have H2 := Lib.hid (fun x hx => soAdj_call cf g cb blk off cap j c r1.2 d0 d w0 x eg HC.out R hx (by omega) (by omega) hsz (by omega))
      have H3 := Lib.hid (fun x hx => soAdj_call cf g cb blk off cap k c r2.2 d0 d w0 x eg HC.out R hx (by omega) (by omega) hsz (by omega))
      have H4 := Lib.hid (fun x hx => soMed_call cf g cb blk off cap r1.1 r2.1 r3.1 c r3.2 d0 d w0 x eg HC.out R hx B1.1 B2.1 B3.1 hsz (by omega))
      rw [hr1] at H1
      rw [hr2] at H2
      rw [hr3] at H3
      rw [hr4] at H4
      obtain ⟨x1, s1⟩ := r1
      obtain ⟨x2, s2⟩ := r2
      obtain ⟨x3, s3⟩ := r3
      obtain ⟨p, s⟩ := r4
      simp only at H1 H2 H3 H4 HE
      clear hr1 hr2 hr3 hr4 B1 B2 B3
      go_upto_region 9 with (go_at_call 128; refine H1.out.mono ?_; rintro e1 wb ⟨rfl, h1⟩; have S1 := Lib.hid h1; clear h1)
      go_upto_region 10 with (go_at_call 128; refine (H2.out wb S1.out).mono ?_; rintro e2 wc ⟨rfl, h2⟩; have S2 := Lib.hid h2; clear h2)
      go_upto_region 11 with (go_at_call 128; refine (H3.out wc S2.out).mono ?_; rintro e3 wd ⟨rfl, h3⟩; have S3 := Lib.hid h3; clear h3)
      go_upto_region 12 with (go_at_call 129; refine (H4.out wd S3.out).mono ?_; rintro e4 wz ⟨rfl, h4⟩; have SZ := Lib.hid h4; clear h4)
      have cz := SZ.out.box
      by_cases s0 : s = 0
      · have z0 : ((s : Int) == 0) = true := by rw [beq_iff_eq]; omega
        have HF := Lib.hid (show hintOf s = .increasing from by unfold hintOf; rw [if_pos s0])
        clear s0
        go_wp2_with fail
        go_ret2
        exact ⟨by rw [HE.out, HF.out]; rfl, SZ.out.so⟩
      · have z0 : ((s : Int) == 0) = false := by rw [beq_eq_false_iff_ne]; omega
        by_cases s12 : s = 12
        · have z1 : ((s : Int) == 12) = true := by rw [beq_iff_eq]; omega
          have HF := Lib.hid (show hintOf s = .decreasing from by unfold hintOf; rw [if_neg s0, if_pos s12])
          clear s0 s12
          go_wp2_with fail
          go_ret2
          exact ⟨by rw [HE.out, HF.out]; rfl, SZ.out.so⟩
        · have z1 : ((s : Int) == 12) = false := by rw [beq_eq_false_iff_ne]; omega
          have HF := Lib.hid (show hintOf s = .unknown from by unfold hintOf; rw [if_neg s0, if_neg s12])
          clear s0 s12
          go_wp2_with fail
          go_ret2
          exact ⟨by rw [HE.out, HF.out]; rfl, SZ.out.so⟩
    · have k50 : decide ((50 : Int) ≤ (l : Int)) = false := decide_eq_false (by omega)
      have k50' : ¬ (50 : Int) ≤ (l : Int) := by omega
      obtain ⟨r, hr⟩ : ∃ r, median (ltOf cf) d i j k 0 = r := ⟨_, rfl⟩
      have HE := Lib.hid (show choosePivot (ltOf cf) d a b = (r.1, hintOf r.2) from by rw [HCP.out, if_pos h8, if_neg h50, hr])
      have H1 := Lib.hid (soMed_call cf g cb blk off cap i j k c 0 d0 d w0 wa eg HC.out R HN.out (by omega) (by omega) (by omega) hsz (by omega))
      rw [hr] at H1
      obtain ⟨p, s⟩ := r
      simp only at H1 HE
      clear hr
      go_upto_region 12 with (go_at_call 129; refine H1.out.mono ?_; rintro e1 wz ⟨rfl, h1⟩; have SZ := Lib.hid h1; clear h1)
      have cz := SZ.out.box
      by_cases s0 : s = 0
      · have z0 : ((s : Int) == 0) = true := by rw [beq_iff_eq]; omega
        have HF := Lib.hid (show hintOf s = .increasing from by unfold hintOf; rw [if_pos s0])
        clear s0
        go_wp2_with fail
        go_ret2
        exact ⟨by rw [HE.out, HF.out]; rfl, SZ.out.so⟩
      · have z0 : ((s : Int) == 0) = false := by rw [beq_eq_false_iff_ne]; omega
        by_cases s12 : s = 12
        · have z1 : ((s : Int) == 12) = true := by rw [beq_iff_eq]; omega
          have HF := Lib.hid (show hintOf s = .decreasing from by unfold hintOf; rw [if_neg s0, if_pos s12])
          clear s0 s12
          go_wp2_with fail
          go_ret2
          exact ⟨by rw [HE.out, HF.out]; rfl, SZ.out.so⟩
        · have z1 : ((s : Int) == 12) = false := by rw [beq_eq_false_iff_ne]; omega
          have HF := Lib.hid (show hintOf s = .unknown from by unfold hintOf; rw [if_neg s0, if_neg s12])
          clear s0 s12
          go_wp2_with fail
          go_ret2
          exact ⟨by rw [HE.out, HF.out]; rfl, SZ.out.so⟩
  · have k8 : decide ((8 : Int) ≤ (l : Int)) = false := decide_eq_false (by omega)
    have k8' : ¬ (8 : Int) ≤ (l : Int) := by omega
    have HE := Lib.hid (show choosePivot (ltOf cf) d a b = (j, hintOf 0) from by rw [HCP.out, if_neg h8])
    have cz := HN.out.box
    go_wp2_with fail
    go_ret2
    exact ⟨by rw [HE.out]; rfl, HN.out.so⟩
end Go.Proofs.YtnacoplokjdglaaGreat

namespace Go.Proofs.YtnacoplokjdglaaGreat
open Go.RowKit Go.Maps Go.Sort
attribute [local go_sem] Oper.semAt_some

theorem rev_go {i j : Nat} {d : Array Int} (h : i < j) : reverseLoop i j d = reverseLoop (i + 1) (j - 1) (Sort.swp d i j) := by rw [reverseLoop, if_pos h]
theorem rev_stop {i j : Nat} {d : Array Int} (h : ¬ i < j) : reverseLoop i j d = d := by rw [reverseLoop, if_neg h]

set_option maxHeartbeats 16000000 in
set_option maxRecDepth 100000 in
theorem soRev_call (f : Value) (blk off cap a b : Nat) (d0 d : Array Int) (w0 w : World)
    (R : Row1 vi w0 blk off d0) (hS : SoW w0 blk off d0 d w) (h0 : 0 < b) (hab : a ≤ b) (hb : b ≤ d0.size) (hsz : d0.size < 4611686018427387904) :
    Calls Tryz.prog 109 #[.slice (some ⟨blk, off, none⟩) d0.size cap, vi a, vi b, f] w fun e w' => e = .returned (.tuple #[]) ∧ SoW w0 blk off d0 (Sort.reverseRange d a b) w' := by
  have HS := Lib.hid hS
  have mixed : Tryz.prog.follows .mixedOrders = true := by kernel_rfl
  clear hS
  obtain ⟨b1, hb1⟩ : ∃ x, b - 1 = x := ⟨_, rfl⟩
  have hw1 : IntKind.i64.wrap ((b : Int) - 1) = (b1 : Int) := by rw [IntWalk.i64_in _ (by omega)]; omega
  go_enter Tryz.func109, Tryz.ntmps109
  go_wp2_with fail
  go_loopw [8, 9] (fun vi' vj wr => ∃ (i j : Nat) (dk : Array Int), a ≤ i ∧ i ≤ b ∧ j ≤ b1 ∧ vi' = vi i ∧ vj = vi j ∧ Hid (SoW w0 blk off d0 dk wr ∧ reverseLoop i j dk = Sort.reverseRange d a b)) (fun i j _ => (intOf j).toNat + b - (intOf i).toNat)
  case atStart => exact ⟨a, b1, d, Nat.le_refl _, hab, Nat.le_refl _, rfl, rfl, Lib.hid ⟨HS.out, by unfold Sort.reverseRange; rw [hb1]⟩⟩
  case round =>
    clear HS
    obtain ⟨wj, rfl⟩ : ∃ wj : World, wj = wr := ⟨_, rfl⟩
    obtain ⟨i, j, dk, hai, hib, hjb, rfl, rfl, HJ⟩ := hrel
    have HO := Lib.hid HJ.out.2
    have S0 := Lib.hid HJ.out.1
    clear HJ
    by_cases hlt : i < j
    · have k1 : decide ((i : Int) < (j : Int)) = true := decide_eq_true (by omega)
      have k2 : (i : Int) < (j : Int) := by omega
      have b2 : (i : Int) < (d0.size : Int) := by omega
      have b3 : (j : Int) < (d0.size : Int) := by omega
      obtain ⟨i1, hi1⟩ : ∃ x, i + 1 = x := ⟨_, rfl⟩
      obtain ⟨j1, hj1⟩ : ∃ x, j - 1 = x := ⟨_, rfl⟩
      have hw2 : IntKind.i64.wrap ((i : Int) + 1) = (i1 : Int) := by rw [IntWalk.i64_in _ (by omega)]; omega
      have hw3 : IntKind.i64.wrap ((j : Int) - 1) = (j1 : Int) := by rw [IntWalk.i64_in _ (by omega)]; omega
      have HG := Lib.hid (rev_go (d := dk) hlt)
      rw [hi1, hj1] at HG
      have S03 := Lib.hid (S0.out.swp R (i := i) (j := j) (by omega) (by omega))
      have ca := S0.out.c1 R (i := i) (by omega)
      have cb2 := S0.out.c1 R (i := j) (by omega)
      have fa := S0.out.f1 R (i := i) (by omega)
      have fb := S0.out.f1 R (i := j) (by omega)
      obtain ⟨ux, hux⟩ : ∃ x, x = dk[i]! := ⟨_, rfl⟩
      obtain ⟨uy, huy⟩ : ∃ y, y = dk[j]! := ⟨_, rfl⟩
      obtain ⟨u2, cc⟩ := S0.out.c2 R (i := i) (j := j) (by omega) (by omega) (vi uy)
      rw [← hux] at ca S03
      rw [← huy] at cb2 S03
      clear hux huy
      go_wp2_with fail
      go_big_region_o
      clear ca cb2 fa fb cc
      generalize ((wj.setCell ⟨blk, off + i, none⟩ (vi uy)).setCell ⟨blk, off + j, none⟩ (vi ux)).drew = w3 at S03 ⊢
      go_wp2_with fail
      exact ⟨⟨i1, j1, Sort.swp dk i j, by omega, by omega, by omega, rfl, rfl, Lib.hid ⟨S03.out, by rw [← HO.out, HG.out]⟩⟩, by simp only [intOf]; omega⟩
    · have k1 : decide ((i : Int) < (j : Int)) = false := decide_eq_false (by omega)
      have k2 : ¬ (i : Int) < (j : Int) := by omega
      have HG := Lib.hid (rev_stop (d := dk) hlt)
      go_wp2_with fail
      (first | go_end0 | ((try simp only [Exit.inBlock, Exit.then]); refine bodyPost_ret (results_none rfl _ _ _) rfl ?_))
      exact ⟨rfl, by rw [← HO.out, HG.out]; exact S0.out⟩
end Go.Proofs.YtnacoplokjdglaaGreat

namespace Go.Proofs.YtnacoplokjdglaaGreat
open Go.Sort

theorem scanUp_go {p : Int → Bool} {d : Array Int} {j i : Nat} (h1 : i ≤ j) (h2 : p d[i]! = true) : scanUp p d j i = scanUp p d j (i + 1) := by
  rw [scanUp, if_pos (by simp [h1, h2])]
theorem scanUp_stop {p : Int → Bool} {d : Array Int} {j i : Nat} (h : j < i ∨ p d[i]! = false) : scanUp p d j i = i := by
  rw [scanUp, if_neg]
  rcases h with h | h
  · simp [show ¬ i ≤ j by omega]
  · simp [h]
theorem scanDown_go {p : Int → Bool} {d : Array Int} {i j : Nat} (h0 : 0 < j) (h1 : i ≤ j) (h2 : p d[j]! = true) : scanDown p d i j = scanDown p d i (j - 1) := by
  obtain ⟨k, rfl⟩ : ∃ k, j = k + 1 := ⟨j - 1, by omega⟩
  rw [scanDown, if_pos (by simp [h1, h2])]
  rfl
theorem scanDown_stop {p : Int → Bool} {d : Array Int} {i j : Nat} (h : j < i ∨ p d[j]! = false) : scanDown p d i j = j := by
  cases j with
  | zero => rfl
  | succ k =>
    rw [scanDown, if_neg]
    rcases h with h | h
    · simp [show ¬ i ≤ k + 1 by omega]
    · simp [h]
theorem pe_end {lt : Int → Int → Bool} {a i j i2 j2 : Nat} {d : Array Int} (h1 : scanUp (fun x => !lt d[a]! x) d j i = i2) (h2 : scanDown (fun x => lt d[a]! x) d i2 j = j2) (h : j2 < i2) : partEqLoop lt a i j d = (i2, d) := by
  rw [partEqLoop]
  simp only [h1, h2]
  rw [if_pos h]
theorem pe_go {lt : Int → Int → Bool} {a i j i2 j2 : Nat} {d : Array Int} (h1 : scanUp (fun x => !lt d[a]! x) d j i = i2) (h2 : scanDown (fun x => lt d[a]! x) d i2 j = j2) (h : ¬ j2 < i2) (hi : i ≤ i2) (hj : j2 ≤ j) (h0 : 0 < i2) : partEqLoop lt a i j d = partEqLoop lt a (i2 + 1) (j2 - 1) (swp d i2 j2) := by
  rw [partEqLoop]
  simp only [h1, h2]
  rw [if_neg h, dif_pos (by omega)]
theorem pl_end {lt : Int → Int → Bool} {a i j i2 j2 : Nat} {d : Array Int} (h1 : scanUp (fun x => lt x d[a]!) d j i = i2) (h2 : scanDown (fun x => !lt x d[a]!) d i2 j = j2) (h : j2 < i2) : partLoop lt a i j d = (j2, d) := by
  rw [partLoop]
  simp only [h1, h2]
  rw [if_pos h]
theorem pl_go {lt : Int → Int → Bool} {a i j i2 j2 : Nat} {d : Array Int} (h1 : scanUp (fun x => lt x d[a]!) d j i = i2) (h2 : scanDown (fun x => !lt x d[a]!) d i2 j = j2) (h : ¬ j2 < i2) (hi : i ≤ i2) (hj : j2 ≤ j) (h0 : 0 < i2) : partLoop lt a i j d = partLoop lt a (i2 + 1) (j2 - 1) (swp d i2 j2) := by
  rw [partLoop]
  simp only [h1, h2]
  rw [if_neg h, dif_pos (by omega)]
theorem ss_go {lt : Int → Int → Bool} {d : Array Int} {b i : Nat} (h1 : i < b) (h2 : lt d[i]! d[i - 1]! = false) : scanSorted lt d b i = scanSorted lt d b (i + 1) := by
  rw [scanSorted, if_pos (by simp [h1, h2])]
theorem ss_stop {lt : Int → Int → Bool} {d : Array Int} {b i : Nat} (h : b ≤ i ∨ lt d[i]! d[i - 1]! = true) : scanSorted lt d b i = i := by
  rw [scanSorted, if_neg]
  rcases h with h | h
  · simp [show ¬ i < b by omega]
  · simp [h]
theorem sd1_go {lt : Int → Int → Bool} {d : Array Int} {j : Nat} (h : lt d[j + 1]! d[j]! = true) : shiftDown lt (j + 1) d = shiftDown lt j (swp d (j + 1) j) := by
  rw [shiftDown, if_neg (by simp [h])]
theorem sd1_stop {lt : Int → Int → Bool} {d : Array Int} {j : Nat} (h : lt d[j + 1]! d[j]! = false) : shiftDown lt (j + 1) d = d := by
  rw [shiftDown, if_pos (by simp [h])]
theorem su1_go {lt : Int → Int → Bool} {d : Array Int} {b j : Nat} (h1 : j < b) (h : lt d[j]! d[j - 1]! = true) : shiftUp lt b j d = shiftUp lt b (j + 1) (swp d j (j - 1)) := by
  rw [shiftUp, if_pos h1, if_neg (by simp [h])]
theorem su1_stop {lt : Int → Int → Bool} {d : Array Int} {b j : Nat} (h : b ≤ j ∨ lt d[j]! d[j - 1]! = false) : shiftUp lt b j d = d := by
  rw [shiftUp]
  rcases h with h | h
  · rw [if_neg (by omega)]
  · split
    · rw [if_pos (by simp [h])]
    · rfl
end Go.Proofs.YtnacoplokjdglaaGreat
