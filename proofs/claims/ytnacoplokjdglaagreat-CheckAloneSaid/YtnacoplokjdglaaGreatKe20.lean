/- Texts of one proof, one behind the other: SoPdq, SoTop, Chain. -/
import Derived.Sort.Walk13
import Derived.Shelf.SlSortCmp.BreakPatterns1
import Derived.Test.YtnacoplokjdglaaGreatKe1
import Derived.Test.YtnacoplokjdglaaGreatKe2
import Derived.Test.YtnacoplokjdglaaGreatKe3
import Derived.Test.YtnacoplokjdglaaGreatKe4
import Derived.Test.YtnacoplokjdglaaGreatKe16
import Derived.Test.YtnacoplokjdglaaGreatKe17
import Derived.Test.YtnacoplokjdglaaGreatKe18
import Derived.Test.YtnacoplokjdglaaGreatKe19
set_option linter.all false
namespace Go.Proofs.YtnacoplokjdglaaGreat
open Go.RowKit Go.Maps Go.Sort
attribute [local go_sem] Oper.semAt_some

set_option maxHeartbeats 32000000 in
set_option maxRecDepth 100000 in
theorem soPdq_call (cf : Int → Int → Int) (g : FuncId) (cb : Array Value) (hO : SWO (ltOf cf)) (blk off cap : Nat) (d0 : Array Int) (w0 : World)
    (eg : ∀ args w, (callFunc g args).run Tryz.prog w = .ok (.enter g args) w) (hC : CmpP g cb cf blk off d0 w0) (R : Row1 vi w0 blk off d0) (hsz : d0.size < 4611686018427387904) :
    ∀ (N a b limit : Nat) (d : Array Int) (w : World), b - a < N → SoW w0 blk off d0 d w → a ≤ b → b ≤ d0.size → limit < 4611686018427387904 → Sort.Below (ltOf cf) a b d →
    Calls Tryz.prog 85 #[.slice (some ⟨blk, off, none⟩) d0.size cap, vi a, vi b, vi limit, .func (.func g) #[] cb] w fun e w' => e = .returned (.tuple #[]) ∧ SoW w0 blk off d0 (pdq (ltOf cf) d a b limit true true) w' := by
  have HC := Lib.hid hC
  have HO := Lib.hid hO
  have mixed : Tryz.prog.follows .mixedOrders = true := by kernel_rfl
  clear hC hO
  intro N
  induction N with
  | zero => intro _ _ _ _ _ h; exact absurd h (Nat.not_lt_zero _)
  | succ N ih =>
    intro a b limit d w hN hS hab hb hlimit hBel
    have IH := Lib.hid ih
    have HS := Lib.hid hS
    have HB := Lib.hid hBel
    clear ih hS hBel
    obtain ⟨RR, hRR⟩ : ∃ r, pdq (ltOf cf) d a b limit true true = r := ⟨_, rfl⟩
    have HR := Lib.hid hRR
    rw [hRR]
    clear hRR
    go_enter Tryz.func85, Tryz.ntmps85
    go_wp2_with fail
    go_loopw [1, 2, 3, 10, 11] (fun s1 s2 s3 s8 s9 wr => ∃ (a' b' lim : Nat) (wb wp : Bool) (dk : Array Int), a' ≤ b' ∧ b' ≤ d0.size ∧ b' - a' ≤ b - a ∧ lim < 4611686018427387904 ∧ s1 = vi a' ∧ s2 = vi b' ∧ s3 = vi lim ∧ s8 = .bool wb ∧ s9 = .bool wp ∧ Hid (Sort.Below (ltOf cf) a' b' dk ∧ SoW w0 blk off d0 dk wr ∧ pdq (ltOf cf) dk a' b' lim wb wp = RR)) (fun s1 s2 _ _ _ _ => (intOf s2).toNat - (intOf s1).toNat)
    case atStart => exact ⟨a, b, limit, true, true, d, hab, hb, Nat.le_refl _, hlimit, rfl, rfl, rfl, rfl, rfl, Lib.hid ⟨HB.out, HS.out, HR.out⟩⟩
    case round =>
      clear HS HB HR
      obtain ⟨wj, rfl⟩ : ∃ wj : World, wj = wr := ⟨_, rfl⟩
      obtain ⟨a', b', lim, wb_, wp, dk, hab', hb', hkN, hlim, rfl, rfl, rfl, rfl, rfl, HJ⟩ := hrel
      have HB := Lib.hid HJ.out.1
      have S0 := Lib.hid HJ.out.2.1
      have HR := Lib.hid HJ.out.2.2
      clear HJ
      obtain ⟨ln, hln⟩ : ∃ q, b' - a' = q := ⟨_, rfl⟩
      have wln : IntKind.i64.wrap ((b' : Int) - (a' : Int)) = (ln : Int) := by rw [IntWalk.i64_in _ (by omega)]; omega
      by_cases h12 : ln ≤ 12
      · have k1 : decide ((ln : Int) ≤ 12) = true := decide_eq_true (by omega)
        have k2 : (ln : Int) ≤ 12 := by omega
        have H1 := Lib.hid (soIns_call cf g cb blk off cap a' b' d0 dk w0 wj eg HC.out R S0.out hab' hb' hsz)
        have HE := Lib.hid (pdq_small (lt := ltOf cf) (d := dk) (limit := lim) (wb := wb_) (wp := wp) (show b' - a' ≤ 12 by omega))
        go_wp2_with (go_at_call 105; refine H1.out.mono ?_; rintro e1 w1 ⟨rfl, hw1⟩)
        (first | go_end0 | ((try simp only [Exit.inBlock, Exit.then]); refine bodyPost_ret (results_none rfl _ _ _) rfl ?_))
        exact ⟨rfl, by rw [← HR.out, HE.out]; exact hw1⟩
      · have k1 : decide ((ln : Int) ≤ 12) = false := decide_eq_false (by omega)
        have k2 : ¬ (ln : Int) ≤ 12 := by omega
        by_cases hl0 : lim = 0
        · have l1 : ((lim : Int) == 0) = true := beq_iff_eq.2 (by omega)
          have H1 := Lib.hid (soHeap_call cf g cb blk off cap a' b' d0 dk w0 wj eg HC.out R S0.out hab' hb' hsz)
          have HE := Lib.hid (pdq_heap (lt := ltOf cf) (d := dk) (limit := lim) (wb := wb_) (wp := wp) (show ¬ b' - a' ≤ 12 by omega) hl0)
          clear hl0
          go_wp2_with (go_at_call 106; refine H1.out.mono ?_; rintro e1 w1 ⟨rfl, hw1⟩)
          (first | go_end0 | ((try simp only [Exit.inBlock, Exit.then]); refine bodyPost_ret (results_none rfl _ _ _) rfl ?_))
          exact ⟨rfl, by rw [← HR.out, HE.out]; exact hw1⟩
        · have l1 : ((lim : Int) == 0) = false := beq_eq_false_iff_ne.2 (by omega)
          obtain ⟨Q, hQ⟩ := rdF (lim := lim) (wb := wb_) (wp := wp) HO.out (show a' < b' by omega) (show b' ≤ dk.size by rw [S0.out.sz]; exact hb') HB.out (show ¬ b' - a' ≤ 12 by omega) hl0
          rw [HR.out] at hQ
          have HQ := Lib.hid hQ
          have hQl := hQ.le
          have hQc := hQ.c1
          have hQp := hQ.pv
          clear hQ HR
          obtain ⟨ql, hql⟩ : ∃ x, Q.lim = x := ⟨_, rfl⟩
          obtain ⟨qp, hqp⟩ : ∃ x, Q.pivot = x := ⟨_, rfl⟩
          obtain ⟨qc, hqc⟩ : ∃ x, Q.c.1 = x := ⟨_, rfl⟩
          obtain ⟨qh, hqh⟩ : ∃ x, Q.c.2 = x := ⟨_, rfl⟩
          rw [hql] at hQl
          rw [hqp] at hQp
          rw [hqc] at hQc
          have HQL := Lib.hid hql
          have HQP := Lib.hid hqp
          have HQC := Lib.hid hqc
          have HQH := Lib.hid hqh
          clear hql hqp hqc hqh
          have wlm : IntKind.i64.wrap ((lim : Int) - 1) = ((lim - 1 : Nat) : Int) := by rw [IntWalk.i64_in _ (by omega)]; omega
          go_upto_if 39 with fail
          go_cut [3] (fun s3 wx => s3 = vi ql ∧ Hid (SoW w0 blk off d0 Q.d1 wx))
          case first =>
            cases wb_ with
            | false =>
              have HF := Lib.hid (HQ.out.brk rfl)
              have H1 := Lib.hid (soBrk_call g cb blk off cap a' b' d0 dk w0 wj R S0.out hab' hb' hsz)
              go_wp2_with (go_at_call 107; refine H1.out.mono ?_; rintro e1 w1 ⟨rfl, hw1⟩; have HW1 := Lib.hid hw1; clear hw1)
              go_meet
              exact ⟨by rw [← HQL.out, HF.out.2], Lib.hid (by rw [HF.out.1]; exact HW1.out)⟩
            | true =>
              have HF := Lib.hid (HQ.out.same rfl)
              go_wp2_with fail
              go_meet
              exact ⟨by rw [← HQL.out, HF.out.2], Lib.hid (by rw [HF.out.1]; exact S0.out)⟩
          case rest =>
            obtain ⟨wa, rfl⟩ : ∃ wa : World, wa = wc := ⟨_, rfl⟩
            obtain ⟨rfl, S1⟩ := hcut
            clear S0
            have H1 := Lib.hid (soPiv_call cf g cb blk off cap a' b' d0 Q.d1 w0 wa eg HC.out R S1.out (by omega) hb' hsz)
            rw [← HQ.out.c, HQC.out, HQH.out] at H1
            go_upto_if 56 with (go_at_call 108; refine H1.out.mono ?_; rintro e1 w2 ⟨rfl, hw2⟩; have S2 := Lib.hid hw2; clear hw2)
            clear H1
            obtain ⟨qt, hqt⟩ : ∃ x, Q.hint = x := ⟨_, rfl⟩
            have HQT := Lib.hid hqt
            clear hqt
            have wb1 : IntKind.i64.wrap ((b' : Int) - 1) = ((b' - 1 : Nat) : Int) := by rw [IntWalk.i64_in _ (by omega)]; omega
            have wqa : IntKind.i64.wrap ((qc : Int) - (a' : Int)) = ((qc - a' : Nat) : Int) := by rw [IntWalk.i64_in _ (by omega)]; omega
            have wbq : IntKind.i64.wrap (((b' - 1 : Nat) : Int) - ((qc - a' : Nat) : Int)) = ((b' - 1 - (qc - a') : Nat) : Int) := by rw [IntWalk.i64_in _ (by omega)]; omega
            go_cut [13, 14] (fun s11 s12 wx => s11 = vi qp ∧ s12 = vi (hintN qt) ∧ Hid (SoW w0 blk off d0 Q.d2 wx))
            case first =>
              by_cases hh : qh = .decreasing
              · have HF := Lib.hid (HQ.out.dec (by rw [HQH.out]; exact hh))
                have hcode : (hintN qh == 2) = true := by rw [hh]; rfl
                have hcode2 : hintN qh = 2 := by rw [hh]; rfl
                clear hh
                have H1 := Lib.hid (soRev_call (.func (.func g) #[] cb) blk off cap a' b' d0 Q.d1 w0 w2 R S2.out (by omega) hab' hb' hsz)
                go_wp2_with (go_at_call 109; refine H1.out.mono ?_; rintro e1 w3 ⟨rfl, hw3⟩; have S3 := Lib.hid hw3; clear hw3)
                go_meet
                exact ⟨by rw [← HQP.out, HF.out.2.1, HQC.out], by rw [← HQT.out, HF.out.2.2]; rfl, Lib.hid (by rw [HF.out.1]; exact S3.out)⟩
              · have HF := Lib.hid (HQ.out.nodec (by rw [HQH.out]; exact hh))
                have hcode : (hintN qh == 2) = false := by cases qh <;> first | rfl | exact absurd rfl hh
                have hcode2 : ¬ hintN qh = 2 := by cases qh <;> first | decide | exact absurd rfl hh
                clear hh
                go_wp2_with fail
                go_meet
                exact ⟨by rw [← HQP.out, HF.out.2.1, HQC.out], by rw [← HQT.out, HF.out.2.2, HQH.out], Lib.hid (by rw [HF.out.1]; exact S2.out)⟩
            case rest =>
              obtain ⟨wb, rfl⟩ : ∃ wa : World, wa = wc := ⟨_, rfl⟩
              obtain ⟨rfl, rfl, S3⟩ := hcut
              clear S2 S1
              go_upto_region 15 with fail
              go_cut [14, 75] (fun s12 s68 wx => s12 = vi (hintN qt) ∧ s68 = .bool (wb_ && wp && decide (qt = .increasing)) ∧ wx = wb)
              case first =>
                clear HQ IH HQL HQP HQC HQH HC R
                cases wb_ with
                | false =>
                  go_wp2_with fail
                  go_meet
                  exact ⟨rfl, by simp, rfl⟩
                | true =>
                  cases wp with
                  | false =>
                    go_wp2_with fail
                    go_meet
                    exact ⟨rfl, by simp, rfl⟩
                  | true =>
                    have hq1 : (hintN qt == 1) = decide (qt = .increasing) := by cases qt <;> rfl
                    cases hd : decide (qt = .increasing) with
                    | false =>
                      rw [hd] at hq1
                      go_wp2_with fail
                      go_meet
                      exact ⟨rfl, by rw [hd]; rfl, rfl⟩
                    | true =>
                      rw [hd] at hq1
                      go_wp2_with fail
                      go_meet
                      exact ⟨rfl, by rw [hd]; rfl, rfl⟩
              case rest =>
                obtain ⟨rfl, rfl, hwc⟩ := hcut
                replace hwc := hwc.symm
                subst hwc
                go_upto_if 75 with fail
                go_cut [] (fun wx => Hid (Q.pi.2 = false ∧ SoW w0 blk off d0 Q.pi.1 wx))
                case first =>
                  cases h68 : (wb_ && wp && decide (qt = .increasing)) with
                  | false =>
                    have HF := Lib.hid (HQ.out.no (by rw [HQT.out]; exact h68))
                    clear h68
                    go_wp2_with fail
                    go_meet
                    exact Lib.hid ⟨by rw [HF.out], by rw [HF.out]; exact S3.out⟩
                  | true =>
                    have HF := Lib.hid (HQ.out.yes (by rw [HQT.out]; exact h68))
                    clear h68
                    have H1 := Lib.hid (soPins_call cf g cb blk off cap a' b' d0 Q.d2 w0 wb eg HC.out R S3.out (by omega) hb' hsz)
                    rw [← HF.out] at H1
                    cases hp : Q.pi.2 with
                    | false =>
                      rw [hp] at H1
                      have HP := Lib.hid hp
                      clear hp
                      go_wp2_with (go_at_call 110; refine H1.out.mono ?_; rintro e1 w4 ⟨rfl, hw4⟩; have S4 := Lib.hid hw4; clear hw4)
                      go_meet
                      exact Lib.hid ⟨HP.out, S4.out⟩
                    | true =>
                      rw [hp] at H1
                      have HP := Lib.hid hp
                      clear hp
                      go_wp2_with (go_at_call 110; refine H1.out.mono ?_; rintro e1 w4 ⟨rfl, hw4⟩; have S4 := Lib.hid hw4; clear hw4)
                      (first | go_end0 | ((try simp only [Exit.inBlock, Exit.then]); refine bodyPost_ret (results_none rfl _ _ _) rfl ?_))
                      exact ⟨rfl, by rw [← HQ.out.done HP.out]; exact S4.out⟩
                case rest =>
                  obtain ⟨wd, rfl⟩ : ∃ wa : World, wa = wc := ⟨_, rfl⟩
                  have HP := Lib.hid hcut.out.1
                  have S5 := Lib.hid hcut.out.2
                  clear hcut S3
                  obtain ⟨D, hD⟩ : ∃ x, Q.pi.1 = x := ⟨_, rfl⟩
                  rw [hD] at S5
                  have HD := Lib.hid hD
                  clear hD
                  rcases Nat.eq_zero_or_pos a' with ha0 | ha0
                  · have HL := Lib.hid (show a' = 0 ∨ (ltOf cf) D[a' - 1]! D[qp]! = true from Or.inl ha0)
                    have z1 : decide ((0 : Int) < (a' : Int)) = false := decide_eq_false (by omega)
                    have z2 : ¬ (0 : Int) < (a' : Int) := by omega
                    have z3 : decide (0 < a') = false := decide_eq_false (by omega)
                    have z4 : ¬ 0 < a' := by omega
                    clear ha0
                    go_wp2_with fail
                    go_big_region_o
                    have S6 := Lib.hid S5.out.drew
                    clear S5
                    generalize wd.drew = w6 at S6 ⊢
                    have H1 := Lib.hid (soPart_call cf g cb blk off cap a' b' qp d0 D w0 w6 eg HC.out R S6.out (by omega) (by omega) hb' hsz)
                    obtain ⟨mid, ap, d4, hx⟩ : ∃ mid ap d4, Sort.partition (ltOf cf) D a' b' qp = (mid, ap, d4) := ⟨_, _, _, rfl⟩
                    obtain ⟨hx1, hx2, hx3, hx4, hx5, hx6⟩ := HQ.out.part HP.out (by rw [HD.out, HQP.out]; exact HL.out) mid ap d4 (by rw [HD.out, HQP.out]; exact hx)
                    rw [HQL.out] at hx5 hx6
                    have HX := Lib.hid (And.intro (And.intro hx3 hx4) (And.intro hx5 hx6))
                    clear hx3 hx4 hx5 hx6
                    rw [hx] at H1
                    clear hx
                    obtain ⟨ll, hll⟩ : ∃ x, mid - a' = x := ⟨_, rfl⟩
                    obtain ⟨rl, hrl⟩ : ∃ x, b' - mid = x := ⟨_, rfl⟩
                    have em1 : ((mid + 1 : Nat) : Int) = (mid : Int) + 1 := by omega
                    have wll : IntKind.i64.wrap ((mid : Int) - (a' : Int)) = (ll : Int) := by rw [IntWalk.i64_in _ (by omega)]; omega
                    have wrl : IntKind.i64.wrap ((b' : Int) - (mid : Int)) = (rl : Int) := by rw [IntWalk.i64_in _ (by omega)]; omega
                    have wm1 : IntKind.i64.wrap ((mid : Int) + 1) = (mid : Int) + 1 := IntWalk.i64_in _ (by omega)
                    go_upto_if 125 with (go_at_call 112; refine H1.out.mono ?_; rintro e1 w7 ⟨rfl, hw7⟩; have S7 := Lib.hid hw7; clear hw7)
                    by_cases h4 : mid - a' < b' - mid
                    · have HF := Lib.hid (HX.out.2.1 h4)
                      have m1 : decide ((ll : Int) < (rl : Int)) = true := decide_eq_true (by omega)
                      have m2 : (ll : Int) < (rl : Int) := by omega
                      have H2 := Lib.hid (IH.out a' mid ql d4 w7 (by omega) S7.out hx1 (by omega) (by omega) HX.out.1.1)
                      have EBX : decide ((ln : Int) / 8 ≤ (ll : Int)) = decide (mid - a' ≥ (b' - a') / 8) := by rw [← hll, ← hln]; exact decide_eq_decide.2 (by omega)
                      have EBY : decide (ln / 8 ≤ ll) = decide (mid - a' ≥ (b' - a') / 8) := by rw [← hll, ← hln]
                      go_wp2_with (go_at_call 85; refine H2.out.mono ?_; rintro e1 w8 ⟨rfl, hw8⟩; have S8 := Lib.hid hw8; clear hw8)
                      exact ⟨⟨mid + 1, b', ql, decide (mid - a' ≥ (b' - a') / 8), ap, pdq (ltOf cf) d4 a' mid ql true true, by omega, hb', by omega, by omega, by rw [em1], rfl, rfl, (by first | with_reducible rfl | exact congrArg Value.bool EBX | exact congrArg Value.bool EBY), rfl, Lib.hid ⟨HF.out.1, S8.out, HF.out.2⟩⟩, by simp only [intOf]; omega⟩
                    · have HF := Lib.hid (HX.out.2.2 h4)
                      have m1 : decide ((ll : Int) < (rl : Int)) = false := decide_eq_false (by omega)
                      have m2 : ¬ (ll : Int) < (rl : Int) := by omega
                      have EBX : decide ((ln : Int) / 8 ≤ (rl : Int)) = decide (b' - mid ≥ (b' - a') / 8) := by rw [← hrl, ← hln]; exact decide_eq_decide.2 (by omega)
                      have EBY : decide (ln / 8 ≤ rl) = decide (b' - mid ≥ (b' - a') / 8) := by rw [← hrl, ← hln]
                      have H2 := Lib.hid (IH.out (mid + 1) b' ql d4 w7 (by omega) S7.out (by omega) hb' (by omega) HX.out.1.2)
                      rw [em1] at H2
                      go_wp2_with (go_at_call 85; refine H2.out.mono ?_; rintro e1 w8 ⟨rfl, hw8⟩; have S8 := Lib.hid hw8; clear hw8)
                      exact ⟨⟨a', mid, ql, decide (b' - mid ≥ (b' - a') / 8), ap, pdq (ltOf cf) d4 (mid + 1) b' ql true true, hx1, by omega, by omega, by omega, rfl, rfl, rfl, (by first | with_reducible rfl | exact congrArg Value.bool EBX | exact congrArg Value.bool EBY), rfl, Lib.hid ⟨HF.out.1, S8.out, HF.out.2⟩⟩, by simp only [intOf]; omega⟩
                  · obtain ⟨ap', hap'⟩ : ∃ q, q + 1 = a' := ⟨a' - 1, by omega⟩
                    have eap : a' - 1 = ap' := by omega
                    have z1 : decide ((0 : Int) < (a' : Int)) = true := decide_eq_true (by omega)
                    have z2 : (0 : Int) < (a' : Int) := by omega
                    have z3 : decide (0 < a') = true := decide_eq_true (by omega)
                    have wap : IntKind.i64.wrap ((a' : Int) - 1) = (ap' : Int) := by rw [IntWalk.i64_in _ (by omega)]; omega
                    have bap : (ap' : Int) < (d0.size : Int) := by omega
                    have bqp : (qp : Int) < (d0.size : Int) := by omega
                    cases hlv : (ltOf cf) D[ap']! D[qp]! with
                    | true =>
                      have HL := Lib.hid (show a' = 0 ∨ (ltOf cf) D[a' - 1]! D[qp]! = true from Or.inr (by rw [eap]; exact hlv))
                      obtain ⟨x, hx⟩ : ∃ x, x = D[ap']! := ⟨_, rfl⟩
                      obtain ⟨y, hy⟩ : ∃ y, y = D[qp]! := ⟨_, rfl⟩
                      have la := S5.out.cl R (i := ap') (by omega)
                      have lb := S5.out.cl R (i := qp) (by omega)
                      rw [← hx] at la
                      rw [← hy] at lb
                      have hc := S5.out.cmp HC.out x y (by rw [hx]; exact S5.out.mem (by omega)) (by rw [hy]; exact S5.out.mem (by omega))
                      have hd : decide (cf x y < 0) = true := by rw [hx, hy]; exact hlv
                      have hv : cf x y < 0 := of_decide_eq_true hd
                      clear hx hy
                      go_wp2_with fail
                      go_quiet_grown (first | (go_at_fn g; refine Calls.grown_of (hc _ _)))
                      have S52 := Lib.hid (S5.out.grown nq osq)
                      clear la lb hc hd hv
                      generalize grow (wd.drewN nq) osq = w6 at S52 ⊢
                      clear nq osq
                      have H1 := Lib.hid (soPart_call cf g cb blk off cap a' b' qp d0 D w0 w6 eg HC.out R S52.out (by omega) (by omega) hb' hsz)
                      obtain ⟨mid, ap, d4, hx⟩ : ∃ mid ap d4, Sort.partition (ltOf cf) D a' b' qp = (mid, ap, d4) := ⟨_, _, _, rfl⟩
                      obtain ⟨hx1, hx2, hx3, hx4, hx5, hx6⟩ := HQ.out.part HP.out (by rw [HD.out, HQP.out]; exact HL.out) mid ap d4 (by rw [HD.out, HQP.out]; exact hx)
                      rw [HQL.out] at hx5 hx6
                      have HX := Lib.hid (And.intro (And.intro hx3 hx4) (And.intro hx5 hx6))
                      clear hx3 hx4 hx5 hx6
                      rw [hx] at H1
                      clear hx
                      obtain ⟨ll, hll⟩ : ∃ x, mid - a' = x := ⟨_, rfl⟩
                      obtain ⟨rl, hrl⟩ : ∃ x, b' - mid = x := ⟨_, rfl⟩
                      have em1 : ((mid + 1 : Nat) : Int) = (mid : Int) + 1 := by omega
                      have wll : IntKind.i64.wrap ((mid : Int) - (a' : Int)) = (ll : Int) := by rw [IntWalk.i64_in _ (by omega)]; omega
                      have wrl : IntKind.i64.wrap ((b' : Int) - (mid : Int)) = (rl : Int) := by rw [IntWalk.i64_in _ (by omega)]; omega
                      have wm1 : IntKind.i64.wrap ((mid : Int) + 1) = (mid : Int) + 1 := IntWalk.i64_in _ (by omega)
                      go_upto_if 125 with (go_at_call 112; refine H1.out.mono ?_; rintro e1 w7 ⟨rfl, hw7⟩; have S7 := Lib.hid hw7; clear hw7)
                      by_cases h4 : mid - a' < b' - mid
                      · have HF := Lib.hid (HX.out.2.1 h4)
                        have m1 : decide ((ll : Int) < (rl : Int)) = true := decide_eq_true (by omega)
                        have m2 : (ll : Int) < (rl : Int) := by omega
                        have H2 := Lib.hid (IH.out a' mid ql d4 w7 (by omega) S7.out hx1 (by omega) (by omega) HX.out.1.1)
                        have EBX : decide ((ln : Int) / 8 ≤ (ll : Int)) = decide (mid - a' ≥ (b' - a') / 8) := by rw [← hll, ← hln]; exact decide_eq_decide.2 (by omega)
                        have EBY : decide (ln / 8 ≤ ll) = decide (mid - a' ≥ (b' - a') / 8) := by rw [← hll, ← hln]
                        go_wp2_with (go_at_call 85; refine H2.out.mono ?_; rintro e1 w8 ⟨rfl, hw8⟩; have S8 := Lib.hid hw8; clear hw8)
                        exact ⟨⟨mid + 1, b', ql, decide (mid - a' ≥ (b' - a') / 8), ap, pdq (ltOf cf) d4 a' mid ql true true, by omega, hb', by omega, by omega, by rw [em1], rfl, rfl, (by first | with_reducible rfl | exact congrArg Value.bool EBX | exact congrArg Value.bool EBY), rfl, Lib.hid ⟨HF.out.1, S8.out, HF.out.2⟩⟩, by simp only [intOf]; omega⟩
                      · have HF := Lib.hid (HX.out.2.2 h4)
                        have m1 : decide ((ll : Int) < (rl : Int)) = false := decide_eq_false (by omega)
                        have m2 : ¬ (ll : Int) < (rl : Int) := by omega
                        have EBX : decide ((ln : Int) / 8 ≤ (rl : Int)) = decide (b' - mid ≥ (b' - a') / 8) := by rw [← hrl, ← hln]; exact decide_eq_decide.2 (by omega)
                        have EBY : decide (ln / 8 ≤ rl) = decide (b' - mid ≥ (b' - a') / 8) := by rw [← hrl, ← hln]
                        have H2 := Lib.hid (IH.out (mid + 1) b' ql d4 w7 (by omega) S7.out (by omega) hb' (by omega) HX.out.1.2)
                        rw [em1] at H2
                        go_wp2_with (go_at_call 85; refine H2.out.mono ?_; rintro e1 w8 ⟨rfl, hw8⟩; have S8 := Lib.hid hw8; clear hw8)
                        exact ⟨⟨a', mid, ql, decide (b' - mid ≥ (b' - a') / 8), ap, pdq (ltOf cf) d4 (mid + 1) b' ql true true, hx1, by omega, by omega, by omega, rfl, rfl, rfl, (by first | with_reducible rfl | exact congrArg Value.bool EBX | exact congrArg Value.bool EBY), rfl, Lib.hid ⟨HF.out.1, S8.out, HF.out.2⟩⟩, by simp only [intOf]; omega⟩
                    | false =>
                      have HL := Lib.hid (show (ltOf cf) D[a' - 1]! D[qp]! = false from by rw [eap]; exact hlv)
                      obtain ⟨x, hx⟩ : ∃ x, x = D[ap']! := ⟨_, rfl⟩
                      obtain ⟨y, hy⟩ : ∃ y, y = D[qp]! := ⟨_, rfl⟩
                      have la := S5.out.cl R (i := ap') (by omega)
                      have lb := S5.out.cl R (i := qp) (by omega)
                      rw [← hx] at la
                      rw [← hy] at lb
                      have hc := S5.out.cmp HC.out x y (by rw [hx]; exact S5.out.mem (by omega)) (by rw [hy]; exact S5.out.mem (by omega))
                      have hd : decide (cf x y < 0) = false := by rw [hx, hy]; exact hlv
                      have hv : ¬ cf x y < 0 := of_decide_eq_false hd
                      clear hx hy
                      go_wp2_with fail
                      go_quiet_grown (first | (go_at_fn g; refine Calls.grown_of (hc _ _)))
                      have S52 := Lib.hid (S5.out.grown nq osq)
                      clear la lb hc hd hv
                      generalize grow (wd.drewN nq) osq = w6 at S52 ⊢
                      clear nq osq
                      have H1 := Lib.hid (soPeq_call cf g cb blk off cap a' b' qp d0 D w0 w6 eg HC.out R S52.out (by omega) (by omega) hb' hsz)
                      obtain ⟨mid, d4, hx⟩ : ∃ mid d4, partitionEqual (ltOf cf) D a' b' qp = (mid, d4) := ⟨_, _, rfl⟩
                      obtain ⟨hx1, hx2, hx3, hx4⟩ := HQ.out.eq HP.out ha0 (by rw [HD.out, HQP.out]; exact HL.out) mid d4 (by rw [HD.out, HQP.out]; exact hx)
                      rw [HQL.out] at hx4
                      have HX := Lib.hid (And.intro hx3 hx4)
                      clear hx3 hx4
                      rw [hx] at H1
                      clear hx
                      go_wp2_with (go_at_call 111; refine H1.out.mono ?_; rintro e1 w7 ⟨rfl, hw7⟩; have S7 := Lib.hid hw7; clear hw7)
                      exact ⟨⟨mid, b', ql, wb_, wp, d4, hx2, hb', by omega, by omega, rfl, rfl, rfl, rfl, rfl, Lib.hid ⟨HX.out.1, S7.out, HX.out.2⟩⟩, by simp only [intOf]; omega⟩
end Go.Proofs.YtnacoplokjdglaaGreat

namespace Go.Proofs.YtnacoplokjdglaaGreat
open Go.RowKit Go.Maps Go.Sort
attribute [local go_sem] Oper.semAt_some

set_option maxHeartbeats 4000000 in
set_option maxRecDepth 100000 in
theorem soSort_call (cf : Int → Int → Int) (g : FuncId) (cb : Array Value) (hO : SWO (ltOf cf)) (blk off cap : Nat) (d : Array Int) (w : World)
    (eg : ∀ args w, (callFunc g args).run Tryz.prog w = .ok (.enter g args) w) (hC : CmpP g cb cf blk off d w) (R : Row1 vi w blk off d) (hsz : d.size < 4611686018427387904) :
    Calls Tryz.prog 68 #[.slice (some ⟨blk, off, none⟩) d.size cap, .func (.func g) #[] cb] w fun e w' => e = .returned (.tuple #[]) ∧ ∃ d', SoW w blk off d d' w' ∧ SortedIn (ltOf cf) 0 d.size d' := by
  have hlim : Lib.bitLen d.size < 4611686018427387904 := Nat.lt_of_le_of_lt (Lib.bitLen_le d.size 62 (by omega) (by omega)) (by omega)
  have HP := Lib.hid (soPdq_call cf g cb hO blk off cap d w eg hC R hsz (d.size + 1) 0 d.size (Lib.bitLen d.size) d w (by omega) (SoW.start R) (Nat.zero_le _) (Nat.le_refl _) hlim (Or.inl rfl))
  have HL : Hid (Calls Tryz.prog 86 #[.int .u64 (d.size : Int)] w fun e w' => e = .returned (vi (Lib.bitLen d.size : Nat)) ∧ w' = w) := by
    have h := Go.Proofs.Any.bits_Len (Go.Proofs.SlLaysF0.n15.bits (P := Tryz.prog) (ρ := soLay_ren) { soLay with }) (d.size : Int) w (by omega) (by omega)
    rw [Int.toNat_natCast] at h
    exact Lib.hid h
  have HQ := Lib.hid (pdq_sorts (ltOf cf) hO d 0 d.size (Lib.bitLen d.size) true true (Nat.zero_le _) (Nat.le_refl _) (Or.inl rfl))
  have wr : IntKind.u64.wrap (d.size : Int) = d.size := by simp [IntKind.wrap, IntKind.bits, IntKind.signed]; omega
  generalize Lib.bitLen d.size = bl at *
  clear hC hO hlim
  go_enter Tryz.func68, Tryz.ntmps68
  go_wp2_with (first
    | (go_at_call 86; refine HL.out.mono ?_; rintro e1 w1 ⟨rfl, hw1⟩; subst hw1)
    | (go_at_call 85; refine HP.out.mono ?_; rintro e2 w2 ⟨rfl, hw2⟩))
  (first | go_end0 | ((try simp only [Exit.inBlock, Exit.then]); refine bodyPost_ret (results_none rfl _ _ _) rfl ?_))
  exact ⟨rfl, _, hw2, HQ.out.2⟩
set_option maxHeartbeats 4000000 in
set_option maxRecDepth 100000 in
theorem soIns_none (p : Option Addr) (cap : Nat) (f : Value) (w : World) :
    Calls Tryz.prog 105 #[.slice p 0 cap, vi 0, vi 0, f] w fun e w' => e = .returned (.tuple #[]) ∧ w' = w := by
  go_enter Tryz.func105, Tryz.ntmps105
  go_wp2_with fail
  go_loopw [8] (fun u wr => u = vi 1 ∧ wr = w) (fun _ _ => 0)
  case atStart => exact ⟨rfl, rfl⟩
  case round =>
    obtain ⟨rfl, rfl⟩ := hrel
    go_wp2_with fail
    (first | go_end0 | ((try simp only [Exit.inBlock, Exit.then]); refine bodyPost_ret (results_none rfl _ _ _) rfl ?_))
    exact ⟨rfl, rfl⟩
set_option maxHeartbeats 4000000 in
set_option maxRecDepth 100000 in
theorem soPdq_none (p : Option Addr) (cap : Nat) (l : Int) (f : Value) (w : World) :
    Calls Tryz.prog 85 #[.slice p 0 cap, vi 0, vi 0, vi l, f] w fun e w' => e = .returned (.tuple #[]) ∧ w' = w := by
  go_enter Tryz.func85, Tryz.ntmps85
  go_wp2_with fail
  go_loopw [1, 2, 3, 10, 11] (fun s1 s2 s3 s8 s9 wr => s1 = vi 0 ∧ s2 = vi 0 ∧ s3 = vi l ∧ s8 = .bool true ∧ s9 = .bool true ∧ wr = w) (fun _ _ _ _ _ _ => 0)
  case atStart => exact ⟨rfl, rfl, rfl, rfl, rfl, rfl⟩
  case round =>
    obtain ⟨rfl, rfl, rfl, rfl, rfl, rfl⟩ := hrel
    go_wp2_with (go_at_call 105; refine (soIns_none p cap f _).mono ?_; rintro e1 w1 ⟨rfl, rfl⟩)
    (first | go_end0 | ((try simp only [Exit.inBlock, Exit.then]); refine bodyPost_ret (results_none rfl _ _ _) rfl ?_))
    exact ⟨rfl, rfl⟩
set_option maxHeartbeats 4000000 in
set_option maxRecDepth 100000 in
theorem soSort_none (p : Option Addr) (cap : Nat) (f : Value) (w : World) :
    Calls Tryz.prog 68 #[.slice p 0 cap, f] w fun e w' => e = .returned (.tuple #[]) ∧ w' = w := by
  have HL : Hid (Calls Tryz.prog 86 #[.int .u64 0] w fun e w' => e = .returned (vi 0) ∧ w' = w) := by
    have h := Go.Proofs.Any.bits_Len (Go.Proofs.SlLaysF0.n15.bits (P := Tryz.prog) (ρ := soLay_ren) { soLay with }) 0 w (by omega) (by omega)
    exact Lib.hid h
  have wr : IntKind.u64.wrap 0 = 0 := by rfl
  go_enter Tryz.func68, Tryz.ntmps68
  go_wp2_with (first
    | (go_at_call 86; refine HL.out.mono ?_; rintro e1 w1 ⟨rfl, hw1⟩; subst hw1)
    | (go_at_call 85; refine (soPdq_none p cap 0 f _).mono ?_; rintro e2 w2 ⟨rfl, rfl⟩))
  (first | go_end0 | ((try simp only [Exit.inBlock, Exit.then]); refine bodyPost_ret (results_none rfl _ _ _) rfl ?_))
  exact ⟨rfl, rfl⟩
end Go.Proofs.YtnacoplokjdglaaGreat

namespace Go.Proofs.YtnacoplokjdglaaGreat
open Go.RowKit Go.Maps Go.Sort
attribute [local go_sem] Oper.semAt_some

theorem StL.later {w A B : World} {acc : List Int} (h : StL w acc A) (hb : Below A.heap.size A B) : StL w acc B := by
  obtain ⟨vo, ho, hrow⟩ := h.out
  exact ⟨⟨vo, by rw [hb.block _ (Array.getElem?_eq_some_iff.1 ho).1]; exact ho, own_below hrow hb⟩, Nat.le_trans h.size hb.size, h.below.trans (hb.mono h.below.size)⟩
theorem own_shapeZ {w : World} {base e size n : Nat} {v : Value} {xs : List Value} (h : w.ownsRow base e size v n xs) : ∃ a c, v = .slice a n c ∧ (n ≠ 0 → ∃ g, a = some ⟨g, 0, none⟩ ∧ base ≤ g) := by
  rcases h.2 with ⟨hv, h0⟩ | ⟨g, cap, cur, hv, hg, _⟩
  · exact ⟨none, 0, by rw [hv, h0], fun h => absurd h0 h⟩
  · exact ⟨_, _, hv, fun _ => ⟨g, rfl, hg⟩⟩
theorem AheadW.later {w W : World} {po pf pk blk off cap m : Nat} {D : List Int} {L : FaL} {key : Int} (h : AheadW w po pf pk blk off cap m D L key) (hb : Below w.heap.size w W) : AheadW W po pf pk blk off cap m D L key :=
  ⟨cell_later hb h.o, cell_later hb h.f, cell_later hb h.k, fun j x hj => ⟨cell_later hb (h.row j x hj).1, (h.row j x hj).2⟩, h.map.below hb h.map.lt, h.key, h.len⟩
theorem viZ_map (l : List Int) : l.flatMap viC = l.map vi := by
  induction l with
  | nil => rfl
  | cons x l ih => simp [viC, ih]
theorem store_fn (w : World) (T : TypeId) (f : Value) (hf : f.oneCell' = true) (m : Mode) : (store ⟨w.heap.size, 0, none⟩ f m).run Tryz.prog (w.alloc (.cells #[Value.nilFunc] T)) = .ok () (w.alloc (.cells #[f] T)) := by
  rw [run_store _ _ _ _ _ hf]
  have h := alloc_atG w (.cells #[Value.nilFunc] T)
  rw [cell_ofG h, free_ofG h]
  rw [World.setCell_alloc_at _ _ _ _ _ rfl]
  simp
theorem oneCellZ : OneCell vi := fun _ => rfl
theorem viC_one (k : Int) : ∀ u ∈ viC k, u.oneCell' = true := by intro u hu; simp [viC] at hu; subst hu; rfl
abbrev MapC (w : World) (b : Nat) (L : List (Int × Int)) : Prop := MapT Tryz.prog 3 vi vi w b L
theorem zero_int (w : World) : (zeroValue 3).run Tryz.prog w = .ok (vi 0) w := by kernel_rfl
theorem lookup_cnt {w : World} {m : Nat} {C : List (Int × Int)} {M : List Nat} (h : MapC w m C) (hC : CntM C M) (n : Nat) (hn : n ≤ 1048576) :
    (Instr.lookup 115 (.map (some m)) (vi n) false).run Tryz.prog w = .ok (vi (M.count n : Nat)) w := by
  have h1 := (MapT.lookup intKeyed vi_inj (t := 115) (e := 3) Tryz.underlying115 h (n : Int) (intKey (by unfold i64; omega)) (zero_int w)).1
  rw [h1]
  have := hC n
  cases hg : getM C (n : Int) with
  | none => rw [hg] at this; simp at this; simp [← this]
  | some v => rw [hg] at this; simp at this; simp [this]

/-- What chains.Chain gives: an order of those who are done and write the key, where the facts say one. -/
def ChainQ (ts : List GTxn) (L : FaL) (key : Int) (w : World) (e : Ending) (w' : World) : Prop :=
  ∃ v E, e = .returned (.tuple #[v, .bool (onceB L key (wrl ts L key))]) ∧ OwI w.heap.size w' v E ∧ Below w.heap.size w w' ∧
    (onceB L key (wrl ts L key) = true → (wrl ts L key).Perm E ∧ E.Pairwise (fun x y => aheadOf L key x y = true)) ∧ (onceB L key (wrl ts L key) = false → E = [])

/-- The boxes and the row as the sort leaves them. -/
theorem holdsZ {w : World} {g : Nat} {cur : Array Value} {e : TypeId} {l : List Int} (hb : w.heap[g]? = some (.cells cur e (0, 0))) (ht : cur.toList.take l.length = l.flatMap viC) : Holds vi w g 0 l.toArray := by
  have hm : l.flatMap viC = l.map vi := by
    clear ht
    induction l with
    | nil => rfl
    | cons x l ih => simp [viC, ih]
  rw [hm] at ht
  intro j hj
  have hj' : j < l.length := by simpa using hj
  refine ⟨?_, by simp [World.frozen?, hb]⟩
  have h1 : cur[j]? = some (vi l[j]) := by
    have h2 : (cur.toList.take l.length)[j]? = (l.map vi)[j]? := by rw [ht]
    rw [List.getElem?_take_of_lt hj', List.getElem?_map, List.getElem?_eq_getElem hj', Array.getElem?_toList] at h2
    exact h2
  have h3 : (⟨g, 0 + j, none⟩ : Addr) = ⟨g, j, none⟩ := by rw [Nat.zero_add]
  rw [h3, cell_ofG hb, h1, getElem!_pos l.toArray j hj]
  simp
theorem sortedZ {w W : World} {base g cap : Nat} {e : TypeId} {cur : Array Value} {l : List Int} {dk : Array Int} (hs : SoW w g 0 l.toArray dk W) (hbase : base ≤ g) (hb : w.heap[g]? = some (.cells cur e (0, 0)))
    (h1 : l.length ≤ cap) (h2 : cap ≤ maxLen) (h3 : cur.size = cap * 1) : W.ownsRow base e 1 (.slice (some ⟨g, 0, none⟩) l.length cap) dk.toList.length (dk.toList.flatMap viC) := by
  have hsz : dk.size = l.length := by simpa using hs.sz
  obtain ⟨m, os, rfl⟩ := hs.sw
  have hg : g < w.heap.size := (Array.getElem?_eq_some_iff.1 hb).1
  have hm : ∀ l : List Int, l.flatMap viC = l.map vi := by
    intro l
    induction l with
    | nil => rfl
    | cons x l ih => simp [viC, ih]
  have hh : (sortWorld vi w g 0 m dk os).heap[g]? = some (.cells (putCells vi 0 dk cur) e (0, 0)) := by
    unfold sortWorld
    rw [heap_grow_old _ _ (by simpa using hg)]
    simp [putRow, mapBlock, Sort.ahead, Array.getElem?_modify, hb, onCells]
  have hl : dk.toList.length = l.length := by simpa using hsz
  refine ⟨by rw [hm]; simp, .inr ⟨g, cap, _, by rw [hl], hbase, hh, by rw [hl]; exact h1, h2, by simp [putCells, h3], ?_⟩⟩
  rw [hm]
  apply List.ext_getElem?
  intro j
  by_cases hj : j < l.length
  · rw [List.getElem?_take_of_lt (by rw [hl]; omega), Array.getElem?_toList, List.getElem?_map, List.getElem?_eq_getElem (show j < dk.toList.length by rw [hl]; exact hj)]
    have hjd : j < dk.size := by rw [hsz]; exact hj
    simp [putCells, hjd, show j < cur.size by omega]
  · rw [List.getElem?_take_eq_none (by rw [hl]; omega), List.getElem?_eq_none (by simp; omega)]

set_option maxHeartbeats 8000000 in
set_option maxRecDepth 100000 in
theorem chain_call (v : Value) (ts : List GTxn) (m : Nat) (L : FaL) (key : Int) (w : World) (hv : RdTxns w v ts) (hok : OkTxns ts) (htl : ts.length ≤ 4096) (hm : MapF w m L) (hkey : i64 key) :
    Calls Tryz.prog 42 #[v, .map (some m), vi key] w (ChainQ ts L key w) := by
  have HV0 := Lib.hid hv
  have HOK := Lib.hid hok
  obtain ⟨a, len, cap, rfl, rfl, hmm, -⟩ := hv.at
  have hsl := sureM_length ts
  have HBb := Lib.hid (((Below.refl w.heap.size w).alloc (Nat.le_refl _) (.cells #[.map (some m)] 87)).alloc (by simp) (.cells #[vi key] 3))
  have HPF := Lib.hid ((Below.heap_alloc (w.alloc (.cells #[.map (some m)] 87)) (.cells #[vi key] 3) w.heap.size (by simp)).trans (alloc_atG w (.cells #[.map (some m)] 87)))
  have HPK := Lib.hid (alloc_atG (w.alloc (.cells #[.map (some m)] 87)) (.cells #[vi key] 3))
  have HVb := Lib.hid (hv.later HBb.out)
  have HMb := Lib.hid (hm.below HBb.out hm.lt)
  have hml := hm.lt
  have hbs : ((w.alloc (.cells #[.map (some m)] 87)).alloc (.cells #[vi key] 3)).heap.size = w.heap.size + 2 := by simp
  have hps : (w.alloc (.cells #[.map (some m)] 87)).heap.size = w.heap.size + 1 := by simp
  rw [hps] at HPK
  clear hv hok hm hps
  go_enter Tryz.func42, Tryz.ntmps42
  go_upto_region 1 with fail
  generalize (w.alloc (.cells #[.map (some m)] 87)).alloc (.cells #[vi key] 3) = wb at *
  go_upto_region 2 with (go_at_call 65; refine (sure_call _ _ _ HVb.out HOK.out).mono ?_; rintro e w1 ⟨sb, rfl, hsb, hS, hb1⟩; have HB1 := Lib.hid hb1; have HS1 := Lib.hid (hS.own (by omega)); rw [hsl] at HS1; have HV1 := Lib.hid (HVb.out.later hb1); have HM1 := Lib.hid (HMb.out.below hb1 HMb.out.lt); have HPF1 := Lib.hid ((hb1.block w.heap.size (by omega)).trans HPF.out); have HPK1 := Lib.hid ((hb1.block (w.heap.size + 1) (by omega)).trans HPK.out); clear hb1 hS)
  have hw1 := HB1.out.size
  have HST := Lib.hid (show StL w1 [] (w1.alloc (.cells #[.slice none 0 0] 58)) from ⟨⟨_, alloc_atG _ _, World.ownsRow_nil _ _ _ _⟩, by simp, (Below.refl _ _).alloc (Nat.le_refl _) _⟩)
  go_upto_region 3 with fail
  generalize w1.alloc (.cells #[.slice none 0 0] 58) = w2 at *
  go_wp2_with fail
  go_loopw [10, 11, 12, 13, 24] (fun _ _ _ _ n wr => ∃ k : Nat, k ≤ ts.length ∧ n = .int .i64 k ∧ Hid (StL w1 (wrlK ts L key k) wr)) (fun _ _ _ _ n _ => ts.length - (intOf n).toNat)
  case atStart => exact ⟨0, Nat.zero_le _, rfl, Lib.hid HST.out⟩
  case round =>
    clear HST
    obtain ⟨wk, rfl⟩ : ∃ wk : World, wk = wr := ⟨_, rfl⟩
    obtain ⟨k, hk, rfl, HSt⟩ := hrel
    have HBk := Lib.hid HSt.out.below
    have hwk := HSt.out.size
    by_cases hlt : k < ts.length
    · obtain ⟨t, ht⟩ := some_at hlt
      obtain ⟨_, _, _, e5, -, -, hcl⟩ := (HV1.out.later HBk.out).at
      cases e5
      obtain ⟨b, off, oa, oc, rfl, hr, k0, k1, k2⟩ := hcl k t ht
      have hkI : (k : Int) < (ts.length : Int) := by omega
      have wk1 : IntKind.i64.wrap ((k : Int) + 1) = ((k + 1 : Nat) : Int) := by rw [IntWalk.i64_in _ (by omega)]; omega
      have HN := Lib.hid (wrlK_succ ts L key k)
      have HIN := Lib.hid (show inW ts L key k = ((isM ts L k).1 && writesK t key) by unfold inW; rw [wrOf_at ht])
      have HBo := Lib.hid ((Below.refl wk.heap.size wk).alloc (Nat.le_refl _) (.cells #[vi t.client, vi t.state, .slice oa t.ops.length oc] 49))
      have HXo := Lib.hid (alloc_atG wk (.cells #[vi t.client, vi t.state, .slice oa t.ops.length oc] 49))
      have HSo := Lib.hid (HSt.out.alloc (.cells #[vi t.client, vi t.state, .slice oa t.ops.length oc] 49))
      have hwo : (wk.alloc (.cells #[vi t.client, vi t.state, .slice oa t.ops.length oc] 49)).heap.size = wk.heap.size + 1 := by simp
      have HRo := Lib.hid (hr.later HBo.out)
      clear hcl hr ht
      go_upto_region 6 with fail
      generalize wk.alloc (.cells #[vi t.client, vi t.state, .slice oa t.ops.length oc] 49) = wo at *
      clear k0 k1 k2
      have HB1o := Lib.hid HSo.out.below
      have HVo := Lib.hid (HV1.out.later HB1o.out)
      have HMo := Lib.hid (HM1.out.below HB1o.out HM1.out.lt)
      have HS1o := Lib.hid (own_below HS1.out HB1o.out)
      have q0 : wo.cell? ⟨w.heap.size, 0, none⟩ = some (.map (some m)) := by rw [cell_ofG ((HB1o.out.block _ (by omega)).trans HPF1.out)]; rfl
      go_upto_region 7 with (go_at_call 64; refine (is_call _ ts _ m L k _ HVo.out HOK.out htl HS1o.out HMo.out hlt).mono ?_; rintro e w3 ⟨rfl, hb3⟩; have HB3 := Lib.hid hb3; clear hb3)
      have HS3 := Lib.hid (HSo.out.later HB3.out)
      have HB13 := Lib.hid HS3.out.below
      have HX3 := Lib.hid ((HB3.out.block _ (by omega)).trans HXo.out)
      have HR3 := Lib.hid (HRo.out.later HB3.out)
      have h3s := HB3.out.size
      have c0 : w3.cell? ⟨wk.heap.size, 0, none⟩ = some (vi t.client) := by rw [cell_ofG HX3.out]; rfl
      have c1 : w3.cell? ⟨wk.heap.size, 1, none⟩ = some (vi t.state) := by rw [cell_ofG HX3.out]; rfl
      have c2 : w3.cell? ⟨wk.heap.size, 2, none⟩ = some (.slice oa t.ops.length oc) := by rw [cell_ofG HX3.out]; rfl
      have q1 : w3.cell? ⟨w.heap.size + 1, 0, none⟩ = some (vi key) := by rw [cell_ofG ((HB13.out.block _ (by omega)).trans HPK1.out)]; rfl
      clear q0
      cases hd : (isM ts L k).1 with
      | false =>
        rw [hd] at HIN
        clear hd
        have HIF := Lib.hid (show wrlK ts L key (k + 1) = wrlK ts L key k by rw [HN.out, HIN.out]; simp)
        go_wp2_with fail
        go_roundw
        case rel => exact ⟨k + 1, by omega, rfl, Lib.hid (by rw [HIF.out]; exact HS3.out)⟩
        case measure => simp [intOf]; omega
      | true =>
        rw [hd] at HIN
        clear hd
        have HWC := Lib.hid (writesK_call t.client t.state _ t key w3 HR3.out)
        cases hw : writesK t key with
        | false =>
          rw [hw] at HIN HWC
          clear hw
          have HIF := Lib.hid (show wrlK ts L key (k + 1) = wrlK ts L key k by rw [HN.out, HIN.out]; simp)
          go_wp2_with (go_at_call 66; refine HWC.out.mono ?_; rintro e w4 ⟨rfl, hb4⟩; have HB4 := Lib.hid hb4; clear hb4)
          have HS4 := Lib.hid (HS3.out.later HB4.out)
          go_roundw
          case rel => exact ⟨k + 1, by omega, rfl, Lib.hid (by rw [HIF.out]; exact HS4.out)⟩
          case measure => simp [intOf]; omega
        | true =>
          rw [hw] at HIN HWC
          clear hw
          go_upto_region 8 with (go_at_call 66; refine HWC.out.mono ?_; rintro e w4 ⟨rfl, hb4⟩; have HB4 := Lib.hid hb4; clear hb4)
          have HS4 := Lib.hid (HS3.out.later HB4.out)
          have h4s := HB4.out.size
          have HB14 := Lib.hid HS4.out.below
          clear c0 c1 c2 q1
          have HIF := Lib.hid (show wrlK ts L key (k + 1) = wrlK ts L key k ++ [(k : Int)] by rw [HN.out, HIN.out]; simp)
          have hwl := wrlK_le ts L key k
          clear HSt HSo HS3 HN
          generalize wrlK ts L key k = acc at *
          obtain ⟨vo, ho, hrow⟩ := HS4.out.out
          have HO := Lib.hid ho
          have HRW := Lib.hid hrow
          obtain ⟨ao, co, rfl, -⟩ := own_shapeZ hrow
          have b0 : w4.cell? ⟨w1.heap.size, 0, none⟩ = some (.slice ao acc.length co) := by rw [cell_ofG ho]; rfl
          clear ho hrow
          go_wp2_with (at_builtin; refine wpList_append_src rfl _ _ 58 rfl eltI (w1.heap.size + 1) acc.length _ (HRW.out.alloc _) rfl 1 (viC k) (src_new (cs := #[vi k]) rfl rfl) rfl (viC_one k) (by omega) (by omega) (by simp; omega) ?_; intro v5 w5 ho5 hg5 _; have HO5 := Lib.hid ho5; have HG5 := Lib.hid hg5; obtain ⟨a5, c5, rfl, -⟩ := own_shapeZ ho5; have HP5 := Lib.hid (show w5.heap[w1.heap.size]? = some (.cells #[.slice ao acc.length co] 58) from (HG5.out.block _ (by simp; omega) (fun e => by have := (World.ownsRow.lt HRW.out _ e.symm).1; omega)).trans ((Below.heap_alloc _ _ _ (by omega)).trans HO.out)); have p5 : w5.cell? ⟨w1.heap.size, 0, none⟩ = some (.slice ao acc.length co) := (by rw [cell_ofG HP5.out]; rfl); have f5 := free_ofG HP5.out 0; clear ho5 hg5 b0)
          go_roundw
          case rel => exact ⟨k + 1, by omega, rfl, Lib.hid (by rw [HIF.out]; exact stL_put HS4.out HRW.out HO.out HG5.out HO5.out)⟩
          case measure => simp [intOf]; omega
    · obtain rfl : k = ts.length := by omega
      have hDl := wrlK_le ts L key ts.length
      have HSD := Lib.hid (show StL w1 (wrl ts L key) wk from HSt.out)
      have HDM := Lib.hid (fun x (hx : x ∈ wrl ts L key) => wrl_mem.1 hx)
      have HCQ := Lib.hid (show ∀ e w', ChainQ ts L key w e w' ↔ (∃ v E, e = .returned (.tuple #[v, .bool (onceB L key (wrl ts L key))]) ∧ OwI w.heap.size w' v E ∧ Below w.heap.size w w' ∧
        (onceB L key (wrl ts L key) = true → (wrl ts L key).Perm E ∧ E.Pairwise (fun x y => aheadOf L key x y = true)) ∧ (onceB L key (wrl ts L key) = false → E = [])) from fun _ _ => Iff.rfl)
      rw [show wrlK ts L key ts.length = wrl ts L key from rfl] at hDl
      clear HSt
      generalize wrl ts L key = D at *
      obtain ⟨vo, ho, hrow⟩ := HSD.out.out
      have HRW := Lib.hid hrow
      have HO := Lib.hid ho
      obtain ⟨ao, co, rfl, hao⟩ := own_shapeZ hrow
      have HBW := Lib.hid (HBb.out.trans (Below.mono (HB1.out.trans (HBk.out.mono hw1)) (by omega)))
      have HPFk := Lib.hid ((HBk.out.block _ (by omega)).trans HPF1.out)
      have HPKk := Lib.hid ((HBk.out.block _ (by omega)).trans HPK1.out)
      have HMk := Lib.hid (HM1.out.below HBk.out HM1.out.lt)
      have HVk := Lib.hid (HV1.out.later HBk.out)
      have hDI : ∀ x ∈ D, i64 x := fun x hx => by obtain ⟨i, h1, rfl, _⟩ := HDM.out x hx; unfold i64; omega
      have b0 : wk.cell? ⟨w1.heap.size, 0, none⟩ = some (.slice ao D.length co) := by rw [cell_ofG ho]; rfl
      have HDI := Lib.hid hDI
      clear ho hrow hDI
      have HXa := Lib.hid (alloc_atG wk (.cells #[.func (.func 67) #[] #[.pointer (some ⟨w1.heap.size, 0, none⟩), .pointer (some ⟨w.heap.size, 0, none⟩), .pointer (some ⟨w.heap.size + 1, 0, none⟩)]] 133))
      have HBa := Lib.hid ((Below.refl wk.heap.size wk).alloc (Nat.le_refl _) (.cells #[.func (.func 67) #[] #[.pointer (some ⟨w1.heap.size, 0, none⟩), .pointer (some ⟨w.heap.size, 0, none⟩), .pointer (some ⟨w.heap.size + 1, 0, none⟩)]] 133))
      have hwa : (wk.alloc (.cells #[.func (.func 67) #[] #[.pointer (some ⟨w1.heap.size, 0, none⟩), .pointer (some ⟨w.heap.size, 0, none⟩), .pointer (some ⟨w.heap.size + 1, 0, none⟩)]] 133)).heap.size = wk.heap.size + 1 := by simp
      have hsf := store_fn wk 133 (.func (.func 67) #[] #[.pointer (some ⟨w1.heap.size, 0, none⟩), .pointer (some ⟨w.heap.size, 0, none⟩), .pointer (some ⟨w.heap.size + 1, 0, none⟩)]) rfl
      go_upto_region 11 with fail
      clear hsf
      generalize wk.alloc (.cells #[.func (.func 67) #[] #[.pointer (some ⟨w1.heap.size, 0, none⟩), .pointer (some ⟨w.heap.size, 0, none⟩), .pointer (some ⟨w.heap.size + 1, 0, none⟩)]] 133) = wa at *
      have hmkm := @run_makeMap Tryz.prog
      have HM0 := Lib.hid (show MapC (wa.alloc (.map #[] 0)) (wk.heap.size + 1) [] from by rw [← hwa]; exact MapT.made wa)
      have HBm := Lib.hid ((Below.refl wa.heap.size wa).alloc (Nat.le_refl _) (.map #[] 0))
      go_upto_region 12 with fail
      generalize wa.alloc (.map #[] 0) = wm at *
      clear hmkm b0
      have b0 := cell_later HBm.out (cell_later HBa.out (show wk.cell? ⟨w1.heap.size, 0, none⟩ = some (.slice ao D.length co) by rw [cell_ofG HO.out]; rfl))
      go_wp2_with fail
      have HAW := Lib.hid (show ∀ g, ao = some ⟨g, 0, none⟩ → AheadW wa w1.heap.size w.heap.size (w.heap.size + 1) g 0 co m D L key from fun g hg => by
        subst hg
        refine AheadW.later (w := wk) ⟨by rw [cell_ofG HO.out]; rfl, by rw [cell_ofG HPFk.out]; rfl, by rw [cell_ofG HPKk.out]; rfl, fun j x hj => ⟨?_, HDI.out x (List.mem_of_getElem? hj)⟩, HMk.out, hkey, by omega⟩ HBa.out
        have := World.ownsRow.cells HRW.out (g := g) rfl j (vi x) (by rw [viZ_map, List.getElem?_map, hj]; rfl)
        rw [addr_add] at this
        exact this)
      go_loopw [17, 18, 52] (fun _ _ n wr => ∃ (k : Nat) (C : List (Int × Int)), k ≤ D.length ∧ n = .int .i64 k ∧ Hid (MapC wr (wk.heap.size + 1) C ∧ CntM C ((D.take k).map (aheadN L key D)) ∧ Below wa.heap.size wa wr)) (fun _ _ n _ => D.length - (intOf n).toNat)
      case atStart => exact ⟨0, [], Nat.zero_le _, rfl, Lib.hid ⟨HM0.out, CntM.nil, HBm.out⟩⟩
      case round =>
        clear b0
        obtain ⟨wl, rfl⟩ : ∃ wl : World, wl = wr := ⟨_, rfl⟩
        obtain ⟨k, C, hk, rfl, HJ⟩ := hrel
        have HMC := Lib.hid HJ.out.1
        have HC := Lib.hid HJ.out.2.1
        have HBl := Lib.hid HJ.out.2.2
        clear HJ
        by_cases hlt : k < D.length
        · obtain ⟨g, rfl, hg⟩ := hao (by omega)
          have HA := Lib.hid ((HAW.out g rfl).later HBl.out)
          obtain ⟨x, hx⟩ := some_at hlt
          have hxc := (HA.out.row k x hx).1
          rw [Nat.zero_add] at hxc
          have hxi := (HA.out.row k x hx).2
          have HX := Lib.hid hx
          have HT := Lib.hid (take_map_succ (f := aheadN L key D) hx)
          have hkI : (k : Int) < (D.length : Int) := by omega
          have wk1 : IntKind.i64.wrap ((k : Int) + 1) = ((k + 1 : Nat) : Int) := by rw [IntWalk.i64_in _ (by omega)]; omega
          have p0 : wl.cell? ⟨wk.heap.size, 0, none⟩ = some (.func (.func 67) #[] #[.pointer (some ⟨w1.heap.size, 0, none⟩), .pointer (some ⟨w.heap.size, 0, none⟩), .pointer (some ⟨w.heap.size + 1, 0, none⟩)]) := by rw [cell_ofG ((HBl.out.block _ (by omega)).trans HXa.out)]; rfl
          have HCA := Lib.hid (ahead_call w1.heap.size w.heap.size (w.heap.size + 1) g 0 co m D L key x wl HA.out hxi)
          have hnl := aheadN_le L key D x
          clear hx hxi
          go_upto_region 16 with (go_at_call 67; refine HCA.out.mono ?_; rintro e w8 ⟨rfl, hw8⟩; subst hw8)
          generalize hnx : aheadN L key D x = nx at *
          have hcl : ((D.take k).map (aheadN L key D)).count nx ≤ 4096 := Nat.le_trans List.count_le_length (by simp; omega)
          have hlk := lookup_cnt HMC.out HC.out nx (by omega)
          have HCN := Lib.hid (HC.out.add nx)
          generalize hM : (D.take k).map (aheadN L key D) = M at *
          have wcn : IntKind.i64.wrap ((M.count nx : Int) + 1) = (M.count nx : Int) + 1 := by rw [IntWalk.i64_in _ (by omega)]
          have HTT := Lib.hid (HT.out)
          clear hnx hM HT
          go_wp2_with (at_mapUpdate; refine wpList_mapUpdate_T (b := wk.heap.size + 1) (eK := vi) (eV := vi) rfl _ _ _ rfl intKeyed vi_inj Tryz.underlying115 HMC.out rfl (nx : Int) (intKey (by unfold i64; omega)) rfl ((M.count nx : Int) + 1) rfl ?_; intro w9 hM9 hg9)
          go_roundw
          case rel => exact ⟨k + 1, _, by omega, rfl, Lib.hid ⟨hM9, by rw [HTT.out]; exact HCN.out, HBl.out.grown hg9 HBl.out.size (fun j hj => by cases hj; omega)⟩⟩
          case measure => simp [intOf]; omega
        · obtain rfl : k = D.length := by omega
          rw [List.take_length] at HC
          have HBz := Lib.hid (Below.trans HBa.out (HBl.out.mono HBa.out.size))
          have b0 := cell_later HBz.out (show wk.cell? ⟨w1.heap.size, 0, none⟩ = some (.slice ao D.length co) by rw [cell_ofG HO.out]; rfl)
          have p0 : wl.cell? ⟨wk.heap.size, 0, none⟩ = some (.func (.func 67) #[] #[.pointer (some ⟨w1.heap.size, 0, none⟩), .pointer (some ⟨w.heap.size, 0, none⟩), .pointer (some ⟨w.heap.size + 1, 0, none⟩)]) := by rw [cell_ofG ((HBl.out.block _ (by omega)).trans HXa.out)]; rfl
          go_wp2_with fail
          go_loopw [19, 66] (fun _ n wr => ∃ k : Nat, k ≤ D.length ∧ n = .int .i64 k ∧ Hid (OnceTo (D.map (aheadN L key D)) k) ∧ wr = wl) (fun _ n _ => D.length - (intOf n).toNat)
          case atStart => exact ⟨0, Nat.zero_le _, rfl, Lib.hid (fun n h => absurd h (Nat.not_lt_zero _)), rfl⟩
          case round =>
            obtain ⟨k, hk, rfl, HOT, hwr⟩ := hrel
            replace hwr := hwr.symm
            subst hwr
            by_cases hlt : k < D.length
            · have hkI : (k : Int) < (D.length : Int) := by omega
              have wk1 : IntKind.i64.wrap ((k : Int) + 1) = ((k + 1 : Nat) : Int) := by rw [IntWalk.i64_in _ (by omega)]; omega
              have hlk := lookup_cnt HMC.out HC.out k (by omega)
              obtain ⟨cn, hcn⟩ : ∃ c, (D.map (aheadN L key D)).count k = c := ⟨_, rfl⟩
              rw [hcn] at hlk
              by_cases h1 : cn = 1
              · have HNX := Lib.hid (show OnceTo (D.map (aheadN L key D)) (k + 1) from fun n hn => by
                  rcases Nat.lt_or_ge n k with h | h
                  · exact HOT.out n h
                  · obtain rfl : n = k := by omega
                    rw [hcn]; exact h1)
                subst h1
                clear hcn
                go_wp2_with fail
                go_roundw
                case rel => exact ⟨k + 1, by omega, rfl, Lib.hid HNX.out, by trivial⟩
                case measure => simp [intOf]; omega
              · have HNO := Lib.hid (onceB_false hlt (by rw [hcn]; exact h1))
                have e1 : ((cn : Int) == 1) = false := beq_eq_false_iff_ne.2 (by omega)
                have e2 : ((cn : Int) != 1) = true := by rw [bne, e1]; rfl
                clear h1 hcn
                go_wp2_with fail
                go_ret2
                refine (HCQ.out _ _).2 ⟨.slice none 0 0, [], by rw [HNO.out]; rfl, World.ownsRow_nil _ _ _ _, HBW.out.trans (HBz.out.mono HBW.out.size), fun h => ?_, fun _ => rfl⟩
                rw [HNO.out] at h; cases h
            · obtain rfl : k = D.length := by omega
              have HYES := Lib.hid (onceB_true HOT.out)
              have HBe := Lib.hid (HBW.out.trans (HBz.out.mono HBW.out.size))
              have HRWl := Lib.hid (own_below HRW.out HBz.out)
              by_cases hne : D.length = 0
              · obtain rfl := List.length_eq_zero_iff.1 hne
                go_wp2_with (go_at_call 68; refine (soSort_none ao co _ wl).mono ?_; rintro e w9 ⟨rfl, hw9⟩; replace hw9 := hw9.symm; subst hw9)
                go_ret2
                refine (HCQ.out _ _).2 ⟨_, [], by rw [HYES.out]; rfl, own_mono HRWl.out (by omega), HBe.out, fun _ => ⟨List.Perm.nil, List.Pairwise.nil⟩, fun _ => rfl⟩
              · obtain ⟨g, rfl, hg⟩ := hao hne
                obtain ⟨cur, hb, hc1, hc2, hc3, hc4⟩ : ∃ cur, wl.heap[g]? = some (.cells cur 3 (0, 0)) ∧ D.length ≤ co ∧ co ≤ maxLen ∧ cur.size = co * 1 ∧ cur.toList.take D.length = D.flatMap viC := by
                  rcases HRWl.out.2 with ⟨h, _⟩ | ⟨g', cap', cur, hv, _, h1, h2, h3, h4, h5⟩
                  · cases h
                  · cases hv
                    exact ⟨cur, h1, h2, h3, h4, by simpa using h5⟩
                have hgl : g < wk.heap.size := (World.ownsRow.lt HRW.out g rfl).2
                have R : Row1 vi wl g 0 D.toArray := ⟨oneCellZ, holdsZ hb hc4, (Array.getElem?_eq_some_iff.1 hb).1⟩
                have hml1 := HMb.out.lt
                have hC := cmpP_ok ((HAW.out g rfl).later HBl.out) (by omega) (by omega) (by omega) (by omega) (by omega) R p0
                have HS := Lib.hid (soSort_call (cmpA L key D) 69 #[.pointer (some ⟨wk.heap.size, 0, none⟩)] (swoA L key D) g 0 co D.toArray wl (enters_of Tryz.func69 (by kernel_rfl) rfl) hC R (by simp; omega))
                rw [show D.toArray.size = D.length by simp] at HS
                have HB0 := Lib.hid b0
                have HBLK := Lib.hid hb
                have HWO := Lib.hid (And.intro hc1 (And.intro hc2 hc3))
                clear hC R hb hc1 hc2 hc3 hc4
                have HB9 := Lib.hid (show ∀ (d' : Array Int) (W : World), SoW wl g 0 D.toArray d' W → W.cell? ⟨w1.heap.size, 0, none⟩ = some (.slice (some ⟨g, 0, none⟩) D.length co) from fun d' W hs => by
                  rw [cell_sameC ((SW.grownBy hs.sw).block _ (World.block_lt_of_cell? wl _ HB0.out) (fun e => by have h1 : w1.heap.size = g := Option.some.inj e; omega))]
                  exact HB0.out)
                go_wp2_with (go_at_call 68; refine HS.out.mono ?_; rintro e w9 ⟨rfl, d', hs9, hsort⟩; have HS9 := Lib.hid hs9; have HST9 := Lib.hid hsort; have b9 := HB9.out _ _ hs9; clear hs9 hsort b0)
                go_ret2
                have hperm : D.Perm d'.toList := by simpa using HS9.out.perm.symm
                have hsz : d'.size = D.length := by simpa using HS9.out.sz
                refine (HCQ.out _ _).2 ⟨_, d'.toList, by rw [HYES.out]; rfl, own_mono (sortedZ HS9.out hg HBLK.out HWO.out.1 HWO.out.2.1 HWO.out.2.2) (by omega), HBe.out.grown (SW.grownBy HS9.out.sw) HBe.out.size (fun j hj => by have := Option.some.inj hj; omega), fun _ => ⟨hperm, chain_sorted HYES.out hperm ?_⟩, fun h => ?_⟩
                · intro j k hj hk hjk
                  have hj' : j < d'.size := by simpa using hj
                  have hk' : k < d'.size := by simpa using hk
                  have := of_decide_eq_false (HST9.out j k (Nat.zero_le _) hjk (by rw [← hsz]; exact hk'))
                  rw [getElem!_pos d' j hj', getElem!_pos d' k hk'] at this
                  unfold cmpA at this
                  simp only [Array.getElem_toList]
                  omega
                · rw [HYES.out] at h; cases h
end Go.Proofs.YtnacoplokjdglaaGreat
