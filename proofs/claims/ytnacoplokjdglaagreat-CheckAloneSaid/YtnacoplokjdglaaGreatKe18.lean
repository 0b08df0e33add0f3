/- Texts of one proof, one behind the other: SoPins, SoPeq. -/
import Derived.Shelf.SlSortCmp.Insertion
import Derived.Test.YtnacoplokjdglaaGreatKe1
import Derived.Test.YtnacoplokjdglaaGreatKe2
import Derived.Test.YtnacoplokjdglaaGreatKe3
import Derived.Test.YtnacoplokjdglaaGreatKe16
import Derived.Test.YtnacoplokjdglaaGreatKe17
set_option linter.all false
namespace Go.Proofs.YtnacoplokjdglaaGreat
open Go.RowKit Go.Maps Go.Sort
attribute [local go_sem] Oper.semAt_some

theorem pn_end {lt : Int → Int → Bool} {a b s i : Nat} {d : Array Int} (h : scanSorted lt d b i = b) : partialIns lt a b (s + 1) i d = (d, true) := by
  rw [partialIns]
  simp only [h, if_true]
theorem pn_short {lt : Int → Int → Bool} {a b s i k : Nat} {d : Array Int} (h : scanSorted lt d b i = k) (hk : k ≠ b) (h5 : b - a < 50) : partialIns lt a b (s + 1) i d = (d, false) := by
  rw [partialIns]
  simp only [h, hk, h5, if_true, if_false]
theorem pn_go {lt : Int → Int → Bool} {a b s i k : Nat} {d d2 d3 : Array Int} (h : scanSorted lt d b i = k) (hk : k ≠ b) (h5 : ¬ b - a < 50)
    (h2 : (if k - a ≥ 2 then shiftDown lt (k - 1) (Sort.swp d k (k - 1)) else Sort.swp d k (k - 1)) = d2) (h3 : (if b - k ≥ 2 then shiftUp lt b (k + 1) d2 else d2) = d3) : partialIns lt a b (s + 1) i d = partialIns lt a b s k d3 := by
  rw [partialIns]
  simp only [h, hk, h5, h2, h3, if_false]

set_option maxHeartbeats 32000000 in
set_option maxRecDepth 100000 in
theorem soPins_call (cf : Int → Int → Int) (g : FuncId) (cb : Array Value) (blk off cap a b : Nat) (d0 d : Array Int) (w0 w : World)
    (eg : ∀ args w, (callFunc g args).run Tryz.prog w = .ok (.enter g args) w) (hC : CmpP g cb cf blk off d0 w0) (R : Row1 vi w0 blk off d0) (hS : SoW w0 blk off d0 d w) (hab : a < b) (hb : b ≤ d0.size) (hsz : d0.size < 4611686018427387904) :
    Calls Tryz.prog 110 #[.slice (some ⟨blk, off, none⟩) d0.size cap, vi a, vi b, .func (.func g) #[] cb] w fun e w' =>
      e = .returned (.bool (Sort.partialInsertionSort (ltOf cf) d a b).2) ∧ SoW w0 blk off d0 (Sort.partialInsertionSort (ltOf cf) d a b).1 w' := by
  have HC := Lib.hid hC
  have HS := Lib.hid hS
  have mixed : Tryz.prog.follows .mixedOrders = true := by kernel_rfl
  clear hC hS
  obtain ⟨RR, hRR⟩ : ∃ r, Sort.partialInsertionSort (ltOf cf) d a b = r := ⟨_, rfl⟩
  rw [hRR]
  obtain ⟨a1, ha1⟩ : ∃ x, a + 1 = x := ⟨_, rfl⟩
  have HR := Lib.hid (show partialIns (ltOf cf) a b 5 a1 d = RR from by rw [← hRR, ← ha1]; rfl)
  have wa1 : IntKind.i64.wrap ((a : Int) + 1) = (a1 : Int) := by rw [IntWalk.i64_in _ (by omega)]; omega
  have wl : IntKind.i64.wrap ((b : Int) - (a : Int)) = ((b - a : Nat) : Int) := by rw [IntWalk.i64_in _ (by omega)]; omega
  clear hRR
  go_enter Tryz.func110, Tryz.ntmps110
  go_wp2_with fail
  go_loopw [9, 10] (fun u v wr => ∃ (i s : Nat) (dk : Array Int), a < i ∧ i ≤ b ∧ s ≤ 5 ∧ u = vi i ∧ v = vi s ∧ Hid (SoW w0 blk off d0 dk wr ∧ partialIns (ltOf cf) a b (5 - s) i dk = RR)) (fun _ v _ => 5 - (intOf v).toNat)
  case atStart => exact ⟨a1, 0, d, by omega, by omega, by omega, rfl, rfl, Lib.hid ⟨HS.out, HR.out⟩⟩
  case round =>
    clear HS HR
    obtain ⟨wj, rfl⟩ : ∃ wj : World, wj = wr := ⟨_, rfl⟩
    obtain ⟨i, s0, dk, hai, hib, hs5, rfl, rfl, HJ⟩ := hrel
    have HO := Lib.hid HJ.out.2
    have S0 := Lib.hid HJ.out.1
    clear HJ
    by_cases hs : s0 < 5
    · have n1 : decide ((s0 : Int) < 5) = true := decide_eq_true (by omega)
      have n2 : (s0 : Int) < 5 := by omega
      obtain ⟨s1, hs1⟩ : ∃ q, s0 + 1 = q := ⟨_, rfl⟩
      have ws1 : IntKind.i64.wrap ((s0 : Int) + 1) = (s1 : Int) := by rw [IntWalk.i64_in _ (by omega)]; omega
      obtain ⟨s, hsub⟩ : ∃ s, 5 - s0 = s + 1 := ⟨5 - s0 - 1, by omega⟩
      have hsub1 : 5 - s1 = s := by omega
      go_wp2_with fail
      go_loopw [9] (fun u wr => ∃ k : Nat, i ≤ k ∧ k ≤ b ∧ u = vi k ∧ Hid (SoW w0 blk off d0 dk wr ∧ scanSorted (ltOf cf) dk b k = scanSorted (ltOf cf) dk b i)) (fun u _ => b - (intOf u).toNat)
      case atStart => exact ⟨i, Nat.le_refl _, hib, rfl, Lib.hid ⟨S0.out, rfl⟩⟩
      case round =>
        clear S0
        obtain ⟨wi, rfl⟩ : ∃ wi : World, wi = wr := ⟨_, rfl⟩
        obtain ⟨k, hik, hkb, rfl, HJ⟩ := hrel
        have HA := Lib.hid HJ.out.2
        have SA := Lib.hid HJ.out.1
        clear HJ
        by_cases hlt : k < b
        · have k1 : decide ((k : Int) < (b : Int)) = true := decide_eq_true (by omega)
          have k2 : (k : Int) < (b : Int) := by omega
          have k3 : (k : Int) < (d0.size : Int) := by omega
          obtain ⟨kp, hkp⟩ : ∃ q, q + 1 = k := ⟨k - 1, by omega⟩
          have ekp : k - 1 = kp := by omega
          have k4 : (kp : Int) < (d0.size : Int) := by omega
          have wkp : IntKind.i64.wrap ((k : Int) - 1) = (kp : Int) := by rw [IntWalk.i64_in _ (by omega)]; omega
          have hkne : k ≠ b := by omega
          have k5 : ((k : Int) == (b : Int)) = false := beq_eq_false_iff_ne.2 (by omega)
          cases hlv : (ltOf cf) dk[k]! dk[kp]! with
          | false =>
            have HN := Lib.hid (ss_go (lt := ltOf cf) (d := dk) hlt (by rw [ekp]; exact hlv))
            obtain ⟨kn, hkn⟩ : ∃ q, k + 1 = q := ⟨_, rfl⟩
            have wkn : IntKind.i64.wrap ((k : Int) + 1) = (kn : Int) := by rw [IntWalk.i64_in _ (by omega)]; omega
            rw [hkn] at HN
            obtain ⟨x, hx⟩ : ∃ x, x = dk[k]! := ⟨_, rfl⟩
            obtain ⟨y, hy⟩ : ∃ y, y = dk[kp]! := ⟨_, rfl⟩
            have la := SA.out.cl R (i := k) (by omega)
            have lb := SA.out.cl R (i := kp) (by omega)
            rw [← hx] at la
            rw [← hy] at lb
            have hc := SA.out.cmp HC.out x y (by rw [hx]; exact SA.out.mem (by omega)) (by rw [hy]; exact SA.out.mem (by omega))
            have hd : decide (cf x y < 0) = false := by rw [hx, hy]; exact hlv
            have hv : ¬ cf x y < 0 := of_decide_eq_false hd
            clear hx hy
            go_wp2_with fail
            go_quiet_grown (first | (go_at_fn g; refine Calls.grown_of (hc _ _)))
            have SA2 := Lib.hid (SA.out.grown nq osq)
            clear la lb hc hd hv
            generalize grow (wi.drewN nq) osq = w4 at SA2 ⊢
            clear nq osq
            go_wp2_with fail
            exact ⟨⟨kn, by omega, by omega, rfl, Lib.hid ⟨SA2.out, by rw [← HA.out, HN.out]⟩⟩, by simp only [intOf]; omega⟩
          | true =>
            have HK := Lib.hid (show scanSorted (ltOf cf) dk b i = k from by rw [← HA.out]; exact ss_stop (Or.inr (by rw [ekp]; exact hlv)))
            clear HA
            obtain ⟨x, hx⟩ : ∃ x, x = dk[k]! := ⟨_, rfl⟩
            obtain ⟨y, hy⟩ : ∃ y, y = dk[kp]! := ⟨_, rfl⟩
            have la := SA.out.cl R (i := k) (by omega)
            have lb := SA.out.cl R (i := kp) (by omega)
            rw [← hx] at la
            rw [← hy] at lb
            have hc := SA.out.cmp HC.out x y (by rw [hx]; exact SA.out.mem (by omega)) (by rw [hy]; exact SA.out.mem (by omega))
            have hd : decide (cf x y < 0) = true := by rw [hx, hy]; exact hlv
            have hv : cf x y < 0 := of_decide_eq_true hd
            clear hx hy
            go_wp2_with fail
            go_quiet_grown (first | (go_at_fn g; refine Calls.grown_of (hc _ _)))
            have SA2 := Lib.hid (SA.out.grown nq osq)
            clear la lb hc hd hv
            generalize grow (wi.drewN nq) osq = w4 at SA2 ⊢
            clear nq osq
            by_cases h50 : b - a < 50
            · have v1 : decide (((b - a : Nat) : Int) < 50) = true := decide_eq_true (by omega)
              have v2 : ((b - a : Nat) : Int) < 50 := by omega
              have v3 : (b : Int) - (a : Int) < 50 := by omega
              have HE := Lib.hid (pn_short (lt := ltOf cf) (s := s) HK.out hkne h50)
              go_wp2_with fail
              go_ret
              exact ⟨by rw [← HO.out, hsub, HE.out]; rfl, by rw [← HO.out, hsub, HE.out]; exact SA2.out⟩
            · have v1 : decide (((b - a : Nat) : Int) < 50) = false := decide_eq_false (by omega)
              have v2 : ¬ ((b - a : Nat) : Int) < 50 := by omega
              have v3 : ¬ (b : Int) - (a : Int) < 50 := by omega
              have wka : IntKind.i64.wrap ((k : Int) - (a : Int)) = ((k - a : Nat) : Int) := by rw [IntWalk.i64_in _ (by omega)]; omega
              have wbk : IntKind.i64.wrap ((b : Int) - (k : Int)) = ((b - k : Nat) : Int) := by rw [IntWalk.i64_in _ (by omega)]; omega
              have wkn : IntKind.i64.wrap ((k : Int) + 1) = ((k + 1 : Nat) : Int) := by rw [IntWalk.i64_in _ (by omega)]; omega
              go_wp2_with fail
              have SA23 := Lib.hid (SA2.out.swp R (i := k) (j := kp) (by omega) (by omega))
              have ca := SA2.out.c1 R (i := k) (by omega)
              have cb2 := SA2.out.c1 R (i := kp) (by omega)
              have fa := SA2.out.f1 R (i := k) (by omega)
              have fb := SA2.out.f1 R (i := kp) (by omega)
              obtain ⟨ux, hux⟩ : ∃ x, x = dk[k]! := ⟨_, rfl⟩
              obtain ⟨uy, huy⟩ : ∃ y, y = dk[kp]! := ⟨_, rfl⟩
              obtain ⟨u2, cc⟩ := SA2.out.c2 R (i := k) (j := kp) (by omega) (by omega) (vi uy)
              rw [← hux] at ca SA23
              rw [← huy] at cb2 SA23
              clear hux huy
              go_wp2_with fail
              go_big_region_o
              clear ca cb2 fa fb cc
              generalize ((w4.setCell ⟨blk, off + k, none⟩ (vi uy)).setCell ⟨blk, off + kp, none⟩ (vi ux)).drew = w5 at SA23 ⊢
              obtain ⟨D2, hD2⟩ : ∃ q, Hid (Sort.swp dk k kp = q) := ⟨_, Lib.hid rfl⟩
              rw [hD2.out] at SA23
              by_cases hka : k - a ≥ 2
              · have p1 : decide ((2 : Int) ≤ ((k - a : Nat) : Int)) = true := decide_eq_true (by omega)
                have p2 : (2 : Int) ≤ (k : Int) - (a : Int) := by omega
                have p3 : (2 : Int) ≤ ((k - a : Nat) : Int) := by omega
                go_wp2_with fail
                go_loopw [11] (fun u wr => ∃ (j : Nat) (dj : Array Int), j ≤ kp ∧ u = vi j ∧ Hid (SoW w0 blk off d0 dj wr ∧ shiftDown (ltOf cf) j dj = shiftDown (ltOf cf) kp D2)) (fun u _ => (intOf u).toNat)
                case atStart => exact ⟨kp, D2, Nat.le_refl _, rfl, Lib.hid ⟨SA23.out, rfl⟩⟩
                case round =>
                  clear SA23
                  obtain ⟨wd, rfl⟩ : ∃ wj : World, wj = wr := ⟨_, rfl⟩
                  obtain ⟨j, dj, hjk, rfl, HJ⟩ := hrel
                  have HD := Lib.hid HJ.out.2
                  have SD := Lib.hid HJ.out.1
                  clear HJ
                  by_cases hj1 : 1 ≤ j
                  · have t1 : decide ((1 : Int) ≤ (j : Int)) = true := decide_eq_true (by omega)
                    have t2 : (1 : Int) ≤ (j : Int) := by omega
                    obtain ⟨jp, hjp⟩ : ∃ q, q + 1 = j := ⟨j - 1, by omega⟩
                    have wjp : IntKind.i64.wrap ((j : Int) - 1) = (jp : Int) := by rw [IntWalk.i64_in _ (by omega)]; omega
                    have t3 : (j : Int) < (d0.size : Int) := by omega
                    have t4 : (jp : Int) < (d0.size : Int) := by omega
                    go_wp2_with fail
                    cases hlv : (ltOf cf) dj[j]! dj[jp]! with
                    | true =>
                      have HN := Lib.hid (sd1_go (lt := ltOf cf) (d := dj) (j := jp) (by rw [hjp]; exact hlv))
                      rw [hjp] at HN
                      obtain ⟨x, hx⟩ : ∃ x, x = dj[j]! := ⟨_, rfl⟩
                      obtain ⟨y, hy⟩ : ∃ y, y = dj[jp]! := ⟨_, rfl⟩
                      have la := SD.out.cl R (i := j) (by omega)
                      have lb := SD.out.cl R (i := jp) (by omega)
                      rw [← hx] at la
                      rw [← hy] at lb
                      have hc := SD.out.cmp HC.out x y (by rw [hx]; exact SD.out.mem (by omega)) (by rw [hy]; exact SD.out.mem (by omega))
                      have hd : decide (cf x y < 0) = true := by rw [hx, hy]; exact hlv
                      have hv : cf x y < 0 := of_decide_eq_true hd
                      clear hx hy
                      go_wp2_with fail
                      go_quiet_grown (first | (go_at_fn g; refine Calls.grown_of (hc _ _)))
                      have SD2 := Lib.hid (SD.out.grown nq osq)
                      clear la lb hc hd hv
                      generalize grow (wd.drewN nq) osq = wd2 at SD2 ⊢
                      clear nq osq
                      go_wp2_with fail
                      have SD23 := Lib.hid (SD2.out.swp R (i := j) (j := jp) (by omega) (by omega))
                      have ca := SD2.out.c1 R (i := j) (by omega)
                      have cb2 := SD2.out.c1 R (i := jp) (by omega)
                      have fa := SD2.out.f1 R (i := j) (by omega)
                      have fb := SD2.out.f1 R (i := jp) (by omega)
                      obtain ⟨ux, hux⟩ : ∃ x, x = dj[j]! := ⟨_, rfl⟩
                      obtain ⟨uy, huy⟩ : ∃ y, y = dj[jp]! := ⟨_, rfl⟩
                      obtain ⟨u2, cc⟩ := SD2.out.c2 R (i := j) (j := jp) (by omega) (by omega) (vi uy)
                      rw [← hux] at ca SD23
                      rw [← huy] at cb2 SD23
                      clear hux huy
                      go_wp2_with fail
                      go_big_region_o
                      clear ca cb2 fa fb cc
                      generalize ((wd2.setCell ⟨blk, off + j, none⟩ (vi uy)).setCell ⟨blk, off + jp, none⟩ (vi ux)).drew = wd3 at SD23 ⊢
                      go_wp2_with fail
                      exact ⟨⟨jp, Sort.swp dj j jp, by omega, rfl, Lib.hid ⟨SD23.out, by rw [← HD.out, HN.out]⟩⟩, by simp only [intOf]; omega⟩
                    | false =>
                      have HN := Lib.hid (sd1_stop (lt := ltOf cf) (d := dj) (j := jp) (by rw [hjp]; exact hlv))
                      rw [hjp] at HN
                      have HDn := Lib.hid (show (if k - a ≥ 2 then shiftDown (ltOf cf) (k - 1) (Sort.swp dk k (k - 1)) else Sort.swp dk k (k - 1)) = dj from by rw [if_pos hka, ekp, hD2.out, ← HD.out, HN.out])
                      obtain ⟨x, hx⟩ : ∃ x, x = dj[j]! := ⟨_, rfl⟩
                      obtain ⟨y, hy⟩ : ∃ y, y = dj[jp]! := ⟨_, rfl⟩
                      have la := SD.out.cl R (i := j) (by omega)
                      have lb := SD.out.cl R (i := jp) (by omega)
                      rw [← hx] at la
                      rw [← hy] at lb
                      have hc := SD.out.cmp HC.out x y (by rw [hx]; exact SD.out.mem (by omega)) (by rw [hy]; exact SD.out.mem (by omega))
                      have hd : decide (cf x y < 0) = false := by rw [hx, hy]; exact hlv
                      have hv : ¬ cf x y < 0 := of_decide_eq_false hd
                      clear hx hy
                      go_wp2_with fail
                      go_quiet_grown (first | (go_at_fn g; refine Calls.grown_of (hc _ _)))
                      have SD2 := Lib.hid (SD.out.grown nq osq)
                      clear la lb hc hd hv
                      generalize grow (wd.drewN nq) osq = wd2 at SD2 ⊢
                      clear nq osq
                      clear HD HN hjp wjp t1 t2 t3 t4
                      by_cases hbk : b - k ≥ 2
                      · have q1 : decide ((2 : Int) ≤ ((b - k : Nat) : Int)) = true := decide_eq_true (by omega)
                        have q2 : (2 : Int) ≤ (b : Int) - (k : Int) := by omega
                        have q3 : (2 : Int) ≤ ((b - k : Nat) : Int) := by omega
                        go_wp2_with fail
                        go_loopw [12] (fun u wr => ∃ (ju : Nat) (du : Array Int), k < ju ∧ ju ≤ b ∧ u = vi ju ∧ Hid (SoW w0 blk off d0 du wr ∧ shiftUp (ltOf cf) b ju du = shiftUp (ltOf cf) b (k + 1) dj)) (fun u _ => b - (intOf u).toNat)
                        case atStart => exact ⟨k + 1, dj, by omega, by omega, by first | rfl | go_num, Lib.hid ⟨SD2.out, rfl⟩⟩
                        case round =>
                          clear SD2
                          obtain ⟨wu, rfl⟩ : ∃ wj : World, wj = wr := ⟨_, rfl⟩
                          obtain ⟨ju, du, hkj, hjb, rfl, HJ⟩ := hrel
                          have HU := Lib.hid HJ.out.2
                          have SU := Lib.hid HJ.out.1
                          clear HJ
                          by_cases hub2 : ju < b
                          · have r1 : decide ((ju : Int) < (b : Int)) = true := decide_eq_true (by omega)
                            have r2 : (ju : Int) < (b : Int) := by omega
                            obtain ⟨up_, hup_⟩ : ∃ q, q + 1 = ju := ⟨ju - 1, by omega⟩
                            have eup_ : ju - 1 = up_ := by omega
                            have wup_ : IntKind.i64.wrap ((ju : Int) - 1) = (up_ : Int) := by rw [IntWalk.i64_in _ (by omega)]; omega
                            obtain ⟨jn, hjn⟩ : ∃ q, ju + 1 = q := ⟨_, rfl⟩
                            have wjn : IntKind.i64.wrap ((ju : Int) + 1) = (jn : Int) := by rw [IntWalk.i64_in _ (by omega)]; omega
                            have r3 : (ju : Int) < (d0.size : Int) := by omega
                            have r4 : (up_ : Int) < (d0.size : Int) := by omega
                            go_wp2_with fail
                            cases hlv : (ltOf cf) du[ju]! du[up_]! with
                            | true =>
                              have HN := Lib.hid (su1_go (lt := ltOf cf) (d := du) hub2 (by rw [eup_]; exact hlv))
                              rw [eup_, hjn] at HN
                              obtain ⟨x, hx⟩ : ∃ x, x = du[ju]! := ⟨_, rfl⟩
                              obtain ⟨y, hy⟩ : ∃ y, y = du[up_]! := ⟨_, rfl⟩
                              have la := SU.out.cl R (i := ju) (by omega)
                              have lb := SU.out.cl R (i := up_) (by omega)
                              rw [← hx] at la
                              rw [← hy] at lb
                              have hc := SU.out.cmp HC.out x y (by rw [hx]; exact SU.out.mem (by omega)) (by rw [hy]; exact SU.out.mem (by omega))
                              have hd : decide (cf x y < 0) = true := by rw [hx, hy]; exact hlv
                              have hv : cf x y < 0 := of_decide_eq_true hd
                              clear hx hy
                              go_wp2_with fail
                              go_quiet_grown (first | (go_at_fn g; refine Calls.grown_of (hc _ _)))
                              have SU2 := Lib.hid (SU.out.grown nq osq)
                              clear la lb hc hd hv
                              generalize grow (wu.drewN nq) osq = wu2 at SU2 ⊢
                              clear nq osq
                              go_wp2_with fail
                              have SU23 := Lib.hid (SU2.out.swp R (i := ju) (j := up_) (by omega) (by omega))
                              have ca := SU2.out.c1 R (i := ju) (by omega)
                              have cb2 := SU2.out.c1 R (i := up_) (by omega)
                              have fa := SU2.out.f1 R (i := ju) (by omega)
                              have fb := SU2.out.f1 R (i := up_) (by omega)
                              obtain ⟨ux, hux⟩ : ∃ x, x = du[ju]! := ⟨_, rfl⟩
                              obtain ⟨uy, huy⟩ : ∃ y, y = du[up_]! := ⟨_, rfl⟩
                              obtain ⟨u2, cc⟩ := SU2.out.c2 R (i := ju) (j := up_) (by omega) (by omega) (vi uy)
                              rw [← hux] at ca SU23
                              rw [← huy] at cb2 SU23
                              clear hux huy
                              go_wp2_with fail
                              go_big_region_o
                              clear ca cb2 fa fb cc
                              generalize ((wu2.setCell ⟨blk, off + ju, none⟩ (vi uy)).setCell ⟨blk, off + up_, none⟩ (vi ux)).drew = wu3 at SU23 ⊢
                              go_wp2_with fail
                              exact ⟨⟨jn, Sort.swp du ju up_, by omega, by omega, rfl, Lib.hid ⟨SU23.out, by rw [← HU.out, HN.out]⟩⟩, by simp only [intOf]; omega⟩
                            | false =>
                              have HN := Lib.hid (su1_stop (lt := ltOf cf) (b := b) (d := du) (j := ju) (Or.inr (by rw [eup_]; exact hlv)))
                              obtain ⟨x, hx⟩ : ∃ x, x = du[ju]! := ⟨_, rfl⟩
                              obtain ⟨y, hy⟩ : ∃ y, y = du[up_]! := ⟨_, rfl⟩
                              have la := SU.out.cl R (i := ju) (by omega)
                              have lb := SU.out.cl R (i := up_) (by omega)
                              rw [← hx] at la
                              rw [← hy] at lb
                              have hc := SU.out.cmp HC.out x y (by rw [hx]; exact SU.out.mem (by omega)) (by rw [hy]; exact SU.out.mem (by omega))
                              have hd : decide (cf x y < 0) = false := by rw [hx, hy]; exact hlv
                              have hv : ¬ cf x y < 0 := of_decide_eq_false hd
                              clear hx hy
                              go_wp2_with fail
                              go_quiet_grown (first | (go_at_fn g; refine Calls.grown_of (hc _ _)))
                              have SU2 := Lib.hid (SU.out.grown nq osq)
                              clear la lb hc hd hv
                              generalize grow (wu.drewN nq) osq = wu2 at SU2 ⊢
                              clear nq osq
                              have HZ := Lib.hid (pn_go (lt := ltOf cf) (s := s) HK.out hkne h50 HDn.out (show (if b - k ≥ 2 then shiftUp (ltOf cf) b (k + 1) dj else dj) = du from by rw [if_pos hbk, ← HU.out, HN.out]))
                              go_wp2_with fail
                              exact ⟨⟨k, s1, du, by omega, by omega, by omega, rfl, rfl, Lib.hid ⟨SU2.out, by rw [← HO.out, hsub, HZ.out, hsub1]⟩⟩, by simp only [intOf]; omega⟩
                          · have r1 : decide ((ju : Int) < (b : Int)) = false := decide_eq_false (by omega)
                            have r2 : ¬ (ju : Int) < (b : Int) := by omega
                            have HN := Lib.hid (su1_stop (lt := ltOf cf) (b := b) (d := du) (j := ju) (Or.inl (by omega)))
                            have HZ := Lib.hid (pn_go (lt := ltOf cf) (s := s) HK.out hkne h50 HDn.out (show (if b - k ≥ 2 then shiftUp (ltOf cf) b (k + 1) dj else dj) = du from by rw [if_pos hbk, ← HU.out, HN.out]))
                            go_wp2_with fail
                            exact ⟨⟨k, s1, du, by omega, by omega, by omega, rfl, rfl, Lib.hid ⟨SU.out, by rw [← HO.out, hsub, HZ.out, hsub1]⟩⟩, by simp only [intOf]; omega⟩
                      · have q1 : decide ((2 : Int) ≤ ((b - k : Nat) : Int)) = false := decide_eq_false (by omega)
                        have q2 : ¬ (2 : Int) ≤ (b : Int) - (k : Int) := by omega
                        have q3 : ¬ (2 : Int) ≤ ((b - k : Nat) : Int) := by omega
                        have HZ := Lib.hid (pn_go (lt := ltOf cf) (s := s) HK.out hkne h50 HDn.out (show (if b - k ≥ 2 then shiftUp (ltOf cf) b (k + 1) dj else dj) = dj from by rw [if_neg hbk]))
                        go_wp2_with fail
                        exact ⟨⟨k, s1, dj, by omega, by omega, by omega, rfl, rfl, Lib.hid ⟨SD2.out, by rw [← HO.out, hsub, HZ.out, hsub1]⟩⟩, by simp only [intOf]; omega⟩
                  · have t1 : decide ((1 : Int) ≤ (j : Int)) = false := decide_eq_false (by omega)
                    have t2 : ¬ (1 : Int) ≤ (j : Int) := by omega
                    have hj0 : j = 0 := by omega
                    have HDn := Lib.hid (show (if k - a ≥ 2 then shiftDown (ltOf cf) (k - 1) (Sort.swp dk k (k - 1)) else Sort.swp dk k (k - 1)) = dj from by rw [if_pos hka, ekp, hD2.out, ← HD.out, hj0]; rfl)
                    clear HD hj0
                    by_cases hbk : b - k ≥ 2
                    · have q1 : decide ((2 : Int) ≤ ((b - k : Nat) : Int)) = true := decide_eq_true (by omega)
                      have q2 : (2 : Int) ≤ (b : Int) - (k : Int) := by omega
                      have q3 : (2 : Int) ≤ ((b - k : Nat) : Int) := by omega
                      go_wp2_with fail
                      go_loopw [12] (fun u wr => ∃ (ju : Nat) (du : Array Int), k < ju ∧ ju ≤ b ∧ u = vi ju ∧ Hid (SoW w0 blk off d0 du wr ∧ shiftUp (ltOf cf) b ju du = shiftUp (ltOf cf) b (k + 1) dj)) (fun u _ => b - (intOf u).toNat)
                      case atStart => exact ⟨k + 1, dj, by omega, by omega, by first | rfl | go_num, Lib.hid ⟨SD.out, rfl⟩⟩
                      case round =>
                        clear SD
                        obtain ⟨wu, rfl⟩ : ∃ wj : World, wj = wr := ⟨_, rfl⟩
                        obtain ⟨ju, du, hkj, hjb, rfl, HJ⟩ := hrel
                        have HU := Lib.hid HJ.out.2
                        have SU := Lib.hid HJ.out.1
                        clear HJ
                        by_cases hub2 : ju < b
                        · have r1 : decide ((ju : Int) < (b : Int)) = true := decide_eq_true (by omega)
                          have r2 : (ju : Int) < (b : Int) := by omega
                          obtain ⟨up_, hup_⟩ : ∃ q, q + 1 = ju := ⟨ju - 1, by omega⟩
                          have eup_ : ju - 1 = up_ := by omega
                          have wup_ : IntKind.i64.wrap ((ju : Int) - 1) = (up_ : Int) := by rw [IntWalk.i64_in _ (by omega)]; omega
                          obtain ⟨jn, hjn⟩ : ∃ q, ju + 1 = q := ⟨_, rfl⟩
                          have wjn : IntKind.i64.wrap ((ju : Int) + 1) = (jn : Int) := by rw [IntWalk.i64_in _ (by omega)]; omega
                          have r3 : (ju : Int) < (d0.size : Int) := by omega
                          have r4 : (up_ : Int) < (d0.size : Int) := by omega
                          go_wp2_with fail
                          cases hlv : (ltOf cf) du[ju]! du[up_]! with
                          | true =>
                            have HN := Lib.hid (su1_go (lt := ltOf cf) (d := du) hub2 (by rw [eup_]; exact hlv))
                            rw [eup_, hjn] at HN
                            obtain ⟨x, hx⟩ : ∃ x, x = du[ju]! := ⟨_, rfl⟩
                            obtain ⟨y, hy⟩ : ∃ y, y = du[up_]! := ⟨_, rfl⟩
                            have la := SU.out.cl R (i := ju) (by omega)
                            have lb := SU.out.cl R (i := up_) (by omega)
                            rw [← hx] at la
                            rw [← hy] at lb
                            have hc := SU.out.cmp HC.out x y (by rw [hx]; exact SU.out.mem (by omega)) (by rw [hy]; exact SU.out.mem (by omega))
                            have hd : decide (cf x y < 0) = true := by rw [hx, hy]; exact hlv
                            have hv : cf x y < 0 := of_decide_eq_true hd
                            clear hx hy
                            go_wp2_with fail
                            go_quiet_grown (first | (go_at_fn g; refine Calls.grown_of (hc _ _)))
                            have SU2 := Lib.hid (SU.out.grown nq osq)
                            clear la lb hc hd hv
                            generalize grow (wu.drewN nq) osq = wu2 at SU2 ⊢
                            clear nq osq
                            go_wp2_with fail
                            have SU23 := Lib.hid (SU2.out.swp R (i := ju) (j := up_) (by omega) (by omega))
                            have ca := SU2.out.c1 R (i := ju) (by omega)
                            have cb2 := SU2.out.c1 R (i := up_) (by omega)
                            have fa := SU2.out.f1 R (i := ju) (by omega)
                            have fb := SU2.out.f1 R (i := up_) (by omega)
                            obtain ⟨ux, hux⟩ : ∃ x, x = du[ju]! := ⟨_, rfl⟩
                            obtain ⟨uy, huy⟩ : ∃ y, y = du[up_]! := ⟨_, rfl⟩
                            obtain ⟨u2, cc⟩ := SU2.out.c2 R (i := ju) (j := up_) (by omega) (by omega) (vi uy)
                            rw [← hux] at ca SU23
                            rw [← huy] at cb2 SU23
                            clear hux huy
                            go_wp2_with fail
                            go_big_region_o
                            clear ca cb2 fa fb cc
                            generalize ((wu2.setCell ⟨blk, off + ju, none⟩ (vi uy)).setCell ⟨blk, off + up_, none⟩ (vi ux)).drew = wu3 at SU23 ⊢
                            go_wp2_with fail
                            exact ⟨⟨jn, Sort.swp du ju up_, by omega, by omega, rfl, Lib.hid ⟨SU23.out, by rw [← HU.out, HN.out]⟩⟩, by simp only [intOf]; omega⟩
                          | false =>
                            have HN := Lib.hid (su1_stop (lt := ltOf cf) (b := b) (d := du) (j := ju) (Or.inr (by rw [eup_]; exact hlv)))
                            obtain ⟨x, hx⟩ : ∃ x, x = du[ju]! := ⟨_, rfl⟩
                            obtain ⟨y, hy⟩ : ∃ y, y = du[up_]! := ⟨_, rfl⟩
                            have la := SU.out.cl R (i := ju) (by omega)
                            have lb := SU.out.cl R (i := up_) (by omega)
                            rw [← hx] at la
                            rw [← hy] at lb
                            have hc := SU.out.cmp HC.out x y (by rw [hx]; exact SU.out.mem (by omega)) (by rw [hy]; exact SU.out.mem (by omega))
                            have hd : decide (cf x y < 0) = false := by rw [hx, hy]; exact hlv
                            have hv : ¬ cf x y < 0 := of_decide_eq_false hd
                            clear hx hy
                            go_wp2_with fail
                            go_quiet_grown (first | (go_at_fn g; refine Calls.grown_of (hc _ _)))
                            have SU2 := Lib.hid (SU.out.grown nq osq)
                            clear la lb hc hd hv
                            generalize grow (wu.drewN nq) osq = wu2 at SU2 ⊢
                            clear nq osq
                            have HZ := Lib.hid (pn_go (lt := ltOf cf) (s := s) HK.out hkne h50 HDn.out (show (if b - k ≥ 2 then shiftUp (ltOf cf) b (k + 1) dj else dj) = du from by rw [if_pos hbk, ← HU.out, HN.out]))
                            go_wp2_with fail
                            exact ⟨⟨k, s1, du, by omega, by omega, by omega, rfl, rfl, Lib.hid ⟨SU2.out, by rw [← HO.out, hsub, HZ.out, hsub1]⟩⟩, by simp only [intOf]; omega⟩
                        · have r1 : decide ((ju : Int) < (b : Int)) = false := decide_eq_false (by omega)
                          have r2 : ¬ (ju : Int) < (b : Int) := by omega
                          have HN := Lib.hid (su1_stop (lt := ltOf cf) (b := b) (d := du) (j := ju) (Or.inl (by omega)))
                          have HZ := Lib.hid (pn_go (lt := ltOf cf) (s := s) HK.out hkne h50 HDn.out (show (if b - k ≥ 2 then shiftUp (ltOf cf) b (k + 1) dj else dj) = du from by rw [if_pos hbk, ← HU.out, HN.out]))
                          go_wp2_with fail
                          exact ⟨⟨k, s1, du, by omega, by omega, by omega, rfl, rfl, Lib.hid ⟨SU.out, by rw [← HO.out, hsub, HZ.out, hsub1]⟩⟩, by simp only [intOf]; omega⟩
                    · have q1 : decide ((2 : Int) ≤ ((b - k : Nat) : Int)) = false := decide_eq_false (by omega)
                      have q2 : ¬ (2 : Int) ≤ (b : Int) - (k : Int) := by omega
                      have q3 : ¬ (2 : Int) ≤ ((b - k : Nat) : Int) := by omega
                      have HZ := Lib.hid (pn_go (lt := ltOf cf) (s := s) HK.out hkne h50 HDn.out (show (if b - k ≥ 2 then shiftUp (ltOf cf) b (k + 1) dj else dj) = dj from by rw [if_neg hbk]))
                      go_wp2_with fail
                      exact ⟨⟨k, s1, dj, by omega, by omega, by omega, rfl, rfl, Lib.hid ⟨SD.out, by rw [← HO.out, hsub, HZ.out, hsub1]⟩⟩, by simp only [intOf]; omega⟩
              · have p1 : decide ((2 : Int) ≤ ((k - a : Nat) : Int)) = false := decide_eq_false (by omega)
                have p2 : ¬ (2 : Int) ≤ (k : Int) - (a : Int) := by omega
                have p3 : ¬ (2 : Int) ≤ ((k - a : Nat) : Int) := by omega
                have HDn := Lib.hid (show (if k - a ≥ 2 then shiftDown (ltOf cf) (k - 1) (Sort.swp dk k (k - 1)) else Sort.swp dk k (k - 1)) = D2 from by rw [if_neg hka, ekp, hD2.out])
                by_cases hbk : b - k ≥ 2
                · have q1 : decide ((2 : Int) ≤ ((b - k : Nat) : Int)) = true := decide_eq_true (by omega)
                  have q2 : (2 : Int) ≤ (b : Int) - (k : Int) := by omega
                  have q3 : (2 : Int) ≤ ((b - k : Nat) : Int) := by omega
                  go_wp2_with fail
                  go_loopw [12] (fun u wr => ∃ (ju : Nat) (du : Array Int), k < ju ∧ ju ≤ b ∧ u = vi ju ∧ Hid (SoW w0 blk off d0 du wr ∧ shiftUp (ltOf cf) b ju du = shiftUp (ltOf cf) b (k + 1) D2)) (fun u _ => b - (intOf u).toNat)
                  case atStart => exact ⟨k + 1, D2, by omega, by omega, by first | rfl | go_num, Lib.hid ⟨SA23.out, rfl⟩⟩
                  case round =>
                    clear SA23
                    obtain ⟨wu, rfl⟩ : ∃ wj : World, wj = wr := ⟨_, rfl⟩
                    obtain ⟨ju, du, hkj, hjb, rfl, HJ⟩ := hrel
                    have HU := Lib.hid HJ.out.2
                    have SU := Lib.hid HJ.out.1
                    clear HJ
                    by_cases hub2 : ju < b
                    · have r1 : decide ((ju : Int) < (b : Int)) = true := decide_eq_true (by omega)
                      have r2 : (ju : Int) < (b : Int) := by omega
                      obtain ⟨up_, hup_⟩ : ∃ q, q + 1 = ju := ⟨ju - 1, by omega⟩
                      have eup_ : ju - 1 = up_ := by omega
                      have wup_ : IntKind.i64.wrap ((ju : Int) - 1) = (up_ : Int) := by rw [IntWalk.i64_in _ (by omega)]; omega
                      obtain ⟨jn, hjn⟩ : ∃ q, ju + 1 = q := ⟨_, rfl⟩
                      have wjn : IntKind.i64.wrap ((ju : Int) + 1) = (jn : Int) := by rw [IntWalk.i64_in _ (by omega)]; omega
                      have r3 : (ju : Int) < (d0.size : Int) := by omega
                      have r4 : (up_ : Int) < (d0.size : Int) := by omega
                      go_wp2_with fail
                      cases hlv : (ltOf cf) du[ju]! du[up_]! with
                      | true =>
                        have HN := Lib.hid (su1_go (lt := ltOf cf) (d := du) hub2 (by rw [eup_]; exact hlv))
                        rw [eup_, hjn] at HN
                        obtain ⟨x, hx⟩ : ∃ x, x = du[ju]! := ⟨_, rfl⟩
                        obtain ⟨y, hy⟩ : ∃ y, y = du[up_]! := ⟨_, rfl⟩
                        have la := SU.out.cl R (i := ju) (by omega)
                        have lb := SU.out.cl R (i := up_) (by omega)
                        rw [← hx] at la
                        rw [← hy] at lb
                        have hc := SU.out.cmp HC.out x y (by rw [hx]; exact SU.out.mem (by omega)) (by rw [hy]; exact SU.out.mem (by omega))
                        have hd : decide (cf x y < 0) = true := by rw [hx, hy]; exact hlv
                        have hv : cf x y < 0 := of_decide_eq_true hd
                        clear hx hy
                        go_wp2_with fail
                        go_quiet_grown (first | (go_at_fn g; refine Calls.grown_of (hc _ _)))
                        have SU2 := Lib.hid (SU.out.grown nq osq)
                        clear la lb hc hd hv
                        generalize grow (wu.drewN nq) osq = wu2 at SU2 ⊢
                        clear nq osq
                        go_wp2_with fail
                        have SU23 := Lib.hid (SU2.out.swp R (i := ju) (j := up_) (by omega) (by omega))
                        have ca := SU2.out.c1 R (i := ju) (by omega)
                        have cb2 := SU2.out.c1 R (i := up_) (by omega)
                        have fa := SU2.out.f1 R (i := ju) (by omega)
                        have fb := SU2.out.f1 R (i := up_) (by omega)
                        obtain ⟨ux, hux⟩ : ∃ x, x = du[ju]! := ⟨_, rfl⟩
                        obtain ⟨uy, huy⟩ : ∃ y, y = du[up_]! := ⟨_, rfl⟩
                        obtain ⟨u2, cc⟩ := SU2.out.c2 R (i := ju) (j := up_) (by omega) (by omega) (vi uy)
                        rw [← hux] at ca SU23
                        rw [← huy] at cb2 SU23
                        clear hux huy
                        go_wp2_with fail
                        go_big_region_o
                        clear ca cb2 fa fb cc
                        generalize ((wu2.setCell ⟨blk, off + ju, none⟩ (vi uy)).setCell ⟨blk, off + up_, none⟩ (vi ux)).drew = wu3 at SU23 ⊢
                        go_wp2_with fail
                        exact ⟨⟨jn, Sort.swp du ju up_, by omega, by omega, rfl, Lib.hid ⟨SU23.out, by rw [← HU.out, HN.out]⟩⟩, by simp only [intOf]; omega⟩
                      | false =>
                        have HN := Lib.hid (su1_stop (lt := ltOf cf) (b := b) (d := du) (j := ju) (Or.inr (by rw [eup_]; exact hlv)))
                        obtain ⟨x, hx⟩ : ∃ x, x = du[ju]! := ⟨_, rfl⟩
                        obtain ⟨y, hy⟩ : ∃ y, y = du[up_]! := ⟨_, rfl⟩
                        have la := SU.out.cl R (i := ju) (by omega)
                        have lb := SU.out.cl R (i := up_) (by omega)
                        rw [← hx] at la
                        rw [← hy] at lb
                        have hc := SU.out.cmp HC.out x y (by rw [hx]; exact SU.out.mem (by omega)) (by rw [hy]; exact SU.out.mem (by omega))
                        have hd : decide (cf x y < 0) = false := by rw [hx, hy]; exact hlv
                        have hv : ¬ cf x y < 0 := of_decide_eq_false hd
                        clear hx hy
                        go_wp2_with fail
                        go_quiet_grown (first | (go_at_fn g; refine Calls.grown_of (hc _ _)))
                        have SU2 := Lib.hid (SU.out.grown nq osq)
                        clear la lb hc hd hv
                        generalize grow (wu.drewN nq) osq = wu2 at SU2 ⊢
                        clear nq osq
                        have HZ := Lib.hid (pn_go (lt := ltOf cf) (s := s) HK.out hkne h50 HDn.out (show (if b - k ≥ 2 then shiftUp (ltOf cf) b (k + 1) D2 else D2) = du from by rw [if_pos hbk, ← HU.out, HN.out]))
                        go_wp2_with fail
                        exact ⟨⟨k, s1, du, by omega, by omega, by omega, rfl, rfl, Lib.hid ⟨SU2.out, by rw [← HO.out, hsub, HZ.out, hsub1]⟩⟩, by simp only [intOf]; omega⟩
                    · have r1 : decide ((ju : Int) < (b : Int)) = false := decide_eq_false (by omega)
                      have r2 : ¬ (ju : Int) < (b : Int) := by omega
                      have HN := Lib.hid (su1_stop (lt := ltOf cf) (b := b) (d := du) (j := ju) (Or.inl (by omega)))
                      have HZ := Lib.hid (pn_go (lt := ltOf cf) (s := s) HK.out hkne h50 HDn.out (show (if b - k ≥ 2 then shiftUp (ltOf cf) b (k + 1) D2 else D2) = du from by rw [if_pos hbk, ← HU.out, HN.out]))
                      go_wp2_with fail
                      exact ⟨⟨k, s1, du, by omega, by omega, by omega, rfl, rfl, Lib.hid ⟨SU.out, by rw [← HO.out, hsub, HZ.out, hsub1]⟩⟩, by simp only [intOf]; omega⟩
                · have q1 : decide ((2 : Int) ≤ ((b - k : Nat) : Int)) = false := decide_eq_false (by omega)
                  have q2 : ¬ (2 : Int) ≤ (b : Int) - (k : Int) := by omega
                  have q3 : ¬ (2 : Int) ≤ ((b - k : Nat) : Int) := by omega
                  have HZ := Lib.hid (pn_go (lt := ltOf cf) (s := s) HK.out hkne h50 HDn.out (show (if b - k ≥ 2 then shiftUp (ltOf cf) b (k + 1) D2 else D2) = D2 from by rw [if_neg hbk]))
                  go_wp2_with fail
                  exact ⟨⟨k, s1, D2, by omega, by omega, by omega, rfl, rfl, Lib.hid ⟨SA23.out, by rw [← HO.out, hsub, HZ.out, hsub1]⟩⟩, by simp only [intOf]; omega⟩
        · have k1 : decide ((k : Int) < (b : Int)) = false := decide_eq_false (by omega)
          have k2 : ¬ (k : Int) < (b : Int) := by omega
          have k5 : ((k : Int) == (b : Int)) = true := beq_iff_eq.2 (by omega)
          have HE := Lib.hid (pn_end (lt := ltOf cf) (a := a) (s := s) (show scanSorted (ltOf cf) dk b i = b from by rw [← HA.out, ss_stop (Or.inl (by omega))]; omega))
          go_wp2_with fail
          go_big_region_o
          have SA2 := Lib.hid SA.out.drew
          clear SA
          generalize wi.drew = w4 at SA2 ⊢
          go_wp2_with fail
          go_ret
          exact ⟨by rw [← HO.out, hsub, HE.out]; rfl, by rw [← HO.out, hsub, HE.out]; exact SA2.out⟩
    · have n1 : decide ((s0 : Int) < 5) = false := decide_eq_false (by omega)
      have n2 : ¬ (s0 : Int) < 5 := by omega
      have hsub : 5 - s0 = 0 := by omega
      go_wp2_with fail
      go_ret
      exact ⟨by rw [← HO.out, hsub]; rfl, by rw [← HO.out, hsub]; exact S0.out⟩
end Go.Proofs.YtnacoplokjdglaaGreat

namespace Go.Proofs.YtnacoplokjdglaaGreat
open Go.RowKit Go.Maps Go.Sort
attribute [local go_sem] Oper.semAt_some

set_option maxHeartbeats 16000000 in
set_option maxRecDepth 100000 in
theorem soPeq_call (cf : Int → Int → Int) (g : FuncId) (cb : Array Value) (blk off cap a b pv : Nat) (d0 d : Array Int) (w0 w : World)
    (eg : ∀ args w, (callFunc g args).run Tryz.prog w = .ok (.enter g args) w) (hC : CmpP g cb cf blk off d0 w0) (R : Row1 vi w0 blk off d0) (hS : SoW w0 blk off d0 d w) (hap : a ≤ pv) (hpb : pv < b) (hb : b ≤ d0.size) (hsz : d0.size < 4611686018427387904) :
    Calls Tryz.prog 111 #[.slice (some ⟨blk, off, none⟩) d0.size cap, vi a, vi b, vi pv, .func (.func g) #[] cb] w fun e w' => e = .returned (vi (partitionEqual (ltOf cf) d a b pv).1) ∧ SoW w0 blk off d0 (partitionEqual (ltOf cf) d a b pv).2 w' := by
  have HC := Lib.hid hC
  have HS := Lib.hid hS
  have mixed : Tryz.prog.follows .mixedOrders = true := by kernel_rfl
  clear hC hS
  obtain ⟨RR, hRR⟩ : ∃ r, partitionEqual (ltOf cf) d a b pv = r := ⟨_, rfl⟩
  rw [hRR]
  obtain ⟨a1, ha1⟩ : ∃ x, a + 1 = x := ⟨_, rfl⟩
  obtain ⟨b1, hb1⟩ : ∃ x, b - 1 = x := ⟨_, rfl⟩
  have HR := Lib.hid (show partEqLoop (ltOf cf) a a1 b1 (Sort.swp d a pv) = RR from by rw [← hRR, ← ha1, ← hb1]; rfl)
  have wa1 : IntKind.i64.wrap ((a : Int) + 1) = (a1 : Int) := by rw [IntWalk.i64_in _ (by omega)]; omega
  have wb1 : IntKind.i64.wrap ((b : Int) - 1) = (b1 : Int) := by rw [IntWalk.i64_in _ (by omega)]; omega
  have ba : (a : Int) < (d0.size : Int) := by omega
  have bp : (pv : Int) < (d0.size : Int) := by omega
  clear hRR
  go_enter Tryz.func111, Tryz.ntmps111
  go_upto_region 1 with fail
  have HS3 := Lib.hid (HS.out.swp R (i := a) (j := pv) (by omega) (by omega))
  have ca := HS.out.c1 R (i := a) (by omega)
  have cb2 := HS.out.c1 R (i := pv) (by omega)
  have fa := HS.out.f1 R (i := a) (by omega)
  have fb := HS.out.f1 R (i := pv) (by omega)
  obtain ⟨ux, hux⟩ : ∃ x, x = d[a]! := ⟨_, rfl⟩
  obtain ⟨uy, huy⟩ : ∃ y, y = d[pv]! := ⟨_, rfl⟩
  obtain ⟨u2, cc⟩ := HS.out.c2 R (i := a) (j := pv) (by omega) (by omega) (vi uy)
  rw [← hux] at ca HS3
  rw [← huy] at cb2 HS3
  clear hux huy
  go_wp2_with fail
  go_big_region_o
  clear ca cb2 fa fb cc
  generalize ((w.setCell ⟨blk, off + a, none⟩ (vi uy)).setCell ⟨blk, off + pv, none⟩ (vi ux)).drew = w3 at HS3 ⊢
  go_wp2_with fail
  go_loopw [11, 12] (fun u v wr => ∃ (i j : Nat) (dk : Array Int), a < i ∧ i ≤ b ∧ j < b ∧ i ≤ j + 2 ∧ u = vi i ∧ v = vi j ∧ Hid (SoW w0 blk off d0 dk wr ∧ partEqLoop (ltOf cf) a i j dk = RR)) (fun u v _ => (intOf v).toNat + 2 + b - (intOf u).toNat)
  case atStart => exact ⟨a1, b1, _, by omega, by omega, by omega, by omega, rfl, rfl, Lib.hid ⟨HS3.out, HR.out⟩⟩
  case round =>
    clear HS3 HR
    obtain ⟨wj, rfl⟩ : ∃ wj : World, wj = wr := ⟨_, rfl⟩
    obtain ⟨i, j, dk, hai, hib, hjb, hij, rfl, rfl, HJ⟩ := hrel
    have HO := Lib.hid HJ.out.2
    have S0 := Lib.hid HJ.out.1
    clear HJ
    go_wp2_with fail
    go_loopw [11] (fun u wr => ∃ i' : Nat, i ≤ i' ∧ i' ≤ j + 2 ∧ u = vi i' ∧ Hid (SoW w0 blk off d0 dk wr ∧ scanUp (fun x => !(ltOf cf) dk[a]! x) dk j i' = scanUp (fun x => !(ltOf cf) dk[a]! x) dk j i)) (fun u _ => j + 2 - (intOf u).toNat)
    case atStart => exact ⟨i, Nat.le_refl _, hij, rfl, Lib.hid ⟨S0.out, rfl⟩⟩
    case round =>
      clear S0
      obtain ⟨wi, rfl⟩ : ∃ wi : World, wi = wr := ⟨_, rfl⟩
      obtain ⟨x1, hx1, hx2, rfl, HJ⟩ := hrel
      have HA := Lib.hid HJ.out.2
      have SA := Lib.hid HJ.out.1
      clear HJ
      by_cases hle : x1 ≤ j
      · have k1 : decide ((x1 : Int) ≤ (j : Int)) = true := decide_eq_true (by omega)
        have k2 : (x1 : Int) ≤ (j : Int) := by omega
        have bi : (x1 : Int) < (d0.size : Int) := by omega
        cases hlv : (ltOf cf) dk[a]! dk[x1]! with
        | false =>
          have HN := Lib.hid (scanUp_go (p := fun x => !(ltOf cf) dk[a]! x) (d := dk) (j := j) (i := x1) hle (by simp [hlv]))
          obtain ⟨x2, hx3⟩ : ∃ x, x1 + 1 = x := ⟨_, rfl⟩
          rw [hx3] at HN
          have wx2 : IntKind.i64.wrap ((x1 : Int) + 1) = (x2 : Int) := by rw [IntWalk.i64_in _ (by omega)]; omega
          obtain ⟨x, hx⟩ : ∃ x, x = dk[a]! := ⟨_, rfl⟩
          obtain ⟨y, hy⟩ : ∃ y, y = dk[x1]! := ⟨_, rfl⟩
          have la := SA.out.cl R (i := a) (by omega)
          have lb := SA.out.cl R (i := x1) (by omega)
          rw [← hx] at la
          rw [← hy] at lb
          have hc := SA.out.cmp HC.out x y (by rw [hx]; exact SA.out.mem (by omega)) (by rw [hy]; exact SA.out.mem (by omega))
          have hd : decide (cf x y < 0) = false := by rw [hx, hy]; exact hlv
          have hv : ¬ cf x y < 0 := of_decide_eq_false hd
          clear hx hy
          go_wp2_with fail
          go_quiet_grown (first | (go_at_fn g; refine Calls.grown_of (hc _ _)))
          have SA2 := Lib.hid (SA.out.grown nq osq)
          clear la lb hc hd hv
          generalize grow (wi.drewN nq) osq = w4 at SA2 ⊢
          clear nq osq
          go_wp2_with fail
          exact ⟨⟨x2, by omega, by omega, rfl, Lib.hid ⟨SA2.out, by rw [← HA.out, HN.out]⟩⟩, by simp only [intOf]; omega⟩
        | true =>
          have HU := Lib.hid (show scanUp (fun x => !(ltOf cf) dk[a]! x) dk j i = x1 from by rw [← HA.out]; exact scanUp_stop (Or.inr (by simp [hlv])))
          obtain ⟨x, hx⟩ : ∃ x, x = dk[a]! := ⟨_, rfl⟩
          obtain ⟨y, hy⟩ : ∃ y, y = dk[x1]! := ⟨_, rfl⟩
          have la := SA.out.cl R (i := a) (by omega)
          have lb := SA.out.cl R (i := x1) (by omega)
          rw [← hx] at la
          rw [← hy] at lb
          have hc := SA.out.cmp HC.out x y (by rw [hx]; exact SA.out.mem (by omega)) (by rw [hy]; exact SA.out.mem (by omega))
          have hd : decide (cf x y < 0) = true := by rw [hx, hy]; exact hlv
          have hv : cf x y < 0 := of_decide_eq_true hd
          clear hx hy
          go_wp2_with fail
          go_quiet_grown (first | (go_at_fn g; refine Calls.grown_of (hc _ _)))
          have SA2 := Lib.hid (SA.out.grown nq osq)
          clear la lb hc hd hv
          generalize grow (wi.drewN nq) osq = w4 at SA2 ⊢
          clear nq osq
          go_wp2_with fail
          go_loopw [12] (fun u wr => ∃ j' : Nat, j' ≤ j ∧ x1 ≤ j' + 2 ∧ u = vi j' ∧ Hid (SoW w0 blk off d0 dk wr ∧ scanDown (fun x => (ltOf cf) dk[a]! x) dk x1 j' = scanDown (fun x => (ltOf cf) dk[a]! x) dk x1 j)) (fun u _ => (intOf u).toNat)
          case atStart => exact ⟨j, Nat.le_refl _, hx2, rfl, Lib.hid ⟨SA2.out, rfl⟩⟩
          case round =>
            clear SA2
            obtain ⟨wq, rfl⟩ : ∃ wq : World, wq = wr := ⟨_, rfl⟩
            obtain ⟨y1, hy1, hy2, rfl, HJ⟩ := hrel
            have HB := Lib.hid HJ.out.2
            have SB := Lib.hid HJ.out.1
            clear HJ
            by_cases hle2 : x1 ≤ y1
            · have l1 : decide ((x1 : Int) ≤ (y1 : Int)) = true := decide_eq_true (by omega)
              have l2 : (x1 : Int) ≤ (y1 : Int) := by omega
              have bj : (y1 : Int) < (d0.size : Int) := by omega
              cases hlv : (ltOf cf) dk[a]! dk[y1]! with
              | true =>
                have HN := Lib.hid (scanDown_go (p := fun x => (ltOf cf) dk[a]! x) (d := dk) (i := x1) (j := y1) (by omega) hle2 hlv)
                obtain ⟨y2, hy3⟩ : ∃ x, y1 - 1 = x := ⟨_, rfl⟩
                rw [hy3] at HN
                have wy2 : IntKind.i64.wrap ((y1 : Int) - 1) = (y2 : Int) := by rw [IntWalk.i64_in _ (by omega)]; omega
                obtain ⟨x, hx⟩ : ∃ x, x = dk[a]! := ⟨_, rfl⟩
                obtain ⟨y, hy⟩ : ∃ y, y = dk[y1]! := ⟨_, rfl⟩
                have la := SB.out.cl R (i := a) (by omega)
                have lb := SB.out.cl R (i := y1) (by omega)
                rw [← hx] at la
                rw [← hy] at lb
                have hc := SB.out.cmp HC.out x y (by rw [hx]; exact SB.out.mem (by omega)) (by rw [hy]; exact SB.out.mem (by omega))
                have hd : decide (cf x y < 0) = true := by rw [hx, hy]; exact hlv
                have hv : cf x y < 0 := of_decide_eq_true hd
                clear hx hy
                go_wp2_with fail
                go_quiet_grown (first | (go_at_fn g; refine Calls.grown_of (hc _ _)))
                have SB2 := Lib.hid (SB.out.grown nq osq)
                clear la lb hc hd hv
                generalize grow (wq.drewN nq) osq = w5 at SB2 ⊢
                clear nq osq
                go_wp2_with fail
                exact ⟨⟨y2, by omega, by omega, rfl, Lib.hid ⟨SB2.out, by rw [← HB.out, HN.out]⟩⟩, by simp only [intOf]; omega⟩
              | false =>
                have HD := Lib.hid (show scanDown (fun x => (ltOf cf) dk[a]! x) dk x1 j = y1 from by rw [← HB.out]; exact scanDown_stop (Or.inr hlv))
                obtain ⟨x, hx⟩ : ∃ x, x = dk[a]! := ⟨_, rfl⟩
                obtain ⟨y, hy⟩ : ∃ y, y = dk[y1]! := ⟨_, rfl⟩
                have la := SB.out.cl R (i := a) (by omega)
                have lb := SB.out.cl R (i := y1) (by omega)
                rw [← hx] at la
                rw [← hy] at lb
                have hc := SB.out.cmp HC.out x y (by rw [hx]; exact SB.out.mem (by omega)) (by rw [hy]; exact SB.out.mem (by omega))
                have hd : decide (cf x y < 0) = false := by rw [hx, hy]; exact hlv
                have hv : ¬ cf x y < 0 := of_decide_eq_false hd
                clear hx hy
                go_wp2_with fail
                go_quiet_grown (first | (go_at_fn g; refine Calls.grown_of (hc _ _)))
                have SB2 := Lib.hid (SB.out.grown nq osq)
                clear la lb hc hd hv
                generalize grow (wq.drewN nq) osq = w5 at SB2 ⊢
                clear nq osq
                by_cases hgt : y1 < x1
                · have g1 : decide ((y1 : Int) < (x1 : Int)) = true := decide_eq_true (by omega)
                  have g2 : (y1 : Int) < (x1 : Int) := by omega
                  have HE := Lib.hid (pe_end (lt := ltOf cf) HU.out HD.out hgt)
                  go_wp2_with fail
                  go_ret
                  exact ⟨by rw [← HO.out, HE.out]; rfl, by rw [← HO.out, HE.out]; exact SB2.out⟩
                · have g1 : decide ((y1 : Int) < (x1 : Int)) = false := decide_eq_false (by omega)
                  have g2 : ¬ (y1 : Int) < (x1 : Int) := by omega
                  have HE := Lib.hid (pe_go (lt := ltOf cf) HU.out HD.out hgt hx1 hy1 (by omega))
                  obtain ⟨x2, hx3⟩ : ∃ x, x1 + 1 = x := ⟨_, rfl⟩
                  obtain ⟨y2, hy3⟩ : ∃ x, y1 - 1 = x := ⟨_, rfl⟩
                  rw [hx3, hy3] at HE
                  have wx2 : IntKind.i64.wrap ((x1 : Int) + 1) = (x2 : Int) := by rw [IntWalk.i64_in _ (by omega)]; omega
                  have wy2 : IntKind.i64.wrap ((y1 : Int) - 1) = (y2 : Int) := by rw [IntWalk.i64_in _ (by omega)]; omega
                  have bx1 : (x1 : Int) < (d0.size : Int) := by omega
                  have by1 : (y1 : Int) < (d0.size : Int) := by omega
                  go_upto_region 8 with fail
                  have SB23 := Lib.hid (SB2.out.swp R (i := x1) (j := y1) (by omega) (by omega))
                  have ca := SB2.out.c1 R (i := x1) (by omega)
                  have cb2 := SB2.out.c1 R (i := y1) (by omega)
                  have fa := SB2.out.f1 R (i := x1) (by omega)
                  have fb := SB2.out.f1 R (i := y1) (by omega)
                  obtain ⟨ux, hux⟩ : ∃ x, x = dk[x1]! := ⟨_, rfl⟩
                  obtain ⟨uy, huy⟩ : ∃ y, y = dk[y1]! := ⟨_, rfl⟩
                  obtain ⟨u2, cc⟩ := SB2.out.c2 R (i := x1) (j := y1) (by omega) (by omega) (vi uy)
                  rw [← hux] at ca SB23
                  rw [← huy] at cb2 SB23
                  clear hux huy
                  go_wp2_with fail
                  go_big_region_o
                  clear ca cb2 fa fb cc
                  generalize ((w5.setCell ⟨blk, off + x1, none⟩ (vi uy)).setCell ⟨blk, off + y1, none⟩ (vi ux)).drew = w9 at SB23 ⊢
                  go_wp2_with fail
                  exact ⟨⟨x2, y2, Sort.swp dk x1 y1, by omega, by omega, by omega, by omega, rfl, rfl, Lib.hid ⟨SB23.out, by rw [← HO.out, HE.out]⟩⟩, by simp only [intOf]; omega⟩
            · have l1 : decide ((x1 : Int) ≤ (y1 : Int)) = false := decide_eq_false (by omega)
              have l2 : ¬ (x1 : Int) ≤ (y1 : Int) := by omega
              have HD := Lib.hid (show scanDown (fun x => (ltOf cf) dk[a]! x) dk x1 j = y1 from by rw [← HB.out]; exact scanDown_stop (Or.inl (by omega)))
              go_wp2_with fail
              go_big_region_o
              have SB2 := Lib.hid SB.out.drew
              clear SB
              generalize wq.drew = w5 at SB2 ⊢
              have hgt : y1 < x1 := by omega
              have g1 : decide ((y1 : Int) < (x1 : Int)) = true := decide_eq_true (by omega)
              have g2 : (y1 : Int) < (x1 : Int) := by omega
              have HE := Lib.hid (pe_end (lt := ltOf cf) HU.out HD.out hgt)
              go_wp2_with fail
              go_ret
              exact ⟨by rw [← HO.out, HE.out]; rfl, by rw [← HO.out, HE.out]; exact SB2.out⟩
      · have k1 : decide ((x1 : Int) ≤ (j : Int)) = false := decide_eq_false (by omega)
        have k2 : ¬ (x1 : Int) ≤ (j : Int) := by omega
        have HU := Lib.hid (show scanUp (fun x => !(ltOf cf) dk[a]! x) dk j i = x1 from by rw [← HA.out]; exact scanUp_stop (Or.inl (by omega)))
        go_wp2_with fail
        go_big_region_o
        have SA2 := Lib.hid SA.out.drew
        clear SA
        generalize wi.drew = w4 at SA2 ⊢
        go_wp2_with fail
        go_loopw [12] (fun u wr => ∃ j' : Nat, j' ≤ j ∧ x1 ≤ j' + 2 ∧ u = vi j' ∧ Hid (SoW w0 blk off d0 dk wr ∧ scanDown (fun x => (ltOf cf) dk[a]! x) dk x1 j' = scanDown (fun x => (ltOf cf) dk[a]! x) dk x1 j)) (fun u _ => (intOf u).toNat)
        case atStart => exact ⟨j, Nat.le_refl _, hx2, rfl, Lib.hid ⟨SA2.out, rfl⟩⟩
        case round =>
          clear SA2
          obtain ⟨wq, rfl⟩ : ∃ wq : World, wq = wr := ⟨_, rfl⟩
          obtain ⟨y1, hy1, hy2, rfl, HJ⟩ := hrel
          have HB := Lib.hid HJ.out.2
          have SB := Lib.hid HJ.out.1
          clear HJ
          by_cases hle2 : x1 ≤ y1
          · exact absurd hle2 (by omega)
          · have l1 : decide ((x1 : Int) ≤ (y1 : Int)) = false := decide_eq_false (by omega)
            have l2 : ¬ (x1 : Int) ≤ (y1 : Int) := by omega
            have HD := Lib.hid (show scanDown (fun x => (ltOf cf) dk[a]! x) dk x1 j = y1 from by rw [← HB.out]; exact scanDown_stop (Or.inl (by omega)))
            go_wp2_with fail
            go_big_region_o
            have SB2 := Lib.hid SB.out.drew
            clear SB
            generalize wq.drew = w5 at SB2 ⊢
            have hgt : y1 < x1 := by omega
            have g1 : decide ((y1 : Int) < (x1 : Int)) = true := decide_eq_true (by omega)
            have g2 : (y1 : Int) < (x1 : Int) := by omega
            have HE := Lib.hid (pe_end (lt := ltOf cf) HU.out HD.out hgt)
            go_wp2_with fail
            go_ret
            exact ⟨by rw [← HO.out, HE.out]; rfl, by rw [← HO.out, HE.out]; exact SB2.out⟩
end Go.Proofs.YtnacoplokjdglaaGreat
