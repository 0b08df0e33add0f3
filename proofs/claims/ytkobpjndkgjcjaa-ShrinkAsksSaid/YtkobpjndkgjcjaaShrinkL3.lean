/- The law ShrinkAsks answers true for every input: the walk through the law, over the contract of Less and the plain law on what is asked. No condition. -/
import Derived.Test.YtkobpjndkgjcjaaShrinkI
import Derived.Test.YtkobpjndkgjcjaaShrinkL1
namespace Go.Proofs.Ytkobpjndkgjcjaa.shrinkAsks
open Go.RowKit
set_option linter.unusedVariables false

set_option maxRecDepth 100000 in
set_option maxHeartbeats 2000000 in
theorem walk (v0 v2 : Value) (xs : List Int) (ans : List Bool) (bud : Int) (w : World) (h0 : RdI w v0 xs) (h2 : RdB w v2 ans) (h1 : bud ≤ 9223372036854775807) :
    Calls Try.prog 5 #[v0, .int .i64 bud, v2] w fun e w' => e = .returned (.bool true) ∧ Below w.heap.size w w' := by
  have HX := Lib.hid h0
  have HQ := Lib.hid h2
  obtain ⟨a0, l0, c0', rfl, rfl, -⟩ := h0.at
  obtain ⟨a2, l2, c2', rfl, rfl, -⟩ := h2.at
  clear h0 h2
  have hB2 : Below w.heap.size w ((w.alloc (.cells #[.slice a0 xs.length c0'] 22)).alloc (.cells #[.slice a2 ans.length c2'] 30)) := ((Below.refl _ _).alloc (Nat.le_refl _) _).alloc (by simp) _
  have c0 : ((w.alloc (.cells #[.slice a0 xs.length c0'] 22)).alloc (.cells #[.slice a2 ans.length c2'] 30)).cell? ⟨w.heap.size, 0, none⟩ = some (.slice a0 xs.length c0') := by
    rw [World.cell?_alloc_past _ _ _ (by simp), World.cell?_alloc_at _ _ _ _ rfl]; rfl
  have c1 : ((w.alloc (.cells #[.slice a0 xs.length c0'] 22)).alloc (.cells #[.slice a2 ans.length c2'] 30)).cell? ⟨w.heap.size + 1, 0, none⟩ = some (.slice a2 ans.length c2') := by
    rw [World.cell?_alloc_at _ _ _ _ (by simp)]; rfl
  go_enter Try.func5, Try.ntmps5
  go_wp2_with fail
  generalize ((w.alloc (.cells #[.slice a0 xs.length c0'] 22)).alloc (.cells #[.slice a2 ans.length c2'] 30)) = W at *
  refine (head_any W).mono ?_
  rintro e W1 ⟨rfl, hb1⟩
  have d0 := cell_later hb1 c0
  have d1 := cell_later hb1 c1
  have hb1' := hB2.trans (hb1.mono hB2.size)
  have HX1 := Lib.hid (HX.out.below hb1')
  have HQ1 := Lib.hid (RdB.later HQ.out hb1')
  have HB1 := Lib.hid hb1'
  clear hb1 hb1' c0 c1 hB2 HX HQ
  by_cases hc1 : 40 < xs.length
  · go_wp2
    go_ret
    exact ⟨rfl, HB1.out⟩
  · by_cases hc2 : 400 < ans.length
    · go_wp2
      go_ret
      exact ⟨rfl, HB1.out⟩
    · have hmf : ∀ (fn : Fn) (first cap : Array Value) (w : World), (Instr.makeFunc fn first cap).run Try.prog w = .ok (.func fn first cap) w := fun _ _ _ _ => rfl
      go_upto_region 5 with fail
      go_cut [1] (fun z wx => z = .int .i64 (min bud 500) ∧ wx = W1)
      case first =>
        by_cases hm : 500 < bud
        · have e : 500 = min bud 500 := by omega
          have E := Lib.hid e
          clear e
          go_wp2
          all_goals (go_meet; exact ⟨by rw [← E.out], rfl⟩)
        · have e : bud = min bud 500 := by omega
          have E := Lib.hid e
          clear e
          go_wp2
          all_goals (go_meet; exact ⟨by rw [← E.out], rfl⟩)
      case rest =>
        obtain ⟨rfl, rfl⟩ := hcut
        have hm1 : min bud 500 ≤ 500 := by omega
        generalize min bud 500 = m at *
        clear h1
        have hb3 : Below wc.heap.size wc ((wc.alloc (.cells #[.int .i64 0] 3)).alloc (.cells #[.bool false] 4)) := ((Below.refl _ _).alloc (Nat.le_refl _) _).alloc (by simp) _
        have hI : InvA ((wc.alloc (.cells #[.int .i64 0] 3)).alloc (.cells #[.bool false] 4)) (wc.heap.size + 1) wc.heap.size (0, (0, false)) ((wc.alloc (.cells #[.int .i64 0] 3)).alloc (.cells #[.bool false] 4)) := by
          refine ⟨rfl, ⟨by show (0 : Int) ≤ 0; omega, by show (0 : Int) ≤ 500; omega⟩, ?_, ?_, ?_, World.frozen?_alloc_at _ _ _ _ (by simp), rfl, rfl, rfl, Nat.le_refl _, fun _ _ _ _ => rfl⟩
          · rw [World.cell?_alloc_past _ _ _ (by simp), World.cell?_alloc_at _ _ _ _ rfl]; rfl
          · rw [World.cell?_alloc_at _ _ _ _ (by simp)]; rfl
          · rw [World.frozen?_alloc_past _ _ _ (by simp)]; exact World.frozen?_alloc_at _ _ _ _ rfl
        have hsz : ((wc.alloc (.cells #[.int .i64 0] 3)).alloc (.cells #[.bool false] 4)).heap.size = wc.heap.size + 2 := by simp
        have k0 := cell_later hb3 d0
        have k1 := cell_later hb3 d1
        have HSZ := Lib.hid hsz
        have HI := Lib.hid hI
        have HB3 := Lib.hid hb3
        clear hsz hI hb3
        go_wp2_with fail
        generalize (wc.alloc (.cells #[.int .i64 0] 3)).alloc (.cells #[.bool false] 4) = W0 at *
        refine (less_any _ _ _ xs m (0, false) _ (asks1_bad m hm1 wc W0 HB3.out _ _ xs ans _ _ (wc.heap.size + 1) wc.heap.size HX1.out HQ1.out d0 d1 (Nat.le_refl _) (by omega) (by have := HSZ.out; omega) (by have := HSZ.out; omega) (by omega)) (HX1.out.below HB3.out) (by omega) HI.out (by omega)).mono ?_
        obtain ⟨R, hR⟩ : ∃ R, lessM (stepA xs ans) m xs (0, false) = R := ⟨_, rfl⟩
        obtain ⟨p1, p2, p3, p4⟩ := lessM_asks xs ans m
        rw [hR] at p1 p2 p3 p4 ⊢
        clear hR
        obtain ⟨ys, n, s2⟩ := R
        simp only at p1 p2 p3 p4
        subst p2
        rintro e W3 ⟨v3, rfl, ho3, hI3⟩
        have hold := hI3.old HB3.out (Nat.le_refl _) (by omega)
        have ha := hI3.asked
        have hw := hI3.wrong
        have e0 := cell_later hold d0
        have HF := Lib.hid (HB1.out.trans (hold.mono HB1.out.size))
        obtain ⟨a3, l3, c3, rfl, rfl, -⟩ := ho3.rd.at
        have hlen := p1.length_le
        simp only at ha hw
        clear hold hI3 ho3 p1 d0 d1 k0 k1 HSZ HI HB3 HX1 HQ1 HB1
        go_wp2_with fail
        all_goals (go_ret; exact ⟨rfl, HF.out⟩)
end Go.Proofs.Ytkobpjndkgjcjaa.shrinkAsks
