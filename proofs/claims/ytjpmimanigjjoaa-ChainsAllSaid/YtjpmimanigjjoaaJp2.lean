/- Texts of one proof, one behind the other: L9d. -/
import Derived.Test.YtjpmimanigjjoaaJo5
import Derived.Test.YtjpmimanigjjoaaJp1
import Derived.Test.YtjpmimanigjjoaaJo13
set_option linter.all false
/- The law ChainsAll: its walk. -/
namespace Go.Proofs.Ytjpmimanigjjoaa.chainsAll
open Go.RowKit Go.Maps

set_option maxRecDepth 100000 in
set_option maxHeartbeats 8000000 in
theorem walk (v u : Value) (es : List GEvent) (picks : List Int) (w : World) (hv : RdEvents w v es) (hu : RdInts w u picks) :
    Calls Try.prog 4 #[v, u] w fun e w' => e = .returned (.bool true) ∧ Below w.heap.size w w' := by
  have HV := Lib.hid hv
  have HU := Lib.hid hu
  obtain ⟨ua, ul, uc, rfl, rfl, hum, -⟩ := hu.at
  clear hv hu
  go_enter Try.func4, Try.ntmps4
  go_upto_region 4 with (first
    | (go_at_call 8; refine (head_call _).mono ?_; rintro e w1 ⟨rfl, hb1⟩; have HB1 := Lib.hid hb1; have HV1 := Lib.hid (HV.out.later hb1); clear hb1)
    | (go_at_call 9; refine (made_call _ es _ HV1.out).mono ?_; rintro e w2 ⟨v2, b, rfl, hg, hb2⟩))
  have HB2 := Lib.hid (HB1.out.trans (hb2.mono HB1.out.size))
  clear hb2
  cases b with
  | false =>
    go_wp2_with fail
    go_ret
    exact ⟨by rfl, HB2.out⟩
  | true =>
    obtain ⟨ts, hr, hgood⟩ := hg rfl
    have HR := Lib.hid hr
    have HG := Lib.hid hgood
    have HOK := Lib.hid hgood.ok
    have htl : ts.length ≤ 60 := hgood.len
    have hcl := choicesM_le ts (by omega)
    obtain ⟨ta, tl, tc, rfl, rfl, htm, -⟩ := hr.at
    clear hg hr hgood
    have hmkm := @run_makeMap Try.prog
    have HM0 := Lib.hid (show MapF (w2.alloc (.map #[] 0)) w2.heap.size [] from MapT.made w2)
    have HBm := Lib.hid ((Below.refl w2.heap.size w2).alloc (Nat.le_refl _) (.map #[] 0))
    have hwm : (w2.alloc (.map #[] 0)).heap.size = w2.heap.size + 1 := by simp
    go_upto_region 7 with fail
    clear hmkm
    generalize w2.alloc (.map #[] 0) = wm at *
    have HRm := Lib.hid (HR.out.later HBm.out)
    have HC0 := Lib.hid (choices_call _ ts wm HRm.out HOK.out (by omega))
    obtain ⟨n, hn⟩ : ∃ n, (choicesM ts).length = n := ⟨_, rfl⟩
    have HNC := Lib.hid hn
    rw [hn] at hcl
    have hn2 : n ≤ 4294967296 := by omega
    clear hn hcl
    go_wp2_with (go_at_call 15; refine HC0.out.mono ?_; rintro e w3 ⟨v3, rfl, ho3, hb3⟩; have HC3 := Lib.hid ho3.rd; obtain ⟨a3, len3, cap3, rfl, rfl, hm3, -⟩ := HC3.out.at; rw [HNC.out] at hm3 ⊢; have HB3 := Lib.hid hb3; clear hb3 ho3)
    have HRx := Lib.hid (HRm.out.later HB3.out)
    have HM3 := Lib.hid (HM0.out.below HB3.out HM0.out.lt)
    have HBw3 := Lib.hid (HB2.out.trans ((HBm.out.trans (HB3.out.mono HBm.out.size)).mono HB2.out.size))
    have HU3 := Lib.hid (HU.out.later HBw3.out)
    go_loopw [7, 9, 10, 11] (fun fv iv _ _ wr => ∃ (i mm : Nat) (L : FaL), i ≤ n ∧ fv = .map (some mm) ∧ iv = .int .i64 i ∧ Hid (MapF wr mm L ∧ saidN ts L = i ∧ Below w3.heap.size w3 wr)) (fun _ iv _ _ _ => n - (intOf iv).toNat)
    case atStart => exact ⟨0, _, [], Nat.zero_le _, rfl, rfl, Lib.hid ⟨HM3.out, said_nil ts, Below.refl _ _⟩⟩
    case round =>
      obtain ⟨wk, rfl⟩ : ∃ wk : World, wk = wr := ⟨_, rfl⟩
      obtain ⟨i, mm, L, hi, rfl, rfl, HJ⟩ := hrel
      have HM := Lib.hid HJ.out.1
      have HSN := Lib.hid HJ.out.2.1
      have HBk := Lib.hid HJ.out.2.2
      clear HJ
      have HRk := Lib.hid (HRx.out.later HBk.out)
      cases hx : nextM ts L with
      | some c =>
        have HX := Lib.hid hx
        obtain ⟨hcm, hcn⟩ := nextM_some hx
        have HSM := Lib.hid ((choicesM_ok hcm).small (by omega))
        have HCN := Lib.hid hcn
        have HNL := Lib.hid (fun (H : FaL) (so : Bool) (hH : ∀ d, getM H d = if c = d then some so else getM L d) => said_next hx hH)
        have hin : i < n := by
          have := (said_next (H := putM L c true) (so := true) hx (fun d => getM_put L c d true)).2
          rw [HSN.out, HNC.out] at this
          exact this
        have HCV := Lib.hid (show ∀ (W : World) (e : Ending) (W' : World), NextQ (nextM ts L) W e W' → e = .returned (.tuple #[chK c, .bool true]) ∧ Below W.heap.size W W' from fun W e W' h => by rw [hx] at h; exact h)
        have wi1 : IntKind.i64.wrap ((i : Int) + 1) = ((i + 1 : Nat) : Int) := by rw [IntWalk.i64_in _ (by omega)]; omega
        have g1 : decide ((n : Int) ≤ (i : Int)) = false := decide_eq_false (by omega)
        have g2 : ¬ (n : Int) ≤ (i : Int) := by omega
        clear hx hcm hcn
        go_upto_region 14 with (go_at_call 16; refine (next_call _ ts mm L _ HRk.out HOK.out (by omega) HM.out).mono ?_; intro e w4 hq; obtain ⟨rfl, hb4⟩ := HCV.out _ _ _ hq; have HB4 := Lib.hid hb4; clear hq hb4)
        have HBo := Lib.hid ((Below.refl w4.heap.size w4).alloc (Nat.le_refl _) (.cells #[vi c.kind, vi c.key, vi c.a, vi c.b] 43))
        have HXo := Lib.hid (alloc_at w4 (.cells #[vi c.kind, vi c.key, vi c.a, vi c.b] 43))
        have hwo : (w4.alloc (.cells #[vi c.kind, vi c.key, vi c.a, vi c.b] 43)).heap.size = w4.heap.size + 1 := by simp
        generalize w4.alloc (.cells #[vi c.kind, vi c.key, vi c.a, vi c.b] 43) = wo at *
        have HBko := Lib.hid (HB4.out.trans (HBo.out.mono HB4.out.size))
        have HMo := Lib.hid (HM.out.below HBko.out HM.out.lt)
        have HUo := Lib.hid (HU3.out.later (HBk.out.trans (HBko.out.mono HBk.out.size)))
        have q0 : wo.cell? ⟨w4.heap.size, 0, none⟩ = some (vi c.kind) := by rw [cell_of HXo.out]; rfl
        have q1 : wo.cell? ⟨w4.heap.size, 1, none⟩ = some (vi c.key) := by rw [cell_of HXo.out]; rfl
        have q2 : wo.cell? ⟨w4.heap.size, 2, none⟩ = some (vi c.a) := by rw [cell_of HXo.out]; rfl
        have q3 : wo.cell? ⟨w4.heap.size, 3, none⟩ = some (vi c.b) := by rw [cell_of HXo.out]; rfl
        have HWC := Lib.hid (fun so => with_call mm L c so wo.drew (HMo.out.frame rfl) HSM.out HCN.out)
        by_cases hp : i < picks.length
        · obtain ⟨x, hpx⟩ := some_at hp
          obtain ⟨_, _, _, e5, -, -, hul⟩ := HUo.out.at
          cases e5
          obtain ⟨pb, po, rfl, x0, hxi⟩ := hul i x hpx
          have hpI : (i : Int) < (picks.length : Int) := by omega
          clear hul hpx
          go_still_tail 14, (by kernel_rfl)
          change wpList _ _ _ _ _ wo.drew
          go_wp2_with (go_at_call 17; refine (HWC.out _).mono ?_; rintro e w5 ⟨H, mh, rfl, hmh, hMH, hget, hHl, hb5⟩)
          have hbb : Below w3.heap.size w3 w5 := (HBk.out.trans (HBko.out.mono HBk.out.size)).drew.trans (hb5.mono (HBk.out.trans (HBko.out.mono HBk.out.size)).size)
          have hs2 : saidN ts H = i + 1 := by rw [(HNL.out _ _ hget).1, HSN.out]
          refine ⟨⟨i + 1, mh, H, by omega, rfl, rfl, Lib.hid ?_⟩, ?_⟩
          · exact ⟨hMH, hs2, hbb⟩
          · simp only [intOf]; omega
        · have hpI : ¬ (i : Int) < (picks.length : Int) := by omega
          go_still_tail 14, (by kernel_rfl)
          change wpList _ _ _ _ _ wo.drew
          go_wp2_with (go_at_call 17; refine (HWC.out _).mono ?_; rintro e w5 ⟨H, mh, rfl, hmh, hMH, hget, hHl, hb5⟩)
          have hbb : Below w3.heap.size w3 w5 := (HBk.out.trans (HBko.out.mono HBk.out.size)).drew.trans (hb5.mono (HBk.out.trans (HBko.out.mono HBk.out.size)).size)
          have hs2 : saidN ts H = i + 1 := by rw [(HNL.out _ _ hget).1, HSN.out]
          refine ⟨⟨i + 1, mh, H, by omega, rfl, rfl, Lib.hid ?_⟩, ?_⟩
          · exact ⟨hMH, hs2, hbb⟩
          · simp only [intOf]; omega
      | none =>
        have HKN := Lib.hid (fun k (hk : k < ts.length) => none_known HG.out hx hk)
        obtain ⟨c, hcz⟩ : ∃ c, c = zeroC := ⟨_, rfl⟩
        have HCV := Lib.hid (show ∀ (W : World) (e : Ending) (W' : World), NextQ (nextM ts L) W e W' → e = .returned (.tuple #[chK c, .bool false]) ∧ Below W.heap.size W W' from fun W e W' h => by rw [hx] at h; rw [hcz]; exact h)
        clear hx hcz
        go_upto_region 15 with (go_at_call 16; refine (next_call _ ts mm L _ HRk.out HOK.out (by omega) HM.out).mono ?_; intro e w4 hq; obtain ⟨rfl, hb4⟩ := HCV.out _ _ _ hq; have HB4 := Lib.hid hb4; clear hq hb4)
        have HBko := Lib.hid (HB4.out.alloc HB4.out.size (.cells #[vi c.kind, vi c.key, vi c.a, vi c.b] 43))
        generalize w4.alloc (.cells #[vi c.kind, vi c.key, vi c.a, vi c.b] 43) = wo at *
        have HMo := Lib.hid (HM.out.below HBko.out HM.out.lt)
        have HRo := Lib.hid (HRk.out.later HBko.out)
        have HBz := Lib.hid (HBw3.out.trans ((HBk.out.trans (HBko.out.mono HBk.out.size)).mono HBw3.out.size))
        clear HBk HBko HB4 HBm HB3
        go_wp2_with fail
        go_loopw [12, 13, 14, 65] (fun _ _ _ kv wr => ∃ k : Nat, k ≤ ts.length ∧ kv = .int .i64 k ∧ Below wo.heap.size wo wr) (fun _ _ _ kv _ => ts.length - (intOf kv).toNat)
        case atStart => exact ⟨0, Nat.zero_le _, rfl, Below.refl _ _⟩
        case round =>
          obtain ⟨wq, rfl⟩ : ∃ wk : World, wk = wr := ⟨_, rfl⟩
          obtain ⟨k, hk, rfl, hb⟩ := hrel
          have HBq := Lib.hid hb
          have HMq := Lib.hid (HMo.out.below hb HMo.out.lt)
          have HRq := Lib.hid (HRo.out.later hb)
          clear hb
          by_cases hlt : k < ts.length
          · have wk1 : IntKind.i64.wrap ((k : Int) + 1) = ((k + 1 : Nat) : Int) := by rw [IntWalk.i64_in _ (by omega)]; omega
            have HI := Lib.hid (Is_call _ ts mm L k _ HRq.out HOK.out (by omega) HMq.out hlt)
            rw [HKN.out k hlt] at HI
            go_wp2_with (go_at_call 18; refine HI.out.mono ?_; rintro e w5 ⟨rfl, hb5⟩)
            exact ⟨⟨k + 1, by omega, rfl, HBq.out.trans (hb5.mono HBq.out.size)⟩, by simp only [intOf]; omega⟩
          · obtain rfl : k = ts.length := by omega
            go_wp2_with fail
            go_loopw [15, 16, 17, 19, 20, 21, 93] (fun kv _ _ _ _ _ _ wr => ∃ key : Nat, key ≤ 16 ∧ kv = .int .i64 key ∧ Below wq.heap.size wq wr) (fun kv _ _ _ _ _ _ _ => 16 - (intOf kv).toNat)
            case atStart => exact ⟨0, by omega, rfl, Below.refl _ _⟩
            case round =>
              obtain ⟨wp, rfl⟩ : ∃ wk : World, wk = wr := ⟨_, rfl⟩
              obtain ⟨key, hkey, rfl, hb⟩ := hrel
              have HBp := Lib.hid hb
              have HMp := Lib.hid (HMq.out.below hb HMq.out.lt)
              have HRp := Lib.hid (HRq.out.later hb)
              clear hb
              by_cases h16 : key < 16
              · have k16 : (key : Int) < 16 := by omega
                have wk1 : IntKind.i64.wrap ((key : Int) + 1) = ((key + 1 : Nat) : Int) := by rw [IntWalk.i64_in _ (by omega)]; omega
                have HCC := Lib.hid (chain_call _ ts mm L key wp HRp.out HOK.out (by omega) HMp.out (by unfold i64; omega))
                obtain ⟨ob, hob⟩ : ∃ b, onceB L key (wrl ts L key) = b := ⟨_, rfl⟩
                have HWL := Lib.hid (fun x => @wrl_mem ts L key x)
                unfold ChainQ at HCC
                rw [hob] at HCC
                clear hob
                have hDl : (wrl ts L key).length ≤ ts.length := wrlK_le _ _ _ _
                generalize wrl ts L key = D at *
                cases ob with
                | false =>
                  go_wp2_with (go_at_call 11; refine HCC.out.mono ?_; rintro e w6 ⟨v6, E, rfl, ho6, hb6, -, -⟩; have HB6 := Lib.hid hb6; clear hb6)
                  exact ⟨⟨key + 1, by omega, rfl, HBp.out.trans (HB6.out.mono HBp.out.size)⟩, by simp only [intOf]; omega⟩
                | true =>
                  go_upto_region 27 with (go_at_call 11; refine HCC.out.mono ?_; rintro e w6 ⟨v6, E, rfl, ho6, hb6, hE, -⟩; have HB6 := Lib.hid hb6; have HO6 := Lib.hid ho6; have HE := Lib.hid ((hE rfl).1); clear hb6 ho6 hE)
                  obtain ⟨ea, ec, rfl, heg⟩ := own_shapeZ HO6.out
                  have HMe := Lib.hid (HMp.out.below HB6.out HMp.out.lt)
                  have HRe := Lib.hid (HRp.out.later HB6.out)
                  go_wp2_with fail
                  go_loopw [19, 20, 21, 93] (fun _ _ _ jv wr => ∃ j : Nat, j ≤ E.length ∧ jv = .int .i64 j ∧ Below w6.heap.size w6 wr) (fun _ _ _ jv _ => E.length - (intOf jv).toNat)
                  case atStart => exact ⟨0, Nat.zero_le _, rfl, Below.refl _ _⟩
                  case round =>
                    obtain ⟨wy, rfl⟩ : ∃ wk : World, wk = wr := ⟨_, rfl⟩
                    obtain ⟨j, hj, rfl, hb⟩ := hrel
                    have HBy := Lib.hid hb
                    have HMy := Lib.hid (HMe.out.below hb HMe.out.lt)
                    have HRy := Lib.hid (HRe.out.later hb)
                    clear hb
                    by_cases hjl : j < E.length
                    · obtain ⟨g, rfl, hg⟩ := heg (by omega)
                      obtain ⟨x, hx⟩ := some_at hjl
                      have hxc := cell_later HBy.out (World.ownsRow.cells HO6.out (g := g) rfl j (vi x) (by rw [viZ_map, List.getElem?_map, hx]; rfl))
                      rw [addr_add, Nat.zero_add] at hxc
                      obtain ⟨i2, hi2, rfl, hin⟩ := (HWL.out x).1 (HE.out.mem_iff.2 (List.mem_of_getElem? hx))
                      have hdone : (isM ts L i2).1 = true := by
                        unfold inW at hin
                        simp only [Bool.and_eq_true] at hin
                        exact hin.1
                      have HI := Lib.hid (Is_call _ ts mm L i2 _ HRy.out HOK.out (by omega) HMy.out hi2)
                      rw [hdone] at HI
                      have hjI : (j : Int) < (E.length : Int) := by omega
                      have hEl := (World.ownsRow.lt HO6.out g rfl)
                      have hEm : E.length ≤ 4294967296 := by
                        rw [← HE.out.length_eq]
                        omega
                      have wj1 : IntKind.i64.wrap ((j : Int) + 1) = ((j + 1 : Nat) : Int) := by rw [IntWalk.i64_in _ (by omega)]; omega
                      clear hx hin hdone
                      go_wp2_with (go_at_call 18; refine HI.out.mono ?_; rintro e w7 ⟨rfl, hb7⟩)
                      exact ⟨⟨j + 1, by omega, rfl, HBy.out.trans (hb7.mono HBy.out.size)⟩, by simp only [intOf]; omega⟩
                    · obtain rfl : j = E.length := by omega
                      go_wp2_with fail
                      exact ⟨⟨key + 1, by omega, rfl, HBp.out.trans ((HB6.out.trans (HBy.out.mono HB6.out.size)).mono HBp.out.size)⟩, by simp only [intOf]; omega⟩
              · obtain rfl : key = 16 := by omega
                go_wp2_with fail
                go_ret
                exact ⟨by rfl, HBz.out.trans ((HBq.out.trans (HBp.out.mono HBq.out.size)).mono HBz.out.size)⟩
end Go.Proofs.Ytjpmimanigjjoaa.chainsAll
