/- Texts of one proof, one behind the other: Of, Made, DpMade, DpSm, DpBrk, RdEv, DpL3. -/
import Derived.Test.YtefpmcbpodlabaaJc13
import Derived.Test.YtefpmcbpodlabaaJc1
import Derived.Deep.Strs
import Derived.Test.YtefpmcbpodlabaaJc11
set_option linter.all false
/- crucibleref05.Of: when its error is 0, the transactions are good ones. -/
namespace Go.Proofs.Ytefpmcbpodlabaa
open Go.RowKit Go.Maps

/-- What crucibleref05.Of answers. -/
def OfQ (w : World) (r : Ending) (w' : World) : Prop := ∃ (v : Value) (p err : Int), r = .returned (.tuple #[v, .int .i64 p, .int .i64 err]) ∧ (err = 0 → ∃ ts, RdTxns w' v ts ∧ GoodTs ts) ∧ Below w.heap.size w w'
def OfQ2 (w : World) (r : Ending) (w' : World) : Prop := ∃ (v : Value) (p err : Int), r = .returned (.tuple #[v, .int .i64 p, .int .i64 err]) ∧ (err = 0 → ∃ ts, RdTxns w' v ts ∧ GoodTs ts) ∧ (∃ a n c, v = .slice a n c) ∧ Below w.heap.size w w'
theorem OfQ2.bad {w w' : World} {r : Ending} {p err : Int} (h : r = .returned (.tuple #[.slice none 0 0, .int .i64 p, .int .i64 err])) (he : err ≠ 0) (hb : Below w.heap.size w w') : OfQ2 w r w' := ⟨_, p, err, h, fun h => absurd h he, ⟨_, _, _, rfl⟩, hb⟩
theorem OfQ2.good {w w' : World} {r : Ending} {v : Value} {ts : List GTxn} (h : r = .returned (.tuple #[v, .int .i64 0, .int .i64 0])) (hr : RdTxns w' v ts) (hg : GoodTs ts) (hb : Below w.heap.size w w') : OfQ2 w r w' := ⟨v, 0, 0, h, fun _ => ⟨ts, hr, hg⟩, by obtain ⟨a, n, c, rfl, -⟩ := hr; exact ⟨_, _, _, rfl⟩, hb⟩

set_option maxRecDepth 100000 in
set_option maxHeartbeats 16000000 in
theorem of_call2 (v : Value) (es : List GEvent) (w : World) (hv : RdEvents w v es) (hes : es.length ≤ 60) :
    Calls Try.prog 37 #[v] w (OfQ2 w) := by
  have HV := Lib.hid hv
  obtain ⟨a, len, cap, rfl, rfl, hm, -⟩ := hv.at
  clear hv
  have hesI : ¬ (es.length : Int) > 400 := by omega
  have hO1 := World.ownsRow_lit (base := w.heap.size) (e := 46) (size := 3) w #[] 0 (Nat.le_refl _) (by simp [maxLen]) rfl
  have hO2 := World.ownsRow_lit (base := w.heap.size) (e := 3) (size := 1) (w.alloc (.cells #[] 46)) #[] 0 (by simp) (by simp [maxLen]) rfl
  have hS : OfS w (.slice (some ⟨w.heap.size, 0, none⟩) 0 0) (.slice (some ⟨w.heap.size + 1, 0, none⟩) 0 0) [] [] ((w.alloc (.cells #[] 46)).alloc (.cells #[] 3)) :=
    ⟨hO1.alloc _, (fun p hp => by cases hp), by simpa using hO2, ((Below.refl _ _).alloc (Nat.le_refl _) _).alloc (by simp) _⟩
  have HS0 := Lib.hid hS
  clear hO1 hO2 hS
  go_enter Try.func37, Try.ntmps37
  go_wp2_with fail
  go_loopw [5, 6, 7, 8, 9, 10, 11, 12, 20] (fun vo vf _ _ _ _ _ _ n wr => ∃ (i : Nat) (L : TxL) (F : List Nat), i ≤ es.length ∧ n = .int .i64 i ∧ OfS w vo vf L F wr ∧ OfInv es i (L.map (·.1)) F) (fun _ _ _ _ _ _ _ _ n _ => es.length - (intOf n).toNat)
  case atStart => exact ⟨0, [], [], Nat.zero_le _, rfl, HS0.out, OfInv.start es⟩
  case round =>
    obtain ⟨wi, rfl⟩ : ∃ wi : World, wi = wr := ⟨_, rfl⟩
    obtain ⟨i, L, F, hi, rfl, hs, hinv⟩ := hrel
    have HS := Lib.hid hs
    have HI := Lib.hid hinv
    have HB := Lib.hid hs.below
    have hwi := hs.below.size
    clear hs hinv
    by_cases hlt : i < es.length
    · obtain ⟨e, he⟩ := some_at hlt
      obtain ⟨_, _, _, e5, -, -, hcl⟩ := HV.out.at
      cases e5
      obtain ⟨b, off, oa, oc, rfl, hr, k0', k1', k2'⟩ := hcl i e he
      have k0 := cell_later HB.out k0'
      have k1 := cell_later HB.out k1'
      have k2 := cell_later HB.out k2'
      have hiI : (i : Int) < (es.length : Int) := by omega
      have hmo : e.ops.length ≤ 9223372036854775807 := by obtain ⟨_, _, _, _, _, h, _⟩ := hr.at; exact h
      have HE := Lib.hid he
      have HR := Lib.hid hr
      have HC := Lib.hid hcl
      clear hcl he hr k0' k1' k2'
      go_upto_region 8 with fail
      have HB1 := Lib.hid (HB.out.alloc hwi (.cells #[vi e.kind, vi e.client, .slice oa e.ops.length oc] 119))
      have HS1 := Lib.hid (HS.out.more (.cells #[vi e.kind, vi e.client, .slice oa e.ops.length oc] 119))
      have HX1 := Lib.hid (alloc_at wi (.cells #[vi e.kind, vi e.client, .slice oa e.ops.length oc] 119))
      have hw1 : (wi.alloc (.cells #[vi e.kind, vi e.client, .slice oa e.ops.length oc] 119)).heap.size = wi.heap.size + 1 := by simp
      have q0 : (wi.alloc (.cells #[vi e.kind, vi e.client, .slice oa e.ops.length oc] 119)).cell? ⟨wi.heap.size, 0, none⟩ = some (vi e.kind) := by rw [cell_of (alloc_at _ _)]; rfl
      have q1 : (wi.alloc (.cells #[vi e.kind, vi e.client, .slice oa e.ops.length oc] 119)).cell? ⟨wi.heap.size, 1, none⟩ = some (vi e.client) := by rw [cell_of (alloc_at _ _)]; rfl
      have q2 : (wi.alloc (.cells #[vi e.kind, vi e.client, .slice oa e.ops.length oc] 119)).cell? ⟨wi.heap.size, 2, none⟩ = some (.slice oa e.ops.length oc) := by rw [cell_of (alloc_at _ _)]; rfl
      have HR1 := Lib.hid (HR.out.later (HB1.out))
      clear k0 k1 k2
      generalize wi.alloc (.cells #[vi e.kind, vi e.client, .slice oa e.ops.length oc] 119) = w1 at *
      have hw1' : wi.heap.size < w1.heap.size := by omega
      go_cut [27] (fun r wx => (∃ b', r = .bool b' ∧ (b' = false → GoodEv e)) ∧ Below w1.heap.size w1 wx)
      case first =>
        go_wp2_with (go_at_call 66; refine (right_call e _ _ HR1.out).mono ?_; rintro r w2 ⟨b', rfl, hgood, hb2⟩)
        go_meet
        exact ⟨⟨_, rfl, fun h => hgood (by simpa using h)⟩, hb2⟩
      case rest =>
        obtain ⟨⟨b', rfl, hgood⟩, hb2⟩ := hcut
        cases b' with
        | true =>
          go_wp2_with fail
          go_ret3
          exact .bad rfl (by omega) (HB1.out.trans (hb2.mono HB1.out.size))
        | false =>
          have HG := Lib.hid (hgood rfl)
          have hol : e.ops.length ≤ 12 := HG.out.len
          have HB2 := Lib.hid hb2
          have hw2 := hb2.size
          have Q0 := Lib.hid q0
          have Q1 := Lib.hid q1
          have Q2 := Lib.hid q2
          clear hgood hb2 q0 q1 q2
          go_upto_region 11 with (go_at_call 67; refine (last_call _ es i _ (HV.out.later (HB1.out.trans (HB2.out.mono HB1.out.size))) hlt).mono ?_; rintro r w3 ⟨p, rfl, hp1, hp2, hb3⟩)
          have HB3 := Lib.hid (HB2.out.trans (hb3.mono hw2))
          have HBW := Lib.hid (HB1.out.trans (HB3.out.mono HB1.out.size))
          have hw3 := HB3.out.size
          have q0 := cell_later HB3.out Q0.out
          have q1 := cell_later HB3.out Q1.out
          have q2 := cell_later HB3.out Q2.out
          have hw13 : wi.heap.size < w3.heap.size := by omega
          have HX3 := Lib.hid (show w3.heap[wi.heap.size]? = some (.cells #[vi e.kind, vi e.client, .slice oa e.ops.length oc] 119) from (HB3.out.block _ hw1').trans HX1.out)
          have HS3 := Lib.hid (HS1.out.later HB3.out)
          have Q0' := Lib.hid q0
          have Q1' := Lib.hid q1
          have Q2' := Lib.hid q2
          clear hb3
          go_cut [10] (fun vo wx => (∃ bo, vo = .bool bo ∧ (bo = true → ∃ (q : Nat) (eq : GEvent), p = q ∧ q < i ∧ es[q]? = some eq ∧ eq.kind = 1)) ∧ wx = w3)
          case first =>
            by_cases hp : 0 ≤ p
            · obtain ⟨q, rfl⟩ := Int.eq_ofNat_of_zero_le hp
              have hqi : q < i := by omega
              have hqI : (q : Int) < (es.length : Int) := by omega
              obtain ⟨eq, heq⟩ := some_at (l := es) (k := q) (by omega)
              obtain ⟨_, _, _, _, e6, -, m0', -, -⟩ := HC.out q eq heq
              simp only [Option.some.injEq, Addr.mk.injEq, and_true] at e6
              obtain ⟨rfl, rfl⟩ := e6
              have m0 := cell_later HBW.out m0'
              clear m0'
              have HQ := Lib.hid heq
              clear heq
              by_cases h1 : eq.kind = 1
              · have c1 := beq_t h1
                have H1 := Lib.hid h1
                clear h1
                go_wp2_with fail
                go_meet
                exact ⟨⟨true, rfl, fun _ => ⟨q, eq, rfl, hqi, HQ.out, H1.out⟩⟩, rfl⟩
              · have c1 := beq_f h1
                clear h1
                go_wp2_with fail
                go_meet
                exact ⟨⟨false, rfl, fun h => by cases h⟩, rfl⟩
            · go_wp2_with fail
              go_meet
              exact ⟨⟨false, rfl, fun h => by cases h⟩, rfl⟩
          case rest =>
            obtain ⟨⟨bo, rfl, hk⟩, hwx⟩ := hcut
            replace hwx := hwx.symm
            subst hwx
            have HK := Lib.hid hk
            clear hk
            cases bo with
            | true =>
              by_cases h1 : e.kind = 1
              · have c1 := beq_t h1
                clear h1
                go_wp2_with fail
                go_ret3
                exact .bad rfl (by omega) HBW.out
              · have c1 := beq_f h1
                have H1 := Lib.hid h1
                clear h1
                go_upto_region 19 with fail
                obtain ⟨q, eq, hpq, hqi, hq, hk1⟩ := HK.out rfl
                subst hpq
                have HQ := Lib.hid hq
                have HQ1 := Lib.hid hk1
                have hFl : F.length ≤ i := HI.out.le
                have hLl : L.length = F.length := by have := HI.out.len; simpa using this
                obtain ⟨a5, c5, a6, c6, rfl, rfl⟩ := HS.out.shapes hLl
                have hqI : (q : Int) < (es.length : Int) := by omega
                obtain ⟨_, _, oa3, oc3, e6, hr3, -, -, m2'⟩ := HC.out q eq hq
                simp only [Option.some.injEq, Addr.mk.injEq, and_true] at e6
                obtain ⟨rfl, rfl⟩ := e6
                have m2 := cell_later HBW.out m2'
                have HR3 := Lib.hid (hr3.later HBW.out)
                have HRw := Lib.hid (HR.out.later HBW.out)
                clear hq hk1 hr3 m2'
                by_cases h2 : e.kind = 2
                · have c2 := beq_t h2
                  have c3 := bne_f h2
                  clear h2
                  go_upto_region 22 with fail
                  go_cut [11] (fun v wx => (∃ n : Int, v = .int .i64 n ∧ (n = 0 → eq.ops.length = e.ops.length ∧ ShapeN eq.ops e.ops e.ops.length)) ∧ Below w3.heap.size w3 wx)
                  case first =>
                    go_still_tail 7, (by kernel_rfl)
                    change wpList _ _ _ _ _ w3.drew
                    go_wp2_with (go_at_call 69; refine (answer_call _ _ eq.ops e.ops _ (HR3.out.later ((Below.refl _ _).drew)) (HRw.out.later ((Below.refl _ _).drew))).mono ?_; rintro r w4 ⟨n, rfl, hn, hb4⟩)
                    go_meet
                    exact ⟨⟨n, rfl, hn⟩, ((Below.refl w3.heap.size w3).drew).trans hb4⟩
                  case rest =>
                    obtain ⟨wx, rfl⟩ : ∃ wx : World, wx = wc := ⟨_, rfl⟩
                    obtain ⟨⟨n, rfl, hn⟩, hb4⟩ := hcut
                    have HB4 := Lib.hid hb4
                    have hw4 := hb4.size
                    clear hb4
                    by_cases hn0 : n = 0
                    · have HA := Lib.hid (hn hn0)
                      subst hn0
                      have HS4 := Lib.hid (HS3.out.later HB4.out)
                      have HX4 := Lib.hid ((HB4.out.block _ hw13).trans HX3.out)
                      clear hn q0 q1 q2 m2
                      go_wp2_with fail
                      go_loopw [12, 96] (fun _ n wr => ∃ (k : Nat) (L' : TxL), k ≤ F.length ∧ n = .int .i64 k ∧ L'.length = F.length ∧ OfS w (.slice a5 F.length c5) (.slice a6 F.length c6) L' F wr ∧ OfInv es (i + 1) (L'.map (·.1)) F ∧ wr.heap[wi.heap.size]? = some (.cells #[vi e.kind, vi e.client, .slice oa e.ops.length oc] 119)) (fun _ n _ => F.length - (intOf n).toNat)
                      case atStart => exact ⟨0, L, Nat.zero_le _, rfl, hLl, HS4.out, HI.out.over HE.out HG.out (fun h => absurd h H1.out), HX4.out⟩
                      case round =>
                        obtain ⟨wk, rfl⟩ : ∃ wk : World, wk = wr := ⟨_, rfl⟩
                        obtain ⟨k, L', hk, rfl, hl', hs, hinv, hbox⟩ := hrel
                        have HSk := Lib.hid hs
                        have HIk := Lib.hid hinv
                        have HXk := Lib.hid hbox
                        have HBk := Lib.hid hs.below
                        have hwk := hs.below.size
                        have hLI := Lib.hid hl'
                        clear hs hinv hbox hl'
                        by_cases hlk : k < F.length
                        · have hkI : (k : Int) < (F.length : Int) := by omega
                          obtain ⟨f, hf⟩ := some_at hlk
                          obtain ⟨p', hp'⟩ := some_at (l := L') (k := k) (by rw [hLI.out]; exact hlk)
                          obtain ⟨g, gf, rfl, rfl⟩ := HSk.out.shapes_at hLI.out (by omega)
                          have f0 := HSk.out.frm_at hf
                          have s1 := HSk.out.out_at hp' (i := 1) rfl
                          have s2 := HSk.out.out_at hp' (i := 2) rfl
                          have z1 := HSk.out.out_free hLI.out.symm (k * 3 + 1)
                          have q0 : wk.cell? ⟨wi.heap.size, 0, none⟩ = some (vi e.kind) := by rw [cell_of HXk.out]; rfl
                          have HF := Lib.hid hf
                          have HP := Lib.hid hp'
                          clear hf hp'
                          by_cases hfq : (f : Int) = (q : Int)
                          · have g1 := beq_t hfq
                            have HFQ := Lib.hid (show f = q by omega)
                            clear hfq
                            go_upto_region 30 with fail
                            have HSn := Lib.hid (HSk.out.set hLI.out.symm HP.out (i := 1) (p' := (⟨p'.1.client, 1, p'.1.ops⟩, p'.2)) (u := vi 1) (by decide) rfl (HSk.out.ops p' (List.mem_of_getElem? HP.out)))
                            have HXn := Lib.hid (HSk.out.box hLI.out.symm HXk.out (k * 3 + 1) (vi 1))
                            clear f0 s1 s2 z1 q0
                            generalize wk.setCell ⟨g, k * 3 + 1, none⟩ (vi 1) = wa at *
                            have HLn := Lib.hid (show (L'.set k (⟨p'.1.client, 1, p'.1.ops⟩, p'.2)).length = F.length by rw [List.length_set]; exact hLI.out)
                            have HPn := Lib.hid (show (L'.set k (⟨p'.1.client, 1, p'.1.ops⟩, p'.2))[k]? = some (⟨p'.1.client, 1, p'.1.ops⟩, p'.2) from List.getElem?_set_self (by rw [hLI.out]; exact hlk))
                            have hwa := HSn.out.below.size
                            have hwb : wi.heap.size < wa.heap.size := (Array.getElem?_eq_some_iff.1 HXn.out).1
                            have q2 : wa.cell? ⟨wi.heap.size, 2, none⟩ = some (.slice oa e.ops.length oc) := by rw [cell_of HXn.out]; rfl
                            have HRa := Lib.hid ((HR.out.later HSn.out.below).later ((Below.refl wa.heap.size wa).alloc (Nat.le_refl _) (.cells #[] 48)))
                            have HO := Lib.hid (World.ownsRow_lit (base := wa.heap.size) (e := 48) (size := 3) wa #[] 0 (Nat.le_refl _) (by simp [maxLen]) rfl)
                            have HBa := Lib.hid ((Below.refl wa.heap.size wa).alloc (Nat.le_refl _) (.cells #[] 48))
                            go_upto_region 31 with (at_builtin; refine wpList_append_src rfl _ _ 44 rfl eltOp wa.heap.size 0 [] HO.out rfl e.ops.length _ HRa.out.src rfl opV_one (by omega) (by omega) (by simp) ?_; intro v2 w5 hown2 hg2 _; have HO2 := Lib.hid (show OwOps wa.heap.size w5 v2 e.ops by simpa [OwOps] using hown2); have HB5 := Lib.hid (HBa.out.grown hg2 (by simp) (by simp [Value.ownBlock])); have hr2 := HO2.out.rd; obtain ⟨av, nv, cv, rfl, rfl, hmv, -⟩ := hr2.at; have HS5 := Lib.hid (HSn.out.later HB5.out); have s2 := HS5.out.out_at HPn.out (i := 2) rfl; have z2 := HS5.out.out_free HLn.out.symm (k * 3 + 2); clear hown2 hg2 hr2)
                            have HSz := Lib.hid (HS5.out.set HLn.out.symm HPn.out (i := 2) (p' := (⟨p'.1.client, 1, e.ops⟩, .slice av e.ops.length cv)) (u := .slice av e.ops.length cv) (by decide) rfl (own_mono HO2.out hwa))
                            have HX5 := Lib.hid ((HB5.out.block _ hwb).trans HXn.out)
                            have HXz := Lib.hid (HS5.out.box HLn.out.symm HX5.out (k * 3 + 2) (.slice av e.ops.length cv))
                            clear q2 s2 z2
                            generalize w5.setCell ⟨g, k * 3 + 2, none⟩ (.slice av e.ops.length cv) = wz at *
                            have f0 := HSz.out.frm_at HF.out
                            have q0 : wz.cell? ⟨wi.heap.size, 0, none⟩ = some (vi e.kind) := by rw [cell_of HXz.out]; rfl
                            go_wp2_with fail
                            go_roundw
                            case rel =>
                              refine ⟨k + 1, _, by omega, by go_num, by rw [List.length_set]; exact HLn.out, HSz.out, ?_, HXz.out⟩
                              rw [List.set_set, List.map_set]
                              exact HIk.out.set (e := eq) HF.out (by show (0 : Int) ≤ 1 ∧ (1 : Int) ≤ 2; omega) HG.out.ops HG.out.len (by rw [HFQ.out]; exact HQ.out) HQ1.out (HA.out).1 (HA.out).2
                            case measure => simp [intOf]; omega
                          · have g1 := beq_f hfq
                            clear hfq
                            go_wp2_with fail
                            go_roundw
                            case rel => exact ⟨k + 1, L', by omega, by go_num, hLI.out, HSk.out, HIk.out, HXk.out⟩
                            case measure => simp [intOf]; omega
                        · obtain rfl : k = F.length := by omega
                          go_wp2_with fail
                          go_roundw
                          case rel => exact ⟨i + 1, L', F, by omega, by go_num, HSk.out, HIk.out⟩
                          case measure => simp [intOf]; omega
                    · have d1 := bne_t hn0
                      have HN := Lib.hid hn0
                      clear hn hn0
                      go_wp2_with fail
                      go_ret3
                      exact .bad rfl HN.out (HBW.out.trans (HB4.out.mono HBW.out.size))
                · have c2 := beq_f h2
                  have c3 := bne_t h2
                  clear h2
                  by_cases hlen : (0 : Int) < (e.ops.length : Int)
                  · go_wp2_with fail
                    go_ret3
                    exact .bad rfl (by omega) HBW.out
                  · have HS4 := Lib.hid HS3.out
                    have HX4 := Lib.hid HX3.out
                    clear m2 q1
                    go_wp2_with fail
                    go_loopw [12, 96] (fun _ n wr => ∃ (k : Nat) (L' : TxL), k ≤ F.length ∧ n = .int .i64 k ∧ L'.length = F.length ∧ OfS w (.slice a5 F.length c5) (.slice a6 F.length c6) L' F wr ∧ OfInv es (i + 1) (L'.map (·.1)) F ∧ wr.heap[wi.heap.size]? = some (.cells #[vi e.kind, vi e.client, .slice oa e.ops.length oc] 119)) (fun _ n _ => F.length - (intOf n).toNat)
                    case atStart => exact ⟨0, L, Nat.zero_le _, rfl, hLl, HS4.out, HI.out.over HE.out HG.out (fun h => absurd h H1.out), HX4.out⟩
                    case round =>
                      obtain ⟨wk, rfl⟩ : ∃ wk : World, wk = wr := ⟨_, rfl⟩
                      obtain ⟨k, L', hk, rfl, hl', hs, hinv, hbox⟩ := hrel
                      have HSk := Lib.hid hs
                      have HIk := Lib.hid hinv
                      have HXk := Lib.hid hbox
                      have HBk := Lib.hid hs.below
                      have hwk := hs.below.size
                      have hLI := Lib.hid hl'
                      clear hs hinv hbox hl'
                      by_cases hlk : k < F.length
                      · have hkI : (k : Int) < (F.length : Int) := by omega
                        obtain ⟨f, hf⟩ := some_at hlk
                        obtain ⟨p', hp'⟩ := some_at (l := L') (k := k) (by rw [hLI.out]; exact hlk)
                        obtain ⟨g, gf, rfl, rfl⟩ := HSk.out.shapes_at hLI.out (by omega)
                        have f0 := HSk.out.frm_at hf
                        have s1 := HSk.out.out_at hp' (i := 1) rfl
                        have s2 := HSk.out.out_at hp' (i := 2) rfl
                        have z1 := HSk.out.out_free hLI.out.symm (k * 3 + 1)
                        have q0 : wk.cell? ⟨wi.heap.size, 0, none⟩ = some (vi e.kind) := by rw [cell_of HXk.out]; rfl
                        have HF := Lib.hid hf
                        have HP := Lib.hid hp'
                        clear hf hp'
                        by_cases hfq : (f : Int) = (q : Int)
                        · have g1 := beq_t hfq
                          clear hfq
                          by_cases h3 : e.kind = 3
                          · have g2 := beq_t h3
                            clear h3
                            go_upto_region 33 with fail
                            have HSn := Lib.hid (HSk.out.set hLI.out.symm HP.out (i := 1) (p' := (⟨p'.1.client, 2, p'.1.ops⟩, p'.2)) (u := vi 2) (by decide) rfl (HSk.out.ops p' (List.mem_of_getElem? HP.out)))
                            have HXn := Lib.hid (HSk.out.box hLI.out.symm HXk.out (k * 3 + 1) (vi 2))
                            generalize wk.setCell ⟨g, k * 3 + 1, none⟩ (vi 2) = wa at *
                            go_wp2_with fail
                            go_roundw
                            case rel => exact ⟨k + 1, _, by omega, by go_num, by rw [List.length_set]; exact hLI.out, HSn.out, by rw [List.map_set]; exact HIk.out.state (by simp [HP.out]) HF.out (by omega), HXn.out⟩
                            case measure => simp [intOf]; omega
                          · have g2 := beq_f h3
                            clear h3
                            go_wp2_with fail
                            go_roundw
                            case rel => exact ⟨k + 1, L', by omega, by go_num, hLI.out, HSk.out, HIk.out, HXk.out⟩
                            case measure => simp [intOf]; omega
                        · have g1 := beq_f hfq
                          clear hfq
                          go_wp2_with fail
                          go_roundw
                          case rel => exact ⟨k + 1, L', by omega, by go_num, hLI.out, HSk.out, HIk.out, HXk.out⟩
                          case measure => simp [intOf]; omega
                      · obtain rfl : k = F.length := by omega
                        go_wp2_with fail
                        go_roundw
                        case rel => exact ⟨i + 1, L', F, by omega, by go_num, HSk.out, HIk.out⟩
                        case measure => simp [intOf]; omega
            | false =>
              by_cases h1 : e.kind = 1
              · have c1 := beq_t h1
                have H1 := Lib.hid h1
                clear h1
                go_upto_region 15 with fail
                go_cut [53] (fun r wx => (∃ b', r = .bool b' ∧ (b' = false → FreshN es e.ops i e.ops.length)) ∧ Below w3.heap.size w3 wx)
                case first =>
                  go_wp2_with (go_at_call 68; refine (twice_call _ es i e _ (HV.out.later HBW.out) HE.out).mono ?_; rintro r w4 ⟨b', rfl, hfr, hb4⟩)
                  go_meet
                  exact ⟨⟨_, rfl, hfr⟩, hb4⟩
                case rest =>
                  obtain ⟨wx, rfl⟩ : ∃ wx : World, wx = wc := ⟨_, rfl⟩
                  obtain ⟨⟨b', rfl, hfr⟩, hb4⟩ := hcut
                  have HB4 := Lib.hid hb4
                  have hw4 := hb4.size
                  clear hb4
                  cases b' with
                  | true =>
                    go_wp2_with fail
                    go_ret3
                    exact .bad rfl (by omega) (HBW.out.trans (HB4.out.mono HBW.out.size))
                  | false =>
                    have HF := Lib.hid (hfr rfl)
                    clear hfr
                    go_upto_region 17 with fail
                    have hFl : F.length ≤ i := HI.out.le
                    have hLl : L.length = F.length := by have := HI.out.len; simpa using this
                    have q1 := cell_later HB4.out Q1'.out
                    have q2 := cell_later HB4.out Q2'.out
                    have hw14 : wi.heap.size < wx.heap.size := by omega
                    have HS4 := Lib.hid (HS3.out.later HB4.out)
                    have HBX := Lib.hid (HBW.out.trans (HB4.out.mono HBW.out.size))
                    have hwx := HBX.out.size
                    have HR4 := Lib.hid (HR.out.later HBX.out)
                    have HO := Lib.hid (show (wx.drew.alloc (.cells #[] 48)).ownsRow wx.heap.size 48 3 (.slice (some ⟨wx.heap.size, 0, none⟩) 0 0) 0 [] from World.ownsRow_lit wx.drew #[] 0 (Nat.le_refl _) (by simp [maxLen]) rfl)
                    go_cut [5] (fun vo wy => ∃ ov, OfS w vo u6 (L ++ [(⟨e.client, 0, e.ops⟩, ov)]) F wy)
                    case first =>
                      go_region_law (first
                        | (refine step_append_src rfl _ _ 44 rfl eltOp wx.heap.size 0 [] HO.out rfl e.ops.length _ (HR4.out.later (((Below.refl wx.heap.size wx).drew).alloc (Nat.le_refl _) _)).src rfl opV_one (by omega) (by omega) (by simp) ?_; intro v2 w5 hown2 hg2 _; have HO2 := Lib.hid (show OwOps wx.heap.size w5 v2 e.ops by simpa [OwOps] using hown2); have HB5 := Lib.hid (((((Below.refl wx.heap.size wx).drew).alloc (Nat.le_refl _) _).grown hg2 (by simp) (by simp [Value.ownBlock]))); have hr2 := HO2.out.rd; obtain ⟨a2, len2, cap2, rfl, rfl, hm2, -⟩ := hr2.at; have z1 := cell_later HB5.out q1; clear hown2 hg2 hr2)
                        | (refine step_append_src rfl _ _ 33 rfl eltTxn w.heap.size L.length _ ((HS4.out.later HB5.out).more _).out rfl 1 (txV (⟨e.client, 0, e.ops⟩, .slice a2 e.ops.length cap2)) (src_new rfl rfl) rfl (txV_one rfl) (by omega) (by omega) (by have := HB5.out.size; simp; omega) ?_; intro v3 w6 hown3 hg3 _; have HS6 := Lib.hid (((HS4.out.later HB5.out).more _).push hg3 hown3 ((own_mono HO2.out hwx).alloc _)); clear hown3 hg3))
                      all_goals
                        go_wp2
                        go_meet
                        exact ⟨_, HS6.out⟩
                    case rest =>
                      obtain ⟨ov, hs6⟩ := hcut
                      have HS6 := Lib.hid hs6
                      have hwy := hs6.below.size
                      clear hs6 q1 q2
                      go_wp2_with (at_builtin; refine wpList_append_src rfl _ _ 32 rfl eltInt w.heap.size F.length _ (HS6.out.more _).frm rfl 1 [vi (i : Int)] (src_new (cs := #[vi (i : Int)]) rfl rfl) rfl (one_vi _) (by omega) (by omega) (by simp; omega) ?_; intro v4 w7 hown4 hg4 _; have HS7 := Lib.hid ((HS6.out.more _).pushF hg4 hown4); clear hown4 hg4)
                      go_roundw
                      case rel => exact ⟨i + 1, _, _, by omega, by go_num, HS7.out, by simpa using HI.out.begun HE.out HG.out H1.out HF.out⟩
                      case measure => simp [intOf]; omega
              · have c1 := beq_f h1
                clear h1
                go_wp2_with fail
                go_ret3
                exact .bad rfl (by omega) HBW.out
    · obtain rfl : i = es.length := by omega
      go_wp2_with fail
      go_ret3
      exact .good rfl HS.out.rd (HI.out.good hes) HB.out
theorem of_call (v : Value) (es : List GEvent) (w : World) (hv : RdEvents w v es) (hes : es.length ≤ 60) :
    Calls Try.prog 37 #[v] w (OfQ w) := (of_call2 v es w hv hes).mono fun _ _ ⟨v, p, err, h1, h2, _, h3⟩ => ⟨v, p, err, h1, h2, h3⟩
end Go.Proofs.Ytefpmcbpodlabaa

/- cruciblelaw09.made: a history's transactions, when there are few enough. -/
namespace Go.Proofs.Ytefpmcbpodlabaa
open Go.RowKit Go.Maps

/-- What cruciblelaw09.made answers. -/
def MadeQ (w : World) (r : Ending) (w' : World) : Prop := ∃ (v : Value) (b : Bool), r = .returned (.tuple #[v, .bool b]) ∧ (b = true → ∃ ts, RdTxns w' v ts ∧ GoodTs ts) ∧ Below w.heap.size w w'
theorem MadeQ.no {w w' : World} {r : Ending} {v : Value} (h : r = .returned (.tuple #[v, .bool false])) (hb : Below w.heap.size w w') : MadeQ w r w' := ⟨v, false, h, (fun h => by cases h), hb⟩
theorem MadeQ.of {w w' : World} {r : Ending} {v : Value} {b : Bool} (h : r = .returned (.tuple #[v, .bool b])) (hg : b = true → ∃ ts, RdTxns w' v ts ∧ GoodTs ts) (hb : Below w.heap.size w w') : MadeQ w r w' := ⟨v, b, h, hg, hb⟩

set_option maxRecDepth 100000 in
set_option maxHeartbeats 1000000 in
theorem made_call (v : Value) (es : List GEvent) (w : World) (hv : RdEvents w v es) :
    Calls Try.prog 26 #[v] w (MadeQ w) := by
  have HV := Lib.hid hv
  obtain ⟨a, len, cap, rfl, rfl, hm, -⟩ := hv.at
  clear hv
  go_enter Try.func26, Try.ntmps26
  by_cases hlen : (es.length : Int) > 60
  · go_wp2_with fail
    go_ret2
    exact .no rfl (Below.refl _ _)
  · go_wp2_with (go_at_call 37; refine (of_call _ es _ HV.out (by omega)).mono ?_; rintro r w1 ⟨v1, p, err, rfl, hg, hb⟩)
    go_ret2
    exact .of rfl (fun h => hg (by simpa using h)) hb
end Go.Proofs.Ytefpmcbpodlabaa

/- cruciblelaw10.made: a history's transactions without flaws, when there are few enough. -/
namespace Go.Proofs.Ytefpmcbpodlabaa
open Go.RowKit Go.Maps

def Made10Q (w : World) (r : Ending) (w' : World) : Prop := ∃ (v : Value) (b : Bool), r = .returned (.tuple #[v, .bool b]) ∧ (b = true → ∃ ts, RdTxns w' v ts ∧ GoodTs ts ∧ flawsM ts = []) ∧ (∃ a n c, v = .slice a n c) ∧ Below w.heap.size w w'
theorem Made10Q.no {w w' : World} {r : Ending} {a : Option Addr} {n c : Nat} (h : r = .returned (.tuple #[.slice a n c, .bool false])) (hb : Below w.heap.size w w') : Made10Q w r w' := ⟨_, false, h, (fun h => by cases h), ⟨_, _, _, rfl⟩, hb⟩

set_option maxRecDepth 100000 in
set_option maxHeartbeats 1000000 in
theorem made10_call (v : Value) (es : List GEvent) (w : World) (hv : RdEvents w v es) :
    Calls Try.prog 14 #[v] w (Made10Q w) := by
  have HV := Lib.hid hv
  obtain ⟨a, len, cap, rfl, rfl, hm, -⟩ := hv.at
  clear hv
  go_enter Try.func14, Try.ntmps14
  by_cases hlen : (es.length : Int) > 40
  · go_wp2_with fail
    go_ret2
    exact .no rfl (Below.refl _ _)
  · go_upto_region 4 with (go_at_call 37; refine (of_call2 _ es _ HV.out (by omega)).mono ?_; rintro r w1 ⟨v1, p, err, rfl, hg, ⟨sa, sn, sc, rfl⟩, hb⟩; have HG := Lib.hid hg; have HB := Lib.hid hb; clear hg hb)
    by_cases he : err = 0
    · obtain ⟨ts, hr, hgood⟩ := HG.out he
      have HR := Lib.hid hr
      have HGD := Lib.hid hgood
      have d0 : (err == 0) = true := by simp [he]
      clear he hr hgood HG
      go_wp2_with (go_at_call 38; refine (flaws_call _ ts w1 HR.out HGD.out.ok (by have := HGD.out.len; omega)).mono ?_; rintro e2 w2 ⟨v2, rfl, ho2, hb2⟩; obtain ⟨a2, c2, rfl⟩ := Gr.own_shape ho2; have HB2 := Lib.hid hb2; clear ho2 hb2)
      go_ret2
      exact ⟨_, _, rfl, fun h => ⟨ts, HR.out.later HB2.out, HGD.out, List.length_eq_zero_iff.1 (by simpa using h)⟩, ⟨_, _, _, rfl⟩, HB.out.trans (HB2.out.mono HB.out.size)⟩
    · have d0 : (err == 0) = false := by simp [he]
      clear he
      go_wp2_with fail
      go_ret2
      exact .no rfl HB.out
end Go.Proofs.Ytefpmcbpodlabaa

/- How large a history and its facts are. -/
namespace Go.Proofs.Ytefpmcbpodlabaa
open Go.RowKit Go.Maps

def allC (n : Nat) : List GChoice := (List.range n).map (fun i : Nat => (⟨1, 0, (i : Int), 0⟩ : GChoice)) ++ (List.range 16).flatMap (fun k : Nat => (List.range n).flatMap (fun a : Nat => (List.range n).map (fun b : Nat => (⟨2, (k : Int), (a : Int), (b : Int)⟩ : GChoice))))
theorem allC_len (n : Nat) : (allC n).length = n + 16 * (n * n) := by
  unfold allC
  rw [List.length_append, sum_len _ (n * n) (fun k => sum_len _ n (fun a => by simp) n)]
  simp
theorem allC_mem {n : Nat} {c : GChoice} (h : OkCh n c) : c ∈ allC n := by
  obtain ⟨k, y, a, b⟩ := c
  have h1 := h.key; have h2 := h.a; have h3 := h.b; have h4 := h.kind
  simp only at h1 h2 h3 h4
  obtain ⟨y', rfl⟩ : ∃ m : Nat, y = m := ⟨y.toNat, by omega⟩
  obtain ⟨a', rfl⟩ : ∃ m : Nat, a = m := ⟨a.toNat, by omega⟩
  obtain ⟨b', rfl⟩ : ∃ m : Nat, b = m := ⟨b.toNat, by omega⟩
  unfold allC
  rcases h4 with ⟨rfl, h5, h6⟩ | ⟨rfl, h5⟩
  · refine List.mem_append_left _ (List.mem_map.2 ⟨a', List.mem_range.2 (by omega), ?_⟩)
    rw [h5, h6]
  · exact List.mem_append_right _ (List.mem_flatMap.2 ⟨y', List.mem_range.2 (by omega), List.mem_flatMap.2 ⟨a', List.mem_range.2 (by omega), List.mem_map.2 ⟨b', List.mem_range.2 (by omega), rfl⟩⟩⟩)
theorem choices_small (ts : List GTxn) : (choicesM ts).length ≤ ts.length + 16 * (ts.length * ts.length) := by
  rw [← allC_len]
  exact nodup_len _ _ (choicesM_nodup ts) (fun c hc => allC_mem (choicesM_ok hc))
theorem small_good {ts : List GTxn} {L : FaL} (h : GoodTs ts) (hL : L.length ≤ (choicesM ts).length + 1) : SmallH ts L 12 := by
  have h1 := h.len
  have h2 := choices_small ts
  have h3 := Nat.mul_le_mul h1 h1
  have h4 : L.length ≤ 57661 := by omega
  have h5 : ts.length * 12 ≤ 720 := by omega
  refine ⟨h1, fun t ht => (h.txn t ht).2.2, by omega, ?_⟩
  have h6 := Nat.mul_le_mul h1 (Nat.mul_le_mul_left 16 h5)
  have h7 := Nat.mul_le_mul h4 (Nat.add_le_add_left h5 1)
  omega
/-- Facts that name choices of a history, each once. -/
structure FaOk (ts : List GTxn) (L : FaL) : Prop where
  mem : ∀ p ∈ L, p.1 ∈ choicesM ts
  nd : (L.map (·.1)).Nodup
theorem FaOk.len {ts : List GTxn} {L : FaL} (h : FaOk ts L) : L.length ≤ (choicesM ts).length := by
  have := nodup_len (L.map (·.1)) (choicesM ts) h.nd (fun x hx => by obtain ⟨p, hp, rfl⟩ := List.mem_map.1 hx; exact h.mem p hp)
  simpa using this
theorem FaOk.pw {ts : List GTxn} {L : FaL} (h : FaOk ts L) : L.Pairwise (fun p q => p.1 ≠ q.1) := by
  have := h.nd
  rw [List.nodup_iff_pairwise_ne, List.pairwise_map] at this
  exact this
end Go.Proofs.Ytefpmcbpodlabaa

/- Is a level broken? The cycle and what goes round; more facts, another level. -/
namespace Go.Proofs.Ytefpmcbpodlabaa
open Go.RowKit Go.Maps

theorem Way.map {α β : Type} {r : α → α → Prop} {s : β → β → Prop} (f : α → β) (h : ∀ a b, r a b → s (f a) (f b)) {a b : α} (hw : Way r a b) : Way s (f a) (f b) := by
  induction hw with
  | one h1 => exact .one (h _ _ h1)
  | more h1 _ ih => exact .more (h _ _ h1) ih
theorem Rounds.map {α β : Type} {r : α → α → Prop} {s : β → β → Prop} (f : α → β) (h : ∀ a b, r a b → s (f a) (f b)) (hr : Rounds r) : Rounds s := by
  obtain ⟨a, hw⟩ := hr
  exact ⟨f a, hw.map f h⟩
theorem rounds_arcK {n : Nat} {l : List GEdge} (level : Int) (h : InN n l) : Rounds (ArcT (nextT n (liftL l level))) ↔ Rounds (ArcK l (level == 1)) := by
  constructor
  · exact Rounds.map (fun u : Nat => (u : Int)) (fun a b hab => (lift_mem l level _ _).1 (arcT_iff.1 hab).1)
  · refine Rounds.map Int.toNat (fun a b hab => ?_)
    have := (arcN_iff h level a b).2 hab
    obtain ⟨h1, h2, h3⟩ := this
    refine arcT_iff.2 ⟨?_, by omega, by omega⟩
    rw [show ((a.toNat : Nat) : Int) = a by omega, show ((b.toNat : Nat) : Int) = b by omega]
    exact h1
/-- The facts say a cycle that the level forbids. -/
def Brk (ts : List GTxn) (L : FaL) (level : Int) : Prop := ∃ l, EdgesOf ts L l ∧ Rounds (ArcK l (level == 1))
theorem brk_cyc {ts : List GTxn} {L : FaL} {level : Int} {l : List GEdge} {C : List Nat} (hn : ts.length ≤ 60) (he : EdgesOf ts L l) (hc : CycI (nextT (sizeM ts.length) (liftL l level)) (sizeM ts.length) C) : 0 < C.length ↔ Brk ts L level := by
  have hs : sizeM ts.length = ts.length := by unfold sizeM; rw [if_neg (by omega), if_neg (by omega)]; omega
  rw [hs] at hc
  have hl : (nextT ts.length (liftL l level)).length = ts.length := nextT_len _ _
  have hc' : CycI (nextT ts.length (liftL l level)) (nextT ts.length (liftL l level)).length C := by rw [hl]; exact hc
  have h1 := hc'.rounds
  rw [rounds_arcK level (edges_in he)] at h1
  constructor
  · intro h
    refine ⟨l, he, Classical.byContradiction fun hr => ?_⟩
    rw [h1.2 hr] at h
    simp at h
  · rintro ⟨l', he', hr⟩
    have : l' = l := edges_ext he'.1 he.1 (fun p => (he'.2 p).trans (he.2 p).symm)
    subst this
    rcases Nat.eq_zero_or_pos C.length with h0 | h0
    · exact absurd hr (h1.1 (List.length_eq_zero_iff.1 h0))
    · exact h0
theorem arcK_more {l l' : List GEdge} (h : ∀ e, e ∈ l → e ∈ l') (snap : Bool) (u v : Int) (ha : ArcK l snap u v) : ArcK l' snap u v := by
  rcases ha with ⟨e, he, h1, h2, h3⟩ | ⟨h0, e, he, h1, h2, g, hg, h3, h4, h5⟩
  · exact .inl ⟨e, h e he, h1, h2, h3⟩
  · exact .inr ⟨h0, e, h e he, h1, h2, g, h g hg, h3, h4, h5⟩
theorem arcK_serial {l : List GEdge} {u v : Int} {snap : Bool} (ha : ArcK l snap u v) : Way (ArcK l false) u v := by
  rcases ha with ⟨e, he, h1, h2, h3⟩ | ⟨h0, e, he, h1, h2, g, hg, h3, h4, h5⟩
  · exact .one (.inl ⟨e, he, .inl rfl, h2, h3⟩)
  · exact .more (b := e.t) (.inl ⟨e, he, .inl rfl, h2, rfl⟩) (.one (.inl ⟨g, hg, .inl rfl, h4, h5⟩))
theorem brk_serial {ts : List GTxn} {L : FaL} (h : Brk ts L 1) : Brk ts L 2 := by
  obtain ⟨l, he, hr⟩ := h
  exact ⟨l, he, hr.mono (fun a b hab => arcK_serial hab)⟩
theorem brk_more {ts : List GTxn} {L H : FaL} {l' : List GEdge} (hm : ∀ e, e ∈ edgeL ts L → e ∈ edgeL ts H) (he' : EdgesOf ts H l') {level : Int} (h : Brk ts L level) : Brk ts H level := by
  obtain ⟨l, he, hr⟩ := h
  exact ⟨l', he', hr.mono (fun a b hab => .one (arcK_more (fun e h1 => (he'.2 e).2 (hm e ((he.2 e).1 h1))) _ a b hab))⟩
/-- More facts: whoever is done stays done, each edge stays. -/
theorem dn_more {ts : List GTxn} {L H : FaL} (h : ∀ c b, getM L c = some b → getM H c = some b) (i : Nat) (hd : dnM ts L i = true) : dnM ts H i = true := by
  unfold dnM isM at *
  split at hd
  · rename_i hs; rw [if_pos hs]
  · rename_i hs
    rw [if_neg hs]
    split at hd
    · cases hd
    · rename_i h2
      rw [if_neg h2]
      simp only at hd ⊢
      cases hg : getM L ⟨1, 0, i, 0⟩ with
      | none => rw [hg] at hd; cases hd
      | some b => rw [h _ _ hg]; rw [hg] at hd; exact hd
theorem edge_more {ts : List GTxn} {L H : FaL} (hp : L.Pairwise (fun p q => p.1 ≠ q.1)) (h : ∀ c b, getM L c = some b → getM H c = some b) (e : GEdge) (he : e ∈ edgeL ts L) : e ∈ edgeL ts H := by
  have hr : ∀ r, r ∈ rdsL ts (dnM ts L) → r ∈ rdsL ts (dnM ts H) := fun r hr => by
    obtain ⟨i, t, o, h1, h2, h3, h4, h5⟩ := rds_mem.1 hr
    exact rds_mem.2 ⟨i, t, o, h1, h2, h3, h4.imp_right (dn_more h _), h5⟩
  have hm : ∀ c, hasM ts (dnM ts L) c = true → hasM ts (dnM ts H) c = true := fun c hc => by
    unfold hasM at *
    rw [Bool.and_eq_true, has1_iff, has1_iff] at *
    obtain ⟨⟨n, t, h1, h2, h3, h4⟩, ⟨m, u, h5, h6, h7, h8⟩⟩ := hc
    exact ⟨⟨n, t, h1, h2, dn_more h _ h3, h4⟩, ⟨m, u, h5, h6, dn_more h _ h7, h8⟩⟩
  rcases edge_mem.1 he with ⟨r, h1, h2, h3, h4⟩ | ⟨i, t, o, r, h1, h2, h3, h4, h5⟩ | ⟨p, h1, a, b, h2, h3, h4, h5⟩
  · exact edge_mem.2 (.inl ⟨r, hr r h1, h2, h3, h4⟩)
  · exact edge_mem.2 (.inr (.inl ⟨i, t, o, r, h1, dn_more h _ h2, h3, hr r h4, h5⟩))
  · refine edge_mem.2 (.inr (.inr ⟨p, getM_some (h _ _ (getM_of_mem hp h1)), a, b, h2, hm _ h3, h4, h5.imp_right ?_⟩))
    rintro ⟨r, h6, h7⟩
    exact ⟨r, hr r h6, h7⟩

def BrkQ (ts : List GTxn) (L : FaL) (level : Int) (w : World) (e : Ending) (w' : World) : Prop := ∃ (a : Option Addr) (n c : Nat), e = .returned (.slice a n c) ∧ (0 < n ↔ Brk ts L level) ∧ (∃ l, EdgesOf ts L l) ∧ Below w.heap.size w w'
theorem brokenB_call (v mv : Value) (ts : List GTxn) (L : FaL) (c : Nat) (level : Int) (w : World) (hv : RdTxns w v ts) (hok : OkTxns ts) (hm : FaV w mv L) (hs : SmallH ts L c) :
    Calls Try.prog 19 #[v, mv, vi level] w (BrkQ ts L level w) := by
  refine (broken_call v mv ts L c level w hv hok hm hs).mono ?_
  rintro e w' ⟨v', l, C, rfl, he, ho, hc, hb⟩
  obtain ⟨a, cp, rfl⟩ := Gr.own_shape ho
  exact ⟨a, C.length, cp, rfl, brk_cyc hs.len he hc, ⟨l, he⟩, hb⟩
end Go.Proofs.Ytefpmcbpodlabaa

/- From the row's own reading of an argument of type []api.Event to the readable slice. Names no function. -/
namespace Go.Proofs.Ytefpmcbpodlabaa
open Go.RowKit
open Go.ChangeShapes Go.WideShapes

section
variable {H : Type} {enc : TypeId × Value → H} {w : World} {spare : Nat → Bool} {held : Bool}

theorem int_cell {m : Nat} {c : Value} {y : DataW H × List MemPlace} (h : DataW.trod enc Try.prog w 0 spare held m 3 [c] = some y) : ∃ n, c = vi n := by
  obtain ⟨n, hc, -, -⟩ := DataW.trod_int Try.underlying3 h
  exact ⟨n, by simpa using hc⟩

theorem cells_int : Try.prog.cellsOf 3 = 1 := by kernel_rfl
theorem cells_op : Try.prog.cellsOf 48 = 3 := by kernel_rfl
theorem cells_ops : Try.prog.cellsOf 44 = 1 := by kernel_rfl
theorem cells_event : Try.prog.cellsOf 119 = 3 := by kernel_rfl

set_option maxRecDepth 100000 in
theorem op_cells {m : Nat} {cs : List Value} {y : DataW H × List MemPlace} (hl : cs.length = 3) (h : DataW.trod enc Try.prog w 0 spare held m 48 cs = some y) : ∃ o, EOp w cs o := by
  obtain ⟨y0, y1, y2, n, -, -, h0, h1, h2⟩ := Deep.trod_struct3 Try.underlying48 h
  match cs, hl with
  | [c0, c1, c2], _ =>
    dsimp only at h0 h1 h2
    rw [cells_int] at h0 h1 h2
    obtain ⟨a, rfl⟩ := int_cell h0
    obtain ⟨b, rfl⟩ := int_cell h1
    obtain ⟨c, rfl⟩ := int_cell h2
    exact ⟨⟨a, b, c⟩, rfl⟩

set_option maxRecDepth 100000 in
theorem ops_read {m : Nat} {v : Value} {y : DataW H × List MemPlace} (h : DataW.trod enc Try.prog w 0 spare held m 44 [v] = some y) : ∃ l, RdOps w v l :=
  rds_of_trod Try.underlying44 cells_op (by omega) h fun _ _ _ hl hy => op_cells hl hy

set_option maxRecDepth 100000 in
theorem event_cells {m : Nat} {cs : List Value} {y : DataW H × List MemPlace} (hl : cs.length = 3) (h : DataW.trod enc Try.prog w 0 spare held m 119 cs = some y) : ∃ e, EEvent w cs e := by
  obtain ⟨y0, y1, y2, n, -, -, h0, h1, h2⟩ := Deep.trod_struct3 Try.underlying119 h
  match cs, hl with
  | [c0, c1, c2], _ =>
    dsimp only at h0 h1 h2
    rw [cells_int] at h0 h1
    rw [cells_ops] at h2
    obtain ⟨a, rfl⟩ := int_cell h0
    obtain ⟨b, rfl⟩ := int_cell h1
    obtain ⟨l, hr⟩ := ops_read h2
    exact ⟨⟨a, b, l⟩, c2, rfl, hr⟩

set_option maxRecDepth 100000 in
theorem events_of_trod {v : Value} {d : DataW H} {ps : List MemPlace} (hv : ∃ a l c, v = .slice a l c) (h : DataW.Trod enc Try.prog w 0 spare held 31 v d ps) : ∃ es, RdEvents w v es := by
  obtain ⟨fuel, hf⟩ := h
  obtain ⟨a, l, c, rfl⟩ := hv
  exact rds_of_trod Try.underlying31 cells_event (by omega) hf fun _ _ _ hl hy => event_cells hl hy
end
set_option maxRecDepth 100000 in
theorem events_of_row {H : Type} {enc : TypeId × Value → H} {w : World} {spare : Nat → Bool} {held : Bool} {base : Nat} {v : Value} {d : DataW H} {ps : List MemPlace} (hk : Value.okWide Try.prog w .any base 31 v) (h : DataW.Trod enc Try.prog w 0 spare held 31 v d ps) : ∃ es, RdEvents w v es :=
  events_of_trod (okWide_slice Try.underlying31 hk) h
end Go.Proofs.Ytefpmcbpodlabaa

/- cruciblelaw10.DepsStays. -/
namespace Go.Proofs.Ytefpmcbpodlabaa.depsStays
open Go.RowKit Go.Maps Go.Proofs.Ytefpmcbpodlabaa
attribute [local go_sem] Oper.semAt_some

theorem next_open {ts : List GTxn} {L : FaL} {c : GChoice} (h : nextM ts L = some c) : c ∈ choicesM ts ∧ getM L c = none := by
  unfold nextM at h
  have h1 := List.mem_of_find?_eq_some h
  have h2 := List.find?_some h
  unfold openC at h2
  simp only [Bool.and_eq_true, Option.isNone_iff_eq_none] at h2
  exact ⟨h1, h2.1⟩

set_option maxRecDepth 100000 in
set_option maxHeartbeats 16000000 in
theorem walk (v u : Value) (so : Bool) (es : List GEvent) (picks : List Int) (w : World) (hv : RdEvents w v es) (hu : RdInts w u picks) :
    Calls Try.prog 8 #[v, u, .bool so] w fun e w' => e = .returned (.bool true) ∧ Below w.heap.size w w' := by
  have HV := Lib.hid hv
  have HU := Lib.hid hu
  clear hv hu
  go_enter Try.func8, Try.ntmps8
  go_upto_region 4 with (first
    | (go_at_call 12; refine (head10_call _).mono ?_; rintro e w1 ⟨rfl, hb1⟩; have HB1 := Lib.hid hb1; have HV1 := Lib.hid (HV.out.later hb1); clear hb1)
    | (go_at_call 14; refine (made10_call _ es _ HV1.out).mono ?_; rintro e w2 ⟨v2, b, rfl, hg, ⟨sa, sn, sc, rfl⟩, hb2⟩))
  have HB2 := Lib.hid (HB1.out.trans (hb2.mono HB1.out.size))
  clear hb2
  cases b with
  | false =>
    go_wp2_with fail
    go_ret
    exact ⟨by rfl, HB2.out⟩
  | true =>
    obtain ⟨ts, hr, hgood, -⟩ := hg rfl
    have HR := Lib.hid hr
    have HGD := Lib.hid hgood
    have HOK := Lib.hid hgood.ok
    have HUN := Lib.hid hgood.uniq
    have htl : ts.length ≤ 60 := hgood.len
    clear hg hr hgood
    go_upto_region 7 with (go_at_call 15; refine (some10_call _ _ ts picks _ HR.out HOK.out (by omega) HUN.out (HU.out.later HB2.out)).mono ?_; rintro e w3 ⟨L, m, sv, rfl, hm0, hM, hS, hkeys, hll, hmem, hb3⟩)
    have HMF := Lib.hid hM
    have HB3 := Lib.hid (HB2.out.trans (hb3.mono HB2.out.size))
    have HR3 := Lib.hid (HR.out.later hb3)
    have HFA := Lib.hid (show FaOk ts L from ⟨hmem, hkeys⟩)
    have HSM := Lib.hid (small_good (L := L) HGD.out (by omega))
    have HLL := Lib.hid hll
    obtain ⟨no, hno⟩ : ∃ no, no = nextM ts L := ⟨_, rfl⟩
    have HNO := Lib.hid hno
    clear hM hS hkeys hb3 hll hmem hm0 hno
    go_upto_region 8 with (go_at_call 23; refine (next_call _ ts m L w3 HR3.out HOK.out (by omega) HMF.out).mono ?_; rw [← HNO.out]; rintro e4 w4 ⟨rfl, hb4⟩; have HB4 := Lib.hid (HB3.out.trans (hb4.mono HB3.out.size)); have HR4 := Lib.hid (HR3.out.later hb4); have HM4 := Lib.hid (HMF.out.below hb4 HMF.out.lt); clear hb4)
    obtain ⟨c, hc⟩ : ∃ c, c = no.getD zeroC := ⟨_, rfl⟩
    have HC := Lib.hid hc
    rw [← hc]
    have HX5 := Lib.hid (alloc_at w4 (.cells #[vi c.kind, vi c.key, vi c.a, vi c.b] 57))
    have hbo := (Below.refl w4.heap.size w4).alloc (Nat.le_refl _) (.cells #[vi c.kind, vi c.key, vi c.a, vi c.b] 57)
    have HB5 := Lib.hid (HB4.out.trans (hbo.mono HB4.out.size))
    have HR5 := Lib.hid (HR4.out.later hbo)
    have HM5 := Lib.hid (HM4.out.below hbo HM4.out.lt)
    clear hc hbo
    generalize w4.alloc (.cells #[vi c.kind, vi c.key, vi c.a, vi c.b] 57) = w5 at *
    obtain ⟨cb, hcb⟩ : ∃ cb, cb = w4.heap.size := ⟨_, rfl⟩
    rw [← hcb] at HX5 ⊢
    clear hcb
    -- what Serial allows Snapshot does
    go_cut [53] (fun r wx => r = .bool false ∧ Hid (Below w5.heap.size w5 wx))
    case first =>
      by_cases hbr : Brk ts L 1
      · have HS2 := Lib.hid (brk_serial hbr)
        have HS1 := Lib.hid hbr
        clear hbr
        go_wp2_with (first
          | (go_at_call 19; ((with_reducible refine (brokenB_call _ _ ts L 12 2 w6 HR6.out HOK.out (FaV.of HM6.out) HSM.out).mono ?_); rintro e7 w7 ⟨a7, n7, c7, rfl, h7, -, hb7⟩; have hn7 := h7.2 HS2.out; have d7 : ((n7 : Int) == 0) = false := (by simp; omega); have HB7 := Lib.hid (HB6.out.trans (hb7.mono HB6.out.size)); clear h7 hb7))
          | (go_at_call 19; ((with_reducible refine (brokenB_call _ _ ts L 12 1 w5 HR5.out HOK.out (FaV.of HM5.out) HSM.out).mono ?_); rintro e6 w6 ⟨a6, n6, c6, rfl, h6, -, hb6⟩; have hn6 := h6.2 HS1.out; have d6 : decide ((0 : Int) < (n6 : Int)) = true := decide_eq_true (by omega); have HB6 := Lib.hid hb6; have HR6 := Lib.hid (HR5.out.later hb6); have HM6 := Lib.hid (HM5.out.below hb6 HM5.out.lt); clear h6 hb6)))
        go_meet
        exact ⟨rfl, Lib.hid HB7.out⟩
      · have HS1 := Lib.hid hbr
        clear hbr
        go_wp2_with (go_at_call 19; ((with_reducible refine (brokenB_call _ _ ts L 12 1 w5 HR5.out HOK.out (FaV.of HM5.out) HSM.out).mono ?_); rintro e6 w6 ⟨a6, n6, c6, rfl, h6, -, hb6⟩; obtain rfl : n6 = 0 := (by rcases Nat.eq_zero_or_pos n6 with h | h; exact h; exact absurd (h6.1 h) HS1.out); have HB6 := Lib.hid hb6; clear h6 hb6))
        go_meet
        exact ⟨rfl, Lib.hid HB6.out⟩
    case rest =>
    obtain ⟨wx, rfl⟩ : ∃ wx : World, wx = wc := ⟨_, rfl⟩
    obtain ⟨rfl, HBX⟩ := hcut
    have HB6 := Lib.hid (HB5.out.trans (HBX.out.mono HB5.out.size))
    have HR6 := Lib.hid (HR5.out.later HBX.out)
    have HM6 := Lib.hid (HM5.out.below HBX.out HM5.out.lt)
    have HX6 := Lib.hid ((HBX.out.block cb (Array.getElem?_eq_some_iff.1 HX5.out).1).trans HX5.out)
    cases no with
    | none =>
      go_wp2_with fail
      go_ret
      exact ⟨rfl, HB6.out⟩
    | some c' =>
      have hcc : c = c' := HC.out
      subst hcc
      have HNX := Lib.hid (next_open HNO.out.symm)
      have HSC := Lib.hid ((choicesM_ok HNX.out.1).small (by omega))
      have x0 : wx.cell? ⟨cb, 0, none⟩ = some (vi c.kind) := by rw [cell_of HX6.out]; rfl
      have x1 : wx.cell? ⟨cb, 1, none⟩ = some (vi c.key) := by rw [cell_of HX6.out]; rfl
      have x2 : wx.cell? ⟨cb, 2, none⟩ = some (vi c.a) := by rw [cell_of HX6.out]; rfl
      have x3 : wx.cell? ⟨cb, 3, none⟩ = some (vi c.b) := by rw [cell_of HX6.out]; rfl
      go_upto_region 13 with (go_at_call 24; refine (with_call m L c so wx HM6.out HSC.out HNX.out.2).mono ?_; rintro e7 w7 ⟨H, mh, rfl, -, hMH, hgH, hlH, hb7⟩; have HMH := Lib.hid hMH; have HGH := Lib.hid hgH; have HB7 := Lib.hid (HB6.out.trans (hb7.mono HB6.out.size)); have HR7 := Lib.hid (HR6.out.later hb7); have HM7 := Lib.hid (HM6.out.below hb7 HM6.out.lt); have HSH := Lib.hid (small_good (L := H) HGD.out (by have := HLL.out; omega)); clear hMH hgH hlH hb7)
      clear x0 x1 x2 x3
      have HMO := Lib.hid (show ∀ e, e ∈ edgeL ts L → e ∈ edgeL ts H from fun e he => edge_more HFA.out.pw (fun k b hk => by
        rw [HGH.out]
        split
        · rename_i hck
          subst hck
          rw [HNX.out.2] at hk
          cases hk
        · exact hk) e he)
      go_upto_region 14 with (go_at_call 16; refine (edges_call _ _ ts H 12 w7 HR7.out HOK.out (by omega) (FaV.of HMH.out) HSH.out.ops HSH.out.room).mono ?_; rintro e8 w8 ⟨v8, l8, rfl, ho8, he8, hb8⟩; have HE8 := Lib.hid he8; have HO8 := Lib.hid ho8.rd; have HB8 := Lib.hid (HB7.out.trans (hb8.mono HB7.out.size)); have HR8 := Lib.hid (HR7.out.later hb8); have HM8 := Lib.hid (HM7.out.below hb8 HM7.out.lt); have HMH8 := Lib.hid (HMH.out.below hb8 HMH.out.lt); clear ho8 he8 hb8)
      obtain ⟨a8, n8, c8, rfl, e9, hml8, -⟩ := HO8.out.at
      subst e9
      go_wp2_with (go_at_call 16; refine (edges_call _ _ ts L 12 w8 HR8.out HOK.out (by omega) (FaV.of HM8.out) HSM.out.ops HSM.out.room).mono ?_; rintro e9 w9 ⟨v9, l9, rfl, ho9, he9, hb9⟩; have HE9 := Lib.hid he9; have HO9 := Lib.hid ho9.rd; have HB9 := Lib.hid (HB8.out.trans (hb9.mono HB8.out.size)); have HR9 := Lib.hid (HR8.out.later hb9); have HM9 := Lib.hid (HM8.out.below hb9 HM8.out.lt); have HMH9 := Lib.hid (HMH8.out.below hb9 HMH8.out.lt); have HO89 := Lib.hid (HO8.out.later hb9); obtain ⟨a9, n9, c9, rfl, e10, hml9, -⟩ := HO9.out.at; subst e10; clear ho9 he9 hb9)
      go_loopw [67] (fun i wr => ∃ k : Nat, k ≤ l9.length ∧ i = .int .i64 k ∧ Hid (Below w9.heap.size w9 wr)) (fun i _ => l9.length - (intOf i).toNat)
      case atStart => exact ⟨0, Nat.zero_le _, rfl, Lib.hid (Below.refl _ _)⟩
      case round =>
        obtain ⟨wj, rfl⟩ : ∃ wj : World, wj = wr := ⟨_, rfl⟩
        obtain ⟨k, hk, rfl, HJ⟩ := hrel
        have HBJ := Lib.hid (HB9.out.trans (HJ.out.mono HB9.out.size))
        by_cases hlt : k < l9.length
        · have k1 : decide ((k : Int) < l9.length) = true := decide_eq_true (by omega)
          have k2 : (k : Int) < l9.length := by omega
          have hwk : IntKind.i64.wrap ((k : Int) + 1) = (k : Int) + 1 := IntWalk.i64_in _ (by omega)
          obtain ⟨e, he⟩ := some_at hlt
          obtain ⟨_, _, _, e5, -, -, hcl⟩ := (HO9.out.later HJ.out).at
          cases e5
          obtain ⟨b, off, rfl, y0, y1, y2⟩ := hcl k e he
          have HEM := Lib.hid (show e ∈ l8 from (HE8.out.2 e).2 (HMO.out e ((HE9.out.2 e).1 (List.mem_of_getElem? he))))
          have HX := Lib.hid (alloc_at wj (.cells #[vi e.f, vi e.t, vi e.k] 27))
          have HBA := Lib.hid (HJ.out.alloc HJ.out.size (.cells #[vi e.f, vi e.t, vi e.k] 27))
          clear hcl he
          go_wp2_with fail
          clear y0 y1 y2
          generalize wj.alloc (.cells #[vi e.f, vi e.t, vi e.k] 27) = wa at *
          obtain ⟨eb, heb⟩ : ∃ eb, eb = wj.heap.size := ⟨_, rfl⟩
          rw [← heb] at HX ⊢
          clear heb
          go_loopw [17, 73] (fun x i wr => ∃ j : Nat, j ≤ l8.length ∧ i = .int .i64 j ∧ x = .bool ((l8.take j).any (fun y => decide (y = e))) ∧ Hid (Below wa.heap.size wa wr)) (fun _ i _ => l8.length - (intOf i).toNat)
          case atStart => exact ⟨0, Nat.zero_le _, rfl, rfl, Lib.hid (Below.refl _ _)⟩
          case round =>
            obtain ⟨wq, rfl⟩ : ∃ wq : World, wq = wr := ⟨_, rfl⟩
            obtain ⟨j, hj, rfl, rfl, HQ⟩ := hrel
            have HBq := Lib.hid (HBA.out.trans (HQ.out.mono HBA.out.size))
            by_cases hltj : j < l8.length
            · have j1 : decide ((j : Int) < l8.length) = true := decide_eq_true (by omega)
              have j2 : (j : Int) < l8.length := by omega
              have hwj : IntKind.i64.wrap ((j : Int) + 1) = (j : Int) + 1 := IntWalk.i64_in _ (by omega)
              obtain ⟨g, hg⟩ := some_at hltj
              obtain ⟨_, _, _, e5, -, -, hcl⟩ := (HO89.out.later HBq.out).at
              cases e5
              obtain ⟨b', off', rfl, z0, z1, z2⟩ := hcl j g hg
              have HNY := Lib.hid (show (l8.take (j + 1)).any (fun y => decide (y = e)) = ((l8.take j).any (fun y => decide (y = e)) || decide (g = e)) from by rw [take_at hg, List.any_append]; simp)
              have hbg := (Below.refl wq.heap.size wq).alloc (Nat.le_refl _) (.cells #[vi g.f, vi g.t, vi g.k] 27)
              have HXg := Lib.hid (alloc_at wq (.cells #[vi g.f, vi g.t, vi g.k] 27))
              have HXe := Lib.hid ((hbg.block eb (Nat.lt_of_lt_of_le (Array.getElem?_eq_some_iff.1 HX.out).1 HQ.out.size)).trans ((HQ.out.block eb (Array.getElem?_eq_some_iff.1 HX.out).1).trans HX.out))
              have HQg := Lib.hid (HQ.out.alloc HQ.out.size (.cells #[vi g.f, vi g.t, vi g.k] 27))
              obtain ⟨fb, hfb⟩ : ∃ fb, fb = (l8.take j).any (fun y => decide (y = e)) := ⟨_, rfl⟩
              have HFB := Lib.hid hfb
              rw [← hfb]
              clear hcl hg hbg hfb
              go_upto_region 21 with fail
              clear z0 z1 z2
              generalize wq.alloc (.cells #[vi g.f, vi g.t, vi g.k] 27) = wg at *
              obtain ⟨gb, hgb⟩ : ∃ gb, gb = wq.heap.size := ⟨_, rfl⟩
              rw [← hgb] at HXg ⊢
              clear hgb
              have u0 : wg.cell? ⟨gb, 0, none⟩ = some (vi g.f) := by rw [cell_of HXg.out]; rfl
              have u1 : wg.cell? ⟨gb, 1, none⟩ = some (vi g.t) := by rw [cell_of HXg.out]; rfl
              have u2 : wg.cell? ⟨gb, 2, none⟩ = some (vi g.k) := by rw [cell_of HXg.out]; rfl
              have t0 : wg.cell? ⟨eb, 0, none⟩ = some (vi e.f) := by rw [cell_of HXe.out]; rfl
              have t1 : wg.cell? ⟨eb, 1, none⟩ = some (vi e.t) := by rw [cell_of HXe.out]; rfl
              have t2 : wg.cell? ⟨eb, 2, none⟩ = some (vi e.k) := by rw [cell_of HXe.out]; rfl
              cases fb with
              | true =>
                go_wp2_with fail
                exact ⟨⟨j + 1, by omega, by go_num, by rw [HNY.out, ← HFB.out]; rfl, Lib.hid HQg.out⟩, by simp only [intOf]; omega⟩
              | false =>
                have q := fun W => eqlE g e W
                go_wp2_with fail
                exact ⟨⟨j + 1, by omega, by go_num, by rw [HNY.out, ← HFB.out]; rfl, Lib.hid HQg.out⟩, by simp only [intOf]; omega⟩
            · have j1 : decide ((j : Int) < l8.length) = false := decide_eq_false (by omega)
              have HFB : (l8.take j).any (fun y => decide (y = e)) = true := by
                rw [List.take_of_length_le (by omega)]
                exact List.any_eq_true.2 ⟨e, HEM.out, decide_eq_true rfl⟩
              rw [HFB]
              clear HFB
              go_wp2_with fail
              exact ⟨⟨k + 1, by omega, by go_num, Lib.hid HBq.out⟩, by simp only [intOf]; omega⟩
        · have k1 : decide ((k : Int) < l9.length) = false := decide_eq_false (by omega)
          have HRJ := Lib.hid (HR9.out.later HJ.out)
          have HMJ := Lib.hid (HM9.out.below HJ.out HM9.out.lt)
          have HHJ := Lib.hid (HMH9.out.below HJ.out HMH9.out.lt)
          go_wp2_with fail
          go_loopw [20] (fun i wr => ∃ q : Nat, 1 ≤ q ∧ q ≤ 3 ∧ i = vi q ∧ Hid (Below wj.heap.size wj wr)) (fun i _ => 4 - (intOf i).toNat)
          case atStart => exact ⟨1, by omega, by omega, rfl, Lib.hid (Below.refl _ _)⟩
          case round =>
            obtain ⟨wp, rfl⟩ : ∃ wp : World, wp = wr := ⟨_, rfl⟩
            obtain ⟨q, hq1, hq3, rfl, HP⟩ := hrel
            have HBP := Lib.hid (HBJ.out.trans (HP.out.mono HBJ.out.size))
            have HRP := Lib.hid (HRJ.out.later HP.out)
            have HMP := Lib.hid (HMJ.out.below HP.out HMJ.out.lt)
            have HHP := Lib.hid (HHJ.out.below HP.out HHJ.out.lt)
            by_cases hltq : q ≤ 2
            · have q1 : decide ((q : Int) ≤ 2) = true := decide_eq_true (by omega)
              have q2 : (q : Int) ≤ 2 := by omega
              have hwq : IntKind.i64.wrap ((q : Int) + 1) = (q : Int) + 1 := IntWalk.i64_in _ (by omega)
              by_cases hbr : Brk ts L q
              · have HS1 := Lib.hid hbr
                have HS2 := Lib.hid (brk_more HMO.out HE8.out hbr)
                clear hbr
                go_wp2_with (first
                  | (go_at_call 19; ((with_reducible refine (brokenB_call _ _ ts H 12 q w11 HR11.out HOK.out (FaV.of HH11.out) HSH.out).mono ?_); rintro e12 w12 ⟨a12, n12, c12, rfl, h12, -, hb12⟩; have hn12 := h12.2 HS2.out; have d12 : ((n12 : Int) == 0) = false := (by simp; omega); have HB12 := Lib.hid (HB11.out.trans (hb12.mono HB11.out.size)); clear h12 hb12))
                  | (go_at_call 19; ((with_reducible refine (brokenB_call _ _ ts L 12 q wp HRP.out HOK.out (FaV.of HMP.out) HSM.out).mono ?_); rintro e11 w11 ⟨a11, n11, c11, rfl, h11, -, hb11⟩; have hn11 := h11.2 HS1.out; have d11 : decide ((0 : Int) < (n11 : Int)) = true := decide_eq_true (by omega); have HB11 := Lib.hid (HP.out.trans (hb11.mono HP.out.size)); have HR11 := Lib.hid (HRP.out.later hb11); have HH11 := Lib.hid (HHP.out.below hb11 HHP.out.lt); clear h11 hb11)))
                exact ⟨⟨q + 1, by omega, by omega, by go_num, Lib.hid HB12.out⟩, by simp only [intOf]; omega⟩
              · have HS1 := Lib.hid hbr
                clear hbr
                go_wp2_with (go_at_call 19; ((with_reducible refine (brokenB_call _ _ ts L 12 q wp HRP.out HOK.out (FaV.of HMP.out) HSM.out).mono ?_); rintro e11 w11 ⟨a11, n11, c11, rfl, h11, -, hb11⟩; obtain rfl : n11 = 0 := (by rcases Nat.eq_zero_or_pos n11 with h | h; exact h; exact absurd (h11.1 h) HS1.out); have HB11 := Lib.hid (HP.out.trans (hb11.mono HP.out.size)); clear h11 hb11))
                exact ⟨⟨q + 1, by omega, by omega, by go_num, Lib.hid HB11.out⟩, by simp only [intOf]; omega⟩
            · have q1 : decide ((q : Int) ≤ 2) = false := decide_eq_false (by omega)
              go_wp2_with fail
              go_ret
              exact ⟨rfl, HBP.out⟩
end Go.Proofs.Ytefpmcbpodlabaa.depsStays
