/- Texts of one proof, one behind the other: Of, Made, DpMade, DpSm, DpHasR, DpHasR2. -/
import Derived.Test.YtefpmcbpodlabaaJb13
set_option linter.all false
/- crucibleref05.Of: when its error is 0, the transactions are good ones. -/
namespace Go.Proofs.Ytefpmcbpodlabaa
open Go.RowKit Go.Maps

/-- What crucibleref05.Of answers. -/
def OfQ (w : World) (r : Ending) (w' : World) : Prop := ∃ (v : Value) (p err : Int), r = .returned (.tuple #[v, .int .i64 p, .int .i64 err]) ∧ (err = 0 → ∃ ts, RdTxns w' v ts ∧ GoodTs ts) ∧ Below w.heap.size w w'
theorem OfQ.bad {w w' : World} {r : Ending} {v : Value} {p err : Int} (h : r = .returned (.tuple #[v, .int .i64 p, .int .i64 err])) (he : err ≠ 0) (hb : Below w.heap.size w w') : OfQ w r w' := ⟨v, p, err, h, fun h => absurd h he, hb⟩
theorem OfQ.good {w w' : World} {r : Ending} {v : Value} {ts : List GTxn} (h : r = .returned (.tuple #[v, .int .i64 0, .int .i64 0])) (hr : RdTxns w' v ts) (hg : GoodTs ts) (hb : Below w.heap.size w w') : OfQ w r w' := ⟨v, 0, 0, h, fun _ => ⟨ts, hr, hg⟩, hb⟩

set_option maxRecDepth 100000 in
set_option maxHeartbeats 16000000 in
theorem of_call (v : Value) (es : List GEvent) (w : World) (hv : RdEvents w v es) (hes : es.length ≤ 60) :
    Calls Try.prog 37 #[v] w (OfQ w) := by
  have HV := Lib.hid hv
  obtain ⟨a, len, cap, rfl, rfl, hm, -⟩ := hv.at
  clear hv
  have hesI : ¬ (es.length : Int) > 400 := by omega
  have hO1 := World.ownsRow_lit (base := w.heap.size) (e := 46) (size := 3) w #[] 0 (Nat.le_refl _) (by simp [maxLen]) rfl
  have hO2 := World.ownsRow_lit (base := w.heap.size) (e := 3) (size := 1) (w.alloc (.cells #[] 46)) #[] 0 (by simp) (by simp [maxLen]) rfl
  have hS : OfS w (.slice (some ⟨w.heap.size, 0, none⟩) 0 0) (.slice (some ⟨w.heap.size + 1, 0, none⟩) 0 0) [] [] ((w.alloc (.cells #[] 46)).alloc (.cells #[] 3)) :=
    ⟨hO1.alloc _, (fun p hp => by cases hp), by simpa using hO2, ((Below.refl _ _).alloc (Nat.le_refl _) _).alloc (by simp) _⟩
  have HS0 := Lib.hid hS
  clear hO1 hO2 hS
  go_enter Try.func37, Try.ntmps37
  go_wp2_with fail
  go_loopw [5, 6, 7, 8, 9, 10, 11, 12, 20] (fun vo vf _ _ _ _ _ _ n wr => ∃ (i : Nat) (L : TxL) (F : List Nat), i ≤ es.length ∧ n = .int .i64 i ∧ OfS w vo vf L F wr ∧ OfInv es i (L.map (·.1)) F) (fun _ _ _ _ _ _ _ _ n _ => es.length - (intOf n).toNat)
  case atStart => exact ⟨0, [], [], Nat.zero_le _, rfl, HS0.out, OfInv.start es⟩
  case round =>
    obtain ⟨wi, rfl⟩ : ∃ wi : World, wi = wr := ⟨_, rfl⟩
    obtain ⟨i, L, F, hi, rfl, hs, hinv⟩ := hrel
    have HS := Lib.hid hs
    have HI := Lib.hid hinv
    have HB := Lib.hid hs.below
    have hwi := hs.below.size
    clear hs hinv
    by_cases hlt : i < es.length
    · obtain ⟨e, he⟩ := some_at hlt
      obtain ⟨_, _, _, e5, -, -, hcl⟩ := HV.out.at
      cases e5
      obtain ⟨b, off, oa, oc, rfl, hr, k0', k1', k2'⟩ := hcl i e he
      have k0 := cell_later HB.out k0'
      have k1 := cell_later HB.out k1'
      have k2 := cell_later HB.out k2'
      have hiI : (i : Int) < (es.length : Int) := by omega
      have hmo : e.ops.length ≤ 9223372036854775807 := by obtain ⟨_, _, _, _, _, h, _⟩ := hr.at; exact h
      have HE := Lib.hid he
      have HR := Lib.hid hr
      have HC := Lib.hid hcl
      clear hcl he hr k0' k1' k2'
      go_upto_region 8 with fail
      have HB1 := Lib.hid (HB.out.alloc hwi (.cells #[vi e.kind, vi e.client, .slice oa e.ops.length oc] 119))
      have HS1 := Lib.hid (HS.out.more (.cells #[vi e.kind, vi e.client, .slice oa e.ops.length oc] 119))
      have HX1 := Lib.hid (alloc_at wi (.cells #[vi e.kind, vi e.client, .slice oa e.ops.length oc] 119))
      have hw1 : (wi.alloc (.cells #[vi e.kind, vi e.client, .slice oa e.ops.length oc] 119)).heap.size = wi.heap.size + 1 := by simp
      have q0 : (wi.alloc (.cells #[vi e.kind, vi e.client, .slice oa e.ops.length oc] 119)).cell? ⟨wi.heap.size, 0, none⟩ = some (vi e.kind) := by rw [cell_of (alloc_at _ _)]; rfl
      have q1 : (wi.alloc (.cells #[vi e.kind, vi e.client, .slice oa e.ops.length oc] 119)).cell? ⟨wi.heap.size, 1, none⟩ = some (vi e.client) := by rw [cell_of (alloc_at _ _)]; rfl
      have q2 : (wi.alloc (.cells #[vi e.kind, vi e.client, .slice oa e.ops.length oc] 119)).cell? ⟨wi.heap.size, 2, none⟩ = some (.slice oa e.ops.length oc) := by rw [cell_of (alloc_at _ _)]; rfl
      have HR1 := Lib.hid (HR.out.later (HB1.out))
      clear k0 k1 k2
      generalize wi.alloc (.cells #[vi e.kind, vi e.client, .slice oa e.ops.length oc] 119) = w1 at *
      have hw1' : wi.heap.size < w1.heap.size := by omega
      go_cut [27] (fun r wx => (∃ b', r = .bool b' ∧ (b' = false → GoodEv e)) ∧ Below w1.heap.size w1 wx)
      case first =>
        go_wp2_with (go_at_call 66; refine (right_call e _ _ HR1.out).mono ?_; rintro r w2 ⟨b', rfl, hgood, hb2⟩)
        go_meet
        exact ⟨⟨_, rfl, fun h => hgood (by simpa using h)⟩, hb2⟩
      case rest =>
        obtain ⟨⟨b', rfl, hgood⟩, hb2⟩ := hcut
        cases b' with
        | true =>
          go_wp2_with fail
          go_ret3
          exact .bad rfl (by omega) (HB1.out.trans (hb2.mono HB1.out.size))
        | false =>
          have HG := Lib.hid (hgood rfl)
          have hol : e.ops.length ≤ 12 := HG.out.len
          have HB2 := Lib.hid hb2
          have hw2 := hb2.size
          have Q0 := Lib.hid q0
          have Q1 := Lib.hid q1
          have Q2 := Lib.hid q2
          clear hgood hb2 q0 q1 q2
          go_upto_region 11 with (go_at_call 67; refine (last_call _ es i _ (HV.out.later (HB1.out.trans (HB2.out.mono HB1.out.size))) hlt).mono ?_; rintro r w3 ⟨p, rfl, hp1, hp2, hb3⟩)
          have HB3 := Lib.hid (HB2.out.trans (hb3.mono hw2))
          have HBW := Lib.hid (HB1.out.trans (HB3.out.mono HB1.out.size))
          have hw3 := HB3.out.size
          have q0 := cell_later HB3.out Q0.out
          have q1 := cell_later HB3.out Q1.out
          have q2 := cell_later HB3.out Q2.out
          have hw13 : wi.heap.size < w3.heap.size := by omega
          have HX3 := Lib.hid (show w3.heap[wi.heap.size]? = some (.cells #[vi e.kind, vi e.client, .slice oa e.ops.length oc] 119) from (HB3.out.block _ hw1').trans HX1.out)
          have HS3 := Lib.hid (HS1.out.later HB3.out)
          have Q0' := Lib.hid q0
          have Q1' := Lib.hid q1
          have Q2' := Lib.hid q2
          clear hb3
          go_cut [10] (fun vo wx => (∃ bo, vo = .bool bo ∧ (bo = true → ∃ (q : Nat) (eq : GEvent), p = q ∧ q < i ∧ es[q]? = some eq ∧ eq.kind = 1)) ∧ wx = w3)
          case first =>
            by_cases hp : 0 ≤ p
            · obtain ⟨q, rfl⟩ := Int.eq_ofNat_of_zero_le hp
              have hqi : q < i := by omega
              have hqI : (q : Int) < (es.length : Int) := by omega
              obtain ⟨eq, heq⟩ := some_at (l := es) (k := q) (by omega)
              obtain ⟨_, _, _, _, e6, -, m0', -, -⟩ := HC.out q eq heq
              simp only [Option.some.injEq, Addr.mk.injEq, and_true] at e6
              obtain ⟨rfl, rfl⟩ := e6
              have m0 := cell_later HBW.out m0'
              clear m0'
              have HQ := Lib.hid heq
              clear heq
              by_cases h1 : eq.kind = 1
              · have c1 := beq_t h1
                have H1 := Lib.hid h1
                clear h1
                go_wp2_with fail
                go_meet
                exact ⟨⟨true, rfl, fun _ => ⟨q, eq, rfl, hqi, HQ.out, H1.out⟩⟩, rfl⟩
              · have c1 := beq_f h1
                clear h1
                go_wp2_with fail
                go_meet
                exact ⟨⟨false, rfl, fun h => by cases h⟩, rfl⟩
            · go_wp2_with fail
              go_meet
              exact ⟨⟨false, rfl, fun h => by cases h⟩, rfl⟩
          case rest =>
            obtain ⟨⟨bo, rfl, hk⟩, hwx⟩ := hcut
            replace hwx := hwx.symm
            subst hwx
            have HK := Lib.hid hk
            clear hk
            cases bo with
            | true =>
              by_cases h1 : e.kind = 1
              · have c1 := beq_t h1
                clear h1
                go_wp2_with fail
                go_ret3
                exact .bad rfl (by omega) HBW.out
              · have c1 := beq_f h1
                have H1 := Lib.hid h1
                clear h1
                go_upto_region 19 with fail
                obtain ⟨q, eq, hpq, hqi, hq, hk1⟩ := HK.out rfl
                subst hpq
                have HQ := Lib.hid hq
                have HQ1 := Lib.hid hk1
                have hFl : F.length ≤ i := HI.out.le
                have hLl : L.length = F.length := by have := HI.out.len; simpa using this
                obtain ⟨a5, c5, a6, c6, rfl, rfl⟩ := HS.out.shapes hLl
                have hqI : (q : Int) < (es.length : Int) := by omega
                obtain ⟨_, _, oa3, oc3, e6, hr3, -, -, m2'⟩ := HC.out q eq hq
                simp only [Option.some.injEq, Addr.mk.injEq, and_true] at e6
                obtain ⟨rfl, rfl⟩ := e6
                have m2 := cell_later HBW.out m2'
                have HR3 := Lib.hid (hr3.later HBW.out)
                have HRw := Lib.hid (HR.out.later HBW.out)
                clear hq hk1 hr3 m2'
                by_cases h2 : e.kind = 2
                · have c2 := beq_t h2
                  have c3 := bne_f h2
                  clear h2
                  go_upto_region 22 with fail
                  go_cut [11] (fun v wx => (∃ n : Int, v = .int .i64 n ∧ (n = 0 → eq.ops.length = e.ops.length ∧ ShapeN eq.ops e.ops e.ops.length)) ∧ Below w3.heap.size w3 wx)
                  case first =>
                    go_still_tail 7, (by kernel_rfl)
                    change wpList _ _ _ _ _ w3.drew
                    go_wp2_with (go_at_call 69; refine (answer_call _ _ eq.ops e.ops _ (HR3.out.later ((Below.refl _ _).drew)) (HRw.out.later ((Below.refl _ _).drew))).mono ?_; rintro r w4 ⟨n, rfl, hn, hb4⟩)
                    go_meet
                    exact ⟨⟨n, rfl, hn⟩, ((Below.refl w3.heap.size w3).drew).trans hb4⟩
                  case rest =>
                    obtain ⟨wx, rfl⟩ : ∃ wx : World, wx = wc := ⟨_, rfl⟩
                    obtain ⟨⟨n, rfl, hn⟩, hb4⟩ := hcut
                    have HB4 := Lib.hid hb4
                    have hw4 := hb4.size
                    clear hb4
                    by_cases hn0 : n = 0
                    · have HA := Lib.hid (hn hn0)
                      subst hn0
                      have HS4 := Lib.hid (HS3.out.later HB4.out)
                      have HX4 := Lib.hid ((HB4.out.block _ hw13).trans HX3.out)
                      clear hn q0 q1 q2 m2
                      go_wp2_with fail
                      go_loopw [12, 96] (fun _ n wr => ∃ (k : Nat) (L' : TxL), k ≤ F.length ∧ n = .int .i64 k ∧ L'.length = F.length ∧ OfS w (.slice a5 F.length c5) (.slice a6 F.length c6) L' F wr ∧ OfInv es (i + 1) (L'.map (·.1)) F ∧ wr.heap[wi.heap.size]? = some (.cells #[vi e.kind, vi e.client, .slice oa e.ops.length oc] 119)) (fun _ n _ => F.length - (intOf n).toNat)
                      case atStart => exact ⟨0, L, Nat.zero_le _, rfl, hLl, HS4.out, HI.out.over HE.out HG.out (fun h => absurd h H1.out), HX4.out⟩
                      case round =>
                        obtain ⟨wk, rfl⟩ : ∃ wk : World, wk = wr := ⟨_, rfl⟩
                        obtain ⟨k, L', hk, rfl, hl', hs, hinv, hbox⟩ := hrel
                        have HSk := Lib.hid hs
                        have HIk := Lib.hid hinv
                        have HXk := Lib.hid hbox
                        have HBk := Lib.hid hs.below
                        have hwk := hs.below.size
                        have hLI := Lib.hid hl'
                        clear hs hinv hbox hl'
                        by_cases hlk : k < F.length
                        · have hkI : (k : Int) < (F.length : Int) := by omega
                          obtain ⟨f, hf⟩ := some_at hlk
                          obtain ⟨p', hp'⟩ := some_at (l := L') (k := k) (by rw [hLI.out]; exact hlk)
                          obtain ⟨g, gf, rfl, rfl⟩ := HSk.out.shapes_at hLI.out (by omega)
                          have f0 := HSk.out.frm_at hf
                          have s1 := HSk.out.out_at hp' (i := 1) rfl
                          have s2 := HSk.out.out_at hp' (i := 2) rfl
                          have z1 := HSk.out.out_free hLI.out.symm (k * 3 + 1)
                          have q0 : wk.cell? ⟨wi.heap.size, 0, none⟩ = some (vi e.kind) := by rw [cell_of HXk.out]; rfl
                          have HF := Lib.hid hf
                          have HP := Lib.hid hp'
                          clear hf hp'
                          by_cases hfq : (f : Int) = (q : Int)
                          · have g1 := beq_t hfq
                            have HFQ := Lib.hid (show f = q by omega)
                            clear hfq
                            go_upto_region 30 with fail
                            have HSn := Lib.hid (HSk.out.set hLI.out.symm HP.out (i := 1) (p' := (⟨p'.1.client, 1, p'.1.ops⟩, p'.2)) (u := vi 1) (by decide) rfl (HSk.out.ops p' (List.mem_of_getElem? HP.out)))
                            have HXn := Lib.hid (HSk.out.box hLI.out.symm HXk.out (k * 3 + 1) (vi 1))
                            clear f0 s1 s2 z1 q0
                            generalize wk.setCell ⟨g, k * 3 + 1, none⟩ (vi 1) = wa at *
                            have HLn := Lib.hid (show (L'.set k (⟨p'.1.client, 1, p'.1.ops⟩, p'.2)).length = F.length by rw [List.length_set]; exact hLI.out)
                            have HPn := Lib.hid (show (L'.set k (⟨p'.1.client, 1, p'.1.ops⟩, p'.2))[k]? = some (⟨p'.1.client, 1, p'.1.ops⟩, p'.2) from List.getElem?_set_self (by rw [hLI.out]; exact hlk))
                            have hwa := HSn.out.below.size
                            have hwb : wi.heap.size < wa.heap.size := (Array.getElem?_eq_some_iff.1 HXn.out).1
                            have q2 : wa.cell? ⟨wi.heap.size, 2, none⟩ = some (.slice oa e.ops.length oc) := by rw [cell_of HXn.out]; rfl
                            have HRa := Lib.hid ((HR.out.later HSn.out.below).later ((Below.refl wa.heap.size wa).alloc (Nat.le_refl _) (.cells #[] 48)))
                            have HO := Lib.hid (World.ownsRow_lit (base := wa.heap.size) (e := 48) (size := 3) wa #[] 0 (Nat.le_refl _) (by simp [maxLen]) rfl)
                            have HBa := Lib.hid ((Below.refl wa.heap.size wa).alloc (Nat.le_refl _) (.cells #[] 48))
                            go_upto_region 31 with (at_builtin; refine wpList_append_src rfl _ _ 44 rfl eltOp wa.heap.size 0 [] HO.out rfl e.ops.length _ HRa.out.src rfl opV_one (by omega) (by omega) (by simp) ?_; intro v2 w5 hown2 hg2 _; have HO2 := Lib.hid (show OwOps wa.heap.size w5 v2 e.ops by simpa [OwOps] using hown2); have HB5 := Lib.hid (HBa.out.grown hg2 (by simp) (by simp [Value.ownBlock])); have hr2 := HO2.out.rd; obtain ⟨av, nv, cv, rfl, rfl, hmv, -⟩ := hr2.at; have HS5 := Lib.hid (HSn.out.later HB5.out); have s2 := HS5.out.out_at HPn.out (i := 2) rfl; have z2 := HS5.out.out_free HLn.out.symm (k * 3 + 2); clear hown2 hg2 hr2)
                            have HSz := Lib.hid (HS5.out.set HLn.out.symm HPn.out (i := 2) (p' := (⟨p'.1.client, 1, e.ops⟩, .slice av e.ops.length cv)) (u := .slice av e.ops.length cv) (by decide) rfl (own_mono HO2.out hwa))
                            have HX5 := Lib.hid ((HB5.out.block _ hwb).trans HXn.out)
                            have HXz := Lib.hid (HS5.out.box HLn.out.symm HX5.out (k * 3 + 2) (.slice av e.ops.length cv))
                            clear q2 s2 z2
                            generalize w5.setCell ⟨g, k * 3 + 2, none⟩ (.slice av e.ops.length cv) = wz at *
                            have f0 := HSz.out.frm_at HF.out
                            have q0 : wz.cell? ⟨wi.heap.size, 0, none⟩ = some (vi e.kind) := by rw [cell_of HXz.out]; rfl
                            go_wp2_with fail
                            go_roundw
                            case rel =>
                              refine ⟨k + 1, _, by omega, by go_num, by rw [List.length_set]; exact HLn.out, HSz.out, ?_, HXz.out⟩
                              rw [List.set_set, List.map_set]
                              exact HIk.out.set (e := eq) HF.out (by show (0 : Int) ≤ 1 ∧ (1 : Int) ≤ 2; omega) HG.out.ops HG.out.len (by rw [HFQ.out]; exact HQ.out) HQ1.out (HA.out).1 (HA.out).2
                            case measure => simp [intOf]; omega
                          · have g1 := beq_f hfq
                            clear hfq
                            go_wp2_with fail
                            go_roundw
                            case rel => exact ⟨k + 1, L', by omega, by go_num, hLI.out, HSk.out, HIk.out, HXk.out⟩
                            case measure => simp [intOf]; omega
                        · obtain rfl : k = F.length := by omega
                          go_wp2_with fail
                          go_roundw
                          case rel => exact ⟨i + 1, L', F, by omega, by go_num, HSk.out, HIk.out⟩
                          case measure => simp [intOf]; omega
                    · have d1 := bne_t hn0
                      have HN := Lib.hid hn0
                      clear hn hn0
                      go_wp2_with fail
                      go_ret3
                      exact .bad rfl HN.out (HBW.out.trans (HB4.out.mono HBW.out.size))
                · have c2 := beq_f h2
                  have c3 := bne_t h2
                  clear h2
                  by_cases hlen : (0 : Int) < (e.ops.length : Int)
                  · go_wp2_with fail
                    go_ret3
                    exact .bad rfl (by omega) HBW.out
                  · have HS4 := Lib.hid HS3.out
                    have HX4 := Lib.hid HX3.out
                    clear m2 q1
                    go_wp2_with fail
                    go_loopw [12, 96] (fun _ n wr => ∃ (k : Nat) (L' : TxL), k ≤ F.length ∧ n = .int .i64 k ∧ L'.length = F.length ∧ OfS w (.slice a5 F.length c5) (.slice a6 F.length c6) L' F wr ∧ OfInv es (i + 1) (L'.map (·.1)) F ∧ wr.heap[wi.heap.size]? = some (.cells #[vi e.kind, vi e.client, .slice oa e.ops.length oc] 119)) (fun _ n _ => F.length - (intOf n).toNat)
                    case atStart => exact ⟨0, L, Nat.zero_le _, rfl, hLl, HS4.out, HI.out.over HE.out HG.out (fun h => absurd h H1.out), HX4.out⟩
                    case round =>
                      obtain ⟨wk, rfl⟩ : ∃ wk : World, wk = wr := ⟨_, rfl⟩
                      obtain ⟨k, L', hk, rfl, hl', hs, hinv, hbox⟩ := hrel
                      have HSk := Lib.hid hs
                      have HIk := Lib.hid hinv
                      have HXk := Lib.hid hbox
                      have HBk := Lib.hid hs.below
                      have hwk := hs.below.size
                      have hLI := Lib.hid hl'
                      clear hs hinv hbox hl'
                      by_cases hlk : k < F.length
                      · have hkI : (k : Int) < (F.length : Int) := by omega
                        obtain ⟨f, hf⟩ := some_at hlk
                        obtain ⟨p', hp'⟩ := some_at (l := L') (k := k) (by rw [hLI.out]; exact hlk)
                        obtain ⟨g, gf, rfl, rfl⟩ := HSk.out.shapes_at hLI.out (by omega)
                        have f0 := HSk.out.frm_at hf
                        have s1 := HSk.out.out_at hp' (i := 1) rfl
                        have s2 := HSk.out.out_at hp' (i := 2) rfl
                        have z1 := HSk.out.out_free hLI.out.symm (k * 3 + 1)
                        have q0 : wk.cell? ⟨wi.heap.size, 0, none⟩ = some (vi e.kind) := by rw [cell_of HXk.out]; rfl
                        have HF := Lib.hid hf
                        have HP := Lib.hid hp'
                        clear hf hp'
                        by_cases hfq : (f : Int) = (q : Int)
                        · have g1 := beq_t hfq
                          clear hfq
                          by_cases h3 : e.kind = 3
                          · have g2 := beq_t h3
                            clear h3
                            go_upto_region 33 with fail
                            have HSn := Lib.hid (HSk.out.set hLI.out.symm HP.out (i := 1) (p' := (⟨p'.1.client, 2, p'.1.ops⟩, p'.2)) (u := vi 2) (by decide) rfl (HSk.out.ops p' (List.mem_of_getElem? HP.out)))
                            have HXn := Lib.hid (HSk.out.box hLI.out.symm HXk.out (k * 3 + 1) (vi 2))
                            generalize wk.setCell ⟨g, k * 3 + 1, none⟩ (vi 2) = wa at *
                            go_wp2_with fail
                            go_roundw
                            case rel => exact ⟨k + 1, _, by omega, by go_num, by rw [List.length_set]; exact hLI.out, HSn.out, by rw [List.map_set]; exact HIk.out.state (by simp [HP.out]) HF.out (by omega), HXn.out⟩
                            case measure => simp [intOf]; omega
                          · have g2 := beq_f h3
                            clear h3
                            go_wp2_with fail
                            go_roundw
                            case rel => exact ⟨k + 1, L', by omega, by go_num, hLI.out, HSk.out, HIk.out, HXk.out⟩
                            case measure => simp [intOf]; omega
                        · have g1 := beq_f hfq
                          clear hfq
                          go_wp2_with fail
                          go_roundw
                          case rel => exact ⟨k + 1, L', by omega, by go_num, hLI.out, HSk.out, HIk.out, HXk.out⟩
                          case measure => simp [intOf]; omega
                      · obtain rfl : k = F.length := by omega
                        go_wp2_with fail
                        go_roundw
                        case rel => exact ⟨i + 1, L', F, by omega, by go_num, HSk.out, HIk.out⟩
                        case measure => simp [intOf]; omega
            | false =>
              by_cases h1 : e.kind = 1
              · have c1 := beq_t h1
                have H1 := Lib.hid h1
                clear h1
                go_upto_region 15 with fail
                go_cut [53] (fun r wx => (∃ b', r = .bool b' ∧ (b' = false → FreshN es e.ops i e.ops.length)) ∧ Below w3.heap.size w3 wx)
                case first =>
                  go_wp2_with (go_at_call 68; refine (twice_call _ es i e _ (HV.out.later HBW.out) HE.out).mono ?_; rintro r w4 ⟨b', rfl, hfr, hb4⟩)
                  go_meet
                  exact ⟨⟨_, rfl, hfr⟩, hb4⟩
                case rest =>
                  obtain ⟨wx, rfl⟩ : ∃ wx : World, wx = wc := ⟨_, rfl⟩
                  obtain ⟨⟨b', rfl, hfr⟩, hb4⟩ := hcut
                  have HB4 := Lib.hid hb4
                  have hw4 := hb4.size
                  clear hb4
                  cases b' with
                  | true =>
                    go_wp2_with fail
                    go_ret3
                    exact .bad rfl (by omega) (HBW.out.trans (HB4.out.mono HBW.out.size))
                  | false =>
                    have HF := Lib.hid (hfr rfl)
                    clear hfr
                    go_upto_region 17 with fail
                    have hFl : F.length ≤ i := HI.out.le
                    have hLl : L.length = F.length := by have := HI.out.len; simpa using this
                    have q1 := cell_later HB4.out Q1'.out
                    have q2 := cell_later HB4.out Q2'.out
                    have hw14 : wi.heap.size < wx.heap.size := by omega
                    have HS4 := Lib.hid (HS3.out.later HB4.out)
                    have HBX := Lib.hid (HBW.out.trans (HB4.out.mono HBW.out.size))
                    have hwx := HBX.out.size
                    have HR4 := Lib.hid (HR.out.later HBX.out)
                    have HO := Lib.hid (show (wx.drew.alloc (.cells #[] 48)).ownsRow wx.heap.size 48 3 (.slice (some ⟨wx.heap.size, 0, none⟩) 0 0) 0 [] from World.ownsRow_lit wx.drew #[] 0 (Nat.le_refl _) (by simp [maxLen]) rfl)
                    go_cut [5] (fun vo wy => ∃ ov, OfS w vo u6 (L ++ [(⟨e.client, 0, e.ops⟩, ov)]) F wy)
                    case first =>
                      go_region_law (first
                        | (refine step_append_src rfl _ _ 44 rfl eltOp wx.heap.size 0 [] HO.out rfl e.ops.length _ (HR4.out.later (((Below.refl wx.heap.size wx).drew).alloc (Nat.le_refl _) _)).src rfl opV_one (by omega) (by omega) (by simp) ?_; intro v2 w5 hown2 hg2 _; have HO2 := Lib.hid (show OwOps wx.heap.size w5 v2 e.ops by simpa [OwOps] using hown2); have HB5 := Lib.hid (((((Below.refl wx.heap.size wx).drew).alloc (Nat.le_refl _) _).grown hg2 (by simp) (by simp [Value.ownBlock]))); have hr2 := HO2.out.rd; obtain ⟨a2, len2, cap2, rfl, rfl, hm2, -⟩ := hr2.at; have z1 := cell_later HB5.out q1; clear hown2 hg2 hr2)
                        | (refine step_append_src rfl _ _ 33 rfl eltTxn w.heap.size L.length _ ((HS4.out.later HB5.out).more _).out rfl 1 (txV (⟨e.client, 0, e.ops⟩, .slice a2 e.ops.length cap2)) (src_new rfl rfl) rfl (txV_one rfl) (by omega) (by omega) (by have := HB5.out.size; simp; omega) ?_; intro v3 w6 hown3 hg3 _; have HS6 := Lib.hid (((HS4.out.later HB5.out).more _).push hg3 hown3 ((own_mono HO2.out hwx).alloc _)); clear hown3 hg3))
                      all_goals
                        go_wp2
                        go_meet
                        exact ⟨_, HS6.out⟩
                    case rest =>
                      obtain ⟨ov, hs6⟩ := hcut
                      have HS6 := Lib.hid hs6
                      have hwy := hs6.below.size
                      clear hs6 q1 q2
                      go_wp2_with (at_builtin; refine wpList_append_src rfl _ _ 32 rfl eltInt w.heap.size F.length _ (HS6.out.more _).frm rfl 1 [vi (i : Int)] (src_new (cs := #[vi (i : Int)]) rfl rfl) rfl (one_vi _) (by omega) (by omega) (by simp; omega) ?_; intro v4 w7 hown4 hg4 _; have HS7 := Lib.hid ((HS6.out.more _).pushF hg4 hown4); clear hown4 hg4)
                      go_roundw
                      case rel => exact ⟨i + 1, _, _, by omega, by go_num, HS7.out, by simpa using HI.out.begun HE.out HG.out H1.out HF.out⟩
                      case measure => simp [intOf]; omega
              · have c1 := beq_f h1
                clear h1
                go_wp2_with fail
                go_ret3
                exact .bad rfl (by omega) HBW.out
    · obtain rfl : i = es.length := by omega
      go_wp2_with fail
      go_ret3
      exact .good rfl HS.out.rd (HI.out.good hes) HB.out
end Go.Proofs.Ytefpmcbpodlabaa

/- cruciblelaw09.made: a history's transactions, when there are few enough. -/
namespace Go.Proofs.Ytefpmcbpodlabaa
open Go.RowKit Go.Maps

/-- What cruciblelaw09.made answers. -/
def MadeQ (w : World) (r : Ending) (w' : World) : Prop := ∃ (v : Value) (b : Bool), r = .returned (.tuple #[v, .bool b]) ∧ (b = true → ∃ ts, RdTxns w' v ts ∧ GoodTs ts) ∧ Below w.heap.size w w'
theorem MadeQ.no {w w' : World} {r : Ending} {v : Value} (h : r = .returned (.tuple #[v, .bool false])) (hb : Below w.heap.size w w') : MadeQ w r w' := ⟨v, false, h, (fun h => by cases h), hb⟩
theorem MadeQ.of {w w' : World} {r : Ending} {v : Value} {b : Bool} (h : r = .returned (.tuple #[v, .bool b])) (hg : b = true → ∃ ts, RdTxns w' v ts ∧ GoodTs ts) (hb : Below w.heap.size w w') : MadeQ w r w' := ⟨v, b, h, hg, hb⟩

set_option maxRecDepth 100000 in
set_option maxHeartbeats 1000000 in
theorem made_call (v : Value) (es : List GEvent) (w : World) (hv : RdEvents w v es) :
    Calls Try.prog 26 #[v] w (MadeQ w) := by
  have HV := Lib.hid hv
  obtain ⟨a, len, cap, rfl, rfl, hm, -⟩ := hv.at
  clear hv
  go_enter Try.func26, Try.ntmps26
  by_cases hlen : (es.length : Int) > 60
  · go_wp2_with fail
    go_ret2
    exact .no rfl (Below.refl _ _)
  · go_wp2_with (go_at_call 37; refine (of_call _ es _ HV.out (by omega)).mono ?_; rintro r w1 ⟨v1, p, err, rfl, hg, hb⟩)
    go_ret2
    exact .of rfl (fun h => hg (by simpa using h)) hb
end Go.Proofs.Ytefpmcbpodlabaa

/- cruciblelaw10.made: a history's transactions without flaws, when there are few enough. -/
namespace Go.Proofs.Ytefpmcbpodlabaa
open Go.RowKit Go.Maps

def Made10Q (w : World) (r : Ending) (w' : World) : Prop := ∃ (v : Value) (b : Bool), r = .returned (.tuple #[v, .bool b]) ∧ (b = true → ∃ ts, RdTxns w' v ts ∧ GoodTs ts ∧ flawsM ts = []) ∧ Below w.heap.size w w'
theorem Made10Q.no {w w' : World} {r : Ending} {v : Value} (h : r = .returned (.tuple #[v, .bool false])) (hb : Below w.heap.size w w') : Made10Q w r w' := ⟨v, false, h, (fun h => by cases h), hb⟩

set_option maxRecDepth 100000 in
set_option maxHeartbeats 1000000 in
theorem made10_call (v : Value) (es : List GEvent) (w : World) (hv : RdEvents w v es) :
    Calls Try.prog 14 #[v] w (Made10Q w) := by
  have HV := Lib.hid hv
  obtain ⟨a, len, cap, rfl, rfl, hm, -⟩ := hv.at
  clear hv
  go_enter Try.func14, Try.ntmps14
  by_cases hlen : (es.length : Int) > 40
  · go_wp2_with fail
    go_ret2
    exact .no rfl (Below.refl _ _)
  · go_upto_region 4 with (go_at_call 37; refine (of_call _ es _ HV.out (by omega)).mono ?_; rintro r w1 ⟨v1, p, err, rfl, hg, hb⟩; have HG := Lib.hid hg; have HB := Lib.hid hb; clear hg hb)
    by_cases he : err = 0
    · obtain ⟨ts, hr, hgood⟩ := HG.out he
      have HR := Lib.hid hr
      have HGD := Lib.hid hgood
      have d0 : (err == 0) = true := by simp [he]
      clear he hr hgood HG
      go_wp2_with (go_at_call 38; refine (flaws_call v1 ts w1 HR.out HGD.out.ok (by have := HGD.out.len; omega)).mono ?_; rintro e2 w2 ⟨v2, rfl, ho2, hb2⟩; obtain ⟨a2, c2, rfl⟩ := Gr.own_shape ho2; have HB2 := Lib.hid hb2; clear ho2 hb2)
      go_ret2
      exact ⟨_, _, rfl, fun h => ⟨ts, HR.out.later HB2.out, HGD.out, List.length_eq_zero_iff.1 (by simpa using h)⟩, HB.out.trans (HB2.out.mono HB.out.size)⟩
    · have d0 : (err == 0) = false := by simp [he]
      clear he
      go_wp2_with fail
      go_ret2
      exact .no rfl HB.out
end Go.Proofs.Ytefpmcbpodlabaa

/- How large a history and its facts are. -/
namespace Go.Proofs.Ytefpmcbpodlabaa
open Go.RowKit Go.Maps

def allC (n : Nat) : List GChoice := (List.range n).map (fun i : Nat => (⟨1, 0, (i : Int), 0⟩ : GChoice)) ++ (List.range 16).flatMap (fun k : Nat => (List.range n).flatMap (fun a : Nat => (List.range n).map (fun b : Nat => (⟨2, (k : Int), (a : Int), (b : Int)⟩ : GChoice))))
theorem allC_len (n : Nat) : (allC n).length = n + 16 * (n * n) := by
  unfold allC
  rw [List.length_append, sum_len _ (n * n) (fun k => sum_len _ n (fun a => by simp) n)]
  simp
theorem allC_mem {n : Nat} {c : GChoice} (h : OkCh n c) : c ∈ allC n := by
  obtain ⟨k, y, a, b⟩ := c
  have h1 := h.key; have h2 := h.a; have h3 := h.b; have h4 := h.kind
  simp only at h1 h2 h3 h4
  obtain ⟨y', rfl⟩ : ∃ m : Nat, y = m := ⟨y.toNat, by omega⟩
  obtain ⟨a', rfl⟩ : ∃ m : Nat, a = m := ⟨a.toNat, by omega⟩
  obtain ⟨b', rfl⟩ : ∃ m : Nat, b = m := ⟨b.toNat, by omega⟩
  unfold allC
  rcases h4 with ⟨rfl, h5, h6⟩ | ⟨rfl, h5⟩
  · refine List.mem_append_left _ (List.mem_map.2 ⟨a', List.mem_range.2 (by omega), ?_⟩)
    rw [h5, h6]
  · exact List.mem_append_right _ (List.mem_flatMap.2 ⟨y', List.mem_range.2 (by omega), List.mem_flatMap.2 ⟨a', List.mem_range.2 (by omega), List.mem_map.2 ⟨b', List.mem_range.2 (by omega), rfl⟩⟩⟩)
theorem choices_small (ts : List GTxn) : (choicesM ts).length ≤ ts.length + 16 * (ts.length * ts.length) := by
  rw [← allC_len]
  exact nodup_len _ _ (choicesM_nodup ts) (fun c hc => allC_mem (choicesM_ok hc))
theorem small_good {ts : List GTxn} {L : FaL} (h : GoodTs ts) (hL : L.length ≤ (choicesM ts).length + 1) : SmallH ts L 12 := by
  have h1 := h.len
  have h2 := choices_small ts
  have h3 := Nat.mul_le_mul h1 h1
  have h4 : L.length ≤ 57661 := by omega
  have h5 : ts.length * 12 ≤ 720 := by omega
  refine ⟨h1, fun t ht => (h.txn t ht).2.2, by omega, ?_⟩
  have h6 := Nat.mul_le_mul h1 (Nat.mul_le_mul_left 16 h5)
  have h7 := Nat.mul_le_mul h4 (Nat.add_le_add_left h5 1)
  omega
/-- Facts that name choices of a history, each once. -/
structure FaOk (ts : List GTxn) (L : FaL) : Prop where
  mem : ∀ p ∈ L, p.1 ∈ choicesM ts
  nd : (L.map (·.1)).Nodup
theorem FaOk.len {ts : List GTxn} {L : FaL} (h : FaOk ts L) : L.length ≤ (choicesM ts).length := by
  have := nodup_len (L.map (·.1)) (choicesM ts) h.nd (fun x hx => by obtain ⟨p, hp, rfl⟩ := List.mem_map.1 hx; exact h.mem p hp)
  simpa using this
theorem FaOk.pw {ts : List GTxn} {L : FaL} (h : FaOk ts L) : L.Pairwise (fun p q => p.1 ≠ q.1) := by
  have := h.nd
  rw [List.nodup_iff_pairwise_ne, List.pairwise_map] at this
  exact this
end Go.Proofs.Ytefpmcbpodlabaa

/- crucibleref10.Has: does one transaction depend on another one so? -/
namespace Go.Proofs.Ytefpmcbpodlabaa
open Go.RowKit Go.Maps
attribute [local go_sem] Oper.semAt_some

def aheadB (G : FaL) (key a b : Int) : Bool := if a < b then getI G ⟨2, key, a, b⟩ == 1 else getI G ⟨2, key, b, a⟩ == 0
set_option maxRecDepth 100000 in
set_option maxHeartbeats 1000000 in
theorem ahead_call (g : Value) (G : FaL) (key a b : Int) (w : World) (hg : RdSaid w g G) :
    Calls Try.prog 62 #[g, vi key, vi a, vi b] w fun e w' => e = .returned (.bool (aheadB G key a b)) ∧ Below w.heap.size w w' := by
  have HG := Lib.hid hg
  clear hg
  go_enter Try.func62, Try.ntmps62
  by_cases h : a < b
  · have d : decide (a < b) = true := decide_eq_true h
    have HE := Lib.hid (show aheadB G key a b = (getI G ⟨2, key, a, b⟩ == 1) from by unfold aheadB; rw [if_pos h])
    clear h
    go_wp2_with (go_at_call 92; refine (get_call _ G ⟨2, key, a, b⟩ _ HG.out).mono ?_; rintro e w1 ⟨rfl, hb1⟩)
    go_ret
    exact ⟨by rw [HE.out]; rfl, hb1⟩
  · have d : decide (a < b) = false := decide_eq_false h
    have HE := Lib.hid (show aheadB G key a b = (getI G ⟨2, key, b, a⟩ == 0) from by unfold aheadB; rw [if_neg h])
    clear h
    go_wp2_with (go_at_call 92; refine (get_call _ G ⟨2, key, b, a⟩ _ HG.out).mono ?_; rintro e w1 ⟨rfl, hb1⟩)
    go_ret
    exact ⟨by rw [HE.out]; rfl, hb1⟩

def wrB (t : GTxn) (key : Int) : Bool := t.ops.any (wkB key)
set_option maxRecDepth 100000 in
set_option maxHeartbeats 2000000 in
theorem wr10_call (t : GTxn) (v : Value) (key : Int) (w : World) (hv : RdOps w v t.ops) :
    Calls Try.prog 83 #[.agg #[vi t.client, vi t.state, v], vi key] w fun e w' => e = .returned (.bool (wrB t key)) ∧ Below w.heap.size w w' := by
  have HB0 := Lib.hid ((Below.refl w.heap.size w).alloc (Nat.le_refl _) (.cells #[vi t.client, vi t.state, v] 46))
  have HV := Lib.hid (hv.later HB0.out)
  have HX0 := Lib.hid (alloc_at w (.cells #[vi t.client, vi t.state, v] 46))
  obtain ⟨a, n, cp, rfl, rfl, hm, -⟩ := hv.at
  clear hv
  go_enter Try.func83, Try.ntmps83
  go_upto_region 1 with fail
  generalize w.alloc (.cells #[vi t.client, vi t.state, .slice a t.ops.length cp] 46) = w0 at *
  have x2 : w0.cell? ⟨w.heap.size, 2, none⟩ = some (.slice a t.ops.length cp) := by rw [cell_of HX0.out]; rfl
  go_wp2_with fail
  clear x2
  go_loopw [10] (fun i wr => ∃ k : Nat, k ≤ t.ops.length ∧ i = .int .i64 k ∧ Hid (Below w0.heap.size w0 wr ∧ (t.ops.take k).any (wkB key) = false)) (fun i _ => t.ops.length - (intOf i).toNat)
  case atStart => exact ⟨0, Nat.zero_le _, rfl, Lib.hid ⟨Below.refl _ _, rfl⟩⟩
  case round =>
    obtain ⟨wj, rfl⟩ : ∃ wj : World, wj = wr := ⟨_, rfl⟩
    obtain ⟨k, hk, rfl, HJ⟩ := hrel
    have HBJ := Lib.hid (HB0.out.trans (HJ.out.1.mono HB0.out.size))
    by_cases hlt : k < t.ops.length
    · have k1 : decide ((k : Int) < t.ops.length) = true := decide_eq_true (by omega)
      have k2 : (k : Int) < t.ops.length := by omega
      have hwk : IntKind.i64.wrap ((k : Int) + 1) = (k : Int) + 1 := IntWalk.i64_in _ (by omega)
      obtain ⟨o, ho⟩ := some_at hlt
      obtain ⟨_, _, _, e5, -, -, hcl⟩ := (HV.out.later HJ.out.1).at
      cases e5
      obtain ⟨b, off, rfl, y0, y1, y2⟩ := hcl k o ho
      have HNX := Lib.hid (show (t.ops.take (k + 1)).any (wkB key) = ((t.ops.take k).any (wkB key) || wkB key o) from by rw [take_at ho, List.any_append]; simp)
      have HM := Lib.hid (List.mem_of_getElem? ho)
      have HX := Lib.hid (alloc_at wj (.cells #[vi o.kind, vi o.key, vi o.val] 48))
      have HBA := Lib.hid (HJ.out.1.alloc HJ.out.1.size (.cells #[vi o.kind, vi o.key, vi o.val] 48))
      have HBB := Lib.hid (HBJ.out.alloc HBJ.out.size (.cells #[vi o.kind, vi o.key, vi o.val] 48))
      clear hcl ho
      go_upto_region 4 with fail
      clear y0 y1 y2
      generalize wj.alloc (.cells #[vi o.kind, vi o.key, vi o.val] 48) = wa at *
      obtain ⟨ob, hob⟩ : ∃ ob, ob = wj.heap.size := ⟨_, rfl⟩
      rw [← hob] at HX ⊢
      clear hob
      have z0 : wa.cell? ⟨ob, 0, none⟩ = some (vi o.kind) := by rw [cell_of HX.out]; rfl
      have z1 : wa.cell? ⟨ob, 1, none⟩ = some (vi o.key) := by rw [cell_of HX.out]; rfl
      cases h1 : (o.kind == 2) with
      | false =>
        have HF := Lib.hid (show wkB key o = false from by unfold wkB; rw [h1]; rfl)
        go_wp2_with fail
        exact ⟨⟨k + 1, by omega, by go_num, Lib.hid ⟨HBA.out, by rw [HNX.out, HF.out, HJ.out.2]; rfl⟩⟩, by simp only [intOf]; omega⟩
      | true =>
        cases h2 : (o.key == key) with
        | false =>
          have HF := Lib.hid (show wkB key o = false from by unfold wkB; rw [h1, h2]; rfl)
          go_wp2_with fail
          exact ⟨⟨k + 1, by omega, by go_num, Lib.hid ⟨HBA.out, by rw [HNX.out, HF.out, HJ.out.2]; rfl⟩⟩, by simp only [intOf]; omega⟩
        | true =>
          have HF := Lib.hid (show wrB t key = true from List.any_eq_true.2 ⟨o, HM.out, by unfold wkB; rw [h1, h2]; rfl⟩)
          go_wp2_with fail
          go_ret
          exact ⟨by rw [HF.out]; rfl, HBB.out⟩
    · have k1 : decide ((k : Int) < t.ops.length) = false := decide_eq_false (by omega)
      have HF := Lib.hid (show wrB t key = false from by
        have h := HJ.out.2
        rw [List.take_of_length_le (by omega)] at h
        exact h)
      go_wp2_with fail
      go_ret
      exact ⟨by rw [HF.out]; rfl, HBJ.out⟩

set_option maxRecDepth 100000 in
set_option maxHeartbeats 4000000 in
/-- Not two, or not both done. -/
theorem hasR_no (v g : Value) (ts : List GTxn) (G : FaL) (a b : Nat) (k : Int) (w : World) (hv : RdTxns w v ts) (hok : OkTxns ts) (hg : RdSaid w g G) (ha : a < ts.length) (hb : b < ts.length) (hno : a = b ∨ isI ts G a ≠ 1 ∨ isI ts G b ≠ 1) :
    Calls Try.prog 48 #[v, g, vi a, vi b, vi k] w fun e w' => e = .returned (.bool false) ∧ Below w.heap.size w w' := by
  have HV := Lib.hid hv
  have HG := Lib.hid hg
  have HOK := Lib.hid hok
  clear hv hg hok
  go_enter Try.func48, Try.ntmps48
  by_cases hab : a = b
  · have d : ((a : Int) == (b : Int)) = true := by simp [hab]
    clear hab hno
    go_wp2_with fail
    go_ret
    exact ⟨rfl, Below.refl _ _⟩
  · have d : ((a : Int) == (b : Int)) = false := by simp; omega
    by_cases hda : isI ts G a = 1
    · have hdb : isI ts G b ≠ 1 := by rcases hno with h | h | h; exact absurd h hab; exact absurd hda h; exact h
      have HDA := Lib.hid hda
      obtain ⟨z, hz⟩ : ∃ z, z = isI ts G b := ⟨_, rfl⟩
      have HZ := Lib.hid hz
      have d2 : (z != 1) = true := by rw [hz]; simpa using hdb
      clear hab hno hda hdb hz
      go_wp2_with (first
        | (go_at_call 60; ((with_reducible refine (refIs_call v g ts G b w1 (HV.out.later HB1.out) HOK.out (HG.out.later HB1.out) hb).mono ?_); rw [← HZ.out]; rintro e2 w2 ⟨rfl, hb2⟩; have HB2 := Lib.hid (HB1.out.trans (hb2.mono HB1.out.size)); clear hb2))
        | (go_at_call 60; ((with_reducible refine (refIs_call v g ts G a w HV.out HOK.out HG.out ha).mono ?_); rw [HDA.out]; rintro e1 w1 ⟨rfl, hb1⟩; have HB1 := Lib.hid hb1; clear hb1)))
      go_ret
      exact ⟨rfl, HB2.out⟩
    · obtain ⟨z, hz⟩ : ∃ z, z = isI ts G a := ⟨_, rfl⟩
      have HZ := Lib.hid hz
      have d2 : (z != 1) = true := by rw [hz]; simpa using hda
      clear hab hno hda hz
      go_wp2_with (go_at_call 60; ((with_reducible refine (refIs_call v g ts G a w HV.out HOK.out HG.out ha).mono ?_); rw [← HZ.out]; rintro e1 w1 ⟨rfl, hb1⟩; have HB1 := Lib.hid hb1; clear hb1))
      go_ret
      exact ⟨rfl, HB1.out⟩

def ww1 (G : FaL) (ta tb : GTxn) (a b key : Nat) : Bool := wrB ta key && (wrB tb key && aheadB G key a b)
def hasR1 (G : FaL) (ta tb : GTxn) (a b : Nat) : Bool := (List.range 16).any (ww1 G ta tb a b)
set_option maxRecDepth 100000 in
set_option maxHeartbeats 8000000 in
theorem hasR1_call (v g : Value) (ts : List GTxn) (G : FaL) (a b : Nat) (ta tb : GTxn) (w : World) (hv : RdTxns w v ts) (hok : OkTxns ts) (hg : RdSaid w g G) (hta : ts[a]? = some ta) (htb : ts[b]? = some tb) (hab : a ≠ b) (hda : isI ts G a = 1) (hdb : isI ts G b = 1) :
    Calls Try.prog 48 #[v, g, vi a, vi b, vi 1] w fun e w' => e = .returned (.bool (hasR1 G ta tb a b)) ∧ Below w.heap.size w w' := by
  have ha := (List.getElem?_eq_some_iff.1 hta).1
  have hb := (List.getElem?_eq_some_iff.1 htb).1
  obtain ⟨av, nv, cv, rfl, rfl, hm, -⟩ := hv.at
  have HV := Lib.hid hv
  have HG := Lib.hid hg
  have HOK := Lib.hid hok
  have HTA := Lib.hid hta
  have HTB := Lib.hid htb
  have d : ((a : Int) == (b : Int)) = false := by simp; omega
  have HDA := Lib.hid hda
  have HDB := Lib.hid hdb
  have a1 : (a : Int) < ts.length := by omega
  have a0 : (0 : Int) ≤ (a : Int) := by omega
  have b1 : (b : Int) < ts.length := by omega
  have b0 : (0 : Int) ≤ (b : Int) := by omega
  clear hv hg hok hta htb hda hdb hab
  go_enter Try.func48, Try.ntmps48
  go_wp2_with (first
    | (go_at_call 60; ((with_reducible refine (refIs_call _ g ts G b w1 (HV.out.later HB1.out) HOK.out (HG.out.later HB1.out) hb).mono ?_); rw [HDB.out]; rintro e2 w2 ⟨rfl, hb2⟩; have HB2 := Lib.hid (HB1.out.trans (hb2.mono HB1.out.size)); clear hb2))
    | (go_at_call 60; ((with_reducible refine (refIs_call _ g ts G a w HV.out HOK.out HG.out ha).mono ?_); rw [HDA.out]; rintro e1 w1 ⟨rfl, hb1⟩; have HB1 := Lib.hid hb1; clear hb1)))
  go_loopw [11] (fun i wr => ∃ k : Nat, k ≤ 16 ∧ i = vi k ∧ Hid (Below w.heap.size w wr ∧ (List.range k).any (ww1 G ta tb a b) = false)) (fun i _ => 16 - (intOf i).toNat)
  case atStart => exact ⟨0, by omega, rfl, Lib.hid ⟨HB2.out, rfl⟩⟩
  case round =>
    obtain ⟨wj, rfl⟩ : ∃ wj : World, wj = wr := ⟨_, rfl⟩
    obtain ⟨k, hk, rfl, HJ⟩ := hrel
    have HBJ := Lib.hid HJ.out.1
    by_cases hlt : k < 16
    · have k1 : decide ((k : Int) < 16) = true := decide_eq_true (by omega)
      have k2 : (k : Int) < 16 := by omega
      have hwk : IntKind.i64.wrap ((k : Int) + 1) = (k : Int) + 1 := IntWalk.i64_in _ (by omega)
      obtain ⟨_, _, _, e5, -, -, hcl⟩ := (HV.out.later HBJ.out).at
      cases e5
      obtain ⟨gb, off, oa, oc, rfl, hra, c0, c1, c2⟩ := hcl a ta HTA.out
      obtain ⟨gb', off', oa', oc', e8, hrb, y0', y1', y2'⟩ := hcl b tb HTB.out
      cases e8
      have HRA := Lib.hid hra
      have HRB := Lib.hid hrb
      have HNX := Lib.hid (show (List.range (k + 1)).any (ww1 G ta tb a b) = ((List.range k).any (ww1 G ta tb a b) || ww1 G ta tb a b k) from by rw [List.range_succ, List.any_append]; simp)
      have HYES := Lib.hid (show ww1 G ta tb a b k = true → hasR1 G ta tb a b = true from fun h => List.any_eq_true.2 ⟨k, List.mem_range.2 hlt, h⟩)
      clear hcl hra hrb
      cases h1 : wrB ta k with
      | false =>
        have HF := Lib.hid (show ww1 G ta tb a b k = false from by unfold ww1; rw [h1]; rfl)
        have H1 := Lib.hid h1
        clear h1
        go_wp2_with (go_at_call 83; ((with_reducible refine (wr10_call ta _ k wj HRA.out).mono ?_); rw [H1.out]; rintro e3 w3 ⟨rfl, hb3⟩; have HB3 := Lib.hid (HBJ.out.trans (hb3.mono HBJ.out.size)); clear hb3))
        exact ⟨⟨k + 1, by omega, by go_num, Lib.hid ⟨HB3.out, by rw [HNX.out, HF.out, HJ.out.2]; rfl⟩⟩, by simp only [intOf]; omega⟩
      | true =>
        have H1 := Lib.hid h1
        cases h2 : wrB tb k with
        | false =>
          have HF := Lib.hid (show ww1 G ta tb a b k = false from by unfold ww1; rw [h1, h2]; rfl)
          have H2 := Lib.hid h2
          clear h1 h2
          go_wp2_with (first
            | (go_at_call 83; ((with_reducible refine (wr10_call tb _ k w3 (HRB.out.later HB3a.out)).mono ?_); rw [H2.out]; rintro e4 w4 ⟨rfl, hb4⟩; have HB4 := Lib.hid (HB3.out.trans (hb4.mono HB3.out.size)); clear hb4))
            | (go_at_call 83; ((with_reducible refine (wr10_call ta _ k wj HRA.out).mono ?_); rw [H1.out]; rintro e3 w3 ⟨rfl, hb3⟩; have HB3a := Lib.hid hb3; have HB3 := Lib.hid (HBJ.out.trans (hb3.mono HBJ.out.size)); have y0 := cell_later hb3 y0'; have y1 := cell_later hb3 y1'; have y2 := cell_later hb3 y2'; clear hb3)))
          exact ⟨⟨k + 1, by omega, by go_num, Lib.hid ⟨HB4.out, by rw [HNX.out, HF.out, HJ.out.2]; rfl⟩⟩, by simp only [intOf]; omega⟩
        | true =>
          have H2 := Lib.hid h2
          obtain ⟨z, hz⟩ : ∃ z, z = aheadB G k a b := ⟨_, rfl⟩
          have HZ := Lib.hid hz
          have HW := Lib.hid (show ww1 G ta tb a b k = z from by unfold ww1; rw [h1, h2, hz]; rfl)
          clear h1 h2 hz
          cases z with
          | false =>
            go_wp2_with (first
              | (go_at_call 62; ((with_reducible refine (ahead_call g G k a b w4 (HG.out.later HB4.out)).mono ?_); rw [← HZ.out]; rintro e5 w5 ⟨rfl, hb5⟩; have HB5 := Lib.hid (HB4.out.trans (hb5.mono HB4.out.size)); clear hb5))
              | (go_at_call 83; ((with_reducible refine (wr10_call tb _ k w3 (HRB.out.later HB3a.out)).mono ?_); rw [H2.out]; rintro e4 w4 ⟨rfl, hb4⟩; have HB4 := Lib.hid (HB3.out.trans (hb4.mono HB3.out.size)); clear hb4))
              | (go_at_call 83; ((with_reducible refine (wr10_call ta _ k wj HRA.out).mono ?_); rw [H1.out]; rintro e3 w3 ⟨rfl, hb3⟩; have HB3a := Lib.hid hb3; have HB3 := Lib.hid (HBJ.out.trans (hb3.mono HBJ.out.size)); have y0 := cell_later hb3 y0'; have y1 := cell_later hb3 y1'; have y2 := cell_later hb3 y2'; clear hb3)))
            exact ⟨⟨k + 1, by omega, by go_num, Lib.hid ⟨HB5.out, by rw [HNX.out, HW.out, HJ.out.2]; rfl⟩⟩, by simp only [intOf]; omega⟩
          | true =>
            go_wp2_with (first
              | (go_at_call 62; ((with_reducible refine (ahead_call g G k a b w4 (HG.out.later HB4.out)).mono ?_); rw [← HZ.out]; rintro e5 w5 ⟨rfl, hb5⟩; have HB5 := Lib.hid (HB4.out.trans (hb5.mono HB4.out.size)); clear hb5))
              | (go_at_call 83; ((with_reducible refine (wr10_call tb _ k w3 (HRB.out.later HB3a.out)).mono ?_); rw [H2.out]; rintro e4 w4 ⟨rfl, hb4⟩; have HB4 := Lib.hid (HB3.out.trans (hb4.mono HB3.out.size)); clear hb4))
              | (go_at_call 83; ((with_reducible refine (wr10_call ta _ k wj HRA.out).mono ?_); rw [H1.out]; rintro e3 w3 ⟨rfl, hb3⟩; have HB3a := Lib.hid hb3; have HB3 := Lib.hid (HBJ.out.trans (hb3.mono HBJ.out.size)); have y0 := cell_later hb3 y0'; have y1 := cell_later hb3 y1'; have y2 := cell_later hb3 y2'; clear hb3)))
            go_ret
            exact ⟨by rw [HYES.out HW.out]; rfl, HB5.out⟩
    · have k1 : decide ((k : Int) < 16) = false := decide_eq_false (by omega)
      have HF := Lib.hid (show hasR1 G ta tb a b = false from by
        have h := HJ.out.2
        have hke : k = 16 := by omega
        rw [hke] at h
        exact h)
      go_wp2_with fail
      go_ret
      exact ⟨by rw [HF.out]; rfl, HBJ.out⟩
end Go.Proofs.Ytefpmcbpodlabaa

/- crucibleref10.Has: reads of writes, and writes over reads. -/
namespace Go.Proofs.Ytefpmcbpodlabaa
open Go.RowKit Go.Maps
attribute [local go_sem] Oper.semAt_some

def r2B (ts : List GTxn) (a : Nat) (o : GOp) : Bool := o.val != 0 && writerM ts o.key o.val == (a : Int)
def hasR2 (ts : List GTxn) (tb : GTxn) (a : Nat) : Bool := (readsM tb).any (r2B ts a)
set_option maxRecDepth 100000 in
set_option maxHeartbeats 8000000 in
theorem hasR2_call (v g : Value) (ts : List GTxn) (G : FaL) (a b : Nat) (ta tb : GTxn) (w : World) (hv : RdTxns w v ts) (hok : OkTxns ts) (hg : RdSaid w g G) (hta : ts[a]? = some ta) (htb : ts[b]? = some tb) (hab : a ≠ b) (hda : isI ts G a = 1) (hdb : isI ts G b = 1) :
    Calls Try.prog 48 #[v, g, vi a, vi b, vi 2] w fun e w' => e = .returned (.bool (hasR2 ts tb a)) ∧ Below w.heap.size w w' := by
  have ha := (List.getElem?_eq_some_iff.1 hta).1
  have hb := (List.getElem?_eq_some_iff.1 htb).1
  obtain ⟨av, nv, cv, rfl, rfl, hm, hcl⟩ := hv.at
  have hok2 := (hok.2 tb (List.mem_of_getElem? htb)).2
  obtain ⟨gb, off, oa, oc, rfl, hrb, y0', y1', y2'⟩ := hcl b tb htb
  have HRB := Lib.hid hrb
  have HV := Lib.hid hv
  have HG := Lib.hid hg
  have HOK := Lib.hid hok
  have d : ((a : Int) == (b : Int)) = false := by simp; omega
  have HDA := Lib.hid hda
  have HDB := Lib.hid hdb
  have b1 : (b : Int) < ts.length := by omega
  have b0 : (0 : Int) ≤ (b : Int) := by omega
  have HFB := Lib.hid (show hasR2 ts tb a = (readsM tb).any (r2B ts a) from rfl)
  clear hv hg hok hta htb hda hdb hab hrb hcl
  go_enter Try.func48, Try.ntmps48
  go_wp2_with (first
    | (go_at_call 60; ((with_reducible refine (refIs_call _ g ts G b w1 (HV.out.later HB1.out) HOK.out (HG.out.later HB1.out) hb).mono ?_); rw [HDB.out]; rintro e2 w2 ⟨rfl, hb2⟩; have HB2 := Lib.hid (HB1.out.trans (hb2.mono HB1.out.size)); have y0 := cell_later HB2.out y0'; have y1 := cell_later HB2.out y1'; have y2 := cell_later HB2.out y2'; clear hb2))
    | (go_at_call 60; ((with_reducible refine (refIs_call _ g ts G a w HV.out HOK.out HG.out ha).mono ?_); rw [HDA.out]; rintro e1 w1 ⟨rfl, hb1⟩; have HB1 := Lib.hid hb1; clear hb1))
    | (go_at_call 70; refine (refReads_call tb.client tb.state _ tb.ops w2 (HRB.out.later HB2.out) hok2).mono ?_; rintro e3 w3 ⟨v3, rfl, ho3, hb3⟩; obtain ⟨a3, l3, c3, rfl, e9, hm3, -⟩ := ho3.rd.at; subst e9; have HO3 := Lib.hid ho3.rd; have HB3 := Lib.hid (HB2.out.trans (hb3.mono HB2.out.size)); clear ho3 hb3))
  obtain ⟨rs, hrs⟩ : ∃ rs, rs = readsM tb := ⟨_, rfl⟩
  have HO4 := Lib.hid (show RdOps w3 (.slice a3 rs.length c3) rs from by rw [hrs]; exact HO3.out)
  have hrl : rs.length ≤ 9223372036854775807 := by rw [hrs]; exact hm3
  rw [show (readsM ⟨tb.client, tb.state, tb.ops⟩).length = rs.length from by rw [hrs]]
  rw [← hrs] at HFB
  clear hrs HO3 hm3 y0 y1 y2
  go_loopw [70] (fun i wr => ∃ k : Nat, k ≤ rs.length ∧ i = .int .i64 k ∧ Hid (Below w3.heap.size w3 wr ∧ (rs.take k).any (r2B ts a) = false)) (fun i _ => rs.length - (intOf i).toNat)
  case atStart => exact ⟨0, Nat.zero_le _, rfl, Lib.hid ⟨Below.refl _ _, rfl⟩⟩
  case round =>
    obtain ⟨wj, rfl⟩ : ∃ wj : World, wj = wr := ⟨_, rfl⟩
    obtain ⟨k, hk, rfl, HJ⟩ := hrel
    have HBJ := Lib.hid (HB3.out.trans (HJ.out.1.mono HB3.out.size))
    by_cases hlt : k < rs.length
    · have k1 : decide ((k : Int) < rs.length) = true := decide_eq_true (by omega)
      have k2 : (k : Int) < rs.length := by omega
      have hwk : IntKind.i64.wrap ((k : Int) + 1) = (k : Int) + 1 := IntWalk.i64_in _ (by omega)
      obtain ⟨o, ho⟩ := some_at hlt
      obtain ⟨_, _, _, e5, -, -, hcl⟩ := (HO4.out.later HJ.out.1).at
      cases e5
      obtain ⟨b', off', rfl, z0, z1, z2⟩ := hcl k o ho
      have HNX := Lib.hid (show (rs.take (k + 1)).any (r2B ts a) = ((rs.take k).any (r2B ts a) || r2B ts a o) from by rw [take_at ho, List.any_append]; simp)
      have HM := Lib.hid (List.mem_of_getElem? ho)
      have HX := Lib.hid (alloc_at wj (.cells #[vi o.kind, vi o.key, vi o.val] 48))
      have HBA := Lib.hid (HJ.out.1.alloc HJ.out.1.size (.cells #[vi o.kind, vi o.key, vi o.val] 48))
      have HBB := Lib.hid (HBJ.out.alloc HBJ.out.size (.cells #[vi o.kind, vi o.key, vi o.val] 48))
      clear hcl ho
      go_upto_region 14 with fail
      clear z0 z1 z2
      generalize wj.alloc (.cells #[vi o.kind, vi o.key, vi o.val] 48) = wa at *
      obtain ⟨ob, hob⟩ : ∃ ob, ob = wj.heap.size := ⟨_, rfl⟩
      rw [← hob] at HX ⊢
      clear hob
      have x1 : wa.cell? ⟨ob, 1, none⟩ = some (vi o.key) := by rw [cell_of HX.out]; rfl
      have x2 : wa.cell? ⟨ob, 2, none⟩ = some (vi o.val) := by rw [cell_of HX.out]; rfl
      cases h1 : (o.val != 0) with
      | false =>
        have HF := Lib.hid (show r2B ts a o = false from by unfold r2B; rw [h1]; rfl)
        go_wp2_with fail
        exact ⟨⟨k + 1, by omega, by go_num, Lib.hid ⟨HBA.out, by rw [HNX.out, HF.out, HJ.out.2]; rfl⟩⟩, by simp only [intOf]; omega⟩
      | true =>
        obtain ⟨z, hz⟩ : ∃ z, z = writerM ts o.key o.val := ⟨_, rfl⟩
        have HZ := Lib.hid hz
        cases h2 : (z == (a : Int)) with
        | false =>
          have HF := Lib.hid (show r2B ts a o = false from by unfold r2B; rw [h1, ← hz, h2]; rfl)
          clear hz
          go_wp2_with (go_at_call 71; refine (writer_call _ ts o.key o.val wa (HV.out.later HBB.out)).mono ?_; rw [← HZ.out]; rintro e5 w5 ⟨rfl, hb5⟩; have HB5 := Lib.hid (HBA.out.trans (hb5.mono HBA.out.size)); clear hb5)
          exact ⟨⟨k + 1, by omega, by go_num, Lib.hid ⟨HB5.out, by rw [HNX.out, HF.out, HJ.out.2]; rfl⟩⟩, by simp only [intOf]; omega⟩
        | true =>
          have HF := Lib.hid (show rs.any (r2B ts a) = true from List.any_eq_true.2 ⟨o, HM.out, by unfold r2B; rw [h1, ← hz, h2]; rfl⟩)
          clear hz
          go_wp2_with (go_at_call 71; refine (writer_call _ ts o.key o.val wa (HV.out.later HBB.out)).mono ?_; rw [← HZ.out]; rintro e5 w5 ⟨rfl, hb5⟩; have HB5 := Lib.hid (HBB.out.trans (hb5.mono HBB.out.size)); clear hb5)
          go_ret
          exact ⟨by rw [HFB.out, HF.out]; rfl, HB5.out⟩
    · have k1 : decide ((k : Int) < rs.length) = false := decide_eq_false (by omega)
      have HF := Lib.hid (show rs.any (r2B ts a) = false from by
        have h := HJ.out.2
        rw [List.take_of_length_le (by omega)] at h
        exact h)
      go_wp2_with fail
      go_ret
      exact ⟨by rw [HFB.out, HF.out]; rfl, HBJ.out⟩

def r3W (ts : List GTxn) (G : FaL) (b : Nat) (key z : Int) : Bool := decide (0 ≤ z) && (z != (b : Int) && (isI ts G z.toNat == 1 && aheadB G key z b))
def r3B (ts : List GTxn) (G : FaL) (tb : GTxn) (b : Nat) (o : GOp) : Bool := wrB tb o.key && (o.val == 0 || r3W ts G b o.key (writerM ts o.key o.val))
def hasR3 (ts : List GTxn) (G : FaL) (ta tb : GTxn) (b : Nat) : Bool := (readsM ta).any (r3B ts G tb b)
set_option maxRecDepth 100000 in
set_option maxHeartbeats 8000000 in
theorem hasR3_call (v g : Value) (ts : List GTxn) (G : FaL) (a b : Nat) (ta tb : GTxn) (w : World) (hv : RdTxns w v ts) (hok : OkTxns ts) (hg : RdSaid w g G) (hta : ts[a]? = some ta) (htb : ts[b]? = some tb) (hab : a ≠ b) (hda : isI ts G a = 1) (hdb : isI ts G b = 1) :
    Calls Try.prog 48 #[v, g, vi a, vi b, vi 3] w fun e w' => e = .returned (.bool (hasR3 ts G ta tb b)) ∧ Below w.heap.size w w' := by
  have ha := (List.getElem?_eq_some_iff.1 hta).1
  have hb := (List.getElem?_eq_some_iff.1 htb).1
  obtain ⟨av, nv, cv, rfl, rfl, hm, hcl⟩ := hv.at
  have hok2 := (hok.2 ta (List.mem_of_getElem? hta)).2
  obtain ⟨gb, off, oa, oc, rfl, hra, y0', y1', y2'⟩ := hcl a ta hta
  obtain ⟨gb', off'', oa', oc', e8, hrb, u0', u1', u2'⟩ := hcl b tb htb
  cases e8
  have HRA := Lib.hid hra
  have HRB := Lib.hid hrb
  have HV := Lib.hid hv
  have HG := Lib.hid hg
  have HOK := Lib.hid hok
  have d : ((a : Int) == (b : Int)) = false := by simp; omega
  have HDA := Lib.hid hda
  have HDB := Lib.hid hdb
  have a1 : (a : Int) < ts.length := by omega
  have a0 : (0 : Int) ≤ (a : Int) := by omega
  have b1 : (b : Int) < ts.length := by omega
  have b0 : (0 : Int) ≤ (b : Int) := by omega
  have HFB := Lib.hid (show hasR3 ts G ta tb b = (readsM ta).any (r3B ts G tb b) from rfl)
  clear hv hg hok hta htb hda hdb hab hra hrb hcl
  go_enter Try.func48, Try.ntmps48
  go_wp2_with (first
    | (go_at_call 60; ((with_reducible refine (refIs_call _ g ts G b w1 (HV.out.later HB1.out) HOK.out (HG.out.later HB1.out) hb).mono ?_); rw [HDB.out]; rintro e2 w2 ⟨rfl, hb2⟩; have HB2 := Lib.hid (HB1.out.trans (hb2.mono HB1.out.size)); have y0 := cell_later HB2.out y0'; have y1 := cell_later HB2.out y1'; have y2 := cell_later HB2.out y2'; clear hb2))
    | (go_at_call 60; ((with_reducible refine (refIs_call _ g ts G a w HV.out HOK.out HG.out ha).mono ?_); rw [HDA.out]; rintro e1 w1 ⟨rfl, hb1⟩; have HB1 := Lib.hid hb1; clear hb1))
    | (go_at_call 70; refine (refReads_call ta.client ta.state _ ta.ops w2 (HRA.out.later HB2.out) hok2).mono ?_; rintro e3 w3 ⟨v3, rfl, ho3, hb3⟩; obtain ⟨a3, l3, c3, rfl, e9, hm3, -⟩ := ho3.rd.at; subst e9; have HO3 := Lib.hid ho3.rd; have HB3 := Lib.hid (HB2.out.trans (hb3.mono HB2.out.size)); clear ho3 hb3))
  obtain ⟨rs, hrs⟩ : ∃ rs, rs = readsM ta := ⟨_, rfl⟩
  have HO4 := Lib.hid (show RdOps w3 (.slice a3 rs.length c3) rs from by rw [hrs]; exact HO3.out)
  have hrl : rs.length ≤ 9223372036854775807 := by rw [hrs]; exact hm3
  rw [show (readsM ⟨ta.client, ta.state, ta.ops⟩).length = rs.length from by rw [hrs]]
  rw [← hrs] at HFB
  clear hrs HO3 hm3 y0 y1 y2 y0' y1' y2'
  go_loopw [96] (fun i wr => ∃ k : Nat, k ≤ rs.length ∧ i = .int .i64 k ∧ Hid (Below w3.heap.size w3 wr ∧ (rs.take k).any (r3B ts G tb b) = false)) (fun i _ => rs.length - (intOf i).toNat)
  case atStart => exact ⟨0, Nat.zero_le _, rfl, Lib.hid ⟨Below.refl _ _, rfl⟩⟩
  case round =>
    obtain ⟨wj, rfl⟩ : ∃ wj : World, wj = wr := ⟨_, rfl⟩
    obtain ⟨k, hk, rfl, HJ⟩ := hrel
    have HBJ := Lib.hid (HB3.out.trans (HJ.out.1.mono HB3.out.size))
    by_cases hlt : k < rs.length
    · have k1 : decide ((k : Int) < rs.length) = true := decide_eq_true (by omega)
      have k2 : (k : Int) < rs.length := by omega
      have hwk : IntKind.i64.wrap ((k : Int) + 1) = (k : Int) + 1 := IntWalk.i64_in _ (by omega)
      obtain ⟨o, ho⟩ := some_at hlt
      obtain ⟨_, _, _, e5, -, -, hcl⟩ := (HO4.out.later HJ.out.1).at
      cases e5
      obtain ⟨b', off', rfl, z0, z1, z2⟩ := hcl k o ho
      have HNX := Lib.hid (show (rs.take (k + 1)).any (r3B ts G tb b) = ((rs.take k).any (r3B ts G tb b) || r3B ts G tb b o) from by rw [take_at ho, List.any_append]; simp)
      have HYES := Lib.hid (show r3B ts G tb b o = true → rs.any (r3B ts G tb b) = true from fun h => List.any_eq_true.2 ⟨o, List.mem_of_getElem? ho, h⟩)
      have HX := Lib.hid (alloc_at wj (.cells #[vi o.kind, vi o.key, vi o.val] 48))
      have HBA := Lib.hid (HJ.out.1.alloc HJ.out.1.size (.cells #[vi o.kind, vi o.key, vi o.val] 48))
      have HBB := Lib.hid (HBJ.out.alloc HBJ.out.size (.cells #[vi o.kind, vi o.key, vi o.val] 48))
      clear hcl ho
      go_upto_region 21 with fail
      clear z0 z1 z2
      generalize wj.alloc (.cells #[vi o.kind, vi o.key, vi o.val] 48) = wa at *
      obtain ⟨ob, hob⟩ : ∃ ob, ob = wj.heap.size := ⟨_, rfl⟩
      rw [← hob] at HX ⊢
      clear hob
      have x1 : wa.cell? ⟨ob, 1, none⟩ = some (vi o.key) := by rw [cell_of HX.out]; rfl
      have u0 := cell_later HBB.out u0'
      have u1 := cell_later HBB.out u1'
      have u2 := cell_later HBB.out u2'
      have HRD := Lib.hid (show RdOps wa.drew (.slice oa' tb.ops.length oc') tb.ops from (show RdOps wa (.slice oa' tb.ops.length oc') tb.ops from HRB.out.later HBB.out))
      cases h1 : wrB tb o.key with
      | false =>
        have HF := Lib.hid (show r3B ts G tb b o = false from by unfold r3B; rw [h1]; rfl)
        have H1 := Lib.hid h1
        clear h1
        go_still_tail 6, (by kernel_rfl)
        change wpList _ _ _ _ _ wa.drew
        go_wp2_with (go_at_call 83; refine (wr10_call tb _ o.key wa.drew HRD.out).mono ?_; rw [H1.out]; rintro e4 w4 ⟨rfl, hb4⟩; have HB4 := Lib.hid (HBA.out.trans ((((Below.refl wa.heap.size wa).drew).trans hb4).mono HBA.out.size)); clear hb4)
        exact ⟨⟨k + 1, by omega, by go_num, Lib.hid ⟨HB4.out, by rw [HNX.out, HF.out, HJ.out.2]; rfl⟩⟩, by simp only [intOf]; omega⟩
      | true =>
        have H1 := Lib.hid h1
        obtain ⟨z, hz⟩ : ∃ z, z = writerM ts o.key o.val := ⟨_, rfl⟩
        have HZ := Lib.hid hz
        have HZB := Lib.hid (show z = -1 ∨ ∃ n : Nat, z = n ∧ n < ts.length from by rw [hz]; exact writerM_lt)
        have HR3 := Lib.hid (show r3B ts G tb b o = (o.val == 0 || r3W ts G b o.key z) from by unfold r3B; rw [h1, ← hz]; rfl)
        clear h1 hz
        go_still_tail 6, (by kernel_rfl)
        change wpList _ _ _ _ _ wa.drew
        go_upto_region 23 with (first
          | (go_at_call 83; refine (wr10_call tb _ o.key wa.drew HRD.out).mono ?_; rw [H1.out]; rintro e4 w4 ⟨rfl, hb4⟩; have hb4' := ((Below.refl wa.heap.size wa).drew).trans hb4; have HB4 := Lib.hid (HBA.out.trans (hb4'.mono HBA.out.size)); have HBB4 := Lib.hid (HBB.out.trans (hb4'.mono HBB.out.size)); have HX4 := Lib.hid ((hb4'.block ob (Array.getElem?_eq_some_iff.1 HX.out).1).trans HX.out); have x1 : w4.cell? ⟨ob, 1, none⟩ = some (vi o.key) := (by rw [cell_of HX4.out]; rfl); have x2 : w4.cell? ⟨ob, 2, none⟩ = some (vi o.val) := (by rw [cell_of HX4.out]; rfl); clear hb4 hb4')
          | (go_at_call 71; refine (writer_call _ ts o.key o.val w4 (HV.out.later HBB4.out)).mono ?_; rw [← HZ.out]; rintro e5 w5 ⟨rfl, hb5⟩; have HB5 := Lib.hid (HB4.out.trans (hb5.mono HB4.out.size)); have HBB5 := Lib.hid (HBB4.out.trans (hb5.mono HBB4.out.size)); have HX5 := Lib.hid ((hb5.block ob (Array.getElem?_eq_some_iff.1 HX4.out).1).trans HX4.out); clear hb5))
        have x1 : w5.cell? ⟨ob, 1, none⟩ = some (vi o.key) := by rw [cell_of HX5.out]; rfl
        have x2 : w5.cell? ⟨ob, 2, none⟩ = some (vi o.val) := by rw [cell_of HX5.out]; rfl
        clear u0 u1 u2
        cases h2 : (o.val == 0) with
        | true =>
          have HF := Lib.hid (HYES.out (by rw [HR3.out, h2]; rfl))
          go_wp2_with fail
          go_ret
          exact ⟨by rw [HFB.out, HF.out]; rfl, HBB5.out⟩
        | false =>
          have HR4 := Lib.hid (show r3B ts G tb b o = r3W ts G b o.key z from by rw [HR3.out, h2]; rfl)
          rcases HZB.out with h3 | ⟨n, h3, hn⟩
          · subst h3
            have HF := Lib.hid (show r3B ts G tb b o = false from by rw [HR4.out]; rfl)
            go_wp2_with fail
            exact ⟨⟨k + 1, by omega, by go_num, Lib.hid ⟨HB5.out, by rw [HNX.out, HF.out, HJ.out.2]; rfl⟩⟩, by simp only [intOf]; omega⟩
          · subst h3
            have n0 : (0 : Int) ≤ (n : Int) := by omega
            have HR5 := Lib.hid (show r3B ts G tb b o = ((n : Int) != (b : Int) && (isI ts G n == 1 && aheadB G o.key n b)) from by rw [HR4.out]; unfold r3W; rw [decide_eq_true n0, Int.toNat_natCast]; rfl)
            cases h4 : ((n : Int) != (b : Int)) with
            | false =>
              have HF := Lib.hid (show r3B ts G tb b o = false from by rw [HR5.out, h4]; rfl)
              go_wp2_with fail
              exact ⟨⟨k + 1, by omega, by go_num, Lib.hid ⟨HB5.out, by rw [HNX.out, HF.out, HJ.out.2]; rfl⟩⟩, by simp only [intOf]; omega⟩
            | true =>
              obtain ⟨y, hy⟩ : ∃ y, y = isI ts G n := ⟨_, rfl⟩
              have HY := Lib.hid hy
              cases h5 : (y == 1) with
              | false =>
                have HF := Lib.hid (show r3B ts G tb b o = false from by rw [HR5.out, h4, ← hy, h5]; rfl)
                clear hy
                go_wp2_with (go_at_call 60; ((with_reducible refine (refIs_call _ g ts G n w5 (HV.out.later HBB5.out) HOK.out (HG.out.later HBB5.out) hn).mono ?_); rw [← HY.out]; rintro e6 w6 ⟨rfl, hb6⟩; have HB6 := Lib.hid (HB5.out.trans (hb6.mono HB5.out.size)); clear hb6))
                exact ⟨⟨k + 1, by omega, by go_num, Lib.hid ⟨HB6.out, by rw [HNX.out, HF.out, HJ.out.2]; rfl⟩⟩, by simp only [intOf]; omega⟩
              | true =>
                obtain ⟨q, hq⟩ : ∃ q, q = aheadB G o.key n b := ⟨_, rfl⟩
                have HQ := Lib.hid hq
                have HF := Lib.hid (show r3B ts G tb b o = q from by rw [HR5.out, h4, ← hy, h5, hq]; rfl)
                clear hy hq
                cases q with
                | false =>
                  go_wp2_with (first
                    | (go_at_call 62; ((with_reducible refine (ahead_call g G o.key n b w6 (HG.out.later HBB6.out)).mono ?_); rw [← HQ.out]; rintro e7 w7 ⟨rfl, hb7⟩; have HB7 := Lib.hid (HB6.out.trans (hb7.mono HB6.out.size)); clear hb7))
                    | (go_at_call 60; ((with_reducible refine (refIs_call _ g ts G n w5 (HV.out.later HBB5.out) HOK.out (HG.out.later HBB5.out) hn).mono ?_); rw [← HY.out]; rintro e6 w6 ⟨rfl, hb6⟩; have HB6 := Lib.hid (HB5.out.trans (hb6.mono HB5.out.size)); have HBB6 := Lib.hid (HBB5.out.trans (hb6.mono HBB5.out.size)); have x1 : w6.cell? ⟨ob, 1, none⟩ = some (vi o.key) := (by rw [cell_of ((hb6.block ob (Array.getElem?_eq_some_iff.1 HX5.out).1).trans HX5.out)]; rfl); clear hb6)))
                  exact ⟨⟨k + 1, by omega, by go_num, Lib.hid ⟨HB7.out, by rw [HNX.out, HF.out, HJ.out.2]; rfl⟩⟩, by simp only [intOf]; omega⟩
                | true =>
                  go_wp2_with (first
                    | (go_at_call 62; ((with_reducible refine (ahead_call g G o.key n b w6 (HG.out.later HBB6.out)).mono ?_); rw [← HQ.out]; rintro e7 w7 ⟨rfl, hb7⟩; have HBB7 := Lib.hid (HBB6.out.trans (hb7.mono HBB6.out.size)); clear hb7))
                    | (go_at_call 60; ((with_reducible refine (refIs_call _ g ts G n w5 (HV.out.later HBB5.out) HOK.out (HG.out.later HBB5.out) hn).mono ?_); rw [← HY.out]; rintro e6 w6 ⟨rfl, hb6⟩; have HB6 := Lib.hid (HB5.out.trans (hb6.mono HB5.out.size)); have HBB6 := Lib.hid (HBB5.out.trans (hb6.mono HBB5.out.size)); have x1 : w6.cell? ⟨ob, 1, none⟩ = some (vi o.key) := (by rw [cell_of ((hb6.block ob (Array.getElem?_eq_some_iff.1 HX5.out).1).trans HX5.out)]; rfl); clear hb6)))
                  go_ret
                  exact ⟨by rw [HFB.out, HYES.out HF.out]; rfl, HBB7.out⟩
    · have k1 : decide ((k : Int) < rs.length) = false := decide_eq_false (by omega)
      have HF := Lib.hid (show rs.any (r3B ts G tb b) = false from by
        have h := HJ.out.2
        rw [List.take_of_length_le (by omega)] at h
        exact h)
      go_wp2_with fail
      go_ret
      exact ⟨by rw [HFB.out, HF.out]; rfl, HBJ.out⟩
end Go.Proofs.Ytefpmcbpodlabaa
