/- Texts of one proof, one behind the other: Of, Made, Bound, Head, RdEv, Range, RefC. -/
import Derived.Test.YtjpmimanigjjoaaJo4
import Derived.Test.YtjpmimanigjjoaaJo3
import Derived.Test.YtjpmimanigjjoaaJo1
import Derived.Deep.Strs
import Derived.Maps.Range
set_option linter.all false
/- crucibleref05.Of: when its error is 0, the transactions are good ones. -/
namespace Go.Proofs.Ytjpmimanigjjoaa
open Go.RowKit Go.Maps

/-- What crucibleref05.Of answers. -/
def OfQ (w : World) (r : Ending) (w' : World) : Prop := ∃ (v : Value) (p err : Int), r = .returned (.tuple #[v, .int .i64 p, .int .i64 err]) ∧ (err = 0 → ∃ ts, RdTxns w' v ts ∧ GoodTs ts) ∧ Below w.heap.size w w'
def OfQ2 (w : World) (r : Ending) (w' : World) : Prop := ∃ (v : Value) (p err : Int), r = .returned (.tuple #[v, .int .i64 p, .int .i64 err]) ∧ (err = 0 → ∃ ts, RdTxns w' v ts ∧ GoodTs ts) ∧ (∃ a n c, v = .slice a n c) ∧ Below w.heap.size w w'
theorem OfQ2.bad {w w' : World} {r : Ending} {p err : Int} (h : r = .returned (.tuple #[.slice none 0 0, .int .i64 p, .int .i64 err])) (he : err ≠ 0) (hb : Below w.heap.size w w') : OfQ2 w r w' := ⟨_, p, err, h, fun h => absurd h he, ⟨_, _, _, rfl⟩, hb⟩
theorem OfQ2.good {w w' : World} {r : Ending} {v : Value} {ts : List GTxn} (h : r = .returned (.tuple #[v, .int .i64 0, .int .i64 0])) (hr : RdTxns w' v ts) (hg : GoodTs ts) (hb : Below w.heap.size w w') : OfQ2 w r w' := ⟨v, 0, 0, h, fun _ => ⟨ts, hr, hg⟩, by obtain ⟨a, n, c, rfl, -⟩ := hr; exact ⟨_, _, _, rfl⟩, hb⟩

set_option maxRecDepth 100000 in
set_option maxHeartbeats 16000000 in
theorem of_call2 (v : Value) (es : List GEvent) (w : World) (hv : RdEvents w v es) (hes : es.length ≤ 60) :
    Calls Try.prog 25 #[v] w (OfQ2 w) := by
  have HV := Lib.hid hv
  obtain ⟨a, len, cap, rfl, rfl, hm, -⟩ := hv.at
  clear hv
  have hesI : ¬ (es.length : Int) > 400 := by omega
  have hO1 := World.ownsRow_lit (base := w.heap.size) (e := 54) (size := 3) w #[] 0 (Nat.le_refl _) (by simp [maxLen]) rfl
  have hO2 := World.ownsRow_lit (base := w.heap.size) (e := 3) (size := 1) (w.alloc (.cells #[] 54)) #[] 0 (by simp) (by simp [maxLen]) rfl
  have hS : OfS w (.slice (some ⟨w.heap.size, 0, none⟩) 0 0) (.slice (some ⟨w.heap.size + 1, 0, none⟩) 0 0) [] [] ((w.alloc (.cells #[] 54)).alloc (.cells #[] 3)) :=
    ⟨hO1.alloc _, (fun p hp => by cases hp), by simpa using hO2, ((Below.refl _ _).alloc (Nat.le_refl _) _).alloc (by simp) _⟩
  have HS0 := Lib.hid hS
  clear hO1 hO2 hS
  go_enter Try.func25, Try.ntmps25
  go_wp2_with fail
  go_loopw [5, 6, 7, 8, 9, 10, 11, 12, 20] (fun vo vf _ _ _ _ _ _ n wr => ∃ (i : Nat) (L : TxL) (F : List Nat), i ≤ es.length ∧ n = .int .i64 i ∧ OfS w vo vf L F wr ∧ OfInv es i (L.map (·.1)) F) (fun _ _ _ _ _ _ _ _ n _ => es.length - (intOf n).toNat)
  case atStart => exact ⟨0, [], [], Nat.zero_le _, rfl, HS0.out, OfInv.start es⟩
  case round =>
    obtain ⟨wi, rfl⟩ : ∃ wi : World, wi = wr := ⟨_, rfl⟩
    obtain ⟨i, L, F, hi, rfl, hs, hinv⟩ := hrel
    have HS := Lib.hid hs
    have HI := Lib.hid hinv
    have HB := Lib.hid hs.below
    have hwi := hs.below.size
    clear hs hinv
    by_cases hlt : i < es.length
    · obtain ⟨e, he⟩ := some_at hlt
      obtain ⟨_, _, _, e5, -, -, hcl⟩ := HV.out.at
      cases e5
      obtain ⟨b, off, oa, oc, rfl, hr, k0', k1', k2'⟩ := hcl i e he
      have k0 := cell_later HB.out k0'
      have k1 := cell_later HB.out k1'
      have k2 := cell_later HB.out k2'
      have hiI : (i : Int) < (es.length : Int) := by omega
      have hmo : e.ops.length ≤ 9223372036854775807 := by obtain ⟨_, _, _, _, _, h, _⟩ := hr.at; exact h
      have HE := Lib.hid he
      have HR := Lib.hid hr
      have HC := Lib.hid hcl
      clear hcl he hr k0' k1' k2'
      go_upto_region 8 with fail
      have HB1 := Lib.hid (HB.out.alloc hwi (.cells #[vi e.kind, vi e.client, .slice oa e.ops.length oc] 72))
      have HS1 := Lib.hid (HS.out.more (.cells #[vi e.kind, vi e.client, .slice oa e.ops.length oc] 72))
      have HX1 := Lib.hid (alloc_at wi (.cells #[vi e.kind, vi e.client, .slice oa e.ops.length oc] 72))
      have hw1 : (wi.alloc (.cells #[vi e.kind, vi e.client, .slice oa e.ops.length oc] 72)).heap.size = wi.heap.size + 1 := by simp
      have q0 : (wi.alloc (.cells #[vi e.kind, vi e.client, .slice oa e.ops.length oc] 72)).cell? ⟨wi.heap.size, 0, none⟩ = some (vi e.kind) := by rw [cell_of (alloc_at _ _)]; rfl
      have q1 : (wi.alloc (.cells #[vi e.kind, vi e.client, .slice oa e.ops.length oc] 72)).cell? ⟨wi.heap.size, 1, none⟩ = some (vi e.client) := by rw [cell_of (alloc_at _ _)]; rfl
      have q2 : (wi.alloc (.cells #[vi e.kind, vi e.client, .slice oa e.ops.length oc] 72)).cell? ⟨wi.heap.size, 2, none⟩ = some (.slice oa e.ops.length oc) := by rw [cell_of (alloc_at _ _)]; rfl
      have HR1 := Lib.hid (HR.out.later (HB1.out))
      clear k0 k1 k2
      generalize wi.alloc (.cells #[vi e.kind, vi e.client, .slice oa e.ops.length oc] 72) = w1 at *
      have hw1' : wi.heap.size < w1.heap.size := by omega
      go_cut [27] (fun r wx => (∃ b', r = .bool b' ∧ (b' = false → GoodEv e)) ∧ Below w1.heap.size w1 wx)
      case first =>
        go_wp2_with (go_at_call 44; refine (right_call e _ _ HR1.out).mono ?_; rintro r w2 ⟨b', rfl, hgood, hb2⟩)
        go_meet
        exact ⟨⟨_, rfl, fun h => hgood (by simpa using h)⟩, hb2⟩
      case rest =>
        obtain ⟨⟨b', rfl, hgood⟩, hb2⟩ := hcut
        cases b' with
        | true =>
          go_wp2_with fail
          go_ret3
          exact .bad rfl (by omega) (HB1.out.trans (hb2.mono HB1.out.size))
        | false =>
          have HG := Lib.hid (hgood rfl)
          have hol : e.ops.length ≤ 12 := HG.out.len
          have HB2 := Lib.hid hb2
          have hw2 := hb2.size
          have Q0 := Lib.hid q0
          have Q1 := Lib.hid q1
          have Q2 := Lib.hid q2
          clear hgood hb2 q0 q1 q2
          go_upto_region 11 with (go_at_call 45; refine (last_call _ es i _ (HV.out.later (HB1.out.trans (HB2.out.mono HB1.out.size))) hlt).mono ?_; rintro r w3 ⟨p, rfl, hp1, hp2, hb3⟩)
          have HB3 := Lib.hid (HB2.out.trans (hb3.mono hw2))
          have HBW := Lib.hid (HB1.out.trans (HB3.out.mono HB1.out.size))
          have hw3 := HB3.out.size
          have q0 := cell_later HB3.out Q0.out
          have q1 := cell_later HB3.out Q1.out
          have q2 := cell_later HB3.out Q2.out
          have hw13 : wi.heap.size < w3.heap.size := by omega
          have HX3 := Lib.hid (show w3.heap[wi.heap.size]? = some (.cells #[vi e.kind, vi e.client, .slice oa e.ops.length oc] 72) from (HB3.out.block _ hw1').trans HX1.out)
          have HS3 := Lib.hid (HS1.out.later HB3.out)
          have Q0' := Lib.hid q0
          have Q1' := Lib.hid q1
          have Q2' := Lib.hid q2
          clear hb3
          go_cut [10] (fun vo wx => (∃ bo, vo = .bool bo ∧ (bo = true → ∃ (q : Nat) (eq : GEvent), p = q ∧ q < i ∧ es[q]? = some eq ∧ eq.kind = 1)) ∧ wx = w3)
          case first =>
            by_cases hp : 0 ≤ p
            · obtain ⟨q, rfl⟩ := Int.eq_ofNat_of_zero_le hp
              have hqi : q < i := by omega
              have hqI : (q : Int) < (es.length : Int) := by omega
              obtain ⟨eq, heq⟩ := some_at (l := es) (k := q) (by omega)
              obtain ⟨_, _, _, _, e6, -, m0', -, -⟩ := HC.out q eq heq
              simp only [Option.some.injEq, Addr.mk.injEq, and_true] at e6
              obtain ⟨rfl, rfl⟩ := e6
              have m0 := cell_later HBW.out m0'
              clear m0'
              have HQ := Lib.hid heq
              clear heq
              by_cases h1 : eq.kind = 1
              · have c1 := beq_t h1
                have H1 := Lib.hid h1
                clear h1
                go_wp2_with fail
                go_meet
                exact ⟨⟨true, rfl, fun _ => ⟨q, eq, rfl, hqi, HQ.out, H1.out⟩⟩, rfl⟩
              · have c1 := beq_f h1
                clear h1
                go_wp2_with fail
                go_meet
                exact ⟨⟨false, rfl, fun h => by cases h⟩, rfl⟩
            · go_wp2_with fail
              go_meet
              exact ⟨⟨false, rfl, fun h => by cases h⟩, rfl⟩
          case rest =>
            obtain ⟨⟨bo, rfl, hk⟩, hwx⟩ := hcut
            replace hwx := hwx.symm
            subst hwx
            have HK := Lib.hid hk
            clear hk
            cases bo with
            | true =>
              by_cases h1 : e.kind = 1
              · have c1 := beq_t h1
                clear h1
                go_wp2_with fail
                go_ret3
                exact .bad rfl (by omega) HBW.out
              · have c1 := beq_f h1
                have H1 := Lib.hid h1
                clear h1
                go_upto_region 19 with fail
                obtain ⟨q, eq, hpq, hqi, hq, hk1⟩ := HK.out rfl
                subst hpq
                have HQ := Lib.hid hq
                have HQ1 := Lib.hid hk1
                have hFl : F.length ≤ i := HI.out.le
                have hLl : L.length = F.length := by have := HI.out.len; simpa using this
                obtain ⟨a5, c5, a6, c6, rfl, rfl⟩ := HS.out.shapes hLl
                have hqI : (q : Int) < (es.length : Int) := by omega
                obtain ⟨_, _, oa3, oc3, e6, hr3, -, -, m2'⟩ := HC.out q eq hq
                simp only [Option.some.injEq, Addr.mk.injEq, and_true] at e6
                obtain ⟨rfl, rfl⟩ := e6
                have m2 := cell_later HBW.out m2'
                have HR3 := Lib.hid (hr3.later HBW.out)
                have HRw := Lib.hid (HR.out.later HBW.out)
                clear hq hk1 hr3 m2'
                by_cases h2 : e.kind = 2
                · have c2 := beq_t h2
                  have c3 := bne_f h2
                  clear h2
                  go_upto_region 22 with fail
                  go_cut [11] (fun v wx => (∃ n : Int, v = .int .i64 n ∧ (n = 0 → eq.ops.length = e.ops.length ∧ ShapeN eq.ops e.ops e.ops.length)) ∧ Below w3.heap.size w3 wx)
                  case first =>
                    go_still_tail 7, (by kernel_rfl)
                    change wpList _ _ _ _ _ w3.drew
                    go_wp2_with (go_at_call 47; refine (answer_call _ _ eq.ops e.ops _ (HR3.out.later ((Below.refl _ _).drew)) (HRw.out.later ((Below.refl _ _).drew))).mono ?_; rintro r w4 ⟨n, rfl, hn, hb4⟩)
                    go_meet
                    exact ⟨⟨n, rfl, hn⟩, ((Below.refl w3.heap.size w3).drew).trans hb4⟩
                  case rest =>
                    obtain ⟨wx, rfl⟩ : ∃ wx : World, wx = wc := ⟨_, rfl⟩
                    obtain ⟨⟨n, rfl, hn⟩, hb4⟩ := hcut
                    have HB4 := Lib.hid hb4
                    have hw4 := hb4.size
                    clear hb4
                    by_cases hn0 : n = 0
                    · have HA := Lib.hid (hn hn0)
                      subst hn0
                      have HS4 := Lib.hid (HS3.out.later HB4.out)
                      have HX4 := Lib.hid ((HB4.out.block _ hw13).trans HX3.out)
                      clear hn q0 q1 q2 m2
                      go_wp2_with fail
                      go_loopw [12, 96] (fun _ n wr => ∃ (k : Nat) (L' : TxL), k ≤ F.length ∧ n = .int .i64 k ∧ L'.length = F.length ∧ OfS w (.slice a5 F.length c5) (.slice a6 F.length c6) L' F wr ∧ OfInv es (i + 1) (L'.map (·.1)) F ∧ wr.heap[wi.heap.size]? = some (.cells #[vi e.kind, vi e.client, .slice oa e.ops.length oc] 72)) (fun _ n _ => F.length - (intOf n).toNat)
                      case atStart => exact ⟨0, L, Nat.zero_le _, rfl, hLl, HS4.out, HI.out.over HE.out HG.out (fun h => absurd h H1.out), HX4.out⟩
                      case round =>
                        obtain ⟨wk, rfl⟩ : ∃ wk : World, wk = wr := ⟨_, rfl⟩
                        obtain ⟨k, L', hk, rfl, hl', hs, hinv, hbox⟩ := hrel
                        have HSk := Lib.hid hs
                        have HIk := Lib.hid hinv
                        have HXk := Lib.hid hbox
                        have HBk := Lib.hid hs.below
                        have hwk := hs.below.size
                        have hLI := Lib.hid hl'
                        clear hs hinv hbox hl'
                        by_cases hlk : k < F.length
                        · have hkI : (k : Int) < (F.length : Int) := by omega
                          obtain ⟨f, hf⟩ := some_at hlk
                          obtain ⟨p', hp'⟩ := some_at (l := L') (k := k) (by rw [hLI.out]; exact hlk)
                          obtain ⟨g, gf, rfl, rfl⟩ := HSk.out.shapes_at hLI.out (by omega)
                          have f0 := HSk.out.frm_at hf
                          have s1 := HSk.out.out_at hp' (i := 1) rfl
                          have s2 := HSk.out.out_at hp' (i := 2) rfl
                          have z1 := HSk.out.out_free hLI.out.symm (k * 3 + 1)
                          have q0 : wk.cell? ⟨wi.heap.size, 0, none⟩ = some (vi e.kind) := by rw [cell_of HXk.out]; rfl
                          have HF := Lib.hid hf
                          have HP := Lib.hid hp'
                          clear hf hp'
                          by_cases hfq : (f : Int) = (q : Int)
                          · have g1 := beq_t hfq
                            have HFQ := Lib.hid (show f = q by omega)
                            clear hfq
                            go_upto_region 30 with fail
                            have HSn := Lib.hid (HSk.out.set hLI.out.symm HP.out (i := 1) (p' := (⟨p'.1.client, 1, p'.1.ops⟩, p'.2)) (u := vi 1) (by decide) rfl (HSk.out.ops p' (List.mem_of_getElem? HP.out)))
                            have HXn := Lib.hid (HSk.out.box hLI.out.symm HXk.out (k * 3 + 1) (vi 1))
                            clear f0 s1 s2 z1 q0
                            generalize wk.setCell ⟨g, k * 3 + 1, none⟩ (vi 1) = wa at *
                            have HLn := Lib.hid (show (L'.set k (⟨p'.1.client, 1, p'.1.ops⟩, p'.2)).length = F.length by rw [List.length_set]; exact hLI.out)
                            have HPn := Lib.hid (show (L'.set k (⟨p'.1.client, 1, p'.1.ops⟩, p'.2))[k]? = some (⟨p'.1.client, 1, p'.1.ops⟩, p'.2) from List.getElem?_set_self (by rw [hLI.out]; exact hlk))
                            have hwa := HSn.out.below.size
                            have hwb : wi.heap.size < wa.heap.size := (Array.getElem?_eq_some_iff.1 HXn.out).1
                            have q2 : wa.cell? ⟨wi.heap.size, 2, none⟩ = some (.slice oa e.ops.length oc) := by rw [cell_of HXn.out]; rfl
                            have HRa := Lib.hid ((HR.out.later HSn.out.below).later ((Below.refl wa.heap.size wa).alloc (Nat.le_refl _) (.cells #[] 56)))
                            have HO := Lib.hid (World.ownsRow_lit (base := wa.heap.size) (e := 56) (size := 3) wa #[] 0 (Nat.le_refl _) (by simp [maxLen]) rfl)
                            have HBa := Lib.hid ((Below.refl wa.heap.size wa).alloc (Nat.le_refl _) (.cells #[] 56))
                            go_upto_region 31 with (at_builtin; refine wpList_append_src rfl _ _ 52 rfl eltOp wa.heap.size 0 [] HO.out rfl e.ops.length _ HRa.out.src rfl opV_one (by omega) (by omega) (by simp) ?_; intro v2 w5 hown2 hg2 _; have HO2 := Lib.hid (show OwOps wa.heap.size w5 v2 e.ops by simpa [OwOps] using hown2); have HB5 := Lib.hid (HBa.out.grown hg2 (by simp) (by simp [Value.ownBlock])); have hr2 := HO2.out.rd; obtain ⟨av, nv, cv, rfl, rfl, hmv, -⟩ := hr2.at; have HS5 := Lib.hid (HSn.out.later HB5.out); have s2 := HS5.out.out_at HPn.out (i := 2) rfl; have z2 := HS5.out.out_free HLn.out.symm (k * 3 + 2); clear hown2 hg2 hr2)
                            have HSz := Lib.hid (HS5.out.set HLn.out.symm HPn.out (i := 2) (p' := (⟨p'.1.client, 1, e.ops⟩, .slice av e.ops.length cv)) (u := .slice av e.ops.length cv) (by decide) rfl (own_mono HO2.out hwa))
                            have HX5 := Lib.hid ((HB5.out.block _ hwb).trans HXn.out)
                            have HXz := Lib.hid (HS5.out.box HLn.out.symm HX5.out (k * 3 + 2) (.slice av e.ops.length cv))
                            clear q2 s2 z2
                            generalize w5.setCell ⟨g, k * 3 + 2, none⟩ (.slice av e.ops.length cv) = wz at *
                            have f0 := HSz.out.frm_at HF.out
                            have q0 : wz.cell? ⟨wi.heap.size, 0, none⟩ = some (vi e.kind) := by rw [cell_of HXz.out]; rfl
                            go_wp2_with fail
                            go_roundw
                            case rel =>
                              refine ⟨k + 1, _, by omega, by go_num, by rw [List.length_set]; exact HLn.out, HSz.out, ?_, HXz.out⟩
                              rw [List.set_set, List.map_set]
                              exact HIk.out.set (e := eq) HF.out (by show (0 : Int) ≤ 1 ∧ (1 : Int) ≤ 2; omega) HG.out.ops HG.out.len (by rw [HFQ.out]; exact HQ.out) HQ1.out (HA.out).1 (HA.out).2
                            case measure => simp [intOf]; omega
                          · have g1 := beq_f hfq
                            clear hfq
                            go_wp2_with fail
                            go_roundw
                            case rel => exact ⟨k + 1, L', by omega, by go_num, hLI.out, HSk.out, HIk.out, HXk.out⟩
                            case measure => simp [intOf]; omega
                        · obtain rfl : k = F.length := by omega
                          go_wp2_with fail
                          go_roundw
                          case rel => exact ⟨i + 1, L', F, by omega, by go_num, HSk.out, HIk.out⟩
                          case measure => simp [intOf]; omega
                    · have d1 := bne_t hn0
                      have HN := Lib.hid hn0
                      clear hn hn0
                      go_wp2_with fail
                      go_ret3
                      exact .bad rfl HN.out (HBW.out.trans (HB4.out.mono HBW.out.size))
                · have c2 := beq_f h2
                  have c3 := bne_t h2
                  clear h2
                  by_cases hlen : (0 : Int) < (e.ops.length : Int)
                  · go_wp2_with fail
                    go_ret3
                    exact .bad rfl (by omega) HBW.out
                  · have HS4 := Lib.hid HS3.out
                    have HX4 := Lib.hid HX3.out
                    clear m2 q1
                    go_wp2_with fail
                    go_loopw [12, 96] (fun _ n wr => ∃ (k : Nat) (L' : TxL), k ≤ F.length ∧ n = .int .i64 k ∧ L'.length = F.length ∧ OfS w (.slice a5 F.length c5) (.slice a6 F.length c6) L' F wr ∧ OfInv es (i + 1) (L'.map (·.1)) F ∧ wr.heap[wi.heap.size]? = some (.cells #[vi e.kind, vi e.client, .slice oa e.ops.length oc] 72)) (fun _ n _ => F.length - (intOf n).toNat)
                    case atStart => exact ⟨0, L, Nat.zero_le _, rfl, hLl, HS4.out, HI.out.over HE.out HG.out (fun h => absurd h H1.out), HX4.out⟩
                    case round =>
                      obtain ⟨wk, rfl⟩ : ∃ wk : World, wk = wr := ⟨_, rfl⟩
                      obtain ⟨k, L', hk, rfl, hl', hs, hinv, hbox⟩ := hrel
                      have HSk := Lib.hid hs
                      have HIk := Lib.hid hinv
                      have HXk := Lib.hid hbox
                      have HBk := Lib.hid hs.below
                      have hwk := hs.below.size
                      have hLI := Lib.hid hl'
                      clear hs hinv hbox hl'
                      by_cases hlk : k < F.length
                      · have hkI : (k : Int) < (F.length : Int) := by omega
                        obtain ⟨f, hf⟩ := some_at hlk
                        obtain ⟨p', hp'⟩ := some_at (l := L') (k := k) (by rw [hLI.out]; exact hlk)
                        obtain ⟨g, gf, rfl, rfl⟩ := HSk.out.shapes_at hLI.out (by omega)
                        have f0 := HSk.out.frm_at hf
                        have s1 := HSk.out.out_at hp' (i := 1) rfl
                        have s2 := HSk.out.out_at hp' (i := 2) rfl
                        have z1 := HSk.out.out_free hLI.out.symm (k * 3 + 1)
                        have q0 : wk.cell? ⟨wi.heap.size, 0, none⟩ = some (vi e.kind) := by rw [cell_of HXk.out]; rfl
                        have HF := Lib.hid hf
                        have HP := Lib.hid hp'
                        clear hf hp'
                        by_cases hfq : (f : Int) = (q : Int)
                        · have g1 := beq_t hfq
                          clear hfq
                          by_cases h3 : e.kind = 3
                          · have g2 := beq_t h3
                            clear h3
                            go_upto_region 33 with fail
                            have HSn := Lib.hid (HSk.out.set hLI.out.symm HP.out (i := 1) (p' := (⟨p'.1.client, 2, p'.1.ops⟩, p'.2)) (u := vi 2) (by decide) rfl (HSk.out.ops p' (List.mem_of_getElem? HP.out)))
                            have HXn := Lib.hid (HSk.out.box hLI.out.symm HXk.out (k * 3 + 1) (vi 2))
                            generalize wk.setCell ⟨g, k * 3 + 1, none⟩ (vi 2) = wa at *
                            go_wp2_with fail
                            go_roundw
                            case rel => exact ⟨k + 1, _, by omega, by go_num, by rw [List.length_set]; exact hLI.out, HSn.out, by rw [List.map_set]; exact HIk.out.state (by simp [HP.out]) HF.out (by omega), HXn.out⟩
                            case measure => simp [intOf]; omega
                          · have g2 := beq_f h3
                            clear h3
                            go_wp2_with fail
                            go_roundw
                            case rel => exact ⟨k + 1, L', by omega, by go_num, hLI.out, HSk.out, HIk.out, HXk.out⟩
                            case measure => simp [intOf]; omega
                        · have g1 := beq_f hfq
                          clear hfq
                          go_wp2_with fail
                          go_roundw
                          case rel => exact ⟨k + 1, L', by omega, by go_num, hLI.out, HSk.out, HIk.out, HXk.out⟩
                          case measure => simp [intOf]; omega
                      · obtain rfl : k = F.length := by omega
                        go_wp2_with fail
                        go_roundw
                        case rel => exact ⟨i + 1, L', F, by omega, by go_num, HSk.out, HIk.out⟩
                        case measure => simp [intOf]; omega
            | false =>
              by_cases h1 : e.kind = 1
              · have c1 := beq_t h1
                have H1 := Lib.hid h1
                clear h1
                go_upto_region 15 with fail
                go_cut [53] (fun r wx => (∃ b', r = .bool b' ∧ (b' = false → FreshN es e.ops i e.ops.length)) ∧ Below w3.heap.size w3 wx)
                case first =>
                  go_wp2_with (go_at_call 46; refine (twice_call _ es i e _ (HV.out.later HBW.out) HE.out).mono ?_; rintro r w4 ⟨b', rfl, hfr, hb4⟩)
                  go_meet
                  exact ⟨⟨_, rfl, hfr⟩, hb4⟩
                case rest =>
                  obtain ⟨wx, rfl⟩ : ∃ wx : World, wx = wc := ⟨_, rfl⟩
                  obtain ⟨⟨b', rfl, hfr⟩, hb4⟩ := hcut
                  have HB4 := Lib.hid hb4
                  have hw4 := hb4.size
                  clear hb4
                  cases b' with
                  | true =>
                    go_wp2_with fail
                    go_ret3
                    exact .bad rfl (by omega) (HBW.out.trans (HB4.out.mono HBW.out.size))
                  | false =>
                    have HF := Lib.hid (hfr rfl)
                    clear hfr
                    go_upto_region 17 with fail
                    have hFl : F.length ≤ i := HI.out.le
                    have hLl : L.length = F.length := by have := HI.out.len; simpa using this
                    have q1 := cell_later HB4.out Q1'.out
                    have q2 := cell_later HB4.out Q2'.out
                    have hw14 : wi.heap.size < wx.heap.size := by omega
                    have HS4 := Lib.hid (HS3.out.later HB4.out)
                    have HBX := Lib.hid (HBW.out.trans (HB4.out.mono HBW.out.size))
                    have hwx := HBX.out.size
                    have HR4 := Lib.hid (HR.out.later HBX.out)
                    have HO := Lib.hid (show (wx.drew.alloc (.cells #[] 56)).ownsRow wx.heap.size 56 3 (.slice (some ⟨wx.heap.size, 0, none⟩) 0 0) 0 [] from World.ownsRow_lit wx.drew #[] 0 (Nat.le_refl _) (by simp [maxLen]) rfl)
                    go_cut [5] (fun vo wy => ∃ ov, OfS w vo u6 (L ++ [(⟨e.client, 0, e.ops⟩, ov)]) F wy)
                    case first =>
                      go_region_law (first
                        | (refine step_append_src rfl _ _ 52 rfl eltOp wx.heap.size 0 [] HO.out rfl e.ops.length _ (HR4.out.later (((Below.refl wx.heap.size wx).drew).alloc (Nat.le_refl _) _)).src rfl opV_one (by omega) (by omega) (by simp) ?_; intro v2 w5 hown2 hg2 _; have HO2 := Lib.hid (show OwOps wx.heap.size w5 v2 e.ops by simpa [OwOps] using hown2); have HB5 := Lib.hid (((((Below.refl wx.heap.size wx).drew).alloc (Nat.le_refl _) _).grown hg2 (by simp) (by simp [Value.ownBlock]))); have hr2 := HO2.out.rd; obtain ⟨a2, len2, cap2, rfl, rfl, hm2, -⟩ := hr2.at; have z1 := cell_later HB5.out q1; clear hown2 hg2 hr2)
                        | (refine step_append_src rfl _ _ 25 rfl eltTxn w.heap.size L.length _ ((HS4.out.later HB5.out).more _).out rfl 1 (txV (⟨e.client, 0, e.ops⟩, .slice a2 e.ops.length cap2)) (src_new rfl rfl) rfl (txV_one rfl) (by omega) (by omega) (by have := HB5.out.size; simp; omega) ?_; intro v3 w6 hown3 hg3 _; have HS6 := Lib.hid (((HS4.out.later HB5.out).more _).push hg3 hown3 ((own_mono HO2.out hwx).alloc _)); clear hown3 hg3))
                      all_goals
                        go_wp2
                        go_meet
                        exact ⟨_, HS6.out⟩
                    case rest =>
                      obtain ⟨ov, hs6⟩ := hcut
                      have HS6 := Lib.hid hs6
                      have hwy := hs6.below.size
                      clear hs6 q1 q2
                      go_wp2_with (at_builtin; refine wpList_append_src rfl _ _ 23 rfl eltInt w.heap.size F.length _ (HS6.out.more _).frm rfl 1 [vi (i : Int)] (src_new (cs := #[vi (i : Int)]) rfl rfl) rfl (one_vi _) (by omega) (by omega) (by simp; omega) ?_; intro v4 w7 hown4 hg4 _; have HS7 := Lib.hid ((HS6.out.more _).pushF hg4 hown4); clear hown4 hg4)
                      go_roundw
                      case rel => exact ⟨i + 1, _, _, by omega, by go_num, HS7.out, by simpa using HI.out.begun HE.out HG.out H1.out HF.out⟩
                      case measure => simp [intOf]; omega
              · have c1 := beq_f h1
                clear h1
                go_wp2_with fail
                go_ret3
                exact .bad rfl (by omega) HBW.out
    · obtain rfl : i = es.length := by omega
      go_wp2_with fail
      go_ret3
      exact .good rfl HS.out.rd (HI.out.good hes) HB.out
theorem of_call (v : Value) (es : List GEvent) (w : World) (hv : RdEvents w v es) (hes : es.length ≤ 60) :
    Calls Try.prog 25 #[v] w (OfQ w) := (of_call2 v es w hv hes).mono fun _ _ ⟨v, p, err, h1, h2, _, h3⟩ => ⟨v, p, err, h1, h2, h3⟩
end Go.Proofs.Ytjpmimanigjjoaa

/- cruciblelaw09.made: a history's transactions, when there are few enough. -/
namespace Go.Proofs.Ytjpmimanigjjoaa
open Go.RowKit Go.Maps

/-- What cruciblelaw09.made answers. -/
def MadeQ (w : World) (r : Ending) (w' : World) : Prop := ∃ (v : Value) (b : Bool), r = .returned (.tuple #[v, .bool b]) ∧ (b = true → ∃ ts, RdTxns w' v ts ∧ GoodTs ts) ∧ Below w.heap.size w w'
theorem MadeQ.no {w w' : World} {r : Ending} {v : Value} (h : r = .returned (.tuple #[v, .bool false])) (hb : Below w.heap.size w w') : MadeQ w r w' := ⟨v, false, h, (fun h => by cases h), hb⟩
theorem MadeQ.of {w w' : World} {r : Ending} {v : Value} {b : Bool} (h : r = .returned (.tuple #[v, .bool b])) (hg : b = true → ∃ ts, RdTxns w' v ts ∧ GoodTs ts) (hb : Below w.heap.size w w') : MadeQ w r w' := ⟨v, b, h, hg, hb⟩

set_option maxRecDepth 100000 in
set_option maxHeartbeats 1000000 in
theorem made_call (v : Value) (es : List GEvent) (w : World) (hv : RdEvents w v es) :
    Calls Try.prog 9 #[v] w (MadeQ w) := by
  have HV := Lib.hid hv
  obtain ⟨a, len, cap, rfl, rfl, hm, -⟩ := hv.at
  clear hv
  go_enter Try.func9, Try.ntmps9
  by_cases hlen : (es.length : Int) > 60
  · go_wp2_with fail
    go_ret2
    exact .no rfl (Below.refl _ _)
  · go_wp2_with (go_at_call 25; refine (of_call _ es _ HV.out (by omega)).mono ?_; rintro r w1 ⟨v1, p, err, rfl, hg, hb⟩)
    go_ret2
    exact .of rfl (fun h => hg (by simpa using h)) hb
end Go.Proofs.Ytjpmimanigjjoaa

/- chains.Bound. -/
namespace Go.Proofs.Ytjpmimanigjjoaa
open Go.RowKit Go.Maps

def boundM (n : Nat) : Int := 2 ^ (min n 40 + 1) - 1

theorem choicesM_le (ts : List GTxn) (h : ts.length ≤ 4096) : (choicesM ts).length ≤ 4294967296 := by
  unfold choicesM
  rw [List.length_append]
  have h1 := cmS_le (sureM ts) ts ts.length
  have h2 := befK_le ts h 16
  omega

theorem pow_le40 {n : Nat} (h : n ≤ 40) : (1 : Int) ≤ 2 ^ n ∧ (2 : Int) ^ n ≤ 1099511627776 := by
  have h1 : 2 ^ n ≤ 2 ^ 40 := Nat.pow_le_pow_right (by decide) h
  have h2 : 1 ≤ 2 ^ n := Nat.one_le_two_pow
  have h3 : ((2 ^ n : Nat) : Int) = (2 : Int) ^ n := by simp
  rw [← h3]
  have : (2 : Nat) ^ 40 = 1099511627776 := by decide
  omega
theorem bound_wrap {n : Nat} (h : n ≤ 40) : wrap64 (wrap64 (2 * 2 ^ n) - 1) = (2 : Int) ^ (n + 1) - 1 := by
  obtain ⟨h1, h2⟩ := pow_le40 h
  rw [Int.pow_succ]
  generalize (2 : Int) ^ n = x at *
  unfold wrap64; omega

set_option maxRecDepth 100000 in
set_option maxHeartbeats 1000000 in
theorem bound_call (v : Value) (ts : List GTxn) (w : World) (hv : RdTxns w v ts) (hok : OkTxns ts) (htl : ts.length ≤ 4096) :
    Calls Try.prog 24 #[v] w fun e w' => e = .returned (vi (boundM (choicesM ts).length)) ∧ Below w.heap.size w w' := by
  have HV := Lib.hid hv
  have HOK := Lib.hid hok
  clear hv hok
  have hcl := choicesM_le ts htl
  go_enter Try.func24, Try.ntmps24
  go_upto_region 1 with fail
  go_wp2_with (go_at_call 15; refine (choices_call _ ts _ HV.out HOK.out htl).mono ?_; rintro e w1 ⟨v1, rfl, ho, hb⟩; have hr := ho.rd; obtain ⟨a, len, cap, rfl, rfl, hm, -⟩ := hr.at)
  · go_ret
    refine ⟨?_, hb⟩
    unfold boundM
    rw [Nat.min_eq_right (by omega)]
    exact congrArg (fun x => Ending.returned (vi x)) (show wrap64 (wrap64 2199023255552 - 1) = (2 : Int) ^ (40 + 1) - 1 by unfold wrap64; rfl)
  · go_ret
    refine ⟨?_, hb⟩
    unfold boundM
    rw [Nat.min_eq_left (by omega)]
    exact congrArg (fun x => Ending.returned (vi x)) (bound_wrap (by omega))
end Go.Proofs.Ytjpmimanigjjoaa

/- cruciblelaw09.head: the document's example. -/
namespace Go.Proofs.Ytjpmimanigjjoaa
open Go.RowKit Go.Maps

theorem rd_txns_own {A : World} {base : Nat} {v : Value} {L : TxL} (h : A.ownsRow base 54 3 v L.length (L.flatMap txV)) (ho : ∀ p ∈ L, RdOps A p.2 p.1.ops) : RdTxns A v (L.map (·.1)) := by
  obtain ⟨a, len, cap, h1, h2, h3, h4, h5, h6⟩ := rds_of_own (V := txV) txV_length h
  refine ⟨a, len, cap, h1, by simpa using h2, by simpa using h3, h4, h5, fun j x hj => ?_⟩
  rw [List.getElem?_map, Option.map_eq_some_iff] at hj
  obtain ⟨p, hp, rfl⟩ := hj
  obtain ⟨b, off, cs, ha, hl, hc, rfl⟩ := h6 j p hp
  exact ⟨b, off, _, ha, hl, hc, p.2, rfl, ho p (List.mem_of_getElem? hp)⟩

def headT : List GTxn := [⟨1, 0, [⟨2, 0, 5⟩]⟩, ⟨2, 1, [⟨2, 0, 6⟩]⟩]
def headC : List GChoice := [⟨1, 0, 0, 0⟩, ⟨2, 0, 0, 1⟩]
theorem head_choices : choicesM headT = headC := by rfl
theorem head_ok : OkTxns headT := by
  refine ⟨by decide, fun t ht => ?_⟩
  simp [headT] at ht
  rcases ht with rfl | rfl <;> exact ⟨fun o ho => by simp at ho; subst ho; simp [i64], by decide⟩

/-- The example lies in three new blocks. -/
theorem head_rd (w : World) : RdTxns (((w.alloc (.cells #[vi 2, vi 0, vi 5] 56)).alloc (.cells #[vi 2, vi 0, vi 6] 56)).alloc (.cells #[vi 1, vi 0, .slice (some ⟨w.heap.size, 0, none⟩) 1 1, vi 2, vi 1, .slice (some ⟨w.heap.size + 1, 0, none⟩) 1 1] 54)) (.slice (some ⟨w.heap.size + 2, 0, none⟩) 2 2) headT := by
  have h1 : OwOps w.heap.size (w.alloc (.cells #[vi 2, vi 0, vi 5] 56)) (.slice (some ⟨w.heap.size, 0, none⟩) 1 1) [⟨2, 0, 5⟩] := World.ownsRow_lit w #[vi 2, vi 0, vi 5] 1 (Nat.le_refl _) (by simp [maxLen]) rfl
  have h2 : OwOps w.heap.size ((w.alloc (.cells #[vi 2, vi 0, vi 5] 56)).alloc (.cells #[vi 2, vi 0, vi 6] 56)) (.slice (some ⟨w.heap.size + 1, 0, none⟩) 1 1) [⟨2, 0, 6⟩] := by
    have := World.ownsRow_lit (base := w.heap.size) (e := 56) (size := 3) (w.alloc (.cells #[vi 2, vi 0, vi 5] 56)) #[vi 2, vi 0, vi 6] 1 (by simp) (by simp [maxLen]) rfl
    simpa [OwOps, opV] using this
  have h3 := World.ownsRow_lit (base := w.heap.size) (e := 54) (size := 3) ((w.alloc (.cells #[vi 2, vi 0, vi 5] 56)).alloc (.cells #[vi 2, vi 0, vi 6] 56)) #[vi 1, vi 0, .slice (some ⟨w.heap.size, 0, none⟩) 1 1, vi 2, vi 1, .slice (some ⟨w.heap.size + 1, 0, none⟩) 1 1] 2 (by simp; omega) (by simp [maxLen]) rfl
  refine rd_txns_own (base := w.heap.size) (L := [(⟨1, 0, [⟨2, 0, 5⟩]⟩, .slice (some ⟨w.heap.size, 0, none⟩) 1 1), (⟨2, 1, [⟨2, 0, 6⟩]⟩, .slice (some ⟨w.heap.size + 1, 0, none⟩) 1 1)]) (by simpa [txV] using h3) fun p hp => ?_
  simp at hp
  rcases hp with rfl | rfl
  · exact OwOps.rd (World.ownsRow.alloc (World.ownsRow.alloc h1 _) _)
  · exact OwOps.rd (World.ownsRow.alloc h2 _)

set_option maxRecDepth 100000 in
set_option maxHeartbeats 1000000 in
theorem head_call (w : World) : Calls Try.prog 8 #[] w fun e w' => e = .returned (.bool true) ∧ Below w.heap.size w w' := by
  have HT := Lib.hid (head_rd w)
  have HB := Lib.hid ((((Below.refl w.heap.size w).alloc (Nat.le_refl _) (.cells #[vi 2, vi 0, vi 5] 56)).alloc (by simp) (.cells #[vi 2, vi 0, vi 6] 56)).alloc (by simp; omega) (.cells #[vi 1, vi 0, .slice (some ⟨w.heap.size, 0, none⟩) 1 1, vi 2, vi 1, .slice (some ⟨w.heap.size + 1, 0, none⟩) 1 1] 54))
  go_enter Try.func8, Try.ntmps8
  go_upto_region 2 with fail
  generalize ((w.alloc (.cells #[vi 2, vi 0, vi 5] 56)).alloc (.cells #[vi 2, vi 0, vi 6] 56)).alloc (.cells #[vi 1, vi 0, .slice (some ⟨w.heap.size, 0, none⟩) 1 1, vi 2, vi 1, .slice (some ⟨w.heap.size + 1, 0, none⟩) 1 1] 54) = w3 at *
  have hw3 := HB.out.size
  go_upto_region 3 with (go_at_call 15; refine (choices_call _ headT _ HT.out head_ok (by decide)).mono ?_; rw [head_choices]; rintro e w4 ⟨v1, rfl, ho, hb⟩; have hr := ho.rd; obtain ⟨a, len, cap, rfl, rfl, hm, hcl⟩ := hr.at)
  obtain ⟨b, off, rfl, m0, m1, m2, m3⟩ := hcl 0 ⟨1, 0, 0, 0⟩ rfl
  obtain ⟨_, _, e6, n0, n1, n2, n3⟩ := hcl 1 ⟨2, 0, 0, 1⟩ rfl
  cases e6
  have HB4 := Lib.hid (HB.out.trans (hb.mono hw3))
  have HT4 := Lib.hid (HT.out.later hb)
  have hl : headC.length = 2 := rfl
  clear hcl hm ho hr hb
  simp only [Nat.zero_mul, Nat.add_zero, Nat.one_mul, Nat.add_assoc, Nat.reduceAdd] at m0 m1 m2 m3 n0 n1 n2 n3
  go_wp2_with (go_at_call 24; refine (bound_call _ headT _ HT4.out head_ok (by decide)).mono ?_; rw [head_choices]; rintro e w5 ⟨rfl, hb5⟩)
  go_ret
  exact ⟨by rfl, HB4.out.trans (hb5.mono HB4.out.size)⟩
end Go.Proofs.Ytjpmimanigjjoaa

/- From the row's own reading of an argument of type []api.Event to the readable slice. Names no function. -/
namespace Go.Proofs.Ytjpmimanigjjoaa
open Go.RowKit
open Go.ChangeShapes Go.WideShapes

section
variable {H : Type} {enc : TypeId × Value → H} {w : World} {spare : Nat → Bool} {held : Bool}

theorem int_cell {m : Nat} {c : Value} {y : DataW H × List MemPlace} (h : DataW.trod enc Try.prog w 0 spare held m 3 [c] = some y) : ∃ n, c = vi n := by
  obtain ⟨n, hc, -, -⟩ := DataW.trod_int Try.underlying3 h
  exact ⟨n, by simpa using hc⟩

theorem cells_int : Try.prog.cellsOf 3 = 1 := by kernel_rfl
theorem cells_op : Try.prog.cellsOf 56 = 3 := by kernel_rfl
theorem cells_ops : Try.prog.cellsOf 52 = 1 := by kernel_rfl
theorem cells_event : Try.prog.cellsOf 72 = 3 := by kernel_rfl

set_option maxRecDepth 100000 in
theorem op_cells {m : Nat} {cs : List Value} {y : DataW H × List MemPlace} (hl : cs.length = 3) (h : DataW.trod enc Try.prog w 0 spare held m 56 cs = some y) : ∃ o, EOp w cs o := by
  obtain ⟨y0, y1, y2, n, -, -, h0, h1, h2⟩ := Deep.trod_struct3 Try.underlying56 h
  match cs, hl with
  | [c0, c1, c2], _ =>
    dsimp only at h0 h1 h2
    rw [cells_int] at h0 h1 h2
    obtain ⟨a, rfl⟩ := int_cell h0
    obtain ⟨b, rfl⟩ := int_cell h1
    obtain ⟨c, rfl⟩ := int_cell h2
    exact ⟨⟨a, b, c⟩, rfl⟩

set_option maxRecDepth 100000 in
theorem ops_read {m : Nat} {v : Value} {y : DataW H × List MemPlace} (h : DataW.trod enc Try.prog w 0 spare held m 52 [v] = some y) : ∃ l, RdOps w v l :=
  rds_of_trod Try.underlying52 cells_op (by omega) h fun _ _ _ hl hy => op_cells hl hy

set_option maxRecDepth 100000 in
theorem event_cells {m : Nat} {cs : List Value} {y : DataW H × List MemPlace} (hl : cs.length = 3) (h : DataW.trod enc Try.prog w 0 spare held m 72 cs = some y) : ∃ e, EEvent w cs e := by
  obtain ⟨y0, y1, y2, n, -, -, h0, h1, h2⟩ := Deep.trod_struct3 Try.underlying72 h
  match cs, hl with
  | [c0, c1, c2], _ =>
    dsimp only at h0 h1 h2
    rw [cells_int] at h0 h1
    rw [cells_ops] at h2
    obtain ⟨a, rfl⟩ := int_cell h0
    obtain ⟨b, rfl⟩ := int_cell h1
    obtain ⟨l, hr⟩ := ops_read h2
    exact ⟨⟨a, b, l⟩, c2, rfl, hr⟩

set_option maxRecDepth 100000 in
theorem events_of_trod {v : Value} {d : DataW H} {ps : List MemPlace} (hv : ∃ a l c, v = .slice a l c) (h : DataW.Trod enc Try.prog w 0 spare held 22 v d ps) : ∃ es, RdEvents w v es := by
  obtain ⟨fuel, hf⟩ := h
  obtain ⟨a, l, c, rfl⟩ := hv
  exact rds_of_trod Try.underlying22 cells_event (by omega) hf fun _ _ _ hl hy => event_cells hl hy
end
set_option maxRecDepth 100000 in
theorem events_of_row {H : Type} {enc : TypeId × Value → H} {w : World} {spare : Nat → Bool} {held : Bool} {base : Nat} {v : Value} {d : DataW H} {ps : List MemPlace} (hk : Value.okWide Try.prog w .any base 22 v) (h : DataW.Trod enc Try.prog w 0 spare held 22 v d ps) : ∃ es, RdEvents w v es :=
  events_of_trod (okWide_slice Try.underlying22 hk) h
end Go.Proofs.Ytjpmimanigjjoaa

/- 'for k, v := range m' over a typed map (MapT), in the order of the tape. Names no program. -/
namespace Go.Proofs.Ytjpmimanigjjoaa
open Go.RowKit Go.MapKept
open Go.Maps (Keyed)
open Go.ChangeMaps (setBlock)

/-- Block b is a map that holds L, block r an iterator over it, and the pairs of V have come out, in this order. -/
def RangeT {κ ν : Type} (P : Program) (k : TypeId) (eK : κ → Value) (eV : ν → Value) (w : World) (b r : Nat) (L V : List (κ × ν)) : Prop :=
  ∃ es clock since seen c0, w.heap[b]? = some (.map es clock) ∧ Stamped es clock ∧ (∀ x ∈ es.toList, ∃ kl, keyOf P k x.key = some kl) ∧ es.toList.map (fun x => (x.key, x.val)) = L.map (fun x => (eK x.1, eV x.2)) ∧
    w.heap[r]? = some (.mapIter (some b) since seen c0) ∧ (∀ x ∈ es.toList, x.born < since) ∧ since ≤ c0 ∧ since ≤ clock ∧
    (∀ (i : Nat) (x : MapEntry) (p : κ × ν), es.toList[i]? = some x → L[i]? = some p → (seen.contains x.born = true ↔ p ∈ V)) ∧ (∀ p ∈ V, p ∈ L) ∧ V.Pairwise (fun p q => p.1 ≠ q.1)

section laws
variable {κ ν : Type} {P : Program} {k e t : TypeId} {eK : κ → Value} {eV : ν → Value} {w : World} {b r : Nat} {L V : List (κ × ν)}

theorem RangeT.map (h : RangeT P k eK eV w b r L V) : MapT P k eK eV w b L := by
  obtain ⟨es, clock, _, _, _, h1, h2, h3, h4, _⟩ := h; exact ⟨es, clock, h1, h2, h3, h4⟩
theorem RangeT.lt (h : RangeT P k eK eV w b r L V) : r < w.heap.size := by
  obtain ⟨es, clock, since, seen, c0, _, _, _, _, hr, _⟩ := h
  exact (Array.getElem?_eq_some_iff.1 hr).1
theorem RangeT.ne (h : RangeT P k eK eV w b r L V) : r ≠ b := by
  obtain ⟨es, clock, since, seen, c0, hb, _, _, _, hr, _⟩ := h
  intro e
  rw [e, hb] at hr
  cases hr
theorem RangeT.frame {w' : World} (h : RangeT P k eK eV w b r L V) (hb : w'.heap[b]? = w.heap[b]?) (hr : w'.heap[r]? = w.heap[r]?) : RangeT P k eK eV w' b r L V := by
  obtain ⟨es, clock, since, seen, c0, h1, h2, h3, h4, h5, rest⟩ := h
  exact ⟨es, clock, since, seen, c0, hb.trans h1, h2, h3, h4, hr.trans h5, rest⟩

theorem rangeLeft_frame {w' : World} (hb : w'.heap[b]? = w.heap[b]?) (hr : w'.heap[r]? = w.heap[r]?) : w'.rangeLeft b r = w.rangeLeft b r := by unfold World.rangeLeft; rw [hb, hr]
theorem MapT.keyed (h : MapT P k eK eV w b L) {p : κ × ν} (hp : p ∈ L) : ∃ kl, keyOf P k (eK p.1) = some kl := by
  obtain ⟨es, clock, hb, hs, hk, hL⟩ := h
  have : (eK p.1, eV p.2) ∈ L.map (fun x => (eK x.1, eV x.2)) := List.mem_map.2 ⟨p, hp, rfl⟩
  rw [← hL, List.mem_map] at this
  obtain ⟨x, hx, hxe⟩ := this
  simp only [Prod.mk.injEq] at hxe
  rw [← hxe.1]
  exact hk x hx
theorem MapT.pairwise (h : MapT P k eK eV w b L) : L.Pairwise (fun p q => p.1 ≠ q.1) := by
  obtain ⟨es, clock, hb, hs, hk, hL⟩ := h
  have hlen : es.toList.length = L.length := by simpa using congrArg List.length hL
  have hn := List.pairwise_iff_getElem.1 ((stamped_iff es clock).1 hs).2.2
  rw [List.pairwise_iff_getElem]
  intro i j hi hj hlt he
  have key : ∀ (n : Nat) (h1 : n < L.length), (es.toList[n]'(by omega)).key = eK (L[n]).1 := by
    intro n h1
    have h2 : (es.toList.map (fun y => (y.key, y.val)))[n]? = some ((es.toList[n]'(by omega)).key, (es.toList[n]'(by omega)).val) := by simp [List.getElem?_eq_getElem (by omega : n < es.toList.length)]
    rw [hL, List.getElem?_map, List.getElem?_eq_getElem h1] at h2
    simp only [Option.map_some, Option.some.injEq, Prod.mk.injEq] at h2
    exact h2.1.symm
  exact hn i j (by omega) (by omega) hlt (by rw [key i hi, key j hj, he])

/-- 'range m'. -/
theorem MapT.range (h : MapT P k eK eV w b L) (ht : P.underlying t = some (.map k e)) :
    ∃ w', (Instr.range t (.map (some b))).run P w = .ok (.pointer (some ⟨w.heap.size, 0, none⟩)) w' ∧ RangeT P k eK eV w' b w.heap.size L [] ∧ w.grownBy w' none ∧ w'.heap.size = w.heap.size + 1 := by
  have hlt := h.lt
  obtain ⟨es, clock, hb, hs, hk, hL⟩ := h
  refine ⟨_, run_range_map w t k e b es clock ht hb, ⟨es, clock, clock, #[], clock, ((MapKept.heap_alloc w _).2 b hlt).trans hb, hs, hk, hL, (MapKept.heap_alloc w _).1, hs.1, Nat.le_refl _, Nat.le_refl _, ?_, (fun p hp => by cases hp), List.Pairwise.nil⟩, World.grownBy_alloc w _ none, by simp⟩
  intro i x p _ _
  simp

theorem RangeT.key_uniq (h : MapT P k eK eV w b L) {p q : κ × ν} (hp : p ∈ L) (hq : q ∈ L) (hpq : p.1 = q.1) : p = q := by
  obtain ⟨es, clock, hb, hs, hk, hL⟩ := h
  obtain ⟨i, hi⟩ := List.mem_iff_getElem?.1 hp
  obtain ⟨j, hj⟩ := List.mem_iff_getElem?.1 hq
  have hlen : es.toList.length = L.length := by simpa using congrArg List.length hL
  have hi1 := (List.getElem?_eq_some_iff.1 hi).1
  have hj1 := (List.getElem?_eq_some_iff.1 hj).1
  have ei : (es.toList[i]'(by omega)).key = eK p.1 := by
    have h1 : (L.map (fun y => (eK y.1, eV y.2)))[i]? = some (eK p.1, eV p.2) := by simp [hi]
    rw [← hL, List.getElem?_map, List.getElem?_eq_getElem (by omega : i < es.toList.length)] at h1
    simpa using congrArg (fun o => o.map (·.1)) h1
  have ej : (es.toList[j]'(by omega)).key = eK q.1 := by
    have h1 : (L.map (fun y => (eK y.1, eV y.2)))[j]? = some (eK q.1, eV q.2) := by simp [hj]
    rw [← hL, List.getElem?_map, List.getElem?_eq_getElem (by omega : j < es.toList.length)] at h1
    simpa using congrArg (fun o => o.map (·.1)) h1
  have hn := List.pairwise_iff_getElem.1 ((stamped_iff es clock).1 hs).2.2
  rcases Nat.lt_trichotomy i j with hlt | rfl | hlt
  · exact absurd (by rw [ei, ej, hpq]) (hn i j (by omega) (by omega) hlt)
  · rw [hi] at hj; cases hj; rfl
  · exact absurd (by rw [ei, ej, hpq]) (hn j i (by omega) (by omega) hlt)

/-- The step. -/
theorem RangeT.next (hinj : ∀ x y, eK x = eK y → x = y) (h : RangeT P k eK eV w b r L V) (ty : TypeId) :
    ((∀ p ∈ L, p ∈ V) ∧ (Instr.next (.pointer (some ⟨r, 0, none⟩)) false ty).run P w = .ok (.tuple #[.bool false]) w) ∨
    ∃ p w', p ∈ L ∧ (∀ q ∈ V, q.1 ≠ p.1) ∧ (Instr.next (.pointer (some ⟨r, 0, none⟩)) false ty).run P w = .ok (.tuple #[.bool true, eK p.1, eV p.2]) w' ∧
      RangeT P k eK eV w' b r L (V ++ [p]) ∧ w'.rangeLeft b r < w.rangeLeft b r ∧ w.grownBy w' (some r) ∧ w'.heap.size = w.heap.size ∧ (Instr.entry (.pointer (some ⟨r, 0, none⟩))).run P w' = .ok (.tuple #[eK p.1, eV p.2]) w' := by
  have hne := h.ne
  have hmap := h.map
  obtain ⟨es, clock, since, seen, c0, hb, hs, hk, hL, hr, hold, hsc, hsk, hseen, hsub, hpw⟩ := h
  have hlen : es.toList.length = L.length := by simpa using congrArg List.length hL
  have entry : ∀ (i : Nat) (x : MapEntry) (p : κ × ν), es.toList[i]? = some x → L[i]? = some p → x.key = eK p.1 ∧ x.val = eV p.2 := by
    intro i x p hx hp
    have h1 : (es.toList.map (fun y => (y.key, y.val)))[i]? = some (x.key, x.val) := by simp [hx]
    rw [hL] at h1
    simp [hp] at h1
    exact ⟨h1.1.symm, h1.2.symm⟩
  rcases run_next_at (P := P) w ty r b since c0 seen es clock hr hb hold hsc with ⟨h0, hrun⟩ | ⟨x, hx, w1, hal, hrun⟩
  · refine .inl ⟨fun p hp => ?_, hrun⟩
    obtain ⟨i, hi⟩ := List.mem_iff_getElem?.1 hp
    have hi1 := (List.getElem?_eq_some_iff.1 hi).1
    obtain ⟨x, hx⟩ : ∃ x, es.toList[i]? = some x := ⟨_, List.getElem?_eq_getElem (by omega)⟩
    exact (hseen i x p hx hi).1 (all_seen es seen h0 x (List.mem_of_getElem? hx))
  · obtain ⟨hem, hes⟩ := mem_left hx
    obtain ⟨i, hi⟩ := List.mem_iff_getElem?.1 hem
    have hi1 := (List.getElem?_eq_some_iff.1 hi).1
    obtain ⟨p, hp⟩ : ∃ p, L[i]? = some p := ⟨_, List.getElem?_eq_getElem (by omega)⟩
    obtain ⟨ek, ev⟩ := entry i x p hi hp
    have hpV : p ∉ V := fun h => by
      have := (hseen i x p hi hp).2 h
      rw [hes] at this; cases this
    have hr1 : w1.heap[r]? = some (.mapIter (some b) since seen c0) := by rcases hal with rfl | rfl <;> exact hr
    have hb1 : w1.heap[b]? = some (.map es clock) := by rcases hal with rfl | rfl <;> exact hb
    have hset := heap_set (o' := .mapIter (some b) since (seen.push x.born) clock) hr1
    have hb' : (setBlock w1 r (.mapIter (some b) since (seen.push x.born) clock)).heap[b]? = some (.map es clock) := (hset.2 b (fun e1 => hne e1.symm)).trans hb1
    have hfresh : ∀ q ∈ V, q.1 ≠ p.1 := fun q hq hqp => hpV (RangeT.key_uniq hmap (hsub q hq) (List.mem_of_getElem? hp) hqp ▸ hq)
    have hbi := ((stamped_iff es clock).1 hs).2.1
    refine .inr ⟨p, _, List.mem_of_getElem? hp, hfresh, by rw [← ek, ← ev]; exact hrun,
      ⟨es, clock, since, seen.push x.born, clock, hb', hs, hk, hL, hset.1, hold, hsk, hsk, ?_, ?_, ?_⟩, ?_, ?_, ?_, by rw [← ek, ← ev]; exact run_entry_at _ r b since seen es clock x hset.1 hb' hem hbi⟩
    · intro j y q hy hq
      rw [contains_push, List.mem_append, List.mem_singleton, Bool.or_eq_true, hseen j y q hy hq]
      constructor
      · rintro (h | h)
        · exact .inl h
        · have hyx : y = x := born_inj hbi (List.mem_of_getElem? hy) hem (by simpa using h)
          right
          have e1 := (entry j y q hy hq).1
          have : q.1 = p.1 := hinj _ _ (by rw [← e1, ← ek, hyx])
          exact RangeT.key_uniq hmap (List.mem_of_getElem? hq) (List.mem_of_getElem? hp) this
      · rintro (h | h)
        · exact .inl h
        · right
          subst h
          have hji : y.key = x.key := by rw [(entry j y q hy hq).1, ek]
          have := entry_eq_of_key ((stamped_iff es clock).1 hs).2.2 (List.mem_of_getElem? hy) hem hji
          simp [this]
    · intro q hq
      rw [List.mem_append, List.mem_singleton] at hq
      rcases hq with hq | rfl
      · exact hsub q hq
      · exact List.mem_of_getElem? hp
    · rw [List.pairwise_append]
      exact ⟨hpw, List.pairwise_singleton _ _, fun q hq q' hq' => by simp at hq'; subst hq'; exact hfresh q hq⟩
    · unfold World.rangeLeft
      rw [hb', hb, hr, show (setBlock w1 r (.mapIter (some b) since (seen.push x.born) clock)).heap[r]? = _ from hset.1]
      exact left_shrinks es seen x hx
    · rcases hal with rfl | rfl <;> exact ⟨rfl, rfl, rfl, by simp [setBlock], fun i _ hi => hset.2 i (fun e1 => hi (by rw [e1]))⟩
    · rcases hal with rfl | rfl <;> simp [setBlock]
end laws
end Go.Proofs.Ytjpmimanigjjoaa

namespace Go.Proofs.Ytjpmimanigjjoaa
open Go.RowKit Go.Maps

theorem Try.infoRc : (Try.prog.info? 81).map (fun i => (i.zero, i.size, i.bytes)) = some (some (.agg #[vi 0, vi 0, vi 0, vi 0]), 4, 32) := by kernel_rfl
theorem eltRc : Elt Try.prog 79 81 4 32 (.agg #[vi 0, vi 0, vi 0, vi 0]) := by
  obtain ⟨i0, hi, hz0, hz1, hz2⟩ := info_parts Try.infoRc
  exact ⟨Try.underlying79, by decide, rfl, i0, hi, hz0, hz1, hz2⟩

/-- Rows of two kinds lie in two blocks. -/
theorem own_apart {w : World} {b b' e e' m m' n n' : Nat} {v v' : Value} {xs xs' : List Value} (h : w.ownsRow b e m v n xs) (h' : w.ownsRow b' e' m' v' n' xs') (he : e ≠ e') : v'.ownBlock = none ∨ v'.ownBlock ≠ v.ownBlock := by
  rcases h'.2 with ⟨hv', _⟩ | ⟨g', cap', cur', hv', _, hh', _⟩
  · left; rw [hv']; rfl
  · right
    rcases h.2 with ⟨hv, _⟩ | ⟨g, cap, cur, hv, _, hh, _⟩
    · rw [hv, hv']; simp [Value.ownBlock]
    · rw [hv, hv']
      intro e1
      have : g' = g := by simpa [Value.ownBlock] using e1
      subst this
      rw [hh] at hh'
      simp at hh'
      exact he hh'.2

/-- What crucibleref09.Choices keeps of memory. -/
structure StC (w : World) (vs : Value) (S : List Bool) (v : Value) (L : List GChoice) (W : World) : Prop where
  out : OwCh 81 w.heap.size W v L
  row : OwBs w.heap.size W vs S
  below : Below w.heap.size w W
theorem StC.later {w A B : World} {vs v : Value} {S : List Bool} {L : List GChoice} (h : StC w vs S v L A) (hb : Below A.heap.size A B) : StC w vs S v L B :=
  ⟨own_below h.out hb, own_below h.row hb, h.below.trans (hb.mono h.below.size)⟩
theorem StC.app {w A B : World} {vs v v' : Value} {S : List Bool} {L L' : List GChoice} (h : StC w vs S v L A) (hg : A.grownBy B v.ownBlock) (ho : OwCh 81 w.heap.size B v' L') : StC w vs S v' L' B :=
  ⟨ho, World.ownsRow.kept h.row hg (own_apart h.out h.row (by decide)), h.below.grown hg h.below.size (fun j hj => (World.ownsRow.lt h.out j hj).1)⟩
theorem StC.more {w A : World} {vs v : Value} {S : List Bool} {L : List GChoice} (h : StC w vs S v L A) (o : Obj) : StC w vs S v L (A.alloc o) := h.later ((Below.refl _ _).alloc (Nat.le_refl _) _)
theorem OwBs.at {base : Nat} {w : World} {v : Value} {L : List Bool} (h : OwBs base w v L) : ∃ a cap, v = .slice a L.length cap ∧ ∀ j x, L[j]? = some x → ∃ b off, a = some ⟨b, off, none⟩ ∧ w.cell? ⟨b, off + j, none⟩ = some (.bool x) := by
  obtain ⟨a, len, cap, h1, h2, h3, h4, h5, h6⟩ := rds_of_own (V := bV) (fun _ => rfl) h
  subst h2
  refine ⟨a, cap, h1, fun j x hj => ?_⟩
  obtain ⟨b, off, cs, ha, hl, hc, rfl⟩ := h6 j x hj
  exact ⟨b, off, ha, by simpa using hc 0 _ rfl⟩

/-- crucibleref09.Choices. -/
def refChoicesM (ts : List GTxn) : List GChoice := cmS (refSureN ts ts.length) ts ts.length ++ befK ts 16

set_option maxRecDepth 100000 in
set_option maxHeartbeats 4000000 in
theorem refChoices_call (v : Value) (ts : List GTxn) (w : World) (hv : RdTxns w v ts) (hok : OkTxns ts) (htl : ts.length ≤ 4096) :
    Calls Try.prog 26 #[v] w fun e w' => ∃ v', e = .returned v' ∧ OwCh 81 w.heap.size w' v' (refChoicesM ts) ∧ Below w.heap.size w w' := by
  have HV := Lib.hid hv
  have HOK := Lib.hid hok
  obtain ⟨a, len, cap, rfl, rfl, hm, -⟩ := hv.at
  clear hv hok
  have hB0 := (Below.refl w.heap.size w).alloc (Nat.le_refl _) (.cells #[] 81)
  have hO0 := World.ownsRow_lit (base := w.heap.size) (e := 81) (size := 4) w #[] 0 (Nat.le_refl _) (by simp [maxLen]) rfl
  have HB0 := Lib.hid hB0
  have HO0 := Lib.hid hO0
  clear hB0 hO0
  go_enter Try.func26, Try.ntmps26
  go_wp2_with (go_at_call 48; refine (refSure_call _ _ _ (HV.out.later HB0.out) HOK.out).mono ?_; rintro e w1 ⟨vs, rfl, hS, hb1⟩; obtain ⟨sa, sc, hvs, -⟩ := OwBs.at hS; rw [refSureN_length] at hvs; subst hvs)
  have HST := Lib.hid (show StC w (.slice sa ts.length sc) (refSureN ts ts.length) (.slice (some ⟨w.heap.size, 0, none⟩) 0 0) [] w1 from ⟨own_below HO0.out hb1, own_mono hS (by simp), HB0.out.trans (hb1.mono HB0.out.size)⟩)
  have HCM := Lib.hid (show refChoicesM ts = cmS (refSureN ts ts.length) ts ts.length ++ befK ts 16 from rfl)
  have HRL := Lib.hid (refSureN_length ts ts.length)
  clear hS hb1
  generalize refSureN ts ts.length = S at *
  go_loopw [3, 5, 14] (fun v _ i wr => ∃ k : Nat, k ≤ ts.length ∧ i = .int .i64 k ∧ StC w (.slice sa ts.length sc) S v (cmS S ts k) wr) (fun _ _ i _ => ts.length - (intOf i).toNat)
  case atStart => exact ⟨0, Nat.zero_le _, rfl, HST.out⟩
  case round =>
    obtain ⟨wo, rfl⟩ : ∃ wo : World, wo = wr := ⟨_, rfl⟩
    obtain ⟨k, hk, rfl, hst⟩ := hrel
    have HT := Lib.hid hst
    have HW := Lib.hid hst.below
    have hws := hst.below.size
    by_cases hlt : k < ts.length
    · obtain ⟨t, ht⟩ := some_at hlt
      obtain ⟨_, _, _, e5, -, -, hcl⟩ := HV.out.at
      cases e5
      obtain ⟨b, off, oa, oc, rfl, hr, k0', k1', k2'⟩ := hcl k t ht
      have k0 := cell_later HW.out k0'
      have k1 := cell_later HW.out k1'
      have k2 := cell_later HW.out k2'
      obtain ⟨x, hx⟩ := some_at (l := S) (k := k) (by rw [HRL.out]; exact hlt)
      obtain ⟨_, _, e6, hsc⟩ := OwBs.at hst.row
      simp only [Value.slice.injEq] at e6
      obtain ⟨rfl, -, rfl⟩ := e6
      obtain ⟨sb, so, rfl, x0⟩ := hsc k x hx
      have HE := Lib.hid (show openB S k t = (t.state == 0 && !x && decide (0 < (writesM t.ops).length)) by unfold openB; rw [hx]; rfl)
      have HN := Lib.hid (cmS_succ (S := S) ht)
      have HR := Lib.hid (hr.later HW.out)
      obtain ⟨hok1, hok2⟩ := HOK.out.2 t (List.mem_of_getElem? ht)
      have hkS : (k : Int) < (ts.length : Int) := by omega
      clear hcl ht hr hok1 k0' k1' k2' hx hsc hst
      go_upto_region 6 with fail
      go_cut [38] (fun r wx => r = .bool (openB S k t) ∧ StC w (.slice (some ⟨sb, so, none⟩) ts.length sc) S u3 (cmS S ts k) wx)
      case first =>
        by_cases hs0 : t.state = 0
        · have h0 : (t.state == 0) = true := by simp [hs0]
          rw [h0] at HE
          clear hs0
          cases x
          · go_wp2_with (go_at_call 49; refine (refWrites_call t.client t.state _ t.ops _ HR.out hok2).mono ?_; rintro e w2 ⟨v2, rfl, ho2, hb2⟩; have hr2 := ho2.rd; obtain ⟨a2, len2, cap2, rfl, rfl, hm2, -⟩ := hr2.at)
            go_meet
            exact ⟨by rw [HE.out]; rfl, HT.out.later hb2⟩
          · go_wp2_with fail
            go_meet
            exact ⟨by rw [HE.out]; rfl, HT.out⟩
        · have h0 : (t.state == 0) = false := by simp [hs0]
          rw [h0] at HE
          clear hs0
          go_wp2_with fail
          go_meet
          exact ⟨by rw [HE.out]; rfl, HT.out⟩
      case rest =>
        obtain ⟨rfl, hst2⟩ := hcut
        have hsz := hst2.below.size
        have HS2 := Lib.hid hst2
        have hle := cmS_le S ts k
        clear hst2 k0 k1 k2 x0
        cases hc : openB S k t with
        | true =>
          rw [hc] at HN
          clear hc
          go_wp2_with (at_builtin; refine wpList_append_src rfl _ _ 79 rfl eltRc w.heap.size (cmS S ts k).length _ (HS2.out.more _).out rfl 1 (chV ⟨1, 0, k, 0⟩) (src_new (cs := #[vi 1, vi 0, vi k, vi 0]) rfl rfl) rfl (chV_one _) (by omega) (by omega) (by simp; omega) ?_; intro v1 w2 ho1 hg1 _)
          go_roundw
          case rel =>
            refine ⟨k + 1, by omega, by go_num, ?_⟩
            rw [HN.out]; exact (HS2.out.more _).app hg1 (by simpa [OwCh] using ho1)
          case measure => simp [intOf]; omega
        | false =>
          rw [hc] at HN
          clear hc
          go_wp2_with fail
          go_roundw
          case rel =>
            refine ⟨k + 1, by omega, by go_num, ?_⟩
            rw [HN.out]; simpa using HS2.out
          case measure => simp [intOf]; omega
    · obtain rfl : k = ts.length := by omega
      clear hst
      go_wp2_with fail
      have hcl0 := cmS_le S ts ts.length
      generalize cmS S ts ts.length = c0 at *
      go_loopw [3, 6] (fun v i wr => ∃ k : Nat, k ≤ 16 ∧ i = .int .i64 k ∧ StC w (.slice sa ts.length sc) S v (c0 ++ befK ts k) wr) (fun _ i _ => 16 - (intOf i).toNat)
      case atStart => exact ⟨0, Nat.zero_le _, rfl, by simpa [befK] using HT.out⟩
      case round =>
        obtain ⟨wk, rfl⟩ : ∃ wk : World, wk = wr := ⟨_, rfl⟩
        obtain ⟨k, hk, rfl, hst⟩ := hrel
        by_cases hlt : k < 16
        · have hck := befK_le ts htl k
          have hk16 : (k : Int) < 16 := by omega
          have HN := Lib.hid (befK_succ ts k)
          have HSk := Lib.hid hst
          clear hst
          generalize befK ts k = ck at *
          go_wp2_with fail
          go_loopw [3, 7] (fun v i wr => ∃ q : Nat, q ≤ ts.length ∧ i = .int .i64 q ∧ StC w (.slice sa ts.length sc) S v (c0 ++ ck ++ befB ts k q) wr) (fun _ i _ => ts.length - (intOf i).toNat)
          case atStart => exact ⟨0, Nat.zero_le _, rfl, by simpa [befB] using HSk.out⟩
          case round =>
            obtain ⟨wq, rfl⟩ : ∃ wq : World, wq = wr := ⟨_, rfl⟩
            obtain ⟨q, hq, rfl, hst⟩ := hrel
            by_cases hlt2 : q < ts.length
            · have hcq := befB_le ts k q (by omega)
              have hqI : (q : Int) < (ts.length : Int) := by omega
              have HNq := Lib.hid (befB_succ ts k q)
              have HSq := Lib.hid hst
              clear hst
              generalize befB ts k q = cq at *
              go_wp2_with fail
              go_loopw [3, 8] (fun v i wr => ∃ p : Nat, p ≤ q ∧ i = .int .i64 p ∧ StC w (.slice sa ts.length sc) S v (c0 ++ ck ++ cq ++ befA ts k q p) wr) (fun _ i _ => q - (intOf i).toNat)
              case atStart => exact ⟨0, Nat.zero_le _, rfl, by simpa [befA] using HSq.out⟩
              case round =>
                obtain ⟨wp, rfl⟩ : ∃ wp : World, wp = wr := ⟨_, rfl⟩
                obtain ⟨p, hp, rfl, hst⟩ := hrel
                by_cases hlt3 : p < q
                · have hcp := befA_le ts k q p
                  have hpI : (p : Int) < (q : Int) := by omega
                  have hpJ : (p : Int) < (ts.length : Int) := by omega
                  have HNp := Lib.hid (befA_succ ts k q p)
                  have HSp := Lib.hid hst
                  have HW := Lib.hid hst.below
                  have hwp := hst.below.size
                  clear hst
                  obtain ⟨ta, hta⟩ := some_at (l := ts) (k := p) (by omega)
                  obtain ⟨tb, htb⟩ := some_at (l := ts) (k := q) (by omega)
                  obtain ⟨_, _, _, e5, -, -, hcl⟩ := HV.out.at
                  cases e5
                  obtain ⟨b, off, oa, oc, rfl, hra, a0', a1', a2'⟩ := hcl p ta hta
                  obtain ⟨_, _, ob, oc2, e6, hrb, b0', b1', b2'⟩ := hcl q tb htb
                  cases e6
                  have k0 := cell_later HW.out a0'
                  have k1 := cell_later HW.out a1'
                  have k2 := cell_later HW.out a2'
                  have m0 := cell_later HW.out b0'
                  have m1 := cell_later HW.out b1'
                  have m2 := cell_later HW.out b2'
                  have HRA := Lib.hid (hra.later HW.out)
                  have HRB := Lib.hid (hrb.later HW.out)
                  have HC := Lib.hid (show condB ts k p q = (ta.state != 2 && tb.state != 2 && writesK ta k && writesK tb k) by simp [condB, stOf, wrOf, hta, htb])
                  have hoka := (HOK.out.2 ta (List.mem_of_getElem? hta)).2
                  have hokb := (HOK.out.2 tb (List.mem_of_getElem? htb)).2
                  have HEA := Lib.hid (refWk_eq (l := ta.ops) (k := k) hlt)
                  have HEB := Lib.hid (refWk_eq (l := tb.ops) (k := k) hlt)
                  clear hcl hta htb hra hrb a0' a1' a2' b0' b1' b2'
                  go_upto_region 18 with fail
                  go_cut [89] (fun r wx => r = .bool (condB ts k p q) ∧ StC w (.slice sa ts.length sc) S u3 (c0 ++ ck ++ cq ++ befA ts k q p) wx)
                  case first =>
                    by_cases hs0 : ta.state = 2
                    · have h0 : (ta.state != 2) = false := by simp [hs0]
                      rw [h0] at HC
                      clear hs0
                      go_wp2_with fail
                      go_meet
                      exact ⟨by rw [HC.out]; rfl, HSp.out⟩
                    · have h0 : (ta.state != 2) = true := by simp [hs0]
                      rw [h0] at HC
                      clear hs0
                      by_cases hs2 : tb.state = 2
                      · have h2 : (tb.state != 2) = false := by simp [hs2]
                        rw [h2] at HC
                        clear hs2
                        go_wp2_with fail
                        go_meet
                        exact ⟨by rw [HC.out]; rfl, HSp.out⟩
                      · have h2 : (tb.state != 2) = true := by simp [hs2]
                        rw [h2] at HC
                        clear hs2
                        cases hwa : writesK ta k with
                        | false =>
                          have HWA := Lib.hid (HEA.out.trans hwa)
                          rw [hwa] at HC
                          clear hwa
                          go_wp2_with (go_at_call 34; refine (refWk_call ta.client ta.state _ ta.ops k _ HRA.out hoka).mono ?_; rintro e w2 ⟨rfl, hb2⟩; rw [HWA.out])
                          go_meet
                          exact ⟨by rw [HC.out]; rfl, HSp.out.later hb2⟩
                        | true =>
                          have HWA := Lib.hid (HEA.out.trans hwa)
                          have HWB := Lib.hid (show refWk tb.ops k = writesK tb k from HEB.out)
                          rw [hwa] at HC
                          clear hwa
                          go_wp2_with (first
                            | (go_at_call 34; with_reducible refine (refWk_call ta.client ta.state _ ta.ops k _ HRA.out hoka).mono ?_; rintro e w2 ⟨rfl, hb2⟩; rw [HWA.out]; replace m0 := cell_later hb2 m0; replace m1 := cell_later hb2 m1; replace m2 := cell_later hb2 m2; replace HRB := Lib.hid (HRB.out.later hb2))
                            | (go_at_call 34; refine (refWk_call tb.client tb.state _ tb.ops k _ HRB.out hokb).mono ?_; rintro e w3 ⟨rfl, hb3⟩; rw [HWB.out]))
                          go_meet
                          exact ⟨by rw [HC.out]; rfl, (HSp.out.later hb2).later hb3⟩
                  case rest =>
                    obtain ⟨rfl, hst2⟩ := hcut
                    have hsz := hst2.below.size
                    have HS2 := Lib.hid hst2
                    clear hst2 k0 k1 k2 m0 m1 m2
                    cases hc : condB ts k p q with
                    | true =>
                      rw [hc] at HNp
                      clear hc
                      go_wp2_with (at_builtin; refine wpList_append_src rfl _ _ 79 rfl eltRc w.heap.size (c0 ++ ck ++ cq ++ befA ts k q p).length _ (HS2.out.more _).out rfl 1 (chV ⟨2, k, p, q⟩) (src_new (cs := #[vi 2, vi k, vi p, vi q]) rfl rfl) rfl (chV_one _) (by simp only [List.length_append]; omega) (by omega) (by simp; omega) ?_; intro v1 w2 ho1 hg1 _)
                      go_roundw
                      case rel =>
                        refine ⟨p + 1, by omega, by go_num, ?_⟩
                        rw [HNp.out]; exact (HS2.out.more _).app hg1 (by simpa [OwCh, List.append_assoc, Nat.add_assoc] using ho1)
                      case measure => simp [intOf]; omega
                    | false =>
                      rw [hc] at HNp
                      clear hc
                      go_wp2_with fail
                      go_roundw
                      case rel =>
                        refine ⟨p + 1, by omega, by go_num, ?_⟩
                        rw [HNp.out]; simpa using HS2.out
                      case measure => simp [intOf]; omega
                · obtain rfl : p = q := by omega
                  have HSp := Lib.hid hst
                  clear hst
                  go_wp2_with fail
                  go_roundw
                  case rel =>
                    refine ⟨p + 1, by omega, by go_num, ?_⟩
                    rw [HNq.out, ← List.append_assoc]; exact HSp.out
                  case measure => simp [intOf]; omega
            · obtain rfl : q = ts.length := by omega
              have HSq := Lib.hid hst
              clear hst
              go_wp2_with fail
              go_roundw
              case rel =>
                refine ⟨k + 1, by omega, by go_num, ?_⟩
                rw [HN.out, ← List.append_assoc]; exact HSq.out
              case measure => simp [intOf]; omega
        · obtain rfl : k = 16 := by omega
          go_wp2_with fail
          go_ret
          refine ⟨_, rfl, ?_, hst.below⟩
          unfold OwCh; rw [HCM.out]; exact hst.out
end Go.Proofs.Ytjpmimanigjjoaa
