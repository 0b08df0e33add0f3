/- Texts of one proof, one behind the other: OfE. -/
import Derived.Test.YtnacoplokjdglaaGreatKp1
import Derived.Test.YtnacoplokjdglaaGreatKp2
import Derived.Test.YtnacoplokjdglaaGreatKp3
import Derived.Test.YtnacoplokjdglaaGreatKp4
import Derived.Test.YtnacoplokjdglaaGreatKp15
import Derived.Test.YtnacoplokjdglaaGreatKp16
import Derived.Test.YtnacoplokjdglaaGreatKp17
set_option linter.all false
namespace Go.Proofs.YtnacoplokjdglaaGreat
open Go.RowKit Go.Maps

theorem RefInv.stop {es : List GEvent} {i : Nat} {s : HSt} {F : List Nat} {e : GEvent} (h : RefInv es i s F) (he : es[i]? = some e) (hs : stepH s e = none) : histH es = none :=
  runH_none (i := i + 1) (by rw [runH_next h.run he, hs])
theorem RefInv.twice {es : List GEvent} {i : Nat} {s : HSt} {F : List Nat} {e : GEvent} (h : RefInv es i s F) (he : es[i]? = some e) (hr : RightEv e) (hk : getM s.op e.client = none) (h1 : e.kind = 1) (hf : ¬ FreshN es e.ops i e.ops.length) : histH es = none := by
  refine h.stop he ?_
  rw [stepH_new hr hk h1]
  cases ha : addW s.wr e.ops with
  | none => rfl
  | some wr => exact absurd ((h.fresh he h1).2 (addW_some ha).1) hf
theorem RefInv.new {es : List GEvent} {i : Nat} {s : HSt} {F : List Nat} {e : GEvent} (h : RefInv es i s F) (he : es[i]? = some e) (hr : RightEv e) (hk : getM s.op e.client = none) (h1 : e.kind = 1) (hf : FreshN es e.ops i e.ops.length) : ∃ s', RefInv es (i + 1) s' (F ++ [i]) ∧ s'.ts = s.ts ++ [⟨e.client, 0, e.ops⟩] := by
  cases ha : addW s.wr e.ops with
  | none => exact absurd ((h.fresh he h1).1 hf) (addW_none ha)
  | some wr => exact ⟨_, h.begun he h1 (by rw [stepH_new hr hk h1, ha]; rfl)⟩
/-- The transactions while one of them is written: as far as place k. -/
def Half (ts : List GTxn) (m : Nat) (t' : GTxn) (k : Nat) (l : List GTxn) : Prop := l = if k ≤ m then ts else ts.set m t'
theorem Half.start {ts : List GTxn} {m : Nat} {t' : GTxn} : Half ts m t' 0 ts := by unfold Half; rw [if_pos (Nat.zero_le _)]
theorem Half.skip {ts l : List GTxn} {m k : Nat} {t' : GTxn} (h : Half ts m t' k l) (hk : k ≠ m) : Half ts m t' (k + 1) l := by
  unfold Half at *
  rw [h]
  by_cases h1 : k ≤ m
  · rw [if_pos h1, if_pos (by omega)]
  · rw [if_neg h1, if_neg (by omega)]
theorem Half.at {ts l : List GTxn} {m : Nat} {t' : GTxn} (h : Half ts m t' m l) : l = ts := by unfold Half at h; rw [h, if_pos (Nat.le_refl _)]
theorem Half.put {ts l : List GTxn} {m : Nat} {t' : GTxn} (h : Half ts m t' m l) : Half ts m t' (m + 1) (l.set m t') := by
  rw [h.at]; unfold Half; rw [if_neg (by omega)]
theorem Half.same {ts l : List GTxn} {m : Nat} {t' : GTxn} (h : Half ts m t' m l) (ht : ts[m]? = some t') : Half ts m t' (m + 1) l := by
  have := h.put
  rw [h.at] at this ⊢
  have e : ts.set m t' = ts := by
    apply List.ext_getElem?
    intro i
    rw [List.getElem?_set]
    split
    · rename_i e1
      subst e1
      have := (List.getElem?_eq_some_iff.1 ht).1
      rw [if_pos this, ht]
    · rfl
  rwa [e] at this
theorem Half.all {ts l : List GTxn} {m n : Nat} {t' : GTxn} (h : Half ts m t' n l) (hm : m < n) : l = ts.set m t' := by unfold Half at h; rw [h, if_neg (by omega)]

/-- What crucibleref05.Of answers, exactly. -/
def OfQE (es : List GEvent) (w : World) (r : Ending) (w' : World) : Prop := ∃ (v : Value) (p err : Int), r = .returned (.tuple #[v, .int .i64 p, .int .i64 err]) ∧ (err = 0 → ∃ ts, histH es = some ts ∧ RdTxns w' v ts) ∧ (err ≠ 0 → histH es = none) ∧ (∃ a n c, v = .slice a n c) ∧ Below w.heap.size w w'
theorem OfQE.bad {es : List GEvent} {w w' : World} {r : Ending} {p err : Int} (h : r = .returned (.tuple #[.slice none 0 0, .int .i64 p, .int .i64 err])) (he : err ≠ 0) (hn : histH es = none) (hb : Below w.heap.size w w') : OfQE es w r w' := ⟨_, p, err, h, (fun h => absurd h he), (fun _ => hn), ⟨_, _, _, rfl⟩, hb⟩
theorem OfQE.good {es : List GEvent} {w w' : World} {r : Ending} {v : Value} {ts : List GTxn} (h : r = .returned (.tuple #[v, .int .i64 0, .int .i64 0])) (hr : RdTxns w' v ts) (hg : histH es = some ts) (hb : Below w.heap.size w w') : OfQE es w r w' := ⟨v, 0, 0, h, (fun _ => ⟨ts, hg, hr⟩), (fun h => absurd rfl h), by obtain ⟨a, n, c, rfl, -⟩ := hr; exact ⟨_, _, _, rfl⟩, hb⟩

set_option maxRecDepth 100000 in
set_option maxHeartbeats 16000000 in
theorem of_callE (v : Value) (es : List GEvent) (w : World) (hv : RdEvents w v es) (hes : es.length ≤ 400) :
    Calls Tryz.prog 14 #[v] w (OfQE es w) := by
  have HV := Lib.hid hv
  obtain ⟨a, len, cap, rfl, rfl, hm, -⟩ := hv.at
  clear hv
  have hesI : ¬ (es.length : Int) > 400 := by omega
  have hO1 := World.ownsRow_lit (base := w.heap.size) (e := 49) (size := 3) w #[] 0 (Nat.le_refl _) (by simp [maxLen]) rfl
  have hO2 := World.ownsRow_lit (base := w.heap.size) (e := 3) (size := 1) (w.alloc (.cells #[] 49)) #[] 0 (by simp) (by simp [maxLen]) rfl
  have hS : OfS w (.slice (some ⟨w.heap.size, 0, none⟩) 0 0) (.slice (some ⟨w.heap.size + 1, 0, none⟩) 0 0) [] [] ((w.alloc (.cells #[] 49)).alloc (.cells #[] 3)) :=
    ⟨hO1.alloc _, (fun p hp => by cases hp), by simpa using hO2, ((Below.refl _ _).alloc (Nat.le_refl _) _).alloc (by simp) _⟩
  have HS0 := Lib.hid hS
  clear hO1 hO2 hS
  go_enter Tryz.func14, Tryz.ntmps14
  go_wp2_with fail
  go_loopw [5, 6, 7, 8, 9, 10, 11, 12, 20] (fun vo vf _ _ _ _ _ _ n wr => ∃ (i : Nat) (L : TxL) (F : List Nat) (s : HSt), i ≤ es.length ∧ n = .int .i64 i ∧ OfS w vo vf L F wr ∧ Hid (RefInv es i s F ∧ L.map (·.1) = s.ts)) (fun _ _ _ _ _ _ _ _ n _ => es.length - (intOf n).toNat)
  case atStart => exact ⟨0, [], [], hst0, Nat.zero_le _, rfl, HS0.out, Lib.hid ⟨RefInv.start es, rfl⟩⟩
  case round =>
    obtain ⟨wi, rfl⟩ : ∃ wi : World, wi = wr := ⟨_, rfl⟩
    obtain ⟨i, L, F, s, hi, rfl, hs, HI0⟩ := hrel
    have HS := Lib.hid hs
    have HI := Lib.hid HI0.out.1
    have HLM := Lib.hid HI0.out.2
    have hFL0 : F.length = L.length := by have := congrArg List.length HI0.out.2; rw [List.length_map] at this; rw [HI0.out.1.len, this]
    have hFi : F.length ≤ i := by have := (runH_inv hi HI0.out.1.run).len; rw [← HI0.out.1.len] at this; exact this
    have HFL := Lib.hid hFL0
    have HB := Lib.hid hs.below
    have hwi := hs.below.size
    clear hs HI0 hFL0
    by_cases hlt : i < es.length
    · obtain ⟨e, he⟩ := some_at hlt
      obtain ⟨_, _, _, e5, -, -, hcl⟩ := HV.out.at
      cases e5
      obtain ⟨b, off, oa, oc, rfl, hr, k0', k1', k2'⟩ := hcl i e he
      have k0 := cell_later HB.out k0'
      have k1 := cell_later HB.out k1'
      have k2 := cell_later HB.out k2'
      have hiI : (i : Int) < (es.length : Int) := by omega
      have hmo : e.ops.length ≤ 9223372036854775807 := by obtain ⟨_, _, _, _, _, h, _⟩ := hr.at; exact h
      have HE := Lib.hid he
      have HR := Lib.hid hr
      have HC := Lib.hid hcl
      clear hcl he hr k0' k1' k2'
      go_upto_region 8 with fail
      have HB1 := Lib.hid (HB.out.alloc hwi (.cells #[vi e.kind, vi e.client, .slice oa e.ops.length oc] 53))
      have HS1 := Lib.hid (HS.out.more (.cells #[vi e.kind, vi e.client, .slice oa e.ops.length oc] 53))
      have HX1 := Lib.hid (alloc_at wi (.cells #[vi e.kind, vi e.client, .slice oa e.ops.length oc] 53))
      have hw1 : (wi.alloc (.cells #[vi e.kind, vi e.client, .slice oa e.ops.length oc] 53)).heap.size = wi.heap.size + 1 := by simp
      have q0 : (wi.alloc (.cells #[vi e.kind, vi e.client, .slice oa e.ops.length oc] 53)).cell? ⟨wi.heap.size, 0, none⟩ = some (vi e.kind) := by rw [cell_of (alloc_at _ _)]; rfl
      have q1 : (wi.alloc (.cells #[vi e.kind, vi e.client, .slice oa e.ops.length oc] 53)).cell? ⟨wi.heap.size, 1, none⟩ = some (vi e.client) := by rw [cell_of (alloc_at _ _)]; rfl
      have q2 : (wi.alloc (.cells #[vi e.kind, vi e.client, .slice oa e.ops.length oc] 53)).cell? ⟨wi.heap.size, 2, none⟩ = some (.slice oa e.ops.length oc) := by rw [cell_of (alloc_at _ _)]; rfl
      have HR1 := Lib.hid (HR.out.later (HB1.out))
      clear k0 k1 k2
      generalize wi.alloc (.cells #[vi e.kind, vi e.client, .slice oa e.ops.length oc] 53) = w1 at *
      have hw1' : wi.heap.size < w1.heap.size := by omega
      go_cut [27] (fun r wx => (∃ b', r = .bool b' ∧ (b' = false → RightEv e) ∧ (b' = true → ¬ RightEv e)) ∧ Below w1.heap.size w1 wx)
      case first =>
        go_wp2_with (go_at_call 31; refine (right_callE e _ _ HR1.out).mono ?_; rintro r w2 ⟨b', rfl, hgood, hb2⟩)
        go_meet
        exact ⟨⟨_, rfl, (fun h => hgood.1 (by simpa using h)), fun h hr => by rw [hgood.2 hr] at h; simp at h⟩, hb2⟩
      case rest =>
        obtain ⟨⟨b', rfl, hgood, hngood⟩, hb2⟩ := hcut
        cases b' with
        | true =>
          have HNG := Lib.hid (HI.out.stop HE.out (stepH_wrong (hngood rfl)))
          clear hgood hngood
          go_wp2_with fail
          go_ret3
          exact .bad rfl (by omega) HNG.out (HB1.out.trans (hb2.mono HB1.out.size))
        | false =>
          have HG := Lib.hid (hgood rfl)
          have hol : e.ops.length ≤ 12 := HG.out.good.len
          have HB2 := Lib.hid hb2
          have hw2 := hb2.size
          have Q0 := Lib.hid q0
          have Q1 := Lib.hid q1
          have Q2 := Lib.hid q2
          clear hgood hngood hb2 q0 q1 q2
          go_upto_region 11 with (go_at_call 32; refine (last_callE _ es i _ (HV.out.later (HB1.out.trans (HB2.out.mono HB1.out.size))) e HE.out).mono ?_; rintro r w3 ⟨p, rfl, hlast, hp1, hp2, hb3⟩)
          have HLAST := Lib.hid (HI.out.last hlast)
          clear hlast
          have HB3 := Lib.hid (HB2.out.trans (hb3.mono hw2))
          have HBW := Lib.hid (HB1.out.trans (HB3.out.mono HB1.out.size))
          have hw3 := HB3.out.size
          have q0 := cell_later HB3.out Q0.out
          have q1 := cell_later HB3.out Q1.out
          have q2 := cell_later HB3.out Q2.out
          have hw13 : wi.heap.size < w3.heap.size := by omega
          have HX3 := Lib.hid (show w3.heap[wi.heap.size]? = some (.cells #[vi e.kind, vi e.client, .slice oa e.ops.length oc] 53) from (HB3.out.block _ hw1').trans HX1.out)
          have HS3 := Lib.hid (HS1.out.later HB3.out)
          have Q0' := Lib.hid q0
          have Q1' := Lib.hid q1
          have Q2' := Lib.hid q2
          clear hb3
          go_cut [10] (fun vo wx => (∃ bo, vo = .bool bo ∧ (bo = true → ∃ (q : Nat) (eq : GEvent), p = q ∧ q < i ∧ es[q]? = some eq ∧ eq.kind = 1) ∧ (bo = false → ∀ (q : Nat) (eq : GEvent), p = q → es[q]? = some eq → eq.kind ≠ 1)) ∧ wx = w3)
          case first =>
            by_cases hp : 0 ≤ p
            · obtain ⟨q, rfl⟩ := Int.eq_ofNat_of_zero_le hp
              have hqi : q < i := by omega
              have hqI : (q : Int) < (es.length : Int) := by omega
              obtain ⟨eq, heq⟩ := some_at (l := es) (k := q) (by omega)
              obtain ⟨_, _, _, _, e6, -, m0', -, -⟩ := HC.out q eq heq
              simp only [Option.some.injEq, Addr.mk.injEq, and_true] at e6
              obtain ⟨rfl, rfl⟩ := e6
              have m0 := cell_later HBW.out m0'
              clear m0'
              have HQ := Lib.hid heq
              clear heq
              by_cases h1 : eq.kind = 1
              · have c1 := beq_t h1
                have H1 := Lib.hid h1
                clear h1
                go_wp2_with fail
                go_meet
                exact ⟨⟨true, rfl, (fun _ => ⟨q, eq, rfl, hqi, HQ.out, H1.out⟩), fun h => by cases h⟩, rfl⟩
              · have c1 := beq_f h1
                have H1 := Lib.hid h1
                clear h1
                go_wp2_with fail
                go_meet
                exact ⟨⟨false, rfl, (fun h => by cases h), fun _ q' eq' h1 h2 => by
                  have : q' = q := by omega
                  subst this
                  rw [HQ.out] at h2; cases h2; exact H1.out⟩, rfl⟩
            · go_wp2_with fail
              go_meet
              exact ⟨⟨false, rfl, (fun h => by cases h), fun _ q' eq' h1 h2 => by omega⟩, rfl⟩
          case rest =>
            obtain ⟨⟨bo, rfl, hk, hk'⟩, hwx⟩ := hcut
            replace hwx := hwx.symm
            subst hwx
            have HK := Lib.hid hk
            have HK' := Lib.hid hk'
            clear hk hk'
            cases bo with
            | true =>
              obtain ⟨m, q, eq, HGM, hpq, hqi, hq, hk1, HFm, HTm⟩ : ∃ (m q : Nat) (eq : GEvent), Hid (getM s.op e.client = some (m : Int)) ∧ p = q ∧ q < i ∧ es[q]? = some eq ∧ eq.kind = 1 ∧ Hid (F[m]? = some q) ∧ Hid (s.ts[m]? = some ⟨eq.client, 0, eq.ops⟩) := by
                rcases HLAST.out with ⟨_, h2⟩ | ⟨m, q, eq, h2, h3, h4, h5, h6, h7, h8⟩
                · obtain ⟨q, eq, h3, _, h4, h5⟩ := HK.out rfl
                  exact absurd h5 (h2 q eq h3 h4)
                · exact ⟨m, q, eq, Lib.hid h2, h3, h4, h5, h6, Lib.hid h7, Lib.hid h8⟩
              have hmF : m < F.length := (List.getElem?_eq_some_iff.1 HFm.out).1
              by_cases h1 : e.kind = 1
              · have c1 := beq_t h1
                have HNO := Lib.hid (HI.out.stop HE.out (stepH_busy HGM.out h1))
                clear h1 hq hk1 hpq
                go_wp2_with fail
                go_ret3
                exact .bad rfl (by omega) HNO.out HBW.out
              · have c1 := beq_f h1
                have H1 := Lib.hid h1
                clear h1
                subst hpq
                have HQ := Lib.hid hq
                have HQ1 := Lib.hid hk1
                clear hq hk1
                go_upto_region 19 with fail
                have hFl : F.length ≤ i := hFi
                have hLl : L.length = F.length := HFL.out.symm
                have hq := HQ.out
                obtain ⟨a5, c5, a6, c6, rfl, rfl⟩ := HS.out.shapes hLl
                have hqI : (q : Int) < (es.length : Int) := by omega
                obtain ⟨_, _, oa3, oc3, e6, hr3, -, -, m2'⟩ := HC.out q eq hq
                simp only [Option.some.injEq, Addr.mk.injEq, and_true] at e6
                obtain ⟨rfl, rfl⟩ := e6
                have m2 := cell_later HBW.out m2'
                have HR3 := Lib.hid (hr3.later HBW.out)
                have HRw := Lib.hid (HR.out.later HBW.out)
                clear hq hr3 m2'
                by_cases h2 : e.kind = 2
                · have c2 := beq_t h2
                  have c3 := bne_f h2
                  have H2 := Lib.hid h2
                  clear h2
                  go_upto_region 22 with fail
                  go_cut [11] (fun v wx => (∃ n : Int, v = .int .i64 n ∧ (n = 0 ↔ AnsOK eq.ops e.ops)) ∧ Below w3.heap.size w3 wx)
                  case first =>
                    go_still_tail 7, (by kernel_rfl)
                    change wpList _ _ _ _ _ w3.drew
                    go_wp2_with (go_at_call 34; refine (answer_callE _ _ eq.ops e.ops _ (HR3.out.later ((Below.refl _ _).drew)) (HRw.out.later ((Below.refl _ _).drew))).mono ?_; rintro r w4 ⟨n, rfl, hn, hb4⟩)
                    go_meet
                    exact ⟨⟨n, rfl, hn⟩, ((Below.refl w3.heap.size w3).drew).trans hb4⟩
                  case rest =>
                    obtain ⟨wx, rfl⟩ : ∃ wx : World, wx = wc := ⟨_, rfl⟩
                    obtain ⟨⟨n, rfl, hn⟩, hb4⟩ := hcut
                    have HB4 := Lib.hid hb4
                    have hw4 := hb4.size
                    clear hb4
                    by_cases hn0 : n = 0
                    · have HA := Lib.hid (show stepH s e = some ⟨s.ts.set m (endT ⟨eq.client, 0, eq.ops⟩ e), delM s.op e.client, s.wr⟩ from stepH_end HG.out HGM.out H1.out (by simpa using HTm.out) (by unfold EndOK; rw [if_pos H2.out]; exact hn.1 hn0))
                      have HET := Lib.hid (show endT ⟨eq.client, 0, eq.ops⟩ e = ⟨eq.client, 1, e.ops⟩ by unfold endT; rw [if_pos H2.out])
                      subst hn0
                      have HS4 := Lib.hid (HS3.out.later HB4.out)
                      have HX4 := Lib.hid ((HB4.out.block _ hw13).trans HX3.out)
                      clear hn q0 q1 q2 m2
                      go_wp2_with fail
                      go_loopw [12, 96] (fun _ n wr => ∃ (k : Nat) (L' : TxL), k ≤ F.length ∧ n = .int .i64 k ∧ L'.length = F.length ∧ OfS w (.slice a5 F.length c5) (.slice a6 F.length c6) L' F wr ∧ Hid (Half s.ts m (endT ⟨eq.client, 0, eq.ops⟩ e) k (L'.map (·.1))) ∧ wr.heap[wi.heap.size]? = some (.cells #[vi e.kind, vi e.client, .slice oa e.ops.length oc] 53)) (fun _ n _ => F.length - (intOf n).toNat)
                      case atStart => exact ⟨0, L, Nat.zero_le _, rfl, hLl, HS4.out, Lib.hid (by rw [HLM.out]; exact Half.start), HX4.out⟩
                      case round =>
                        obtain ⟨wk, rfl⟩ : ∃ wk : World, wk = wr := ⟨_, rfl⟩
                        obtain ⟨k, L', hk, rfl, hl', hs, HIk, hbox⟩ := hrel
                        have HSk := Lib.hid hs
                        have HXk := Lib.hid hbox
                        have HBk := Lib.hid hs.below
                        have hwk := hs.below.size
                        have hLI := Lib.hid hl'
                        clear hs hbox hl'
                        by_cases hlk : k < F.length
                        · have hkI : (k : Int) < (F.length : Int) := by omega
                          obtain ⟨f, hf⟩ := some_at hlk
                          obtain ⟨p', hp'⟩ := some_at (l := L') (k := k) (by rw [hLI.out]; exact hlk)
                          obtain ⟨g, gf, rfl, rfl⟩ := HSk.out.shapes_at hLI.out (by omega)
                          have f0 := HSk.out.frm_at hf
                          have s1 := HSk.out.out_at hp' (i := 1) rfl
                          have s2 := HSk.out.out_at hp' (i := 2) rfl
                          have z1 := HSk.out.out_free hLI.out.symm (k * 3 + 1)
                          have q0 : wk.cell? ⟨wi.heap.size, 0, none⟩ = some (vi e.kind) := by rw [cell_of HXk.out]; rfl
                          have HF := Lib.hid hf
                          have HP := Lib.hid hp'
                          clear hf hp'
                          by_cases hfq : (f : Int) = (q : Int)
                          · have g1 := beq_t hfq
                            have HKM := Lib.hid (show k = m from HI.out.inj k m q (by rw [HF.out]; congr 1; omega) HFm.out)
                            clear hfq
                            go_upto_region 30 with fail
                            have HSn := Lib.hid (HSk.out.set hLI.out.symm HP.out (i := 1) (p' := (⟨p'.1.client, 1, p'.1.ops⟩, p'.2)) (u := vi 1) (by decide) rfl (HSk.out.ops p' (List.mem_of_getElem? HP.out)))
                            have HXn := Lib.hid (HSk.out.box hLI.out.symm HXk.out (k * 3 + 1) (vi 1))
                            clear f0 s1 s2 z1 q0
                            generalize wk.setCell ⟨g, k * 3 + 1, none⟩ (vi 1) = wa at *
                            have HLn := Lib.hid (show (L'.set k (⟨p'.1.client, 1, p'.1.ops⟩, p'.2)).length = F.length by rw [List.length_set]; exact hLI.out)
                            have HPn := Lib.hid (show (L'.set k (⟨p'.1.client, 1, p'.1.ops⟩, p'.2))[k]? = some (⟨p'.1.client, 1, p'.1.ops⟩, p'.2) from List.getElem?_set_self (by rw [hLI.out]; exact hlk))
                            have hwa := HSn.out.below.size
                            have hwb : wi.heap.size < wa.heap.size := (Array.getElem?_eq_some_iff.1 HXn.out).1
                            have q2 : wa.cell? ⟨wi.heap.size, 2, none⟩ = some (.slice oa e.ops.length oc) := by rw [cell_of HXn.out]; rfl
                            have HRa := Lib.hid ((HR.out.later HSn.out.below).later ((Below.refl wa.heap.size wa).alloc (Nat.le_refl _) (.cells #[] 51)))
                            have HO := Lib.hid (World.ownsRow_lit (base := wa.heap.size) (e := 51) (size := 3) wa #[] 0 (Nat.le_refl _) (by simp [maxLen]) rfl)
                            have HBa := Lib.hid ((Below.refl wa.heap.size wa).alloc (Nat.le_refl _) (.cells #[] 51))
                            go_upto_region 31 with (at_builtin; refine wpList_append_src rfl _ _ 47 rfl eltOp wa.heap.size 0 [] HO.out rfl e.ops.length _ HRa.out.src rfl opV_one (by omega) (by omega) (by simp) ?_; intro v2 w5 hown2 hg2 _; have HO2 := Lib.hid (show OwOps wa.heap.size w5 v2 e.ops by simpa [OwOps] using hown2); have HB5 := Lib.hid (HBa.out.grown hg2 (by simp) (by simp [Value.ownBlock])); have hr2 := HO2.out.rd; obtain ⟨av, nv, cv, rfl, rfl, hmv, -⟩ := hr2.at; have HS5 := Lib.hid (HSn.out.later HB5.out); have s2 := HS5.out.out_at HPn.out (i := 2) rfl; have z2 := HS5.out.out_free HLn.out.symm (k * 3 + 2); clear hown2 hg2 hr2)
                            have HSz := Lib.hid (HS5.out.set HLn.out.symm HPn.out (i := 2) (p' := (⟨p'.1.client, 1, e.ops⟩, .slice av e.ops.length cv)) (u := .slice av e.ops.length cv) (by decide) rfl (own_mono HO2.out hwa))
                            have HX5 := Lib.hid ((HB5.out.block _ hwb).trans HXn.out)
                            have HXz := Lib.hid (HS5.out.box HLn.out.symm HX5.out (k * 3 + 2) (.slice av e.ops.length cv))
                            clear q2 s2 z2
                            generalize w5.setCell ⟨g, k * 3 + 2, none⟩ (.slice av e.ops.length cv) = wz at *
                            have f0 := HSz.out.frm_at HF.out
                            have q0 : wz.cell? ⟨wi.heap.size, 0, none⟩ = some (vi e.kind) := by rw [cell_of HXz.out]; rfl
                            go_wp2_with fail
                            go_roundw
                            case rel =>
                              refine ⟨k + 1, _, by omega, by go_num, by rw [List.length_set]; exact HLn.out, HSz.out, Lib.hid ?_, HXz.out⟩
                              have hkm := HKM.out
                              have hH := HIk.out
                              have hP : (L'.map (·.1))[k]? = some p'.1 := by rw [List.getElem?_map, HP.out]; rfl
                              subst hkm
                              rw [hH.at, HTm.out] at hP
                              have hp1 : p'.1 = ⟨eq.client, 0, eq.ops⟩ := (Option.some.inj hP).symm
                              rw [List.set_set, List.map_set]
                              have := hH.put
                              rw [HET.out] at this
                              rw [HET.out]
                              simpa [hp1] using this
                            case measure => simp [intOf]; omega
                          · have g1 := beq_f hfq
                            have HKM := Lib.hid (show k ≠ m from fun hkm => by subst hkm; have := HF.out.symm.trans HFm.out; simp at this; omega)
                            clear hfq
                            go_wp2_with fail
                            go_roundw
                            case rel => exact ⟨k + 1, L', by omega, by go_num, hLI.out, HSk.out, Lib.hid (HIk.out.skip HKM.out), HXk.out⟩
                            case measure => simp [intOf]; omega
                        · obtain rfl : k = F.length := by omega
                          go_wp2_with fail
                          go_roundw
                          case rel => exact ⟨i + 1, L', F, _, by omega, by go_num, HSk.out, Lib.hid ⟨HI.out.over HE.out H1.out HA.out, HIk.out.all hmF⟩⟩
                          case measure => simp [intOf]; omega
                    · have d1 := bne_t hn0
                      have HN := Lib.hid hn0
                      have HNO := Lib.hid (HI.out.stop HE.out (stepH_other (t := ⟨eq.client, 0, eq.ops⟩) HGM.out (by simpa using HTm.out) (by unfold EndOK; rw [if_pos H2.out]; exact fun h => hn0 (hn.2 h))))
                      clear hn hn0
                      go_wp2_with fail
                      go_ret3
                      exact .bad rfl HN.out HNO.out (HBW.out.trans (HB4.out.mono HBW.out.size))
                · have c2 := beq_f h2
                  have c3 := bne_t h2
                  have H2 := Lib.hid h2
                  clear h2
                  by_cases hlen : (0 : Int) < (e.ops.length : Int)
                  · have HNO := Lib.hid (HI.out.stop HE.out (stepH_other (t := ⟨eq.client, 0, eq.ops⟩) HGM.out (by simpa using HTm.out) (by unfold EndOK; rw [if_neg H2.out]; exact fun h => by rw [h] at hlen; simp at hlen)))
                    go_wp2_with fail
                    go_ret3
                    exact .bad rfl (by omega) HNO.out HBW.out
                  · have HA := Lib.hid (show stepH s e = some ⟨s.ts.set m (endT ⟨eq.client, 0, eq.ops⟩ e), delM s.op e.client, s.wr⟩ from stepH_end HG.out HGM.out H1.out (by simpa using HTm.out) (by unfold EndOK; rw [if_neg H2.out]; exact List.length_eq_zero_iff.1 (by omega)))
                    have HS4 := Lib.hid HS3.out
                    have HX4 := Lib.hid HX3.out
                    clear m2 q1
                    go_wp2_with fail
                    go_loopw [12, 96] (fun _ n wr => ∃ (k : Nat) (L' : TxL), k ≤ F.length ∧ n = .int .i64 k ∧ L'.length = F.length ∧ OfS w (.slice a5 F.length c5) (.slice a6 F.length c6) L' F wr ∧ Hid (Half s.ts m (endT ⟨eq.client, 0, eq.ops⟩ e) k (L'.map (·.1))) ∧ wr.heap[wi.heap.size]? = some (.cells #[vi e.kind, vi e.client, .slice oa e.ops.length oc] 53)) (fun _ n _ => F.length - (intOf n).toNat)
                    case atStart => exact ⟨0, L, Nat.zero_le _, rfl, hLl, HS4.out, Lib.hid (by rw [HLM.out]; exact Half.start), HX4.out⟩
                    case round =>
                      obtain ⟨wk, rfl⟩ : ∃ wk : World, wk = wr := ⟨_, rfl⟩
                      obtain ⟨k, L', hk, rfl, hl', hs, HIk, hbox⟩ := hrel
                      have HSk := Lib.hid hs
                      have HXk := Lib.hid hbox
                      have HBk := Lib.hid hs.below
                      have hwk := hs.below.size
                      have hLI := Lib.hid hl'
                      clear hs hbox hl'
                      by_cases hlk : k < F.length
                      · have hkI : (k : Int) < (F.length : Int) := by omega
                        obtain ⟨f, hf⟩ := some_at hlk
                        obtain ⟨p', hp'⟩ := some_at (l := L') (k := k) (by rw [hLI.out]; exact hlk)
                        obtain ⟨g, gf, rfl, rfl⟩ := HSk.out.shapes_at hLI.out (by omega)
                        have f0 := HSk.out.frm_at hf
                        have s1 := HSk.out.out_at hp' (i := 1) rfl
                        have s2 := HSk.out.out_at hp' (i := 2) rfl
                        have z1 := HSk.out.out_free hLI.out.symm (k * 3 + 1)
                        have q0 : wk.cell? ⟨wi.heap.size, 0, none⟩ = some (vi e.kind) := by rw [cell_of HXk.out]; rfl
                        have HF := Lib.hid hf
                        have HP := Lib.hid hp'
                        clear hf hp'
                        by_cases hfq : (f : Int) = (q : Int)
                        · have g1 := beq_t hfq
                          have HKM := Lib.hid (show k = m from HI.out.inj k m q (by rw [HF.out]; congr 1; omega) HFm.out)
                          clear hfq
                          by_cases h3 : e.kind = 3
                          · have g2 := beq_t h3
                            have HET := Lib.hid (show endT ⟨eq.client, 0, eq.ops⟩ e = ⟨eq.client, 2, eq.ops⟩ by unfold endT; rw [if_neg H2.out, if_pos h3])
                            clear h3
                            go_upto_region 33 with fail
                            have HSn := Lib.hid (HSk.out.set hLI.out.symm HP.out (i := 1) (p' := (⟨p'.1.client, 2, p'.1.ops⟩, p'.2)) (u := vi 2) (by decide) rfl (HSk.out.ops p' (List.mem_of_getElem? HP.out)))
                            have HXn := Lib.hid (HSk.out.box hLI.out.symm HXk.out (k * 3 + 1) (vi 2))
                            generalize wk.setCell ⟨g, k * 3 + 1, none⟩ (vi 2) = wa at *
                            go_wp2_with fail
                            go_roundw
                            case rel =>
                              refine ⟨k + 1, _, by omega, by go_num, by rw [List.length_set]; exact hLI.out, HSn.out, Lib.hid ?_, HXn.out⟩
                              have hkm := HKM.out
                              have hH := HIk.out
                              have hP : (L'.map (·.1))[k]? = some p'.1 := by rw [List.getElem?_map, HP.out]; rfl
                              subst hkm
                              rw [hH.at, HTm.out] at hP
                              have hp1 : p'.1 = ⟨eq.client, 0, eq.ops⟩ := (Option.some.inj hP).symm
                              rw [List.map_set]
                              have := hH.put
                              rw [HET.out] at this
                              rw [HET.out]
                              simpa [hp1] using this
                            case measure => simp [intOf]; omega
                          · have g2 := beq_f h3
                            have HET := Lib.hid (show endT ⟨eq.client, 0, eq.ops⟩ e = ⟨eq.client, 0, eq.ops⟩ by unfold endT; rw [if_neg H2.out, if_neg h3])
                            clear h3
                            go_wp2_with fail
                            go_roundw
                            case rel =>
                              refine ⟨k + 1, L', by omega, by go_num, hLI.out, HSk.out, Lib.hid ?_, HXk.out⟩
                              have hkm := HKM.out
                              have hH := HIk.out
                              subst hkm
                              exact hH.same (by rw [HET.out]; exact HTm.out)
                            case measure => simp [intOf]; omega
                        · have g1 := beq_f hfq
                          have HKM := Lib.hid (show k ≠ m from fun hkm => by subst hkm; have := HF.out.symm.trans HFm.out; simp at this; omega)
                          clear hfq
                          go_wp2_with fail
                          go_roundw
                          case rel => exact ⟨k + 1, L', by omega, by go_num, hLI.out, HSk.out, Lib.hid (HIk.out.skip HKM.out), HXk.out⟩
                          case measure => simp [intOf]; omega
                      · obtain rfl : k = F.length := by omega
                        go_wp2_with fail
                        go_roundw
                        case rel => exact ⟨i + 1, L', F, _, by omega, by go_num, HSk.out, Lib.hid ⟨HI.out.over HE.out H1.out HA.out, HIk.out.all hmF⟩⟩
                        case measure => simp [intOf]; omega
            | false =>
              have HGM : Hid (getM s.op e.client = none) := by
                rcases HLAST.out with ⟨h2, _⟩ | ⟨m, q, eq, h2, h3, h4, h5, h6, h7, h8⟩
                · exact Lib.hid h2
                · exact absurd h6 (HK'.out rfl q eq h3 h5)
              by_cases h1 : e.kind = 1
              · have c1 := beq_t h1
                have H1 := Lib.hid h1
                clear h1
                go_upto_region 15 with fail
                go_cut [53] (fun r wx => (∃ b', r = .bool b' ∧ (b' = false ↔ FreshN es e.ops i e.ops.length)) ∧ Below w3.heap.size w3 wx)
                case first =>
                  go_wp2_with (go_at_call 33; refine (twice_callE _ es i e _ (HV.out.later HBW.out) HE.out).mono ?_; rintro r w4 ⟨b', rfl, hfr, hb4⟩)
                  go_meet
                  exact ⟨⟨_, rfl, hfr⟩, hb4⟩
                case rest =>
                  obtain ⟨wx, rfl⟩ : ∃ wx : World, wx = wc := ⟨_, rfl⟩
                  obtain ⟨⟨b', rfl, hfr⟩, hb4⟩ := hcut
                  have HB4 := Lib.hid hb4
                  have hw4 := hb4.size
                  clear hb4
                  cases b' with
                  | true =>
                    have HNO := Lib.hid (HI.out.twice HE.out HG.out HGM.out H1.out (fun h => by have := hfr.2 h; cases this))
                    clear hfr
                    go_wp2_with fail
                    go_ret3
                    exact .bad rfl (by omega) HNO.out (HBW.out.trans (HB4.out.mono HBW.out.size))
                  | false =>
                    obtain ⟨s2, HI2, HT2⟩ : ∃ s2, Hid (RefInv es (i + 1) s2 (F ++ [i])) ∧ Hid (s2.ts = s.ts ++ [⟨e.client, 0, e.ops⟩]) := by
                      obtain ⟨s2, g1, g2⟩ := HI.out.new HE.out HG.out HGM.out H1.out (hfr.1 rfl)
                      exact ⟨s2, Lib.hid g1, Lib.hid g2⟩
                    clear hfr
                    go_upto_region 17 with fail
                    have hFl : F.length ≤ i := hFi
                    have hLl : L.length = F.length := HFL.out.symm
                    have q1 := cell_later HB4.out Q1'.out
                    have q2 := cell_later HB4.out Q2'.out
                    have hw14 : wi.heap.size < wx.heap.size := by omega
                    have HS4 := Lib.hid (HS3.out.later HB4.out)
                    have HBX := Lib.hid (HBW.out.trans (HB4.out.mono HBW.out.size))
                    have hwx := HBX.out.size
                    have HR4 := Lib.hid (HR.out.later HBX.out)
                    have HO := Lib.hid (show (wx.drew.alloc (.cells #[] 51)).ownsRow wx.heap.size 51 3 (.slice (some ⟨wx.heap.size, 0, none⟩) 0 0) 0 [] from World.ownsRow_lit wx.drew #[] 0 (Nat.le_refl _) (by simp [maxLen]) rfl)
                    go_cut [5] (fun vo wy => ∃ ov, OfS w vo u6 (L ++ [(⟨e.client, 0, e.ops⟩, ov)]) F wy)
                    case first =>
                      go_region_law (first
                        | (refine step_append_src rfl _ _ 47 rfl eltOp wx.heap.size 0 [] HO.out rfl e.ops.length _ (HR4.out.later (((Below.refl wx.heap.size wx).drew).alloc (Nat.le_refl _) _)).src rfl opV_one (by omega) (by omega) (by simp) ?_; intro v2 w5 hown2 hg2 _; have HO2 := Lib.hid (show OwOps wx.heap.size w5 v2 e.ops by simpa [OwOps] using hown2); have HB5 := Lib.hid (((((Below.refl wx.heap.size wx).drew).alloc (Nat.le_refl _) _).grown hg2 (by simp) (by simp [Value.ownBlock]))); have hr2 := HO2.out.rd; obtain ⟨a2, len2, cap2, rfl, rfl, hm2, -⟩ := hr2.at; have z1 := cell_later HB5.out q1; clear hown2 hg2 hr2)
                        | (refine step_append_src rfl _ _ 24 rfl eltTxn w.heap.size L.length _ ((HS4.out.later HB5.out).more _).out rfl 1 (txV (⟨e.client, 0, e.ops⟩, .slice a2 e.ops.length cap2)) (src_new rfl rfl) rfl (txV_one rfl) (by omega) (by omega) (by have := HB5.out.size; simp; omega) ?_; intro v3 w6 hown3 hg3 _; have HS6 := Lib.hid (((HS4.out.later HB5.out).more _).push hg3 hown3 ((own_mono HO2.out hwx).alloc _)); clear hown3 hg3))
                      all_goals
                        go_wp2
                        go_meet
                        exact ⟨_, HS6.out⟩
                    case rest =>
                      obtain ⟨ov, hs6⟩ := hcut
                      have HS6 := Lib.hid hs6
                      have hwy := hs6.below.size
                      clear hs6 q1 q2
                      go_wp2_with (at_builtin; refine wpList_append_src rfl _ _ 58 rfl eltInt w.heap.size F.length _ (HS6.out.more _).frm rfl 1 [vi (i : Int)] (src_new (cs := #[vi (i : Int)]) rfl rfl) rfl (one_vi _) (by omega) (by omega) (by simp; omega) ?_; intro v4 w7 hown4 hg4 _; have HS7 := Lib.hid ((HS6.out.more _).pushF hg4 hown4); clear hown4 hg4)
                      go_roundw
                      case rel => exact ⟨i + 1, _, _, s2, by omega, by go_num, HS7.out, Lib.hid ⟨HI2.out, by rw [HT2.out, List.map_append, HLM.out]; rfl⟩⟩
                      case measure => simp [intOf]; omega
              · have c1 := beq_f h1
                have HNO := Lib.hid (HI.out.stop HE.out (stepH_idle HGM.out h1))
                clear h1
                go_wp2_with fail
                go_ret3
                exact .bad rfl (by omega) HNO.out HBW.out
    · obtain rfl : i = es.length := by omega
      go_wp2_with fail
      go_ret3
      have hrun := HI.out.run
      rw [List.take_length] at hrun
      exact .good rfl HS.out.rd (by unfold histH; rw [hrun, HLM.out]; rfl) HB.out
/-- What it answers of a list however long. -/
def OfQA (es : List GEvent) (w : World) (r : Ending) (w' : World) : Prop := ∃ (v : Value) (p err : Int), r = .returned (.tuple #[v, .int .i64 p, .int .i64 err]) ∧ (err = 0 → ∃ ts, histH es = some ts ∧ RdTxns w' v ts) ∧ (err ≠ 0 → es.length ≤ 400 → histH es = none) ∧ (∃ a n c, v = .slice a n c) ∧ Below w.heap.size w w'
set_option maxHeartbeats 1000000 in
theorem of_callA (v : Value) (es : List GEvent) (w : World) (hv : RdEvents w v es) : Calls Tryz.prog 14 #[v] w (OfQA es w) := by
  by_cases hes : es.length ≤ 400
  · exact (of_callE v es w hv hes).mono fun _ _ ⟨v, p, err, h1, h2, h3, h4, h5⟩ => ⟨v, p, err, h1, h2, fun h _ => h3 h, h4, h5⟩
  · obtain ⟨a, len, cap, rfl, rfl, hm, -⟩ := hv.at
    have hb : (es.length : Int) > 400 := by omega
    have HL := Lib.hid hes
    clear hv hes
    go_enter Tryz.func14, Tryz.ntmps14
    go_wp2_with fail
    go_ret3
    exact ⟨_, 400, 4, rfl, (fun h => by cases h), (fun _ h => absurd h HL.out), ⟨_, _, _, rfl⟩, Below.refl _ _⟩
end Go.Proofs.YtnacoplokjdglaaGreat
