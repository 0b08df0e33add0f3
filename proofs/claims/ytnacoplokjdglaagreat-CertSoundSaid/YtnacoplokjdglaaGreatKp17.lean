/- Texts of one proof, one behind the other: RightE, HxR, LastE, TwiceE, AnswerE. -/
import Derived.Test.YtnacoplokjdglaaGreatKp1
import Derived.Test.YtnacoplokjdglaaGreatKp2
import Derived.Test.YtnacoplokjdglaaGreatKp3
import Derived.Test.YtnacoplokjdglaaGreatKp4
import Derived.Test.YtnacoplokjdglaaGreatKp15
import Derived.Test.YtnacoplokjdglaaGreatKp16
set_option linter.all false
namespace Go.Proofs.YtnacoplokjdglaaGreat
open Go.RowKit Go.Maps
/-- What crucibleref05.right answers, exactly. -/
def RightQE (e : GEvent) (w : World) (r : Ending) (w' : World) : Prop := ∃ b, r = .returned (.bool b) ∧ (b = true ↔ RightEv e) ∧ Below w.heap.size w w'
theorem RightQE.no {e : GEvent} {w w' : World} {r : Ending} (h : r = .returned (.bool false)) (hn : ¬ RightEv e) (hb : Below w.heap.size w w') : RightQE e w r w' := ⟨false, h, ⟨(fun h => by cases h), fun h => absurd h hn⟩, hb⟩
theorem RightQE.yes {e : GEvent} {w w' : World} {r : Ending} (h : r = .returned (.bool true)) (hg : RightEv e) (hb : Below w.heap.size w w') : RightQE e w r w' := ⟨true, h, ⟨fun _ => hg, fun _ => rfl⟩, hb⟩

set_option maxRecDepth 100000 in
set_option maxHeartbeats 4000000 in
theorem right_callE (e : GEvent) (v : Value) (w : World) (hv : RdOps w v e.ops) :
    Calls Tryz.prog 31 #[.agg #[vi e.kind, vi e.client, v]] w (RightQE e w) := by
  obtain ⟨kind, client, l⟩ := e
  have hB : Below w.heap.size w (w.alloc (.cells #[vi kind, vi client, v] 53)) := (Below.refl _ _).alloc (Nat.le_refl _) _
  have hV := hv.later hB
  have HV := Lib.hid hV
  have HB := Lib.hid hB
  obtain ⟨a, len, cap, rfl, rfl, hm, -⟩ := hv.at
  clear hv hV hB
  show Calls Tryz.prog 31 #[.agg #[vi kind, vi client, .slice a l.length cap]] w _
  go_enter Tryz.func31, Tryz.ntmps31
  by_cases a1 : kind < 1
  · go_wp2_with fail
    go_ret
    exact .no rfl (fun h => absurd (show 1 ≤ kind from h.good.kind0) (by omega)) HB.out
  by_cases a2 : kind > 4
  · go_wp2_with fail
    go_ret
    exact .no rfl (fun h => absurd (show kind ≤ 4 from h.good.kind1) (by omega)) HB.out
  by_cases a3 : client < 1
  · go_wp2_with fail
    go_ret
    exact .no rfl (fun h => absurd (show 1 ≤ client from h.good.cl0) (by omega)) HB.out
  by_cases a4 : client > 16
  · go_wp2_with fail
    go_ret
    exact .no rfl (fun h => absurd (show client ≤ 16 from h.good.cl1) (by omega)) HB.out
  by_cases a5 : (l.length : Int) > 12
  · go_wp2_with fail
    go_ret
    exact .no rfl (fun h => absurd (show l.length ≤ 12 from h.good.len) (by omega)) HB.out
  have hz : (∃ c : Bool, c = ((l.length : Int) == 0)) := ⟨_, rfl⟩
  go_upto_region 3 with fail
  go_cut [42] (fun r wx => (∃ b, r = .bool b ∧ (b = true → ¬ RightEv ⟨kind, client, l⟩) ∧ (b = false → kind = 1 ∨ kind = 2 → l ≠ [])) ∧ wx = w.alloc (.cells #[vi kind, vi client, .slice a l.length cap] 53))
  case first =>
    by_cases b1 : (l.length : Int) = 0
    · have c1 := beq_t b1
      have L0 := Lib.hid (show l = [] from List.length_eq_zero_iff.1 (by omega))
      clear b1
      by_cases b2 : kind = 1
      · have c2 := beq_t b2
        have K := Lib.hid b2
        clear b2
        go_wp2_with fail
        go_meet
        exact ⟨⟨true, rfl, fun _ h => h.full (.inl K.out) L0.out, fun h => by cases h⟩, rfl⟩
      · have c2 := beq_f b2
        have K := Lib.hid b2
        clear b2
        by_cases b3 : kind = 2
        · have c3 := beq_t b3
          have K2 := Lib.hid b3
          clear b3
          go_wp2_with fail
          go_meet
          exact ⟨⟨true, rfl, fun _ h => h.full (.inr K2.out) L0.out, fun h => by cases h⟩, rfl⟩
        · have c3 := beq_f b3
          have K2 := Lib.hid b3
          clear b3
          go_wp2_with fail
          go_meet
          exact ⟨⟨false, rfl, (fun h => by cases h), fun _ h => absurd h (not_or.2 ⟨K.out, K2.out⟩)⟩, rfl⟩
    · have c1 := beq_f b1
      have L0 := Lib.hid (show l ≠ [] from fun h => b1 (by rw [h]; rfl))
      clear b1
      go_wp2_with fail
      go_meet
      exact ⟨⟨false, rfl, (fun h => by cases h), fun _ _ => L0.out⟩, rfl⟩
  case rest =>
    obtain ⟨⟨b, rfl, hbt, hbf⟩, rfl⟩ := hcut
    cases b with
    | true =>
      have HBT := Lib.hid (hbt rfl)
      clear hbt hbf
      go_wp2_with fail
      go_ret
      exact .no rfl HBT.out HB.out
    | false =>
      have HBF := Lib.hid (hbf rfl)
      clear hbt hbf
      have HB1 := Lib.hid (show Below w.heap.size w (w.alloc (.cells #[vi kind, vi client, .slice a l.length cap] 53)) from HB.out)
      have q0 : (w.alloc (.cells #[vi kind, vi client, .slice a l.length cap] 53)).cell? ⟨w.heap.size, 0, none⟩ = some (vi kind) := by rw [cell_of (alloc_at _ _)]; rfl
      have hw1 : (w.alloc (.cells #[vi kind, vi client, .slice a l.length cap] 53)).heap.size = w.heap.size + 1 := by simp
      have Q0 := Lib.hid q0
      clear q0
      go_wp2_with fail
      generalize w.alloc (.cells #[vi kind, vi client, .slice a l.length cap] 53) = w1 at *
      go_loopw [46] (fun i wr => ∃ k : Nat, k ≤ l.length ∧ i = .int .i64 k ∧ (∀ j o, j < k → l[j]? = some o → RightOp kind o) ∧ Below w1.heap.size w1 wr) (fun i _ => l.length - (intOf i).toNat)
      case atStart => exact ⟨0, Nat.zero_le _, rfl, fun j u hj => absurd hj (Nat.not_lt_zero _), Below.refl _ _⟩
      case round =>
        obtain ⟨wk, rfl⟩ : ∃ wk : World, wk = wr := ⟨_, rfl⟩
        obtain ⟨k, hk, rfl, hno, hb⟩ := hrel
        have HN := Lib.hid hno
        have HBk := Lib.hid hb
        have hwk := hb.size
        have hwk2 : w.heap.size < wk.heap.size := by omega
        have q1 := cell_later hb Q0.out
        clear hno hb
        by_cases hlt : k < l.length
        · obtain ⟨o, ho⟩ := some_at hlt
          obtain ⟨_, _, _, e5, -, -, hcl⟩ := HV.out.at
          cases e5
          obtain ⟨b, off, rfl, k0', k1', k2'⟩ := hcl k o ho
          have k0 := cell_later HBk.out k0'
          have k1 := cell_later HBk.out k1'
          have k2 := cell_later HBk.out k2'
          have HO := Lib.hid ho
          have hkI : (k : Int) < (l.length : Int) := by omega
          clear hcl ho k0' k1' k2'
          go_upto_region 8 with fail
          go_cut [77] (fun r wx => (∃ b', r = .bool b' ∧ (b' = false → GoodOp o) ∧ (b' = true → ¬ GoodOp o)) ∧ wx = wk.alloc (.cells #[vi o.kind, vi o.key, vi o.val] 51))
          case first =>
            by_cases g1 : o.kind = 1
            · have HG := Lib.hid (show o.kind = 1 ∨ o.kind = 2 from .inl g1)
              have e1 := bne_f g1
              clear g1
              by_cases d1 : o.key < 0
              · go_wp2_with fail
                go_meet
                exact ⟨⟨_, rfl, (fun h => by cases h), fun _ h => absurd h.key0 (by omega)⟩, rfl⟩
              by_cases d2 : o.key > 15
              · go_wp2_with fail
                go_meet
                exact ⟨⟨_, rfl, (fun h => by cases h), fun _ h => absurd h.key1 (by omega)⟩, rfl⟩
              by_cases d3 : o.val < 0
              · go_wp2_with fail
                go_meet
                exact ⟨⟨_, rfl, (fun h => by cases h), fun _ h => absurd h.val0 (by omega)⟩, rfl⟩
              by_cases d4 : o.val ≥ 1099511627776
              · go_wp2_with fail
                go_meet
                exact ⟨⟨_, rfl, (fun h => by cases h), fun _ h => absurd h.val1 (by omega)⟩, rfl⟩
              go_wp2_with fail
              go_meet
              exact ⟨⟨_, rfl, (fun _ => ⟨HG.out, by omega, by omega, by omega, by omega⟩), fun h => by cases h⟩, rfl⟩
            by_cases g2 : o.kind = 2
            · have HG := Lib.hid (show o.kind = 1 ∨ o.kind = 2 from .inr g2)
              have e1 := bne_t g1
              have e2 := bne_f g2
              clear g1 g2
              by_cases d1 : o.key < 0
              · go_wp2_with fail
                go_meet
                exact ⟨⟨_, rfl, (fun h => by cases h), fun _ h => absurd h.key0 (by omega)⟩, rfl⟩
              by_cases d2 : o.key > 15
              · go_wp2_with fail
                go_meet
                exact ⟨⟨_, rfl, (fun h => by cases h), fun _ h => absurd h.key1 (by omega)⟩, rfl⟩
              by_cases d3 : o.val < 0
              · go_wp2_with fail
                go_meet
                exact ⟨⟨_, rfl, (fun h => by cases h), fun _ h => absurd h.val0 (by omega)⟩, rfl⟩
              by_cases d4 : o.val ≥ 1099511627776
              · go_wp2_with fail
                go_meet
                exact ⟨⟨_, rfl, (fun h => by cases h), fun _ h => absurd h.val1 (by omega)⟩, rfl⟩
              go_wp2_with fail
              go_meet
              exact ⟨⟨_, rfl, (fun _ => ⟨HG.out, by omega, by omega, by omega, by omega⟩), fun h => by cases h⟩, rfl⟩
            have e1 := bne_t g1
            have e2 := bne_t g2
            have HNG := Lib.hid (show ¬ GoodOp o from fun h => h.kind.elim g1 g2)
            clear g1 g2
            go_wp2_with fail
            go_meet
            exact ⟨⟨_, rfl, (fun h => by cases h), fun _ => HNG.out⟩, rfl⟩
          case rest =>
            obtain ⟨⟨b', rfl, hgood, hngood⟩, rfl⟩ := hcut
            cases b' with
            | true =>
              have HNG := Lib.hid (show ¬ RightEv ⟨kind, client, l⟩ from fun h => hngood rfl (h.ops o (List.mem_of_getElem? HO.out)).good)
              clear hgood hngood
              go_wp2_with fail
              go_ret
              exact .no rfl HNG.out (HB1.out.trans ((HBk.out.alloc hwk _).mono HB1.out.size))
            | false =>
              have HGood := Lib.hid (hgood rfl)
              clear hgood hngood
              go_upto_region 10 with fail
              go_cut [100] (fun r wx => (∃ b', r = .bool b' ∧ (b' = false → RightOp kind o) ∧ (b' = true → ¬ RightOp kind o)) ∧ wx = wk.alloc (.cells #[vi o.kind, vi o.key, vi o.val] 51))
              case first =>
                by_cases g1 : o.kind = 2
                · have e1 := beq_t g1
                  have e1' : (o.kind == 1) = false := by simp [g1]
                  have K := Lib.hid g1
                  clear g1
                  by_cases g2 : o.val = 0
                  · have e2 := beq_t g2
                    have K2 := Lib.hid g2
                    clear g2
                    go_wp2_with fail
                    go_meet
                    exact ⟨⟨_, rfl, (fun h => by cases h), fun _ h => h.wr K.out K2.out⟩, rfl⟩
                  · have e2 := beq_f g2
                    have K2 := Lib.hid g2
                    clear g2
                    go_wp2_with fail
                    go_meet
                    exact ⟨⟨_, rfl, (fun _ => ⟨HGood.out, fun _ => K2.out, fun h => absurd (h.symm.trans K.out) (by decide)⟩), fun h => by cases h⟩, rfl⟩
                · have e1 := beq_f g1
                  have K := Lib.hid g1
                  clear g1
                  by_cases g2 : o.kind = 1
                  · have e2 := beq_t g2
                    have K2 := Lib.hid g2
                    clear g2
                    by_cases g3 : o.val = 0
                    · have e3 := bne_f g3
                      have K3 := Lib.hid g3
                      clear g3
                      go_wp2_with fail
                      go_meet
                      exact ⟨⟨_, rfl, (fun _ => ⟨HGood.out, fun h => absurd h K.out, fun _ _ => K3.out⟩), fun h => by cases h⟩, rfl⟩
                    · have e3 := bne_t g3
                      have K3 := Lib.hid g3
                      clear g3
                      by_cases g4 : kind = 1
                      · have e4 := beq_t g4
                        have K4 := Lib.hid g4
                        clear g4
                        go_wp2_with fail
                        go_meet
                        exact ⟨⟨_, rfl, (fun h => by cases h), fun _ h => K3.out (h.rd K2.out K4.out)⟩, rfl⟩
                      · have e4 := beq_f g4
                        have K4 := Lib.hid g4
                        clear g4
                        go_wp2_with fail
                        go_meet
                        exact ⟨⟨_, rfl, (fun _ => ⟨HGood.out, fun h => absurd h K.out, fun _ h => absurd h K4.out⟩), fun h => by cases h⟩, rfl⟩
                  · have e2 := beq_f g2
                    have K2 := Lib.hid g2
                    clear g2
                    go_wp2_with fail
                    go_meet
                    exact ⟨⟨_, rfl, (fun _ => ⟨HGood.out, fun h => absurd h K.out, fun h => absurd h K2.out⟩), fun h => by cases h⟩, rfl⟩
              case rest =>
                obtain ⟨⟨b', rfl, hrop, hnrop⟩, rfl⟩ := hcut
                cases b' with
                | true =>
                  have HNG := Lib.hid (show ¬ RightEv ⟨kind, client, l⟩ from fun h => hnrop rfl (h.ops o (List.mem_of_getElem? HO.out)))
                  clear hrop hnrop
                  go_wp2_with fail
                  go_ret
                  exact .no rfl HNG.out (HB1.out.trans ((HBk.out.alloc hwk _).mono HB1.out.size))
                | false =>
                  have HRop := Lib.hid (hrop rfl)
                  clear hrop hnrop
                  go_wp2_with fail
                  go_roundw
                  case rel =>
                    refine ⟨k + 1, by omega, by go_num, ?_, HBk.out.alloc hwk _⟩
                    intro j o' hj ho'
                    rcases Nat.lt_or_ge j k with h | h
                    · exact HN.out j o' h ho'
                    · obtain rfl : j = k := by omega
                      rw [HO.out] at ho'; cases ho'; exact HRop.out
                  case measure => simp [intOf]; omega
        · obtain rfl : k = l.length := by omega
          go_wp2_with fail
          go_ret
          have HALL := Lib.hid (show ∀ o ∈ l, RightOp kind o from fun o ho => by
            obtain ⟨j, hj, rfl⟩ := List.mem_iff_getElem.1 ho
            exact HN.out j _ hj (List.getElem?_eq_getElem hj))
          exact .yes rfl ⟨⟨by show 1 ≤ kind; omega, by show kind ≤ 4; omega, by show 1 ≤ client; omega, by show client ≤ 16; omega, by show l.length ≤ 12; omega, fun o ho => (HALL.out o ho).good⟩, HBF.out, HALL.out⟩ (HB1.out.trans (HBk.out.mono HB1.out.size))
end Go.Proofs.YtnacoplokjdglaaGreat

namespace Go.Proofs.YtnacoplokjdglaaGreat
open Go.RowKit Go.Maps
/-- p is the last place ahead of a place with the same client; -1: none. -/
def LastP (es : List GEvent) (i : Nat) (c : Int) (p : Int) : Prop :=
  (p = -1 ∧ ∀ (j : Nat) (e : GEvent), j < i → es[j]? = some e → e.client ≠ c) ∨
  ∃ (q : Nat) (eq : GEvent), p = q ∧ q < i ∧ es[q]? = some eq ∧ eq.client = c ∧ ∀ (j : Nat) (e : GEvent), q < j → j < i → es[j]? = some e → e.client ≠ c

/-- What holds behind i events: F says where each transaction was begun. -/
structure RefInv (es : List GEvent) (i : Nat) (s : HSt) (F : List Nat) : Prop where
  run : runH hst0 (es.take i) = some s
  len : F.length = s.ts.length
  lt : ∀ f ∈ F, f < i
  inj : ∀ (a b f : Nat), F[a]? = some f → F[b]? = some f → a = b
  busy : ∀ (c k : Int), getM s.op c = some k → ∃ (m f : Nat) (e : GEvent) (t : GTxn), k = m ∧ F[m]? = some f ∧ es[f]? = some e ∧ e.kind = 1 ∧ e.client = c ∧ s.ts[m]? = some t ∧ t = ⟨e.client, 0, e.ops⟩ ∧ ∀ (j : Nat) (e' : GEvent), f < j → j < i → es[j]? = some e' → e'.client ≠ c
  idle : ∀ (c : Int), getM s.op c = none → ∀ (j : Nat) (e : GEvent), j < i → es[j]? = some e → e.client = c → e.kind = 1 → ∃ (j' : Nat) (e' : GEvent), j < j' ∧ j' < i ∧ es[j']? = some e' ∧ e'.client = c
  wr : ∀ v, isWr s.wr v ↔ ∃ (j : Nat) (e : GEvent), j < i ∧ es[j]? = some e ∧ e.kind = 1 ∧ ∃ o ∈ e.ops, o.kind = 2 ∧ o.val = v

theorem RefInv.start (es : List GEvent) : RefInv es 0 hst0 [] :=
  ⟨rfl, rfl, (fun f h => by cases h), (fun a b f h => by simp at h), (fun c k h => by simp [hst0, getM_nil] at h), (fun c _ j e h => by omega), (fun v => by
    constructor
    · intro h; simp [isWr, hst0, getM_nil] at h
    · rintro ⟨j, e, h, _⟩; omega)⟩

/-- An event that begins a transaction. -/
theorem RefInv.begun {es : List GEvent} {i : Nat} {s s' : HSt} {F : List Nat} {e : GEvent} (h : RefInv es i s F) (he : es[i]? = some e) (h1 : e.kind = 1) (hs : stepH s e = some s') : RefInv es (i + 1) s' (F ++ [i]) ∧ s'.ts = s.ts ++ [⟨e.client, 0, e.ops⟩] := by
  obtain ⟨hr, ⟨hk, _, wr, hw, rfl⟩ | ⟨k, t, hk, h2, _⟩⟩ := stepH_some hs
  · obtain ⟨_, hin⟩ := addW_some hw
    refine ⟨⟨by rw [runH_next h.run he, hs], by simp [h.len], ?_, ?_, ?_, ?_, ?_⟩, rfl⟩
    · intro f hf
      rcases List.mem_append.1 hf with hf | hf
      · have := h.lt f hf; omega
      · simp at hf; omega
    · intro a b f ha hb
      rw [List.getElem?_append] at ha hb
      split at ha <;> split at hb
      · exact h.inj a b f ha hb
      · have := h.lt f (List.mem_of_getElem? ha)
        have := List.mem_of_getElem? hb
        simp at this; omega
      · have := h.lt f (List.mem_of_getElem? hb)
        have := List.mem_of_getElem? ha
        simp at this; omega
      · have ha' := (List.getElem?_eq_some_iff.1 ha).1
        have hb' := (List.getElem?_eq_some_iff.1 hb).1
        simp at ha' hb'; omega
    · intro c k hc
      rw [getM_put] at hc
      split at hc
      · rename_i hcc
        cases hc
        refine ⟨s.ts.length, i, e, ⟨e.client, 0, e.ops⟩, rfl, by rw [← h.len]; simp, he, h1, hcc, by simp, rfl, fun j e' h3 h4 => by omega⟩
      · rename_i hcc
        obtain ⟨m, f, e0, t, rfl, h3, h4, h5, h6, h7, h8, h9⟩ := h.busy c k hc
        refine ⟨m, f, e0, t, rfl, ?_, h4, h5, h6, ?_, h8, fun j e' h10 h11 h12 => ?_⟩
        · rw [List.getElem?_append_left (List.getElem?_eq_some_iff.1 h3).1]; exact h3
        · rw [List.getElem?_append_left (List.getElem?_eq_some_iff.1 h7).1]; exact h7
        · rcases Nat.lt_or_ge j i with h13 | h13
          · exact h9 j e' h10 h13 h12
          · obtain rfl : j = i := by omega
            rw [he] at h12; cases h12
            exact hcc
    · intro c hc j e0 hj hej hec he1
      rw [getM_put] at hc
      split at hc
      · cases hc
      · rename_i hcc
        rcases Nat.lt_or_ge j i with h13 | h13
        · obtain ⟨j', e', h3, h4, h5, h6⟩ := h.idle c hc j e0 h13 hej hec he1
          exact ⟨j', e', h3, by omega, h5, h6⟩
        · obtain rfl : j = i := by omega
          rw [he] at hej; cases hej
          exact absurd hec hcc
    · intro v
      rw [hin, h.wr]
      constructor
      · rintro (⟨j, e0, h3, h4, h5, h6⟩ | ⟨o, h3, h4, h5⟩)
        · exact ⟨j, e0, by omega, h4, h5, h6⟩
        · exact ⟨i, e, by omega, he, h1, o, h3, h4, h5⟩
      · rintro ⟨j, e0, h3, h4, h5, o, h6, h7, h8⟩
        rcases Nat.lt_or_ge j i with h13 | h13
        · exact .inl ⟨j, e0, h13, h4, h5, o, h6, h7, h8⟩
        · obtain rfl : j = i := by omega
          rw [he] at h4; cases h4
          exact .inr ⟨o, h6, h7, h8⟩
  · exact absurd h1 h2
/-- An event that ends one. -/
theorem RefInv.over {es : List GEvent} {i : Nat} {s s' : HSt} {F : List Nat} {e : GEvent} (h : RefInv es i s F) (he : es[i]? = some e) (h1 : e.kind ≠ 1) (hs : stepH s e = some s') : RefInv es (i + 1) s' F := by
  obtain ⟨hr, ⟨_, h2, _⟩ | ⟨k, t, hk, _, ht, ho, rfl⟩⟩ := stepH_some hs
  · exact absurd h2 h1
  · obtain ⟨m, f, e0, t0, rfl, h3, h4, h5, h6, h7, h8, h9⟩ := h.busy _ _ hk
    refine ⟨by rw [runH_next h.run he, hs], by simp [h.len], fun f hf => by have := h.lt f hf; omega, h.inj, ?_, ?_, ?_⟩
    · intro c k hc
      rw [getM_del] at hc
      split at hc
      · cases hc
      · rename_i hcc
        obtain ⟨m', f', e', t', rfl, g3, g4, g5, g6, g7, g8, g9⟩ := h.busy c k hc
        refine ⟨m', f', e', t', rfl, g3, g4, g5, g6, ?_, g8, fun j e'' h10 h11 h12 => ?_⟩
        · simp only [Int.toNat_natCast]
          rw [List.getElem?_set_ne (fun e1 => ?_)]
          · exact g7
          · subst e1
            rw [h7] at g7
            cases g7
            rw [h8] at g8
            have := congrArg GTxn.client g8
            simp only at this
            exact hcc (by rw [← h6, ← g6]; exact this)
        · rcases Nat.lt_or_ge j i with h13 | h13
          · exact g9 j e'' h10 h13 h12
          · obtain rfl : j = i := by omega
            rw [he] at h12; cases h12
            exact hcc
    · intro c hc j e' hj hej hec he1
      rw [getM_del] at hc
      rcases Nat.lt_or_ge j i with h13 | h13
      · split at hc
        · rename_i hcc
          exact ⟨i, e, by omega, by omega, he, hcc⟩
        · obtain ⟨j', e'', g3, g4, g5, g6⟩ := h.idle c hc j e' h13 hej hec he1
          exact ⟨j', e'', g3, by omega, g5, g6⟩
      · obtain rfl : j = i := by omega
        rw [he] at hej; cases hej
        exact absurd he1 h1
    · intro v
      rw [h.wr]
      constructor
      · rintro ⟨j, e', g3, g4, g5, g6⟩
        exact ⟨j, e', by omega, g4, g5, g6⟩
      · rintro ⟨j, e', g3, g4, g5, g6⟩
        rcases Nat.lt_or_ge j i with h13 | h13
        · exact ⟨j, e', h13, g4, g5, g6⟩
        · obtain rfl : j = i := by omega
          rw [he] at g4; cases g4
          exact absurd g5 h1

/-- What the reference asks of the last event, and what is open. -/
theorem RefInv.last {es : List GEvent} {i : Nat} {s : HSt} {F : List Nat} {c p : Int} (h : RefInv es i s F) (hp : LastP es i c p) :
    (getM s.op c = none ∧ ∀ (q : Nat) (eq : GEvent), p = q → es[q]? = some eq → eq.kind ≠ 1) ∨
    ∃ (m q : Nat) (eq : GEvent), getM s.op c = some (m : Int) ∧ p = q ∧ q < i ∧ es[q]? = some eq ∧ eq.kind = 1 ∧ F[m]? = some q ∧ s.ts[m]? = some ⟨eq.client, 0, eq.ops⟩ := by
  cases hk : getM s.op c with
  | none =>
    left
    refine ⟨rfl, fun q eq hq he h1 => ?_⟩
    rcases hp with ⟨h2, _⟩ | ⟨q', eq', h2, h3, h4, h5, h6⟩
    · omega
    · obtain rfl : q' = q := by omega
      rw [he] at h4; cases h4
      obtain ⟨j', e', g3, g4, g5, g6⟩ := h.idle c hk q' eq h3 he h5 h1
      exact h6 j' e' g3 g4 g5 g6
  | some k =>
    right
    obtain ⟨m, f, e0, t0, rfl, h3, h4, h5, h6, h7, h8, h9⟩ := h.busy _ _ hk
    have hf := h.lt f (List.mem_of_getElem? h3)
    rcases hp with ⟨_, g2⟩ | ⟨q', eq', g2, g3, g4, g5, g6⟩
    · exact absurd h6 (g2 f e0 hf h4)
    · have : q' = f := by
        rcases Nat.lt_trichotomy q' f with hl | he | hg
        · exact absurd h6 (g6 f e0 hl hf h4)
        · exact he
        · exact absurd g5 (h9 q' eq' hg g3 g4)
      subst this
      exact ⟨m, q', e0, rfl, g2, hf, h4, h5, h3, by rw [h7, h8]⟩
/-- What the reference asks of what is written, and what was written. -/
theorem RefInv.fresh {es : List GEvent} {i : Nat} {s : HSt} {F : List Nat} {e : GEvent} (h : RefInv es i s F) (he : es[i]? = some e) (h1 : e.kind = 1) : FreshN es e.ops i e.ops.length ↔ FreshW s.wr e.ops := by
  constructor
  · intro hf a o ho h2
    have ha := (List.getElem?_eq_some_iff.1 ho).1
    refine ⟨fun hw => ?_, fun j p hj hp hp2 => hf a o ha ho h2 i e j p (by omega) he h1 hp (.inr hj) hp2⟩
    obtain ⟨k, e', g1, g2, g3, q, g4, g5, g6⟩ := (h.wr _).1 hw
    obtain ⟨y, hy⟩ := List.mem_iff_getElem?.1 g4
    exact hf a o ha ho h2 k e' y q (by omega) g2 g3 hy (.inl g1) g5 g6
  · intro hf a o _ ho h2 k e' j p hk he' h3 hp hc hp2 hv
    have h4 := hf a o ho h2
    rcases Nat.lt_or_ge k i with h5 | h5
    · exact h4.1 ((h.wr _).2 ⟨k, e', h5, he', h3, p, List.mem_of_getElem? hp, hp2, hv⟩)
    · obtain rfl : k = i := by omega
      rw [he] at he'; cases he'
      rcases hc with hc | hc
      · omega
      · exact h4.2 j p hc hp hp2 hv
end Go.Proofs.YtnacoplokjdglaaGreat

namespace Go.Proofs.YtnacoplokjdglaaGreat
open Go.RowKit Go.Maps
set_option maxRecDepth 100000 in
set_option maxHeartbeats 4000000 in
theorem last_callE (v : Value) (es : List GEvent) (at' : Nat) (w : World) (hv : RdEvents w v es) (e2 : GEvent) (he2 : es[at']? = some e2) :
    Calls Tryz.prog 32 #[v, .int .i64 at'] w fun r w' => ∃ p : Int, r = .returned (.int .i64 p) ∧ LastP es at' e2.client p ∧ -1 ≤ p ∧ p < at' ∧ Below w.heap.size w w' := by
  have HV := Lib.hid hv
  have hat := (List.getElem?_eq_some_iff.1 he2).1
  have HE2 := Lib.hid he2
  obtain ⟨a, len, cap, rfl, rfl, hm, -⟩ := hv.at
  clear hv he2
  go_enter Tryz.func32, Tryz.ntmps32
  go_wp2_with fail
  go_loopw [5] (fun i wr => ∃ p : Int, i = .int .i64 p ∧ -1 ≤ p ∧ p < at' ∧ Hid (∀ (j : Nat) (e : GEvent), p < j → j < at' → es[j]? = some e → e.client ≠ e2.client) ∧ Below w.heap.size w wr) (fun i _ => (intOf i + 1).toNat)
  case atStart => exact ⟨_, rfl, by omega, by omega, Lib.hid (fun j e h1 h2 => by omega), Below.refl _ _⟩
  case round =>
    obtain ⟨wk, rfl⟩ : ∃ wk : World, wk = wr := ⟨_, rfl⟩
    obtain ⟨p, rfl, hp1, hp2, HN, hb⟩ := hrel
    have HB := Lib.hid hb
    clear hb
    by_cases hlt : 0 ≤ p
    · obtain ⟨k, rfl⟩ := Int.eq_ofNat_of_zero_le hlt
      have hk1 : k < es.length := by omega
      have hkI : (k : Int) < (es.length : Int) := by omega
      have haI : (at' : Int) < (es.length : Int) := by omega
      obtain ⟨e1, he1⟩ := some_at hk1
      obtain ⟨_, _, _, e5, -, -, hcl⟩ := HV.out.at
      cases e5
      obtain ⟨b, off, oa, oc, rfl, -, -, k1', -⟩ := hcl k e1 he1
      obtain ⟨_, _, ob, oc2, e6, -, -, m1', -⟩ := hcl at' e2 HE2.out
      cases e6
      have k1 := cell_later HB.out k1'
      have m1 := cell_later HB.out m1'
      have HE1 := Lib.hid he1
      clear hcl he1 k1' m1'
      cases hc : e1.client == e2.client with
      | true =>
        have HC := Lib.hid (show e1.client = e2.client by simpa using hc)
        go_wp2
        go_quiet (fail)
        go_wp2
        go_ret
        exact ⟨_, rfl, .inr ⟨k, e1, rfl, by omega, HE1.out, HC.out, fun j e h1 h2 => HN.out j e (by omega) h2⟩, by omega, by omega, below_drewN HB.out _⟩
      | false =>
        have HC := Lib.hid (show e1.client ≠ e2.client by simpa using hc)
        go_wp2
        go_quiet (fail)
        go_wp2
        go_roundw
        case rel =>
          refine ⟨_, rfl, by omega, by omega, Lib.hid (fun j e h1 h2 h3 => ?_), below_drewN HB.out _⟩
          by_cases hjk : j = k
          · subst hjk
            rw [HE1.out] at h3
            cases h3
            exact HC.out
          · exact HN.out j e (by omega) h2 h3
        case measure => simp [intOf] <;> omega
    · obtain rfl : p = -1 := by omega
      go_wp2_with fail
      go_ret
      exact ⟨_, rfl, .inl ⟨rfl, fun j e h1 h2 => HN.out j e (by omega) h1 h2⟩, by omega, by omega, HB.out⟩
end Go.Proofs.YtnacoplokjdglaaGreat

namespace Go.Proofs.YtnacoplokjdglaaGreat
open Go.RowKit Go.Maps
/-- What crucibleref05.twice answers, exactly. -/
def TwiceQE (es : List GEvent) (l : List GOp) (at' : Nat) (w : World) (r : Ending) (w' : World) : Prop := ∃ b, r = .returned (.bool b) ∧ (b = false ↔ FreshN es l at' l.length) ∧ Below w.heap.size w w'
theorem TwiceQE.no {es : List GEvent} {l : List GOp} {at' : Nat} {w w' : World} {r : Ending} (h : r = .returned (.bool false)) (hg : FreshN es l at' l.length) (hb : Below w.heap.size w w') : TwiceQE es l at' w r w' := ⟨false, h, ⟨fun _ => hg, fun _ => rfl⟩, hb⟩
theorem TwiceQE.yes {es : List GEvent} {l : List GOp} {at' : Nat} {w w' : World} {r : Ending} (h : r = .returned (.bool true)) (hn : ¬ FreshN es l at' l.length) (hb : Below w.heap.size w w') : TwiceQE es l at' w r w' := ⟨true, h, ⟨(fun h => by cases h), fun h => absurd h hn⟩, hb⟩

set_option maxRecDepth 100000 in
set_option maxHeartbeats 8000000 in
theorem twice_callE (v : Value) (es : List GEvent) (at' : Nat) (e : GEvent) (w : World) (hv : RdEvents w v es) (he : es[at']? = some e) :
    Calls Tryz.prog 33 #[v, .int .i64 at'] w (TwiceQE es e.ops at' w) := by
  have HV := Lib.hid hv
  have hat := (List.getElem?_eq_some_iff.1 he).1
  have haI : (at' : Int) < (es.length : Int) := by omega
  obtain ⟨a, len, cap, rfl, rfl, hm, hcl⟩ := hv.at
  obtain ⟨b, off, oa, oc, rfl, hr, -, -, k2⟩ := hcl at' e he
  have HR := Lib.hid hr
  have HE := Lib.hid he
  have hmo : e.ops.length ≤ 9223372036854775807 := by obtain ⟨_, _, _, _, _, h, _⟩ := hr.at; exact h
  clear hv hcl hr he
  go_enter Tryz.func33, Tryz.ntmps33
  go_wp2_with fail
  clear k2
  go_loopw [5, 6, 7, 8, 9, 16] (fun _ _ _ _ _ n wr => ∃ i : Nat, i ≤ e.ops.length ∧ n = .int .i64 i ∧ FreshN es e.ops at' i ∧ Below w.heap.size w wr) (fun _ _ _ _ _ n _ => e.ops.length - (intOf n).toNat)
  case atStart => exact ⟨0, Nat.zero_le _, rfl, fun i o h => absurd h (Nat.not_lt_zero _), Below.refl _ _⟩
  case round =>
    obtain ⟨wi, rfl⟩ : ∃ wi : World, wi = wr := ⟨_, rfl⟩
    obtain ⟨i, hi, rfl, hf, hb⟩ := hrel
    have HF := Lib.hid hf
    have HB := Lib.hid hb
    have hwi := hb.size
    clear hf hb
    by_cases hlt : i < e.ops.length
    · obtain ⟨o, ho⟩ := some_at hlt
      obtain ⟨_, _, _, e5, -, -, hcl⟩ := HR.out.at
      cases e5
      obtain ⟨b2, off2, rfl, k0', k1', k2'⟩ := hcl i o ho
      have k0 := cell_later HB.out k0'
      have k1 := cell_later HB.out k1'
      have k2 := cell_later HB.out k2'
      have hiI : (i : Int) < (e.ops.length : Int) := by omega
      have HO := Lib.hid ho
      clear hcl ho k0' k1' k2'
      by_cases h2 : o.kind = 2
      · have c2 := bne_f h2
        have H2 := Lib.hid h2
        clear h2
        go_wp2_with fail
        have q2 : (wi.alloc (.cells #[vi o.kind, vi o.key, vi o.val] 51)).cell? ⟨wi.heap.size, 2, none⟩ = some (vi o.val) := by rw [cell_of (alloc_at _ _)]; rfl
        have hsz : (wi.alloc (.cells #[vi o.kind, vi o.key, vi o.val] 51)).heap.size = wi.heap.size + 1 := by simp
        have HB1 := Lib.hid (HB.out.alloc hwi (.cells #[vi o.kind, vi o.key, vi o.val] 51))
        have Q2 := Lib.hid q2
        clear q2 k0 k1 k2
        generalize wi.alloc (.cells #[vi o.kind, vi o.key, vi o.val] 51) = w1 at *
        go_loopw [7, 8, 9] (fun n _ _ wr => ∃ k : Nat, k ≤ at' + 1 ∧ n = .int .i64 k ∧ FreshK es at' i k o ∧ Below w1.heap.size w1 wr) (fun n _ _ _ => at' + 1 - (intOf n).toNat)
        case atStart => exact ⟨0, Nat.zero_le _, rfl, fun k e j p h => absurd h (Nat.not_lt_zero _), Below.refl _ _⟩
        case round =>
          obtain ⟨wk, rfl⟩ : ∃ wk : World, wk = wr := ⟨_, rfl⟩
          obtain ⟨k, hk, rfl, hfk, hbk⟩ := hrel
          have HFk := Lib.hid hfk
          have HBk := Lib.hid hbk
          have hwk := hbk.size
          have HBW := Lib.hid (HB1.out.trans (hbk.mono HB1.out.size))
          clear hfk hbk
          by_cases hlk : k ≤ at'
          · obtain ⟨ek, hek⟩ := some_at (l := es) (k := k) (by omega)
            obtain ⟨_, _, _, e5, -, -, hcl⟩ := HV.out.at
            simp only [Value.slice.injEq] at e5
            obtain ⟨rfl, -, rfl⟩ := e5
            obtain ⟨b3, off3, oa3, oc3, e6, hr3, m0', m1', m2'⟩ := hcl k ek hek
            simp only [Option.some.injEq, Addr.mk.injEq, and_true] at e6
            obtain ⟨rfl, rfl⟩ := e6
            have k0 := cell_later HBW.out m0'
            have k2 := cell_later HBW.out m2'
            have hkI : (k : Int) ≤ (at' : Int) := by omega
            have hkJ : (k : Int) < (es.length : Int) := by omega
            have HEk := Lib.hid hek
            have HR3 := Lib.hid hr3
            have hmo3 : ek.ops.length ≤ 9223372036854775807 := by obtain ⟨_, _, _, _, _, h, _⟩ := hr3.at; exact h
            clear hcl hek m0' m1' m2' hr3
            by_cases h1 : ek.kind = 1
            · have c1 := bne_f h1
              have H1 := Lib.hid h1
              clear h1
              go_wp2_with fail
              clear k0 k2
              go_loopw [8, 9, 41] (fun _ _ n wr => ∃ j : Nat, j ≤ ek.ops.length ∧ n = .int .i64 j ∧ FreshJ ek at' i k j o ∧ Below w1.heap.size w1 wr) (fun _ _ n _ => ek.ops.length - (intOf n).toNat)
              case atStart => exact ⟨0, Nat.zero_le _, rfl, fun j p h => absurd h (Nat.not_lt_zero _), HBk.out⟩
              case round =>
                obtain ⟨wj, rfl⟩ : ∃ wj : World, wj = wr := ⟨_, rfl⟩
                obtain ⟨j, hj, rfl, hfj, hbj⟩ := hrel
                have HFj := Lib.hid hfj
                have HBj := Lib.hid hbj
                have hwj := hbj.size
                have HBV := Lib.hid (HB1.out.trans (hbj.mono HB1.out.size))
                have q2 := cell_later hbj Q2.out
                have hwq : wi.heap.size < wj.heap.size := by omega
                clear hfj hbj
                by_cases hlj : j < ek.ops.length
                · obtain ⟨p, hp⟩ := some_at hlj
                  obtain ⟨_, _, _, e5, -, -, hcl⟩ := HR3.out.at
                  cases e5
                  obtain ⟨b4, off4, rfl, k0', k1', k2'⟩ := hcl j p hp
                  have k0 := cell_later HBV.out k0'
                  have k1 := cell_later HBV.out k1'
                  have k2 := cell_later HBV.out k2'
                  have hjI : (j : Int) < (ek.ops.length : Int) := by omega
                  have HP := Lib.hid hp
                  clear hcl hp k0' k1' k2'
                  by_cases hka : (k : Int) < (at' : Int)
                  · by_cases d1 : p.kind = 2
                    · have e1 := beq_t d1
                      have D1 := Lib.hid d1
                      clear d1
                      by_cases d2 : p.val = o.val
                      · have e2 := beq_t d2
                        have D2 := Lib.hid d2
                        clear d2
                        go_wp2_with fail
                        go_ret
                        exact .yes rfl (fun hf => hf i o hlt HO.out H2.out k ek j p (by omega) HEk.out H1.out HP.out (.inl (by omega)) D1.out D2.out) (HB1.out.trans ((HBj.out.alloc hwj _).mono HB1.out.size))
                      · have e2 := beq_f d2
                        have D2 := Lib.hid d2
                        clear d2
                        go_wp2_with fail
                        go_roundw
                        case rel => exact ⟨j + 1, by omega, by go_num, HFj.out.next HP.out (fun _ _ => D2.out), HBj.out.alloc hwj _⟩
                        case measure => simp [intOf]; omega
                    · have e1 := beq_f d1
                      have D1 := Lib.hid d1
                      clear d1
                      go_wp2_with fail
                      go_roundw
                      case rel => exact ⟨j + 1, by omega, by go_num, HFj.out.next HP.out (fun _ h => absurd h D1.out), HBj.out.alloc hwj _⟩
                      case measure => simp [intOf]; omega
                  · by_cases hji : (j : Int) < (i : Int)
                    · by_cases d1 : p.kind = 2
                      · have e1 := beq_t d1
                        have D1 := Lib.hid d1
                        clear d1
                        by_cases d2 : p.val = o.val
                        · have e2 := beq_t d2
                          have D2 := Lib.hid d2
                          clear d2
                          go_wp2_with fail
                          go_ret
                          exact .yes rfl (fun hf => hf i o hlt HO.out H2.out k ek j p (by omega) HEk.out H1.out HP.out (.inr (by omega)) D1.out D2.out) (HB1.out.trans ((HBj.out.alloc hwj _).mono HB1.out.size))
                        · have e2 := beq_f d2
                          have D2 := Lib.hid d2
                          clear d2
                          go_wp2_with fail
                          go_roundw
                          case rel => exact ⟨j + 1, by omega, by go_num, HFj.out.next HP.out (fun _ _ => D2.out), HBj.out.alloc hwj _⟩
                          case measure => simp [intOf]; omega
                      · have e1 := beq_f d1
                        have D1 := Lib.hid d1
                        clear d1
                        go_wp2_with fail
                        go_roundw
                        case rel => exact ⟨j + 1, by omega, by go_num, HFj.out.next HP.out (fun _ h => absurd h D1.out), HBj.out.alloc hwj _⟩
                        case measure => simp [intOf]; omega
                    · go_wp2_with fail
                      go_roundw
                      case rel => exact ⟨j + 1, by omega, by go_num, HFj.out.next HP.out (fun h => by omega), HBj.out.alloc hwj _⟩
                      case measure => simp [intOf]; omega
                · obtain rfl : j = ek.ops.length := by omega
                  go_wp2_with fail
                  go_roundw
                  case rel => exact ⟨k + 1, by omega, by go_num, HFk.out.next HEk.out (fun _ => HFj.out), HBj.out⟩
                  case measure => simp [intOf]; omega
            · have c1 := bne_t h1
              have H1 := Lib.hid h1
              clear h1
              go_wp2_with fail
              go_roundw
              case rel => exact ⟨k + 1, by omega, by go_num, HFk.out.next HEk.out (fun h => absurd h H1.out), HBk.out⟩
              case measure => simp [intOf]; omega
          · obtain rfl : k = at' + 1 := by omega
            go_wp2_with fail
            go_roundw
            case rel => exact ⟨i + 1, by omega, by go_num, HF.out.next HO.out (fun _ => HFk.out), HBW.out⟩
            case measure => simp [intOf]; omega
      · have c2 := bne_t h2
        have H2 := Lib.hid h2
        clear h2
        go_wp2_with fail
        go_roundw
        case rel => exact ⟨i + 1, by omega, by go_num, HF.out.next HO.out (fun h => absurd h H2.out), HB.out.alloc hwi _⟩
        case measure => simp [intOf]; omega
    · obtain rfl : i = e.ops.length := by omega
      go_wp2_with fail
      go_ret
      exact .no rfl HF.out HB.out
end Go.Proofs.YtnacoplokjdglaaGreat

namespace Go.Proofs.YtnacoplokjdglaaGreat
open Go.RowKit Go.Maps
/-- What crucibleref05.answer answers, exactly. -/
def AnswerQE (l m : List GOp) (w : World) (r : Ending) (w' : World) : Prop := ∃ n : Int, r = .returned (.int .i64 n) ∧ (n = 0 ↔ AnsOK l m) ∧ Below w.heap.size w w'
theorem AnswerQE.bad {l m : List GOp} {w w' : World} {r : Ending} {n : Int} (h : r = .returned (.int .i64 n)) (hn : n ≠ 0) (hno : ¬ AnsOK l m) (hb : Below w.heap.size w w') : AnswerQE l m w r w' := ⟨n, h, ⟨fun h => absurd h hn, fun h => absurd h hno⟩, hb⟩
theorem AnswerQE.good {l m : List GOp} {w w' : World} {r : Ending} (h : r = .returned (.int .i64 0)) (hl : l.length = m.length) (hs : ShapeN l m m.length) (ho : OwnN m m.length) (hb : Below w.heap.size w w') : AnswerQE l m w r w' := ⟨0, h, ⟨fun _ => ⟨hl, hs, ho⟩, fun _ => rfl⟩, hb⟩
/-- No write of this key behind place z and ahead of place i. -/
def NoWr (m : List GOp) (i : Nat) (key z : Int) : Prop := ∀ (j : Nat) (q : GOp), z < j → j < i → m[j]? = some q → q.kind = 2 → q.key ≠ key
theorem noWr_none {m : List GOp} {key : Int} : ∀ {i : Nat}, i ≤ m.length → NoWr m i key (-1) → lstW (m.take i) key = none := by
  intro i
  induction i with
  | zero => intro _ _; simp [lstW]
  | succ i ih =>
    intro hi h
    obtain ⟨q, hq⟩ := some_at (l := m) (k := i) (by omega)
    rw [take_at hq, lstW_snoc, if_neg (fun hc => h i q (by omega) (by omega) hq hc.1 hc.2)]
    exact ih (by omega) fun j q h1 h2 => h j q h1 (by omega)
theorem noWr_some {m : List GOp} {key : Int} {k : Nat} {q : GOp} (hq : m[k]? = some q) (h2 : q.kind = 2) (hk : q.key = key) : ∀ {i : Nat}, k < i → i ≤ m.length → NoWr m i key k → lstW (m.take i) key = some q.val := by
  intro i
  induction i with
  | zero => intro h; omega
  | succ i ih =>
    intro hki hi h
    obtain ⟨p, hp⟩ := some_at (l := m) (k := i) (by omega)
    rw [take_at hp, lstW_snoc]
    by_cases hik : i = k
    · subst hik
      rw [hq] at hp; cases hp
      rw [if_pos ⟨h2, hk⟩]
    · rw [if_neg (fun hc => h i p (by omega) (by omega) hp hc.1 hc.2)]
      exact ih (by omega) (by omega) fun j q h1 h2 => h j q h1 (by omega)

set_option maxRecDepth 100000 in
set_option maxHeartbeats 8000000 in
theorem answer_callE (v u : Value) (l m : List GOp) (w : World) (hv : RdOps w v l) (hu : RdOps w u m) :
    Calls Tryz.prog 34 #[v, u] w (AnswerQE l m w) := by
  have HV := Lib.hid hv
  have HU := Lib.hid hu
  obtain ⟨a, len, cap, rfl, rfl, hm1, -⟩ := hv.at
  obtain ⟨a2, len2, cap2, rfl, rfl, hm2, -⟩ := hu.at
  clear hv hu
  go_enter Tryz.func34, Tryz.ntmps34
  by_cases hl : (l.length : Int) = (m.length : Int)
  · have HL := Lib.hid (show l.length = m.length by omega)
    have hlb : ((l.length : Int) != (m.length : Int)) = false := bne_f hl
    clear hl
    go_wp2_with fail
    go_loopw [5, 6, 14] (fun _ _ n wr => ∃ i : Nat, i ≤ m.length ∧ n = .int .i64 i ∧ Hid (ShapeN l m i ∧ OwnN m i) ∧ Below w.heap.size w wr) (fun _ _ n _ => m.length - (intOf n).toNat)
    case atStart => exact ⟨0, Nat.zero_le _, rfl, Lib.hid ⟨fun i o p h => absurd h (Nat.not_lt_zero _), fun i o v h => absurd h (Nat.not_lt_zero _)⟩, Below.refl _ _⟩
    case round =>
      obtain ⟨wi, rfl⟩ : ∃ wi : World, wi = wr := ⟨_, rfl⟩
      obtain ⟨i, hi, rfl, HF, hb⟩ := hrel
      have HB := Lib.hid hb
      have hwi := hb.size
      clear hb
      by_cases hlt : i < m.length
      · have hiM : (i : Int) < (m.length : Int) := by omega
        have hiL : (i : Int) < (l.length : Int) := by have := HL.out; omega
        obtain ⟨o, ho⟩ := some_at hlt
        obtain ⟨p, hp⟩ := some_at (l := l) (k := i) (by omega)
        obtain ⟨_, _, _, e5, -, -, hcl⟩ := HU.out.at
        cases e5
        obtain ⟨b, off, rfl, k0', k1', k2'⟩ := hcl i o ho
        have k0 := cell_later HB.out k0'
        have k1 := cell_later HB.out k1'
        have k2 := cell_later HB.out k2'
        obtain ⟨_, _, _, e5, -, -, hcl2⟩ := HV.out.at
        cases e5
        obtain ⟨b2, off2, rfl, m0', m1', m2'⟩ := hcl2 i p hp
        have m0 := cell_later HB.out m0'
        have m1 := cell_later HB.out m1'
        have m2 := cell_later HB.out m2'
        have HO := Lib.hid ho
        have HP := Lib.hid hp
        have HC := Lib.hid hcl
        have hi0 : (0 : Int) ≤ (i : Int) := by omega
        have HK1 := Lib.hid k1'
        have HK2 := Lib.hid k2'
        clear hcl hcl2 ho hp k0' k1' k2' m0' m1' m2'
        by_cases d1 : o.kind = p.kind
        · have e1 := bne_f d1
          have D1 := Lib.hid d1
          clear d1
          by_cases d2 : o.key = p.key
          · have e2 := bne_f d2
            have D2 := Lib.hid d2
            clear d2
            by_cases d3 : o.kind = 2
            · have e3 := beq_t d3
              have D3 := Lib.hid d3
              clear d3
              by_cases d4 : o.val = p.val
              · have e4 := bne_f d4
                have D4 := Lib.hid d4
                clear d4
                go_wp2
                go_quiet (fail)
                go_wp2
                go_roundw
                case rel => exact ⟨i + 1, by omega, by go_num, Lib.hid ⟨HF.out.1.next HO.out HP.out ⟨D1.out, D2.out, fun _ => D4.out⟩, HF.out.2.next HO.out (fun v h => absurd D3.out h)⟩, below_drewN HB.out _⟩
                case measure => simp [intOf]; omega
              · have e4 := bne_t d4
                have D4 := Lib.hid d4
                clear d4
                go_wp2
                go_quiet (fail)
                go_wp2
                go_ret
                exact .bad rfl (by omega) (fun h => D4.out ((h.2.1 i o p hlt HO.out HP.out).2.2 D3.out)) (below_drewN HB.out _)
            · have e3 := beq_f d3
              have D3 := Lib.hid d3
              clear d3
              go_wp2
              go_quiet (fail)
              go_wp2
              have HBq := Lib.hid (below_drewN HB.out nq)
              clear k0 k1 k2 m0 m1 m2
              generalize wi.drewN nq = wq at *
              go_loopw [6] (fun n wr => ∃ z : Int, n = .int .i64 z ∧ -1 ≤ z ∧ z < i ∧ Hid (NoWr m i o.key z) ∧ Below w.heap.size w wr) (fun n _ => (intOf n + 1).toNat)
              case atStart => exact ⟨_, rfl, by omega, by omega, Lib.hid (fun j q h1 h2 => by omega), HBq.out⟩
              case round =>
                obtain ⟨wk, rfl⟩ : ∃ wk : World, wk = wr := ⟨_, rfl⟩
                obtain ⟨z, rfl, hz1, hz2, HNW, hbk⟩ := hrel
                have HBk := Lib.hid hbk
                clear hbk
                by_cases hlz : 0 ≤ z
                · obtain ⟨k, rfl⟩ := Int.eq_ofNat_of_zero_le hlz
                  have hkM : (k : Int) < (m.length : Int) := by omega
                  obtain ⟨q, hq⟩ := some_at (l := m) (k := k) (by omega)
                  obtain ⟨_, _, e6, x0', x1', x2'⟩ := HC.out k q hq
                  simp only [Option.some.injEq, Addr.mk.injEq, and_true] at e6
                  obtain ⟨rfl, rfl⟩ := e6
                  have x0 := cell_later HBk.out x0'
                  have x1 := cell_later HBk.out x1'
                  have x2 := cell_later HBk.out x2'
                  have y1 := cell_later HBk.out HK1.out
                  have y2 := cell_later HBk.out HK2.out
                  have HQ := Lib.hid hq
                  clear hq x0' x1' x2'
                  by_cases g1 : q.kind = 2
                  · have f1 := beq_t g1
                    have G1 := Lib.hid g1
                    clear g1
                    by_cases g2 : q.key = o.key
                    · have f2 := beq_t g2
                      have HLW := Lib.hid (noWr_some HQ.out G1.out g2 (by omega) (by omega) HNW.out)
                      clear g2
                      by_cases g3 : q.val = o.val
                      · have f3 := bne_f g3
                        have G3 := Lib.hid g3
                        clear g3
                        go_wp2
                        go_quiet (fail)
                        go_wp2
                        go_quiet (fail)
                        go_wp2
                        go_roundw
                        case rel => exact ⟨i + 1, by omega, by go_num, Lib.hid ⟨HF.out.1.next HO.out HP.out ⟨D1.out, D2.out, fun h => absurd h D3.out⟩, HF.out.2.next HO.out (fun v _ hv => by rw [HLW.out] at hv; cases hv; exact G3.out)⟩, below_drewN HBk.out _⟩
                        case measure => simp [intOf]; omega
                      · have f3 := bne_t g3
                        have G3 := Lib.hid g3
                        clear g3
                        go_wp2
                        go_quiet (fail)
                        go_wp2
                        go_quiet (fail)
                        go_wp2
                        go_ret
                        exact .bad rfl (by omega) (fun h => G3.out (h.2.2 i o q.val hlt HO.out D3.out HLW.out)) (below_drewN (below_drewN HBk.out _) _)
                    · have f2 := beq_f g2
                      have HN2 := Lib.hid (show NoWr m i o.key (k - 1) from fun j q' h1 h2 h3 h4 => by
                        by_cases hjk : j = k
                        · subst hjk; rw [HQ.out] at h3; cases h3; exact g2
                        · exact HNW.out j q' (by omega) h2 h3 h4)
                      clear g2
                      go_wp2
                      go_quiet (fail)
                      go_wp2
                      go_roundw
                      case rel => exact ⟨_, rfl, by omega, by omega, HN2, below_drewN HBk.out _⟩
                      case measure => simp [intOf] <;> omega
                  · have f1 := beq_f g1
                    have HN2 := Lib.hid (show NoWr m i o.key (k - 1) from fun j q' h1 h2 h3 h4 => by
                      by_cases hjk : j = k
                      · subst hjk; rw [HQ.out] at h3; cases h3; exact absurd h4 g1
                      · exact HNW.out j q' (by omega) h2 h3 h4)
                    clear g1
                    go_wp2
                    go_quiet (fail)
                    go_wp2
                    go_roundw
                    case rel => exact ⟨_, rfl, by omega, by omega, HN2, below_drewN HBk.out _⟩
                    case measure => simp [intOf] <;> omega
                · obtain rfl : z = -1 := by omega
                  go_wp2_with fail
                  go_roundw
                  case rel => exact ⟨i + 1, by omega, by go_num, Lib.hid ⟨HF.out.1.next HO.out HP.out ⟨D1.out, D2.out, fun h => absurd h D3.out⟩, HF.out.2.next HO.out (fun v _ hv => by rw [noWr_none (by omega) HNW.out] at hv; cases hv)⟩, HBk.out⟩
                  case measure => simp [intOf]; omega
          · have e2 := bne_t d2
            have D2 := Lib.hid d2
            clear d2
            go_wp2
            go_quiet (fail)
            go_wp2
            go_ret
            exact .bad rfl (by omega) (fun h => D2.out (h.2.1 i o p hlt HO.out HP.out).2.1) (below_drewN HB.out _)
        · have e1 := bne_t d1
          have D1 := Lib.hid d1
          clear d1
          go_wp2
          go_quiet (fail)
          go_wp2
          go_ret
          exact .bad rfl (by omega) (fun h => D1.out (h.2.1 i o p hlt HO.out HP.out).1) (below_drewN HB.out _)
      · obtain rfl : i = m.length := by omega
        go_wp2_with fail
        go_ret
        exact .good rfl HL.out HF.out.1 HF.out.2 HB.out
  · have hlb : ((l.length : Int) != (m.length : Int)) = true := bne_t hl
    have HL := Lib.hid (show l.length ≠ m.length by omega)
    clear hl
    go_wp2_with fail
    go_ret
    exact .bad rfl (by omega) (fun h => HL.out h.1) (Below.refl _ _)
end Go.Proofs.YtnacoplokjdglaaGreat
