/- Texts of one proof, one behind the other: Last, Twice, Answer, OfMem, OfSet. -/
import Derived.Test.YtjpmimanigjjoaaJo3
set_option linter.all false
/- crucibleref05.last: a place ahead, or -1. -/
namespace Go.Proofs.Ytjpmimanigjjoaa
open Go.RowKit Go.Maps

/-- What a walk wants of an event in a readable slice. -/
theorem RdEvents.at {w : World} {v : Value} {l : List GEvent} (h : RdEvents w v l) : ∃ a len cap, v = .slice a len cap ∧ len = l.length ∧ l.length ≤ 9223372036854775807 ∧
    ∀ j x, l[j]? = some x → ∃ b off oa oc, a = some ⟨b, off, none⟩ ∧ RdOps w (.slice oa x.ops.length oc) x.ops ∧ w.cell? ⟨b, off + j * 3, none⟩ = some (vi x.kind) ∧ w.cell? ⟨b, off + j * 3 + 1, none⟩ = some (vi x.client) ∧ w.cell? ⟨b, off + j * 3 + 2, none⟩ = some (.slice oa x.ops.length oc) := by
  obtain ⟨a, len, cap, h1, h2, h3, h6⟩ := RdS.at3 h
  refine ⟨a, len, cap, h1, h2, h3, fun j x hj => ?_⟩
  obtain ⟨b, off, c0, c1, c2, ha, ⟨ov, he, hr⟩, k0, k1, k2⟩ := h6 j x hj
  obtain ⟨oa, ol, oc, rfl, rfl, _⟩ := hr.at
  simp only [List.cons.injEq, and_true] at he
  obtain ⟨rfl, rfl, rfl⟩ := he
  exact ⟨b, off, oa, oc, ha, hr, k0, k1, k2⟩

set_option maxRecDepth 100000 in
set_option maxHeartbeats 4000000 in
theorem last_call (v : Value) (es : List GEvent) (at' : Nat) (w : World) (hv : RdEvents w v es) (hat : at' < es.length) :
    Calls Try.prog 45 #[v, .int .i64 at'] w fun r w' => ∃ p : Int, r = .returned (.int .i64 p) ∧ -1 ≤ p ∧ p < at' ∧ Below w.heap.size w w' := by
  have HV := Lib.hid hv
  obtain ⟨a, len, cap, rfl, rfl, hm, -⟩ := hv.at
  clear hv
  go_enter Try.func45, Try.ntmps45
  go_wp2_with fail
  go_loopw [5] (fun i wr => ∃ p : Int, i = .int .i64 p ∧ -1 ≤ p ∧ p < at' ∧ Below w.heap.size w wr) (fun i _ => (intOf i + 1).toNat)
  case atStart => exact ⟨_, rfl, by omega, by omega, Below.refl _ _⟩
  case round =>
    obtain ⟨wk, rfl⟩ : ∃ wk : World, wk = wr := ⟨_, rfl⟩
    obtain ⟨p, rfl, hp1, hp2, hb⟩ := hrel
    have HB := Lib.hid hb
    clear hb
    by_cases hlt : 0 ≤ p
    · obtain ⟨k, rfl⟩ := Int.eq_ofNat_of_zero_le hlt
      have hk1 : k < es.length := by omega
      have hkI : (k : Int) < (es.length : Int) := by omega
      have haI : (at' : Int) < (es.length : Int) := by omega
      obtain ⟨e1, he1⟩ := some_at hk1
      obtain ⟨e2, he2⟩ := some_at hat
      obtain ⟨_, _, _, e5, -, -, hcl⟩ := HV.out.at
      cases e5
      obtain ⟨b, off, oa, oc, rfl, -, -, k1', -⟩ := hcl k e1 he1
      obtain ⟨_, _, ob, oc2, e6, -, -, m1', -⟩ := hcl at' e2 he2
      cases e6
      have k1 := cell_later HB.out k1'
      have m1 := cell_later HB.out m1'
      clear hcl he1 he2 k1' m1'
      cases hc : e1.client == e2.client with
      | true =>
        go_wp2
        go_quiet (fail)
        go_wp2
        go_ret
        exact ⟨_, rfl, by omega, by omega, below_drewN HB.out _⟩
      | false =>
        go_wp2
        go_quiet (fail)
        go_wp2
        go_roundw
        case rel => exact ⟨_, rfl, by omega, by omega, below_drewN HB.out _⟩
        case measure => simp [intOf] <;> omega
    · obtain rfl : p = -1 := by omega
      go_wp2_with fail
      go_ret
      exact ⟨_, rfl, by omega, by omega, HB.out⟩
end Go.Proofs.Ytjpmimanigjjoaa

/- crucibleref05.twice: when it says no, what the event writes was not written ahead. -/
namespace Go.Proofs.Ytjpmimanigjjoaa
open Go.RowKit Go.Maps

/-- Of the first k events none has written what the i-th operation at a place writes. -/
def FreshK (es : List GEvent) (at' i k : Nat) (o : GOp) : Prop := ∀ (k' : Nat) (e : GEvent) (j : Nat) (p : GOp), k' < k → es[k']? = some e → e.kind = 1 → e.ops[j]? = some p → (k' < at' ∨ j < i) → p.kind = 2 → p.val ≠ o.val
def FreshJ (e : GEvent) (at' i k j : Nat) (o : GOp) : Prop := ∀ (j' : Nat) (p : GOp), j' < j → e.ops[j']? = some p → (k < at' ∨ j' < i) → p.kind = 2 → p.val ≠ o.val
/-- What the first n operations at a place write was not written ahead. -/
def FreshN (es : List GEvent) (l : List GOp) (at' n : Nat) : Prop := ∀ (i : Nat) (o : GOp), i < n → l[i]? = some o → o.kind = 2 → FreshK es at' i (at' + 1) o

theorem FreshK.next {es : List GEvent} {at' i k : Nat} {o : GOp} {e : GEvent} (h : FreshK es at' i k o) (he : es[k]? = some e) (hk : e.kind = 1 → FreshJ e at' i k e.ops.length o) : FreshK es at' i (k + 1) o := by
  intro k' e' j p hlt he' h1 hp hc h2
  rcases Nat.lt_or_ge k' k with h' | h'
  · exact h k' e' j p h' he' h1 hp hc h2
  · obtain rfl : k' = k := by omega
    rw [he] at he'; cases he'
    exact hk h1 j p (List.getElem?_eq_some_iff.1 hp).1 hp hc h2
theorem FreshJ.next {e : GEvent} {at' i k j : Nat} {o p : GOp} (h : FreshJ e at' i k j o) (hp : e.ops[j]? = some p) (hk : (k < at' ∨ j < i) → p.kind = 2 → p.val ≠ o.val) : FreshJ e at' i k (j + 1) o := by
  intro j' p' hlt hp' hc h2
  rcases Nat.lt_or_ge j' j with h' | h'
  · exact h j' p' h' hp' hc h2
  · obtain rfl : j' = j := by omega
    rw [hp] at hp'; cases hp'
    exact hk hc h2
theorem FreshN.next {es : List GEvent} {l : List GOp} {at' n : Nat} {o : GOp} (h : FreshN es l at' n) (ho : l[n]? = some o) (hk : o.kind = 2 → FreshK es at' n (at' + 1) o) : FreshN es l at' (n + 1) := by
  intro i o' hlt ho' h2
  rcases Nat.lt_or_ge i n with h' | h'
  · exact h i o' h' ho' h2
  · obtain rfl : i = n := by omega
    rw [ho] at ho'; cases ho'
    exact hk h2

/-- What crucibleref05.twice answers. -/
def TwiceQ (es : List GEvent) (l : List GOp) (at' : Nat) (w : World) (r : Ending) (w' : World) : Prop := ∃ b, r = .returned (.bool b) ∧ (b = false → FreshN es l at' l.length) ∧ Below w.heap.size w w'
theorem TwiceQ.no {es : List GEvent} {l : List GOp} {at' : Nat} {w w' : World} {r : Ending} (h : r = .returned (.bool false)) (hg : FreshN es l at' l.length) (hb : Below w.heap.size w w') : TwiceQ es l at' w r w' := ⟨false, h, fun _ => hg, hb⟩
theorem TwiceQ.yes {es : List GEvent} {l : List GOp} {at' : Nat} {w w' : World} {r : Ending} (h : r = .returned (.bool true)) (hb : Below w.heap.size w w') : TwiceQ es l at' w r w' := ⟨true, h, (fun h => by cases h), hb⟩

set_option maxRecDepth 100000 in
set_option maxHeartbeats 8000000 in
theorem twice_call (v : Value) (es : List GEvent) (at' : Nat) (e : GEvent) (w : World) (hv : RdEvents w v es) (he : es[at']? = some e) :
    Calls Try.prog 46 #[v, .int .i64 at'] w (TwiceQ es e.ops at' w) := by
  have HV := Lib.hid hv
  have hat := (List.getElem?_eq_some_iff.1 he).1
  have haI : (at' : Int) < (es.length : Int) := by omega
  obtain ⟨a, len, cap, rfl, rfl, hm, hcl⟩ := hv.at
  obtain ⟨b, off, oa, oc, rfl, hr, -, -, k2⟩ := hcl at' e he
  have HR := Lib.hid hr
  have HE := Lib.hid he
  have hmo : e.ops.length ≤ 9223372036854775807 := by obtain ⟨_, _, _, _, _, h, _⟩ := hr.at; exact h
  clear hv hcl hr he
  go_enter Try.func46, Try.ntmps46
  go_wp2_with fail
  clear k2
  go_loopw [5, 6, 7, 8, 9, 16] (fun _ _ _ _ _ n wr => ∃ i : Nat, i ≤ e.ops.length ∧ n = .int .i64 i ∧ FreshN es e.ops at' i ∧ Below w.heap.size w wr) (fun _ _ _ _ _ n _ => e.ops.length - (intOf n).toNat)
  case atStart => exact ⟨0, Nat.zero_le _, rfl, fun i o h => absurd h (Nat.not_lt_zero _), Below.refl _ _⟩
  case round =>
    obtain ⟨wi, rfl⟩ : ∃ wi : World, wi = wr := ⟨_, rfl⟩
    obtain ⟨i, hi, rfl, hf, hb⟩ := hrel
    have HF := Lib.hid hf
    have HB := Lib.hid hb
    have hwi := hb.size
    clear hf hb
    by_cases hlt : i < e.ops.length
    · obtain ⟨o, ho⟩ := some_at hlt
      obtain ⟨_, _, _, e5, -, -, hcl⟩ := HR.out.at
      cases e5
      obtain ⟨b2, off2, rfl, k0', k1', k2'⟩ := hcl i o ho
      have k0 := cell_later HB.out k0'
      have k1 := cell_later HB.out k1'
      have k2 := cell_later HB.out k2'
      have hiI : (i : Int) < (e.ops.length : Int) := by omega
      have HO := Lib.hid ho
      clear hcl ho k0' k1' k2'
      by_cases h2 : o.kind = 2
      · have c2 := bne_f h2
        have H2 := Lib.hid h2
        clear h2
        go_wp2_with fail
        have q2 : (wi.alloc (.cells #[vi o.kind, vi o.key, vi o.val] 56)).cell? ⟨wi.heap.size, 2, none⟩ = some (vi o.val) := by rw [cell_of (alloc_at _ _)]; rfl
        have hsz : (wi.alloc (.cells #[vi o.kind, vi o.key, vi o.val] 56)).heap.size = wi.heap.size + 1 := by simp
        have HB1 := Lib.hid (HB.out.alloc hwi (.cells #[vi o.kind, vi o.key, vi o.val] 56))
        have Q2 := Lib.hid q2
        clear q2 k0 k1 k2
        generalize wi.alloc (.cells #[vi o.kind, vi o.key, vi o.val] 56) = w1 at *
        go_loopw [7, 8, 9] (fun n _ _ wr => ∃ k : Nat, k ≤ at' + 1 ∧ n = .int .i64 k ∧ FreshK es at' i k o ∧ Below w1.heap.size w1 wr) (fun n _ _ _ => at' + 1 - (intOf n).toNat)
        case atStart => exact ⟨0, Nat.zero_le _, rfl, fun k e j p h => absurd h (Nat.not_lt_zero _), Below.refl _ _⟩
        case round =>
          obtain ⟨wk, rfl⟩ : ∃ wk : World, wk = wr := ⟨_, rfl⟩
          obtain ⟨k, hk, rfl, hfk, hbk⟩ := hrel
          have HFk := Lib.hid hfk
          have HBk := Lib.hid hbk
          have hwk := hbk.size
          have HBW := Lib.hid (HB1.out.trans (hbk.mono HB1.out.size))
          clear hfk hbk
          by_cases hlk : k ≤ at'
          · obtain ⟨ek, hek⟩ := some_at (l := es) (k := k) (by omega)
            obtain ⟨_, _, _, e5, -, -, hcl⟩ := HV.out.at
            simp only [Value.slice.injEq] at e5
            obtain ⟨rfl, -, rfl⟩ := e5
            obtain ⟨b3, off3, oa3, oc3, e6, hr3, m0', m1', m2'⟩ := hcl k ek hek
            simp only [Option.some.injEq, Addr.mk.injEq, and_true] at e6
            obtain ⟨rfl, rfl⟩ := e6
            have k0 := cell_later HBW.out m0'
            have k2 := cell_later HBW.out m2'
            have hkI : (k : Int) ≤ (at' : Int) := by omega
            have hkJ : (k : Int) < (es.length : Int) := by omega
            have HEk := Lib.hid hek
            have HR3 := Lib.hid hr3
            have hmo3 : ek.ops.length ≤ 9223372036854775807 := by obtain ⟨_, _, _, _, _, h, _⟩ := hr3.at; exact h
            clear hcl hek m0' m1' m2' hr3
            by_cases h1 : ek.kind = 1
            · have c1 := bne_f h1
              have H1 := Lib.hid h1
              clear h1
              go_wp2_with fail
              clear k0 k2
              go_loopw [8, 9, 41] (fun _ _ n wr => ∃ j : Nat, j ≤ ek.ops.length ∧ n = .int .i64 j ∧ FreshJ ek at' i k j o ∧ Below w1.heap.size w1 wr) (fun _ _ n _ => ek.ops.length - (intOf n).toNat)
              case atStart => exact ⟨0, Nat.zero_le _, rfl, fun j p h => absurd h (Nat.not_lt_zero _), HBk.out⟩
              case round =>
                obtain ⟨wj, rfl⟩ : ∃ wj : World, wj = wr := ⟨_, rfl⟩
                obtain ⟨j, hj, rfl, hfj, hbj⟩ := hrel
                have HFj := Lib.hid hfj
                have HBj := Lib.hid hbj
                have hwj := hbj.size
                have HBV := Lib.hid (HB1.out.trans (hbj.mono HB1.out.size))
                have q2 := cell_later hbj Q2.out
                have hwq : wi.heap.size < wj.heap.size := by omega
                clear hfj hbj
                by_cases hlj : j < ek.ops.length
                · obtain ⟨p, hp⟩ := some_at hlj
                  obtain ⟨_, _, _, e5, -, -, hcl⟩ := HR3.out.at
                  cases e5
                  obtain ⟨b4, off4, rfl, k0', k1', k2'⟩ := hcl j p hp
                  have k0 := cell_later HBV.out k0'
                  have k1 := cell_later HBV.out k1'
                  have k2 := cell_later HBV.out k2'
                  have hjI : (j : Int) < (ek.ops.length : Int) := by omega
                  have HP := Lib.hid hp
                  clear hcl hp k0' k1' k2'
                  by_cases hka : (k : Int) < (at' : Int)
                  · by_cases d1 : p.kind = 2
                    · have e1 := beq_t d1
                      have D1 := Lib.hid d1
                      clear d1
                      by_cases d2 : p.val = o.val
                      · have e2 := beq_t d2
                        clear d2
                        go_wp2_with fail
                        go_ret
                        exact .yes rfl (HB1.out.trans ((HBj.out.alloc hwj _).mono HB1.out.size))
                      · have e2 := beq_f d2
                        have D2 := Lib.hid d2
                        clear d2
                        go_wp2_with fail
                        go_roundw
                        case rel => exact ⟨j + 1, by omega, by go_num, HFj.out.next HP.out (fun _ _ => D2.out), HBj.out.alloc hwj _⟩
                        case measure => simp [intOf]; omega
                    · have e1 := beq_f d1
                      have D1 := Lib.hid d1
                      clear d1
                      go_wp2_with fail
                      go_roundw
                      case rel => exact ⟨j + 1, by omega, by go_num, HFj.out.next HP.out (fun _ h => absurd h D1.out), HBj.out.alloc hwj _⟩
                      case measure => simp [intOf]; omega
                  · by_cases hji : (j : Int) < (i : Int)
                    · by_cases d1 : p.kind = 2
                      · have e1 := beq_t d1
                        have D1 := Lib.hid d1
                        clear d1
                        by_cases d2 : p.val = o.val
                        · have e2 := beq_t d2
                          clear d2
                          go_wp2_with fail
                          go_ret
                          exact .yes rfl (HB1.out.trans ((HBj.out.alloc hwj _).mono HB1.out.size))
                        · have e2 := beq_f d2
                          have D2 := Lib.hid d2
                          clear d2
                          go_wp2_with fail
                          go_roundw
                          case rel => exact ⟨j + 1, by omega, by go_num, HFj.out.next HP.out (fun _ _ => D2.out), HBj.out.alloc hwj _⟩
                          case measure => simp [intOf]; omega
                      · have e1 := beq_f d1
                        have D1 := Lib.hid d1
                        clear d1
                        go_wp2_with fail
                        go_roundw
                        case rel => exact ⟨j + 1, by omega, by go_num, HFj.out.next HP.out (fun _ h => absurd h D1.out), HBj.out.alloc hwj _⟩
                        case measure => simp [intOf]; omega
                    · go_wp2_with fail
                      go_roundw
                      case rel => exact ⟨j + 1, by omega, by go_num, HFj.out.next HP.out (fun h => by omega), HBj.out.alloc hwj _⟩
                      case measure => simp [intOf]; omega
                · obtain rfl : j = ek.ops.length := by omega
                  go_wp2_with fail
                  go_roundw
                  case rel => exact ⟨k + 1, by omega, by go_num, HFk.out.next HEk.out (fun _ => HFj.out), HBj.out⟩
                  case measure => simp [intOf]; omega
            · have c1 := bne_t h1
              have H1 := Lib.hid h1
              clear h1
              go_wp2_with fail
              go_roundw
              case rel => exact ⟨k + 1, by omega, by go_num, HFk.out.next HEk.out (fun h => absurd h H1.out), HBk.out⟩
              case measure => simp [intOf]; omega
          · obtain rfl : k = at' + 1 := by omega
            go_wp2_with fail
            go_roundw
            case rel => exact ⟨i + 1, by omega, by go_num, HF.out.next HO.out (fun _ => HFk.out), HBW.out⟩
            case measure => simp [intOf]; omega
      · have c2 := bne_t h2
        have H2 := Lib.hid h2
        clear h2
        go_wp2_with fail
        go_roundw
        case rel => exact ⟨i + 1, by omega, by go_num, HF.out.next HO.out (fun h => absurd h H2.out), HB.out.alloc hwi _⟩
        case measure => simp [intOf]; omega
    · obtain rfl : i = e.ops.length := by omega
      go_wp2_with fail
      go_ret
      exact .no rfl HF.out HB.out
end Go.Proofs.Ytjpmimanigjjoaa

/- crucibleref05.answer: when it says 0, what was told has the shape of what was asked. -/
namespace Go.Proofs.Ytjpmimanigjjoaa
open Go.RowKit Go.Maps

/-- An operation told is of the same kind and key as the one asked, and a write writes the same. -/
def SameShape (o p : GOp) : Prop := o.kind = p.kind ∧ o.key = p.key ∧ (o.kind = 2 → o.val = p.val)
def ShapeN (l m : List GOp) (n : Nat) : Prop := ∀ (i : Nat) (o p : GOp), i < n → m[i]? = some o → l[i]? = some p → SameShape o p
theorem ShapeN.next {l m : List GOp} {n : Nat} {o p : GOp} (h : ShapeN l m n) (ho : m[n]? = some o) (hp : l[n]? = some p) (hs : SameShape o p) : ShapeN l m (n + 1) := by
  intro i o' p' hlt ho' hp'
  rcases Nat.lt_or_ge i n with h' | h'
  · exact h i o' p' h' ho' hp'
  · obtain rfl : i = n := by omega
    rw [ho] at ho'; cases ho'
    rw [hp] at hp'; cases hp'
    exact hs

/-- What crucibleref05.answer answers. -/
def AnswerQ (l m : List GOp) (w : World) (r : Ending) (w' : World) : Prop := ∃ n : Int, r = .returned (.int .i64 n) ∧ (n = 0 → l.length = m.length ∧ ShapeN l m m.length) ∧ Below w.heap.size w w'
theorem AnswerQ.bad {l m : List GOp} {w w' : World} {r : Ending} {n : Int} (h : r = .returned (.int .i64 n)) (hn : n ≠ 0) (hb : Below w.heap.size w w') : AnswerQ l m w r w' := ⟨n, h, fun h => absurd h hn, hb⟩
theorem AnswerQ.good {l m : List GOp} {w w' : World} {r : Ending} (h : r = .returned (.int .i64 0)) (hl : l.length = m.length) (hs : ShapeN l m m.length) (hb : Below w.heap.size w w') : AnswerQ l m w r w' := ⟨0, h, fun _ => ⟨hl, hs⟩, hb⟩

set_option maxRecDepth 100000 in
set_option maxHeartbeats 8000000 in
theorem answer_call (v u : Value) (l m : List GOp) (w : World) (hv : RdOps w v l) (hu : RdOps w u m) :
    Calls Try.prog 47 #[v, u] w (AnswerQ l m w) := by
  have HV := Lib.hid hv
  have HU := Lib.hid hu
  obtain ⟨a, len, cap, rfl, rfl, hm1, -⟩ := hv.at
  obtain ⟨a2, len2, cap2, rfl, rfl, hm2, -⟩ := hu.at
  clear hv hu
  go_enter Try.func47, Try.ntmps47
  by_cases hl : (l.length : Int) = (m.length : Int)
  · have HL := Lib.hid (show l.length = m.length by omega)
    have hlb : ((l.length : Int) != (m.length : Int)) = false := bne_f hl
    clear hl
    go_wp2_with fail
    go_loopw [5, 6, 14] (fun _ _ n wr => ∃ i : Nat, i ≤ m.length ∧ n = .int .i64 i ∧ ShapeN l m i ∧ Below w.heap.size w wr) (fun _ _ n _ => m.length - (intOf n).toNat)
    case atStart => exact ⟨0, Nat.zero_le _, rfl, fun i o p h => absurd h (Nat.not_lt_zero _), Below.refl _ _⟩
    case round =>
      obtain ⟨wi, rfl⟩ : ∃ wi : World, wi = wr := ⟨_, rfl⟩
      obtain ⟨i, hi, rfl, hf, hb⟩ := hrel
      have HF := Lib.hid hf
      have HB := Lib.hid hb
      have hwi := hb.size
      clear hf hb
      by_cases hlt : i < m.length
      · have hiM : (i : Int) < (m.length : Int) := by omega
        have hiL : (i : Int) < (l.length : Int) := by have := HL.out; omega
        obtain ⟨o, ho⟩ := some_at hlt
        obtain ⟨p, hp⟩ := some_at (l := l) (k := i) (by omega)
        obtain ⟨_, _, _, e5, -, -, hcl⟩ := HU.out.at
        cases e5
        obtain ⟨b, off, rfl, k0', k1', k2'⟩ := hcl i o ho
        have k0 := cell_later HB.out k0'
        have k1 := cell_later HB.out k1'
        have k2 := cell_later HB.out k2'
        obtain ⟨_, _, _, e5, -, -, hcl2⟩ := HV.out.at
        cases e5
        obtain ⟨b2, off2, rfl, m0', m1', m2'⟩ := hcl2 i p hp
        have m0 := cell_later HB.out m0'
        have m1 := cell_later HB.out m1'
        have m2 := cell_later HB.out m2'
        have HO := Lib.hid ho
        have HP := Lib.hid hp
        have HC := Lib.hid hcl
        have hi0 : (0 : Int) ≤ (i : Int) := by omega
        have HK1 := Lib.hid k1'
        have HK2 := Lib.hid k2'
        clear hcl hcl2 ho hp k0' k1' k2' m0' m1' m2'
        by_cases d1 : o.kind = p.kind
        · have e1 := bne_f d1
          have D1 := Lib.hid d1
          clear d1
          by_cases d2 : o.key = p.key
          · have e2 := bne_f d2
            have D2 := Lib.hid d2
            clear d2
            by_cases d3 : o.kind = 2
            · have e3 := beq_t d3
              clear d3
              by_cases d4 : o.val = p.val
              · have e4 := bne_f d4
                have D4 := Lib.hid d4
                clear d4
                go_wp2
                go_quiet (fail)
                go_wp2
                go_roundw
                case rel => exact ⟨i + 1, by omega, by go_num, HF.out.next HO.out HP.out ⟨D1.out, D2.out, fun _ => D4.out⟩, below_drewN HB.out _⟩
                case measure => simp [intOf]; omega
              · have e4 := bne_t d4
                clear d4
                go_wp2
                go_quiet (fail)
                go_wp2
                go_ret
                exact .bad rfl (by omega) (below_drewN HB.out _)
            · have e3 := beq_f d3
              have D3 := Lib.hid d3
              clear d3
              go_wp2
              go_quiet (fail)
              go_wp2
              have HBq := Lib.hid (below_drewN HB.out nq)
              clear k0 k1 k2 m0 m1 m2
              generalize wi.drewN nq = wq at *
              go_loopw [6] (fun n wr => ∃ z : Int, n = .int .i64 z ∧ -1 ≤ z ∧ z < i ∧ Below w.heap.size w wr) (fun n _ => (intOf n + 1).toNat)
              case atStart => exact ⟨_, rfl, by omega, by omega, HBq.out⟩
              case round =>
                obtain ⟨wk, rfl⟩ : ∃ wk : World, wk = wr := ⟨_, rfl⟩
                obtain ⟨z, rfl, hz1, hz2, hbk⟩ := hrel
                have HBk := Lib.hid hbk
                clear hbk
                by_cases hlz : 0 ≤ z
                · obtain ⟨k, rfl⟩ := Int.eq_ofNat_of_zero_le hlz
                  have hkM : (k : Int) < (m.length : Int) := by omega
                  obtain ⟨q, hq⟩ := some_at (l := m) (k := k) (by omega)
                  obtain ⟨_, _, e6, x0', x1', x2'⟩ := HC.out k q hq
                  simp only [Option.some.injEq, Addr.mk.injEq, and_true] at e6
                  obtain ⟨rfl, rfl⟩ := e6
                  have x0 := cell_later HBk.out x0'
                  have x1 := cell_later HBk.out x1'
                  have x2 := cell_later HBk.out x2'
                  have y1 := cell_later HBk.out HK1.out
                  have y2 := cell_later HBk.out HK2.out
                  clear hq x0' x1' x2'
                  by_cases g1 : q.kind = 2
                  · have f1 := beq_t g1
                    clear g1
                    by_cases g2 : q.key = o.key
                    · have f2 := beq_t g2
                      clear g2
                      by_cases g3 : q.val = o.val
                      · have f3 := bne_f g3
                        clear g3
                        go_wp2
                        go_quiet (fail)
                        go_wp2
                        go_quiet (fail)
                        go_wp2
                        go_roundw
                        case rel => exact ⟨i + 1, by omega, by go_num, HF.out.next HO.out HP.out ⟨D1.out, D2.out, fun h => absurd h D3.out⟩, below_drewN HBk.out _⟩
                        case measure => simp [intOf]; omega
                      · have f3 := bne_t g3
                        clear g3
                        go_wp2
                        go_quiet (fail)
                        go_wp2
                        go_quiet (fail)
                        go_wp2
                        go_ret
                        exact .bad rfl (by omega) (below_drewN (below_drewN HBk.out _) _)
                    · have f2 := beq_f g2
                      clear g2
                      go_wp2
                      go_quiet (fail)
                      go_wp2
                      go_roundw
                      case rel => exact ⟨_, rfl, by omega, by omega, below_drewN HBk.out _⟩
                      case measure => simp [intOf] <;> omega
                  · have f1 := beq_f g1
                    clear g1
                    go_wp2
                    go_quiet (fail)
                    go_wp2
                    go_roundw
                    case rel => exact ⟨_, rfl, by omega, by omega, below_drewN HBk.out _⟩
                    case measure => simp [intOf] <;> omega
                · obtain rfl : z = -1 := by omega
                  go_wp2_with fail
                  go_roundw
                  case rel => exact ⟨i + 1, by omega, by go_num, HF.out.next HO.out HP.out ⟨D1.out, D2.out, fun h => absurd h D3.out⟩, HBk.out⟩
                  case measure => simp [intOf]; omega
          · have e2 := bne_t d2
            clear d2
            go_wp2
            go_quiet (fail)
            go_wp2
            go_ret
            exact .bad rfl (by omega) (below_drewN HB.out _)
        · have e1 := bne_t d1
          clear d1
          go_wp2
          go_quiet (fail)
          go_wp2
          go_ret
          exact .bad rfl (by omega) (below_drewN HB.out _)
      · obtain rfl : i = m.length := by omega
        go_wp2_with fail
        go_ret
        exact .good rfl HL.out HF.out HB.out
  · have hlb : ((l.length : Int) != (m.length : Int)) = true := bne_t hl
    clear hl
    go_wp2_with fail
    go_ret
    exact .bad rfl (by omega) (Below.refl _ _)
end Go.Proofs.Ytjpmimanigjjoaa

/- What crucibleref05.Of keeps of memory and of the history. Names no function. -/
namespace Go.Proofs.Ytjpmimanigjjoaa
open Go.RowKit Go.Maps

abbrev TxL := List (GTxn × Value)
def txV (p : GTxn × Value) : List Value := [vi p.1.client, vi p.1.state, p.2]
theorem txV_length (p : GTxn × Value) : (txV p).length = 3 := rfl
theorem Try.infoTxn : (Try.prog.info? 54).map (fun i => (i.zero, i.size, i.bytes)) = some (some (.agg #[vi 0, vi 0, .slice none 0 0]), 3, 40) := by kernel_rfl
theorem eltTxn : Elt Try.prog 25 54 3 40 (.agg #[vi 0, vi 0, .slice none 0 0]) := by
  obtain ⟨i0, hi, hz0, hz1, hz2⟩ := info_parts Try.infoTxn
  exact ⟨Try.underlying25, by decide, rfl, i0, hi, hz0, hz1, hz2⟩
theorem Try.infoInt : (Try.prog.info? 3).map (fun i => (i.zero, i.size, i.bytes)) = some (some (vi 0), 1, 8) := by kernel_rfl
theorem eltInt : Elt Try.prog 23 3 1 8 (vi 0) := by
  obtain ⟨i0, hi, hz0, hz1, hz2⟩ := info_parts Try.infoInt
  exact ⟨Try.underlying23, by decide, rfl, i0, hi, hz0, hz1, hz2⟩

/-- Rows of two kinds lie in two blocks. -/
theorem rows_apart {w : World} {b b' e e' m m' n n' : Nat} {v v' : Value} {xs xs' : List Value} (h : w.ownsRow b e m v n xs) (h' : w.ownsRow b' e' m' v' n' xs') (he : e ≠ e') : v'.ownBlock = none ∨ v'.ownBlock ≠ v.ownBlock := by
  rcases h'.2 with ⟨hv', _⟩ | ⟨g', cap', cur', hv', _, hh', _⟩
  · left; rw [hv']; rfl
  · right
    rcases h.2 with ⟨hv, _⟩ | ⟨g, cap, cur, hv, _, hh, _⟩
    · rw [hv, hv']; simp [Value.ownBlock]
    · rw [hv, hv']
      intro e1
      have : g' = g := by simpa [Value.ownBlock] using e1
      subst this
      rw [hh] at hh'
      simp at hh'
      exact he hh'.2

/-- A block of another kind stays while an owned row is written. -/
theorem own_box {A B : World} {b n m bx : Nat} {e T : TypeId} {v : Value} {xs : List Value} {cs : Array Value} (h : A.ownsRow b e n v m xs) (hbx : A.heap[bx]? = some (.cells cs T)) (hT : T ≠ e) (hg : A.grownBy B v.ownBlock) : B.heap[bx]? = some (.cells cs T) := by
  rw [hg.block bx (Array.getElem?_eq_some_iff.1 hbx).1, hbx]
  intro hc
  rcases h.2 with ⟨hv, _⟩ | ⟨g, cap, cur, hv, _, hh, _⟩
  · rw [hv] at hc; simp [Value.ownBlock] at hc
  · rw [hv] at hc
    have : bx = g := by simpa [Value.ownBlock] using hc
    subst this
    rw [hbx] at hh
    simp at hh
    exact hT hh.2

structure OfS (w : World) (vo vf : Value) (L : TxL) (F : List Nat) (W : World) : Prop where
  out : W.ownsRow w.heap.size 54 3 vo L.length (L.flatMap txV)
  ops : ∀ p ∈ L, OwOps w.heap.size W p.2 p.1.ops
  frm : W.ownsRow w.heap.size 3 1 vf F.length (F.map (fun n : Nat => vi (n : Int)))
  below : Below w.heap.size w W
theorem OfS.later {w A B : World} {vo vf : Value} {L : TxL} {F : List Nat} (h : OfS w vo vf L F A) (hb : Below A.heap.size A B) : OfS w vo vf L F B :=
  ⟨own_below h.out hb, fun p hp => own_below (h.ops p hp) hb, own_below h.frm hb, h.below.trans (hb.mono h.below.size)⟩
theorem OfS.more {w A : World} {vo vf : Value} {L : TxL} {F : List Nat} (h : OfS w vo vf L F A) (o : Obj) : OfS w vo vf L F (A.alloc o) := h.later ((Below.refl _ _).alloc (Nat.le_refl _) _)
/-- The transactions are written; those that stand there now have their operations in memory that was there. -/
theorem OfS.wrote {w A B : World} {vo vo' vf : Value} {L L' : TxL} {F : List Nat} (h : OfS w vo vf L F A) (hg : A.grownBy B vo.ownBlock) (ho : B.ownsRow w.heap.size 54 3 vo' L'.length (L'.flatMap txV)) (hops : ∀ p ∈ L', OwOps w.heap.size A p.2 p.1.ops) : OfS w vo' vf L' F B :=
  ⟨ho, fun p hp => World.ownsRow.kept (hops p hp) hg (rows_apart h.out (hops p hp) (by decide)), World.ownsRow.kept h.frm hg (rows_apart h.out h.frm (by decide)), h.below.grown hg h.below.size (fun j hj => (World.ownsRow.lt h.out j hj).1)⟩
theorem OfS.from' {w A B : World} {vo vf vf' : Value} {L : TxL} {F F' : List Nat} (h : OfS w vo vf L F A) (hg : A.grownBy B vf.ownBlock) (ho : B.ownsRow w.heap.size 3 1 vf' F'.length (F'.map (fun n : Nat => vi (n : Int)))) : OfS w vo vf' L F' B :=
  ⟨World.ownsRow.kept h.out hg (rows_apart h.frm h.out (by decide)), fun p hp => World.ownsRow.kept (h.ops p hp) hg (rows_apart h.frm (h.ops p hp) (by decide)), ho, h.below.grown hg h.below.size (fun j hj => (World.ownsRow.lt h.frm j hj).1)⟩

theorem OfS.rd {w A : World} {vo vf : Value} {L : TxL} {F : List Nat} (h : OfS w vo vf L F A) : RdTxns A vo (L.map (·.1)) := by
  obtain ⟨a, len, cap, h1, h2, h3, h4, h5, h6⟩ := rds_of_own (V := txV) txV_length h.out
  refine ⟨a, len, cap, h1, by simpa using h2, by simpa using h3, h4, h5, fun j x hj => ?_⟩
  rw [List.getElem?_map, Option.map_eq_some_iff] at hj
  obtain ⟨p, hp, rfl⟩ := hj
  obtain ⟨b, off, cs, ha, hl, hc, rfl⟩ := h6 j p hp
  exact ⟨b, off, _, ha, hl, hc, p.2, rfl, (h.ops p (List.mem_of_getElem? hp)).rd⟩

/-- What is known of the transactions that were made of the events ahead of place i. -/
structure OfInv (es : List GEvent) (i : Nat) (L : List GTxn) (F : List Nat) : Prop where
  len : L.length = F.length
  le : F.length ≤ i
  ev : ∀ (j : Nat) (e : GEvent), j < i → es[j]? = some e → GoodEv e ∧ (e.kind = 1 → FreshN es e.ops j e.ops.length)
  lt : ∀ f ∈ F, f < i
  inj : ∀ (a b f : Nat), F[a]? = some f → F[b]? = some f → a = b
  txn : ∀ (j : Nat) (t : GTxn) (f : Nat), L[j]? = some t → F[j]? = some f → (0 ≤ t.state ∧ t.state ≤ 2) ∧ (∀ o ∈ t.ops, GoodOp o) ∧ t.ops.length ≤ 12 ∧ ∃ e, es[f]? = some e ∧ e.kind = 1 ∧ e.ops.length = t.ops.length ∧ ShapeN e.ops t.ops t.ops.length

theorem shapeN_refl (l : List GOp) (n : Nat) : ShapeN l l n := fun i o p _ ho hp => by rw [ho] at hp; cases hp; exact ⟨rfl, rfl, fun _ => rfl⟩

theorem OfInv.start (es : List GEvent) : OfInv es 0 [] [] := ⟨rfl, Nat.le_refl _, fun j e h => absurd h (Nat.not_lt_zero _), (fun f h => by cases h), (fun a b f h => by simp at h), (fun j t f h => by simp at h)⟩
/-- An event that begins nothing. -/
theorem OfInv.over {es : List GEvent} {i : Nat} {L : List GTxn} {F : List Nat} {e : GEvent} (h : OfInv es i L F) (he : es[i]? = some e) (hg : GoodEv e) (hk : e.kind = 1 → FreshN es e.ops i e.ops.length) : OfInv es (i + 1) L F := by
  refine ⟨h.len, by have := h.le; omega, fun j e' hj he' => ?_, fun f hf => by have := h.lt f hf; omega, h.inj, h.txn⟩
  rcases Nat.lt_or_ge j i with h' | h'
  · exact h.ev j e' h' he'
  · obtain rfl : j = i := by omega
    rw [he] at he'; cases he'
    exact ⟨hg, hk⟩
/-- An event that begins a transaction. -/
theorem OfInv.begun {es : List GEvent} {i : Nat} {L : List GTxn} {F : List Nat} {e : GEvent} (h : OfInv es i L F) (he : es[i]? = some e) (hg : GoodEv e) (h1 : e.kind = 1) (hk : FreshN es e.ops i e.ops.length) : OfInv es (i + 1) (L ++ [⟨e.client, 0, e.ops⟩]) (F ++ [i]) := by
  have h0 := h.over he hg (fun _ => hk)
  refine ⟨by simp [h.len], by have := h.le; simp; omega, h0.ev, ?_, ?_, ?_⟩
  · intro f hf
    rw [List.mem_append] at hf
    rcases hf with hf | hf
    · exact h0.lt f hf
    · simp at hf; omega
  · intro a b f ha hb
    rw [List.getElem?_append] at ha hb
    split at ha <;> split at hb
    · exact h.inj a b f ha hb
    · have := h.lt f (List.mem_of_getElem? ha)
      have := List.mem_of_getElem? hb
      simp at this; omega
    · have := h.lt f (List.mem_of_getElem? hb)
      have := List.mem_of_getElem? ha
      simp at this; omega
    · have ha' := (List.getElem?_eq_some_iff.1 ha).1
      have hb' := (List.getElem?_eq_some_iff.1 hb).1
      simp at ha' hb'; omega
  · intro j t f ht hf
    have hl := h.len
    rw [List.getElem?_append] at ht hf
    split at ht <;> split at hf
    · exact h.txn j t f ht hf
    · omega
    · omega
    · have hj' := (List.getElem?_eq_some_iff.1 ht).1
      have hj2 : j - L.length = 0 := by simp at hj'; omega
      rw [hj2] at ht
      rw [show j - F.length = 0 by omega] at hf
      simp at ht hf
      subst ht; subst hf
      exact ⟨⟨Int.le_refl _, by show (0 : Int) ≤ 2; decide⟩, hg.ops, hg.len, e, he, h1, rfl, shapeN_refl _ _⟩
/-- A transaction is written anew. -/
theorem OfInv.set {es : List GEvent} {i k f : Nat} {L : List GTxn} {F : List Nat} {t' : GTxn} {e : GEvent} (h : OfInv es i L F) (hf : F[k]? = some f) (hs : 0 ≤ t'.state ∧ t'.state ≤ 2) (ho : ∀ o ∈ t'.ops, GoodOp o) (hl : t'.ops.length ≤ 12) (he : es[f]? = some e) (h1 : e.kind = 1) (hlen : e.ops.length = t'.ops.length) (hsh : ShapeN e.ops t'.ops t'.ops.length) : OfInv es i (L.set k t') F := by
  refine ⟨by simp [h.len], h.le, h.ev, h.lt, h.inj, fun j t f' ht hf' => ?_⟩
  rw [List.getElem?_set] at ht
  split at ht
  · subst_vars
    rw [hf] at hf'; cases hf'
    split at ht
    · simp at ht; subst ht; exact ⟨hs, ho, hl, e, he, h1, hlen, hsh⟩
    · simp at ht
  · exact h.txn j t f' ht hf'

/-- Each written value belongs to one transaction. -/
def Uniq (ts : List GTxn) : Prop := ∀ (i j : Nat) (t u : GTxn), ts[i]? = some t → ts[j]? = some u → ∀ o ∈ t.ops, ∀ p ∈ u.ops, o.kind = 2 → p.kind = 2 → o.val = p.val → i = j
/-- What is known of a history's transactions. -/
structure GoodTs (ts : List GTxn) : Prop where
  len : ts.length ≤ 60
  txn : ∀ t ∈ ts, (0 ≤ t.state ∧ t.state ≤ 2) ∧ (∀ o ∈ t.ops, GoodOp o) ∧ t.ops.length ≤ 12
  uniq : Uniq ts
theorem OfInv.good {es : List GEvent} {i : Nat} {L : List GTxn} {F : List Nat} (h : OfInv es i L F) (hi : i ≤ 60) : GoodTs L := by
  have hl := h.len
  have hle := h.le
  have key : ∀ (a b fa fb : Nat) (t u : GTxn) (o p : GOp), L[a]? = some t → L[b]? = some u → F[a]? = some fa → F[b]? = some fb → o ∈ t.ops → p ∈ u.ops → o.kind = 2 → p.kind = 2 → o.val = p.val → ¬ fa < fb := by
    intro a b fa fb t u o p ha hb hfa hfb ho hp ho2 hp2 hv hlt
    obtain ⟨-, -, -, ea, hea, ha1, hal, has⟩ := h.txn a t fa ha hfa
    obtain ⟨-, -, -, eb, heb, hb1, hbl, hbs⟩ := h.txn b u fb hb hfb
    obtain ⟨x, hx⟩ := List.mem_iff_getElem?.1 ho
    obtain ⟨y, hy⟩ := List.mem_iff_getElem?.1 hp
    have hx1 := (List.getElem?_eq_some_iff.1 hx).1
    have hy1 := (List.getElem?_eq_some_iff.1 hy).1
    obtain ⟨o', ho'⟩ := some_at (l := ea.ops) (k := x) (by omega)
    obtain ⟨p', hp'⟩ := some_at (l := eb.ops) (k := y) (by omega)
    obtain ⟨q1, -, q3⟩ := has x o o' hx1 hx ho'
    obtain ⟨r1, -, r3⟩ := hbs y p p' hy1 hy hp'
    have hfr := (h.ev fb eb (h.lt fb (List.mem_of_getElem? hfb)) heb).2 hb1
    have := hfr y p' (by omega) hp' (by rw [← r1]; exact hp2) fa ea x o' (by omega) hea ha1 ho' (.inl hlt) (by rw [← q1]; exact ho2)
    exact this (by rw [← q3 ho2, ← r3 hp2]; exact hv)
  refine ⟨by omega, fun t ht => ?_, ?_⟩
  · obtain ⟨j, hj⟩ := List.mem_iff_getElem?.1 ht
    have hj1 := (List.getElem?_eq_some_iff.1 hj).1
    obtain ⟨f, hf⟩ := some_at (l := F) (k := j) (by omega)
    obtain ⟨h1, h2, h3, -⟩ := h.txn j t f hj hf
    exact ⟨h1, h2, h3⟩
  · intro a b t u ha hb o ho p hp ho2 hp2 hv
    have ha1 := (List.getElem?_eq_some_iff.1 ha).1
    have hb1 := (List.getElem?_eq_some_iff.1 hb).1
    obtain ⟨fa, hfa⟩ := some_at (l := F) (k := a) (by omega)
    obtain ⟨fb, hfb⟩ := some_at (l := F) (k := b) (by omega)
    have k1 := key a b fa fb t u o p ha hb hfa hfb ho hp ho2 hp2 hv
    have k2 := key b a fb fa u t p o hb ha hfb hfa hp ho hp2 ho2 hv.symm
    obtain rfl : fa = fb := by omega
    exact h.inj a b fa hfa hfb
theorem GoodTs.ok {ts : List GTxn} (h : GoodTs ts) : OkTxns ts := by
  refine ⟨by have := h.len; omega, fun t ht => ?_⟩
  obtain ⟨-, h2, h3⟩ := h.txn t ht
  refine ⟨fun o ho => ?_, by omega⟩
  have g := h2 o ho
  have := g.kind; have := g.key0; have := g.key1; have := g.val0; have := g.val1
  unfold i64
  omega
end Go.Proofs.Ytjpmimanigjjoaa

/- Writing a transaction of the slice that crucibleref05.Of makes. Names no function. -/
namespace Go.Proofs.Ytjpmimanigjjoaa
open Go.RowKit Go.Maps

theorem flat_set : ∀ (L : TxL) (k i : Nat) (u : Value) (p p' : GTxn × Value), L[k]? = some p → i < 3 → (txV p).set i u = txV p' → (L.flatMap txV).set (k * 3 + i) u = (L.set k p').flatMap txV := by
  intro L
  induction L with
  | nil => intro k i u p p' h; simp at h
  | cons q L ih =>
    intro k i u p p' h hi hs
    rw [List.flatMap_cons]
    cases k with
    | zero =>
      simp at h; subst h
      rw [List.set_append]
      rw [if_pos (by rw [txV_length]; omega), List.set_cons_zero, List.flatMap_cons, Nat.zero_mul, Nat.zero_add, hs]
    | succ k =>
      rw [List.set_append, if_neg (by rw [txV_length]; omega), txV_length, List.set_cons_succ, List.flatMap_cons]
      rw [show (k + 1) * 3 + i - 3 = k * 3 + i by omega, ih k i u p p' (by simpa using h) hi hs]

theorem OfS.out_shape {w A : World} {vo vf : Value} {L : TxL} {F : List Nat} (h : OfS w vo vf L F A) (h0 : 0 < L.length) : ∃ g cap, vo = .slice (some ⟨g, 0, none⟩) L.length cap := by
  rcases h.out.2 with ⟨_, h2⟩ | ⟨g, cap, _, hv, _⟩
  · omega
  · exact ⟨g, cap, hv⟩
theorem OfS.frm_shape {w A : World} {vo vf : Value} {L : TxL} {F : List Nat} (h : OfS w vo vf L F A) (h0 : 0 < F.length) : ∃ g cap, vf = .slice (some ⟨g, 0, none⟩) F.length cap := by
  rcases h.frm.2 with ⟨_, h2⟩ | ⟨g, cap, _, hv, _⟩
  · omega
  · exact ⟨g, cap, hv⟩

theorem OfS.frm_at {w A : World} {vo : Value} {L : TxL} {F : List Nat} {gf n cf : Nat} (h : OfS w vo (.slice (some ⟨gf, 0, none⟩) n cf) L F A) {k f : Nat} (hf : F[k]? = some f) : A.cell? ⟨gf, k, none⟩ = some (vi f) := by
  have := World.ownsRow.cells h.frm (g := gf) rfl k (vi f) (by simp [hf])
  rw [addr_add] at this
  simpa using this
theorem txV_at (L : TxL) {k i : Nat} {p : GTxn × Value} {u : Value} (hk : L[k]? = some p) (hu : (txV p)[i]? = some u) : (L.flatMap txV)[k * 3 + i]? = some u := flat_at txV_length L k i p u hk hu
theorem OfS.out_at {w A : World} {vf : Value} {L : TxL} {F : List Nat} {g n cap : Nat} (h : OfS w (.slice (some ⟨g, 0, none⟩) n cap) vf L F A) {k : Nat} {p : GTxn × Value} (hp : L[k]? = some p) {i : Nat} {u : Value} (hu : (txV p)[i]? = some u) : A.cell? ⟨g, k * 3 + i, none⟩ = some u := by
  have := World.ownsRow.cells h.out (g := g) rfl (k * 3 + i) u (txV_at L hp hu)
  rw [addr_add] at this
  simpa using this
theorem OfS.out_free {w A : World} {vf : Value} {L : TxL} {F : List Nat} {g n cap : Nat} (h : OfS w (.slice (some ⟨g, 0, none⟩) n cap) vf L F A) (hn : n = L.length) (j : Nat) : A.frozen? ⟨g, j, none⟩ = false := by
  subst hn; exact World.ownsRow.frozenAt h.out j
/-- A cell of a transaction is written. -/
theorem OfS.set {w A : World} {vf : Value} {L : TxL} {F : List Nat} {g n cap : Nat} (h : OfS w (.slice (some ⟨g, 0, none⟩) n cap) vf L F A) (hn : n = L.length) {k i : Nat} {p p' : GTxn × Value} {u : Value} (hp : L[k]? = some p) (hi : i < 3) (hs : (txV p).set i u = txV p') (ho : OwOps w.heap.size A p'.2 p'.1.ops) :
    OfS w (.slice (some ⟨g, 0, none⟩) n cap) vf (L.set k p') F (A.setCell ⟨g, k * 3 + i, none⟩ u) := by
  subst hn
  obtain ⟨h1, h2⟩ := World.ownsRow.stored h.out (k * 3 + i) u
  rw [flat_set L k i u p p' hp hi hs] at h1
  refine h.wrote (vo' := .slice (some ⟨g, 0, none⟩) L.length cap) h2 (by simpa using h1) fun q hq => ?_
  rcases List.mem_or_eq_of_mem_set hq with hq | rfl
  · exact h.ops q hq
  · exact ho
/-- A transaction is appended. -/
theorem OfS.push {w A B : World} {vo vo' vf : Value} {L : TxL} {F : List Nat} {p : GTxn × Value} (h : OfS w vo vf L F A) (hg : A.grownBy B vo.ownBlock) (ho : B.ownsRow w.heap.size 54 3 vo' (L.length + 1) (L.flatMap txV ++ txV p)) (hp : OwOps w.heap.size A p.2 p.1.ops) : OfS w vo' vf (L ++ [p]) F B := by
  refine h.wrote hg (by simpa using ho) fun q hq => ?_
  rw [List.mem_append] at hq
  rcases hq with hq | hq
  · exact h.ops q hq
  · simp at hq; subst hq; exact hp
theorem OfS.pushF {w A B : World} {vo vf vf' : Value} {L : TxL} {F : List Nat} {f : Nat} (h : OfS w vo vf L F A) (hg : A.grownBy B vf.ownBlock) (ho : B.ownsRow w.heap.size 3 1 vf' (F.length + 1) (F.map (fun n : Nat => vi (n : Int)) ++ [vi (f : Int)])) : OfS w vo vf' L (F ++ [f]) B :=
  h.from' hg (by simpa using ho)
theorem txV_one {p : GTxn × Value} {a : Option Addr} {n c : Nat} (h : p.2 = .slice a n c) : ∀ u ∈ txV p, u.oneCell' = true := by
  intro u hu
  simp [txV, h] at hu
  rcases hu with rfl | rfl | rfl <;> rfl

theorem OfS.shapes {w A : World} {vo vf : Value} {L : TxL} {F : List Nat} (h : OfS w vo vf L F A) (hl : L.length = F.length) : ∃ a c a2 c2, vo = .slice a F.length c ∧ vf = .slice a2 F.length c2 := by
  obtain ⟨a, len, c, h1, h2, -⟩ := rds_of_own (V := txV) txV_length h.out
  have h3 := h.frm.2
  subst h2
  rw [hl] at h1
  rcases h3 with ⟨h3, h0⟩ | ⟨g, cap, _, hv, _⟩
  · exact ⟨a, c, none, 0, h1, by rw [h3, h0]⟩
  · exact ⟨a, c, _, _, h1, hv⟩
theorem OfS.shapes_at {w A : World} {a a2 : Option Addr} {n c m c2 : Nat} {L : TxL} {F : List Nat} (h : OfS w (.slice a n c) (.slice a2 m c2) L F A) (hl : L.length = F.length) (h0 : 0 < F.length) : ∃ g gf, a = some ⟨g, 0, none⟩ ∧ a2 = some ⟨gf, 0, none⟩ := by
  obtain ⟨g, cap, e1⟩ := h.out_shape (by omega)
  obtain ⟨gf, cap2, e2⟩ := h.frm_shape h0
  simp only [Value.slice.injEq] at e1 e2
  exact ⟨g, gf, e1.1, e2.1⟩
theorem OfInv.state {es : List GEvent} {i k f : Nat} {L : List GTxn} {F : List Nat} {t : GTxn} {s : Int} (h : OfInv es i L F) (ht : L[k]? = some t) (hf : F[k]? = some f) (hs : 0 ≤ s ∧ s ≤ 2) : OfInv es i (L.set k ⟨t.client, s, t.ops⟩) F := by
  obtain ⟨-, h2, h3, e, h4, h5, h6, h7⟩ := h.txn k t f ht hf
  exact h.set (e := e) hf hs h2 h3 h4 h5 h6 h7
theorem one_vi (n : Int) : ∀ u ∈ [vi n], u.oneCell' = true := by intro u hu; simp at hu; subst hu; rfl

/-- The box of the event stays. -/
theorem OfS.box {w A : World} {vf : Value} {L : TxL} {F : List Nat} {g n cap : Nat} (h : OfS w (.slice (some ⟨g, 0, none⟩) n cap) vf L F A) (hn : n = L.length) {bx : Nat} {cs : Array Value} (hb : A.heap[bx]? = some (.cells cs 72)) (j : Nat) (u : Value) : (A.setCell ⟨g, j, none⟩ u).heap[bx]? = some (.cells cs 72) := by
  subst hn
  exact own_box h.out hb (by decide) (World.ownsRow.stored h.out j u).2
end Go.Proofs.Ytjpmimanigjjoaa
