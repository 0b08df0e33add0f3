/- crucibleref05.twice: when it says no, what the event writes was not written ahead. -/
import Derived.Test.YtafboehdihokhaaLast
namespace Go.Proofs.Ytafboehdihokhaa
open Go.RowKit Go.Maps

/-- Of the first k events none has written what the i-th operation at a place writes. -/
def FreshK (es : List GEvent) (at' i k : Nat) (o : GOp) : Prop := ∀ (k' : Nat) (e : GEvent) (j : Nat) (p : GOp), k' < k → es[k']? = some e → e.kind = 1 → e.ops[j]? = some p → (k' < at' ∨ j < i) → p.kind = 2 → p.val ≠ o.val
def FreshJ (e : GEvent) (at' i k j : Nat) (o : GOp) : Prop := ∀ (j' : Nat) (p : GOp), j' < j → e.ops[j']? = some p → (k < at' ∨ j' < i) → p.kind = 2 → p.val ≠ o.val
/-- What the first n operations at a place write was not written ahead. -/
def FreshN (es : List GEvent) (l : List GOp) (at' n : Nat) : Prop := ∀ (i : Nat) (o : GOp), i < n → l[i]? = some o → o.kind = 2 → FreshK es at' i (at' + 1) o

theorem FreshK.next {es : List GEvent} {at' i k : Nat} {o : GOp} {e : GEvent} (h : FreshK es at' i k o) (he : es[k]? = some e) (hk : e.kind = 1 → FreshJ e at' i k e.ops.length o) : FreshK es at' i (k + 1) o := by
  intro k' e' j p hlt he' h1 hp hc h2
  rcases Nat.lt_or_ge k' k with h' | h'
  · exact h k' e' j p h' he' h1 hp hc h2
  · obtain rfl : k' = k := by omega
    rw [he] at he'; cases he'
    exact hk h1 j p (List.getElem?_eq_some_iff.1 hp).1 hp hc h2
theorem FreshJ.next {e : GEvent} {at' i k j : Nat} {o p : GOp} (h : FreshJ e at' i k j o) (hp : e.ops[j]? = some p) (hk : (k < at' ∨ j < i) → p.kind = 2 → p.val ≠ o.val) : FreshJ e at' i k (j + 1) o := by
  intro j' p' hlt hp' hc h2
  rcases Nat.lt_or_ge j' j with h' | h'
  · exact h j' p' h' hp' hc h2
  · obtain rfl : j' = j := by omega
    rw [hp] at hp'; cases hp'
    exact hk hc h2
theorem FreshN.next {es : List GEvent} {l : List GOp} {at' n : Nat} {o : GOp} (h : FreshN es l at' n) (ho : l[n]? = some o) (hk : o.kind = 2 → FreshK es at' n (at' + 1) o) : FreshN es l at' (n + 1) := by
  intro i o' hlt ho' h2
  rcases Nat.lt_or_ge i n with h' | h'
  · exact h i o' h' ho' h2
  · obtain rfl : i = n := by omega
    rw [ho] at ho'; cases ho'
    exact hk h2

/-- What crucibleref05.twice answers. -/
def TwiceQ (es : List GEvent) (l : List GOp) (at' : Nat) (w : World) (r : Ending) (w' : World) : Prop := ∃ b, r = .returned (.bool b) ∧ (b = false → FreshN es l at' l.length) ∧ Below w.heap.size w w'
theorem TwiceQ.no {es : List GEvent} {l : List GOp} {at' : Nat} {w w' : World} {r : Ending} (h : r = .returned (.bool false)) (hg : FreshN es l at' l.length) (hb : Below w.heap.size w w') : TwiceQ es l at' w r w' := ⟨false, h, fun _ => hg, hb⟩
theorem TwiceQ.yes {es : List GEvent} {l : List GOp} {at' : Nat} {w w' : World} {r : Ending} (h : r = .returned (.bool true)) (hb : Below w.heap.size w w') : TwiceQ es l at' w r w' := ⟨true, h, (fun h => by cases h), hb⟩

set_option maxRecDepth 100000 in
set_option maxHeartbeats 8000000 in
theorem twice_call (v : Value) (es : List GEvent) (at' : Nat) (e : GEvent) (w : World) (hv : RdEvents w v es) (he : es[at']? = some e) :
    Calls Try.prog 43 #[v, .int .i64 at'] w (TwiceQ es e.ops at' w) := by
  have HV := Lib.hid hv
  have hat := (List.getElem?_eq_some_iff.1 he).1
  have haI : (at' : Int) < (es.length : Int) := by omega
  obtain ⟨a, len, cap, rfl, rfl, hm, hcl⟩ := hv.at
  obtain ⟨b, off, oa, oc, rfl, hr, -, -, k2⟩ := hcl at' e he
  have HR := Lib.hid hr
  have HE := Lib.hid he
  have hmo : e.ops.length ≤ 9223372036854775807 := by obtain ⟨_, _, _, _, _, h, _⟩ := hr.at; exact h
  clear hv hcl hr he
  go_enter Try.func43, Try.ntmps43
  go_wp2_with fail
  clear k2
  go_loopw [5, 6, 7, 8, 9, 16] (fun _ _ _ _ _ n wr => ∃ i : Nat, i ≤ e.ops.length ∧ n = .int .i64 i ∧ FreshN es e.ops at' i ∧ Below w.heap.size w wr) (fun _ _ _ _ _ n _ => e.ops.length - (intOf n).toNat)
  case atStart => exact ⟨0, Nat.zero_le _, rfl, fun i o h => absurd h (Nat.not_lt_zero _), Below.refl _ _⟩
  case round =>
    obtain ⟨wi, rfl⟩ : ∃ wi : World, wi = wr := ⟨_, rfl⟩
    obtain ⟨i, hi, rfl, hf, hb⟩ := hrel
    have HF := Lib.hid hf
    have HB := Lib.hid hb
    have hwi := hb.size
    clear hf hb
    by_cases hlt : i < e.ops.length
    · obtain ⟨o, ho⟩ := some_at hlt
      obtain ⟨_, _, _, e5, -, -, hcl⟩ := HR.out.at
      cases e5
      obtain ⟨b2, off2, rfl, k0', k1', k2'⟩ := hcl i o ho
      have k0 := cell_later HB.out k0'
      have k1 := cell_later HB.out k1'
      have k2 := cell_later HB.out k2'
      have hiI : (i : Int) < (e.ops.length : Int) := by omega
      have HO := Lib.hid ho
      clear hcl ho k0' k1' k2'
      by_cases h2 : o.kind = 2
      · have c2 := bne_f h2
        have H2 := Lib.hid h2
        clear h2
        go_wp2_with fail
        have q2 : (wi.alloc (.cells #[vi o.kind, vi o.key, vi o.val] 64)).cell? ⟨wi.heap.size, 2, none⟩ = some (vi o.val) := by rw [cell_of (alloc_at _ _)]; rfl
        have hsz : (wi.alloc (.cells #[vi o.kind, vi o.key, vi o.val] 64)).heap.size = wi.heap.size + 1 := by simp
        have HB1 := Lib.hid (HB.out.alloc hwi (.cells #[vi o.kind, vi o.key, vi o.val] 64))
        have Q2 := Lib.hid q2
        clear q2 k0 k1 k2
        generalize wi.alloc (.cells #[vi o.kind, vi o.key, vi o.val] 64) = w1 at *
        go_loopw [7, 8, 9] (fun n _ _ wr => ∃ k : Nat, k ≤ at' + 1 ∧ n = .int .i64 k ∧ FreshK es at' i k o ∧ Below w1.heap.size w1 wr) (fun n _ _ _ => at' + 1 - (intOf n).toNat)
        case atStart => exact ⟨0, Nat.zero_le _, rfl, fun k e j p h => absurd h (Nat.not_lt_zero _), Below.refl _ _⟩
        case round =>
          obtain ⟨wk, rfl⟩ : ∃ wk : World, wk = wr := ⟨_, rfl⟩
          obtain ⟨k, hk, rfl, hfk, hbk⟩ := hrel
          have HFk := Lib.hid hfk
          have HBk := Lib.hid hbk
          have hwk := hbk.size
          have HBW := Lib.hid (HB1.out.trans (hbk.mono HB1.out.size))
          clear hfk hbk
          by_cases hlk : k ≤ at'
          · obtain ⟨ek, hek⟩ := some_at (l := es) (k := k) (by omega)
            obtain ⟨_, _, _, e5, -, -, hcl⟩ := HV.out.at
            simp only [Value.slice.injEq] at e5
            obtain ⟨rfl, -, rfl⟩ := e5
            obtain ⟨b3, off3, oa3, oc3, e6, hr3, m0', m1', m2'⟩ := hcl k ek hek
            simp only [Option.some.injEq, Addr.mk.injEq, and_true] at e6
            obtain ⟨rfl, rfl⟩ := e6
            have k0 := cell_later HBW.out m0'
            have k2 := cell_later HBW.out m2'
            have hkI : (k : Int) ≤ (at' : Int) := by omega
            have hkJ : (k : Int) < (es.length : Int) := by omega
            have HEk := Lib.hid hek
            have HR3 := Lib.hid hr3
            have hmo3 : ek.ops.length ≤ 9223372036854775807 := by obtain ⟨_, _, _, _, _, h, _⟩ := hr3.at; exact h
            clear hcl hek m0' m1' m2' hr3
            by_cases h1 : ek.kind = 1
            · have c1 := bne_f h1
              have H1 := Lib.hid h1
              clear h1
              go_wp2_with fail
              clear k0 k2
              go_loopw [8, 9, 41] (fun _ _ n wr => ∃ j : Nat, j ≤ ek.ops.length ∧ n = .int .i64 j ∧ FreshJ ek at' i k j o ∧ Below w1.heap.size w1 wr) (fun _ _ n _ => ek.ops.length - (intOf n).toNat)
              case atStart => exact ⟨0, Nat.zero_le _, rfl, fun j p h => absurd h (Nat.not_lt_zero _), HBk.out⟩
              case round =>
                obtain ⟨wj, rfl⟩ : ∃ wj : World, wj = wr := ⟨_, rfl⟩
                obtain ⟨j, hj, rfl, hfj, hbj⟩ := hrel
                have HFj := Lib.hid hfj
                have HBj := Lib.hid hbj
                have hwj := hbj.size
                have HBV := Lib.hid (HB1.out.trans (hbj.mono HB1.out.size))
                have q2 := cell_later hbj Q2.out
                have hwq : wi.heap.size < wj.heap.size := by omega
                clear hfj hbj
                by_cases hlj : j < ek.ops.length
                · obtain ⟨p, hp⟩ := some_at hlj
                  obtain ⟨_, _, _, e5, -, -, hcl⟩ := HR3.out.at
                  cases e5
                  obtain ⟨b4, off4, rfl, k0', k1', k2'⟩ := hcl j p hp
                  have k0 := cell_later HBV.out k0'
                  have k1 := cell_later HBV.out k1'
                  have k2 := cell_later HBV.out k2'
                  have hjI : (j : Int) < (ek.ops.length : Int) := by omega
                  have HP := Lib.hid hp
                  clear hcl hp k0' k1' k2'
                  by_cases hka : (k : Int) < (at' : Int)
                  · by_cases d1 : p.kind = 2
                    · have e1 := beq_t d1
                      have D1 := Lib.hid d1
                      clear d1
                      by_cases d2 : p.val = o.val
                      · have e2 := beq_t d2
                        clear d2
                        go_wp2_with fail
                        go_ret
                        exact .yes rfl (HB1.out.trans ((HBj.out.alloc hwj _).mono HB1.out.size))
                      · have e2 := beq_f d2
                        have D2 := Lib.hid d2
                        clear d2
                        go_wp2_with fail
                        go_roundw
                        case rel => exact ⟨j + 1, by omega, by go_num, HFj.out.next HP.out (fun _ _ => D2.out), HBj.out.alloc hwj _⟩
                        case measure => simp [intOf]; omega
                    · have e1 := beq_f d1
                      have D1 := Lib.hid d1
                      clear d1
                      go_wp2_with fail
                      go_roundw
                      case rel => exact ⟨j + 1, by omega, by go_num, HFj.out.next HP.out (fun _ h => absurd h D1.out), HBj.out.alloc hwj _⟩
                      case measure => simp [intOf]; omega
                  · by_cases hji : (j : Int) < (i : Int)
                    · by_cases d1 : p.kind = 2
                      · have e1 := beq_t d1
                        have D1 := Lib.hid d1
                        clear d1
                        by_cases d2 : p.val = o.val
                        · have e2 := beq_t d2
                          clear d2
                          go_wp2_with fail
                          go_ret
                          exact .yes rfl (HB1.out.trans ((HBj.out.alloc hwj _).mono HB1.out.size))
                        · have e2 := beq_f d2
                          have D2 := Lib.hid d2
                          clear d2
                          go_wp2_with fail
                          go_roundw
                          case rel => exact ⟨j + 1, by omega, by go_num, HFj.out.next HP.out (fun _ _ => D2.out), HBj.out.alloc hwj _⟩
                          case measure => simp [intOf]; omega
                      · have e1 := beq_f d1
                        have D1 := Lib.hid d1
                        clear d1
                        go_wp2_with fail
                        go_roundw
                        case rel => exact ⟨j + 1, by omega, by go_num, HFj.out.next HP.out (fun _ h => absurd h D1.out), HBj.out.alloc hwj _⟩
                        case measure => simp [intOf]; omega
                    · go_wp2_with fail
                      go_roundw
                      case rel => exact ⟨j + 1, by omega, by go_num, HFj.out.next HP.out (fun h => by omega), HBj.out.alloc hwj _⟩
                      case measure => simp [intOf]; omega
                · obtain rfl : j = ek.ops.length := by omega
                  go_wp2_with fail
                  go_roundw
                  case rel => exact ⟨k + 1, by omega, by go_num, HFk.out.next HEk.out (fun _ => HFj.out), HBj.out⟩
                  case measure => simp [intOf]; omega
            · have c1 := bne_t h1
              have H1 := Lib.hid h1
              clear h1
              go_wp2_with fail
              go_roundw
              case rel => exact ⟨k + 1, by omega, by go_num, HFk.out.next HEk.out (fun h => absurd h H1.out), HBk.out⟩
              case measure => simp [intOf]; omega
          · obtain rfl : k = at' + 1 := by omega
            go_wp2_with fail
            go_roundw
            case rel => exact ⟨i + 1, by omega, by go_num, HF.out.next HO.out (fun _ => HFk.out), HBW.out⟩
            case measure => simp [intOf]; omega
      · have c2 := bne_t h2
        have H2 := Lib.hid h2
        clear h2
        go_wp2_with fail
        go_roundw
        case rel => exact ⟨i + 1, by omega, by go_num, HF.out.next HO.out (fun h => absurd h H2.out), HB.out.alloc hwi _⟩
        case measure => simp [intOf]; omega
    · obtain rfl : i = e.ops.length := by omega
      go_wp2_with fail
      go_ret
      exact .no rfl HF.out HB.out
end Go.Proofs.Ytafboehdihokhaa
