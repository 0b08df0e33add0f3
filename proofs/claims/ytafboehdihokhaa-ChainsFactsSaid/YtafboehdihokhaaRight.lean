/- crucibleref05.right: when it says yes, the event is a good one. -/
import Derived.Test.YtafboehdihokhaaRefS
namespace Go.Proofs.Ytafboehdihokhaa
open Go.RowKit Go.Maps

/-- An operation that may be. -/
structure GoodOp (o : GOp) : Prop where
  kind : o.kind = 1 ∨ o.kind = 2
  key0 : 0 ≤ o.key
  key1 : o.key ≤ 15
  val0 : 0 ≤ o.val
  val1 : o.val < 1099511627776
/-- An event that may be. -/
structure GoodEv (e : GEvent) : Prop where
  kind0 : 1 ≤ e.kind
  kind1 : e.kind ≤ 4
  cl0 : 1 ≤ e.client
  cl1 : e.client ≤ 16
  len : e.ops.length ≤ 12
  ops : ∀ o ∈ e.ops, GoodOp o

theorem beq_t {a b : Int} (h : a = b) : (a == b) = true := by simp [h]
theorem beq_f {a b : Int} (h : a ≠ b) : (a == b) = false := by simp [h]
theorem bne_t {a b : Int} (h : a ≠ b) : (a != b) = true := by simp [h]
theorem bne_f {a b : Int} (h : a = b) : (a != b) = false := by simp [h]

/-- What crucibleref05.right answers. -/
def RightQ (e : GEvent) (w : World) (r : Ending) (w' : World) : Prop := ∃ b, r = .returned (.bool b) ∧ (b = true → GoodEv e) ∧ Below w.heap.size w w'
theorem RightQ.no {e : GEvent} {w w' : World} {r : Ending} (h : r = .returned (.bool false)) (hb : Below w.heap.size w w') : RightQ e w r w' := ⟨false, h, (fun h => by cases h), hb⟩
theorem RightQ.yes {e : GEvent} {w w' : World} {r : Ending} (h : r = .returned (.bool true)) (hg : GoodEv e) (hb : Below w.heap.size w w') : RightQ e w r w' := ⟨true, h, fun _ => hg, hb⟩

set_option maxRecDepth 100000 in
set_option maxHeartbeats 4000000 in
theorem right_call (e : GEvent) (v : Value) (w : World) (hv : RdOps w v e.ops) :
    Calls Try.prog 41 #[.agg #[vi e.kind, vi e.client, v]] w (RightQ e w) := by
  obtain ⟨kind, client, l⟩ := e
  have hB : Below w.heap.size w (w.alloc (.cells #[vi kind, vi client, v] 88)) := (Below.refl _ _).alloc (Nat.le_refl _) _
  have hV := hv.later hB
  have HV := Lib.hid hV
  have HB := Lib.hid hB
  obtain ⟨a, len, cap, rfl, rfl, hm, -⟩ := hv.at
  clear hv hV hB
  show Calls Try.prog 41 #[.agg #[vi kind, vi client, .slice a l.length cap]] w _
  go_enter Try.func41, Try.ntmps41
  by_cases a1 : kind < 1
  · go_wp2_with fail
    go_ret
    exact .no rfl HB.out
  by_cases a2 : kind > 4
  · go_wp2_with fail
    go_ret
    exact .no rfl HB.out
  by_cases a3 : client < 1
  · go_wp2_with fail
    go_ret
    exact .no rfl HB.out
  by_cases a4 : client > 16
  · go_wp2_with fail
    go_ret
    exact .no rfl HB.out
  by_cases a5 : (l.length : Int) > 12
  · go_wp2_with fail
    go_ret
    exact .no rfl HB.out
  have hz : (∃ c : Bool, c = ((l.length : Int) == 0)) := ⟨_, rfl⟩
  go_upto_region 3 with fail
  go_cut [42] (fun r wx => (∃ b, r = .bool b) ∧ wx = w.alloc (.cells #[vi kind, vi client, .slice a l.length cap] 88))
  case first =>
    by_cases b1 : (l.length : Int) = 0
    · have c1 := beq_t b1
      clear b1
      by_cases b2 : kind = 1
      · have c2 := beq_t b2
        clear b2
        go_wp2_with fail
        go_meet
        exact ⟨⟨_, rfl⟩, rfl⟩
      · have c2 := beq_f b2
        clear b2
        by_cases b3 : kind = 2
        · have c3 := beq_t b3
          clear b3
          go_wp2_with fail
          go_meet
          exact ⟨⟨_, rfl⟩, rfl⟩
        · have c3 := beq_f b3
          clear b3
          go_wp2_with fail
          go_meet
          exact ⟨⟨_, rfl⟩, rfl⟩
    · have c1 := beq_f b1
      clear b1
      go_wp2_with fail
      go_meet
      exact ⟨⟨_, rfl⟩, rfl⟩
  case rest =>
    obtain ⟨⟨b, rfl⟩, rfl⟩ := hcut
    cases b with
    | true =>
      go_wp2_with fail
      go_ret
      exact .no rfl HB.out
    | false =>
      have HB1 := Lib.hid (show Below w.heap.size w (w.alloc (.cells #[vi kind, vi client, .slice a l.length cap] 88)) from HB.out)
      have q0 : (w.alloc (.cells #[vi kind, vi client, .slice a l.length cap] 88)).cell? ⟨w.heap.size, 0, none⟩ = some (vi kind) := by rw [cell_of (alloc_at _ _)]; rfl
      have hw1 : (w.alloc (.cells #[vi kind, vi client, .slice a l.length cap] 88)).heap.size = w.heap.size + 1 := by simp
      have Q0 := Lib.hid q0
      clear q0
      go_wp2_with fail
      generalize w.alloc (.cells #[vi kind, vi client, .slice a l.length cap] 88) = w1 at *
      go_loopw [46] (fun i wr => ∃ k : Nat, k ≤ l.length ∧ i = .int .i64 k ∧ (∀ j o, j < k → l[j]? = some o → GoodOp o) ∧ Below w1.heap.size w1 wr) (fun i _ => l.length - (intOf i).toNat)
      case atStart => exact ⟨0, Nat.zero_le _, rfl, fun j u hj => absurd hj (Nat.not_lt_zero _), Below.refl _ _⟩
      case round =>
        obtain ⟨wk, rfl⟩ : ∃ wk : World, wk = wr := ⟨_, rfl⟩
        obtain ⟨k, hk, rfl, hno, hb⟩ := hrel
        have HN := Lib.hid hno
        have HBk := Lib.hid hb
        have hwk := hb.size
        have hwk2 : w.heap.size < wk.heap.size := by omega
        have q1 := cell_later hb Q0.out
        clear hno hb
        by_cases hlt : k < l.length
        · obtain ⟨o, ho⟩ := some_at hlt
          obtain ⟨_, _, _, e5, -, -, hcl⟩ := HV.out.at
          cases e5
          obtain ⟨b, off, rfl, k0', k1', k2'⟩ := hcl k o ho
          have k0 := cell_later HBk.out k0'
          have k1 := cell_later HBk.out k1'
          have k2 := cell_later HBk.out k2'
          have HO := Lib.hid ho
          have hkI : (k : Int) < (l.length : Int) := by omega
          clear hcl ho k0' k1' k2'
          go_upto_region 8 with fail
          go_cut [77] (fun r wx => (∃ b', r = .bool b' ∧ (b' = false → GoodOp o)) ∧ wx = wk.alloc (.cells #[vi o.kind, vi o.key, vi o.val] 64))
          case first =>
            by_cases g1 : o.kind = 1
            · have HG := Lib.hid (show o.kind = 1 ∨ o.kind = 2 from .inl g1)
              have e1 := bne_f g1
              clear g1
              by_cases d1 : o.key < 0
              · go_wp2_with fail
                go_meet
                exact ⟨⟨_, rfl, fun h => by cases h⟩, rfl⟩
              by_cases d2 : o.key > 15
              · go_wp2_with fail
                go_meet
                exact ⟨⟨_, rfl, fun h => by cases h⟩, rfl⟩
              by_cases d3 : o.val < 0
              · go_wp2_with fail
                go_meet
                exact ⟨⟨_, rfl, fun h => by cases h⟩, rfl⟩
              by_cases d4 : o.val ≥ 1099511627776
              · go_wp2_with fail
                go_meet
                exact ⟨⟨_, rfl, fun h => by cases h⟩, rfl⟩
              go_wp2_with fail
              go_meet
              exact ⟨⟨_, rfl, fun _ => ⟨HG.out, by omega, by omega, by omega, by omega⟩⟩, rfl⟩
            by_cases g2 : o.kind = 2
            · have HG := Lib.hid (show o.kind = 1 ∨ o.kind = 2 from .inr g2)
              have e1 := bne_t g1
              have e2 := bne_f g2
              clear g1 g2
              by_cases d1 : o.key < 0
              · go_wp2_with fail
                go_meet
                exact ⟨⟨_, rfl, fun h => by cases h⟩, rfl⟩
              by_cases d2 : o.key > 15
              · go_wp2_with fail
                go_meet
                exact ⟨⟨_, rfl, fun h => by cases h⟩, rfl⟩
              by_cases d3 : o.val < 0
              · go_wp2_with fail
                go_meet
                exact ⟨⟨_, rfl, fun h => by cases h⟩, rfl⟩
              by_cases d4 : o.val ≥ 1099511627776
              · go_wp2_with fail
                go_meet
                exact ⟨⟨_, rfl, fun h => by cases h⟩, rfl⟩
              go_wp2_with fail
              go_meet
              exact ⟨⟨_, rfl, fun _ => ⟨HG.out, by omega, by omega, by omega, by omega⟩⟩, rfl⟩
            have e1 := bne_t g1
            have e2 := bne_t g2
            clear g1 g2
            go_wp2_with fail
            go_meet
            exact ⟨⟨_, rfl, fun h => by cases h⟩, rfl⟩
          case rest =>
            obtain ⟨⟨b', rfl, hgood⟩, rfl⟩ := hcut
            cases b' with
            | true =>
              go_wp2_with fail
              go_ret
              exact .no rfl (HB1.out.trans ((HBk.out.alloc hwk _).mono HB1.out.size))
            | false =>
              have HGood := Lib.hid (hgood rfl)
              clear hgood
              go_upto_region 10 with fail
              go_cut [100] (fun r wx => (∃ b', r = .bool b') ∧ wx = wk.alloc (.cells #[vi o.kind, vi o.key, vi o.val] 64))
              case first =>
                by_cases g1 : o.kind = 2
                · have e1 := beq_t g1
                  have e1' : (o.kind == 1) = false := by simp [g1]
                  clear g1
                  by_cases g2 : o.val = 0
                  · have e2 := beq_t g2
                    clear g2
                    go_wp2_with fail
                    go_meet
                    exact ⟨⟨_, rfl⟩, rfl⟩
                  · have e2 := beq_f g2
                    clear g2
                    go_wp2_with fail
                    go_meet
                    exact ⟨⟨_, rfl⟩, rfl⟩
                · have e1 := beq_f g1
                  clear g1
                  by_cases g2 : o.kind = 1
                  · have e2 := beq_t g2
                    clear g2
                    by_cases g3 : o.val = 0
                    · have e3 := bne_f g3
                      clear g3
                      go_wp2_with fail
                      go_meet
                      exact ⟨⟨_, rfl⟩, rfl⟩
                    · have e3 := bne_t g3
                      clear g3
                      by_cases g4 : kind = 1
                      · have e4 := beq_t g4
                        clear g4
                        go_wp2_with fail
                        go_meet
                        exact ⟨⟨_, rfl⟩, rfl⟩
                      · have e4 := beq_f g4
                        clear g4
                        go_wp2_with fail
                        go_meet
                        exact ⟨⟨_, rfl⟩, rfl⟩
                  · have e2 := beq_f g2
                    clear g2
                    go_wp2_with fail
                    go_meet
                    exact ⟨⟨_, rfl⟩, rfl⟩
              case rest =>
                obtain ⟨⟨b', rfl⟩, rfl⟩ := hcut
                cases b' with
                | true =>
                  go_wp2_with fail
                  go_ret
                  exact .no rfl (HB1.out.trans ((HBk.out.alloc hwk _).mono HB1.out.size))
                | false =>
                  go_wp2_with fail
                  go_roundw
                  case rel =>
                    refine ⟨k + 1, by omega, by go_num, ?_, HBk.out.alloc hwk _⟩
                    intro j o' hj ho'
                    rcases Nat.lt_or_ge j k with h | h
                    · exact HN.out j o' h ho'
                    · obtain rfl : j = k := by omega
                      rw [HO.out] at ho'; cases ho'; exact HGood.out
                  case measure => simp [intOf]; omega
        · obtain rfl : k = l.length := by omega
          go_wp2_with fail
          go_ret
          exact .yes rfl ⟨by omega, by omega, by omega, by omega, by show l.length ≤ 12; omega, fun o ho => by
            obtain ⟨j, hj, rfl⟩ := List.mem_iff_getElem.1 ho
            exact HN.out j _ hj (List.getElem?_eq_getElem hj)⟩ (HB1.out.trans (HBk.out.mono HB1.out.size))
end Go.Proofs.Ytafboehdihokhaa
