/- crucibleref05.answer: when it says 0, what was told has the shape of what was asked. -/
import Derived.Test.YtafboehdihokhaaLast
namespace Go.Proofs.Ytafboehdihokhaa
open Go.RowKit Go.Maps

/-- An operation told is of the same kind and key as the one asked, and a write writes the same. -/
def SameShape (o p : GOp) : Prop := o.kind = p.kind ∧ o.key = p.key ∧ (o.kind = 2 → o.val = p.val)
def ShapeN (l m : List GOp) (n : Nat) : Prop := ∀ (i : Nat) (o p : GOp), i < n → m[i]? = some o → l[i]? = some p → SameShape o p
theorem ShapeN.next {l m : List GOp} {n : Nat} {o p : GOp} (h : ShapeN l m n) (ho : m[n]? = some o) (hp : l[n]? = some p) (hs : SameShape o p) : ShapeN l m (n + 1) := by
  intro i o' p' hlt ho' hp'
  rcases Nat.lt_or_ge i n with h' | h'
  · exact h i o' p' h' ho' hp'
  · obtain rfl : i = n := by omega
    rw [ho] at ho'; cases ho'
    rw [hp] at hp'; cases hp'
    exact hs

/-- What crucibleref05.answer answers. -/
def AnswerQ (l m : List GOp) (w : World) (r : Ending) (w' : World) : Prop := ∃ n : Int, r = .returned (.int .i64 n) ∧ (n = 0 → l.length = m.length ∧ ShapeN l m m.length) ∧ Below w.heap.size w w'
theorem AnswerQ.bad {l m : List GOp} {w w' : World} {r : Ending} {n : Int} (h : r = .returned (.int .i64 n)) (hn : n ≠ 0) (hb : Below w.heap.size w w') : AnswerQ l m w r w' := ⟨n, h, fun h => absurd h hn, hb⟩
theorem AnswerQ.good {l m : List GOp} {w w' : World} {r : Ending} (h : r = .returned (.int .i64 0)) (hl : l.length = m.length) (hs : ShapeN l m m.length) (hb : Below w.heap.size w w') : AnswerQ l m w r w' := ⟨0, h, fun _ => ⟨hl, hs⟩, hb⟩

set_option maxRecDepth 100000 in
set_option maxHeartbeats 8000000 in
theorem answer_call (v u : Value) (l m : List GOp) (w : World) (hv : RdOps w v l) (hu : RdOps w u m) :
    Calls Try.prog 44 #[v, u] w (AnswerQ l m w) := by
  have HV := Lib.hid hv
  have HU := Lib.hid hu
  obtain ⟨a, len, cap, rfl, rfl, hm1, -⟩ := hv.at
  obtain ⟨a2, len2, cap2, rfl, rfl, hm2, -⟩ := hu.at
  clear hv hu
  go_enter Try.func44, Try.ntmps44
  by_cases hl : (l.length : Int) = (m.length : Int)
  · have HL := Lib.hid (show l.length = m.length by omega)
    have hlb : ((l.length : Int) != (m.length : Int)) = false := bne_f hl
    clear hl
    go_wp2_with fail
    go_loopw [5, 6, 14] (fun _ _ n wr => ∃ i : Nat, i ≤ m.length ∧ n = .int .i64 i ∧ ShapeN l m i ∧ Below w.heap.size w wr) (fun _ _ n _ => m.length - (intOf n).toNat)
    case atStart => exact ⟨0, Nat.zero_le _, rfl, fun i o p h => absurd h (Nat.not_lt_zero _), Below.refl _ _⟩
    case round =>
      obtain ⟨wi, rfl⟩ : ∃ wi : World, wi = wr := ⟨_, rfl⟩
      obtain ⟨i, hi, rfl, hf, hb⟩ := hrel
      have HF := Lib.hid hf
      have HB := Lib.hid hb
      have hwi := hb.size
      clear hf hb
      by_cases hlt : i < m.length
      · have hiM : (i : Int) < (m.length : Int) := by omega
        have hiL : (i : Int) < (l.length : Int) := by have := HL.out; omega
        obtain ⟨o, ho⟩ := some_at hlt
        obtain ⟨p, hp⟩ := some_at (l := l) (k := i) (by omega)
        obtain ⟨_, _, _, e5, -, -, hcl⟩ := HU.out.at
        cases e5
        obtain ⟨b, off, rfl, k0', k1', k2'⟩ := hcl i o ho
        have k0 := cell_later HB.out k0'
        have k1 := cell_later HB.out k1'
        have k2 := cell_later HB.out k2'
        obtain ⟨_, _, _, e5, -, -, hcl2⟩ := HV.out.at
        cases e5
        obtain ⟨b2, off2, rfl, m0', m1', m2'⟩ := hcl2 i p hp
        have m0 := cell_later HB.out m0'
        have m1 := cell_later HB.out m1'
        have m2 := cell_later HB.out m2'
        have HO := Lib.hid ho
        have HP := Lib.hid hp
        have HC := Lib.hid hcl
        have hi0 : (0 : Int) ≤ (i : Int) := by omega
        have HK1 := Lib.hid k1'
        have HK2 := Lib.hid k2'
        clear hcl hcl2 ho hp k0' k1' k2' m0' m1' m2'
        by_cases d1 : o.kind = p.kind
        · have e1 := bne_f d1
          have D1 := Lib.hid d1
          clear d1
          by_cases d2 : o.key = p.key
          · have e2 := bne_f d2
            have D2 := Lib.hid d2
            clear d2
            by_cases d3 : o.kind = 2
            · have e3 := beq_t d3
              clear d3
              by_cases d4 : o.val = p.val
              · have e4 := bne_f d4
                have D4 := Lib.hid d4
                clear d4
                go_wp2
                go_quiet (fail)
                go_wp2
                go_roundw
                case rel => exact ⟨i + 1, by omega, by go_num, HF.out.next HO.out HP.out ⟨D1.out, D2.out, fun _ => D4.out⟩, below_drewN HB.out _⟩
                case measure => simp [intOf]; omega
              · have e4 := bne_t d4
                clear d4
                go_wp2
                go_quiet (fail)
                go_wp2
                go_ret
                exact .bad rfl (by omega) (below_drewN HB.out _)
            · have e3 := beq_f d3
              have D3 := Lib.hid d3
              clear d3
              go_wp2
              go_quiet (fail)
              go_wp2
              have HBq := Lib.hid (below_drewN HB.out nq)
              clear k0 k1 k2 m0 m1 m2
              generalize wi.drewN nq = wq at *
              go_loopw [6] (fun n wr => ∃ z : Int, n = .int .i64 z ∧ -1 ≤ z ∧ z < i ∧ Below w.heap.size w wr) (fun n _ => (intOf n + 1).toNat)
              case atStart => exact ⟨_, rfl, by omega, by omega, HBq.out⟩
              case round =>
                obtain ⟨wk, rfl⟩ : ∃ wk : World, wk = wr := ⟨_, rfl⟩
                obtain ⟨z, rfl, hz1, hz2, hbk⟩ := hrel
                have HBk := Lib.hid hbk
                clear hbk
                by_cases hlz : 0 ≤ z
                · obtain ⟨k, rfl⟩ := Int.eq_ofNat_of_zero_le hlz
                  have hkM : (k : Int) < (m.length : Int) := by omega
                  obtain ⟨q, hq⟩ := some_at (l := m) (k := k) (by omega)
                  obtain ⟨_, _, e6, x0', x1', x2'⟩ := HC.out k q hq
                  simp only [Option.some.injEq, Addr.mk.injEq, and_true] at e6
                  obtain ⟨rfl, rfl⟩ := e6
                  have x0 := cell_later HBk.out x0'
                  have x1 := cell_later HBk.out x1'
                  have x2 := cell_later HBk.out x2'
                  have y1 := cell_later HBk.out HK1.out
                  have y2 := cell_later HBk.out HK2.out
                  clear hq x0' x1' x2'
                  by_cases g1 : q.kind = 2
                  · have f1 := beq_t g1
                    clear g1
                    by_cases g2 : q.key = o.key
                    · have f2 := beq_t g2
                      clear g2
                      by_cases g3 : q.val = o.val
                      · have f3 := bne_f g3
                        clear g3
                        go_wp2
                        go_quiet (fail)
                        go_wp2
                        go_quiet (fail)
                        go_wp2
                        go_roundw
                        case rel => exact ⟨i + 1, by omega, by go_num, HF.out.next HO.out HP.out ⟨D1.out, D2.out, fun h => absurd h D3.out⟩, below_drewN HBk.out _⟩
                        case measure => simp [intOf]; omega
                      · have f3 := bne_t g3
                        clear g3
                        go_wp2
                        go_quiet (fail)
                        go_wp2
                        go_quiet (fail)
                        go_wp2
                        go_ret
                        exact .bad rfl (by omega) (below_drewN (below_drewN HBk.out _) _)
                    · have f2 := beq_f g2
                      clear g2
                      go_wp2
                      go_quiet (fail)
                      go_wp2
                      go_roundw
                      case rel => exact ⟨_, rfl, by omega, by omega, below_drewN HBk.out _⟩
                      case measure => simp [intOf] <;> omega
                  · have f1 := beq_f g1
                    clear g1
                    go_wp2
                    go_quiet (fail)
                    go_wp2
                    go_roundw
                    case rel => exact ⟨_, rfl, by omega, by omega, below_drewN HBk.out _⟩
                    case measure => simp [intOf] <;> omega
                · obtain rfl : z = -1 := by omega
                  go_wp2_with fail
                  go_roundw
                  case rel => exact ⟨i + 1, by omega, by go_num, HF.out.next HO.out HP.out ⟨D1.out, D2.out, fun h => absurd h D3.out⟩, HBk.out⟩
                  case measure => simp [intOf]; omega
          · have e2 := bne_t d2
            clear d2
            go_wp2
            go_quiet (fail)
            go_wp2
            go_ret
            exact .bad rfl (by omega) (below_drewN HB.out _)
        · have e1 := bne_t d1
          clear d1
          go_wp2
          go_quiet (fail)
          go_wp2
          go_ret
          exact .bad rfl (by omega) (below_drewN HB.out _)
      · obtain rfl : i = m.length := by omega
        go_wp2_with fail
        go_ret
        exact .good rfl HL.out HF.out HB.out
  · have hlb : ((l.length : Int) != (m.length : Int)) = true := bne_t hl
    clear hl
    go_wp2_with fail
    go_ret
    exact .bad rfl (by omega) (Below.refl _ _)
end Go.Proofs.Ytafboehdihokhaa
