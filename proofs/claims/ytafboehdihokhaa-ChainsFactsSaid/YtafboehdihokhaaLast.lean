/- crucibleref05.last: a place ahead, or -1. -/
import Derived.Test.YtafboehdihokhaaRight
namespace Go.Proofs.Ytafboehdihokhaa
open Go.RowKit Go.Maps

/-- What a walk wants of an event in a readable slice. -/
theorem RdEvents.at {w : World} {v : Value} {l : List GEvent} (h : RdEvents w v l) : ∃ a len cap, v = .slice a len cap ∧ len = l.length ∧ l.length ≤ 9223372036854775807 ∧
    ∀ j x, l[j]? = some x → ∃ b off oa oc, a = some ⟨b, off, none⟩ ∧ RdOps w (.slice oa x.ops.length oc) x.ops ∧ w.cell? ⟨b, off + j * 3, none⟩ = some (vi x.kind) ∧ w.cell? ⟨b, off + j * 3 + 1, none⟩ = some (vi x.client) ∧ w.cell? ⟨b, off + j * 3 + 2, none⟩ = some (.slice oa x.ops.length oc) := by
  obtain ⟨a, len, cap, h1, h2, h3, h6⟩ := RdS.at3 h
  refine ⟨a, len, cap, h1, h2, h3, fun j x hj => ?_⟩
  obtain ⟨b, off, c0, c1, c2, ha, ⟨ov, he, hr⟩, k0, k1, k2⟩ := h6 j x hj
  obtain ⟨oa, ol, oc, rfl, rfl, _⟩ := hr.at
  simp only [List.cons.injEq, and_true] at he
  obtain ⟨rfl, rfl, rfl⟩ := he
  exact ⟨b, off, oa, oc, ha, hr, k0, k1, k2⟩

set_option maxRecDepth 100000 in
set_option maxHeartbeats 4000000 in
theorem last_call (v : Value) (es : List GEvent) (at' : Nat) (w : World) (hv : RdEvents w v es) (hat : at' < es.length) :
    Calls Try.prog 42 #[v, .int .i64 at'] w fun r w' => ∃ p : Int, r = .returned (.int .i64 p) ∧ -1 ≤ p ∧ p < at' ∧ Below w.heap.size w w' := by
  have HV := Lib.hid hv
  obtain ⟨a, len, cap, rfl, rfl, hm, -⟩ := hv.at
  clear hv
  go_enter Try.func42, Try.ntmps42
  go_wp2_with fail
  go_loopw [5] (fun i wr => ∃ p : Int, i = .int .i64 p ∧ -1 ≤ p ∧ p < at' ∧ Below w.heap.size w wr) (fun i _ => (intOf i + 1).toNat)
  case atStart => exact ⟨_, rfl, by omega, by omega, Below.refl _ _⟩
  case round =>
    obtain ⟨wk, rfl⟩ : ∃ wk : World, wk = wr := ⟨_, rfl⟩
    obtain ⟨p, rfl, hp1, hp2, hb⟩ := hrel
    have HB := Lib.hid hb
    clear hb
    by_cases hlt : 0 ≤ p
    · obtain ⟨k, rfl⟩ := Int.eq_ofNat_of_zero_le hlt
      have hk1 : k < es.length := by omega
      have hkI : (k : Int) < (es.length : Int) := by omega
      have haI : (at' : Int) < (es.length : Int) := by omega
      obtain ⟨e1, he1⟩ := some_at hk1
      obtain ⟨e2, he2⟩ := some_at hat
      obtain ⟨_, _, _, e5, -, -, hcl⟩ := HV.out.at
      cases e5
      obtain ⟨b, off, oa, oc, rfl, -, -, k1', -⟩ := hcl k e1 he1
      obtain ⟨_, _, ob, oc2, e6, -, -, m1', -⟩ := hcl at' e2 he2
      cases e6
      have k1 := cell_later HB.out k1'
      have m1 := cell_later HB.out m1'
      clear hcl he1 he2 k1' m1'
      cases hc : e1.client == e2.client with
      | true =>
        go_wp2
        go_quiet (fail)
        go_wp2
        go_ret
        exact ⟨_, rfl, by omega, by omega, below_drewN HB.out _⟩
      | false =>
        go_wp2
        go_quiet (fail)
        go_wp2
        go_roundw
        case rel => exact ⟨_, rfl, by omega, by omega, below_drewN HB.out _⟩
        case measure => simp [intOf] <;> omega
    · obtain rfl : p = -1 := by omega
      go_wp2_with fail
      go_ret
      exact ⟨_, rfl, by omega, by omega, HB.out⟩
end Go.Proofs.Ytafboehdihokhaa
