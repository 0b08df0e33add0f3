/- crucibleref09.Get. -/
import Derived.Test.YtafboehdihokhaaFact
namespace Go.Proofs.Ytafboehdihokhaa
open Go.RowKit Go.Maps

theorem GChoice.ext' {x y : GChoice} (h0 : x.kind = y.kind) (h1 : x.key = y.key) (h2 : x.a = y.a) (h3 : x.b = y.b) : x = y := by
  cases x; cases y; simp at h0 h1 h2 h3; subst h0; subst h1; subst h2; subst h3; rfl
theorem getM_first {G : FaL} {c : GChoice} {k : Nat} {p : GChoice × Bool} (hp : G[k]? = some p) (hc : p.1 = c) (hno : ∀ (j : Nat) (q : GChoice × Bool), j < k → G[j]? = some q → q.1 ≠ c) : getM G c = some p.2 := by
  induction G generalizing k with
  | nil => simp at hp
  | cons q G ih =>
    rw [getM_cons]
    cases k with
    | zero => simp at hp; subst hp; rw [if_pos hc]
    | succ k =>
      rw [if_neg (hno 0 q (by omega) rfl)]
      exact ih (by simpa using hp) fun j q' hj hq => hno (j + 1) q' (by omega) (by simpa using hq)
theorem getM_no {G : FaL} {c : GChoice} (hno : ∀ (j : Nat) (q : GChoice × Bool), j < G.length → G[j]? = some q → q.1 ≠ c) : getM G c = none := by
  rw [getM_none]
  intro p hp
  obtain ⟨j, hj⟩ := List.mem_iff_getElem?.1 hp
  exact hno j p (List.getElem?_eq_some_iff.1 hj).1 hj

set_option maxRecDepth 100000 in
set_option maxHeartbeats 4000000 in
theorem get_call (v : Value) (G : FaL) (c : GChoice) (w : World) (hv : RdSaid w v G) :
    Calls Try.prog 33 #[v, chK c] w fun e w' => e = .returned (vi (getI G c)) ∧ Below w.heap.size w w' := by
  have HV := Lib.hid hv
  obtain ⟨a, len, cap, rfl, rfl, hm, -⟩ := hv.at
  clear hv
  have HB1 := Lib.hid ((Below.refl w.heap.size w).alloc (Nat.le_refl _) (.cells #[vi c.kind, vi c.key, vi c.a, vi c.b] 33))
  have q0 : (w.alloc (.cells #[vi c.kind, vi c.key, vi c.a, vi c.b] 33)).cell? ⟨w.heap.size, 0, none⟩ = some (vi c.kind) := by rw [cell_of (alloc_at _ _)]; rfl
  have q1 : (w.alloc (.cells #[vi c.kind, vi c.key, vi c.a, vi c.b] 33)).cell? ⟨w.heap.size, 1, none⟩ = some (vi c.key) := by rw [cell_of (alloc_at _ _)]; rfl
  have q2 : (w.alloc (.cells #[vi c.kind, vi c.key, vi c.a, vi c.b] 33)).cell? ⟨w.heap.size, 2, none⟩ = some (vi c.a) := by rw [cell_of (alloc_at _ _)]; rfl
  have q3 : (w.alloc (.cells #[vi c.kind, vi c.key, vi c.a, vi c.b] 33)).cell? ⟨w.heap.size, 3, none⟩ = some (vi c.b) := by rw [cell_of (alloc_at _ _)]; rfl
  have hw1 : (w.alloc (.cells #[vi c.kind, vi c.key, vi c.a, vi c.b] 33)).heap.size = w.heap.size + 1 := by simp
  have Q0 := Lib.hid q0
  have Q1 := Lib.hid q1
  have Q2 := Lib.hid q2
  have Q3 := Lib.hid q3
  clear q0 q1 q2 q3
  go_enter Try.func33, Try.ntmps33
  go_wp2_with fail
  generalize w.alloc (.cells #[vi c.kind, vi c.key, vi c.a, vi c.b] 33) = w1 at *
  go_loopw [6, 9] (fun _ n wr => ∃ k : Nat, k ≤ G.length ∧ n = .int .i64 k ∧ Hid (∀ (j : Nat) (q : GChoice × Bool), j < k → G[j]? = some q → q.1 ≠ c) ∧ Below w1.heap.size w1 wr) (fun _ n _ => G.length - (intOf n).toNat)
  case atStart => exact ⟨0, Nat.zero_le _, rfl, Lib.hid (fun j q h => absurd h (Nat.not_lt_zero _)), Below.refl _ _⟩
  case round =>
    obtain ⟨wk, rfl⟩ : ∃ wk : World, wk = wr := ⟨_, rfl⟩
    obtain ⟨k, hk, rfl, HN, hb⟩ := hrel
    have HBk := Lib.hid hb
    have hwk := hb.size
    have hwq : w.heap.size < wk.heap.size := by omega
    have q0 := cell_later hb Q0.out
    have q1 := cell_later hb Q1.out
    have q2 := cell_later hb Q2.out
    have q3 := cell_later hb Q3.out
    have HBW := Lib.hid (HB1.out.trans (hb.mono HB1.out.size))
    clear hb
    by_cases hlt : k < G.length
    · obtain ⟨p, hp⟩ := some_at hlt
      obtain ⟨_, _, _, e5, -, -, hcl⟩ := HV.out.at
      cases e5
      obtain ⟨b, off, rfl, k0', k1', k2', k3', k4'⟩ := hcl k p hp
      have k0 := cell_later HBW.out k0'
      have k1 := cell_later HBW.out k1'
      have k2 := cell_later HBW.out k2'
      have k3 := cell_later HBW.out k3'
      have k4 := cell_later HBW.out k4'
      have hkI : (k : Int) < (G.length : Int) := by omega
      have HP := Lib.hid hp
      clear hcl hp k0' k1' k2' k3' k4'
      go_upto_region 4 with fail
      go_cut [16] (fun r wx => r = .bool (decide (p.1 = c)) ∧ wx = wk.alloc (.cells #[vi p.1.kind, vi p.1.key, vi p.1.a, vi p.1.b, .bool p.2] 76))
      case first =>
        by_cases hpc : p.1 = c
        · have hd : decide (p.1 = c) = true := by simp [hpc]
          have f0 : (p.1.kind == c.kind) = true := by simp [hpc]
          have f1 : (p.1.key == c.key) = true := by simp [hpc]
          have f2 : (p.1.a == c.a) = true := by simp [hpc]
          have f3 : (p.1.b == c.b) = true := by simp [hpc]
          clear hpc
          go_wp2_with fail
          go_meet
          exact ⟨by rw [hd], rfl⟩
        · have hd : decide (p.1 = c) = false := by simp [hpc]
          by_cases g0 : p.1.kind = c.kind
          case neg =>
            have f0 : (p.1.kind == c.kind) = false := by simp [g0]
            clear hpc g0
            go_wp2_with fail
            go_meet
            exact ⟨by rw [hd], rfl⟩
          have f0 : (p.1.kind == c.kind) = true := by simp [g0]
          have G0 := Lib.hid g0
          clear g0
          by_cases g1 : p.1.key = c.key
          case neg =>
            have f1 : (p.1.key == c.key) = false := by simp [g1]
            clear hpc g1
            go_wp2_with fail
            go_meet
            exact ⟨by rw [hd], rfl⟩
          have f1 : (p.1.key == c.key) = true := by simp [g1]
          have G1 := Lib.hid g1
          clear g1
          by_cases g2 : p.1.a = c.a
          case neg =>
            have f2 : (p.1.a == c.a) = false := by simp [g2]
            clear hpc g2
            go_wp2_with fail
            go_meet
            exact ⟨by rw [hd], rfl⟩
          have f2 : (p.1.a == c.a) = true := by simp [g2]
          have G2 := Lib.hid g2
          clear g2
          by_cases g3 : p.1.b = c.b
          case neg =>
            have f3 : (p.1.b == c.b) = false := by simp [g3]
            clear hpc g3
            go_wp2_with fail
            go_meet
            exact ⟨by rw [hd], rfl⟩
          have f3 : (p.1.b == c.b) = true := by simp [g3]
          have G3 := Lib.hid g3
          clear g3
          exact absurd (GChoice.ext' G0.out G1.out G2.out G3.out) hpc
      case rest =>
        obtain ⟨rfl, rfl⟩ := hcut
        by_cases hpc : p.1 = c
        · have hd : decide (p.1 = c) = true := by simp [hpc]
          have he := Lib.hid (getM_first HP.out hpc HN.out)
          rw [hd]
          clear hpc
          cases hs : p.2 with
          | true =>
            rw [hs] at he
            have hg : getI G c = 1 := by unfold getI; rw [he.out]
            go_wp2_with fail
            go_ret
            exact ⟨by rw [hg]; rfl, HBW.out.trans ((Below.refl wk.heap.size wk).alloc (Nat.le_refl _) _ |>.mono HBW.out.size)⟩
          | false =>
            rw [hs] at he
            have hg : getI G c = 0 := by unfold getI; rw [he.out]
            go_wp2_with fail
            go_ret
            exact ⟨by rw [hg]; rfl, HBW.out.trans ((Below.refl wk.heap.size wk).alloc (Nat.le_refl _) _ |>.mono HBW.out.size)⟩
        · have hd : decide (p.1 = c) = false := by simp [hpc]
          rw [hd]
          have HPC := Lib.hid hpc
          clear hpc
          go_wp2_with fail
          go_roundw
          case rel =>
            refine ⟨k + 1, by omega, by go_num, Lib.hid ?_, HBk.out.alloc hwk _⟩
            intro j q hj hq
            rcases Nat.lt_or_ge j k with h | h
            · exact HN.out j q h hq
            · obtain rfl : j = k := by omega
              rw [HP.out] at hq; cases hq; exact HPC.out
          case measure => simp [intOf]; omega
    · obtain rfl : k = G.length := by omega
      have he : getI G c = -1 := by unfold getI; rw [getM_no HN.out]
      go_wp2_with fail
      go_ret
      exact ⟨by rw [he]; rfl, HBW.out⟩
end Go.Proofs.Ytafboehdihokhaa
