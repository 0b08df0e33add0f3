import Derived.Test.YtkobpjndkgjcjaaShrinkH
import Derived.Test.YtkobpjndkgjcjaaArgs
namespace Go.Proofs.Ytkobpjndkgjcjaa
open Go.RowKit

theorem RdS.ints {w : World} {v : Value} {xs : List Int} (h : RdS 1 EInt w v xs) : RdI w v xs := by
  obtain ⟨a, len, cap, h1, h2, h3, h4, h5, h6⟩ := h
  refine ⟨a, len, cap, h1, h2, h3, h4, h5, fun j x hj => ?_⟩
  obtain ⟨b, off, cs, ha, hl, hc, rfl, _⟩ := h6 j x hj
  exact ⟨b, off, ha, by have := hc 0 _ rfl; simpa using this⟩

/-- How many of x's numbers are met, greedily, in the list. -/
def kG (x : List Int) : List Int → Nat → Nat
  | [], k => k
  | y :: l, k => kG x l (if x[k]? = some y then k + 1 else k)

theorem kG_le (x l : List Int) (k : Nat) (h : k ≤ x.length) : kG x l k ≤ x.length := by
  induction l generalizing k with
  | nil => exact h
  | cons y l ih =>
    unfold kG
    split
    · rename_i he; exact ih _ (by have := (List.getElem?_eq_some_iff.1 he).1; omega)
    · exact ih _ h

theorem kG_sub (x l : List Int) (k : Nat) (hk : k ≤ x.length) (h : (x.drop k).Sublist l) : kG x l k = x.length := by
  induction l generalizing k with
  | nil =>
    have := congrArg List.length (List.sublist_nil.1 h)
    simp at this; unfold kG; omega
  | cons y l ih =>
    unfold kG
    split
    · rename_i he
      refine ih _ (by have := (List.getElem?_eq_some_iff.1 he).1; omega) ?_
      exact sub_hit (l := y :: l) (i := 0) (by simpa using h) he rfl
    · rename_i he
      refine ih _ hk ?_
      exact sub_miss (l := y :: l) (i := 0) (by simpa using h) he rfl

theorem kG_drop {x l : List Int} {i : Nat} {y : Int} (h : l[i]? = some y) (k : Nat) : kG x (l.drop i) k = kG x (l.drop (i + 1)) (if x[k]? = some y then k + 1 else k) := by
  rw [List.drop_eq_getElem_cons (List.getElem?_eq_some_iff.1 h).1, (List.getElem?_eq_some_iff.1 h).2]
  rfl

/-- What ShrinkAsks' closure does: the count of its calls, whether something was wrong; its answer. -/
def stepA (list : List Int) (ans : List Bool) (s : Int × Bool) (x : List Int) : Bool × (Int × Bool) :=
  (ans.getD s.1.toNat false, (s.1 + 1, s.2 || kG x list 0 != x.length || (s.1 == 0 && x.length != list.length)))

/-- The state of that closure in memory; all else as it was in w0. -/
structure InvA (w0 : World) (bW bA : Nat) (st : Int × (Int × Bool)) (w : World) : Prop where
  same : st.2.1 = st.1
  n : 0 ≤ st.1 ∧ st.1 ≤ 500
  asked : w.cell? ⟨bA, 0, none⟩ = some (.int .i64 st.2.1)
  wrong : w.cell? ⟨bW, 0, none⟩ = some (.bool st.2.2)
  freeA : w.frozen? ⟨bA, 0, none⟩ = false
  freeW : w.frozen? ⟨bW, 0, none⟩ = false
  os : w.os = w0.os
  tape : w.tape = w0.tape
  output : w.output = w0.output
  size : w0.heap.size ≤ w.heap.size
  block : ∀ k, k < w0.heap.size → k ≠ bW → k ≠ bA → w.heap[k]? = w0.heap[k]?

theorem RdI.at {w : World} {v : Value} {xs : List Int} (h : RdI w v xs) : ∃ a len cap, v = .slice a len cap ∧ len = xs.length ∧ xs.length ≤ 9223372036854775807 ∧ ∀ j x, xs[j]? = some x → ∃ b off, a = some ⟨b, off, none⟩ ∧ w.cell? ⟨b, off + j, none⟩ = some (.int .i64 x) := by
  obtain ⟨a, len, cap, h1, h2, h3, _, _, h6⟩ := h
  exact ⟨a, len, cap, h1, h2, h3, h6⟩

set_option maxRecDepth 100000 in
set_option maxHeartbeats 1000000 in
theorem asks1_call (w : World) (v u q : Value) (xs list : List Int) (ans : List Bool) (n : Int) (wr : Bool) (b0 b1 bW bA : Nat) (hv : RdI w v xs) (hu : RdI w u list) (hq : RdB w q ans)
    (h0 : w.cell? ⟨b0, 0, none⟩ = some u) (h1 : w.cell? ⟨b1, 0, none⟩ = some q) (hA : w.cell? ⟨bA, 0, none⟩ = some (.int .i64 n)) (hW : w.cell? ⟨bW, 0, none⟩ = some (.bool wr))
    (fA : w.frozen? ⟨bA, 0, none⟩ = false) (fW : w.frozen? ⟨bW, 0, none⟩ = false) (hn : 0 ≤ n ∧ n ≤ 500) (d3 : b1 ≠ bW) (d4 : b1 ≠ bA) (d5 : bW ≠ bA)  (hq2 : ∀ c m, RdB ((w.setCell ⟨bW, 0, none⟩ (.bool c)).setCell ⟨bA, 0, none⟩ (.int .i64 m)) q ans) :
    Calls Try.prog 12 #[v, .pointer (some ⟨b0, 0, none⟩), .pointer (some ⟨bW, 0, none⟩), .pointer (some ⟨bA, 0, none⟩), .pointer (some ⟨b1, 0, none⟩)] w fun e w' =>
      e = .returned (.bool (stepA list ans (n, wr) xs).1) ∧ w' = (w.setCell ⟨bW, 0, none⟩ (.bool (stepA list ans (n, wr) xs).2.2)).setCell ⟨bA, 0, none⟩ (.int .i64 (n + 1)) := by
  obtain ⟨K, hK⟩ : ∃ K, kG xs list 0 = K := ⟨_, rfl⟩
  obtain ⟨wr2, hwr2⟩ : ∃ b, (stepA list ans (n, wr) xs).2.2 = b := ⟨_, rfl⟩
  obtain ⟨r, hr⟩ : ∃ b, (stepA list ans (n, wr) xs).1 = b := ⟨_, rfl⟩
  rw [hwr2, hr]
  have HW2 := Lib.hid (show (wr || K != xs.length || (n == 0 && xs.length != list.length)) = wr2 by rw [← hwr2, ← hK]; rfl)
  have HR := Lib.hid (show ans.getD n.toNat false = r from hr)
  have g1 : (w.setCell ⟨bW, 0, none⟩ (.bool wr2)).cell? ⟨bA, 0, none⟩ = some (.int .i64 n) := (World.cell?_setCell_other _ _ _ _ (by simp)).trans hA
  have g2 : (w.setCell ⟨bW, 0, none⟩ (.bool wr2)).frozen? ⟨bA, 0, none⟩ = false := (World.frozen?_setCell _ _ _ _).trans fA
  have g3 : ((w.setCell ⟨bW, 0, none⟩ (.bool wr2)).setCell ⟨bA, 0, none⟩ (.int .i64 (n + 1))).cell? ⟨bA, 0, none⟩ = some (.int .i64 (n + 1)) := World.cell?_setCell_same _ _ _ g1
  have g4 : ((w.setCell ⟨bW, 0, none⟩ (.bool wr2)).setCell ⟨bA, 0, none⟩ (.int .i64 (n + 1))).cell? ⟨b1, 0, none⟩ = some q := (World.cell?_setCell_other _ _ _ _ (by simp)).trans ((World.cell?_setCell_other _ _ _ _ (by simp)).trans h1)
  have hq3 := (hq2 wr2 (n + 1)).at
  obtain ⟨al, ll, cl, rfl, rfl, hml, hcl⟩ := hu.at
  obtain ⟨av, lv, cv, rfl, rfl, hmv, hcv⟩ := hv.at
  obtain ⟨aq, lq, cq, rfl, rfl, hmq, hcq⟩ := hq3
  have HCL := Lib.hid hcl
  have HCV := Lib.hid hcv
  have HCQ := Lib.hid hcq
  have HK := Lib.hid hK
  clear hcl hcv hcq hv hu hq hq2 hr hwr2 hK
  go_enter Try.func12, Try.ntmps12
  go_wp2_with fail
  go_loop [7, 9, 12] (fun q _ i => ∃ (k j : Nat), q = .int .i64 k ∧ i = .int .i64 j ∧ k ≤ xs.length ∧ j ≤ list.length ∧ kG xs (list.drop j) k = K) (fun _ _ i => list.length - (intOf i).toNat)
  case atStart => exact ⟨0, 0, rfl, rfl, Nat.zero_le _, Nat.zero_le _, by simpa using HK.out⟩
  case round =>
    obtain ⟨k, j, rfl, rfl, hk, hj, hs⟩ := hrel
    have HS := Lib.hid hs
    clear hs
    by_cases hlt : j < list.length
    · obtain ⟨x, hx⟩ := some_at hlt
      obtain ⟨bx, ox, rfl, hcx'⟩ := HCL.out j x hx
      have HXX := Lib.hid (kG_drop (x := xs) hx k)
      clear hx
      by_cases hkl : k < xs.length
      · obtain ⟨y, hy⟩ := some_at hkl
        obtain ⟨bg, og, rfl, hcg'⟩ := HCV.out k y hy
        have HYY := Lib.hid hy
        have hkl' : (k : Int) < (xs.length : Int) := by omega
        clear hy
        by_cases hyx : y = x
        · subst hyx
          go_wp2
          go_round
          case rel => exact ⟨k + 1, j + 1, by go_num, by go_num, by omega, by omega, by rw [← HS.out, HXX.out, if_pos HYY.out]⟩
          case measure => simp [intOf]; omega
        · have hyx' : (y == x) = false := by simpa using hyx
          have HNE := Lib.hid (show ¬ xs[k]? = some x by rw [HYY.out]; simpa using hyx)
          clear hyx
          go_wp2
          go_round
          case rel => exact ⟨k, j + 1, rfl, by go_num, by omega, by omega, by rw [← HS.out, HXX.out, if_neg HNE.out]⟩
          case measure => simp [intOf]; omega
      · have HNE := Lib.hid (show ¬ xs[k]? = some x by rw [List.getElem?_eq_none (by omega)]; simp)
        have hkl' : ¬ (k : Int) < (xs.length : Int) := by omega
        go_wp2
        go_round
        case rel => exact ⟨k, j + 1, rfl, by go_num, by omega, by omega, by rw [← HS.out, HXX.out, if_neg HNE.out]⟩
        case measure => simp [intOf]; omega
    · obtain rfl : k = K := by have := HS.out; rw [List.drop_eq_nil_of_le (by omega)] at this; exact this
      clear HS HK
      go_upto_region 8 with fail
      go_cut [7] (fun q wx => wx = w.setCell ⟨bW, 0, none⟩ (.bool wr2))
      case first =>
        cases wr
        · by_cases e1 : k = xs.length
          · have e1' : (k != xs.length) = false := by simp [e1]
            have e1i : ((k : Int) != (xs.length : Int)) = false := by simp [e1]
            by_cases e2 : n = 0
            · subst e2
              by_cases e3 : xs.length = list.length
              · have e3' : (xs.length != list.length) = false := by simp [e3]
                have e3i : ((xs.length : Int) != (list.length : Int)) = false := by simp [e3]
                have HF : wr2 = false := by rw [← HW2.out]; simp [e1', e3']
                subst HF
                clear e1 e3 hlt
                go_wp2
                go_meet
                rfl
              · have e3' : (xs.length != list.length) = true := by simp [e3]
                have e3i : ((xs.length : Int) != (list.length : Int)) = true := by simp; omega
                have HF : wr2 = true := by rw [← HW2.out]; simp [e1', e3']
                subst HF
                clear e1 e3 hlt
                go_wp2
                go_meet
                rfl
            · have e2' : (n == 0) = false := by simp [e2]
              have HF : wr2 = false := by rw [← HW2.out]; simp [e1', e2']
              subst HF
              clear e1 e2 hlt
              go_wp2
              go_meet
              rfl
          · have e1' : (k != xs.length) = true := by simp [e1]
            have e1i : ((k : Int) != (xs.length : Int)) = true := by simp; omega
            have HF : wr2 = true := by rw [← HW2.out]; simp [e1']
            subst HF
            clear e1 hlt
            go_wp2
            go_meet
            rfl
        · have HF : wr2 = true := by rw [← HW2.out]; simp
          subst HF
          go_wp2
          go_meet
          rfl
      case rest =>
        obtain rfl := hcut
        by_cases hlt2 : n.toNat < ans.length
        · obtain ⟨y, hy⟩ := some_at hlt2
          obtain ⟨bg, og, rfl, hcg'⟩ := HCQ.out n.toNat y hy
          have HF : y = r := by rw [← HR.out, List.getD_eq_getElem?_getD, hy]; rfl
          subst HF
          clear hy
          go_wp2
          go_ret
          exact ⟨rfl, rfl⟩
        · have HF : r = false := by rw [← HR.out, List.getD_eq_getElem?_getD, List.getElem?_eq_none (by omega)]; rfl
          subst HF
          go_wp2
          go_ret
          exact ⟨rfl, rfl⟩

theorem InvA.below {w0 w w' : World} {bW bA : Nat} {st : Int × (Int × Bool)} (h : InvA w0 bW bA st w) (hb : Below w0.heap.size w w') (hA : bA < w0.heap.size) (hW : bW < w0.heap.size) : InvA w0 bW bA st w' :=
  ⟨h.same, h.n, (hb.cell (p := ⟨bA, 0, none⟩) hA).trans h.asked, (hb.cell (p := ⟨bW, 0, none⟩) hW).trans h.wrong, (hb.frozen (p := ⟨bA, 0, none⟩) hA).trans h.freeA, (hb.frozen (p := ⟨bW, 0, none⟩) hW).trans h.freeW,
    hb.os.trans h.os, hb.tape.trans h.tape, hb.output.trans h.output, Nat.le_trans h.size hb.size, fun k hk h1 h2 => (hb.block k hk).trans (h.block k hk h1 h2)⟩

/-- What was there when w1 was, ahead of the two variables, is there still. -/
theorem InvA.old {w1 w0 w : World} {bW bA : Nat} {st : Int × (Int × Bool)} (h : InvA w0 bW bA st w) (h10 : Below w1.heap.size w1 w0) (hA : w1.heap.size ≤ bA) (hW : w1.heap.size ≤ bW) : Below w1.heap.size w1 w :=
  ⟨h.os.trans h10.os, h.tape.trans h10.tape, h.output.trans h10.output, Nat.le_trans h10.size h.size, fun k hk => (h.block k (Nat.lt_of_lt_of_le hk h10.size) (by omega) (by omega)).trans (h10.block k hk)⟩

theorem asks1_bad (budget : Int) (hbu : budget ≤ 500) (w1 w0 : World) (h10 : Below w1.heap.size w1 w0) (u q : Value) (list : List Int) (ans : List Bool) (b0 b1 bW bA : Nat) (hu : RdI w1 u list) (hq : RdB w1 q ans)
    (h0 : w1.cell? ⟨b0, 0, none⟩ = some u) (h1 : w1.cell? ⟨b1, 0, none⟩ = some q) (hA : w1.heap.size ≤ bA) (hW : w1.heap.size ≤ bW) (hA' : bA < w0.heap.size) (hW' : bW < w0.heap.size) (hne : bW ≠ bA) :
    Bad w0.heap.size 12 #[.pointer (some ⟨b0, 0, none⟩), .pointer (some ⟨bW, 0, none⟩), .pointer (some ⟨bA, 0, none⟩), .pointer (some ⟨b1, 0, none⟩)] budget (InvA w0 bW bA) (stepA list ans) := by
  have l0 := World.block_lt_of_cell? w1 _ h0
  have l1 := World.block_lt_of_cell? w1 _ h1
  simp only at l0 l1
  refine ⟨enter_of Try.func12 (by kernel_rfl) (by kernel_rfl), fun st w w' h hb => h.below hb hA' hW', fun n s w v xs hn hlt hI hB ho hl => ?_⟩
  obtain ⟨m, wr⟩ := s
  obtain rfl : m = n := hI.same
  have hold := hI.old h10 hA hW
  have hstay : ∀ (c : Bool) (k : Int), Below w1.heap.size w1 ((w.setCell ⟨bW, 0, none⟩ (.bool c)).setCell ⟨bA, 0, none⟩ (.int .i64 k)) := fun c k => (hold.setCell hW _).setCell hA _
  refine (asks1_call w v u q xs list ans m wr b0 b1 bW bA ho.rd (hu.below hold) (RdB.later hq hold) (cell_later hold h0) (cell_later hold h1) hI.asked hI.wrong hI.freeA hI.freeW ⟨hI.n.1, hI.n.2⟩ (by omega) (by omega) hne (fun c k => RdB.later hq (hstay c k))).mono ?_
  rintro e w' ⟨he, rfl⟩
  refine ⟨he, ⟨rfl, ⟨by show 0 ≤ m + 1; omega, by show m + 1 ≤ 500; omega⟩, ?_, ?_, ?_, ?_, hI.os, hI.tape, hI.output, Nat.le_trans hI.size (by simp [World.setCell]), ?_⟩, ⟨rfl, rfl, rfl, by simp [World.setCell], fun k hk _ _ => ?_⟩⟩
  · exact World.cell?_setCell_same _ _ _ ((World.cell?_setCell_other _ _ _ _ (by simp)).trans hI.asked)
  · exact (World.cell?_setCell_other _ _ _ _ (by simp)).trans (World.cell?_setCell_same _ _ _ hI.wrong)
  · exact (World.frozen?_setCell _ _ _ _).trans ((World.frozen?_setCell _ _ _ _).trans hI.freeA)
  · exact (World.frozen?_setCell _ _ _ _).trans ((World.frozen?_setCell _ _ _ _).trans hI.freeW)
  · intro k hk h1 h2
    rw [Below.heap_setCell _ _ _ _ h2, Below.heap_setCell _ _ _ _ h1]
    exact hI.block k hk h1 h2
  · rw [Below.heap_setCell _ _ _ _ (by show k ≠ bA; omega), Below.heap_setCell _ _ _ _ (by show k ≠ bW; omega)]

/-- The law in plain words: the count is right, nothing was wrong, and it was asked no more often than may be. -/
theorem lessM_asks (list : List Int) (ans : List Bool) (budget : Int) :
    (lessM (stepA list ans) budget list (0, false)).1.Sublist list ∧ (lessM (stepA list ans) budget list (0, false)).2.2 = ((lessM (stepA list ans) budget list (0, false)).2.1, false) ∧
    0 ≤ (lessM (stepA list ans) budget list (0, false)).2.1 ∧ (lessM (stepA list ans) budget list (0, false)).2.1 ≤ max budget 0 := by
  have key : ∀ (st : Int × (Int × Bool)) (xs : List Int), (st.2 = (st.1, false) ∧ 0 ≤ st.1 ∧ st.1 ≤ max budget 0) → (st.1 = 0 → xs = list) → xs.Sublist list →
      (tryM (stepA list ans) budget st xs).2.2 = ((tryM (stepA list ans) budget st xs).2.1, false) ∧ 0 ≤ (tryM (stepA list ans) budget st xs).2.1 ∧ (tryM (stepA list ans) budget st xs).2.1 ≤ max budget 0 := by
    rintro ⟨n, m, wr⟩ xs ⟨h1, h2, h3⟩ hz hs
    simp only [Prod.mk.injEq] at h1
    obtain ⟨rfl, rfl⟩ := h1
    simp only at h2 h3 hz
    unfold tryM
    split
    · exact ⟨rfl, h2, h3⟩
    · rename_i hb
      simp only at hb
      refine ⟨?_, by show 0 ≤ m + 1; omega, by show m + 1 ≤ _; omega⟩
      have hk : kG xs list 0 = xs.length := kG_sub xs list 0 (Nat.zero_le _) (by simpa using hs)
      simp only [stepA, hk, Prod.mk.injEq, true_and]
      by_cases h0 : m = 0
      · rw [hz h0]; simp
      · simp [h0]
  have pos : ∀ (xs : List Int) (st : Int × (Int × Bool)), 0 ≤ st.1 → ¬ budget ≤ st.1 → 0 < (tryM (stepA list ans) budget st xs).2.1 := by
    intro xs st h1 h2; unfold tryM; rw [if_neg h2]; show 0 < st.1 + 1; omega
  by_cases hb : budget ≤ 0
  · have e : lessM (stepA list ans) budget list (0, false) = (list, 0, (0, false)) := by unfold lessM; simp [tryM, hb]
    rw [e]
    exact ⟨List.Sublist.refl _, rfl, Int.le_refl _, by show (0 : Int) ≤ _; omega⟩
  · have h0 := key (0, (0, false)) list ⟨rfl, Int.le_refl _, by show (0 : Int) ≤ _; omega⟩ (fun _ => rfl) (List.Sublist.refl _)
    have hp := pos list (0, (0, false)) (Int.le_refl _) hb
    obtain ⟨h1, h2⟩ := lessM_inv (stepA list ans) budget (fun st => st.2 = (st.1, false) ∧ 0 < st.1 ∧ st.1 ≤ max budget 0) list (0, false) ⟨h0.1, hp, h0.2.2⟩ (fun st ys hJ hs => by
      have := key st ys ⟨hJ.1, by omega, hJ.2.2⟩ (fun e => by omega) hs
      refine ⟨this.1, ?_, this.2.2⟩
      unfold tryM
      split
      · exact hJ.2.1
      · show 0 < st.1 + 1; omega)
    exact ⟨h2, h1.1, by omega, h1.2.2⟩
end Go.Proofs.Ytkobpjndkgjcjaa
