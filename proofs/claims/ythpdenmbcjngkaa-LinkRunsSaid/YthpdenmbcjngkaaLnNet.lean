/- A net in memory: its block, its two maps, its rows of messages. link.New, Flying, Lost. -/
import Derived.Test.YthpdenmbcjngkaaLnMem
namespace Go.Proofs.Ythpdenmbcjngkaa
open Go.RowKit Go.Maps

/-- A message: the slice value that a row holds, and its bytes. -/
abbrev Msg := Value × List Int
/-- A way: the slice value that the map holds, and its messages. -/
abbrev Way := Value × List Msg
abbrev Ways := List (LK × Way)
abbrev MapW (w : World) (b : Nat) (L : Ways) : Prop := MapT Try.prog 29 lkV (fun x : Way => x.1) w b L
abbrev MapA (w : World) (b : Nat) (A : List (LK × Bool)) : Prop := MapT Try.prog 29 lkV Value.bool w b A

/-- Two rows do not lie in one block. -/
def Apart (v v' : Value) : Prop := ∀ g, v.ownBlock = some g → v'.ownBlock ≠ some g
/-- A way in memory. -/
structure WayS (base : Nat) (W : World) (x : Way) : Prop where
  row : W.ownsRow base 30 1 x.1 x.2.length (x.2.map (·.1))
  msgs : ∀ m ∈ x.2, OwB base W m.1 m.2

structure NetB (base p mw ma : Nat) (L : Ways) (A : List (LK × Bool)) (n lost : Int) (W : World) : Prop where
  blk : W.heap[p]? = some (.cells #[.map (some mw), .map (some ma), vi n, vi lost] 56)
  ways : MapW W mw L
  apart : MapA W ma A
  way : ∀ x ∈ L, WayS base W x.2
  rows : L.Pairwise (fun x y => Apart x.2.1 y.2.1)
  bp : base ≤ p
  bw : base ≤ mw
  ba : base ≤ ma
  wa : mw ≠ ma

theorem WayS.below {base : Nat} {A B : World} {x : Way} (h : WayS base A x) (hb : Below A.heap.size A B) : WayS base B x :=
  ⟨own_below h.row hb, fun m hm => own_below (h.msgs m hm) hb⟩
theorem NetB.later {base p mw ma : Nat} {L : Ways} {C : List (LK × Bool)} {n lost : Int} {A B : World} (h : NetB base p mw ma L C n lost A) (hb : Below A.heap.size A B) : NetB base p mw ma L C n lost B :=
  ⟨(hb.block p (Array.getElem?_eq_some_iff.1 h.blk).1).trans h.blk, h.ways.below hb h.ways.lt, h.apart.below hb h.apart.lt, fun x hx => (h.way x hx).below hb, h.rows, h.bp, h.bw, h.ba, h.wa⟩
theorem NetB.more {base p mw ma : Nat} {L : Ways} {C : List (LK × Bool)} {n lost : Int} {A : World} (h : NetB base p mw ma L C n lost A) (o : Obj) : NetB base p mw ma L C n lost (A.alloc o) := h.later ((Below.refl _ _).alloc (Nat.le_refl _) _)

/-- What stands in a block of another kind than a row's stays while the row is written. -/
theorem row_not {A : World} {b n m : Nat} {e : TypeId} {v : Value} {xs : List Value} (h : A.ownsRow b e n v m xs) {j : Nat} {o : Obj} (hj : A.heap[j]? = some o) (ho : ∀ cs, o ≠ .cells cs e) : some j ≠ v.ownBlock := by
  intro hc
  rcases h.2 with ⟨hv, _⟩ | ⟨g, cap, cur, hv, _, hh, _⟩
  · rw [hv] at hc; simp [Value.ownBlock] at hc
  · rw [hv] at hc
    have : j = g := by simpa [Value.ownBlock] using hc
    subst this
    rw [hj] at hh
    simp at hh
    exact ho _ hh
theorem MapT.obj {κ ν : Type} {P : Program} {k : TypeId} {eK : κ → Value} {eV : ν → Value} {w : World} {b : Nat} {L : List (κ × ν)} (h : MapT P k eK eV w b L) : ∃ es c, w.heap[b]? = some (.map es c) := by
  obtain ⟨es, c, hb, _⟩ := h; exact ⟨es, c, hb⟩
theorem OwB.kept {base : Nat} {A B : World} {v : Value} {bs : List Int} (h : OwB base A v bs) {r : Option Nat} (hg : A.grownBy B r) (hr : ∀ j, r = some j → ∃ o, A.heap[j]? = some o ∧ ∀ cs, o ≠ .cells cs 5) : OwB base B v bs := by
  refine World.ownsRow.kept h hg ?_
  cases hv : v.ownBlock with
  | none => exact .inl rfl
  | some g =>
    right
    intro e
    obtain ⟨o, ho, hne⟩ := hr g e.symm
    exact row_not h ho hne hv.symm
theorem WayS.kept {base : Nat} {A B : World} {x : Way} (h : WayS base A x) {r : Nat} (hg : A.grownBy B (some r)) (hr : ∃ o, A.heap[r]? = some o ∧ (∀ cs, o ≠ .cells cs 5)) (hx : x.1.ownBlock ≠ some r) : WayS base B x :=
  ⟨World.ownsRow.kept h.row hg (.inr hx), fun m hm => (h.msgs m hm).kept hg fun j hj => by cases hj; exact hr⟩

/-- The net's own block is written. -/
theorem NetB.numbers {base p mw ma : Nat} {L : Ways} {C : List (LK × Bool)} {n lost n' lost' : Int} {A B : World} (h : NetB base p mw ma L C n lost A) (hg : A.grownBy B (some p)) (hp : B.heap[p]? = some (.cells #[.map (some mw), .map (some ma), vi n', vi lost'] 56)) : NetB base p mw ma L C n' lost' B := by
  obtain ⟨es1, c1, ho1⟩ := h.ways.obj
  obtain ⟨es2, c2, ho2⟩ := h.apart.obj
  have h1 : mw ≠ p := fun e => by rw [e, h.blk] at ho1; cases ho1
  have h2 : ma ≠ p := fun e => by rw [e, h.blk] at ho2; cases ho2
  refine ⟨hp, h.ways.kept hg (by simpa using h1), h.apart.kept hg (by simpa using h2), fun x hx => (h.way x hx).kept hg ⟨_, h.blk, fun cs => by simp⟩ (fun e => row_not (h.way x hx).row h.blk (fun cs => by simp) e.symm), h.rows, h.bp, h.bw, h.ba, h.wa⟩

/-- How many messages a net has. -/
def sumW : Ways → Nat
  | [] => 0
  | x :: L => x.2.2.length + sumW L
theorem sumW_append (L M : Ways) : sumW (L ++ M) = sumW L + sumW M := by
  induction L with
  | nil => simp [sumW]
  | cons x L ih => rw [List.cons_append]; simp only [sumW]; rw [ih]; omega
theorem sumW_mem {L : Ways} {x : LK × Way} (h : x ∈ L) : x.2.2.length ≤ sumW L := by
  induction L with
  | nil => cases h
  | cons y L ih =>
    simp only [sumW]
    rcases List.mem_cons.1 h with rfl | h
    · omega
    · have := ih h; omega
/-- The pairs of a list around the one at a key. -/
theorem split_key {ν : Type} {L : List (LK × ν)} (hp : L.Pairwise (fun p q => p.1 ≠ q.1)) {l : LK} {x : ν} (h : getM L l = some x) : ∃ M N, L = M ++ (l, x) :: N ∧ (∀ p ∈ M, p.1 ≠ l) ∧ (∀ p ∈ N, p.1 ≠ l) := by
  obtain ⟨M, N, hL⟩ := List.append_of_mem (getM_some h)
  subst hL
  rw [List.pairwise_append] at hp
  obtain ⟨h1, h2, h3⟩ := hp
  rw [List.pairwise_cons] at h2
  exact ⟨M, N, rfl, fun p hp => h3 p hp (l, x) (by simp), fun p hp e => h2.1 p hp e.symm⟩
theorem putM_split {ν : Type} {M N : List (LK × ν)} {l : LK} {x y : ν} (hM : ∀ p ∈ M, p.1 ≠ l) (hN : ∀ p ∈ N, p.1 ≠ l) : putM (M ++ (l, x) :: N) l y = M ++ (l, y) :: N := by
  have hg : getM (M ++ (l, x) :: N) l = some x := by
    rw [getM_append, getM_none.2 hM]; simp [getM_cons]
  unfold putM
  rw [hg]
  simp only [Option.isSome_some, if_true, List.map_append, List.map_cons]
  have e1 : M.map (fun p => if p.1 = l then (l, y) else p) = M := by
    rw [List.map_congr_left (g := id) fun p hp => by simp [hM p hp]]; simp
  have e2 : N.map (fun p => if p.1 = l then (l, y) else p) = N := by
    rw [List.map_congr_left (g := id) fun p hp => by simp [hN p hp]]; simp
  rw [e1, e2]
theorem delM_split {ν : Type} {M N : List (LK × ν)} {l : LK} {x : ν} (hM : ∀ p ∈ M, p.1 ≠ l) (hN : ∀ p ∈ N, p.1 ≠ l) : delM (M ++ (l, x) :: N) l = M ++ N := by
  unfold delM
  rw [List.filter_append, List.filter_cons]
  have e1 : M.filter (fun p => decide (p.1 ≠ l)) = M := List.filter_eq_self.2 fun p hp => by simpa using hM p hp
  have e2 : N.filter (fun p => decide (p.1 ≠ l)) = N := List.filter_eq_self.2 fun p hp => by simpa using hN p hp
  rw [e1, e2]; simp
theorem putM_fresh {ν : Type} {L : List (LK × ν)} {l : LK} {y : ν} (h : getM L l = none) : putM L l y = L ++ [(l, y)] := by unfold putM; rw [h]; rfl

/-- A net: what it keeps of memory, and what holds of its messages. -/
structure NetS (base p mw ma : Nat) (L : Ways) (A : List (LK × Bool)) (n lost : Int) (W : World) : Prop where
  mem : NetB base p mw ma L A n lost W
  ne : ∀ x ∈ L, x.2.2 ≠ []
  cnt : n = (sumW L : Nat)
theorem NetS.later {base p mw ma : Nat} {L : Ways} {C : List (LK × Bool)} {n lost : Int} {A B : World} (h : NetS base p mw ma L C n lost A) (hb : Below A.heap.size A B) : NetS base p mw ma L C n lost B := ⟨h.mem.later hb, h.ne, h.cnt⟩

/-- What a link has. -/
def conW (L : Ways) (l : LK) : List (List Int) := (((getM L l).map (fun x => x.2.map (·.2))).getD [])
def NewQ (w : World) (e : Ending) (w' : World) : Prop := ∃ p mw ma, e = .returned (.pointer (some ⟨p, 0, none⟩)) ∧ NetS w.heap.size p mw ma [] [] 0 0 w' ∧ Below w.heap.size w w'

set_option maxRecDepth 100000 in
set_option maxHeartbeats 1000000 in
theorem new_call (w : World) : Calls Try.prog 7 #[] w (NewQ w) := by
  have hmm := @run_makeMap Try.prog
  go_enter Try.func7, Try.ntmps7
  go_wp2_with fail
  go_ret
  have h1 : MapW (w.alloc (.map #[] 0)) w.heap.size [] := MapT.made w
  have h2 : MapA ((w.alloc (.map #[] 0)).alloc (.map #[] 0)) (w.alloc (.map #[] 0)).heap.size [] := MapT.made _
  refine ⟨w.heap.size + 2, w.heap.size, w.heap.size + 1, rfl, ⟨⟨?_, ?_, ?_, (fun x hx => by cases hx), List.Pairwise.nil, by omega, Nat.le_refl _, by omega, by omega⟩, (fun x hx => by cases hx), rfl⟩, ?_⟩
  · have := alloc_at ((w.alloc (.map #[] 0)).alloc (.map #[] 0)) (.cells #[.map (some w.heap.size), .map (some (w.heap.size + 1)), vi 0, vi 0] 56)
    simpa using this
  · exact (h1.frame (Below.heap_alloc _ _ _ h1.lt)).frame (Below.heap_alloc _ _ _ (by have := h1.lt; simp at this ⊢; omega))
  · have h3 := h2.frame (Below.heap_alloc _ (.cells #[.map (some w.heap.size), .map (some (w.heap.size + 1)), vi 0, vi 0] 56) _ h2.lt)
    simpa using h3
  · exact (((Below.refl _ _).alloc (Nat.le_refl _) _).alloc (by simp) _).alloc (by simp; omega) _

set_option maxRecDepth 100000 in
set_option maxHeartbeats 1000000 in
theorem flying_call {base p mw ma : Nat} {L : Ways} {C : List (LK × Bool)} {n lost : Int} (w : World) (h : NetB base p mw ma L C n lost w) :
    Calls Try.prog 10 #[.pointer (some ⟨p, 0, none⟩)] w fun e w' => e = .returned (vi n) ∧ Below w.heap.size w w' := by
  have q2 : w.cell? ⟨p, 2, none⟩ = some (vi n) := by rw [cell_of h.blk]; rfl
  clear h
  go_enter Try.func10, Try.ntmps10
  go_wp2_with fail
  go_ret
  exact ⟨rfl, Below.refl _ _⟩

set_option maxRecDepth 100000 in
set_option maxHeartbeats 1000000 in
theorem lost_call {base p mw ma : Nat} {L : Ways} {C : List (LK × Bool)} {n lost : Int} (w : World) (h : NetB base p mw ma L C n lost w) :
    Calls Try.prog 12 #[.pointer (some ⟨p, 0, none⟩)] w fun e w' => e = .returned (vi lost) ∧ Below w.heap.size w w' := by
  have q2 : w.cell? ⟨p, 3, none⟩ = some (vi lost) := by rw [cell_of h.blk]; rfl
  clear h
  go_enter Try.func12, Try.ntmps12
  go_wp2_with fail
  go_ret
  exact ⟨rfl, Below.refl _ _⟩
end Go.Proofs.Ythpdenmbcjngkaa
