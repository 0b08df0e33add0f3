/- Texts of one proof, one behind the other: Mem, DpPure, IsX, Chs, DpBrk, ChAllP, CkP, IntS, Tour, CkC, CtH, CtVd, CtLf. -/
import Derived.WalkKit
import Derived.Outline
import Derived.Lib.Hide
import Derived.Laws.AppendOwnNone
import Derived.WalkSpells
import Derived.WalkLawsBesides
import Derived.BigQuiet
import Derived.Deep.QuietTactic
import Derived.Deep.RegionWith
import Derived.Deep.RegionHeld3
import Derived.Deep.LoopGhost
import Derived.Deep.DeepFit
import Derived.Deep.RegionLaw
import Derived.StillTailTactics
import Derived.Deep.DeepCutAuto
import Derived.Lib.AppendZeros
import Derived.Laws.IdiomRangeMap
import Derived.Maps.OwnSet
import Derived.WideKeyElems2
import Derived.Deep.Strs
import Derived.Maps.RangeWalk
import Derived.Sort.WalkB2
import Derived.Sort.WalkB12
import Derived.Shelf.SlSortCmp.Insertion
import Derived.Shelf.SlSortCmp.BreakPatterns1
import Derived.Sort.Walk13a
import Derived.Sort.AssemblyPlain
import Derived.Sort.WalkB3
import Derived.Shelf.SlGeneric
import Derived.Shelf.SlLaysF
import Derived.Test.YtnacoplokjdglaaGreatProg
import Derived.Sort.Walk13
import Derived.Shelf.SlSortCmp.Kit1
import Derived.Sort.WalkA
import Derived.Sort.Lot0
import Derived.Sort.LotD1
import Derived.Test.YtnacoplokjdglaaGreatKp1
import Derived.Test.YtnacoplokjdglaaGreatKp2
import Derived.Test.YtnacoplokjdglaaGreatKp3
import Derived.Test.YtnacoplokjdglaaGreatKp4
import Derived.Test.YtnacoplokjdglaaGreatKp5
import Derived.Test.YtnacoplokjdglaaGreatKp6
import Derived.Test.YtnacoplokjdglaaGreatKp7
import Derived.Test.YtnacoplokjdglaaGreatKp8
import Derived.Test.YtnacoplokjdglaaGreatKp9
import Derived.Test.YtnacoplokjdglaaGreatKp10
import Derived.Test.YtnacoplokjdglaaGreatKp11
import Derived.Test.YtnacoplokjdglaaGreatKp12
import Derived.Test.YtnacoplokjdglaaGreatKp13
import Derived.Test.YtnacoplokjdglaaGreatKp14
import Derived.Test.YtnacoplokjdglaaGreatKp15
import Derived.Test.YtnacoplokjdglaaGreatKp16
import Derived.Test.YtnacoplokjdglaaGreatKp17
import Derived.Test.YtnacoplokjdglaaGreatKp18
import Derived.Test.YtnacoplokjdglaaGreatKp19
import Derived.Test.YtnacoplokjdglaaGreatKp20
import Derived.Test.YtnacoplokjdglaaGreatKp21
set_option linter.all false
namespace Go.Proofs.YtnacoplokjdglaaGreat
open Go.RowKit
theorem own_src {w : World} {base e size n : Nat} {v : Value} {xs : List Value} (h : w.ownsRow base e size v n xs) : Src w v size n xs := by
  obtain ⟨h1, h2⟩ := id h
  rcases h2 with ⟨hv, h0⟩ | ⟨g, cap, cur, hv, hg, hh, hn, hm, hs, ht⟩
  · subst h0
    exact ⟨none, 0, hv, h1, fun _ => ⟨rfl, rfl⟩, fun ad h => by cases h⟩
  · refine ⟨some ⟨g, 0, none⟩, cap, hv, h1, fun h => (by cases h), fun ad had j u hu => ?_⟩
    cases had
    exact World.ownsRow.cells h (g := g) (by rw [hv]; rfl) j u hu

end Go.Proofs.YtnacoplokjdglaaGreat

namespace Go.Proofs.YtnacoplokjdglaaGreat
theorem Way.mono {α : Type} {r s : α → α → Prop} (hrs : ∀ a b, r a b → Way s a b) {a b : α} (h : Way r a b) : Way s a b := by
  induction h with
  | one h => exact hrs _ _ h
  | more h _ ih => exact (hrs _ _ h).trans ih
theorem Rounds.mono {α : Type} {r s : α → α → Prop} (hrs : ∀ a b, r a b → Way s a b) (h : Rounds r) : Rounds s := by
  obtain ⟨a, h⟩ := h
  exact ⟨a, h.mono hrs⟩
end Go.Proofs.YtnacoplokjdglaaGreat

namespace Go.Proofs.YtnacoplokjdglaaGreat
open Go.RowKit Go.Maps
attribute [local go_sem] Oper.semAt_some

/-! What it says. -/
theorem okX_iff {T : List (List Int)} {C : List Int} {i : Nat} {v x : Int} (hv : C[i]? = some v) (hx : C[(i + 1) % C.length]? = some x) : okX T C i = true ↔ 0 ≤ v ∧ (∃ l, T[v.toNat]? = some l ∧ x ∈ l) ∧ ∀ j, j < i → C[j]? ≠ some v := by
  unfold okX
  rw [hv, hx]
  simp only [Bool.and_eq_true, decide_eq_true_eq, Bool.not_eq_true', List.any_eq_false]
  constructor
  · rintro ⟨h1, h2, h3, h4⟩
    obtain ⟨l, hl⟩ : ∃ l, T[v.toNat]? = some l := ⟨_, List.getElem?_eq_getElem (by omega)⟩
    rw [hl] at h3
    simp only [Option.map_some, Option.getD_some, List.any_eq_true, beq_iff_eq] at h3
    obtain ⟨y, hy, rfl⟩ := h3
    refine ⟨h1, ⟨l, hl, hy⟩, fun j hj hc => ?_⟩
    have := h4 v (List.mem_of_getElem? (i := j) (by rw [List.getElem?_take, if_pos hj]; exact hc))
    simp at this
  · rintro ⟨h1, ⟨l, hl, hy⟩, h4⟩
    have := (List.getElem?_eq_some_iff.1 hl).1
    refine ⟨h1, by omega, by rw [hl]; simp only [Option.map_some, Option.getD_some, List.any_eq_true, beq_iff_eq]; exact ⟨x, hy, rfl⟩, fun y hy he => ?_⟩
    obtain ⟨j, hj⟩ := List.mem_iff_getElem?.1 hy
    rw [List.getElem?_take] at hj
    split at hj
    · rename_i hji
      simp only [beq_iff_eq] at he
      subst he
      exact h4 j hji hj
    · cases hj
end Go.Proofs.YtnacoplokjdglaaGreat

namespace Go.Proofs.YtnacoplokjdglaaGreat
open Go.RowKit Go.Maps
section rows
variable {α : Type} {V : α → List Value} {m : Nat}
end rows
theorem RdCh.later {w w' : World} {v : Value} {l : List GChoice} (h : RdCh w v l) (hb : Below w.heap.size w w') : RdCh w' v l := RdS.below h hb fun _ _ h => h

end Go.Proofs.YtnacoplokjdglaaGreat

namespace Go.Proofs.YtnacoplokjdglaaGreat
open Go.RowKit Go.Maps

theorem arcK_more {l l' : List GEdge} (h : ∀ e, e ∈ l → e ∈ l') (snap : Bool) (u v : Int) (ha : ArcK l snap u v) : ArcK l' snap u v := by
  rcases ha with ⟨e, he, h1, h2, h3⟩ | ⟨h0, e, he, h1, h2, g, hg, h3, h4, h5⟩
  · exact .inl ⟨e, h e he, h1, h2, h3⟩
  · exact .inr ⟨h0, e, h e he, h1, h2, g, h g hg, h3, h4, h5⟩
theorem brk_more {ts : List GTxn} {L H : FaL} {l' : List GEdge} (hm : ∀ e, e ∈ edgeL ts L → e ∈ edgeL ts H) (he' : EdgesOf ts H l') {level : Int} (h : Brk ts L level) : Brk ts H level := by
  obtain ⟨l, he, hr⟩ := h
  exact ⟨l', he', hr.mono (fun a b hab => .one (arcK_more (fun e h1 => (he'.2 e).2 (hm e ((he.2 e).1 h1))) _ a b hab))⟩
end Go.Proofs.YtnacoplokjdglaaGreat

namespace Go.Proofs.YtnacoplokjdglaaGreat
open Go.RowKit Go.Maps

theorem countP_one {α : Type} [DecidableEq α] {p q : α → Bool} {c : α} (hq : ∀ d, q d = (decide (c = d) || p d)) (hp : p c = false) : ∀ {C : List α}, C.Nodup → (c ∈ C → C.countP q = C.countP p + 1) ∧ (c ∉ C → C.countP q = C.countP p)
  | [], _ => ⟨fun h => by simp at h, fun _ => rfl⟩
  | d :: C, hn => by
    rw [List.nodup_cons] at hn
    have ih := countP_one hq hp hn.2
    refine ⟨fun h => ?_, fun h => ?_⟩
    · by_cases hd : c = d
      · subst hd
        rw [List.countP_cons, List.countP_cons, (ih).2 hn.1, hq c, hp]
        simp
      · have hc : c ∈ C := by
          rcases List.mem_cons.1 h with h | h
          · exact absurd h hd
          · exact h
        rw [List.countP_cons, List.countP_cons, ih.1 hc, hq d]
        simp [hd]; omega
    · have h1 : c ≠ d := fun e => h (by rw [e]; exact List.mem_cons_self)
      have h2 : c ∉ C := fun e => h (List.mem_cons_of_mem _ e)
      rw [List.countP_cons, List.countP_cons, ih.2 h2, hq d]
      simp [h1]
theorem countP_lt {α : Type} {p : α → Bool} {c : α} {C : List α} (hc : c ∈ C) (hp : p c = false) : C.countP p < C.length := by
  rcases Nat.lt_or_ge (C.countP p) C.length with h | h
  · exact h
  · have := List.countP_eq_length.1 (Nat.le_antisymm List.countP_le_length h) c hc
    rw [hp] at this; cases this

/-- How many of a history's choices are said. -/
def saidN (ts : List GTxn) (L : FaL) : Nat := (choicesM ts).countP (fun c => (getM L c).isSome)
theorem said_next {ts : List GTxn} {L H : FaL} {c : GChoice} {so : Bool} (h : nextM ts L = some c) (hH : ∀ d, getM H d = if c = d then some so else getM L d) : saidN ts H = saidN ts L + 1 ∧ saidN ts L < (choicesM ts).length := by
  obtain ⟨h1, h2⟩ := nextM_some h
  refine ⟨(countP_one (c := c) (fun d => ?_) (by rw [h2]; rfl) (choicesM_nodup ts)).1 h1, countP_lt h1 (by rw [h2]; rfl)⟩
  rw [hH d]
  by_cases hd : c = d <;> simp [hd]
theorem said_nil (ts : List GTxn) : saidN ts [] = 0 := by
  unfold saidN
  rw [List.countP_eq_zero]
  intro c _
  simp [getM_nil]
end Go.Proofs.YtnacoplokjdglaaGreat

namespace Go.Proofs.YtnacoplokjdglaaGreat
open Go.RowKit Go.Maps
/-- The search through all choices. -/
inductive WT where
  | bad (L : FaL)
  | good (L : FaL)
  | node (L : FaL) (a b : WT)
open Classical in
noncomputable def treeM (ts : List GTxn) (level : Int) : Nat → FaL → WT
  | 0, L => if Brk ts L level then .bad L else .good L
  | n + 1, L => if Brk ts L level then .bad L else match nextM ts L with
    | none => .good L
    | some c => .node L (treeM ts level n ((c, true) :: L)) (treeM ts level n ((c, false) :: L))
/-- Is there an answer? -/
def WT.res : WT → Bool
  | .bad _ => false
  | .good _ => true
  | .node _ a b => a.res || b.res
/-- The steps until there is one. -/
def WT.size : WT → Nat
  | .bad _ => 1
  | .good _ => 1
  | .node _ a b => 1 + a.size + (if a.res then 0 else b.size)
def WT.found : WT → Option FaL
  | .bad _ => none
  | .good L => some L
  | .node _ a b => a.found.or b.found
/-- The cycles of the steps. -/
def Nodes (ts : List GTxn) (level : Int) : WT → List (List Nat) → Prop
  | .bad L, l => ∃ C, l = [C] ∧ C ≠ [] ∧ NodeC ts L level C
  | .good _, l => l = [[]]
  | .node _ a b, l => ∃ l1 l2, Nodes ts level a l1 ∧ Nodes ts level b l2 ∧ l = [] :: (l1 ++ l2)
theorem WT.size_pos : ∀ t : WT, 1 ≤ t.size
  | .bad _ => Nat.le_refl _
  | .good _ => Nat.le_refl _
  | .node _ a b => by unfold WT.size; omega
theorem WT.found_res : ∀ t : WT, t.found.isSome = t.res
  | .bad _ => rfl
  | .good _ => rfl
  | .node _ a b => by
    unfold WT.found WT.res
    rw [← WT.found_res a, ← WT.found_res b]
    cases a.found <;> rfl
theorem Nodes.len {ts : List GTxn} {level : Int} : ∀ {t : WT} {l : List (List Nat)}, t.res = false → Nodes ts level t l → l.length = t.size
  | .bad _, l, _, h => by obtain ⟨C, rfl, _⟩ := h; rfl
  | .good _, l, h, _ => by simp [WT.res] at h
  | .node _ a b, l, hr, h => by
    obtain ⟨l1, l2, h1, h2, rfl⟩ := h
    simp only [WT.res, Bool.or_eq_false_iff] at hr
    have g1 := Nodes.len hr.1 h1
    have g2 := Nodes.len hr.2 h2
    simp [WT.size, hr.1, g1, g2]; omega

theorem tree_fuel {ts : List GTxn} {level : Int} : ∀ {n : Nat} {L : FaL}, (choicesM ts).length ≤ saidN ts L + n → treeM ts level n L = treeM ts level (n + 1) L
  | 0, L, h => by
    unfold treeM
    split
    · rfl
    · cases hn : nextM ts L with
      | none => rfl
      | some c =>
        have := (said_next (so := true) (H := (c, true) :: L) hn (fun d => getM_cons _ _ _)).2
        omega
  | n + 1, L, h => by
    rw [treeM, treeM]
    split
    · rfl
    · cases hn : nextM ts L with
      | none => rfl
      | some c =>
        have g := fun so : Bool => (said_next (so := so) (H := (c, so) :: L) hn (fun d => getM_cons _ _ _)).1
        simp only
        rw [tree_fuel (n := n) (L := (c, true) :: L) (by rw [g]; omega), tree_fuel (n := n) (L := (c, false) :: L) (by rw [g]; omega)]
/-! What the search says of facts that say all. -/
/-- The facts that a way through all choices says. -/
noncomputable def leafM (ts : List GTxn) (σ : GChoice → Bool) : Nat → FaL → FaL
  | 0, L => L
  | n + 1, L => match nextM ts L with
    | none => L
    | some c => leafM ts σ n ((c, σ c) :: L)
theorem leaf_more {ts : List GTxn} {σ : GChoice → Bool} : ∀ {n : Nat} {L : FaL}, FaOk ts L → FaOk ts (leafM ts σ n L) ∧ ∀ c b, getM L c = some b → getM (leafM ts σ n L) c = some b
  | 0, L, h => ⟨h, fun _ _ h => h⟩
  | n + 1, L, h => by
    unfold leafM
    cases hn : nextM ts L with
    | none => exact ⟨h, fun _ _ h => h⟩
    | some c =>
      obtain ⟨h1, h2⟩ := leaf_more (σ := σ) (n := n) (h.next (so := σ c) hn)
      refine ⟨h1, fun d b hd => h2 d b ?_⟩
      rw [getM_cons]
      split
      · rename_i e
        simp only at e
        subst e
        rw [(nextM_some hn).2] at hd; cases hd
      · exact hd
theorem brk_up {ts : List GTxn} {L H : FaL} {level : Int} (hL : FaOk ts L) (h : ∀ c b, getM L c = some b → getM H c = some b) (he : ∃ l, EdgesOf ts H l) (hb : Brk ts L level) : Brk ts H level := by
  obtain ⟨l', he'⟩ := he
  exact brk_more (fun e h1 => edge_more hL.pw h e h1) he' hb
/-- No facts that say all are unbroken where the search finds none. -/
theorem tree_none {ts : List GTxn} {level : Int} {σ : GChoice → Bool} (hE : ∀ L, FaOk ts L → ∃ l, EdgesOf ts L l) : ∀ {n : Nat} {L : FaL}, FaOk ts L → (treeM ts level n L).res = false → Brk ts (leafM ts σ n L) level
  | 0, L, hL, h => by
    rw [treeM] at h
    split at h
    · rename_i hb; exact hb
    · simp [WT.res] at h
  | n + 1, L, hL, h => by
    rw [treeM] at h
    split at h
    · rename_i hb
      obtain ⟨h1, h2⟩ := leaf_more (σ := σ) (n := n + 1) hL
      exact brk_up hL h2 (hE _ h1) hb
    · rw [leafM]
      cases hn : nextM ts L with
      | none => rw [hn] at h; simp [WT.res] at h
      | some c =>
        rw [hn] at h
        simp only [WT.res, Bool.or_eq_false_iff] at h
        refine tree_none hE (hL.next hn) ?_
        cases σ c with
        | true => exact h.1
        | false => exact h.2
/-- What is found says all, and is unbroken. -/
theorem tree_found {ts : List GTxn} {level : Int} : ∀ {n : Nat} {L F : FaL}, FaOk ts L → (choicesM ts).length ≤ saidN ts L + n → (treeM ts level n L).found = some F →
    FaOk ts F ∧ ¬ Brk ts F level ∧ nextM ts F = none ∧ (∀ c b, getM L c = some b → getM F c = some b) ∧ ∃ σ, leafM ts σ n L = F
  | 0, L, F, hL, hn, h => by
    rw [treeM] at h
    split at h
    · cases h
    · rename_i hb
      simp only [WT.found, Option.some.injEq] at h
      subst h
      refine ⟨hL, hb, ?_, fun _ _ h => h, fun _ => true, rfl⟩
      cases hx : nextM ts L with
      | none => rfl
      | some c =>
        have := (said_next (so := true) (H := (c, true) :: L) hx (fun d => getM_cons _ _ _)).2
        omega
  | n + 1, L, F, hL, hn, h => by
    rw [treeM] at h
    split at h
    · cases h
    · rename_i hb
      cases hx : nextM ts L with
      | none =>
        rw [hx] at h
        simp only [WT.found, Option.some.injEq] at h
        subst h
        exact ⟨hL, hb, hx, fun _ _ h => h, fun _ => true, by rw [leafM, hx]⟩
      | some c =>
        rw [hx] at h
        have g := fun so : Bool => (said_next (so := so) (H := (c, so) :: L) hx (fun d => getM_cons _ _ _)).1
        have up : ∀ so : Bool, ∀ d b, getM L d = some b → getM ((c, so) :: L) d = some b := fun so d b hd => by
          rw [getM_cons]
          split
          · rename_i e
            simp only at e
            subst e
            rw [(nextM_some hx).2] at hd; cases hd
          · exact hd
        simp only [WT.found, Option.or_eq_some_iff] at h
        have key : ∀ so : Bool, (treeM ts level n ((c, so) :: L)).found = some F → FaOk ts F ∧ ¬ Brk ts F level ∧ nextM ts F = none ∧ (∀ c b, getM L c = some b → getM F c = some b) ∧ ∃ σ, leafM ts σ (n + 1) L = F := fun so hf => by
          obtain ⟨h1, h2, h3, h4, σ, h5⟩ := tree_found (hL.next (so := so) hx) (by rw [g]; omega) hf
          refine ⟨h1, h2, h3, fun d b hd => h4 d b (up so d b hd), fun d => (getM F d).getD false, ?_⟩
          have hc : getM F c = some so := h4 c so (by rw [getM_cons, if_pos rfl])
          have gen : ∀ {n : Nat} {M : FaL}, FaOk ts M → leafM ts σ n M = F → leafM ts (fun d => (getM F d).getD false) n M = F := by
            intro n
            induction n with
            | zero => intro M _ h; exact h
            | succ n ih =>
              intro M hM h
              rw [leafM] at h ⊢
              cases hy : nextM ts M with
              | none => rw [hy] at h; exact h
              | some d =>
                rw [hy] at h
                have hd : getM F d = some (σ d) := by
                  have := (leaf_more (σ := σ) (n := n) (hM.next (so := σ d) hy)).2 d (σ d) (by rw [getM_cons, if_pos rfl])
                  simp only at h
                  rwa [h] at this
                simp only [hd, Option.getD_some]
                exact ih (hM.next hy) h
          rw [leafM, hx]
          simp only [hc, Option.getD_some]
          exact gen (hL.next hx) h5
        rcases h with h | ⟨_, h⟩
        · exact key true h
        · exact key false h
end Go.Proofs.YtnacoplokjdglaaGreat

namespace Go.Proofs.YtnacoplokjdglaaGreat
open Go.RowKit Go.Maps

theorem RdInts.takeY {w : World} {ad : Addr} {n c : Nat} {xs : List Int} (h : RdInts w (.slice (some ad) n c) xs) (k : Nat) (hk : k ≤ n) : RdInts w (.slice (some ad) k c) (xs.take k) := by
  obtain ⟨a, len, cap, h1, rfl, hm, hlc, hn, hc⟩ := h
  cases h1
  refine ⟨_, k, c, rfl, by simp; omega, by simp; omega, by omega, (fun h => by cases h), fun j x hj => hc j x ?_⟩
  rw [List.getElem?_take] at hj
  split at hj
  · exact hj
  · cases hj
theorem RdInts.dropY {w : World} {b off n c : Nat} {xs : List Int} (h : RdInts w (.slice (some ⟨b, off, none⟩) n c) xs) (k : Nat) (hk : k ≤ n) :
    RdInts w (sliced (some ⟨b, off, none⟩) k n c 1) (xs.drop k) := by
  obtain ⟨a, len, cap, h1, rfl, hm, hlc, hn, hc⟩ := h
  cases h1
  unfold sliced
  by_cases h0 : c = k
  · subst h0
    refine ⟨_, _, _, rfl, by simp, by simp; omega, by omega, (fun h => by simp at h), fun j x hj => ?_⟩
    rw [List.getElem?_drop] at hj
    have := (List.getElem?_eq_some_iff.1 hj).1
    omega
  · refine ⟨_, _, _, rfl, by simp, by simp; omega, by omega, (fun h => by simp [h0] at h), fun j x hj => ?_⟩
    rw [List.getElem?_drop] at hj
    obtain ⟨b', off', cs, hb, hl, hcell, he⟩ := hc _ x hj
    cases hb
    refine ⟨b, off + k, cs, by simp [h0, addr_add], hl, fun i u hu => ?_, he⟩
    have := hcell i u hu
    rw [show off + k + (j * 1 + i) = off + ((k + j) * 1 + i) by omega]
    exact this
end Go.Proofs.YtnacoplokjdglaaGreat

namespace Go.Proofs.YtnacoplokjdglaaGreat
section
variable {A : Int → Int → Bool}
theorem tour_all {E : List Int} (irr : ∀ x, A x x = false) (asy : ∀ x y, A x y = true → A y x = false) (h : ∀ k (hk : k < E.length), E.countP (A E[k]) = E.length - 1 - k) : E.Pairwise (fun x y => A x y = true) := by
  induction E with
  | nil => exact List.Pairwise.nil
  | cons x E ih =>
    have h0 := h 0 (by simp)
    simp only [List.getElem_cons_zero, List.countP_cons, irr, List.length_cons] at h0
    have hx : ∀ y ∈ E, A x y = true := by
      apply List.countP_eq_length.1
      simpa using h0
    refine List.Pairwise.cons hx (ih fun k hk => ?_)
    have h1 := h (k + 1) (by simp; omega)
    simp only [List.getElem_cons_succ, List.countP_cons, List.length_cons] at h1
    rw [asy x _ (hx _ (List.getElem_mem hk))] at h1
    simp at h1
    omega
theorem tour_count {E : List Int} (irr : ∀ x, A x x = false) (asy : ∀ x y, A x y = true → A y x = false) (h : E.Pairwise (fun x y => A x y = true)) : ∀ k (hk : k < E.length), E.countP (A E[k]) = E.length - 1 - k := by
  induction E with
  | nil => intro k hk; simp at hk
  | cons x E ih =>
    rw [List.pairwise_cons] at h
    intro k hk
    cases k with
    | zero =>
      simp only [List.getElem_cons_zero, List.countP_cons, irr, List.length_cons]
      have := List.countP_eq_length.2 h.1
      simp [this]
    | succ k =>
      have hk' : k < E.length := by simpa using hk
      have := ih h.2 k hk'
      simp only [List.getElem_cons_succ, List.countP_cons, List.length_cons]
      rw [asy x _ (h.1 _ (List.getElem_mem hk')), this]
      simp
      omega
end
/-- Falling, all below their number: the numbers are told. -/
theorem falls {n : Nat} {f : Nat → Nat} (h1 : ∀ k, k < n → f k < n) (h2 : ∀ j k, j < k → k < n → f k < f j) : ∀ k, k < n → f k = n - 1 - k := by
  have hu : ∀ k, k < n → f k ≤ n - 1 - k := by
    intro k
    induction k with
    | zero => intro hk; have := h1 0 hk; omega
    | succ k ih => intro hk; have := h2 k (k + 1) (by omega) hk; have := ih (by omega); omega
  have hl : ∀ d k, k + d + 1 = n → d ≤ f k := by
    intro d
    induction d with
    | zero => intro k _; omega
    | succ d ih => intro k hk; have := h2 k (k + 1) (by omega) (by omega); have := ih (k + 1) (by omega); omega
  intro k hk
  have := hu k hk
  have := hl (n - 1 - k) k (by omega)
  omega

/-- Each number below the length is met once. -/
def OnceEach (M : List Nat) : Prop := ∀ n, n < M.length → M.count n = 1
theorem once_inj {M : List Nat} (h : OnceEach M) (hlt : ∀ x ∈ M, x < M.length) : M.Nodup := by
  rw [List.nodup_iff_count]
  intro x
  by_cases hx : x ∈ M
  · rw [h x (hlt x hx)]; exact Nat.le_refl _
  · rw [List.count_eq_zero_of_not_mem hx]; omega
theorem once_perm {M M' : List Nat} (p : M.Perm M') (h : OnceEach M) : OnceEach M' := fun n hn => by rw [← p.count_eq n]; exact h n (by rw [p.length_eq]; exact hn)
theorem once_rev (n : Nat) : OnceEach ((List.range n).map (fun k => n - 1 - k)) := by
  intro m hm
  simp at hm
  have hnd : ((List.range n).map (fun k => n - 1 - k)).Nodup := by
    rw [List.Nodup, List.pairwise_map]
    refine List.Pairwise.imp_of_mem ?_ List.nodup_range
    intro a b ha hb hab
    rw [List.mem_range] at ha hb
    omega
  rw [hnd.count, if_pos (by rw [List.mem_map]; exact ⟨n - 1 - m, by rw [List.mem_range]; omega, by omega⟩)]

/-- How many of D x is ahead of. -/
def aheadOf (L : FaL) (key a c : Int) : Bool := match getM L ⟨2, key, min a c, max a c⟩ with
  | some so => (c != a) && (so == decide (a < c))
  | none => false
theorem aheadOf_irr (L : FaL) (key x : Int) : aheadOf L key x x = false := by
  unfold aheadOf; cases getM L ⟨2, key, min x x, max x x⟩ <;> simp
theorem aheadOf_asy (L : FaL) (key x y : Int) (h : aheadOf L key x y = true) : aheadOf L key y x = false := by
  unfold aheadOf at h ⊢
  rw [Int.min_comm y x, Int.max_comm y x]
  cases hg : getM L ⟨2, key, min x y, max x y⟩ with
  | none => rfl
  | some so =>
    rw [hg] at h
    simp only [Bool.and_eq_true, bne_iff_ne, ne_eq, beq_iff_eq] at h
    obtain ⟨h1, h2⟩ := h
    rcases Int.lt_or_gt_of_ne h1 with h3 | h3
    · have e1 : decide (x < y) = false := by simp; omega
      have e2 : decide (y < x) = true := by simp; omega
      rw [e1] at h2
      simp [h2, e2]
    · have e1 : decide (x < y) = true := by simp; omega
      have e2 : decide (y < x) = false := by simp; omega
      rw [e1] at h2
      simp [h2, e2]
def aheadN (L : FaL) (key : Int) (D : List Int) (x : Int) : Nat := D.countP (aheadOf L key x)
theorem aheadN_perm {L : FaL} {key : Int} {D E : List Int} (p : D.Perm E) (x : Int) : aheadN L key D x = aheadN L key E x := p.countP_eq _
theorem aheadN_le (L : FaL) (key : Int) (D : List Int) (x : Int) : aheadN L key D x ≤ D.length := List.countP_le_length
theorem aheadN_lt {L : FaL} {key : Int} {D : List Int} {x : Int} (hx : x ∈ D) : aheadN L key D x < D.length := by
  rcases Nat.lt_or_ge (aheadN L key D x) D.length with h | h
  · exact h
  · have := List.countP_eq_length.1 (Nat.le_antisymm (aheadN_le L key D x) h) x hx
    rw [aheadOf_irr] at this; cases this

/-- Do the facts say one order? -/
def onceB (L : FaL) (key : Int) (D : List Int) : Bool := (List.range D.length).all fun n => (D.map (aheadN L key D)).count n == 1
theorem onceB_iff {L : FaL} {key : Int} {D : List Int} : onceB L key D = true ↔ OnceEach (D.map (aheadN L key D)) := by
  unfold onceB OnceEach
  rw [List.all_eq_true]
  simp [List.mem_range]

/-- The row put in order by how many each is ahead of stands in the facts' order. -/
theorem chain_sorted {L : FaL} {key : Int} {D E : List Int} (ho : onceB L key D = true) (p : D.Perm E) (hs : ∀ j k (hj : j < E.length) (hk : k < E.length), j < k → aheadN L key D E[k] ≤ aheadN L key D E[j]) :
    E.Pairwise (fun x y => aheadOf L key x y = true) := by
  have hN : ∀ x, aheadN L key D x = aheadN L key E x := aheadN_perm p
  have hM : OnceEach (E.map (aheadN L key E)) := by
    have := once_perm (p.map (aheadN L key D)) (onceB_iff.1 ho)
    rwa [show aheadN L key D = aheadN L key E from funext hN] at this
  have hlt : ∀ x ∈ E.map (aheadN L key E), x < (E.map (aheadN L key E)).length := by
    intro x hx
    rw [List.mem_map] at hx
    obtain ⟨y, hy, rfl⟩ := hx
    rw [List.length_map]
    exact aheadN_lt hy
  have hnd := once_inj hM hlt
  apply tour_all (aheadOf_irr L key) (aheadOf_asy L key)
  intro k hk
  have hf := falls (n := E.length) (f := fun k => if h : k < E.length then aheadN L key E E[k] else 0) (fun k hk => by simp only [hk, dite_true]; exact aheadN_lt (List.getElem_mem hk)) (fun j k hjk hk => by
    have hj : j < E.length := by omega
    simp only [hk, hj, dite_true]
    have h1 := hs j k hj hk hjk
    rw [hN, hN] at h1
    have h2 : aheadN L key E E[j] ≠ aheadN L key E E[k] := by
      have := List.pairwise_iff_getElem.1 hnd j k (by simpa using hj) (by simpa using hk) hjk
      simpa using this
    omega) k hk
  simp only [hk, dite_true] at hf
  exact hf
/-- Whoever stands in the facts' order says so by numbers. -/
theorem chain_once {L : FaL} {key : Int} {D E : List Int} (p : D.Perm E) (h : E.Pairwise (fun x y => aheadOf L key x y = true)) : onceB L key D = true := by
  rw [onceB_iff]
  have hc := tour_count (aheadOf_irr L key) (aheadOf_asy L key) h
  have hE : E.map (aheadN L key E) = (List.range E.length).map (fun k => E.length - 1 - k) := by
    apply List.ext_getElem
    · simp
    · intro k h1 h2
      simp at h1
      simp only [List.getElem_map, List.getElem_range]
      exact hc k h1
  rw [show aheadN L key D = aheadN L key E from funext (aheadN_perm p)]
  have := once_rev E.length
  rw [← hE] at this
  exact once_perm (p.map _).symm this
end Go.Proofs.YtnacoplokjdglaaGreat

namespace Go.Proofs.YtnacoplokjdglaaGreat
open Go.RowKit Go.Maps
attribute [local go_sem] Oper.semAt_some

/-- The whole search. -/
noncomputable def tree0 (ts : List GTxn) (level : Int) : WT := treeM ts level (choicesM ts).length []
end Go.Proofs.YtnacoplokjdglaaGreat

namespace Go.Proofs.YtnacoplokjdglaaGreat
open Go.RowKit Go.Maps
attribute [local go_sem] Oper.semAt_some

set_option maxRecDepth 100000 in
set_option maxHeartbeats 8000000 in
theorem holds_bad (v : Value) (es : List GEvent) (level k s : Int) (f : Int × Int × Int) (na : Option Addr) (nn nc : Nat) (da : Option Addr) (dn dc : Nat) (om : Option Nat) (w : World) (hv : RdEvents w v es) (hes : es.length ≤ 60)
    (hb : histH es = none ∨ (level ≠ 1 ∧ level ≠ 2)) :
    Calls Tryz.prog 25 #[v, vi level, .agg #[vi k, vi s, vi f.1, vi f.2.1, vi f.2.2, .slice na nn nc, .slice da dn dc, .map om]] w fun e w' => e = .returned (.bool (k == 0)) ∧ Below w.heap.size w w' := by
  have HV := Lib.hid (hv.later ((Below.refl w.heap.size w).alloc (Nat.le_refl _) (.cells #[vi k, vi s, vi f.1, vi f.2.1, vi f.2.2, .slice na nn nc, .slice da dn dc, .map om] 39)))
  have HX := Lib.hid (alloc_at w (.cells #[vi k, vi s, vi f.1, vi f.2.1, vi f.2.2, .slice na nn nc, .slice da dn dc, .map om] 39))
  have HB0 := Lib.hid ((Below.refl w.heap.size w).alloc (Nat.le_refl _) (.cells #[vi k, vi s, vi f.1, vi f.2.1, vi f.2.2, .slice na nn nc, .slice da dn dc, .map om] 39))
  have hw0 : (w.alloc (.cells #[vi k, vi s, vi f.1, vi f.2.1, vi f.2.2, .slice na nn nc, .slice da dn dc, .map om] 39)).heap.size = w.heap.size + 1 := by simp
  have HBD := Lib.hid hb
  clear hv hb
  go_enter Tryz.func25, Tryz.ntmps25
  go_upto_region 1 with fail
  generalize w.alloc (.cells #[vi k, vi s, vi f.1, vi f.2.1, vi f.2.2, .slice na nn nc, .slice da dn dc, .map om] 39) = w0 at *
  go_upto_region 2 with (go_at_call 38; refine (hof_call _ es w0 HV.out hes).mono ?_; rintro e1 w1 ⟨v1, p1, err, rfl, hok1, hbad1, ⟨a1, n1, c1, rfl⟩, hb1⟩; have HOK := Lib.hid hok1; have HB1 := Lib.hid (HB0.out.trans (hb1.mono HB0.out.size)); have HX1 := Lib.hid ((hb1.block _ (by omega)).trans HX.out); have hlt1 : w.heap.size < w1.heap.size := (by have := hb1.size; omega); clear hok1 hbad1 hb1)
  have x0 : w1.cell? ⟨w.heap.size, 0, none⟩ = some (vi k) := by rw [cell_of HX1.out]; rfl
  by_cases h0 : err = 0
  · obtain ⟨ts, hts, -⟩ := HOK.out h0
    have hl : level ≠ 1 ∧ level ≠ 2 := by
      rcases HBD.out with h | h
      · rw [h] at hts; cases hts
      · exact h
    have e0 : (err != 0) = false := by rw [h0]; rfl
    have l1 := bne_t hl.1
    have l2 := bne_t hl.2
    clear hl hts h0
    go_wp2_with fail
    go_ret
    exact ⟨rfl, HB1.out⟩
  · have c0 := bne_t h0
    clear h0
    go_wp2_with fail
    go_ret
    exact ⟨rfl, HB1.out⟩

end Go.Proofs.YtnacoplokjdglaaGreat

namespace Go.Proofs.YtnacoplokjdglaaGreat
open Go.RowKit Go.Maps
attribute [local go_sem] Oper.semAt_some

/-- Orders, told or nil. -/
def OrdV (w : World) (om : Option Nat) (O : OrdL) : Prop := (om = none ∧ O = []) ∨ ∃ m, om = some m ∧ MapO w m O ∧ OrdR w O
/-- A verdict, told. -/
structure VdX where
  k : Int
  s : Int
  f : Int × Int × Int
  na : Option Addr
  nc : Nat
  N : List (List Int)
  da : Option Addr
  dc : Nat
  dn : List Bool
  om : Option Nat
  O : OrdL
def VdV (w : World) (v : Value) (x : VdX) : Prop := v = .agg #[vi x.k, vi x.s, vi x.f.1, vi x.f.2.1, vi x.f.2.2, .slice x.na x.N.length x.nc, .slice x.da x.dn.length x.dc, .map x.om] ∧ RdNodes w (.slice x.na x.N.length x.nc) x.N ∧ RdB w (.slice x.da x.dn.length x.dc) x.dn ∧ OrdV w x.om x.O

theorem OrdV.later {A B : World} {om : Option Nat} {O : OrdL} (h : OrdV A om O) (hb : Below A.heap.size A B) : OrdV B om O := by
  rcases h with h | ⟨m, h1, h2, h3⟩
  · exact .inl h
  · exact .inr ⟨m, h1, h2.below hb h2.lt, h3.later hb⟩
theorem VdV.later {A B : World} {v : Value} {x : VdX} (h : VdV A v x) (hb : Below A.heap.size A B) : VdV B v x := ⟨h.1, h.2.1.later hb, RdB.later h.2.2.1 hb, h.2.2.2.later hb⟩
theorem LookO.nilMap (w : World) : LookO w (.map none) [] := fun key hk =>
  ⟨.slice none 0 0, fun W _ => Maps.look_nil (e := 58) false intKeyed Tryz.underlying35 (zero_sl W) (intKey (by unfold i64; omega)), rd_nil w, by simp [ordL, getM]⟩
theorem OrdV.look {w : World} {om : Option Nat} {O : OrdL} (h : OrdV w om O) (h60 : ∀ p ∈ O, p.2.2.length ≤ 60) : LookO w (.map om) O := by
  rcases h with ⟨rfl, rfl⟩ | ⟨m, rfl, hm, hr⟩
  · exact LookO.nilMap w
  · exact LookO.of_map hm (fun key v l _ hg => ⟨hr _ (getM_some hg), by have := h60 _ (getM_some hg); simp only at this; omega⟩)

section
open Go.ChangeShapes Go.WideShapes
variable {H : Type} {enc : TypeId × Value → H} {w : World} {spare : Nat → Bool} {held : Bool}
theorem ordl_of : ∀ (l : List MapEntry), (∀ x ∈ l, ∃ p : Int × (Value × List Int), x.key = vi p.1 ∧ x.val = p.2.1 ∧ RdInts w p.2.1 p.2.2) → ∃ O : OrdL, l.map (fun x => (x.key, x.val)) = O.map (fun x => (vi x.1, x.2.1)) ∧ OrdR w O
  | [], _ => ⟨[], rfl, fun p hp => (by cases hp)⟩
  | x :: l, h => by
    obtain ⟨O, h1, h2⟩ := ordl_of l (fun y hy => h y (List.mem_cons_of_mem _ hy))
    obtain ⟨p, k1, k2, k3⟩ := h x List.mem_cons_self
    refine ⟨p :: O, ?_, ?_⟩
    · rw [List.map_cons, List.map_cons, h1, k1, k2]
    · intro q hq
      rcases List.mem_cons.1 hq with rfl | hq
      · exact k3
      · exact h2 q hq
theorem cells_one {t e : TypeId} {v : Value} (ht : Tryz.prog.underlying t = some (.slice e)) (hf : v.formed Tryz.prog t = true) : v.cells.toList = [v] := by
  cases v <;> simp [Value.formed, ht] at hf <;> rfl
set_option maxRecDepth 100000 in
theorem ints_of_trod {m : Nat} {v : Value} {y : DataW H × List MemPlace} (h : DataW.trod enc Tryz.prog w 0 spare held m 58 [v] = some y) : ∃ xs, RdInts w v xs :=
  rds_of_trod (E := EInt) Tryz.underlying58 (show Tryz.prog.cellsOf 3 = 1 from by kernel_rfl) (by omega) h fun m cs y _ hy => by
    obtain ⟨n, rfl, _, hw⟩ := DataW.trod_int Tryz.underlying3 hy
    exact ⟨n, rfl, wf_i64 hw⟩
set_option maxRecDepth 100000 in
theorem ord_of_trod {m : Nat} {cs : List Value} {y : DataW H × List MemPlace} (h : DataW.trod enc Tryz.prog w 0 spare held m 35 cs = some y) : ∃ om O, cs = [.map om] ∧ OrdV w om O := by
  rcases Go.WideElems.open_map Tryz.underlying35 h with ⟨rfl, -⟩ | ⟨b, es, clock, n, -, rfl, hb, -, F, -⟩
  · exact ⟨none, [], rfl, .inl ⟨rfl, rfl⟩⟩
  · obtain ⟨O, h1, h2⟩ := ordl_of (w := w) es.toList (fun x hx => by
      obtain ⟨z, hz⟩ := F.reads x hx
      obtain ⟨k, hk1, -, -⟩ := keyOf_int_inv Tryz.underlying3 (Go.WideElems.rd_key hz)
      unfold Go.WideElems.rd at hz
      simp only [Option.bind_eq_some_iff, Option.map_eq_some_iff] at hz
      obtain ⟨_, _, u, hu, _⟩ := hz
      unfold Go.WideElems.elemAt at hu
      split at hu
      · rename_i hf
        rw [cells_one Tryz.underlying58 hf] at hu
        obtain ⟨l, hl⟩ := ints_of_trod hu
        exact ⟨(k, (x.val, l)), hk1, rfl, hl⟩
      · cases hu)
    refine ⟨some b, O, rfl, .inr ⟨b, rfl, ⟨es, clock, hb, F.stamped, fun x hx => ?_, h1⟩, h2⟩⟩
    obtain ⟨z, hz⟩ := F.reads x hx
    exact ⟨_, Go.WideElems.rd_key hz⟩
set_option maxRecDepth 100000 in
theorem flaw_cellsV {m : Nat} {cs : List Value} {y : DataW H × List MemPlace} (hl : cs.length = 3) (h : DataW.trod enc Tryz.prog w 0 spare held m 32 cs = some y) : ∃ f : Int × Int × Int, cs = [vi f.1, vi f.2.1, vi f.2.2] := by
  obtain ⟨y0, y1, y2, n, -, -, h0, h1, h2⟩ := Deep.trod_struct3 Tryz.underlying32 h
  match cs, hl with
  | [c0, c1, c2], _ =>
    dsimp only at h0 h1 h2
    rw [show Tryz.prog.cellsOf 3 = 1 from by kernel_rfl] at h0 h1 h2
    obtain ⟨a, eh0, -⟩ := DataW.trod_int Tryz.underlying3 h0
    cases eh0
    obtain ⟨b, eh1, -⟩ := DataW.trod_int Tryz.underlying3 h1
    cases eh1
    obtain ⟨c, eh2, -⟩ := DataW.trod_int Tryz.underlying3 h2
    cases eh2
    exact ⟨(a, b, c), rfl⟩
set_option maxRecDepth 100000 in
theorem nodes_of_trod {m : Nat} {v : Value} {y : DataW H × List MemPlace} (h : DataW.trod enc Tryz.prog w 0 spare held m 33 [v] = some y) : ∃ N, RdNodes w v N :=
  rds_of_trod Tryz.underlying33 (show Tryz.prog.cellsOf 70 = 1 from by kernel_rfl) (by omega) h fun m cs y hl hy => by
    match cs, hl with
    | [c0], _ =>
      obtain ⟨xs, n, -, -, -, hlen, hf⟩ := DataW.trod_struct Tryz.underlying70 hy
      match xs, hlen with
      | [y0], _ =>
        have h0 : DataW.trod enc Tryz.prog w 0 spare held n 58 (([c0].drop 0).take (Tryz.prog.cellsOf 58)) = some y0 := hf 0 _ rfl
        rw [show Tryz.prog.cellsOf 58 = 1 from by kernel_rfl] at h0
        obtain ⟨l, hl⟩ := ints_of_trod h0
        exact ⟨l, c0, rfl, hl⟩
set_option maxRecDepth 100000 in
theorem bools_of_trod {m : Nat} {v : Value} {y : DataW H × List MemPlace} (h : DataW.trod enc Tryz.prog w 0 spare held m 34 [v] = some y) : ∃ l, RdB w v l :=
  rds_of_trod (E := EB) Tryz.underlying34 (show Tryz.prog.cellsOf 4 = 1 from by kernel_rfl) (by omega) h fun m cs y hl hy => by
    obtain ⟨b, rfl, -⟩ := DataW.trod_bool Tryz.underlying4 hy
    exact ⟨b, rfl⟩
set_option maxRecDepth 100000 in
theorem proof_cells {m : Nat} {cs : List Value} {y : DataW H × List MemPlace} (hl : cs.length = 6) (h : DataW.trod enc Tryz.prog w 0 spare held m 37 cs = some y) :
    ∃ (f : Int × Int × Int) (nv dv : Value) (om : Option Nat) (N : List (List Int)) (dn : List Bool) (O : OrdL), cs = [vi f.1, vi f.2.1, vi f.2.2, nv, dv, .map om] ∧ RdNodes w nv N ∧ RdB w dv dn ∧ OrdV w om O := by
  obtain ⟨xs, n, -, -, -, hlen, hf⟩ := DataW.trod_struct Tryz.underlying37 h
  match cs, hl, xs, hlen with
  | [c0, c1, c2, c3, c4, c5], _, [y0, y1, y2, y3], _ =>
    have h0 : DataW.trod enc Tryz.prog w 0 spare held n 32 (([c0, c1, c2, c3, c4, c5].drop 0).take (Tryz.prog.cellsOf 32)) = some y0 := hf 0 _ rfl
    have h1 : DataW.trod enc Tryz.prog w 0 spare held n 33 (([c0, c1, c2, c3, c4, c5].drop 3).take (Tryz.prog.cellsOf 33)) = some y1 := hf 1 _ rfl
    have h2 : DataW.trod enc Tryz.prog w 0 spare held n 34 (([c0, c1, c2, c3, c4, c5].drop 4).take (Tryz.prog.cellsOf 34)) = some y2 := hf 2 _ rfl
    have h3 : DataW.trod enc Tryz.prog w 0 spare held n 35 (([c0, c1, c2, c3, c4, c5].drop 5).take (Tryz.prog.cellsOf 35)) = some y3 := hf 3 _ rfl
    rw [show Tryz.prog.cellsOf 32 = 3 from by kernel_rfl] at h0
    rw [show Tryz.prog.cellsOf 33 = 1 from by kernel_rfl] at h1
    rw [show Tryz.prog.cellsOf 34 = 1 from by kernel_rfl] at h2
    rw [show Tryz.prog.cellsOf 35 = 1 from by kernel_rfl] at h3
    obtain ⟨f, hf0⟩ := flaw_cellsV (by rfl) h0
    cases hf0
    obtain ⟨N, hN⟩ := nodes_of_trod h1
    obtain ⟨dn, hd⟩ := bools_of_trod h2
    obtain ⟨om, O, e3, hO⟩ := ord_of_trod h3
    cases e3
    exact ⟨f, c3, c4, om, N, dn, O, rfl, hN, hd, hO⟩
set_option maxRecDepth 100000 in
theorem verdict_of_row {base : Nat} {v : Value} {d : DataW H} {ps : List MemPlace} (hk : Value.okWide Tryz.prog w .any base 39 v) (h : DataW.Trod enc Tryz.prog w 0 spare held 39 v d ps) : ∃ x, VdV w v x := by
  obtain ⟨cs, rfl, hsz⟩ := okWide_struct Tryz.underlying39 hk
  obtain ⟨fuel, hf⟩ := h
  have hl : cs.toList.length = 8 := by rw [Array.length_toList, hsz]; kernel_rfl
  have hcs : cs = cs.toList.toArray := by simp
  rw [hcs]
  have hf' : DataW.trod enc Tryz.prog w 0 spare held fuel 39 cs.toList = some (d, ps) := hf
  generalize cs.toList = l at hl hf'
  clear hf hsz hcs
  obtain ⟨y0, y1, y2, n, -, -, h0, h1, h2⟩ := Deep.trod_struct3 Tryz.underlying39 hf'
  match l, hl with
  | [c0, c1, c2, c3, c4, c5, c6, c7], _ =>
    dsimp only at h0 h1 h2
    rw [show Tryz.prog.cellsOf 3 = 1 from by kernel_rfl] at h0 h1
    rw [show Tryz.prog.cellsOf 37 = 6 from by kernel_rfl] at h2
    obtain ⟨k, eh0, -⟩ := DataW.trod_int Tryz.underlying3 h0
    cases eh0
    obtain ⟨s, eh1, -⟩ := DataW.trod_int Tryz.underlying3 h1
    cases eh1
    obtain ⟨f, nv, dv, om, N, dn, O, e2, hN, hd, hO⟩ := proof_cells (by rfl) h2
    cases e2
    obtain ⟨na, nn, nc, rfl, rfl, -⟩ := id hN
    obtain ⟨da, dl, dc, rfl, rfl, -⟩ := id hd
    exact ⟨⟨k, s, f, na, nc, N, da, dc, dn, om, O⟩, rfl, hN, hd, hO⟩
end
set_option maxRecDepth 100000 in
set_option maxHeartbeats 8000000 in
theorem big12n_call (v : Value) (es : List GEvent) (k s : Int) (f : Int × Int × Int) (na : Option Addr) (nn nc : Nat) (da : Option Addr) (dn dc : Nat) (N : List (List Int)) (w : World) (hv : RdEvents w v es) (hN : RdNodes w (.slice na nn nc) N) :
    Calls Tryz.prog 24 #[v, .agg #[vi k, vi s, vi f.1, vi f.2.1, vi f.2.2, .slice na nn nc, .slice da dn dc, .map none]] w (Big12Q es N dn [] w) := by
  have HX := Lib.hid (alloc_at w (.cells #[vi k, vi s, vi f.1, vi f.2.1, vi f.2.2, .slice na nn nc, .slice da dn dc, .map none] 39))
  have HB0 := Lib.hid ((Below.refl w.heap.size w).alloc (Nat.le_refl _) (.cells #[vi k, vi s, vi f.1, vi f.2.1, vi f.2.2, .slice na nn nc, .slice da dn dc, .map none] 39))
  have HN := Lib.hid (hN.later HB0.out)
  obtain ⟨a, n, c, rfl, rfl, hm, -⟩ := hv.at
  have hw0 : (w.alloc (.cells #[vi k, vi s, vi f.1, vi f.2.1, vi f.2.2, .slice na nn nc, .slice da dn dc, .map none] 39)).heap.size = w.heap.size + 1 := by simp
  clear hv hN
  go_enter Tryz.func24, Tryz.ntmps24
  go_upto_region 1 with fail
  generalize w.alloc (.cells #[vi k, vi s, vi f.1, vi f.2.1, vi f.2.2, .slice na nn nc, .slice da dn dc, .map none] 39) = w0 at *
  have x5 : w0.cell? ⟨w.heap.size, 5, none⟩ = some (.slice na nn nc) := by rw [cell_of HX.out]; rfl
  have x6 : w0.cell? ⟨w.heap.size, 6, none⟩ = some (.slice da dn dc) := by rw [cell_of HX.out]; rfl
  have x7 : w0.cell? ⟨w.heap.size, 7, none⟩ = some (.map none) := by rw [cell_of HX.out]; rfl
  have hln := fun ty => Maps.len_nil (P := Tryz.prog) (w := w0) Tryz.underlying35 ty
  by_cases h1 : (40 : Int) < es.length
  case pos =>
    have d1 : decide ((40 : Int) < es.length) = true := decide_eq_true h1
    clear h1
    go_wp2_with fail
    go_ret
    exact ⟨true, rfl, fun h => (by cases h), HB0.out⟩
  have d1 : decide ((40 : Int) < es.length) = false := decide_eq_false h1
  have h1' : es.length ≤ 40 := by omega
  clear h1
  by_cases h2 : (300 : Int) < nn
  case pos =>
    have d2 : decide ((300 : Int) < nn) = true := decide_eq_true h2
    clear h2
    go_wp2_with fail
    go_ret
    exact ⟨true, rfl, fun h => (by cases h), HB0.out⟩
  have d2 : decide ((300 : Int) < nn) = false := decide_eq_false h2
  have h2' : nn ≤ 300 := by omega
  clear h2
  by_cases h3 : (100 : Int) < dn
  case pos =>
    have d3 : decide ((100 : Int) < dn) = true := decide_eq_true h3
    clear h3
    go_wp2_with fail
    go_ret
    exact ⟨true, rfl, fun h => (by cases h), HB0.out⟩
  have d3 : decide ((100 : Int) < dn) = false := decide_eq_false h3
  have h3' : dn ≤ 100 := by omega
  clear h3
  obtain ⟨_, _, _, e5, hnl, -, -⟩ := id HN.out
  cases e5
  subst hnl
  go_upto_region 4 with fail
  clear hln d1 d2 d3 x5 x6
  go_loopw [37] (fun i wr => ∃ j : Nat, j ≤ N.length ∧ i = .int .i64 j ∧ Hid (∀ C ∈ N.take j, C.length ≤ 60) ∧ Below w0.heap.size w0 wr) (fun i _ => N.length - (intOf i).toNat)
  case atStart => exact ⟨0, Nat.zero_le _, rfl, Lib.hid (fun C hC => by simp at hC), Below.refl _ _⟩
  case round =>
    obtain ⟨wj, rfl⟩ : ∃ wj : World, wj = wr := ⟨_, rfl⟩
    obtain ⟨j, hj, rfl, HC, hb⟩ := hrel
    have HBj := Lib.hid hb
    have HBz := Lib.hid (HB0.out.trans (hb.mono HB0.out.size))
    clear hb
    by_cases hlt : j < N.length
    · have hjI : (j : Int) < (N.length : Int) := by omega
      have wj1 : IntKind.i64.wrap ((j : Int) + 1) = ((j + 1 : Nat) : Int) := by rw [IntWalk.i64_in _ (by omega)]; omega
      obtain ⟨C, hc⟩ := some_at hlt
      obtain ⟨_, _, _, e5, _, _, _, _, hcl⟩ := HN.out.later HBj.out
      cases e5
      obtain ⟨b, off, cs, rfl, hcl2, hcs, u, rfl, hru⟩ := hcl j C hc
      obtain ⟨ua, un, uc, rfl, rfl, hum, -⟩ := hru.at
      have k0 : wj.cell? ⟨b, off + j, none⟩ = some (.slice ua C.length uc) := by have := hcs 0 _ rfl; simpa using this
      have HTK := Lib.hid (take_at hc)
      have HXo := Lib.hid (alloc_at wj (.cells #[.slice ua C.length uc] 70))
      have HBo := Lib.hid (HBj.out.alloc HBj.out.size (.cells #[.slice ua C.length uc] 70))
      have HBzo := Lib.hid (HBz.out.alloc HBz.out.size (.cells #[.slice ua C.length uc] 70))
      clear hcl hcs hru hc
      go_upto_region 6 with fail
      clear k0
      generalize wj.alloc (.cells #[.slice ua C.length uc] 70) = wo at *
      have y0 : wo.cell? ⟨wj.heap.size, 0, none⟩ = some (.slice ua C.length uc) := by rw [cell_of HXo.out]; rfl
      by_cases h6 : (60 : Int) < C.length
      · have d6 : decide ((60 : Int) < C.length) = true := decide_eq_true h6
        clear h6
        go_wp2_with fail
        go_ret
        exact ⟨true, rfl, fun h => (by cases h), HBzo.out⟩
      · have d6 : decide ((60 : Int) < C.length) = false := decide_eq_false h6
        have HCN := Lib.hid (show ∀ D ∈ N.take (j + 1), D.length ≤ 60 from fun D hD => by
          rw [HTK.out, List.mem_append] at hD
          rcases hD with hD | hD
          · exact HC.out D hD
          · rw [List.mem_singleton.1 hD]; omega)
        clear h6
        go_wp2_with fail
        exact ⟨⟨j + 1, by omega, by go_num, Lib.hid HCN.out, HBo.out⟩, by simp only [intOf]; omega⟩
    · obtain rfl : j = N.length := by omega
      have HCA := Lib.hid (show ∀ C ∈ N, C.length ≤ 60 from by have h := HC.out; rwa [List.take_length] at h)
      have HXj := Lib.hid ((HBj.out.block w.heap.size (by omega)).trans HX.out)
      have y7 : wj.cell? ⟨w.heap.size, 7, none⟩ = some (.map none) := by rw [cell_of HXj.out]; rfl
      have hrg := run_range_nilMap (P := Tryz.prog) wj 35 3 58 Tryz.underlying35
      have hnx : ∀ ty, (Instr.next (.pointer (some ⟨wj.heap.size, 0, none⟩)) false ty).run Tryz.prog (wj.alloc (.mapIter none 0 #[] 0)) = _ := fun ty => run_next_nilMap _ ty 0 0 #[]
      have HBi := Lib.hid (HBj.out.alloc HBj.out.size (.mapIter none 0 #[] 0))
      have HBiz := Lib.hid (HBz.out.alloc HBz.out.size (.mapIter none 0 #[] 0))
      go_upto_region 10 with fail
      clear hrg y7
      generalize wj.alloc (.mapIter none 0 #[] 0) = wi at *
      go_loopw [8] (fun _ wr => wr = wi) (fun _ _ => 0)
      case atStart => rfl
      case round =>
        replace hrel := hrel.symm
        subst hrel
        go_wp2_with fail
        go_ret
        exact ⟨false, rfl, fun _ => ⟨h1', h2', h3', by simp, HCA.out, fun p hp => (by cases hp)⟩, HBiz.out⟩
end Go.Proofs.YtnacoplokjdglaaGreat

namespace Go.Proofs.YtnacoplokjdglaaGreat
open Go.RowKit Go.Maps
/-- What is said of two writes is of two that are done. -/
def TwoD (ts : List GTxn) (L : FaL) : Prop := ∀ (c : GChoice) (so : Bool), c.kind ≠ 1 → getM L c = some so → dnM ts L c.a.toNat = true ∧ dnM ts L c.b.toNat = true
theorem next_open {ts : List GTxn} {L : FaL} {c : GChoice} (h : nextM ts L = some c) : openC ts L c = true := List.find?_some h
theorem up_cons {ts : List GTxn} {L : FaL} {c : GChoice} {so : Bool} (h : nextM ts L = some c) : ∀ d b, getM L d = some b → getM ((c, so) :: L) d = some b := fun d b hd => by
  rw [getM_cons]
  split
  · rename_i e
    simp only at e
    subst e
    rw [(nextM_some h).2] at hd; cases hd
  · exact hd
theorem TwoD.next {ts : List GTxn} {L : FaL} {c : GChoice} {so : Bool} (h : TwoD ts L) (hn : nextM ts L = some c) : TwoD ts ((c, so) :: L) := fun d s hk hd => by
  rw [getM_cons] at hd
  split at hd
  · rename_i e
    simp only at e
    subst e
    have ho := next_open hn
    unfold openC at ho
    have hk2 : (c.kind != 2) = false := by
      rcases (choicesM_ok (nextM_some hn).1).kind with ⟨h1, _⟩ | ⟨h1, _⟩
      · exact absurd h1 hk
      · rw [h1]; rfl
    rw [hk2, Bool.false_or, Bool.and_eq_true, Bool.and_eq_true] at ho
    exact ⟨dn_more (up_cons hn) _ ho.2.1, dn_more (up_cons hn) _ ho.2.2⟩
  · obtain ⟨h1, h2⟩ := h d s hk hd
    exact ⟨dn_more (up_cons hn) _ h1, dn_more (up_cons hn) _ h2⟩
theorem TwoD.leaf {ts : List GTxn} {σ : GChoice → Bool} : ∀ {n : Nat} {L : FaL}, TwoD ts L → TwoD ts (leafM ts σ n L)
  | 0, L, h => h
  | n + 1, L, h => by
    unfold leafM
    cases hn : nextM ts L with
    | none => exact h
    | some c => exact TwoD.leaf (h.next hn)
/-- Facts that say all, of choices of the history, and no cycle. -/
structure LeafF (ts : List GTxn) (level : Int) (F : FaL) : Prop where
  ok : FaOk ts F
  nb : ¬ Brk ts F level
  all : nextM ts F = none
  two : TwoD ts F
theorem leaf_found {ts : List GTxn} {level : Int} {F : FaL} (h : (tree0 ts level).found = some F) : LeafF ts level F := by
  obtain ⟨h1, h2, h3, -, σ, h5⟩ := tree_found (FaOk.nil ts) (by rw [said_nil]; omega) h
  refine ⟨h1, h2, h3, ?_⟩
  rw [← h5]
  exact TwoD.leaf (fun c so _ hc => by rw [getM_nil] at hc; cases hc)

theorem all_said {ts : List GTxn} {F : FaL} (h : nextM ts F = none) {c : GChoice} (hc : c ∈ choicesM ts) (h2 : c.kind = 1 ∨ dnM ts F c.a.toNat = true ∧ dnM ts F c.b.toNat = true) : ∃ so, getM F c = some so := by
  have h1 := List.find?_eq_none.1 h c hc
  cases hg : getM F c with
  | some so => exact ⟨so, rfl⟩
  | none =>
    exfalso
    apply h1
    unfold openC
    rw [hg]
    rcases h2 with h2 | ⟨h2, h3⟩
    · rw [h2]; rfl
    · unfold dnM at h2 h3
      rw [h2, h3]; simp
/-- An order that says of each two who is ahead, and never goes round, is a row. -/
theorem row_of {R : Int → Int → Bool} : ∀ {D : List Int}, D.Nodup → (∀ x ∈ D, ∀ y ∈ D, x ≠ y → R x y = true ∨ R y x = true) → (∀ x ∈ D, ∀ y ∈ D, ∀ z ∈ D, R x y = true → R y z = true → R x z = true) → ∃ E, D.Perm E ∧ E.Pairwise (fun x y => R x y = true)
  | [], _, _, _ => ⟨[], List.Perm.refl _, List.Pairwise.nil⟩
  | x :: D, hn, ht, hr => by
    rw [List.nodup_cons] at hn
    obtain ⟨E, hp, hE⟩ := row_of hn.2 (fun a ha b hb => ht a (List.mem_cons_of_mem _ ha) b (List.mem_cons_of_mem _ hb)) (fun a ha b hb c hc => hr a (List.mem_cons_of_mem _ ha) b (List.mem_cons_of_mem _ hb) c (List.mem_cons_of_mem _ hc))
    have hx : x ∈ x :: D := List.mem_cons_self
    have hm : ∀ y ∈ E, y ∈ x :: D := fun y hy => List.mem_cons_of_mem _ (hp.mem_iff.2 hy)
    have hne : ∀ y ∈ E, y ≠ x := fun y hy e => by subst e; exact hn.1 (hp.mem_iff.2 hy)
    refine ⟨E.filter (fun y => R y x) ++ x :: E.filter (fun y => !(R y x)), ?_, ?_⟩
    · have h1 : (E.filter (fun y => R y x) ++ E.filter (fun y => !(R y x))).Perm E := List.filter_append_perm _ _
      exact ((hp.trans h1.symm).cons x).trans List.perm_middle.symm
    · rw [List.pairwise_append]
      refine ⟨hE.filter _, ?_, ?_⟩
      · rw [List.pairwise_cons]
        refine ⟨fun y hy => ?_, hE.filter _⟩
        rw [List.mem_filter] at hy
        rcases ht y (hm y hy.1) x hx (hne y hy.1) with h | h
        · rw [h] at hy; simp at hy
        · exact h
      · intro a ha b hb
        rw [List.mem_filter] at ha
        rcases List.mem_cons.1 hb with rfl | hb
        · exact ha.2
        · rw [List.mem_filter] at hb
          rcases ht b (hm b hb.1) x hx (hne b hb.1) with h | h
          · rw [h] at hb; simp at hb
          · exact hr a (hm a ha.1) x hx b (hm b hb.1) ha.2 h

section
variable {ts : List GTxn} {level : Int} {F : FaL}
theorem in_wrl {key x : Int} : x ∈ wrl ts F key ↔ ∃ i : Nat, i < ts.length ∧ x = i ∧ dnM ts F i = true ∧ wrOf ts i key = true := by
  rw [wrl_mem]
  unfold inW dnM
  simp only [Bool.and_eq_true]
theorem LeafF.pair (hu : Uniq ts) (h : LeafF ts level F) {key : Nat} (hk : key < 16) {x y : Int} (hx : x ∈ wrl ts F key) (hy : y ∈ wrl ts F key) (hxy : x ≠ y) : ∃ so, getM F ⟨2, key, min x y, max x y⟩ = some so := by
  obtain ⟨i, hi, rfl, di, wi⟩ := in_wrl.1 hx
  obtain ⟨j, hj, rfl, dj, wj⟩ := in_wrl.1 hy
  have si := is_alive hu (F := F) (i := i) di
  have sj := is_alive hu (F := F) (i := j) dj
  have hij : i ≠ j := fun e => hxy (by rw [e])
  have c : ∀ {a b : Nat}, wrOf ts a key = true → stOf ts a ≠ 2 → wrOf ts b key = true → stOf ts b ≠ 2 → condB ts key a b = true := fun wa sa wb sb => by
    unfold condB
    rw [wa, wb, bne_iff_ne.2 sa, bne_iff_ne.2 sb]; rfl
  rcases Nat.lt_or_gt_of_ne hij with h2 | h2
  · rw [show min (i : Int) j = i by omega, show max (i : Int) j = j by omega]
    exact all_said h.all (befK_in hk h2 hj (c wi si wj sj)) (.inr ⟨by simpa using di, by simpa using dj⟩)
  · rw [show min (i : Int) j = j by omega, show max (i : Int) j = i by omega]
    exact all_said h.all (befK_in hk h2 hi (c wj sj wi si)) (.inr ⟨by simpa using dj, by simpa using di⟩)
theorem wr_any {i : Nat} {key : Int} (h : wrOf ts i key = true) : ∃ t, ts[i]? = some t ∧ t.ops.any (wkB key) = true := by
  unfold wrOf at h
  cases ht : ts[i]? with
  | none => rw [ht] at h; cases h
  | some t => rw [ht] at h; exact ⟨t, rfl, h⟩
/-- Who is ahead of whom by the facts is so by an edge. -/
theorem ahead_edge {key x y : Int} (hx : x ∈ wrl ts F key) (hy : y ∈ wrl ts F key) (h : aheadOf F key x y = true) : (⟨x, y, 1⟩ : GEdge) ∈ edgeL ts F := by
  unfold aheadOf at h
  cases hg : getM F ⟨2, key, min x y, max x y⟩ with
  | none => rw [hg] at h; cases h
  | some so =>
    rw [hg] at h
    simp only [Bool.and_eq_true, bne_iff_ne, ne_eq, beq_iff_eq] at h
    obtain ⟨hne, hso⟩ := h
    have hw : ∀ {z : Int}, z ∈ wrl ts F key → has1 ts (dnM ts F) key z = true := fun hz => by
      obtain ⟨i, hi, rfl, di, wi⟩ := in_wrl.1 hz
      obtain ⟨t, ht, ha⟩ := wr_any wi
      exact has1_iff.2 ⟨i, t, rfl, ht, di, ha⟩
    refine edge_mem.2 (.inr (.inr ⟨(⟨2, key, min x y, max x y⟩, so), getM_some hg, x, y, rfl, ?_, ?_, .inl ⟨fun e => hne e.symm, rfl⟩⟩))
    · unfold hasM
      rcases Int.le_total x y with h1 | h1
      · rw [show min x y = x by omega, show max x y = y by omega, Bool.and_eq_true]; exact ⟨hw hx, hw hy⟩
      · rw [show min x y = y by omega, show max x y = x by omega, Bool.and_eq_true]; exact ⟨hw hy, hw hx⟩
    · rcases Int.lt_or_gt_of_ne hne with h1 | h1
      · right
        have : decide (x < y) = false := decide_eq_false (by omega)
        exact ⟨by rw [hso, this], by show x = max x y; omega, by show y = min x y; omega⟩
      · left
        have : decide (x < y) = true := decide_eq_true (by omega)
        exact ⟨by rw [hso, this], by show x = min x y; omega, by show y = max x y; omega⟩
theorem LeafF.row (hg : GoodTs ts) (hE : ∃ l, EdgesOf ts F l) (h : LeafF ts level F) {key : Nat} (hk : key < 16) : onceB F key (wrl ts F key) = true := by
  obtain ⟨l, hl⟩ := hE
  have tot : ∀ x ∈ wrl ts F key, ∀ y ∈ wrl ts F key, x ≠ y → aheadOf F key x y = true ∨ aheadOf F key y x = true := fun x hx y hy hxy => by
    obtain ⟨so, hs⟩ := h.pair hg.uniq hk hx hy hxy
    have hs' : getM F ⟨2, key, min y x, max y x⟩ = some so := by rw [Int.min_comm y x, Int.max_comm y x]; exact hs
    unfold aheadOf
    rw [hs, hs']
    simp only [Bool.and_eq_true, bne_iff_ne, ne_eq, beq_iff_eq]
    rcases Int.lt_or_gt_of_ne hxy with h1 | h1
    · have e1 : decide (x < y) = true := decide_eq_true h1
      have e2 : decide (y < x) = false := decide_eq_false (by omega)
      rw [e1, e2]
      cases so
      · exact .inr ⟨hxy, rfl⟩
      · exact .inl ⟨fun e => hxy e.symm, rfl⟩
    · have e1 : decide (x < y) = false := decide_eq_false (by omega)
      have e2 : decide (y < x) = true := decide_eq_true h1
      rw [e1, e2]
      cases so
      · exact .inl ⟨fun e => hxy e.symm, rfl⟩
      · exact .inr ⟨hxy, rfl⟩
  have arc : ∀ {x y : Int}, x ∈ wrl ts F key → y ∈ wrl ts F key → aheadOf F key x y = true → ArcK l (level == 1) x y := fun hx hy ha => .inl ⟨_, (hl.2 _).2 (ahead_edge hx hy ha), .inr (by show ¬ ((1 : Int) = 3); decide), rfl, rfl⟩
  have tr : ∀ x ∈ wrl ts F key, ∀ y ∈ wrl ts F key, ∀ z ∈ wrl ts F key, aheadOf F key x y = true → aheadOf F key y z = true → aheadOf F key x z = true := fun x hx y hy z hz h1 h2 => by
    by_cases hxz : x = z
    · subst hxz
      rw [aheadOf_asy F key x y h1] at h2; cases h2
    · rcases tot x hx z hz hxz with h3 | h3
      · exact h3
      · exact absurd ⟨l, hl, x, .more (arc hx hy h1) (.more (arc hy hz h2) (.one (arc hz hx h3)))⟩ h.nb
  obtain ⟨E, hp, hE⟩ := row_of (wrlK_nodup ts F key _) tot tr
  exact chain_once hp hE

theorem LeafF.rows (hg : GoodTs ts) (hE : ∃ l, EdgesOf ts F l) (h : LeafF ts level F) {key : Nat} (hk : key < 16) : ∃ E, (wrl ts F key).Perm E ∧ E.Pairwise (fun x y => aheadOf F key x y = true) := by
  have ho := h.row hg hE hk
  refine ⟨(wrl ts F key).mergeSort (fun x y => decide (aheadN F key (wrl ts F key) y ≤ aheadN F key (wrl ts F key) x)), (List.mergeSort_perm _ _).symm, ?_⟩
  have hs := List.pairwise_mergeSort (le := fun x y => decide (aheadN F key (wrl ts F key) y ≤ aheadN F key (wrl ts F key) x)) (fun a b c h1 h2 => by simp at *; omega) (fun a b => by simp; omega) (wrl ts F key)
  refine chain_sorted ho (List.mergeSort_perm _ _).symm (fun j k hj hk hjk => ?_)
  have := List.pairwise_iff_getElem.1 hs j k hj hk hjk
  simpa using this
/-- Who is done by some facts. -/
def dnL (ts : List GTxn) (F : FaL) : List Bool := (List.range ts.length).map (dnM ts F)
theorem dnL_at {i : Nat} (hi : i < ts.length) : (dnL ts F)[i]?.getD false = dnM ts F i := by
  unfold dnL
  rw [List.getElem?_map, List.getElem?_range hi]; rfl
theorem wrl_want (key : Int) : wrl ts F key = wantL ts (dnL ts F) key ts.length := by
  have h : ∀ n, n ≤ ts.length → wrlK ts F key n = wantL ts (dnL ts F) key n := by
    intro n
    induction n with
    | zero => intro _; rfl
    | succ n ih =>
      intro hn
      rw [wrlK_succ, wantL_succ, ih (by omega), dnL_at (by omega)]; rfl
  exact h _ (Nat.le_refl _)
theorem LeafF.fixO {O : OrdL} (h : LeafF ts level F) (hO : ∀ key : Nat, key < 16 → (wrl ts F key).Perm (ordL O key) ∧ (ordL O key).Pairwise (fun x y => aheadOf F key x y = true)) : FixF ts (dnL ts F) O F := by
  refine ⟨fun c hk => ?_, fun i hi => (dnL_at hi).symm, fun key hk => ?_, fun key hk b a x y hab hb ha hbb => ?_, fun c so hk hc => ?_⟩
  · by_cases hc : c ∈ choicesM ts
    · rw [if_pos hc]
      obtain ⟨so, hs⟩ := all_said h.all hc (.inl hk)
      rw [hs]
      have hc0 := hc
      unfold choicesM at hc0
      rw [List.mem_append] at hc0
      rcases hc0 with h1 | h1
      · unfold cmS at h1
        rw [List.mem_filterMap] at h1
        obtain ⟨i, hi, h1⟩ := h1
        rw [List.mem_range] at hi
        cases ht : ts[i]? with
        | none => rw [ht] at h1; cases h1
        | some t =>
          rw [ht] at h1
          simp only [Option.bind_some] at h1
          split at h1
          · rename_i ho
            cases h1
            unfold openB at ho
            simp only [Bool.and_eq_true, Bool.not_eq_true', decide_eq_true_eq, beq_iff_eq] at ho
            rw [Int.toNat_natCast, dnL_at hi]
            unfold dnM isM
            rw [if_neg (by rw [ho.1.2]; simp), if_neg ?_, hs]
            · rfl
            · unfold deadB stOf
              rw [ht]
              simp only [Option.map_some, Option.getD_some, Bool.or_eq_true, beq_iff_eq, not_or]
              omega
          · cases h1
      · obtain ⟨k, a, b, _, _, _, rfl⟩ := befK_mem h1
        simp at hk
    · rw [if_neg hc]
      cases hs : getM F c with
      | none => rfl
      | some so => exact absurd (h.ok.mem _ (getM_some hs)) hc
  · have h1 := (hO key hk).1
    exact srt_is (by rw [← wrl_want]; exact h1.symm)
  · have h1 := List.pairwise_iff_getElem.1 (hO key hk).2
    have la := (List.getElem?_eq_some_iff.1 ha).1
    have lb := (List.getElem?_eq_some_iff.1 hbb).1
    have h2 := h1 a b la lb hab
    rw [(List.getElem?_eq_some_iff.1 ha).2, (List.getElem?_eq_some_iff.1 hbb).2] at h2
    unfold aheadOf at h2
    cases hs : getM F ⟨2, key, min x y, max x y⟩ with
    | none => rw [hs] at h2; cases h2
    | some so =>
      rw [hs] at h2
      simp only [Bool.and_eq_true, beq_iff_eq] at h2
      rw [h2.2]
  · have hm := h.ok.mem _ (getM_some hc)
    obtain ⟨da, db⟩ := h.two c so hk hc
    unfold choicesM at hm
    rw [List.mem_append] at hm
    rcases hm with h1 | h1
    · obtain ⟨i, _, _, h2⟩ := cmS_mem h1
      simp only at h2
      subst h2; simp at hk
    · unfold befK at h1
      obtain ⟨key, hkey, h1⟩ := List.mem_flatMap.1 h1
      unfold befB at h1
      obtain ⟨b, hb, h1⟩ := List.mem_flatMap.1 h1
      unfold befA at h1
      obtain ⟨a, ha, h1⟩ := List.mem_filterMap.1 h1
      rw [List.mem_range] at hkey ha hb
      split at h1
      · rename_i hcond
        have h2 := Option.some.inj h1
        simp only at h2
        subst h2
        unfold condB at hcond
        simp only [Bool.and_eq_true] at hcond
        have p := (hO key hkey).1
        refine ⟨key, hkey, a, b, p.mem_iff.1 (in_wrl.2 ⟨a, by omega, rfl, by simpa using da, hcond.1.2⟩), p.mem_iff.1 (in_wrl.2 ⟨b, hb, rfl, by simpa using db, hcond.2⟩), by omega, ?_⟩
        rw [show min (a : Int) b = a by omega, show max (a : Int) b = b by omega]
      · cases h1
end
end Go.Proofs.YtnacoplokjdglaaGreat
