/- Texts of one proof, one behind the other: DpBrk, ChAllP, CkP, CkW. -/
import Derived.Lib.SliceRun
import Derived.RangeFuncNested
import Derived.RangeFuncBound
import Derived.RangeFuncCalls
import Derived.RangeFuncLeaves
import Derived.RangeFuncBox
import Derived.Shelf.Abstract
import Derived.Shelf.RegionOpen
import Derived.OwnWalkIn
import Derived.TacticsInMore
import Derived.LoopNIn
import Derived.LoopIn
import Derived.Test.YtnacoplokjdglaaGreatKa1
import Derived.Test.YtnacoplokjdglaaGreatKa2
import Derived.Test.YtnacoplokjdglaaGreatKa3
import Derived.Test.YtnacoplokjdglaaGreatKa4
import Derived.Test.YtnacoplokjdglaaGreatKa5
import Derived.Test.YtnacoplokjdglaaGreatKa6
import Derived.Test.YtnacoplokjdglaaGreatKa7
import Derived.Test.YtnacoplokjdglaaGreatKa8
import Derived.Test.YtnacoplokjdglaaGreatKa9
import Derived.Test.YtnacoplokjdglaaGreatKa10
import Derived.Test.YtnacoplokjdglaaGreatKa11
import Derived.Test.YtnacoplokjdglaaGreatKa12
set_option linter.all false
namespace Go.Proofs.YtnacoplokjdglaaGreat
open Go.RowKit Go.Maps

theorem Way.map {α β : Type} {r : α → α → Prop} {s : β → β → Prop} (f : α → β) (h : ∀ a b, r a b → s (f a) (f b)) {a b : α} (hw : Way r a b) : Way s (f a) (f b) := by
  induction hw with
  | one h1 => exact .one (h _ _ h1)
  | more h1 _ ih => exact .more (h _ _ h1) ih
theorem Rounds.map {α β : Type} {r : α → α → Prop} {s : β → β → Prop} (f : α → β) (h : ∀ a b, r a b → s (f a) (f b)) (hr : Rounds r) : Rounds s := by
  obtain ⟨a, hw⟩ := hr
  exact ⟨f a, hw.map f h⟩
theorem rounds_arcK {n : Nat} {l : List GEdge} (level : Int) (h : InN n l) : Rounds (ArcT (nextT n (liftL l level))) ↔ Rounds (ArcK l (level == 1)) := by
  constructor
  · exact Rounds.map (fun u : Nat => (u : Int)) (fun a b hab => (lift_mem l level _ _).1 (arcT_iff.1 hab).1)
  · refine Rounds.map Int.toNat (fun a b hab => ?_)
    have := (arcN_iff h level a b).2 hab
    obtain ⟨h1, h2, h3⟩ := this
    refine arcT_iff.2 ⟨?_, by omega, by omega⟩
    rw [show ((a.toNat : Nat) : Int) = a by omega, show ((b.toNat : Nat) : Int) = b by omega]
    exact h1
/-- The facts say a cycle that the level forbids. -/
def Brk (ts : List GTxn) (L : FaL) (level : Int) : Prop := ∃ l, EdgesOf ts L l ∧ Rounds (ArcK l (level == 1))
theorem brk_cyc {ts : List GTxn} {L : FaL} {level : Int} {l : List GEdge} {C : List Nat} (hn : ts.length ≤ 60) (he : EdgesOf ts L l) (hc : CycI (nextT (sizeM ts.length) (liftL l level)) (sizeM ts.length) C) : 0 < C.length ↔ Brk ts L level := by
  have hs : sizeM ts.length = ts.length := by unfold sizeM; rw [if_neg (by omega), if_neg (by omega)]; omega
  rw [hs] at hc
  have hl : (nextT ts.length (liftL l level)).length = ts.length := nextT_len _ _
  have hc' : CycI (nextT ts.length (liftL l level)) (nextT ts.length (liftL l level)).length C := by rw [hl]; exact hc
  have h1 := hc'.rounds
  rw [rounds_arcK level (edges_in he)] at h1
  constructor
  · intro h
    refine ⟨l, he, Classical.byContradiction fun hr => ?_⟩
    rw [h1.2 hr] at h
    simp at h
  · rintro ⟨l', he', hr⟩
    have : l' = l := edges_ext he'.1 he.1 (fun p => (he'.2 p).trans (he.2 p).symm)
    subst this
    rcases Nat.eq_zero_or_pos C.length with h0 | h0
    · exact absurd hr (h1.1 (List.length_eq_zero_iff.1 h0))
    · exact h0
/-- More facts: whoever is done stays done, each edge stays. -/
theorem dn_more {ts : List GTxn} {L H : FaL} (h : ∀ c b, getM L c = some b → getM H c = some b) (i : Nat) (hd : dnM ts L i = true) : dnM ts H i = true := by
  unfold dnM isM at *
  split at hd
  · rename_i hs; rw [if_pos hs]
  · rename_i hs
    rw [if_neg hs]
    split at hd
    · cases hd
    · rename_i h2
      rw [if_neg h2]
      simp only at hd ⊢
      cases hg : getM L ⟨1, 0, i, 0⟩ with
      | none => rw [hg] at hd; cases hd
      | some b => rw [h _ _ hg]; rw [hg] at hd; exact hd
theorem edge_more {ts : List GTxn} {L H : FaL} (hp : L.Pairwise (fun p q => p.1 ≠ q.1)) (h : ∀ c b, getM L c = some b → getM H c = some b) (e : GEdge) (he : e ∈ edgeL ts L) : e ∈ edgeL ts H := by
  have hr : ∀ r, r ∈ rdsL ts (dnM ts L) → r ∈ rdsL ts (dnM ts H) := fun r hr => by
    obtain ⟨i, t, o, h1, h2, h3, h4, h5⟩ := rds_mem.1 hr
    exact rds_mem.2 ⟨i, t, o, h1, h2, h3, h4.imp_right (dn_more h _), h5⟩
  have hm : ∀ c, hasM ts (dnM ts L) c = true → hasM ts (dnM ts H) c = true := fun c hc => by
    unfold hasM at *
    rw [Bool.and_eq_true, has1_iff, has1_iff] at *
    obtain ⟨⟨n, t, h1, h2, h3, h4⟩, ⟨m, u, h5, h6, h7, h8⟩⟩ := hc
    exact ⟨⟨n, t, h1, h2, dn_more h _ h3, h4⟩, ⟨m, u, h5, h6, dn_more h _ h7, h8⟩⟩
  rcases edge_mem.1 he with ⟨r, h1, h2, h3, h4⟩ | ⟨i, t, o, r, h1, h2, h3, h4, h5⟩ | ⟨p, h1, a, b, h2, h3, h4, h5⟩
  · exact edge_mem.2 (.inl ⟨r, hr r h1, h2, h3, h4⟩)
  · exact edge_mem.2 (.inr (.inl ⟨i, t, o, r, h1, dn_more h _ h2, h3, hr r h4, h5⟩))
  · refine edge_mem.2 (.inr (.inr ⟨p, getM_some (h _ _ (getM_of_mem hp h1)), a, b, h2, hm _ h3, h4, h5.imp_right ?_⟩))
    rintro ⟨r, h6, h7⟩
    exact ⟨r, hr r h6, h7⟩

end Go.Proofs.YtnacoplokjdglaaGreat

namespace Go.Proofs.YtnacoplokjdglaaGreat
open Go.RowKit Go.Maps

theorem countP_one {α : Type} [DecidableEq α] {p q : α → Bool} {c : α} (hq : ∀ d, q d = (decide (c = d) || p d)) (hp : p c = false) : ∀ {C : List α}, C.Nodup → (c ∈ C → C.countP q = C.countP p + 1) ∧ (c ∉ C → C.countP q = C.countP p)
  | [], _ => ⟨fun h => by simp at h, fun _ => rfl⟩
  | d :: C, hn => by
    rw [List.nodup_cons] at hn
    have ih := countP_one hq hp hn.2
    refine ⟨fun h => ?_, fun h => ?_⟩
    · by_cases hd : c = d
      · subst hd
        rw [List.countP_cons, List.countP_cons, (ih).2 hn.1, hq c, hp]
        simp
      · have hc : c ∈ C := by
          rcases List.mem_cons.1 h with h | h
          · exact absurd h hd
          · exact h
        rw [List.countP_cons, List.countP_cons, ih.1 hc, hq d]
        simp [hd]; omega
    · have h1 : c ≠ d := fun e => h (by rw [e]; exact List.mem_cons_self)
      have h2 : c ∉ C := fun e => h (List.mem_cons_of_mem _ e)
      rw [List.countP_cons, List.countP_cons, ih.2 h2, hq d]
      simp [h1]
theorem countP_lt {α : Type} {p : α → Bool} {c : α} {C : List α} (hc : c ∈ C) (hp : p c = false) : C.countP p < C.length := by
  rcases Nat.lt_or_ge (C.countP p) C.length with h | h
  · exact h
  · have := List.countP_eq_length.1 (Nat.le_antisymm List.countP_le_length h) c hc
    rw [hp] at this; cases this

/-- How many of a history's choices are said. -/
def saidN (ts : List GTxn) (L : FaL) : Nat := (choicesM ts).countP (fun c => (getM L c).isSome)
theorem nextM_some {ts : List GTxn} {L : FaL} {c : GChoice} (h : nextM ts L = some c) : c ∈ choicesM ts ∧ getM L c = none := by
  unfold nextM at h
  refine ⟨List.mem_of_find?_eq_some h, ?_⟩
  have h1 := List.find?_some h
  unfold openC at h1
  cases hg : getM L c with
  | none => rfl
  | some b => rw [hg] at h1; simp at h1
theorem said_next {ts : List GTxn} {L H : FaL} {c : GChoice} {so : Bool} (h : nextM ts L = some c) (hH : ∀ d, getM H d = if c = d then some so else getM L d) : saidN ts H = saidN ts L + 1 ∧ saidN ts L < (choicesM ts).length := by
  obtain ⟨h1, h2⟩ := nextM_some h
  refine ⟨(countP_one (c := c) (fun d => ?_) (by rw [h2]; rfl) (choicesM_nodup ts)).1 h1, countP_lt h1 (by rw [h2]; rfl)⟩
  rw [hH d]
  by_cases hd : c = d <;> simp [hd]
end Go.Proofs.YtnacoplokjdglaaGreat

namespace Go.Proofs.YtnacoplokjdglaaGreat
open Go.RowKit Go.Maps
/-- The same facts, each choice once. -/
structure SameF (L H : FaL) : Prop where
  get : ∀ c, getM L c = getM H c
  len : H.length = L.length
theorem SameF.refl (L : FaL) : SameF L L := ⟨fun _ => rfl, rfl⟩
theorem isM_same {ts : List GTxn} {L H : FaL} (h : ∀ c, getM L c = getM H c) (i : Nat) : isM ts L i = isM ts H i := by unfold isM; rw [h]
theorem openC_same {ts : List GTxn} {L H : FaL} (h : ∀ c, getM L c = getM H c) (c : GChoice) : openC ts L c = openC ts H c := by
  unfold openC; rw [h, isM_same h, isM_same h]
theorem nextM_same {ts : List GTxn} {L H : FaL} (h : ∀ c, getM L c = getM H c) : nextM ts L = nextM ts H := by
  unfold nextM
  rw [show openC ts L = openC ts H from funext (openC_same h)]
theorem edges_same {ts : List GTxn} {L H : FaL} (hL : L.Pairwise (fun p q => p.1 ≠ q.1)) (hH : H.Pairwise (fun p q => p.1 ≠ q.1)) (h : ∀ c, getM L c = getM H c) {l : List GEdge} (he : EdgesOf ts H l) : EdgesOf ts L l :=
  ⟨he.1, fun e => (he.2 e).trans ⟨fun h1 => edge_more hH (fun c b hb => by rw [h]; exact hb) e h1, fun h1 => edge_more hL (fun c b hb => by rw [← h]; exact hb) e h1⟩⟩
theorem brk_same {ts : List GTxn} {L H : FaL} (hL : L.Pairwise (fun p q => p.1 ≠ q.1)) (hH : H.Pairwise (fun p q => p.1 ≠ q.1)) (h : ∀ c, getM L c = getM H c) {level : Int} : Brk ts L level ↔ Brk ts H level :=
  ⟨fun ⟨l, h1, h2⟩ => ⟨l, edges_same hH hL (fun c => (h c).symm) h1, h2⟩, fun ⟨l, h1, h2⟩ => ⟨l, edges_same hL hH h h1, h2⟩⟩
/-- A cycle that some facts say; empty: none. -/
def NodeC (ts : List GTxn) (L : FaL) (level : Int) (C : List Nat) : Prop := ∃ l, EdgesOf ts L l ∧ CycI (nextT (sizeM ts.length) (liftL l level)) (sizeM ts.length) C
theorem NodeC.brk {ts : List GTxn} {L : FaL} {level : Int} {C : List Nat} (hn : ts.length ≤ 60) (h : NodeC ts L level C) : 0 < C.length ↔ Brk ts L level := by
  obtain ⟨l, h1, h2⟩ := h
  exact brk_cyc hn h1 h2
theorem NodeC.same {ts : List GTxn} {L H : FaL} (hL : L.Pairwise (fun p q => p.1 ≠ q.1)) (hH : H.Pairwise (fun p q => p.1 ≠ q.1)) (h : ∀ c, getM L c = getM H c) {level : Int} {C : List Nat} (hc : NodeC ts H level C) : NodeC ts L level C := by
  obtain ⟨l, h1, h2⟩ := hc
  exact ⟨l, edges_same hL hH h h1, h2⟩

/-- The search through all choices. -/
inductive WT where
  | bad (L : FaL)
  | good (L : FaL)
  | node (L : FaL) (a b : WT)
open Classical in
noncomputable def treeM (ts : List GTxn) (level : Int) : Nat → FaL → WT
  | 0, L => if Brk ts L level then .bad L else .good L
  | n + 1, L => if Brk ts L level then .bad L else match nextM ts L with
    | none => .good L
    | some c => .node L (treeM ts level n ((c, true) :: L)) (treeM ts level n ((c, false) :: L))
/-- Is there an answer? -/
def WT.res : WT → Bool
  | .bad _ => false
  | .good _ => true
  | .node _ a b => a.res || b.res
/-- The steps until there is one. -/
def WT.size : WT → Nat
  | .bad _ => 1
  | .good _ => 1
  | .node _ a b => 1 + a.size + (if a.res then 0 else b.size)
def WT.found : WT → Option FaL
  | .bad _ => none
  | .good L => some L
  | .node _ a b => a.found.or b.found
/-- The cycles of the steps. -/
def Nodes (ts : List GTxn) (level : Int) : WT → List (List Nat) → Prop
  | .bad L, l => ∃ C, l = [C] ∧ C ≠ [] ∧ NodeC ts L level C
  | .good _, l => l = [[]]
  | .node _ a b, l => ∃ l1 l2, Nodes ts level a l1 ∧ Nodes ts level b l2 ∧ l = [] :: (l1 ++ l2)
theorem WT.size_pos : ∀ t : WT, 1 ≤ t.size
  | .bad _ => Nat.le_refl _
  | .good _ => Nat.le_refl _
  | .node _ a b => by unfold WT.size; omega
theorem WT.found_res : ∀ t : WT, t.found.isSome = t.res
  | .bad _ => rfl
  | .good _ => rfl
  | .node _ a b => by
    unfold WT.found WT.res
    rw [← WT.found_res a, ← WT.found_res b]
    cases a.found <;> rfl
theorem Nodes.len {ts : List GTxn} {level : Int} : ∀ {t : WT} {l : List (List Nat)}, t.res = false → Nodes ts level t l → l.length = t.size
  | .bad _, l, _, h => by obtain ⟨C, rfl, _⟩ := h; rfl
  | .good _, l, h, _ => by simp [WT.res] at h
  | .node _ a b, l, hr, h => by
    obtain ⟨l1, l2, h1, h2, rfl⟩ := h
    simp only [WT.res, Bool.or_eq_false_iff] at hr
    have g1 := Nodes.len hr.1 h1
    have g2 := Nodes.len hr.2 h2
    simp [WT.size, hr.1, g1, g2]; omega

/-- How a search ends that begins behind s steps, with so many allowed: is there an answer; the steps; were they too few. -/
def endB (t : WT) (s B : Int) : Bool := decide (s + t.size ≤ B) && t.res
def endS (t : WT) (s B : Int) : Int := if s + t.size ≤ B then s + t.size else max s B
def endO (t : WT) (s B : Int) : Bool := decide (B < s + t.size)

theorem treeM_bad {ts : List GTxn} {level : Int} {n : Nat} {L : FaL} (h : Brk ts L level) : treeM ts level n L = .bad L := by cases n <;> (rw [treeM, if_pos h])
theorem treeM_good {ts : List GTxn} {level : Int} {n : Nat} {L : FaL} (h : ¬ Brk ts L level) (hn : nextM ts L = none) : treeM ts level n L = .good L := by
  cases n with
  | zero => rw [treeM, if_neg h]
  | succ n => rw [treeM, if_neg h, hn]
theorem treeM_node {ts : List GTxn} {level : Int} {n : Nat} {L : FaL} {c : GChoice} (h : ¬ Brk ts L level) (hn : nextM ts L = some c) : treeM ts level (n + 1) L = .node L (treeM ts level n ((c, true) :: L)) (treeM ts level n ((c, false) :: L)) := by
  rw [treeM, if_neg h, hn]
/-- Facts that name choices stay such. -/
theorem FaOk.nil (ts : List GTxn) : FaOk ts [] := ⟨(fun p h => by cases h), List.nodup_nil⟩
theorem FaOk.next {ts : List GTxn} {L : FaL} (h : FaOk ts L) {c : GChoice} {so : Bool} (hn : nextM ts L = some c) : FaOk ts ((c, so) :: L) := by
  obtain ⟨h1, h2⟩ := nextM_some hn
  refine ⟨fun p hp => ?_, ?_⟩
  · rcases List.mem_cons.1 hp with rfl | hp
    · exact h1
    · exact h.mem p hp
  · rw [List.map_cons, List.nodup_cons]
    refine ⟨fun hm => ?_, h.nd⟩
    obtain ⟨p, hp, hpc⟩ := List.mem_map.1 hm
    exact getM_none.1 h2 p hp hpc

end Go.Proofs.YtnacoplokjdglaaGreat

namespace Go.Proofs.YtnacoplokjdglaaGreat
open Go.RowKit Go.Maps
attribute [local go_sem] Oper.semAt_some

theorem grown_put (W : World) (b o : Nat) (v : Value) : W.grownBy (W.setCell ⟨b, o, none⟩ v) (some b) := ⟨rfl, rfl, rfl, by simp [World.setCell], fun k _ hk => Below.heap_setCell _ _ _ k (fun e => hk (by rw [e]))⟩
/-- A row of another kind stays while a box is written. -/
theorem own_boxed {A B : World} {b n m p : Nat} {e T : TypeId} {v : Value} {xs : List Value} {cs : Array Value} (h : A.ownsRow b e n v m xs) (hp : A.heap[p]? = some (.cells cs T)) (hT : T ≠ e) (hg : A.grownBy B (some p)) : B.ownsRow b e n v m xs :=
  h.kept hg (by
    cases hv : v.ownBlock with
    | none => exact .inl rfl
    | some k =>
      refine .inr (fun e1 => ?_)
      have e3 : k = p := by simpa using e1
      subst e3
      rcases h.2 with ⟨h1, _⟩ | ⟨g, cap, cur, h1, _, hh, _⟩
      · rw [h1] at hv; cases hv
      · rw [h1] at hv
        have e2 : g = k := by simpa [Value.ownBlock] using hv
        subst e2
        rw [hp] at hh
        simp at hh
        exact hT hh.2)

abbrev TrL := List (Value × List Nat)
/-- A search, as memory keeps it. -/
structure SeS (N p : Nat) (tsv : Value) (level B s : Int) (vt fm : Value) (out : Bool) (T : TrL) (W : World) : Prop where
  box : W.heap[p]? = some (.cells #[tsv, vi level, vi B, vi s, vt, fm, .bool out] 89)
  row : W.ownsRow N 70 1 vt T.length (T.map (·.1))
  cyc : ∀ q ∈ T, W.ownsRow N 3 1 q.1 q.2.length ((q.2.map natI).flatMap viC)
  lt : N ≤ p
section
variable {N p : Nat} {tsv : Value} {level B s : Int} {vt fm : Value} {out : Bool} {T : TrL} {W W' : World}
theorem SeS.later (h : SeS N p tsv level B s vt fm out T W) (hb : Below W.heap.size W W') : SeS N p tsv level B s vt fm out T W' :=
  ⟨(hb.block _ (Array.getElem?_eq_some_iff.1 h.box).1).trans h.box, own_below h.row hb, fun q hq => own_below (h.cyc q hq) hb, h.lt⟩
theorem SeS.plt (h : SeS N p tsv level B s vt fm out T W) : p < W.heap.size := (Array.getElem?_eq_some_iff.1 h.box).1
theorem SeS.setS (h : SeS N p tsv level B s vt fm out T W) (s' : Int) : SeS N p tsv level B s' vt fm out T (W.setCell ⟨p, 3, none⟩ (vi s')) :=
  ⟨by rw [heap_setCell_same W p 3 _ _ _ h.box]; rfl, own_boxed h.row h.box (by decide) (grown_put _ _ _ _), fun q hq => own_boxed (h.cyc q hq) h.box (by decide) (grown_put _ _ _ _), h.lt⟩
theorem SeS.setF (h : SeS N p tsv level B s vt fm out T W) (fm' : Value) : SeS N p tsv level B s vt fm' out T (W.setCell ⟨p, 5, none⟩ fm') :=
  ⟨by rw [heap_setCell_same W p 5 _ _ _ h.box]; rfl, own_boxed h.row h.box (by decide) (grown_put _ _ _ _), fun q hq => own_boxed (h.cyc q hq) h.box (by decide) (grown_put _ _ _ _), h.lt⟩
theorem SeS.setO (h : SeS N p tsv level B s vt fm out T W) (o' : Bool) : SeS N p tsv level B s vt fm o' T (W.setCell ⟨p, 6, none⟩ (.bool o')) :=
  ⟨by rw [heap_setCell_same W p 6 _ _ _ h.box]; rfl, own_boxed h.row h.box (by decide) (grown_put _ _ _ _), fun q hq => own_boxed (h.cyc q hq) h.box (by decide) (grown_put _ _ _ _), h.lt⟩
theorem SeS.push {A D : World} {vt' v : Value} {C : List Nat} (h : SeS N p tsv level B s vt fm out T A) (hg : A.grownBy D vt.ownBlock) (ho : D.ownsRow N 70 1 vt' (T.length + 1) (T.map (·.1) ++ [v])) (hc : A.ownsRow N 3 1 v C.length ((C.map natI).flatMap viC)) :
    SeS N p tsv level B s vt' fm out (T ++ [(v, C)]) (D.setCell ⟨p, 4, none⟩ vt') := by
  have hbx : D.heap[p]? = some (.cells #[tsv, vi level, vi B, vi s, vt, fm, .bool out] 89) := own_box h.row h.box (by decide) hg
  refine ⟨by rw [heap_setCell_same D p 4 _ _ _ hbx]; rfl, ?_, fun q hq => ?_, h.lt⟩
  · have := own_boxed ho hbx (by decide) (grown_put D p 4 vt')
    simpa using this
  · refine own_boxed (e := 3) ?_ hbx (by decide) (grown_put D p 4 vt')
    rcases List.mem_append.1 hq with hq | hq
    · exact rows_kept (h.cyc q hq) h.row (by decide) hg
    · simp only [List.mem_singleton] at hq
      subst hq
      exact rows_kept hc h.row (by decide) hg
end
/-- What a search does not write. -/
def StillO (o : Obj) : Prop := ∀ cs T fz, o = .cells cs T fz → T ≠ 89 ∧ T ≠ 70
theorem StillO.map (es : Array MapEntry) (c : Nat) : StillO (.map es c) := fun cs T fz h => by cases h
theorem StillO.cells {cs : Array Value} {T : TypeId} (h1 : T ≠ 89) (h2 : T ≠ 70) : StillO (.cells cs T) := fun cs' T' fz h => by cases h; exact ⟨h1, h2⟩
/-- What a search leaves as it was. -/
structure KeepS (N : Nat) (w w' : World) : Prop where
  below : Below N w w'
  still : ∀ (b : Nat) (o : Obj), w.heap[b]? = some o → StillO o → w'.heap[b]? = some o
  size : w.heap.size ≤ w'.heap.size
theorem KeepS.trans {N : Nat} {a b c : World} (h : KeepS N a b) (k : KeepS N b c) : KeepS N a c := ⟨h.below.trans k.below, fun x o hh hs => k.still x o (h.still x o hh hs) hs, Nat.le_trans h.size k.size⟩
theorem KeepS.of {N : Nat} {a b : World} (h : Below a.heap.size a b) (hN : N ≤ a.heap.size) : KeepS N a b := ⟨h.mono hN, fun x o hh _ => (h.block x (Array.getElem?_eq_some_iff.1 hh).1).trans hh, h.size⟩
theorem KeepS.set {N p i : Nat} {a : World} {cs : Array Value} (hp : a.heap[p]? = some (.cells cs 89)) (hN : N ≤ p) (u : Value) : KeepS N a (a.setCell ⟨p, i, none⟩ u) :=
  ⟨(Below.refl N a).setCell hN u, (fun x o hh hs => by
    rw [Below.heap_setCell _ _ _ x]
    · exact hh
    · intro e
      simp only at e
      subst e
      rw [hp] at hh
      cases hh
      exact absurd rfl (hs _ _ _ rfl).1), by simp [World.setCell]⟩
theorem KeepS.grown {N k n : Nat} {a b : World} {v : Value} {xs : List Value} (ho : a.ownsRow N 70 k v n xs) (hg : a.grownBy b v.ownBlock) (hN : N ≤ a.heap.size) : KeepS N a b :=
  ⟨(Below.refl N a).grown hg hN (fun j hj => (World.ownsRow.lt ho j hj).1), (fun x o hh hs => by
    rw [hg.block x (Array.getElem?_eq_some_iff.1 hh).1]
    · exact hh
    · intro e1
      rcases ho.2 with ⟨h1, _⟩ | ⟨g, cap, cur, h1, _, h2, _⟩
      · rw [h1] at e1; cases e1
      · rw [h1] at e1
        have e2 : x = g := by simpa [Value.ownBlock] using e1
        subst e2
        rw [h2] at hh
        cases hh
        exact absurd rfl (hs _ _ _ rfl).2), hg.size⟩
theorem KeepS.mapF {N m : Nat} {a b : World} {L : FaL} (h : KeepS N a b) (hm : MapF a m L) : MapF b m L := by
  obtain ⟨es, c, ho, r⟩ := hm
  exact ⟨es, c, h.still _ _ ho (StillO.map _ _), r⟩

theorem SameF.next {L H H1 : FaL} {c : GChoice} {so : Bool} (h : SameF L H) (hg : ∀ k, getM H1 k = if c = k then some so else getM H k) (hl : H1.length = H.length + 1) : SameF ((c, so) :: L) H1 :=
  ⟨fun k => by rw [getM_cons, hg k, h.get k], by rw [hl, h.len]; rfl⟩

/-- What the search answers. -/
def WalkQ (ts : List GTxn) (level : Int) (t : WT) (N p : Nat) (tsv : Value) (B s : Int) (T : TrL) (w : World) (e : Ending) (w' : World) : Prop :=
  ∃ (vt fm : Value) (T2 : TrL), e = .returned (.bool (endB t s B)) ∧ SeS N p tsv level B (endS t s B) vt fm (endO t s B) (T ++ T2) w' ∧ KeepS N w w' ∧
    (endB t s B = true → ∃ (m : Nat) (H F : FaL), fm = .map (some m) ∧ MapF w' m H ∧ t.found = some F ∧ SameF F H) ∧ (endB t s B = false → endO t s B = false → Nodes ts level t (T2.map (·.2)))

/-! How a search ends. -/
theorem end_over {t : WT} {s B : Int} (h : B ≤ s) : endB t s B = false ∧ endS t s B = s ∧ endO t s B = true := by
  have := t.size_pos
  unfold endB endS endO
  refine ⟨?_, ?_, ?_⟩
  · rw [decide_eq_false (by omega)]; rfl
  · rw [if_neg (by omega)]; omega
  · exact decide_eq_true (by omega)
theorem end_leaf {t : WT} {s B : Int} (h : s < B) (h1 : t.size = 1) : endB t s B = t.res ∧ endS t s B = s + 1 ∧ endO t s B = false := by
  unfold endB endS endO
  rw [h1]
  refine ⟨?_, ?_, ?_⟩
  · rw [decide_eq_true (by omega)]; rfl
  · rw [if_pos (by omega)]; rfl
  · exact decide_eq_false (by omega)
theorem end_left {L : FaL} {a b : WT} {s B : Int} (h : s < B) (h1 : endB a (s + 1) B = true) : endB (.node L a b) s B = true ∧ endS (.node L a b) s B = endS a (s + 1) B ∧ endO (.node L a b) s B = false ∧ endO a (s + 1) B = false := by
  unfold endB at h1
  rw [Bool.and_eq_true, decide_eq_true_eq] at h1
  have h2 : (WT.node L a b).size = 1 + a.size := by simp [WT.size, h1.2]
  have h3 : (WT.node L a b).res = true := by simp [WT.res, h1.2]
  unfold endB endS endO
  rw [h2, h3]
  refine ⟨?_, ?_, ?_, ?_⟩
  · rw [decide_eq_true (by omega)]; rfl
  · rw [if_pos (by omega), if_pos (by omega)]; omega
  · exact decide_eq_false (by omega)
  · exact decide_eq_false (by omega)
theorem end_cut {L : FaL} {a b : WT} {s B : Int} (h : s < B) (h2 : endO a (s + 1) B = true) : endB a (s + 1) B = false ∧ endB (.node L a b) s B = false ∧ endS (.node L a b) s B = endS a (s + 1) B ∧ endO (.node L a b) s B = true := by
  unfold endO at h2
  rw [decide_eq_true_eq] at h2
  have h3 : 1 + a.size ≤ (WT.node L a b).size := by simp only [WT.size]; omega
  unfold endB endS endO
  refine ⟨?_, ?_, ?_, ?_⟩
  · rw [decide_eq_false (by omega)]; rfl
  · rw [decide_eq_false (by omega)]; rfl
  · rw [if_neg (by omega), if_neg (by omega)]; omega
  · exact decide_eq_true (by omega)
theorem end_right {L : FaL} {a b : WT} {s B : Int} (h : s < B) (h1 : endB a (s + 1) B = false) (h2 : endO a (s + 1) B = false) :
    a.res = false ∧ endS a (s + 1) B = s + 1 + a.size ∧ endB (.node L a b) s B = endB b (endS a (s + 1) B) B ∧ endS (.node L a b) s B = endS b (endS a (s + 1) B) B ∧ endO (.node L a b) s B = endO b (endS a (s + 1) B) B := by
  unfold endO at h2
  rw [decide_eq_false_iff_not] at h2
  unfold endB at h1
  rw [decide_eq_true (by omega), Bool.true_and] at h1
  have h4 : (WT.node L a b).size = 1 + a.size + b.size := by simp [WT.size, h1]
  have h5 : (WT.node L a b).res = b.res := by simp [WT.res, h1]
  have h6 : endS a (s + 1) B = s + 1 + a.size := by unfold endS; rw [if_pos (by omega)]
  refine ⟨h1, h6, ?_, ?_, ?_⟩
  · unfold endB
    rw [h6, h4, h5]
    congr 1
    exact decide_eq_decide.2 (by omega)
  · unfold endS at *
    rw [h6, h4]
    by_cases h7 : s + ((1 + a.size + b.size : Nat) : Int) ≤ B
    · rw [if_pos h7, if_pos (by omega)]; omega
    · rw [if_neg h7, if_neg (by omega)]; omega
  · unfold endO
    rw [h6, h4]
    exact decide_eq_decide.2 (by omega)

theorem Tryz.infoNode : (Tryz.prog.info? 70).map (fun i => (i.zero, i.size, i.bytes)) = some (some (.agg #[.slice none 0 0]), 1, 24) := by kernel_rfl
theorem eltNode : Elt Tryz.prog 33 70 1 24 (.agg #[.slice none 0 0]) := by
  obtain ⟨i0, hi, hz0, hz1, hz2⟩ := info_parts Tryz.infoNode
  exact ⟨Tryz.underlying33, by decide, rfl, i0, hi, hz0, hz1, hz2⟩
theorem neq_nil (w : World) (a : Option Addr) (n c : Nat) : (binOp .neq 58 (.slice a n c) (.slice none 0 0)).run Tryz.prog w = .ok (.bool (!a.isNone)) w := by
  simp only [binOp]
  simp [Op.equal, Op.maxDepth, Lib.run_equalIn_slice_nil w 9999 58 3 a n c 0 0 Tryz.underlying58]

set_option maxRecDepth 100000 in
set_option maxHeartbeats 8000000 in
theorem walkCk_call (ts : List GTxn) (level B : Int) (tsv : Value) (w0 : World) (hg : GoodTs ts) (hv : RdTxns w0 tsv ts) (hB : i64 B) : ∀ (n : Nat) (L H : FaL) (m p : Nat) (s : Int) (vt fm : Value) (T : TrL) (w : World),
    SeS w0.heap.size p tsv level B s vt fm false T w → Below w0.heap.size w0 w → MapF w m H → SameF L H → FaOk ts L → (choicesM ts).length ≤ saidN ts L + n → (T.length : Int) = s → (B ≤ 34359738368 ∨ s + (treeM ts level n L).size ≤ 34359738368) →
    Calls Tryz.prog 40 #[.pointer (some ⟨p, 0, none⟩), .map (some m)] w (WalkQ ts level (treeM ts level n L) w0.heap.size p tsv B s T w) := by
  have HG := Lib.hid hg
  have HV := Lib.hid hv
  obtain ⟨ta, nt, tc, rfl, rfl, hmm, -⟩ := hv.at
  have hB2 := hB.2
  have hB1 := hB.1
  have hnn := neq_nil
  clear hg hv hB
  intro n
  induction n using Nat.strongRecOn with
  | ind n ih =>
    intro L H m p s vt fm T w hs hb hm hsf hfo hn hT hroom
    have HS := Lib.hid hs
    have HB := Lib.hid hb
    have HM := Lib.hid hm
    have HSF := Lib.hid hsf
    have HFO := Lib.hid hfo
    have HN := Lib.hid hn
    have HT := Lib.hid hT
    have HROOM := Lib.hid hroom
    have HIH := Lib.hid ih
    obtain ⟨at', ct, rfl⟩ := Gr.own_shape hs.row
    have hs0 : 0 ≤ s := by omega
    have hNw := HB.out.size
    clear hs hb hm hsf hfo hn hroom ih
    have b0 : w.cell? ⟨p, 0, none⟩ = some (.slice ta ts.length tc) := by rw [cell_of HS.out.box]; rfl
    have b2 : w.cell? ⟨p, 2, none⟩ = some (vi B) := by rw [cell_of HS.out.box]; rfl
    have b3 : w.cell? ⟨p, 3, none⟩ = some (vi s) := by rw [cell_of HS.out.box]; rfl
    have b6 : w.cell? ⟨p, 6, none⟩ = some (.bool false) := by rw [cell_of HS.out.box]; rfl
    have z3 := fun j => free_of HS.out.box j
    have z6 := fun j => free_of HS.out.box j
    clear hT
    go_enter Tryz.func40, Tryz.ntmps40
    by_cases hsB : s ≥ B
    · have HE := Lib.hid (end_over (t := treeM ts level n L) hsB)
      go_wp2
      go_quiet (fail)
      go_wp2_with fail
      go_ret
      have HS2 := Lib.hid ((HS.out.later ((below_drewN (Below.refl _ w) nq))).setO true)
      refine ⟨.slice at' T.length ct, fm, [], by (show Ending.returned (.bool false) = _; rw [HE.out.1]), ?_, (KeepS.of (below_drewN (Below.refl _ w) nq) hNw).trans (KeepS.set (by exact HS.out.box) HS.out.lt _), ?_, ?_⟩
      · rw [HE.out.2.1, HE.out.2.2, List.append_nil]; exact HS2.out
      · intro h; rw [HE.out.1] at h; cases h
      · intro _ h; rw [HE.out.2.2] at h; cases h
    · go_wp2
      go_quiet (fail)
      go_upto_region 5 with fail
      have HW2 := Lib.hid ((HS.out.later (below_drewN (Below.refl _ w) nq)).setS (s + 1))
      have HK2 := Lib.hid ((KeepS.of (below_drewN (Below.refl _ w) nq) hNw).trans (KeepS.set (i := 3) (by exact HS.out.box) HS.out.lt (vi (s + 1))))
      have hTl : T.length + 1 ≤ 68719476736 := by
        have h1 := HT.out
        have h2 := (treeM ts level n L).size_pos
        rcases HROOM.out with h | h <;> omega
      clear b0 b2 b3 b6 z3 z6
      have hsB' : s < B := by omega
      have hBk := Lib.hid (HB.out.trans HK2.out.below)
      have HM2 := Lib.hid (HK2.out.mapF HM.out)
      have HL2 := Lib.hid (SeS.plt HW2.out)
      generalize (w.drewN nq).setCell ⟨p, 3, none⟩ (vi (s + 1)) = w2 at *
      have HBd := Lib.hid ((Below.refl w2.heap.size w2).drew)
      have HRd := Lib.hid (HV.out.later (hBk.out.trans ((Below.refl w0.heap.size w2).drew)))
      have HMd := Lib.hid (FaV.of (HM2.out.below (w' := w2.drew) HBd.out HM2.out.lt))
      have HSM := Lib.hid (small_good (L := H) HG.out (by have := HFO.out.len; rw [HSF.out.len]; omega))
      have hNw2 : w0.heap.size ≤ w2.heap.size := hBk.out.size
      have b0 : w2.cell? ⟨p, 0, none⟩ = some (.slice ta ts.length tc) := by rw [cell_of HW2.out.box]; rfl
      have b1 : w2.cell? ⟨p, 1, none⟩ = some (vi level) := by rw [cell_of HW2.out.box]; rfl
      go_still_tail 9, (by kernel_rfl)
      change wpList _ _ _ _ _ w2.drew
      go_upto_region 7 with (first
        | (go_at_call 52; refine (broken_callN _ _ ts H 12 level w2.drew HRd.out HG.out.ok HMd.out HSM.out).mono ?_; rintro e3 w3 ⟨v3, l3, C, rfl, he3, ho3, hc3, hn3, hb3⟩; have HO3 := Lib.hid (own_mono ho3 hNw2); have HC3 := Lib.hid (show NodeC ts H level C from ⟨l3, he3, hc3⟩); have HN3 := Lib.hid hn3; have HB3 := Lib.hid (HBd.out.trans hb3); obtain ⟨a3, c3, rfl⟩ := Gr.own_shape ho3; have HW3 := Lib.hid (HW2.out.later HB3.out); have b4 : w3.cell? ⟨p, 4, none⟩ = some (.slice at' T.length ct) := (by rw [cell_of HW3.out.box]; rfl); have hw3 : w2.heap.size ≤ w3.heap.size := HB3.out.size; clear ho3 he3 hc3 hn3 hb3 b0 b1)
        | (at_builtin; refine wpList_append_src rfl _ _ 33 rfl eltNode w0.heap.size T.length _ (World.ownsRow.alloc HW3.out.row _) rfl 1 [.slice a3 C.length c3] (src_new (cs := #[.slice a3 C.length c3]) rfl rfl) rfl (by intro q hq; simp at hq; subst hq; rfl) (by omega) (by omega) (by simp; omega) ?_; intro v4 w4 ho4 hg4 _; have HO4 := Lib.hid ho4; have HG4 := Lib.hid hg4; obtain ⟨a4, c4, rfl⟩ := Gr.own_shape ho4; have HX4 := Lib.hid (own_box (World.ownsRow.alloc HW3.out.row (.cells #[.slice a3 C.length c3] 70)) (((Below.heap_alloc w3 (.cells #[.slice a3 C.length c3] 70) _ HW3.out.plt)).trans HW3.out.box) (by decide) hg4); have b4' : w4.cell? ⟨p, 4, none⟩ = some (.slice at' T.length ct) := (by rw [cell_of HX4.out]; rfl); have z4 := free_of HX4.out 4; clear ho4 hg4))
      have HWA := Lib.hid (HW3.out.later ((Below.refl _ _).alloc (Nat.le_refl _) (.cells #[.slice a3 C.length c3] 70)))
      have HW5 := Lib.hid (HWA.out.push HG4.out HO4.out (World.ownsRow.alloc HO3.out _))
      have HK5 := Lib.hid (HK2.out.trans (((KeepS.of HB3.out hNw2).trans (KeepS.of ((Below.refl w3.heap.size w3).alloc (Nat.le_refl _) (.cells #[.slice a3 C.length c3] 70)) (by omega))).trans ((KeepS.grown HWA.out.row HG4.out (by simp; omega)).trans (KeepS.set (i := 4) HX4.out HW3.out.lt (.slice a4 (T.length + 1) c4)))))
      clear b4 b4' z4
      generalize w4.setCell ⟨p, 4, none⟩ (.slice a4 (T.length + 1) c4) = w5 at *
      have HB5 := Lib.hid (HB.out.trans HK5.out.below)
      have HM5 := Lib.hid (HK5.out.mapF HM.out)
      have hNw5 := HB5.out.size
      have HBS := Lib.hid (brk_same (ts := ts) (level := level) HFO.out.pw HM.out.pairwise HSF.out.get)
      have hBrk := HC3.out.brk HG.out.len
      by_cases hC : C = []
      · subst hC
        have HNB := Lib.hid (show ¬ Brk ts L level from fun h => by have := hBrk.2 (HBS.out.1 h); simp at this)
        have e3 := HN3.out rfl
        simp only [List.length_nil, Value.slice.injEq, true_and] at e3
        obtain ⟨rfl, rfl⟩ := e3
        clear hBrk
        have HV5 := Lib.hid (HV.out.later HB5.out)
        have HNX := Lib.hid (nextM_same (ts := ts) HSF.out.get)
        have q5 := fun j => free_of HW5.out.box j
        have b5 : w5.cell? ⟨p, 5, none⟩ = some fm := by rw [cell_of HW5.out.box]; rfl
        have b0 : w5.cell? ⟨p, 0, none⟩ = some (.slice ta ts.length tc) := by rw [cell_of HW5.out.box]; rfl
        cases hx : nextM ts H with
        | none =>
          have HT' := Lib.hid (treeM_good (n := n) HNB.out (HNX.out.trans hx))
          have HE := Lib.hid (end_leaf (t := WT.good L) hsB' rfl)
          have HX := Lib.hid hx
          clear hx
          go_upto_region 11 with (go_at_call 62; refine (next_call _ ts m H w5 HV5.out HG.out.ok (by have := HG.out.len; omega) HM5.out).mono ?_; rw [HX.out]; rintro e6 w6 ⟨rfl, hb6⟩; have HB6 := Lib.hid hb6; have HW6 := Lib.hid (HW5.out.later hb6); clear hb6)
          have HA7 := Lib.hid ((Below.refl w6.heap.size w6).alloc (Nat.le_refl _) (.cells #[vi zeroC.kind, vi zeroC.key, vi zeroC.a, vi zeroC.b] 128))
          have HW7 := Lib.hid (HW6.out.later HA7.out)
          have hw6 : w5.heap.size ≤ w6.heap.size := HB6.out.size
          have HK7 := Lib.hid (HK5.out.trans ((KeepS.of HB6.out hNw5).trans (KeepS.of HA7.out (by omega))))
          clear q5 b5
          have q5 := free_of HW7.out.box 5
          have b5 : (w6.alloc (.cells #[vi zeroC.kind, vi zeroC.key, vi zeroC.a, vi zeroC.b] 128)).cell? ⟨p, 5, none⟩ = some fm := by rw [cell_of HW7.out.box]; rfl
          go_wp2_with fail
          go_ret
          have HW8 := Lib.hid (HW7.out.setF (.map (some m)))
          have HK8 := Lib.hid (HK7.out.trans (KeepS.set (i := 5) HW7.out.box HW7.out.lt (.map (some m))))
          refine ⟨.slice a4 (T.length + 1) c4, .map (some m), [(.slice none 0 0, [])], by (show Ending.returned (.bool true) = _; rw [HT'.out, HE.out.1]; rfl), ?_, HK8.out, ?_, ?_⟩
          · rw [HT'.out, HE.out.2.1, HE.out.2.2]; exact HW8.out
          · intro _; exact ⟨m, H, L, rfl, HK8.out.mapF HM.out, by rw [HT'.out]; rfl, HSF.out⟩
          · intro h; rw [HT'.out, HE.out.1] at h; cases h
        | some c =>
          have HX := Lib.hid hx
          have HXL := Lib.hid (HNX.out.trans hx)
          have hns := nextM_some (HNX.out.trans hx)
          have HNO := Lib.hid (show getM H c = none from by rw [← HSF.out.get]; exact hns.2)
          have HSC := Lib.hid ((choicesM_ok hns.1).small (by have := HG.out.len; omega))
          have hsn : ∀ so : Bool, saidN ts ((c, so) :: L) = saidN ts L + 1 ∧ saidN ts L < (choicesM ts).length := fun so => said_next (HNX.out.trans hx) (fun d => getM_cons _ _ _)
          obtain ⟨k, rfl⟩ : ∃ k, n = k + 1 := ⟨n - 1, by have := (hsn true).2; have := HN.out; omega⟩
          have HT' := Lib.hid (treeM_node (n := k) HNB.out (HNX.out.trans hx))
          have HSN := Lib.hid (show ∀ so : Bool, (choicesM ts).length ≤ saidN ts ((c, so) :: L) + k from fun so => by rw [(hsn so).1]; have := HN.out; omega)
          have HFN := Lib.hid (show ∀ so : Bool, FaOk ts ((c, so) :: L) from fun so => HFO.out.next (HNX.out.trans hx))
          have hszn := congrArg WT.size HT'.out
          simp only [WT.size] at hszn
          have HSZ := Lib.hid hszn
          obtain ⟨t1, ht1⟩ : ∃ t1, t1 = treeM ts level k ((c, true) :: L) := ⟨_, rfl⟩
          obtain ⟨t2, ht2⟩ : ∃ t2, t2 = treeM ts level k ((c, false) :: L) := ⟨_, rfl⟩
          rw [← ht1, ← ht2] at HT' HSZ
          have HT1 := Lib.hid ht1
          have HT2 := Lib.hid ht2
          clear hx hns hsn hszn ht1 ht2 q5 b5
          go_upto_region 13 with (go_at_call 62; refine (next_call _ ts m H w5 HV5.out HG.out.ok (by have := HG.out.len; omega) HM5.out).mono ?_; rw [HX.out]; rintro e6 w6 ⟨rfl, hb6⟩; have HB6 := Lib.hid hb6; have HW6 := Lib.hid (HW5.out.later hb6); clear hb6)
          have HA7 := Lib.hid ((Below.refl w6.heap.size w6).alloc (Nat.le_refl _) (.cells #[vi c.kind, vi c.key, vi c.a, vi c.b] 128))
          have HW7 := Lib.hid (HW6.out.later HA7.out)
          have hw6 : w5.heap.size ≤ w6.heap.size := HB6.out.size
          have HK7 := Lib.hid (HK5.out.trans ((KeepS.of HB6.out hNw5).trans (KeepS.of HA7.out (by omega))))
          have HX7 := Lib.hid (alloc_at w6 (.cells #[vi c.kind, vi c.key, vi c.a, vi c.b] 128))
          have hw7 : (w6.alloc (.cells #[vi c.kind, vi c.key, vi c.a, vi c.b] 128)).heap.size = w6.heap.size + 1 := by simp
          generalize w6.alloc (.cells #[vi c.kind, vi c.key, vi c.a, vi c.b] 128) = w7 at *
          have HM7 := Lib.hid (HK7.out.mapF HM.out)
          have x0 : w7.cell? ⟨w6.heap.size, 0, none⟩ = some (vi c.kind) := by rw [cell_of HX7.out]; rfl
          have x1 : w7.cell? ⟨w6.heap.size, 1, none⟩ = some (vi c.key) := by rw [cell_of HX7.out]; rfl
          have x2 : w7.cell? ⟨w6.heap.size, 2, none⟩ = some (vi c.a) := by rw [cell_of HX7.out]; rfl
          have x3 : w7.cell? ⟨w6.heap.size, 3, none⟩ = some (vi c.b) := by rw [cell_of HX7.out]; rfl
          have HTT := Lib.hid (show ((T ++ [((.slice none 0 0 : Value), ([] : List Nat))]).length : Int) = s + 1 from by have := HT.out; simp; omega)
          have HR1 := Lib.hid (show B ≤ 34359738368 ∨ s + 1 + (treeM ts level k ((c, true) :: L)).size ≤ 34359738368 from by
            rcases HROOM.out with h | h
            · exact .inl h
            · right
              rw [← HT1.out]
              have := HSZ.out
              omega)
          cases h1 : endB t1 (s + 1) B with
          | true =>
            have HE1 := Lib.hid h1
            have HE := Lib.hid (end_left (L := L) (b := t2) hsB' h1)
            clear h1
            go_wp2_with (first
              | (go_at_call 40; ((with_reducible refine (HIH.out k (by omega) ((c, true) :: L) H1 m1 p (s + 1) (.slice a4 (T.length + 1) c4) fm (T ++ [(.slice none 0 0, [])]) w8 HW8.out HB8.out HM8.out HS1.out (HFN.out true) (HSN.out true) HTT.out HR1.out).mono ?_); rw [← HT1.out]; rintro e9 w9 ⟨vt9, fm9, T9, e10, hs9, hk9, hf9, hn9⟩; rw [HE1.out] at e10; subst e10; have HS9 := Lib.hid hs9; have HK9 := Lib.hid hk9; have HF9 := Lib.hid hf9; have HN9 := Lib.hid hn9; clear hs9 hk9 hf9 hn9))
              | (go_at_call 63; ((with_reducible refine (with_call m H c true w7 HM7.out HSC.out HNO.out).mono ?_); rintro e8 w8 ⟨H1, m1, rfl, hm1, hM8, hg8, hl8, hb8⟩; have HM8 := Lib.hid hM8; have HS1 := Lib.hid (HSF.out.next hg8 hl8); have HK8 := Lib.hid (HK7.out.trans (KeepS.of hb8 (by omega))); have HB8 := Lib.hid (HB.out.trans HK8.out.below); have HW8 := Lib.hid (HW7.out.later hb8); clear hm1 hM8 hg8 hl8 hb8)))
            go_ret
            refine ⟨vt9, fm9, (.slice none 0 0, []) :: T9, by (show Ending.returned (.bool true) = _; rw [HT'.out, HE.out.1]), ?_, HK8.out.trans HK9.out, ?_, ?_⟩
            · have h := HS9.out
              rw [HT'.out, HE.out.2.1, HE.out.2.2.1]
              rw [HE.out.2.2.2] at h
              simpa using h
            · intro _
              obtain ⟨m9, H9, F9, h2, h3, h4, h5⟩ := HF9.out HE1.out
              exact ⟨m9, H9, F9, h2, h3, by rw [HT'.out]; simp only [WT.found]; rw [h4]; rfl, h5⟩
            · intro h
              rw [HT'.out, HE.out.1] at h; cases h
          | false =>
            have HE1 := Lib.hid h1
            cases h2 : endO t1 (s + 1) B with
            | true =>
              have HE := Lib.hid (end_cut (L := L) (b := t2) hsB' h2)
              have HO1 := Lib.hid h2
              clear h1 h2
              go_wp2_with (first
                | (go_at_call 40; ((with_reducible refine (HIH.out k (by omega) ((c, true) :: L) H1 m1 p (s + 1) (.slice a4 (T.length + 1) c4) fm (T ++ [(.slice none 0 0, [])]) w8 HW8.out HB8.out HM8.out HS1.out (HFN.out true) (HSN.out true) HTT.out HR1.out).mono ?_); rw [← HT1.out]; rintro e9 w9 ⟨vt9, fm9, T9, e10, hs9, hk9, hf9, hn9⟩; rw [HE1.out] at e10; subst e10; rw [HO1.out] at hs9; have HS9 := Lib.hid hs9; have HK9 := Lib.hid hk9; have b6 : w9.cell? ⟨p, 6, none⟩ = some (.bool true) := (by rw [cell_of HS9.out.box]; rfl); clear hs9 hk9 hf9 hn9))
                | (go_at_call 63; ((with_reducible refine (with_call m H c true w7 HM7.out HSC.out HNO.out).mono ?_); rintro e8 w8 ⟨H1, m1, rfl, hm1, hM8, hg8, hl8, hb8⟩; have HM8 := Lib.hid hM8; have HS1 := Lib.hid (HSF.out.next hg8 hl8); have HK8 := Lib.hid (HK7.out.trans (KeepS.of hb8 (by omega))); have HB8 := Lib.hid (HB.out.trans HK8.out.below); have HW8 := Lib.hid (HW7.out.later hb8); clear hm1 hM8 hg8 hl8 hb8)))
              go_ret
              refine ⟨vt9, fm9, (.slice none 0 0, []) :: T9, by (show Ending.returned (.bool false) = _; rw [HT'.out, HE.out.2.1]), ?_, HK8.out.trans HK9.out, ?_, ?_⟩
              · have h := HS9.out
                rw [HT'.out, HE.out.2.2.1, HE.out.2.2.2]
                simpa using h
              · intro h
                rw [HT'.out, HE.out.2.1] at h; cases h
              · intro _ h
                rw [HT'.out, HE.out.2.2.2] at h; cases h
            | false =>
              have HE := Lib.hid (end_right (L := L) (b := t2) hsB' h1 h2)
              have HO1 := Lib.hid h2
              clear h1 h2
              go_wp2_with (first
                | (go_at_call 40; ((with_reducible refine (HIH.out k (by omega) ((c, false) :: L) H2 m2 p (endS t1 (s + 1) B) vt9 fm9 ((T ++ [(.slice none 0 0, [])]) ++ T9) w10 HW10.out HB10.out HM10.out HS2.out (HFN.out false) (HSN.out false) HTT2.out HR2.out).mono ?_); rw [← HT2.out]; rintro e11 w11 ⟨vt11, fm11, T11, e12, hs11, hk11, hf11, hn11⟩; subst e12; have HS11 := Lib.hid hs11; have HK11 := Lib.hid hk11; have HF11 := Lib.hid hf11; have HN11 := Lib.hid hn11; clear hs11 hk11 hf11 hn11))
                | (go_at_call 63; ((with_reducible refine (with_call m H c false w9 HM9.out HSC.out HNO.out).mono ?_); rintro e10 w10 ⟨H2, m2, rfl, hm2, hM10, hg10, hl10, hb10⟩; have HM10 := Lib.hid hM10; have HS2 := Lib.hid (HSF.out.next hg10 hl10); have HK10 := Lib.hid (HK89.out.trans (KeepS.of hb10 (by have := HK89.out.size; omega))); have HB10 := Lib.hid (HB.out.trans HK10.out.below); have HW10 := Lib.hid (HS9.out.later hb10); clear hm2 hM10 hg10 hl10 hb10))
                | (go_at_call 40; ((with_reducible refine (HIH.out k (by omega) ((c, true) :: L) H1 m1 p (s + 1) (.slice a4 (T.length + 1) c4) fm (T ++ [(.slice none 0 0, [])]) w8 HW8.out HB8.out HM8.out HS1.out (HFN.out true) (HSN.out true) HTT.out HR1.out).mono ?_); rw [← HT1.out]; rintro e9 w9 ⟨vt9, fm9, T9, e10, hs9, hk9, hf9, hn9⟩; rw [HE1.out] at e10; subst e10; rw [HO1.out] at hs9; have HS9 := Lib.hid hs9; have HK89 := Lib.hid (HK8.out.trans hk9); have HN9 := Lib.hid (hn9 HE1.out HO1.out); have HX9 := Lib.hid (hk9.still _ _ (HX8.out) (StillO.cells (by decide) (by decide))); have HM9 := Lib.hid (HK89.out.mapF HM.out); have b6 : w9.cell? ⟨p, 6, none⟩ = some (.bool false) := (by rw [cell_of HS9.out.box]; rfl); have x0 : w9.cell? ⟨w6.heap.size, 0, none⟩ = some (vi c.kind) := (by rw [cell_of HX9.out]; rfl); have x1 : w9.cell? ⟨w6.heap.size, 1, none⟩ = some (vi c.key) := (by rw [cell_of HX9.out]; rfl); have x2 : w9.cell? ⟨w6.heap.size, 2, none⟩ = some (vi c.a) := (by rw [cell_of HX9.out]; rfl); have x3 : w9.cell? ⟨w6.heap.size, 3, none⟩ = some (vi c.b) := (by rw [cell_of HX9.out]; rfl); have HTT2 := Lib.hid (show (((T ++ [((.slice none 0 0 : Value), ([] : List Nat))]) ++ T9).length : Int) = endS t1 (s + 1) B from (by have h3 := Nodes.len HE.out.1 HN9.out; have h4 := HE.out.2.1; have h5 := HTT.out; rw [List.length_map] at h3; rw [List.length_append]; omega)); have HR2 := Lib.hid (show B ≤ 34359738368 ∨ endS t1 (s + 1) B + (treeM ts level k ((c, false) :: L)).size ≤ 34359738368 from (by rcases HROOM.out with h | h; exact .inl h; right; rw [← HT2.out, HE.out.2.1]; have h3 := HSZ.out; rw [HE.out.1] at h3; simp only [Bool.false_eq_true, if_false] at h3; omega)); clear hs9 hk9 hf9 hn9))
                | (go_at_call 63; ((with_reducible refine (with_call m H c true w7 HM7.out HSC.out HNO.out).mono ?_); rintro e8 w8 ⟨H1, m1, rfl, hm1, hM8, hg8, hl8, hb8⟩; have HM8 := Lib.hid hM8; have HS1 := Lib.hid (HSF.out.next hg8 hl8); have HK8 := Lib.hid (HK7.out.trans (KeepS.of hb8 (by omega))); have HB8 := Lib.hid (HB.out.trans HK8.out.below); have HW8 := Lib.hid (HW7.out.later hb8); have HX8 := Lib.hid ((hb8.block _ (Array.getElem?_eq_some_iff.1 HX7.out).1).trans HX7.out); clear hm1 hM8 hg8 hl8 hb8)))
              go_ret
              refine ⟨vt11, fm11, (.slice none 0 0, []) :: (T9 ++ T11), by (show Ending.returned (.bool (endB t2 (endS t1 (s + 1) B) B)) = _; rw [HT'.out, HE.out.2.2.1]), ?_, HK10.out.trans HK11.out, ?_, ?_⟩
              · have h := HS11.out
                rw [HT'.out, HE.out.2.2.2.1, HE.out.2.2.2.2]
                simpa using h
              · intro h
                rw [HT'.out, HE.out.2.2.1] at h
                obtain ⟨m9, H9, F9, h2, h3, h4, h5⟩ := HF11.out h
                refine ⟨m9, H9, F9, h2, h3, ?_, h5⟩
                rw [HT'.out]
                simp only [WT.found]
                have h6 := WT.found_res t1
                rw [HE.out.1] at h6
                rw [h4]
                cases hq : t1.found with
                | none => rfl
                | some x => rw [hq] at h6; cases h6
              · intro h h'
                rw [HT'.out, HE.out.2.2.1] at h
                rw [HT'.out, HE.out.2.2.2.2] at h'
                rw [HT'.out]
                exact ⟨T9.map (·.2), T11.map (·.2), HN9.out, HN11.out h h', by simp⟩
      · have HBB := Lib.hid (show Brk ts L level from HBS.out.2 (hBrk.1 (List.length_pos_iff.2 hC)))
        have HT' := Lib.hid (treeM_bad (n := n) HBB.out)
        have HE := Lib.hid (end_leaf (t := WT.bad L) hsB' rfl)
        have HNC := Lib.hid (show Nodes ts level (.bad L) [C] from ⟨C, rfl, hC, HC3.out.same HFO.out.pw HM.out.pairwise HSF.out.get⟩)
        obtain ⟨g3, rfl⟩ : ∃ g3, a3 = some g3 := by
          rcases HO3.out.2 with ⟨_, h2⟩ | ⟨g, cap, cur, h1, _⟩
          · exact absurd (List.length_eq_zero_iff.1 h2) hC
          · simp only [Value.slice.injEq] at h1
            exact ⟨_, h1.1⟩
        clear hBrk hC
        go_wp2_with fail
        go_ret
        refine ⟨.slice a4 (T.length + 1) c4, fm, [(.slice (some g3) C.length c3, C)], by (show Ending.returned (.bool false) = _; rw [HT'.out, HE.out.1]; rfl), ?_, HK5.out, ?_, ?_⟩
        · rw [HT'.out, HE.out.2.1, HE.out.2.2]; exact HW5.out
        · intro h; rw [HT'.out, HE.out.1] at h; cases h
        · intro _ _; rw [HT'.out]; exact HNC.out
end Go.Proofs.YtnacoplokjdglaaGreat
