/- Texts of one proof, one behind the other: DpPure, DpEdge, GrSort, GdApAt, GdFrames, GrNx6, DpLift. -/
import Derived.Shelf.SlicesG.CompactI
import Derived.Maps.AppendAt
import Derived.Deep.CutBlock
import Derived.Deep.LoopGhost
import Derived.Test.YtnacoplokjdglaaGreatKp1
import Derived.Test.YtnacoplokjdglaaGreatKp2
import Derived.Test.YtnacoplokjdglaaGreatKp3
import Derived.Test.YtnacoplokjdglaaGreatKp4
import Derived.Test.YtnacoplokjdglaaGreatKp5
set_option linter.all false
namespace Go.Proofs.YtnacoplokjdglaaGreat
/-- One gets from a to b by one step or more. -/
inductive Way {α : Type} (r : α → α → Prop) : α → α → Prop
  | one {a b : α} : r a b → Way r a b
  | more {a b c : α} : r a b → Way r b c → Way r a c
theorem Way.trans {α : Type} {r : α → α → Prop} {a b c : α} (h : Way r a b) (k : Way r b c) : Way r a c := by
  induction h with
  | one h => exact .more h k
  | more h _ ih => exact .more h (ih k)
/-- The last step of a way. -/
theorem Way.last {α : Type} {r : α → α → Prop} {a c : α} (h : Way r a c) : ∃ b, (b = a ∨ Way r a b) ∧ r b c := by
  induction h with
  | one h => exact ⟨_, .inl rfl, h⟩
  | more h _ ih =>
    obtain ⟨d, h1, h2⟩ := ih
    refine ⟨d, .inr ?_, h2⟩
    rcases h1 with rfl | h1
    · exact .one h
    · exact .more h h1
def Rounds {α : Type} (r : α → α → Prop) : Prop := ∃ a, Way r a a
theorem nodup_len {α : Type} [DecidableEq α] : ∀ (V L : List α), V.Nodup → (∀ x ∈ V, x ∈ L) → V.length ≤ L.length
  | [], _, _, _ => Nat.zero_le _
  | x :: V, L, hd, hs => by
    have hd' := List.nodup_cons.1 hd
    have hx : x ∈ L := hs x List.mem_cons_self
    have ih := nodup_len V (L.erase x) hd'.2 (fun y hy => by
      have hne : y ≠ x := fun e => hd'.1 (e ▸ hy)
      exact (List.mem_erase_of_ne hne).2 (hs y (List.mem_cons_of_mem _ hy)))
    have h2 := List.length_erase_of_mem hx
    have h3 := List.length_pos_of_mem hx
    simp only [List.length_cons]; omega
/-- A list in which each goes to the next one. -/
def Chain1 {α : Type} (r : α → α → Prop) : List α → Prop
  | [] => True
  | [_] => True
  | a :: b :: l => r a b ∧ Chain1 r (b :: l)
theorem chain_way {α : Type} {r : α → α → Prop} : ∀ {l : List α} {a b : α}, Chain1 r (a :: l) → b ∈ l → Way r a b
  | [], _, _, _, h => by cases h
  | c :: l, a, b, hc, hb => by
    rcases List.mem_cons.1 hb with rfl | hb
    · exact .one hc.1
    · exact .more hc.1 (chain_way hc.2 hb)
/-! Edges with kinds: at a level that lets a cycle be only where two reads that are written over stand side by side. -/
structure GEdge where
  f : Int
  t : Int
  k : Int
deriving DecidableEq
/-- A state: where one stands, and whether one came there by an RW. -/
def StepK (es : List GEdge) (snap : Bool) (x y : Int × Bool) : Prop := ∃ e ∈ es, e.f = x.1 ∧ e.t = y.1 ∧ y.2 = (e.k == 3) ∧ ¬ (snap = true ∧ x.2 = true ∧ y.2 = true)
def ArcK (es : List GEdge) (snap : Bool) (u v : Int) : Prop :=
  (∃ e ∈ es, (snap = false ∨ e.k ≠ 3) ∧ e.f = u ∧ e.t = v) ∨ (snap = true ∧ ∃ e ∈ es, e.k ≠ 3 ∧ e.f = u ∧ ∃ g ∈ es, g.k = 3 ∧ g.f = e.t ∧ g.t = v)
theorem arc_states {es : List GEdge} {snap : Bool} {u v : Int} (h : ArcK es snap u v) : ∃ c, ∀ b, Way (StepK es snap) (u, b) (v, c) := by
  rcases h with ⟨e, he, hk, rfl, rfl⟩ | ⟨hs, e, he, hk, rfl, g, hg, hg3, hge, rfl⟩
  · refine ⟨e.k == 3, fun b => .one ⟨e, he, rfl, rfl, rfl, ?_⟩⟩
    rintro ⟨h1, -, h3⟩
    rcases hk with hk | hk
    · rw [hk] at h1; cases h1
    · exact hk (by simpa using h3)
  · refine ⟨true, fun b => .more (b := (e.t, false)) ⟨e, he, rfl, rfl, ?_, ?_⟩ (.one ⟨g, hg, hge, rfl, ?_, ?_⟩)⟩
    · show false = (e.k == 3)
      have : (e.k == 3) = false := by simpa using hk
      rw [this]
    · rintro ⟨-, -, h3⟩; cases h3
    · show true = (g.k == 3)
      rw [hg3]; rfl
    · rintro ⟨-, h2, -⟩; cases h2
theorem arcs_states {es : List GEdge} {snap : Bool} {u v : Int} (h : Way (ArcK es snap) u v) : ∃ c, ∀ b, Way (StepK es snap) (u, b) (v, c) := by
  induction h with
  | one h => exact arc_states h
  | more h _ ih =>
    obtain ⟨c1, h1⟩ := arc_states h
    obtain ⟨c2, h2⟩ := ih
    exact ⟨c2, fun b => (h1 b).trans (h2 c1)⟩
/-- A way of states that begins by another step than an RW is a way of arcs. -/
theorem states_arcs {es : List GEdge} {u w : Int} {z : Int × Bool} (h0 : ∃ e ∈ es, e.k ≠ 3 ∧ e.f = u ∧ e.t = w) (h : z = (w, false) ∨ Way (StepK es true) (w, false) z) :
    Way (ArcK es true) u z.1 ∧ (z.2 = false → ∃ w', (w' = u ∨ Way (ArcK es true) u w') ∧ ∃ e ∈ es, e.k ≠ 3 ∧ e.f = w' ∧ e.t = z.1) := by
  have base : Way (ArcK es true) u w ∧ (∃ w', (w' = u ∨ Way (ArcK es true) u w') ∧ ∃ e ∈ es, e.k ≠ 3 ∧ e.f = w' ∧ e.t = w) := by
    obtain ⟨e, he, hk, h1, h2⟩ := h0
    exact ⟨.one (.inl ⟨e, he, .inr hk, h1, h2⟩), u, .inl rfl, e, he, hk, h1, h2⟩
  rcases h with rfl | h
  · exact ⟨base.1, fun _ => base.2⟩
  · -- by the number of steps behind the first
    have key : ∀ {x y : Int × Bool}, Way (StepK es true) x y → (Way (ArcK es true) u x.1 ∧ (x.2 = false → ∃ w', (w' = u ∨ Way (ArcK es true) u w') ∧ ∃ e ∈ es, e.k ≠ 3 ∧ e.f = w' ∧ e.t = x.1)) →
        (Way (ArcK es true) u y.1 ∧ (y.2 = false → ∃ w', (w' = u ∨ Way (ArcK es true) u w') ∧ ∃ e ∈ es, e.k ≠ 3 ∧ e.f = w' ∧ e.t = y.1)) := by
      have step : ∀ {x y : Int × Bool}, StepK es true x y → (Way (ArcK es true) u x.1 ∧ (x.2 = false → ∃ w', (w' = u ∨ Way (ArcK es true) u w') ∧ ∃ e ∈ es, e.k ≠ 3 ∧ e.f = w' ∧ e.t = x.1)) →
          (Way (ArcK es true) u y.1 ∧ (y.2 = false → ∃ w', (w' = u ∨ Way (ArcK es true) u w') ∧ ∃ e ∈ es, e.k ≠ 3 ∧ e.f = w' ∧ e.t = y.1)) := by
        rintro x y ⟨e, he, h1, h2, h3, h4⟩ ⟨i1, i2⟩
        by_cases hk : e.k = 3
        · have hy : y.2 = true := by rw [h3, hk]; rfl
          have hx : x.2 = false := by
            cases hx : x.2 with
            | false => rfl
            | true => exact absurd ⟨rfl, hx, hy⟩ h4
          obtain ⟨w', hw, g, hg, gk, gf, gt⟩ := i2 hx
          have a : ArcK es true w' y.1 := .inr ⟨rfl, g, hg, gk, gf, e, he, hk, by rw [h1, gt], h2⟩
          refine ⟨?_, fun hy' => by rw [hy] at hy'; cases hy'⟩
          rcases hw with rfl | hw
          · exact .one a
          · exact hw.trans (.one a)
        · have a : ArcK es true x.1 y.1 := .inl ⟨e, he, .inr hk, h1, h2⟩
          exact ⟨i1.trans (.one a), fun _ => ⟨x.1, .inr i1, e, he, hk, h1, h2⟩⟩
      intro x y h
      induction h with
      | one h => exact step h
      | more h _ ih => exact fun i => ih (step h i)
    exact key h ⟨base.1, fun _ => base.2⟩
/-- What goes round in states goes round in arcs, and the other way. -/
theorem rounds_iff (es : List GEdge) (snap : Bool) : Rounds (StepK es snap) ↔ Rounds (ArcK es snap) := by
  constructor
  · rintro ⟨x, h⟩
    cases snap with
    | false =>
      refine ⟨x.1, ?_⟩
      have : ∀ {x y : Int × Bool}, Way (StepK es false) x y → Way (ArcK es false) x.1 y.1 := fun h => by
        induction h with
        | one h => obtain ⟨e, he, h1, h2, -⟩ := h; exact .one (.inl ⟨e, he, .inl rfl, h1, h2⟩)
        | more h _ ih => obtain ⟨e, he, h1, h2, -⟩ := h; exact .more (.inl ⟨e, he, .inl rfl, h1, h2⟩) ih
      exact this h
    | true =>
      -- some step of it is no RW
      have main : ∀ {a b : Int × Bool} {e : GEdge}, e ∈ es → e.k ≠ 3 → e.f = a.1 → e.t = b.1 → b.2 = false → (a = b ∨ Way (StepK es true) b a) → Rounds (ArcK es true) := by
        intro a b e he hk h1 h2 hb hw
        obtain ⟨b1, b2⟩ := b
        simp only at h2 hb
        subst hb
        have hs := states_arcs (u := a.1) (w := b1) (z := a) ⟨e, he, hk, h1, h2⟩ (by
          rcases hw with rfl | hw
          · exact .inl rfl
          · exact .inr hw)
        exact ⟨a.1, hs.1⟩
      have first : ∀ {y : Int × Bool}, StepK es true x y → (y = x ∨ Way (StepK es true) y x) → Rounds (ArcK es true) := by
        rintro y ⟨e, he, h1, h2, h3, h4⟩ hw
        by_cases hk : e.k = 3
        · have hy : y.2 = true := by rw [h3, hk]; rfl
          have hx : x.2 = false := by
            cases hx : x.2 with
            | false => rfl
            | true => exact absurd ⟨rfl, hx, hy⟩ h4
          rcases hw with rfl | hw
          · rw [hy] at hx; cases hx
          · obtain ⟨z, hz, ⟨g, hg, g1, g2, g3, g4⟩⟩ := hw.last
            have gk : g.k ≠ 3 := fun gk => by rw [gk, hx] at g3; cases g3
            refine main (a := z) (b := x) hg gk g1 g2 hx (.inr ?_)
            have hxy : StepK es true x y := ⟨e, he, h1, h2, h3, h4⟩
            rcases hz with rfl | hz
            · exact .one hxy
            · exact .more hxy hz
        · have hy : y.2 = false := by rw [h3]; simpa using hk
          refine main (a := x) (b := y) he hk h1 h2 hy ?_
          rcases hw with h | h
          · exact .inl h.symm
          · exact .inr h
      cases h with
      | one h => exact first h (.inl rfl)
      | more h k => exact first h (.inr k)
  · rintro ⟨u, h⟩
    obtain ⟨c, hc⟩ := arcs_states h
    exact ⟨(u, c), hc c⟩

/-! The closure of a table, in place. -/
/-- A way whose inner places lie below k. -/
inductive WayB (r : Nat → Nat → Prop) (k : Nat) : Nat → Nat → Prop
  | one {a b : Nat} : r a b → WayB r k a b
  | more {a b c : Nat} : WayB r k a b → b < k → WayB r k b c → WayB r k a c
theorem WayB.way {r : Nat → Nat → Prop} {k a b : Nat} (h : WayB r k a b) : Way r a b := by
  induction h with
  | one h => exact .one h
  | more _ _ _ ih1 ih2 => exact ih1.trans ih2
theorem WayB.mono {r : Nat → Nat → Prop} {k l a b : Nat} (hkl : k ≤ l) (h : WayB r k a b) : WayB r l a b := by
  induction h with
  | one h => exact .one h
  | more _ hb _ ih1 ih2 => exact .more ih1 (Nat.lt_of_lt_of_le hb hkl) ih2
theorem WayB.split {r : Nat → Nat → Prop} {k a b : Nat} (h : WayB r (k + 1) a b) : WayB r k a b ∨ (WayB r k a k ∧ WayB r k k b) := by
  induction h with
  | one h => exact .inl (.one h)
  | @more a b c h1 hb h2 ih1 ih2 =>
    by_cases hbk : b < k
    · rcases ih1 with i1 | ⟨i1, i2⟩
      · rcases ih2 with j1 | ⟨j1, j2⟩
        · exact .inl (.more i1 hbk j1)
        · exact .inr ⟨.more i1 hbk j1, j2⟩
      · rcases ih2 with j1 | ⟨j1, j2⟩
        · exact .inr ⟨i1, .more i2 hbk j1⟩
        · exact .inr ⟨i1, j2⟩
    · have hbe : b = k := by omega
      subst hbe
      have x1 : WayB r b a b := by rcases ih1 with i | ⟨i, _⟩ <;> exact i
      have x2 : WayB r b b c := by rcases ih2 with j | ⟨_, j⟩ <;> exact j
      exact .inr ⟨x1, x2⟩
theorem Way.wayB {r : Nat → Nat → Prop} {m a b : Nat} (hr : ∀ a b, r a b → b < m) (h : Way r a b) : WayB r m a b := by
  induction h with
  | one h => exact .one h
  | more h _ ih => exact .more (.one h) (hr _ _ h) ih
end Go.Proofs.YtnacoplokjdglaaGreat

namespace Go.Proofs.YtnacoplokjdglaaGreat
open Go.RowKit Go.Maps
/-- Who wrote what a read has read. -/
def srcM (ts : List GTxn) (key val : Int) : Int × Bool := if val = 0 then (-1, true) else match getM (byN ts ts.length) (key, val) with
  | some i => (i, true)
  | none => (0, false)
/-- A read of a write: by whom, of whom, of which key. -/
structure GRd where
  by_ : Int
  of_ : Int
  key : Int
deriving DecidableEq
def readOf (ts : List GTxn) (dn : Nat → Bool) (i : Nat) (o : GOp) : List GRd :=
  if (srcM ts o.key o.val).2 && !(decide (0 ≤ (srcM ts o.key o.val).1) && !dn (srcM ts o.key o.val).1.toNat) then [⟨i, (srcM ts o.key o.val).1, o.key⟩] else []
def readsOf (ts : List GTxn) (dn : Nat → Bool) (p : GTxn × Nat) : List GRd := (readsM p.1).flatMap (readOf ts dn p.2)
def rdsL (ts : List GTxn) (dn : Nat → Bool) : List GRd := ts.zipIdx.flatMap (readsOf ts dn)
def addE (f t k : Int) : List GEdge := if f = t then [] else [⟨f, t, k⟩]
def wrEdge (r : GRd) : List GEdge := if 0 ≤ r.of_ then addE r.of_ r.by_ 2 else []
def rwR (i : Nat) (key : Int) (r : GRd) : List GEdge := if r.of_ < 0 ∧ r.key = key then addE r.by_ i 3 else []
def rwO (rs : List GRd) (i : Nat) (o : GOp) : List GEdge := rs.flatMap (rwR i o.key)
def rwT (dn : Nat → Bool) (rs : List GRd) (p : GTxn × Nat) : List GEdge := if dn p.2 then (writesM p.1.ops).flatMap (rwO rs p.2) else []
def wkB (key : Int) (o : GOp) : Bool := o.kind == 2 && o.key == key
def has1 (ts : List GTxn) (dn : Nat → Bool) (key i : Int) : Bool := decide (0 ≤ i) && decide (i < ts.length) && dn i.toNat && (ts[i.toNat]?.map (fun t => t.ops.any (wkB key))).getD false
def hasM (ts : List GTxn) (dn : Nat → Bool) (c : GChoice) : Bool := has1 ts dn c.key c.a && has1 ts dn c.key c.b
def wwR (a b key : Int) (r : GRd) : List GEdge := if r.of_ = a ∧ r.key = key then addE r.by_ b 3 else []
def wwL (rs : List GRd) (a b key : Int) : List GEdge := addE a b 1 ++ rs.flatMap (wwR a b key)
def factE (ts : List GTxn) (dn : Nat → Bool) (rs : List GRd) (p : GChoice × Bool) : List GEdge :=
  if p.1.kind = 2 ∧ hasM ts dn p.1 = true then (if p.2 then wwL rs p.1.a p.1.b p.1.key else wwL rs p.1.b p.1.a p.1.key) else []
def dnM (ts : List GTxn) (L : FaL) (i : Nat) : Bool := (isM ts L i).1
def edge0 (ts : List GTxn) (dn : Nat → Bool) : List GEdge := (rdsL ts dn).flatMap wrEdge ++ ts.zipIdx.flatMap (rwT dn (rdsL ts dn))
def edgeL (ts : List GTxn) (L : FaL) : List GEdge := edge0 ts (dnM ts L) ++ L.flatMap (factE ts (dnM ts L) (rdsL ts (dnM ts L)))
/-- By From, To, Kind. -/
def ltE (a b : GEdge) : Prop := a.f < b.f ∨ (a.f = b.f ∧ (a.t < b.t ∨ (a.t = b.t ∧ a.k < b.k)))
/-- All edges, each once, in order. -/
def EdgesOf (ts : List GTxn) (L : FaL) (l : List GEdge) : Prop := l.Pairwise ltE ∧ ∀ e, e ∈ l ↔ e ∈ edgeL ts L
theorem ltE_irr (a : GEdge) : ¬ ltE a a := by unfold ltE; omega
theorem ltE_trans {a b c : GEdge} (h : ltE a b) (k : ltE b c) : ltE a c := by unfold ltE at *; omega
theorem edges_ext : ∀ {a b : List GEdge}, a.Pairwise ltE → b.Pairwise ltE → (∀ p, p ∈ a ↔ p ∈ b) → a = b
  | [], [], _, _, _ => rfl
  | [], y :: b, _, _, h => by have := (h y).2 List.mem_cons_self; simp at this
  | x :: a, [], _, _, h => by have := (h x).1 List.mem_cons_self; simp at this
  | x :: a, y :: b, ha, hb, h => by
    have ha' := List.pairwise_cons.1 ha
    have hb' := List.pairwise_cons.1 hb
    have hxy : x = y := by
      rcases List.mem_cons.1 ((h x).1 List.mem_cons_self) with e | hx
      · exact e
      · rcases List.mem_cons.1 ((h y).2 List.mem_cons_self) with e | hy
        · exact e.symm
        · exact absurd (ltE_trans (ha'.1 y hy) (hb'.1 x hx)) (ltE_irr x)
    subst hxy
    congr 1
    refine edges_ext ha'.2 hb'.2 (fun p => ?_)
    constructor
    · intro hp
      rcases List.mem_cons.1 ((h p).1 (List.mem_cons_of_mem _ hp)) with rfl | h1
      · exact absurd (ha'.1 p hp) (ltE_irr p)
      · exact h1
    · intro hp
      rcases List.mem_cons.1 ((h p).2 (List.mem_cons_of_mem _ hp)) with rfl | h1
      · exact absurd (hb'.1 p hp) (ltE_irr p)
      · exact h1

/-! What is lifted. -/
def lift1 (es : List GEdge) (level : Int) (e : GEdge) : List (Int × Int) :=
  (if level ≠ 1 ∨ e.k ≠ 3 then [(e.f, e.t)] else []) ++ (if level ≠ 1 ∨ e.k = 3 then [] else es.flatMap (fun g => if g.k = 3 ∧ g.f = e.t then [(e.f, g.t)] else []))
def liftL (es : List GEdge) (level : Int) : List (Int × Int) := es.flatMap (lift1 es level)
theorem lift_mem (es : List GEdge) (level : Int) (u v : Int) : (u, v) ∈ liftL es level ↔ ArcK es (level == 1) u v := by
  unfold liftL ArcK
  rw [List.mem_flatMap]
  constructor
  · rintro ⟨e, he, h⟩
    unfold lift1 at h
    rcases List.mem_append.1 h with h | h
    · split at h
      · rename_i hc
        simp only [List.mem_singleton, Prod.mk.injEq] at h
        obtain ⟨rfl, rfl⟩ := h
        refine .inl ⟨e, he, ?_, rfl, rfl⟩
        rcases hc with hc | hc
        · exact .inl (by simpa using hc)
        · exact .inr hc
      · cases h
    · split at h
      · cases h
      · rename_i hc
        obtain ⟨g, hg, h⟩ := List.mem_flatMap.1 h
        split at h
        · rename_i hgc
          simp only [List.mem_singleton, Prod.mk.injEq] at h
          obtain ⟨rfl, rfl⟩ := h
          have h1 : level = 1 := by
            apply Classical.byContradiction
            exact fun hn => hc (.inl hn)
          exact .inr ⟨by simp [h1], e, he, fun hk => hc (.inr hk), rfl, g, hg, hgc.1, hgc.2, rfl⟩
        · cases h
  · rintro (⟨e, he, hk, rfl, rfl⟩ | ⟨hs, e, he, hk, rfl, g, hg, g3, gf, rfl⟩)
    · refine ⟨e, he, List.mem_append_left _ ?_⟩
      rw [if_pos]
      · simp
      · rcases hk with hk | hk
        · exact .inl (by simpa using hk)
        · exact .inr hk
    · refine ⟨e, he, List.mem_append_right _ ?_⟩
      have h1 : level = 1 := by simpa using hs
      rw [if_neg (by rintro (h | h); exact h h1; exact hk h)]
      exact List.mem_flatMap.2 ⟨g, hg, by rw [if_pos ⟨g3, gf⟩]; simp⟩
/-- Arcs that count. -/
def ArcN (n : Nat) (arcs : List (Int × Int)) (u v : Int) : Prop := (u, v) ∈ arcs ∧ (0 ≤ u ∧ u < n) ∧ (0 ≤ v ∧ v < n)
/-- All edges lie among so many. -/
def InN (n : Nat) (es : List GEdge) : Prop := ∀ e ∈ es, (0 ≤ e.f ∧ e.f < n) ∧ (0 ≤ e.t ∧ e.t < n)
theorem arcN_iff {n : Nat} {es : List GEdge} (h : InN n es) (level : Int) (u v : Int) : ArcN n (liftL es level) u v ↔ ArcK es (level == 1) u v := by
  unfold ArcN
  rw [lift_mem]
  constructor
  · exact fun h => h.1
  · intro ha
    refine ⟨ha, ?_⟩
    rcases ha with ⟨e, he, _, rfl, rfl⟩ | ⟨_, e, he, _, rfl, g, hg, _, _, rfl⟩
    · exact h e he
    · exact ⟨(h e he).1, (h g hg).2⟩
end Go.Proofs.YtnacoplokjdglaaGreat

namespace Go.Proofs.YtnacoplokjdglaaGreat
open Go.RowKit Go.Maps Go.Sort Go.Shelf Go.Proofs

theorem compactUp_spec (d : Array Int) (hs : ∀ j, j + 1 < d.size → d[j]! ≤ d[j + 1]!) : ∀ m, m + 1 ≤ d.size →
    (Lib.compactUpTo d (m + 1)).Pairwise (· < ·) ∧ (∀ x ∈ Lib.compactUpTo d (m + 1), x ≤ d[m]!) ∧ (∀ x, x ∈ Lib.compactUpTo d (m + 1) ↔ ∃ j, j < m + 1 ∧ d[j]! = x)
  | 0, _ => by
    have e : Lib.compactUpTo d (0 + 1) = [d[0]!] := by
      rw [Lib.compactUpTo_succ, if_pos (Lib.keeps_lt_one d 0 (by omega))]; simp [Lib.compactUpTo]
    rw [e]
    refine ⟨List.pairwise_singleton _ _, fun x hx => by simp at hx; omega, fun x => ?_⟩
    constructor
    · intro h; simp at h; exact ⟨0, by omega, h.symm⟩
    · rintro ⟨j, hj, rfl⟩
      obtain rfl : j = 0 := by omega
      simp
  | m + 1, hm => by
    obtain ⟨h1, h2, h3⟩ := compactUp_spec d hs m (by omega)
    have hle := hs m (by omega)
    by_cases hk : d[m + 1]! = d[m]!
    · have e : Lib.compactUpTo d (m + 1 + 1) = Lib.compactUpTo d (m + 1) := by
        rw [Lib.compactUpTo_succ, if_neg (by rw [Lib.keeps_neg (by omega) (by simpa using hk)]; simp)]; simp
      rw [e]
      refine ⟨h1, fun x hx => by rw [hk]; exact h2 x hx, fun x => ?_⟩
      rw [h3]
      constructor
      · rintro ⟨j, hj, rfl⟩; exact ⟨j, by omega, rfl⟩
      · rintro ⟨j, hj, rfl⟩
        by_cases hjm : j < m + 1
        · exact ⟨j, hjm, rfl⟩
        · obtain rfl : j = m + 1 := by omega
          exact ⟨m, by omega, hk.symm⟩
    · have e : Lib.compactUpTo d (m + 1 + 1) = Lib.compactUpTo d (m + 1) ++ [d[m + 1]!] := by
        rw [Lib.compactUpTo_succ, if_pos (Lib.keeps_pos (by simpa using hk))]
      rw [e]
      refine ⟨List.pairwise_append.2 ⟨h1, List.pairwise_singleton _ _, fun x hx y hy => ?_⟩, fun x hx => ?_, fun x => ?_⟩
      · rw [List.mem_singleton.1 hy]
        have := h2 x hx
        omega
      · rcases List.mem_append.1 hx with hx | hx
        · have := h2 x hx; omega
        · rw [List.mem_singleton.1 hx]; exact Int.le_refl _
      · rw [List.mem_append, h3, List.mem_singleton]
        constructor
        · rintro (⟨j, hj, rfl⟩ | rfl)
          · exact ⟨j, by omega, rfl⟩
          · exact ⟨m + 1, by omega, rfl⟩
        · rintro ⟨j, hj, rfl⟩
          by_cases hjm : j < m + 1
          · exact .inl ⟨j, hjm, rfl⟩
          · obtain rfl : j = m + 1 := by omega
            exact .inr rfl
/-- A rising list without its doubles: rises strictly, holds the same. -/
theorem compact_spec {l : List Int} (h : l.Pairwise (fun x y => x ≤ y)) : (Lib.compact l).Pairwise (· < ·) ∧ ∀ x, x ∈ Lib.compact l ↔ x ∈ l := by
  cases hl : l with
  | nil => subst hl; exact ⟨List.Pairwise.nil, fun x => Iff.rfl⟩
  | cons a t =>
    have hlen : l.length = t.length + 1 := by rw [hl]; rfl
    rw [← hl]
    have hg : ∀ j, j < l.length → l.toArray[j]! = l[j]! := fun j hj => by simp
    obtain ⟨h1, -, h3⟩ := compactUp_spec l.toArray (fun j hj => by
      have hj' : j + 1 < l.length := by simpa using hj
      rw [hg j (by omega), hg (j + 1) hj', getElem!_pos l j (by omega), getElem!_pos l (j + 1) hj']
      exact List.pairwise_iff_getElem.1 h j (j + 1) (by omega) hj' (by omega)) t.length (by simp; omega)
    unfold Lib.compact
    rw [hlen]
    refine ⟨h1, fun x => ?_⟩
    rw [h3]
    constructor
    · rintro ⟨j, hj, rfl⟩
      rw [hg j (by omega), getElem!_pos l j (by omega)]
      exact List.getElem_mem _
    · intro hx
      obtain ⟨j, hj, e⟩ := List.getElem_of_mem hx
      exact ⟨j, by omega, by rw [hg j hj, getElem!_pos l j hj]; exact e⟩
theorem compact_len (l : List Int) : (Lib.compact l).length ≤ l.length := by
  unfold Lib.compact Lib.compactUpTo
  rw [List.length_map]
  exact Nat.le_trans (List.length_filter_le _ _) (by simp)
/-- A row sorted, without doubles. -/
def sortC (l : List Int) : List Int := Lib.compact (srt l)
theorem sortC_mem (l : List Int) (x : Int) : x ∈ sortC l ↔ x ∈ l := by
  unfold sortC
  rw [(compact_spec (srt_sorted l)).2, (srt_perm l).mem_iff]
theorem sortC_len (l : List Int) : (sortC l).length ≤ l.length := by
  unfold sortC
  have := compact_len (srt l)
  rw [(srt_perm l).length_eq] at this
  exact this

set_option maxRecDepth 100000 in
set_option maxHeartbeats 2000000 in
theorem compact_call {base : Nat} (v : Value) (l : List Int) (w : World) (h : OwI base w v l) (hlen : l.length ≤ 1048576) :
    Calls Tryz.prog 118 #[v] w fun e w' => ∃ v', e = .returned v' ∧ OwI base w' v' (Lib.compact l) ∧ w.grownBy w' v.ownBlock ∧ v'.ownBlock = v.ownBlock := by
  rcases h.2 with ⟨hv, h0⟩ | ⟨g, cap, cur, rfl, hg, hb, h1, h2, h3, h4⟩
  · have hl : l = [] := List.length_eq_zero_iff.1 h0
    subst hl
    subst hv
    have hc := AnyG.slices_Compact_int_empty compactI none 0 w
    change Calls Tryz.prog 118 _ _ _ at hc
    refine hc.mono ?_
    rintro e w' ⟨rfl, rfl⟩
    exact ⟨_, rfl, by simpa [OwI, Lib.compact, Lib.compactUpTo] using h, ⟨rfl, rfl, rfl, Nat.le_refl _, fun _ _ _ => rfl⟩, rfl⟩
  · have h4' : cur.toList.take l.length = l.map encI := by rw [← viC_map]; simpa using h4
    have hc := AnyG.slices_Compact_int compactI g 0 cap l w (holdsI hb h4') (by omega) h1
    change Calls Tryz.prog 118 _ _ _ at hc
    refine hc.mono ?_
    rintro e w' ⟨rfl, q, rfl⟩
    have hcl := compact_len l
    have hgl : g < w.heap.size := (Array.getElem?_eq_some_iff.1 hb).1
    have hgr := grownI (w := w) (g := g) (n := q) (os := #[]) (Lib.compact l ++ List.replicate (l.length - (Lib.compact l).length) 0).toArray
    rw [grow_empty] at hgr
    have hsl : (Lib.compact l ++ List.replicate (l.length - (Lib.compact l).length) 0).length = l.length := by simp; omega
    have hrow := sortedI (n := q) (os := #[]) (l := l) (l' := Lib.compact l ++ List.replicate (l.length - (Lib.compact l).length) 0) (base := base) hsl hg hb h1 h2 h3
    rw [grow_empty] at hrow
    refine ⟨_, rfl, ?_, hgr, rfl⟩
    unfold OwI
    rw [viC_map]
    rcases hrow.2 with ⟨hv, -⟩ | ⟨g', cap', cur', hv, hg', hb', h1', h2', h3', h4''⟩
    · cases hv
    · simp only [Value.slice.injEq, Option.some.injEq, Addr.mk.injEq, and_true, true_and] at hv
      obtain ⟨rfl, rfl⟩ := hv
      refine ⟨by simp, .inr ⟨g, cap, cur', rfl, hg', hb', by omega, h2', h3', ?_⟩⟩
      have := congrArg (List.take (Lib.compact l).length) h4''
      rw [List.take_take, List.map_append, List.take_left' (by simp)] at this
      rw [Nat.min_eq_left (by omega)] at this
      simpa using this
end Go.Proofs.YtnacoplokjdglaaGreat

namespace Go.Proofs.YtnacoplokjdglaaGreat
open Go.RowKit

theorem wp_append_at {P : Program} {w : World} {o : Oper} {a : Act} {K : Act → World → Prop} {Q : Exit → Act → World → Prop} (s x : Operand) (t : TypeId)
    (ho : o.op = .call { callee := .builtin .append, args := #[s, x], argTypes := #[t, t] })
    {e : TypeId} {size bytes : Nat} {z : Value} (he : Elt P t e size bytes z) (base : Nat)
    {v : Value} (n : Nat) (xs : List Value) (hown : w.ownsRow base e size v n xs) (hs : a.eval s = v)
    {ad : Addr} {c : Nat} (m : Nat) (news : List Value) (hsrc : Src w (.slice (some ad) m c) size m news) (hx : a.eval x = .slice (some ad) m c) (h1 : ∀ u ∈ news, u.oneCell' = true)
    (hsz : n + m ≤ 68719476736) (hbytes : bytes ≤ 2048) (hbase : base ≤ w.heap.size)
    (h : ∀ v' w', w'.ownsRow base e size v' (n + m) (xs ++ news) → w.grownBy w' v.ownBlock → (v'.ownBlock = v.ownBlock ∨ v'.ownBlock = some w.heap.size) → K (a.put o.dst v') w') : Oper.wp P o a w K Q := by
  obtain ⟨ht, h0, hzs, i, hi, hz, his, hib⟩ := he
  obtain ⟨ad', c', hv, hl, -, hsome⟩ := hsrc
  cases hv
  obtain ⟨v', w', hr, h2, h3, h4, h5⟩ := run_append_own_at (P := P) w base t o.type e i z size bytes ht hi hz his hib hzs h0 v n xs hown ad m c news hl (hsome ad rfl) h1 (by simp only [maxLen]; omega) (Nat.le_trans (Nat.mul_le_mul hsz hbytes) (by decide)) hbase
  unfold Oper.wp execOp
  simp only [ho, resolve, invoke, builtin, Sem.run_bind, Sem.run_pure, Result.andThen_ok, List.map_toArray, List.map_cons, List.map_nil, hs, hx, hr]
  exact h v' w' h2 h3 h5
theorem stepAt {P : Program} {w : World} {ops : Array Oper} {o : Oper} {a : Act} {K : Act → World → Prop} {Q : Exit → Act → World → Prop} {E : Prop} (hgd : o.guard = none) (s x : Operand) (t : TypeId)
    (ho : o.op = .call { callee := .builtin .append, args := #[s, x], argTypes := #[t, t] })
    {e : TypeId} {size bytes : Nat} {z : Value} (he : Elt P t e size bytes z) (base : Nat)
    {v : Value} (n : Nat) (xs : List Value) (hown : w.ownsRow base e size v n xs) (hs : a.eval s = v)
    {ad : Addr} {c : Nat} (m : Nat) (news : List Value) (hsrc : Src w (.slice (some ad) m c) size m news) (hx : a.eval x = .slice (some ad) m c) (h1 : ∀ u ∈ news, u.oneCell' = true)
    (hsz : n + m ≤ 68719476736) (hbytes : bytes ≤ 2048) (hbase : base ≤ w.heap.size)
    (h : ∀ v' w', w'.ownsRow base e size v' (n + m) (xs ++ news) → w.grownBy w' v.ownBlock → (v'.ownBlock = v.ownBlock ∨ v'.ownBlock = some w.heap.size) → K (a.put o.dst v') w') :
    if Region.wanted o (yielded ops a.tmps) = true then Oper.wp P o a w K Q else E := by
  have hw : Region.wanted o (yielded ops a.tmps) = true := by simp [Region.wanted, hgd]
  rw [if_pos hw]
  exact wp_append_at s x t ho he base n xs hown hs m news hsrc hx h1 hsz hbytes hbase h
theorem wpListAt {P : Program} {w : World} {ops : Array Oper} {rest : List Oper} {o : Oper} {a : Act} {Q : Exit → Act → World → Prop} (hgd : o.guard = none) (s x : Operand) (t : TypeId)
    (ho : o.op = .call { callee := .builtin .append, args := #[s, x], argTypes := #[t, t] })
    {e : TypeId} {size bytes : Nat} {z : Value} (he : Elt P t e size bytes z) (base : Nat)
    {v : Value} (n : Nat) (xs : List Value) (hown : w.ownsRow base e size v n xs) (hs : a.eval s = v)
    {ad : Addr} {c : Nat} (m : Nat) (news : List Value) (hsrc : Src w (.slice (some ad) m c) size m news) (hx : a.eval x = .slice (some ad) m c) (h1 : ∀ u ∈ news, u.oneCell' = true)
    (hsz : n + m ≤ 68719476736) (hbytes : bytes ≤ 2048) (hbase : base ≤ w.heap.size)
    (h : ∀ v' w', w'.ownsRow base e size v' (n + m) (xs ++ news) → w.grownBy w' v.ownBlock → (v'.ownBlock = v.ownBlock ∨ v'.ownBlock = some w.heap.size) → wpList P ops Q rest (a.put o.dst v') w') : wpList P ops Q (o :: rest) a w := by
  have := wp_append_at (P := P) (w := w) (o := o) (a := a) (K := fun a w => wpList P ops Q rest a w) (Q := Q) s x t ho he base n xs hown hs m news hsrc hx h1 hsz hbytes hbase h
  unfold wpList
  simp [Region.wanted, hgd]
  exact .inl this

/-- Two rows do not lie in one block. -/
def ApartV (v v' : Value) : Prop := ∀ g, v.ownBlock = some g → v'.ownBlock ≠ some g
theorem ApartV.symm {u v : Value} (h : ApartV u v) : ApartV v u := fun g hg e => h g e hg
theorem nil_apartV (v : Value) : ApartV (.slice none 0 0) v := fun g h => by simp [Value.ownBlock] at h
/-- Rows that lie apart, one for each list: the slice values that they lie in. -/
structure RowsT {α : Type} (enc : α → List Value) (k e N : Nat) (vs : List Value) (T : List (List α)) (W : World) : Prop where
  len : vs.length = T.length
  row : ∀ (i : Nat) v l, vs[i]? = some v → T[i]? = some l → W.ownsRow N e k v l.length (l.flatMap enc)
  apart : ∀ (i j : Nat) v u, i ≠ j → vs[i]? = some v → vs[j]? = some u → ApartV v u
section
variable {α : Type} {enc : α → List Value} {k e N : Nat} {vs : List Value} {T : List (List α)} {A B : World}
theorem RowsT.nils (n : Nat) : RowsT enc k e N (List.replicate n (.slice none 0 0)) (List.replicate n []) A := by
  refine ⟨by simp, fun i v l hv hl => ?_, fun i j v u _ hv hu => ?_⟩
  · rw [List.getElem?_replicate] at hv hl
    split at hv
    · rename_i hi
      rw [if_pos hi] at hl
      cases hv; cases hl
      exact World.ownsRow_nil _ _ _ _
    · cases hv
  · rw [List.getElem?_replicate] at hv
    split at hv
    · cases hv; exact nil_apartV u
    · cases hv
theorem RowsT.get (h : RowsT enc k e N vs T A) {i : Nat} {l : List α} (hl : T[i]? = some l) : ∃ v, vs[i]? = some v ∧ A.ownsRow N e k v l.length (l.flatMap enc) := by
  have hi : i < vs.length := by rw [h.len]; exact (List.getElem?_eq_some_iff.1 hl).1
  exact ⟨vs[i], List.getElem?_eq_getElem hi, h.row i _ l (List.getElem?_eq_getElem hi) hl⟩
theorem RowsT.later (h : RowsT enc k e N vs T A) (hb : Below A.heap.size A B) : RowsT enc k e N vs T B := ⟨h.len, fun i v l hv hl => own_below (h.row i v l hv hl) hb, h.apart⟩
/-- A block that is none of theirs turns. -/
theorem RowsT.kept (h : RowsT enc k e N vs T A) {r : Option Nat} (hg : A.grownBy B r) (hr : ∀ g, r = some g → ∀ (i : Nat) (v : Value), vs[i]? = some v → v.ownBlock ≠ some g) : RowsT enc k e N vs T B :=
  ⟨h.len, fun i v l hv hl => (h.row i v l hv hl).kept hg (by
    cases ho : v.ownBlock with
    | none => exact .inl rfl
    | some g => exact .inr (fun e => hr g e.symm i v hv ho)), h.apart⟩
/-- One of them is written anew. -/
theorem RowsT.put (h : RowsT enc k e N vs T A) {i : Nat} {v v' : Value} {l : List α} (hv : vs[i]? = some v) (hg : A.grownBy B v.ownBlock) (ho : B.ownsRow N e k v' l.length (l.flatMap enc)) (hat : v'.ownBlock = v.ownBlock ∨ v'.ownBlock = some A.heap.size) : RowsT enc k e N (vs.set i v') (T.set i l) B := by
  have hi : i < vs.length := (List.getElem?_eq_some_iff.1 hv).1
  have hlt : ∀ (j : Nat) (u : Value), vs[j]? = some u → ∀ g, u.ownBlock = some g → g < A.heap.size := fun j u hu g hg => by
    have hj : j < T.length := by rw [← h.len]; exact (List.getElem?_eq_some_iff.1 hu).1
    exact ((h.row j u _ hu (List.getElem?_eq_getElem hj)).lt g hg).2
  have new : ∀ j u, j ≠ i → vs[j]? = some u → ApartV v' u := fun j u hj hu g hg e => by
    rcases hat with hat | hat
    · exact h.apart i j v u (Ne.symm hj) hv hu g (hat ▸ hg) e
    · have h1 := hlt j u hu g e
      rw [hat] at hg
      cases hg; omega
  refine ⟨by simp [h.len], fun j u m hu hm => ?_, fun a b u u' hab hu hu' => ?_⟩
  · by_cases hj : j = i
    · subst hj
      rw [List.getElem?_set_self hi] at hu
      rw [List.getElem?_set_self (by rw [← h.len]; exact hi)] at hm
      cases hu; cases hm; exact ho
    · rw [List.getElem?_set_ne (Ne.symm hj)] at hu hm
      refine (h.row j u m hu hm).kept hg ?_
      cases hub : u.ownBlock with
      | none => exact .inl rfl
      | some g => exact .inr (fun e => h.apart j i u v hj hu hv g hub e.symm)
  · by_cases ha : a = i
    · subst ha
      rw [List.getElem?_set_self hi] at hu
      rw [List.getElem?_set_ne hab] at hu'
      cases hu
      exact new b u' (Ne.symm hab) hu'
    · rw [List.getElem?_set_ne (Ne.symm ha)] at hu
      by_cases hb : b = i
      · subst hb
        rw [List.getElem?_set_self hi] at hu'
        cases hu'
        exact (new a u ha hu).symm
      · rw [List.getElem?_set_ne (Ne.symm hb)] at hu'
        exact h.apart a b u u' hab hu hu'
end
/-- The rows and the block in which their slice values lie. -/
structure TabT {α : Type} (enc : α → List Value) (k e te N tb : Nat) (vs : List Value) (T : List (List α)) (W : World) : Prop where
  rows : RowsT enc k e N vs T W
  blk : W.heap[tb]? = some (.cells vs.toArray te)
  own : N ≤ tb
  ne : e ≠ te
section
variable {α : Type} {enc : α → List Value} {k e te N tb : Nat} {vs : List Value} {T : List (List α)} {A B : World}
theorem TabT.later (h : TabT enc k e te N tb vs T A) (hb : Below A.heap.size A B) : TabT enc k e te N tb vs T B := ⟨h.rows.later hb, (hb.block tb (Array.getElem?_eq_some_iff.1 h.blk).1).trans h.blk, h.own, h.ne⟩
theorem TabT.cell (h : TabT enc k e te N tb vs T A) {i : Nat} {v : Value} (hv : vs[i]? = some v) : A.cell? ⟨tb, i, none⟩ = some v := by
  simp [World.cell?, h.blk, hv]
theorem TabT.row_ne (h : TabT enc k e te N tb vs T A) {i : Nat} {v : Value} (hv : vs[i]? = some v) : v.ownBlock ≠ some tb := by
  intro hvb
  have hi : i < T.length := by rw [← h.rows.len]; exact (List.getElem?_eq_some_iff.1 hv).1
  rcases (h.rows.row i v _ hv (List.getElem?_eq_getElem hi)).2 with ⟨h1, _⟩ | ⟨g, cap, cur, h1, _, hh, _⟩
  · rw [h1] at hvb; cases hvb
  · rw [h1] at hvb
    cases hvb
    rw [h.blk] at hh
    cases hh
    exact h.ne rfl
/-- A row of it is written anew, its slice value not yet stored. -/
theorem TabT.wrote (h : TabT enc k e te N tb vs T A) {i : Nat} {v v' : Value} {l : List α} (hv : vs[i]? = some v) (hg : A.grownBy B v.ownBlock) (ho : B.ownsRow N e k v' l.length (l.flatMap enc)) (hat : v'.ownBlock = v.ownBlock ∨ v'.ownBlock = some A.heap.size) :
    B.cell? ⟨tb, i, none⟩ = some v ∧ B.frozen? ⟨tb, i, none⟩ = false ∧ TabT enc k e te N tb (vs.set i v') (T.set i l) (B.setCell ⟨tb, i, none⟩ v') := by
  have hblk : B.heap[tb]? = some (.cells vs.toArray te) := (hg.block tb (Array.getElem?_eq_some_iff.1 h.blk).1 (fun e => h.row_ne hv e.symm)).trans h.blk
  have hr := h.rows.put hv hg ho hat
  have hi : i < vs.length := (List.getElem?_eq_some_iff.1 hv).1
  have hne : ∀ (j : Nat) (u : Value), (vs.set i v')[j]? = some u → u.ownBlock ≠ some tb := by
    intro j u hu
    by_cases hj : j = i
    · subst hj
      rw [List.getElem?_set_self hi] at hu
      cases hu
      rcases hat with hat | hat
      · rw [hat]; exact h.row_ne hv
      · rw [hat]
        intro e
        have := (Array.getElem?_eq_some_iff.1 h.blk).1
        cases e; omega
    · rw [List.getElem?_set_ne (Ne.symm hj)] at hu
      exact h.row_ne hu
  refine ⟨by simp [World.cell?, hblk, hv], by simp [World.frozen?, hblk], ?_, ?_, h.own, h.ne⟩
  · have hgs : B.grownBy (B.setCell ⟨tb, i, none⟩ v') (some tb) := ⟨rfl, rfl, rfl, by simp [World.setCell], fun j _ hj => Below.heap_setCell _ _ _ j (fun e => hj (by rw [e]))⟩
    exact hr.kept hgs (fun g hg j u hu => by cases hg; exact hne j u hu)
  · simp [World.setCell, Array.getElem?_modify, hblk]
theorem TabT.kept (h : TabT enc k e te N tb vs T A) {r : Option Nat} (hg : A.grownBy B r) (hr : ∀ g, r = some g → g ≠ tb ∧ ∀ (i : Nat) (v : Value), vs[i]? = some v → v.ownBlock ≠ some g) : TabT enc k e te N tb vs T B :=
  ⟨h.rows.kept hg (fun g e => (hr g e).2), (hg.block tb (Array.getElem?_eq_some_iff.1 h.blk).1 (fun e => (hr tb e.symm).1 rfl)).trans h.blk, h.own, h.ne⟩
end
end Go.Proofs.YtnacoplokjdglaaGreat

namespace Go.Proofs.YtnacoplokjdglaaGreat
open Go.RowKit
/-- A frame of n slots, slot by slot. -/
def frN (n : Nat) (f : Nat → Value) : Act := ⟨((List.range n).map f).toArray, []⟩
/-- What lies in the slots of a frame that is written out. -/
def slotsOf (l : List Value) : Nat → Value := fun i => (l[i]?).getD undef
theorem frN_of (n : Nat) (l : List Value) (h : l.length = n) : (⟨l.toArray, []⟩ : Act) = frN n (slotsOf l) := by
  have : (List.range n).map (slotsOf l) = l := by
    apply List.ext_getElem?
    intro i
    rw [List.getElem?_map]
    by_cases hi : i < n
    · rw [List.getElem?_range hi, Option.map_some]
      unfold slotsOf
      rw [List.getElem?_eq_getElem (by omega)]; rfl
    · rw [List.getElem?_eq_none (by simp; omega), List.getElem?_eq_none (by omega)]; rfl
  unfold frN; rw [this]

theorem wp_fr {P : Program} {c : Code} {Q : Exit → Act → World → Prop} {w : World} (n : Nat) (l : List Value) (hl : l.length = n) (h : c.wp P Q (frN n (slotsOf l)) w) : c.wp P Q ⟨l.toArray, []⟩ w := by
  rw [frN_of n l hl]; exact h

theorem wp_loopF {P : Program} {c : Code} {Q : Exit → Act → World → Prop} {w : World} (n : Nat) (R : Nat → (Nat → Value) → World → Prop) (l0 : List Value) (hl : l0.length = n) (m0 : Nat) (h0 : R m0 (slotsOf l0) w)
    (round : ∀ m f w, R m f w → ∀ (J : Nat → Act → World → Prop) (K : Act → World → Prop), (∀ k (l : List Value) w', l.length = n → R k (slotsOf l) w' → J k ⟨l.toArray, []⟩ w') → (∀ a' w', Handed J m a' w' → K a' w') → c.wp P (Exit.then K Q) (frN n f) w) : (Code.loop c).wp P Q ⟨l0.toArray, []⟩ w :=
  wp_loop_ghost_k (fun m a' w' => ∃ f, a' = frN n f ∧ R m f w') m0 ⟨_, frN_of n l0 hl, h0⟩
    (fun m a' w' ⟨f, e, h⟩ J K h1 h2 => e ▸ round m f w' h J K (fun k l w'' hl hr => h1 k _ _ ⟨_, frN_of n l hl, hr⟩) h2)

/-- What holds of the plain end; no other end. -/
def OnlyN (K : Act → World → Prop) : Exit → Act → World → Prop
  | .normal, a, w => K a w
  | _, _, _ => False
theorem wp_onlyN {P : Program} {c : Code} {K : Act → World → Prop} {Q : Exit → Act → World → Prop} {a : Act} {w : World} (h : c.wp P (OnlyN K) a w) (hK : ∀ a w, K a w → Q .normal a w) : c.wp P Q a w :=
  wp_mono h (fun e a w hq => by
    cases e with
    | normal => exact hK _ _ hq
    | exit id => exact hq.elim
    | goto l => exact hq.elim
    | ret => exact hq.elim
    | panic ch => exact hq.elim
    | outgrown => exact hq.elim)

section codes
def blockOf (n : Nat) : Code → Option Code
  | .block m c => if m = n then some (.block m c) else blockOf n c
  | .seq a b => match blockOf n a with
    | some c => some c
    | none => blockOf n b
  | .cond _ a b => match blockOf n a with
    | some c => some c
    | none => blockOf n b
  | .loop c => blockOf n c
  | .scope c => blockOf n c
  | _ => none
def endsIn (n : Nat) : Code → Bool
  | .block m _ => m == n
  | .seq _ b => endsIn n b
  | _ => false
/-- What follows a block in its sequence. -/
def afterBlock (n : Nat) : Code → Option Code
  | .seq a b => if endsIn n a then some b else match afterBlock n a with
    | some c => some c
    | none => afterBlock n b
  | .block _ c => afterBlock n c
  | .cond _ a b => match afterBlock n a with
    | some c => some c
    | none => afterBlock n b
  | .loop c => afterBlock n c
  | .scope c => afterBlock n c
  | _ => none
end codes
end Go.Proofs.YtnacoplokjdglaaGreat

namespace Go.Proofs.YtnacoplokjdglaaGreat
open Go.RowKit Go.Maps
attribute [local go_sem] Oper.semAt_some

def EArc (_ : World) (cs : List Value) (a : Int × Int) : Prop := cs = [vi a.1, vi a.2]
/-- A row of arcs that can be read. -/
abbrev RdArcs (w : World) (v : Value) (l : List (Int × Int)) : Prop := RdS 2 EArc w v l
theorem RdArcs.later {A B : World} {v : Value} {l : List (Int × Int)} (h : RdArcs A v l) (hb : Below A.heap.size A B) : RdArcs B v l := RdS.below h hb fun _ _ h => h
theorem RdArcs.at {w : World} {v : Value} {l : List (Int × Int)} (h : RdArcs w v l) : ∃ a len cap, v = .slice a len cap ∧ len = l.length ∧ l.length ≤ 9223372036854775807 ∧ ∀ j x, l[j]? = some x → ∃ b off, a = some ⟨b, off, none⟩ ∧ w.cell? ⟨b, off + j * 2, none⟩ = some (vi x.1) ∧ w.cell? ⟨b, off + j * 2 + 1, none⟩ = some (vi x.2) := by
  obtain ⟨a, len, cap, h1, h2, h3, h4, h5, h6⟩ := h
  refine ⟨a, len, cap, h1, h2, h3, fun j x hj => ?_⟩
  obtain ⟨b, off, cs, ha, hl, hc, rfl⟩ := h6 j x hj
  exact ⟨b, off, ha, by simpa using hc 0 _ rfl, by simpa [Nat.add_assoc] using hc 1 _ rfl⟩
def inN (n : Nat) (a : Int × Int) : Bool := decide (0 ≤ a.1) && decide (a.1 < n) && decide (0 ≤ a.2) && decide (a.2 < n)
/-- Where one gets from a node, as it comes. -/
def rawRow (n : Nat) (arcs : List (Int × Int)) (u : Nat) : List Int := (arcs.filter (fun a => inN n a && a.1 == (u : Int))).map (·.2)
def nextT (n : Nat) (arcs : List (Int × Int)) : List (List Int) := (List.range n).map (fun u => sortC (rawRow n arcs u))
theorem rawRow_len (n : Nat) (arcs : List (Int × Int)) (u : Nat) : (rawRow n arcs u).length ≤ arcs.length := by
  unfold rawRow; rw [List.length_map]; exact List.length_filter_le _ _
theorem rawRow_mem {n : Nat} {arcs : List (Int × Int)} {u : Nat} {x : Int} : x ∈ rawRow n arcs u ↔ ((u : Int), x) ∈ arcs ∧ u < n ∧ 0 ≤ x ∧ x < n := by
  unfold rawRow
  rw [List.mem_map]
  constructor
  · rintro ⟨⟨f, t⟩, h, rfl⟩
    obtain ⟨h1, h2⟩ := List.mem_filter.1 h
    simp only [inN, Bool.and_eq_true, decide_eq_true_eq, beq_iff_eq] at h2
    obtain ⟨⟨⟨⟨h3, h4⟩, h5⟩, h6⟩, rfl⟩ := h2
    exact ⟨h1, by omega, h5, h6⟩
  · rintro ⟨h1, h2, h3, h4⟩
    refine ⟨(u, x), List.mem_filter.2 ⟨h1, ?_⟩, rfl⟩
    simp [inN]; omega
theorem rawRow_bound {n : Nat} {arcs : List (Int × Int)} {u : Nat} : ∀ x ∈ rawRow n arcs u, 0 ≤ x ∧ x < n := fun x h => (rawRow_mem.1 h).2.2
theorem nextT_len (n : Nat) (arcs : List (Int × Int)) : (nextT n arcs).length = n := by simp [nextT]
theorem nextT_at {n : Nat} {arcs : List (Int × Int)} {u : Nat} (h : u < n) : (nextT n arcs)[u]? = some (sortC (rawRow n arcs u)) := by
  unfold nextT; rw [List.getElem?_map, List.getElem?_range h]; rfl
theorem mapR_set {β : Type} (n : Nat) (f g : Nat → β) (i : Nat) (hne : ∀ u, u ≠ i → g u = f u) : ((List.range n).map f).set i (g i) = (List.range n).map g := by
  apply List.ext_getElem?
  intro j
  by_cases hj : j = i
  · subst hj
    by_cases hl : j < n
    · rw [List.getElem?_set_self (by simpa using hl), List.getElem?_map, List.getElem?_range hl]; rfl
    · rw [List.getElem?_eq_none (by simp; omega), List.getElem?_eq_none (by simp; omega)]
  · rw [List.getElem?_set_ne (Ne.symm hj), List.getElem?_map, List.getElem?_map]
    by_cases hl : j < n
    · rw [List.getElem?_range hl]; simp [hne j hj]
    · rw [List.getElem?_eq_none (by simp; omega)]; rfl
theorem raw_step {n : Nat} {arcs : List (Int × Int)} {k u v : Nat} (h : arcs[k]? = some ((u : Int), (v : Int))) (hu : u < n) (hv : v < n) : ((List.range n).map (rawRow n (arcs.take k))).set u (rawRow n (arcs.take k) u ++ [(v : Int)]) = (List.range n).map (rawRow n (arcs.take (k + 1))) := by
  have e : ∀ x, rawRow n (arcs.take (k + 1)) x = rawRow n (arcs.take k) x ++ (if x = u then [(v : Int)] else []) := by
    intro x
    unfold rawRow
    rw [take_at h, List.filter_append, List.map_append]
    congr 1
    by_cases hx : x = u
    · subst hx
      rw [if_pos rfl]
      simp [inN, hu, hv]
    · rw [if_neg hx]
      have : ¬ ((u : Int) = (x : Int)) := by omega
      simp [this]
  have := mapR_set n (rawRow n (arcs.take k)) (rawRow n (arcs.take (k + 1))) u (fun x hx => by rw [e, if_neg hx, List.append_nil])
  rw [e u, if_pos rfl] at this
  exact this
theorem raw_skip {n : Nat} {arcs : List (Int × Int)} {k : Nat} {a : Int × Int} (h : arcs[k]? = some a) (ha : inN n a = false) : (List.range n).map (rawRow n (arcs.take (k + 1))) = (List.range n).map (rawRow n (arcs.take k)) := by
  apply List.map_congr_left
  intro x _
  unfold rawRow
  rw [take_at h, List.filter_append, List.map_append]
  simp [ha]
theorem TabT.turned {α : Type} {enc : α → List Value} {k e te N tb : Nat} {vs : List Value} {T : List (List α)} {A B : World} (h : TabT enc k e te N tb vs T A) {i : Nat} {v : Value} {l : List α} (hv : vs[i]? = some v) (hg : A.grownBy B v.ownBlock) (ho : B.ownsRow N e k v l.length (l.flatMap enc)) : TabT enc k e te N tb vs (T.set i l) B := by
  have hr := h.rows.put hv hg ho (.inl rfl)
  have hi := (List.getElem?_eq_some_iff.1 hv).1
  have hvs : vs.set i v = vs := by
    apply List.ext_getElem?
    intro j
    by_cases hj : j = i
    · subst hj; rw [List.getElem?_set_self hi, hv]
    · rw [List.getElem?_set_ne (Ne.symm hj)]
  rw [hvs] at hr
  exact ⟨hr, (hg.block tb (Array.getElem?_eq_some_iff.1 h.blk).1 (fun e => h.row_ne hv e.symm)).trans h.blk, h.own, h.ne⟩
theorem tab_below {α : Type} {enc : α → List Value} {k e te N tb : Nat} {vs : List Value} {T : List (List α)} {w A B : World} (h : TabT enc k e te N tb vs T A) {i : Nat} {v : Value} (hv : vs[i]? = some v) (hg : A.grownBy B v.ownBlock) (hb : Below N w A) : Below N w B := by
  have hi : i < T.length := by rw [← h.rows.len]; exact (List.getElem?_eq_some_iff.1 hv).1
  exact ⟨hg.os.trans hb.os, hg.tape.trans hb.tape, hg.output.trans hb.output, Nat.le_trans hb.size hg.size, fun j hj => (hg.block j (by have := h.own; have := (Array.getElem?_eq_some_iff.1 h.blk).1; omega) (fun e => by have := ((h.rows.row i v _ hv (List.getElem?_eq_getElem hi)).lt j e.symm).1; omega)).trans (hb.block j hj)⟩
theorem Tryz.infoRows : (Tryz.prog.info? 58).map (fun i => (i.zero, i.size, i.bytes)) = some (some (.slice none 0 0), 1, 24) := by kernel_rfl
theorem run_makeRows (w : World) (n : Nat) (hn : n ≤ 1048576) : (Instr.makeSlice 59 (.int .i64 (n : Int)) (.int .i64 (n : Int))).run Tryz.prog w = .ok (.slice (some ⟨w.heap.size, 0, none⟩) n n) (w.alloc (.cells (Array.replicate n (.slice none 0 0)) 58)) := by
  obtain ⟨i, hi, h2⟩ := Option.map_eq_some_iff.1 Tryz.infoRows
  simp only [Prod.mk.injEq] at h2
  obtain ⟨hz, hs, hb⟩ := h2
  have := run_makeSlice (P := Tryz.prog) w 59 58 i (.slice none 0 0) Tryz.underlying59 hi hz .i64 .i64 n n (by omega) (Int.le_refl _) (by rw [hs]; omega) (by rw [hb]; omega) (by omega)
  rw [this, hs]
  have e : madeCells (Value.slice none 0 0).cells ((n : Int).toNat * 1) = (List.replicate n (.slice none 0 0)).toArray := by
    apply Array.toList_inj.1
    rw [show (Value.slice none 0 0).cells = #[Value.slice none 0 0] from rfl, toList_madeCells_one]
    simp
  rw [e]; simp
theorem Gr.own_shape {w : World} {base e size n : Nat} {v : Value} {xs : List Value} (h : w.ownsRow base e size v n xs) : ∃ a c, v = .slice a n c := by
  rcases h.2 with ⟨rfl, h0⟩ | ⟨g, cap, cur, rfl, _, _, _⟩
  · exact ⟨none, 0, by rw [h0]⟩
  · exact ⟨_, _, rfl⟩
theorem Gr.keep {b Y e n m : Nat} {W W' : World} {v : Value} {xs : List Value} {cs : Array Value} {T : TypeId} (h : W.ownsRow b e n v m xs) (hY : W.heap[Y]? = some (.cells cs T)) (hT : T ≠ e) (hg : W.grownBy W' v.ownBlock) : W'.heap[Y]? = some (.cells cs T) :=
  (hg.block Y (Array.getElem?_eq_some_iff.1 hY).1 (fun e => by
    rcases h.2 with ⟨hv, _⟩ | ⟨g', cap, cur, hv, _, hh, _⟩
    · rw [hv] at e; cases e
    · rw [hv] at e; simp only [Value.ownBlock, Option.some.injEq] at e; subst e; rw [hY] at hh; cases hh; exact hT rfl)).trans hY
theorem viC_flat (l : List Int) (x : Int) : (l ++ [x]).flatMap viC = l.flatMap viC ++ [vi x] := by simp [viC]

/-- A region of a function's code. -/
def rgnOf (n : Nat) : Code → Option Code
  | .region m ops b => if m = n then some (.region m ops b) else none
  | .seq a b => match rgnOf n a with
    | some c => some c
    | none => rgnOf n b
  | .block _ c => rgnOf n c
  | .cond _ a b => match rgnOf n a with
    | some c => some c
    | none => rgnOf n b
  | .loop c => rgnOf n c
  | .scope c => rgnOf n c
  | _ => none
noncomputable def cNx6 : Code := (Tryz.f93.body.bind (rgnOf 6)).getD .skip
set_option maxRecDepth 100000 in
set_option maxHeartbeats 8000000 in
theorem reg6 {n tb b7 u z N : Nat} {au : Option Addr} {cu : Nat} {vs : List Value} {T : List (List Int)} {l : List Int} (wa : World) {s0 s1 s2 s3 s4 s6 s8 s9 s10 s11 s12 s13 s14 s15 s16 s17 s18 s19 s20 s21 s22 s23 s24 s25 s26 s27 s28 s29 s30 s31 s32 s33 s34 s35 s36 s37 s38 s39 s40 s41 s42 s43 s44 s45 s46 s47 s48 s49 s50 s51 s52 s53 s54 s55 s56 s57 s58 s59 s60 s61 s62 s63 s64 s65 s66 s67 s68 s69 s70 : Value} (KX : Act → World → Prop)
    (hX : wa.heap[b7]? = some (.cells #[vi u, vi z] 164)) (hT : TabT viC 1 3 58 N tb vs T wa) (hv : vs[u]? = some (.slice au l.length cu)) (hr : wa.ownsRow N 3 1 (.slice au l.length cu) l.length (l.flatMap viC))
    (hl : l.length + 1 ≤ 68719476736) (hN : N ≤ wa.heap.size) (h2 : (u : Int) < n)
    (hK : ∀ (wc : World) (v' : Value) (v37 v38 v39 v40 v41 v42 v43 v44 v45 v46 v47 v48 v49 : Value), wc.cell? ⟨tb, u, none⟩ = some (.slice au l.length cu) ∧ TabT viC 1 3 58 N tb (vs.set u v') (T.set u (l ++ [(z : Int)])) (wc.setCell ⟨tb, u, none⟩ v') ∧ (∀ w0, Below N w0 wa → Below N w0 wc) → KX ⟨(s0 :: s1 :: s2 :: s3 :: s4 :: .slice (some ⟨tb, 0, none⟩) n n :: s6 :: .pointer (some ⟨b7, 0, none⟩) :: s8 :: s9 :: s10 :: s11 :: s12 :: s13 :: s14 :: s15 :: s16 :: s17 :: s18 :: s19 :: s20 :: s21 :: s22 :: s23 :: s24 :: s25 :: s26 :: s27 :: s28 :: s29 :: s30 :: s31 :: s32 :: s33 :: s34 :: s35 :: s36 :: v37 :: v38 :: v39 :: v40 :: v41 :: v42 :: v43 :: v44 :: v45 :: v46 :: v47 :: v48 :: v49 :: s50 :: s51 :: s52 :: s53 :: s54 :: s55 :: s56 :: s57 :: s58 :: s59 :: s60 :: s61 :: s62 :: s63 :: s64 :: s65 :: s66 :: s67 :: s68 :: s69 :: s70 :: []).toArray, []⟩ (wc.setCell ⟨tb, u, none⟩ v')) :
    Code.wp Tryz.prog cNx6 (OnlyN KX) ⟨(s0 :: s1 :: s2 :: s3 :: s4 :: .slice (some ⟨tb, 0, none⟩) n n :: s6 :: .pointer (some ⟨b7, 0, none⟩) :: s8 :: s9 :: s10 :: s11 :: s12 :: s13 :: s14 :: s15 :: s16 :: s17 :: s18 :: s19 :: s20 :: s21 :: s22 :: s23 :: s24 :: s25 :: s26 :: s27 :: s28 :: s29 :: s30 :: s31 :: s32 :: s33 :: s34 :: s35 :: s36 :: s37 :: s38 :: s39 :: s40 :: s41 :: s42 :: s43 :: s44 :: s45 :: s46 :: s47 :: s48 :: s49 :: s50 :: s51 :: s52 :: s53 :: s54 :: s55 :: s56 :: s57 :: s58 :: s59 :: s60 :: s61 :: s62 :: s63 :: s64 :: s65 :: s66 :: s67 :: s68 :: s69 :: s70 :: []).toArray, []⟩ wa := by
  have FIN := Lib.hid hK
  have h3 : (0 : Int) ≤ (u : Int) := by omega
  have HND := Lib.hid (show Below wa.heap.size wa wa.drew from (Below.refl _ _).drew)
  have HTE := Lib.hid (fun o => (hT.later HND.out).later ((Below.refl wa.drew.heap.size wa.drew).alloc (Nat.le_refl _) o))
  have x0 : wa.cell? ⟨b7, 0, none⟩ = some (vi u) := by rw [cell_ofG hX]; rfl
  have x1 : wa.cell? ⟨b7, 1, none⟩ = some (vi z) := by rw [cell_ofG hX]; rfl
  have td : wa.cell? ⟨tb, u, none⟩ = some (.slice au l.length cu) := hT.cell hv
  have x0f : ∀ o, (wa.alloc o).cell? ⟨b7, 0, none⟩ = some (vi u) := fun o => cell_later ((Below.refl wa.heap.size wa).alloc (Nat.le_refl _) o) x0
  have x1f : ∀ o, (wa.alloc o).cell? ⟨b7, 1, none⟩ = some (vi z) := fun o => cell_later ((Below.refl wa.heap.size wa).alloc (Nat.le_refl _) o) x1
  have tf : ∀ o, (wa.alloc o).cell? ⟨tb, u, none⟩ = some (.slice au l.length cu) := fun o => (hT.later ((Below.refl wa.heap.size wa).alloc (Nat.le_refl _) o)).cell hv
  have HXE := Lib.hid (show (wa.drew.alloc (.cells #[vi z] 3)).heap[b7]? = some (.cells #[vi u, vi z] 164) from (((Below.refl wa.drew.heap.size wa.drew).alloc (Nat.le_refl _) _).block b7 (Array.getElem?_eq_some_iff.1 hX).1).trans hX)
  have HRE := Lib.hid (own_below hr (HND.out.trans ((Below.refl wa.drew.heap.size wa.drew).alloc (Nat.le_refl _) (.cells #[vi z] 3))))
  have hsz2 : N ≤ (wa.drew.alloc (.cells #[vi z] 3)).heap.size := Nat.le_trans hN ((HND.out.alloc HND.out.size _).size)
  have HVU := Lib.hid hv
  have HTA := Lib.hid hT
  have HNN := Lib.hid hN
  clear hK hX hT hv hr hN
  unfold cNx6
  conv => arg 2; whnf
  go_region_law (refine stepAt rfl _ _ 58 rfl eltI N l.length _ HRE.out rfl 1 [vi z] (src_new (cs := #[vi z]) rfl rfl) rfl (by intro q hq; simp at hq; subst hq; rfl) hl (by omega) hsz2 ?_; intro vc wc hoc hgc hat; obtain ⟨ac, cc, rfl⟩ := Gr.own_shape hoc; have HW := Lib.hid ((HTE.out _).wrote HVU.out hgc (by rw [List.length_append, viC_flat]; exact hoc) hat); have HBG := Lib.hid (fun w0 (h : Below N w0 wa) => tab_below (HTE.out (.cells #[vi z] 3)) HVU.out hgc ((h.trans (HND.out.mono HNN.out)).alloc (Nat.le_trans HNN.out HND.out.size) _)); have z1 := HW.out.1; have z2 := HW.out.2.1; have hxg := Gr.keep HRE.out HXE.out (by decide) hgc; have z3 : wc.cell? ⟨b7, 0, none⟩ = some (vi u) := (by rw [cell_ofG hxg]; rfl); clear hoc hgc hat hxg)
  all_goals exact FIN.out wc _ _ _ _ _ _ _ _ _ _ _ _ _ _ ⟨HW.out.1, HW.out.2.2, HBG.out⟩
end Go.Proofs.YtnacoplokjdglaaGreat

namespace Go.Proofs.YtnacoplokjdglaaGreat
open Go.RowKit Go.Maps
attribute [local go_sem] Oper.semAt_some

def EEdge (_ : World) (cs : List Value) (e : GEdge) : Prop := cs = [vi e.f, vi e.t, vi e.k]
abbrev RdEdges (w : World) (v : Value) (l : List GEdge) : Prop := RdS 3 EEdge w v l
theorem RdEdges.later {A B : World} {v : Value} {l : List GEdge} (h : RdEdges A v l) (hb : Below A.heap.size A B) : RdEdges B v l := RdS.below h hb fun _ _ h => h
theorem RdEdges.at {w : World} {v : Value} {l : List GEdge} (h : RdEdges w v l) : ∃ a len cap, v = .slice a len cap ∧ len = l.length ∧ l.length ≤ 9223372036854775807 ∧ ∀ j x, l[j]? = some x → ∃ b off, a = some ⟨b, off, none⟩ ∧ w.cell? ⟨b, off + j * 3, none⟩ = some (vi x.f) ∧ w.cell? ⟨b, off + j * 3 + 1, none⟩ = some (vi x.t) ∧ w.cell? ⟨b, off + j * 3 + 2, none⟩ = some (vi x.k) := by
  obtain ⟨a, len, cap, h1, h2, h3, h4, h5, h6⟩ := h
  refine ⟨a, len, cap, h1, h2, h3, fun j x hj => ?_⟩
  obtain ⟨b, off, cs, ha, hl, hc, rfl⟩ := h6 j x hj
  exact ⟨b, off, ha, by simpa using hc 0 _ rfl, by simpa [Nat.add_assoc] using hc 1 _ rfl, by simpa [Nat.add_assoc] using hc 2 _ rfl⟩
def arcV (a : Int × Int) : List Value := [vi a.1, vi a.2]
theorem Tryz.infoArc : (Tryz.prog.info? 164).map (fun i => (i.zero, i.size, i.bytes)) = some (some (.agg #[vi 0, vi 0]), 2, 16) := by kernel_rfl
theorem eltArc : Elt Tryz.prog 141 164 2 16 (.agg #[vi 0, vi 0]) := by
  obtain ⟨i0, hi, hz0, hz1, hz2⟩ := info_parts Tryz.infoArc
  exact ⟨Tryz.underlying141, by decide, rfl, i0, hi, hz0, hz1, hz2⟩
/-- A row of arcs that the call owns. -/
def OwA (base : Nat) (w : World) (v : Value) (l : List (Int × Int)) : Prop := w.ownsRow base 164 2 v l.length (l.flatMap arcV)
end Go.Proofs.YtnacoplokjdglaaGreat
