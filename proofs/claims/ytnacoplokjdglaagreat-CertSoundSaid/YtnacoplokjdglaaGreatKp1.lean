/- Texts of one proof, one behind the other: Mem, Args, Maps, Data, Hist, Keys, Back, MemIn. -/
import Derived.WalkKit
import Derived.Outline
import Derived.Lib.Hide
import Derived.Laws.AppendOwnNone
import Derived.WalkSpells
import Derived.WalkLawsBesides
import Derived.BigQuiet
import Derived.Deep.QuietTactic
import Derived.Deep.RegionWith
import Derived.Deep.RegionHeld3
import Derived.Deep.LoopGhost
import Derived.Deep.DeepFit
import Derived.Deep.RegionLaw
import Derived.StillTailTactics
import Derived.Deep.DeepCutAuto
import Derived.Lib.AppendZeros
import Derived.Deep.Slices
import Derived.ProofKit
import Derived.OpenShut
import Derived.Maps.Own
import Derived.Test.YtnacoplokjdglaaGreatProg
import Derived.KernelRfl
import Derived.DeepKeys4
import Derived.RangeFuncNested
import Derived.RangeFuncBound
import Derived.RangeFuncCalls
import Derived.RangeFuncLeaves
import Derived.RangeFuncBox
import Derived.Shelf.Abstract
import Derived.Shelf.RegionOpen
import Derived.OwnWalkIn
import Derived.TacticsInMore
import Derived.LoopNIn
import Derived.LoopIn
set_option linter.all false
namespace Go.Proofs.YtnacoplokjdglaaGreat
open Go.RowKit
/-- The slice type t has elements e of so many cells and bytes, with this zero value. -/
def Elt (P : Program) (t e : TypeId) (size bytes : Nat) (z : Value) : Prop :=
  P.underlying t = some (.slice e) ∧ 0 < size ∧ z.cells.size = size ∧ ∃ i, P.info? e = some i ∧ i.zero = some z ∧ i.size = size ∧ i.bytes = bytes

/-- The slice value x, of m elements, holds the cells news. -/
def Src (w : World) (x : Value) (size m : Nat) (news : List Value) : Prop :=
  ∃ a c, x = .slice a m c ∧ news.length = m * size ∧ (a = none → m = 0 ∧ c = 0) ∧ ∀ ad, a = some ad → ∀ j u, news[j]? = some u → w.cell? (ad.add j) = some u

theorem addr_add (b off j : Nat) : (⟨b, off, none⟩ : Addr).add j = ⟨b, off + j, none⟩ := by unfold Addr.add; split <;> simp_all

theorem Src.below {w w' : World} {x : Value} {size m : Nat} {news : List Value} (h : Src w x size m news) (hb : Below w.heap.size w w') : Src w' x size m news := by
  obtain ⟨a, c, h1, h2, h3, h4⟩ := h
  refine ⟨a, c, h1, h2, h3, fun ad had j u hu => ?_⟩
  have := h4 ad had j u hu
  rw [hb.cell (World.block_lt_of_cell? w _ this)]
  exact this

theorem wpList_append_src {P : Program} {w : World} {ops : Array Oper} {rest : List Oper} {o : Oper} {a : Act} {Q : Exit → Act → World → Prop} (hgd : o.guard = none) (s x : Operand) (t : TypeId)
    (ho : o.op = .call { callee := .builtin .append, args := #[s, x], argTypes := #[t, t] })
    {e : TypeId} {size bytes : Nat} {z : Value} (he : Elt P t e size bytes z) (base : Nat)
    {v vx : Value} (n : Nat) (xs : List Value) (hown : w.ownsRow base e size v n xs) (hs : a.eval s = v)
    (m : Nat) (news : List Value) (hsrc : Src w vx size m news) (hx : a.eval x = vx) (h1 : ∀ u ∈ news, u.oneCell' = true)
    (hsz : n + m ≤ 68719476736) (hbytes : bytes ≤ 2048) (hbase : base ≤ w.heap.size)
    (h : ∀ v' w', w'.ownsRow base e size v' (n + m) (xs ++ news) → w.grownBy w' v.ownBlock → (v' = .slice none 0 0 → v = .slice none 0 0) → wpList P ops Q rest (a.put o.dst v') w') : wpList P ops Q (o :: rest) a w := by
  obtain ⟨ht, h0, hzs, i, hi, hz, his, hib⟩ := he
  obtain ⟨ad, c, rfl, hl, hnone, hsome⟩ := hsrc
  cases ad with
  | none =>
    obtain ⟨rfl, rfl⟩ := hnone rfl
    have hn : news = [] := List.length_eq_zero_iff.1 (by simpa using hl)
    subst hn
    refine wpList_append_own_none hgd s x t ho base e i size ht hi v n xs hs hown hx (h v w (by simpa using hown) ⟨rfl, rfl, rfl, Nat.le_refl _, fun _ _ _ => rfl⟩ id)
  | some ad =>
    refine wpList_append_own w hgd s x t ho base e i z size bytes ht hi hz his hib hzs h0 v n xs hs hown ad m c news hx hl (hsome ad rfl) h1 (by simp only [maxLen]; omega) ?_ hbase (fun v' w' a b c => h v' w' a b (fun e => (c.1 e).1))
    exact Nat.le_trans (Nat.mul_le_mul hsz hbytes) (by decide)

theorem wp_append_src {P : Program} {w : World} {o : Oper} {a : Act} {K : Act → World → Prop} {Q : Exit → Act → World → Prop} (s x : Operand) (t : TypeId)
    (ho : o.op = .call { callee := .builtin .append, args := #[s, x], argTypes := #[t, t] })
    {e : TypeId} {size bytes : Nat} {z : Value} (he : Elt P t e size bytes z) (base : Nat)
    {v vx : Value} (n : Nat) (xs : List Value) (hown : w.ownsRow base e size v n xs) (hs : a.eval s = v)
    (m : Nat) (news : List Value) (hsrc : Src w vx size m news) (hx : a.eval x = vx) (h1 : ∀ u ∈ news, u.oneCell' = true)
    (hsz : n + m ≤ 68719476736) (hbytes : bytes ≤ 2048) (hbase : base ≤ w.heap.size)
    (h : ∀ v' w', w'.ownsRow base e size v' (n + m) (xs ++ news) → w.grownBy w' v.ownBlock → (v' = .slice none 0 0 → v = .slice none 0 0) → K (a.put o.dst v') w') : o.wp P a w K Q := by
  obtain ⟨ht, h0, hzs, i, hi, hz, his, hib⟩ := he
  obtain ⟨ad, c, rfl, hl, hnone, hsome⟩ := hsrc
  cases ad with
  | none =>
    obtain ⟨rfl, rfl⟩ := hnone rfl
    have hn : news = [] := List.length_eq_zero_iff.1 (by simpa using hl)
    subst hn
    have hrun := run_append_owned_none (P := P) (w := w) base t o.type e i size ht hi v n xs hown
    unfold Oper.wp
    simp [execOp, ho, resolve, invoke, builtin, hs, hx, hrun, Result.andThen]
    exact h v w (by simpa using hown) ⟨rfl, rfl, rfl, Nat.le_refl _, fun _ _ _ => rfl⟩ id
  | some ad =>
    refine wp_append_own w s x t ho base e i z size bytes ht hi hz his hib hzs h0 v n xs hs hown ad m c news hx hl (hsome ad rfl) h1 (by simp only [maxLen]; omega) ?_ hbase (fun v' w' a b c => h v' w' a b (fun e => (c.1 e).1))
    exact Nat.le_trans (Nat.mul_le_mul hsz hbytes) (by decide)

/-- The same, as a step of a region that draws its order. -/
theorem step_append_src {P : Program} {w : World} {ops : Array Oper} {o : Oper} {a : Act} {K : Act → World → Prop} {Q : Exit → Act → World → Prop} {E : Prop} (hgd : o.guard = none) (s x : Operand) (t : TypeId)
    (ho : o.op = .call { callee := .builtin .append, args := #[s, x], argTypes := #[t, t] })
    {e : TypeId} {size bytes : Nat} {z : Value} (he : Elt P t e size bytes z) (base : Nat)
    {v vx : Value} (n : Nat) (xs : List Value) (hown : w.ownsRow base e size v n xs) (hs : a.eval s = v)
    (m : Nat) (news : List Value) (hsrc : Src w vx size m news) (hx : a.eval x = vx) (h1 : ∀ u ∈ news, u.oneCell' = true)
    (hsz : n + m ≤ 68719476736) (hbytes : bytes ≤ 2048) (hbase : base ≤ w.heap.size)
    (h : ∀ v' w', w'.ownsRow base e size v' (n + m) (xs ++ news) → w.grownBy w' v.ownBlock → (v' = .slice none 0 0 → v = .slice none 0 0) → K (a.put o.dst v') w') :
    if Region.wanted o (yielded ops a.tmps) = true then Oper.wp P o a w K Q else E := by
  have hw : Region.wanted o (yielded ops a.tmps) = true := by simp [Region.wanted, hgd]
  rw [if_pos hw]
  exact wp_append_src s x t ho he base n xs hown hs m news hsrc hx h1 hsz hbytes hbase h

/-- One element that was just laid in a block of its own. -/
theorem src_new {w : World} {T : TypeId} {cs : Array Value} {n g : Nat} (hn : cs.size = n) (hg : g = w.heap.size) : Src (w.alloc (.cells cs T)) (.slice (some ⟨g, 0, none⟩) 1 1) n 1 cs.toList := by
  subst hg
  refine ⟨some ⟨w.heap.size, 0, none⟩, 1, rfl, by simp [hn], fun h => (by cases h), fun ad had j u hu => ?_⟩
  cases had
  rw [addr_add, World.cell?_alloc_at _ _ _ _ rfl]
  simpa using hu

theorem own_mono {w : World} {b b' e size n : Nat} {v : Value} {xs : List Value} (h : w.ownsRow b e size v n xs) (hb : b' ≤ b) : w.ownsRow b' e size v n xs := by
  obtain ⟨h1, h2⟩ := h
  refine ⟨h1, ?_⟩
  rcases h2 with h2 | ⟨g, cap, cur, hv, hg, r⟩
  · exact .inl h2
  · exact .inr ⟨g, cap, cur, hv, by omega, r⟩

theorem own_below {w w' : World} {b e size n : Nat} {v : Value} {xs : List Value} (h : w.ownsRow b e size v n xs) (hb : Below w.heap.size w w') : w'.ownsRow b e size v n xs := by
  refine ⟨h.1, ?_⟩
  rcases h.2 with h2 | ⟨g, cap, cur, hv, hg, hh, r⟩
  · exact .inl h2
  · exact .inr ⟨g, cap, cur, hv, hg, by rw [hb.block g (Array.getElem?_eq_some_iff.1 hh).1]; exact hh, r⟩

/-- An owned row stays while a block below its base is written. -/
theorem own_keptBelow {w w' : World} {b e size n r : Nat} {v : Value} {xs : List Value} (h : w.ownsRow b e size v n xs) (hg : w.grownBy w' (some r)) (hr : r < b) : w'.ownsRow b e size v n xs :=
  h.kept hg (by
    cases hv : v.ownBlock with
    | none => exact .inl rfl
    | some k => exact .inr (fun e => by have := (h.lt k hv).1; cases e; omega))
end Go.Proofs.YtnacoplokjdglaaGreat

namespace Go.Proofs.YtnacoplokjdglaaGreat
open Go.RowKit
open Go.ChangeShapes Go.WideShapes
/-- The slice value v reads as the list xs: each element of n cells, which read by E. -/
def RdS {α : Type} (n : Nat) (E : World → List Value → α → Prop) (w : World) (v : Value) (xs : List α) : Prop :=
  ∃ a len cap, v = .slice a len cap ∧ len = xs.length ∧ xs.length ≤ 9223372036854775807 ∧ len ≤ cap ∧ (a = none → len = 0 ∧ cap = 0) ∧
    ∀ j x, xs[j]? = some x → ∃ b off cs, a = some ⟨b, off, none⟩ ∧ cs.length = n ∧ (∀ i u, cs[i]? = some u → w.cell? ⟨b, off + (j * n + i), none⟩ = some u) ∧ E w cs x

theorem list_of {α : Type} {Q : Nat → α → Prop} (n : Nat) (h : ∀ i, i < n → ∃ x, Q i x) : ∃ xs : List α, xs.length = n ∧ ∀ i x, xs[i]? = some x → Q i x := by
  induction n with
  | zero => exact ⟨[], rfl, fun i x hx => by simp at hx⟩
  | succ n ih =>
    obtain ⟨xs, hl, hx⟩ := ih fun i hi => h i (by omega)
    obtain ⟨y, hy⟩ := h n (by omega)
    refine ⟨xs ++ [y], by simp [hl], fun i x hi => ?_⟩
    by_cases hlt : i < xs.length
    · rw [List.getElem?_append_left hlt] at hi; exact hx i x hi
    · rw [List.getElem?_append_right (by omega)] at hi
      have : i = n := by
        have := (List.getElem?_eq_some_iff.1 hi).1; simp at this; omega
      subst this
      simp [hl] at hi
      subst hi; exact hy

theorem addr_flat {w : World} {x : Addr} {u : Value} (h : w.cell? x = some u) : x = ⟨x.block, x.off, none⟩ := by
  obtain ⟨b, o, s⟩ := x
  cases s with
  | none => rfl
  | some s => unfold World.cell? at h; split at h <;> simp_all

theorem mapM_some {α β : Type} {f : α → Option β} : ∀ {l : List α} {r : List β}, l.mapM f = some r → r.length = l.length ∧ ∀ (i : Nat) a b, l[i]? = some a → r[i]? = some b → f a = some b
  | [], r, h => by simp at h; subst h; exact ⟨rfl, fun i a b h => by simp at h⟩
  | x :: l, r, h => by
    rw [List.mapM_cons] at h
    cases hx : f x with
    | none => simp [hx] at h
    | some y =>
      cases hl : l.mapM f with
      | none => simp [hx, hl] at h
      | some ys =>
        simp [hx, hl] at h
        subst h
        obtain ⟨h1, h2⟩ := mapM_some hl
        refine ⟨by simp [h1], fun i a b ha hb => ?_⟩
        cases i with
        | zero => simp at ha hb; subst ha hb; exact hx
        | succ i => exact h2 i a b (by simpa using ha) (by simpa using hb)

theorem cells_at {w : World} {a : Addr} {n : Nat} {cs : List Value} (h : w.cells? 0 a n = some cs) : cs.length = n ∧ ∀ i u, cs[i]? = some u → w.cell? (a.add i) = some u := by
  unfold World.cells? at h
  rw [if_pos (Nat.zero_le _)] at h
  obtain ⟨h1, h2⟩ := mapM_some h
  have hl : cs.length = n := by simpa using h1
  refine ⟨hl, fun i u hu => h2 i i u ?_ hu⟩
  have := (List.getElem?_eq_some_iff.1 hu).1
  rw [List.getElem?_range (by omega)]

theorem rds_of_trod {α H : Type} {enc : TypeId × Value → H} {P : Program} {w : World} {spare : Nat → Bool} {held : Bool} {t e : TypeId} {fuel n : Nat} {v : Value} {x : DataW H × List MemPlace} {E : World → List Value → α → Prop}
    (ht : P.underlying t = some (.slice e)) (hn : P.cellsOf e = n) (h0 : 0 < n) (h : DataW.trod enc P w 0 spare held fuel t [v] = some x)
    (hE : ∀ m cs y, cs.length = n → DataW.trod enc P w 0 spare held m e cs = some y → ∃ a, E w cs a) : ∃ xs, RdS n E w v xs := by
  rcases Deep.open_slice ht h with ⟨hcs, _⟩ | ⟨a, len, cap, m, k, D, Pl, hcs, _, hlc, hcm, hm, _, hel⟩
  · cases hcs
    exact ⟨[], none, 0, 0, rfl, rfl, by simp, Nat.le_refl _, fun _ => ⟨rfl, rfl⟩, fun j x hj => by simp at hj⟩
  · cases hcs
    have hlm : len ≤ m := by rw [hm]; split <;> omega
    obtain ⟨xs, hxl, hx⟩ := list_of (α := α) (Q := fun i x => ∃ cs, w.cells? 0 (a.add (i * n)) n = some cs ∧ E w cs x) len (fun i hi => by
      obtain ⟨cs, h1, h2⟩ := hel i (by omega)
      rw [hn] at h1
      have hl : cs.length = n := (cells_at h1).1
      obtain ⟨y, hy⟩ := hE _ _ _ hl h2
      exact ⟨y, cs, h1, hy⟩)
    refine ⟨xs, some a, len, cap, rfl, hxl.symm, by simp only [maxLen] at hcm; omega, hlc, fun h => (by cases h), fun j x hj => ?_⟩
    obtain ⟨cs, h1, h2⟩ := hx j x hj
    obtain ⟨hl, hc⟩ := cells_at h1
    have hlt : j < len := by rw [← hxl]; exact (List.getElem?_eq_some_iff.1 hj).1
    have ha : a = ⟨a.block, a.off, none⟩ := by
      obtain ⟨cs0, h0', _⟩ := hel 0 (by omega)
      rw [hn, Nat.zero_mul] at h0'
      obtain ⟨hl0, hc0⟩ := cells_at h0'
      exact addr_flat (hc0 0 cs0[0] (List.getElem?_eq_getElem (by omega)))
    refine ⟨a.block, a.off, cs, by rw [← ha], hl, fun i u hu => ?_, h2⟩
    have := hc i u hu
    rw [ha, addr_add, addr_add, Nat.add_assoc] at this
    exact this

theorem RdS.below {α : Type} {n : Nat} {E : World → List Value → α → Prop} {w w' : World} {v : Value} {xs : List α} (h : RdS n E w v xs) (hb : Below w.heap.size w w') (hE : ∀ cs x, E w cs x → E w' cs x) : RdS n E w' v xs := by
  obtain ⟨a, len, cap, h1, h2, h3, h4, h5, h6⟩ := h
  refine ⟨a, len, cap, h1, h2, h3, h4, h5, fun j x hj => ?_⟩
  obtain ⟨b, off, cs, ha, hl, hc, he⟩ := h6 j x hj
  exact ⟨b, off, cs, ha, hl, fun i u hu => cell_later hb (hc i u hu), hE _ _ he⟩

/-- A slice of bools. -/
def EB (_ : World) (cs : List Value) (b : Bool) : Prop := cs = [.bool b]
abbrev RdB (w : World) (v : Value) (bs : List Bool) : Prop := RdS 1 EB w v bs

theorem RdB.at {w : World} {v : Value} {bs : List Bool} (h : RdB w v bs) : ∃ a len cap, v = .slice a len cap ∧ len = bs.length ∧ bs.length ≤ 9223372036854775807 ∧ ∀ j x, bs[j]? = some x → ∃ b off, a = some ⟨b, off, none⟩ ∧ w.cell? ⟨b, off + j, none⟩ = some (.bool x) := by
  obtain ⟨a, len, cap, h1, h2, h3, h4, h5, h6⟩ := h
  refine ⟨a, len, cap, h1, h2, h3, fun j x hj => ?_⟩
  obtain ⟨b, off, cs, ha, hl, hc, rfl⟩ := h6 j x hj
  exact ⟨b, off, ha, by have := hc 0 _ rfl; simpa using this⟩

theorem RdB.later {w w' : World} {v : Value} {bs : List Bool} (h : RdB w v bs) (hb : Below w.heap.size w w') : RdB w' v bs := RdS.below h hb fun _ _ h => h

theorem rdb_of_trod {H : Type} {enc : TypeId × Value → H} {P : Program} {w : World} {spare : Nat → Bool} {held : Bool} {t e : TypeId} {v : Value} {d : DataW H} {ps : List MemPlace}
    (ht : P.underlying t = some (.slice e)) (hu : P.underlying e = some .bool) (hn : P.cellsOf e = 1) (a : Option Addr) (l c : Nat) (hv : v = .slice a l c) (h : DataW.Trod enc P w 0 spare held t v d ps) : ∃ bs, RdB w v bs := by
  obtain ⟨fuel, hf⟩ := h
  subst hv
  refine rds_of_trod ht hn (by omega) hf fun m cs y _ hy => ?_
  obtain ⟨b, rfl, _⟩ := DataW.trod_bool hu hy
  exact ⟨b, rfl⟩

/-- An integer of 64 bits, with its bounds. -/
def EInt (_ : World) (cs : List Value) (n : Int) : Prop := cs = [.int .i64 n] ∧ -9223372036854775808 ≤ n ∧ n ≤ 9223372036854775807

theorem wf_i64 {n : Int} (h : (Lit.int .i64 n).wf = true) : -9223372036854775808 ≤ n ∧ n ≤ 9223372036854775807 := by
  simp [Lit.wf, IntKind.min, IntKind.max, IntKind.signed, IntKind.bits] at h; omega

theorem rdsi_of_trod {H : Type} {enc : TypeId × Value → H} {P : Program} {w : World} {spare : Nat → Bool} {held : Bool} {t e : TypeId} {v : Value} {d : DataW H} {ps : List MemPlace}
    (ht : P.underlying t = some (.slice e)) (hu : P.underlying e = some (.int .i64)) (hn : P.cellsOf e = 1) (hv : ∃ a l c, v = .slice a l c) (h : DataW.Trod enc P w 0 spare held t v d ps) : ∃ xs, RdS 1 EInt w v xs := by
  obtain ⟨fuel, hf⟩ := h
  obtain ⟨a, l, c, rfl⟩ := hv
  refine rds_of_trod ht hn (by omega) hf fun m cs y _ hy => ?_
  obtain ⟨n, rfl, _, hw⟩ := DataW.trod_int hu hy
  exact ⟨n, rfl, wf_i64 hw⟩

theorem rdsb_of_trod {H : Type} {enc : TypeId × Value → H} {P : Program} {w : World} {spare : Nat → Bool} {held : Bool} {t e : TypeId} {v : Value} {d : DataW H} {ps : List MemPlace}
    (ht : P.underlying t = some (.slice e)) (hu : P.underlying e = some .bool) (hn : P.cellsOf e = 1) (hv : ∃ a l c, v = .slice a l c) (h : DataW.Trod enc P w 0 spare held t v d ps) : ∃ bs, RdB w v bs := by
  obtain ⟨a, l, c, rfl⟩ := hv
  exact rdb_of_trod ht hu hn a l c rfl h
end Go.Proofs.YtnacoplokjdglaaGreat

namespace Go.Proofs.YtnacoplokjdglaaGreat
open Go.RowKit Go.MapKept
open Go.Maps (Keyed)
open Go.ChangeMaps (setBlock)
/-- Block b of w is a map whose entries are the pairs of L, keys by eK, elements by eV; each key once. -/
def MapT {κ ν : Type} (P : Program) (k : TypeId) (eK : κ → Value) (eV : ν → Value) (w : World) (b : Nat) (L : List (κ × ν)) : Prop :=
  ∃ es clock, w.heap[b]? = some (.map es clock) ∧ Stamped es clock ∧ (∀ x ∈ es.toList, ∃ kl, keyOf P k x.key = some kl) ∧ es.toList.map (fun x => (x.key, x.val)) = L.map (fun x => (eK x.1, eV x.2))

section lists
variable {κ ν : Type} [DecidableEq κ]
/-- What a list of pairs holds for a key. -/
def getM (L : List (κ × ν)) (x : κ) : Option ν := (L.find? (fun p => decide (p.1 = x))).map (·.2)
/-- The pairs behind a store. -/
def putM (L : List (κ × ν)) (x : κ) (v : ν) : List (κ × ν) := if (getM L x).isSome then L.map (fun p => if p.1 = x then (x, v) else p) else L ++ [(x, v)]
/-- The pairs behind a delete. -/
def delM (L : List (κ × ν)) (x : κ) : List (κ × ν) := L.filter (fun p => decide (p.1 ≠ x))

theorem getM_none {L : List (κ × ν)} {x : κ} : getM L x = none ↔ ∀ p ∈ L, p.1 ≠ x := by simp [getM]

theorem getM_some {L : List (κ × ν)} {x : κ} {v : ν} (h : getM L x = some v) : (x, v) ∈ L := by
  unfold getM at h
  rw [Option.map_eq_some_iff] at h
  obtain ⟨p, hp, rfl⟩ := h
  have h1 := List.mem_of_find?_eq_some hp
  have h2 := List.find?_some hp
  simp at h2
  subst h2
  exact h1

theorem getM_nil (x : κ) : getM ([] : List (κ × ν)) x = none := rfl

theorem getM_cons (p : κ × ν) (L : List (κ × ν)) (x : κ) : getM (p :: L) x = if p.1 = x then some p.2 else getM L x := by
  unfold getM; rw [List.find?_cons]; by_cases h : p.1 = x <;> simp [h]

theorem getM_append (L M : List (κ × ν)) (x : κ) : getM (L ++ M) x = (getM L x).or (getM M x) := by
  induction L with
  | nil => simp [getM_nil]
  | cons p L ih => rw [List.cons_append, getM_cons, getM_cons]; split <;> simp [ih]

theorem getM_map_put (L : List (κ × ν)) (x y : κ) (v : ν) : getM (L.map (fun p => if p.1 = x then (x, v) else p)) y = if x = y then (getM L x).map (fun _ => v) else getM L y := by
  induction L with
  | nil => by_cases h : x = y <;> simp [getM_nil, h]
  | cons p L ih =>
    rw [List.map_cons, getM_cons, ih, getM_cons, getM_cons]
    by_cases h : x = y
    · subst h
      by_cases hp : p.1 = x <;> simp [hp]
    · by_cases hp : p.1 = x
      · simp [hp, h]
      · simp [hp, h]

theorem getM_put (L : List (κ × ν)) (x y : κ) (v : ν) : getM (putM L x v) y = if x = y then some v else getM L y := by
  unfold putM
  split
  · rename_i h
    rw [getM_map_put]
    by_cases hxy : x = y
    · subst hxy
      obtain ⟨u, hu⟩ := Option.isSome_iff_exists.1 h
      simp [hu]
    · simp [hxy]
  · rename_i h
    rw [getM_append, getM_cons, getM_nil]
    by_cases hxy : x = y
    · subst hxy
      simp at h; simp [h]
    · simp [hxy]

theorem getM_del (L : List (κ × ν)) (x y : κ) : getM (delM L x) y = if x = y then none else getM L y := by
  unfold delM
  induction L with
  | nil => simp [getM_nil]
  | cons p L ih =>
    rw [List.filter_cons]
    by_cases hp : p.1 = x
    · simp only [hp, ne_eq, not_true_eq_false, decide_false, Bool.false_eq_true, if_false]
      rw [ih, getM_cons]
      by_cases hxy : x = y
      · simp [hxy]
      · simp [hp, hxy]
    · simp only [hp, ne_eq, not_false_eq_true, decide_true, if_true]
      rw [getM_cons, getM_cons, ih]
      by_cases hxy : x = y
      · subst hxy; simp [hp]
      · simp [hxy]
end lists
section laws0
variable {κ ν : Type} {P : Program} {k e t : TypeId} {eK : κ → Value} {eV : ν → Value} {w : World} {b : Nat} {L : List (κ × ν)}

theorem MapT.lt (h : MapT P k eK eV w b L) : b < w.heap.size := by
  obtain ⟨es, clock, hb, _⟩ := h; exact (Array.getElem?_eq_some_iff.1 hb).1

theorem MapT.frame {w' : World} (h : MapT P k eK eV w b L) (hw : w'.heap[b]? = w.heap[b]?) : MapT P k eK eV w' b L := by
  obtain ⟨es, clock, hb, r⟩ := h; exact ⟨es, clock, hw.trans hb, r⟩

theorem MapT.below {w' : World} {B : Nat} (h : MapT P k eK eV w b L) (hw : Below B w w') (hb : b < B) : MapT P k eK eV w' b L := h.frame (hw.block b hb)

theorem MapT.kept {w' : World} {row : Option Nat} (h : MapT P k eK eV w b L) (hg : w.grownBy w' row) (hne : some b ≠ row) : MapT P k eK eV w' b L :=
  h.frame (hg.block b h.lt hne)

theorem MapT.made (w : World) : MapT P k eK eV (w.alloc (.map #[] 0)) w.heap.size ([] : List (κ × ν)) :=
  ⟨#[], 0, (MapKept.heap_alloc w _).1, stamped_empty 0, by simp, rfl⟩

theorem MapT.size (h : MapT P k eK eV w b L) : ∃ es clock, w.heap[b]? = some (.map es clock) ∧ es.size = L.length := by
  obtain ⟨es, clock, hb, _, _, hL⟩ := h
  refine ⟨es, clock, hb, ?_⟩
  have := congrArg List.length hL
  simpa using this
end laws0
section laws
variable {κ ν : Type} [DecidableEq κ] {P : Program} {k e t : TypeId} {eK : κ → Value} {eV : ν → Value} {w : World} {b : Nat} {L : List (κ × ν)}
/-- Where a key stands among the entries. -/
theorem MapT.find (hK : Keyed P k) (hinj : ∀ x y, eK x = eK y → x = y) (h : MapT P k eK eV w b L) (x : κ) {kl : Lit} (hx : keyOf P k (eK x) = some kl) :
    ∃ es clock, w.heap[b]? = some (.map es clock) ∧ Stamped es clock ∧ (∀ y ∈ es.toList, ∃ kl, keyOf P k y.key = some kl) ∧ es.toList.map (fun y => (y.key, y.val)) = L.map (fun y => (eK y.1, eV y.2)) ∧
      ((∀ w, (Instr.findKey k (eK x) es.toList).run P w = .ok none w) ∧ getM L x = none ∧ (∀ y ∈ es.toList, y.key ≠ eK x) ∨
       ∃ j e0 v, (∀ w, (Instr.findKey k (eK x) es.toList).run P w = .ok (some (j, e0.val)) w) ∧ es.toList[j]? = some e0 ∧ e0.key = eK x ∧ L[j]? = some (x, v) ∧ e0.val = eV v ∧ getM L x = some v ∧ ∀ i p, L[i]? = some p → p.1 = x → i = j) := by
  obtain ⟨es, clock, hb, hs, hk, hL⟩ := h
  refine ⟨es, clock, hb, hs, hk, hL, ?_⟩
  have key : ∀ w1, ((Instr.findKey k (eK x) es.toList).run P w1 = .ok none w1 ∧ ∀ y ∈ es.toList, y.key ≠ eK x) ∨ ∃ j e0, (Instr.findKey k (eK x) es.toList).run P w1 = .ok (some (j, e0.val)) w1 ∧ es.toList[j]? = some e0 ∧ e0.key = eK x := fun w1 => hK.find w1 hx es.toList hk
  have uniq : ∀ (i j : Nat) (a c : MapEntry), es.toList[i]? = some a → es.toList[j]? = some c → a.key = c.key → i = j := by
    intro i j a c hi hj hac
    have hn := List.pairwise_iff_getElem.1 ((stamped_iff es clock).1 hs).2.2
    obtain ⟨hi1, hi2⟩ := List.getElem?_eq_some_iff.1 hi
    obtain ⟨hj1, hj2⟩ := List.getElem?_eq_some_iff.1 hj
    rcases Nat.lt_trichotomy i j with hlt | rfl | hlt
    · exact absurd (by rw [hi2, hj2]; exact hac) (hn i j hi1 hj1 hlt)
    · rfl
    · exact absurd (by rw [hi2, hj2]; exact hac.symm) (hn j i hj1 hi1 hlt)
  rcases key w with ⟨h1, h2⟩ | ⟨j, e0, h1, h2, h3⟩
  · refine .inl ⟨fun w1 => ?_, ?_, h2⟩
    · rcases key w1 with ⟨h, _⟩ | ⟨j, e0, _, h2', h3'⟩
      · exact h
      · exact absurd h3' (h2 e0 (List.mem_of_getElem? h2'))
    · rw [getM_none]
      intro p hp hpx
      obtain ⟨i, hi⟩ := List.mem_iff_getElem?.1 hp
      have : (L.map (fun y => (eK y.1, eV y.2)))[i]? = some (eK p.1, eV p.2) := by simp [hi]
      rw [← hL, List.getElem?_map] at this
      cases hes : es.toList[i]? with
      | none => simp [hes] at this
      | some a =>
        simp only [hes, Option.map_some, Option.some.injEq, Prod.mk.injEq] at this
        exact h2 a (List.mem_of_getElem? hes) (by rw [this.1, hpx])
  · have hLj : ∃ v, L[j]? = some (x, v) ∧ e0.val = eV v := by
      have : (es.toList.map (fun y => (y.key, y.val)))[j]? = some (e0.key, e0.val) := by simp [h2]
      rw [hL, List.getElem?_map] at this
      cases hl : L[j]? with
      | none => simp [hl] at this
      | some p =>
        simp only [hl, Option.map_some, Option.some.injEq, Prod.mk.injEq] at this
        have hp : p.1 = x := hinj _ _ (this.1.trans h3)
        exact ⟨p.2, by rw [← hp], this.2.symm⟩
    obtain ⟨v, hv1, hv2⟩ := hLj
    have huniq : ∀ i p, L[i]? = some p → p.1 = x → i = j := by
      intro i p hi hpx
      have : (L.map (fun y => (eK y.1, eV y.2)))[i]? = some (eK p.1, eV p.2) := by simp [hi]
      rw [← hL, List.getElem?_map] at this
      cases hes : es.toList[i]? with
      | none => simp [hes] at this
      | some a =>
        simp only [hes, Option.map_some, Option.some.injEq, Prod.mk.injEq] at this
        exact uniq i j a e0 hes h2 (by rw [this.1, hpx, h3])
    refine .inr ⟨j, e0, v, fun w1 => ?_, h2, h3, hv1, hv2, ?_, huniq⟩
    · rcases key w1 with ⟨_, h⟩ | ⟨j', e0', h, h2', h3'⟩
      · exact absurd h3 (h e0 (List.mem_of_getElem? h2))
      · have := uniq j' j e0' e0 h2' h2 (h3'.trans h3.symm)
        subst this
        rw [h2] at h2'; cases h2'
        exact h
    · cases hg : getM L x with
      | none => exact absurd rfl (getM_none.1 hg (x, v) (List.mem_of_getElem? hv1))
      | some u =>
        obtain ⟨i, hi⟩ := List.mem_iff_getElem?.1 (getM_some hg)
        have := huniq i _ hi rfl
        subst this
        rw [hv1] at hi; cases hi; rfl

/-- m[x] and m[x] with ok. -/
theorem MapT.lookup (hK : Keyed P k) (hinj : ∀ x y, eK x = eK y → x = y) (ht : P.underlying t = some (.map k e)) (h : MapT P k eK eV w b L) (x : κ) {kl : Lit} (hx : keyOf P k (eK x) = some kl) {z : Value} (hz : (zeroValue e).run P w = .ok z w) :
    (Instr.lookup t (.map (some b)) (eK x) false).run P w = .ok (((getM L x).map eV).getD z) w ∧ (Instr.lookup t (.map (some b)) (eK x) true).run P w = .ok (.tuple #[((getM L x).map eV).getD z, .bool (getM L x).isSome]) w := by
  obtain ⟨es, clock, hb, _, _, _, h1 | ⟨j, e0, v, h1, h2, h3, h4, h5, h6, _⟩⟩ := h.find hK hinj x hx
  · constructor <;> simp [Instr.lookup, run_underlying ht, MapKept.run_getObj_map hb, hK.check w _ hx, h1.1 w, hz, Result.andThen, h1.2.1]
  · constructor <;> simp [Instr.lookup, run_underlying ht, MapKept.run_getObj_map hb, hK.check w _ hx, h1 w, Result.andThen, h6, h5]

/-- m[x] = v. -/
theorem MapT.update (hK : Keyed P k) (hinj : ∀ x y, eK x = eK y → x = y) (ht : P.underlying t = some (.map k e)) (h : MapT P k eK eV w b L) (x : κ) {kl : Lit} (hx : keyOf P k (eK x) = some kl) (v : ν) :
    ∃ w', (Instr.mapUpdate t (.map (some b)) (eK x) (eV v)).run P w = .ok () w' ∧ MapT P k eK eV w' b (putM L x v) ∧ w.grownBy w' (some b) := by
  obtain ⟨es, clock, hb, hs, hk, hL, h1 | ⟨j, e0, u, h1, h2, h3, h4, h5, h6, hu⟩⟩ := h.find hK hinj x hx
  · refine ⟨setBlock w b (.map (es.push ⟨eK x, eV v, clock⟩) (clock + 1)), ?_, ⟨_, _, ChangeMaps.heap_setBlock_same hb _, stamped_push hs h1.2.2, ?_, ?_⟩, ⟨rfl, rfl, rfl, by simp [setBlock], fun i _ hi => ChangeMaps.heap_setBlock_other hb _ (fun e => hi (by rw [e]))⟩⟩
    · simp [Instr.mapUpdate, run_underlying ht, MapKept.run_getObj_map hb, hK.check w false hx, h1.1 w, MapKept.run_setObj_map _ hb, Result.andThen, setBlock]
    · intro y hy
      simp only [Array.toList_push, List.mem_append, List.mem_singleton] at hy
      rcases hy with hy | rfl
      · exact hk y hy
      · exact ⟨kl, hx⟩
    · have : putM L x v = L ++ [(x, v)] := by unfold putM; rw [h1.2.1]; rfl
      rw [this, List.map_append, ← hL]; simp
  · have hj : es[j]? = some e0 := by simpa using h2
    have hlist : (es.modify j (fun e' => { e' with key := eK x, val := eV v })).toList = es.toList.set j { e0 with key := eK x, val := eV v } := by
      rw [Array.toList_modify, ChangeMaps.modify_eq_set _ _ _ _ h2]
    have hkeyf : ∀ e', es[j]? = some e' → ({ e' with key := eK x, val := eV v } : MapEntry).key = e'.key := fun e' he' => by rw [hj] at he'; cases he'; exact h3.symm
    refine ⟨setBlock w b (.map (es.modify j (fun e' => { e' with key := eK x, val := eV v })) clock), ?_, ⟨_, _, ChangeMaps.heap_setBlock_same hb _, stamped_modify hs _ _ (fun _ _ => rfl) (fun e' _ he' => hkeyf e' he'), ?_, ?_⟩, ⟨rfl, rfl, rfl, by simp [setBlock], fun i _ hi => ChangeMaps.heap_setBlock_other hb _ (fun e => hi (by rw [e]))⟩⟩
    · simp [Instr.mapUpdate, run_underlying ht, MapKept.run_getObj_map hb, hK.check w false hx, h1 w, hj, h3, hK.stays w hx, MapKept.run_setObj_map _ hb, Result.andThen, setBlock]
    · intro y hy
      rw [hlist] at hy
      rcases List.mem_or_eq_of_mem_set hy with hy | rfl
      · exact hk y hy
      · exact ⟨kl, hx⟩
    · have hp : putM L x v = L.map (fun p => if p.1 = x then (x, v) else p) := by unfold putM; rw [h6]; rfl
      rw [hp, hlist, List.map_set, hL]
      apply List.ext_getElem?
      intro i
      rw [List.getElem?_set, List.getElem?_map, List.getElem?_map, List.getElem?_map]
      by_cases hij : j = i
      · subst hij
        obtain ⟨hjl, hje⟩ := List.getElem?_eq_some_iff.1 h4
        simp [hjl, hje]
      · simp only [hij, if_false]
        cases hl : L[i]? with
        | none => rfl
        | some p =>
          have : ¬ p.1 = x := fun e => hij (hu i p hl e).symm
          simp [this]

/-- m[x] = v at the operation, for the walk. -/
theorem wpList_mapUpdate_T {ops : Array Oper} {rest : List Oper} {o : Oper} {a : Act} {Q : Exit → Act → World → Prop} (hg : o.guard = none) (m x v : Operand) (hop : o.op = Op.mapUpdate t m x v)
    (hK : Keyed P k) (hinj : ∀ x y, eK x = eK y → x = y) (ht : P.underlying t = some (.map k e)) (hT : MapT P k eK eV w b L) (hm : a.eval m = .map (some b)) (key : κ) {kl : Lit} (hkl : keyOf P k (eK key) = some kl) (hx : a.eval x = eK key)
    (val : ν) (hv : a.eval v = eV val) (h : ∀ w', MapT P k eK eV w' b (putM L key val) → w.grownBy w' (some b) → wpList P ops Q rest (a.put o.dst undef) w') :
    wpList P ops Q (o :: rest) a w := by
  refine wpList_plain hg fun K' hK' => ?_
  obtain ⟨w', hrun, r1, r2⟩ := hT.update hK hinj ht key hkl val
  unfold Oper.wp
  simp [execOp, hop, hm, hx, hv, hrun, Result.andThen]
  exact hK' _ _ (h w' r1 r2)
end laws
end Go.Proofs.YtnacoplokjdglaaGreat

namespace Go.Proofs.YtnacoplokjdglaaGreat
open Go.RowKit

structure GOp where
  kind : Int
  key : Int
  val : Int
deriving DecidableEq

structure GTxn where
  client : Int
  state : Int
  ops : List GOp
deriving DecidableEq

structure GEvent where
  kind : Int
  client : Int
  ops : List GOp
deriving DecidableEq

abbrev vi (n : Int) : Value := .int .i64 n

def opV (o : GOp) : List Value := [vi o.kind, vi o.key, vi o.val]
def EOp (_ : World) (cs : List Value) (o : GOp) : Prop := cs = opV o
abbrev RdOps (w : World) (v : Value) (l : List GOp) : Prop := RdS 3 EOp w v l

def ETxn (w : World) (cs : List Value) (t : GTxn) : Prop := ∃ v, cs = [vi t.client, vi t.state, v] ∧ RdOps w v t.ops
abbrev RdTxns (w : World) (v : Value) (l : List GTxn) : Prop := RdS 3 ETxn w v l

def EEvent (w : World) (cs : List Value) (t : GEvent) : Prop := ∃ v, cs = [vi t.kind, vi t.client, v] ∧ RdOps w v t.ops
abbrev RdEvents (w : World) (v : Value) (l : List GEvent) : Prop := RdS 3 EEvent w v l

theorem RdOps.later {w w' : World} {v : Value} {l : List GOp} (h : RdOps w v l) (hb : Below w.heap.size w w') : RdOps w' v l := RdS.below h hb fun _ _ h => h
theorem ETxn.later {w w' : World} {cs : List Value} {t : GTxn} (h : ETxn w cs t) (hb : Below w.heap.size w w') : ETxn w' cs t := by
  obtain ⟨v, h1, h2⟩ := h; exact ⟨v, h1, h2.later hb⟩
theorem EEvent.later {w w' : World} {cs : List Value} {t : GEvent} (h : EEvent w cs t) (hb : Below w.heap.size w w') : EEvent w' cs t := by
  obtain ⟨v, h1, h2⟩ := h; exact ⟨v, h1, h2.later hb⟩
theorem RdTxns.later {w w' : World} {v : Value} {l : List GTxn} (h : RdTxns w v l) (hb : Below w.heap.size w w') : RdTxns w' v l := RdS.below h hb fun _ _ h => h.later hb
theorem RdEvents.later {w w' : World} {v : Value} {l : List GEvent} (h : RdEvents w v l) (hb : Below w.heap.size w w') : RdEvents w' v l := RdS.below h hb fun _ _ h => h.later hb

/-- What a walk wants of a readable slice of three cells each. -/
theorem RdS.at3 {α : Type} {E : World → List Value → α → Prop} {w : World} {v : Value} {l : List α} (h : RdS 3 E w v l) : ∃ a len cap, v = .slice a len cap ∧ len = l.length ∧ l.length ≤ 9223372036854775807 ∧
    ∀ j x, l[j]? = some x → ∃ b off c0 c1 c2, a = some ⟨b, off, none⟩ ∧ E w [c0, c1, c2] x ∧ w.cell? ⟨b, off + j * 3, none⟩ = some c0 ∧ w.cell? ⟨b, off + j * 3 + 1, none⟩ = some c1 ∧ w.cell? ⟨b, off + j * 3 + 2, none⟩ = some c2 := by
  obtain ⟨a, len, cap, h1, h2, h3, h4, h5, h6⟩ := h
  refine ⟨a, len, cap, h1, h2, h3, fun j x hj => ?_⟩
  obtain ⟨b, off, cs, ha, hl, hc, he⟩ := h6 j x hj
  match cs, hl with
  | [c0, c1, c2], _ => exact ⟨b, off, c0, c1, c2, ha, he, hc 0 c0 rfl, hc 1 c1 rfl, hc 2 c2 rfl⟩

/-- An operation in a readable slice: its three cells. -/
theorem RdOps.at {w : World} {v : Value} {l : List GOp} (h : RdOps w v l) : ∃ a len cap, v = .slice a len cap ∧ len = l.length ∧ l.length ≤ 9223372036854775807 ∧
    ∀ j x, l[j]? = some x → ∃ b off, a = some ⟨b, off, none⟩ ∧ w.cell? ⟨b, off + j * 3, none⟩ = some (vi x.kind) ∧ w.cell? ⟨b, off + j * 3 + 1, none⟩ = some (vi x.key) ∧ w.cell? ⟨b, off + j * 3 + 2, none⟩ = some (vi x.val) := by
  obtain ⟨a, len, cap, h1, h2, h3, h6⟩ := RdS.at3 h
  refine ⟨a, len, cap, h1, h2, h3, fun j x hj => ?_⟩
  obtain ⟨b, off, c0, c1, c2, ha, he, k0, k1, k2⟩ := h6 j x hj
  simp only [EOp, opV, List.cons.injEq, and_true] at he
  obtain ⟨rfl, rfl, rfl⟩ := he
  exact ⟨b, off, ha, k0, k1, k2⟩

/-- The call owns the slice value v of operations. -/
def OwOps (base : Nat) (w : World) (v : Value) (l : List GOp) : Prop := w.ownsRow base 51 3 v l.length (l.flatMap opV)

theorem flatMap_at (l : List GOp) (j i : Nat) (x : GOp) (u : Value) (hj : l[j]? = some x) (hu : (opV x)[i]? = some u) : (l.flatMap opV)[j * 3 + i]? = some u := by
  induction l generalizing j with
  | nil => simp at hj
  | cons y l ih =>
    have hi : i < 3 := (List.getElem?_eq_some_iff.1 hu).1
    rw [List.flatMap_cons]
    cases j with
    | zero =>
      simp at hj; subst hj
      rw [List.getElem?_append_left (by simpa [opV] using hi)]
      simpa using hu
    | succ j =>
      rw [List.getElem?_append_right (by simp [opV]; omega)]
      have : (j + 1) * 3 + i - (opV y).length = j * 3 + i := by simp [opV]; omega
      rw [this]
      exact ih j (by simpa using hj)

theorem OwOps.rd {base : Nat} {w : World} {v : Value} {l : List GOp} (h : OwOps base w v l) : RdOps w v l := by
  obtain ⟨h1, h2⟩ := id h
  rcases h2 with ⟨hv, h0⟩ | ⟨g, cap, cur, hv, hg, hh, hn, hm, hs, ht⟩
  · have : l = [] := List.length_eq_zero_iff.1 h0
    subst this
    exact ⟨none, 0, 0, hv, rfl, by simp, Nat.le_refl _, fun _ => ⟨rfl, rfl⟩, fun j x hj => by simp at hj⟩
  · refine ⟨some ⟨g, 0, none⟩, l.length, cap, hv, rfl, by simp only [maxLen] at hm; omega, hn, fun h => (by cases h), fun j x hj => ⟨g, 0, opV x, rfl, rfl, fun i u hu => ?_, rfl⟩⟩
    have := World.ownsRow.cells h (g := g) (by rw [hv]; rfl) (j * 3 + i) u (flatMap_at l j i x u hj hu)
    rwa [addr_add] at this

theorem Tryz.infoOp : (Tryz.prog.info? 51).map (fun i => (i.zero, i.size, i.bytes)) = some (some (.agg #[vi 0, vi 0, vi 0]), 3, 24) := by kernel_rfl
theorem eltOp : Elt Tryz.prog 47 51 3 24 (.agg #[vi 0, vi 0, vi 0]) := by
  obtain ⟨i0, hi, hz0, hz1, hz2⟩ := info_parts Tryz.infoOp
  exact ⟨Tryz.underlying47, by decide, rfl, i0, hi, hz0, hz1, hz2⟩

theorem opV_one {l : List GOp} : ∀ u ∈ l.flatMap opV, u.oneCell' = true := by
  intro u hu
  obtain ⟨x, _, hx⟩ := List.mem_flatMap.1 hu
  simp [opV] at hx
  rcases hx with rfl | rfl | rfl <;> rfl

theorem flatMap_length (l : List GOp) : (l.flatMap opV).length = l.length * 3 := by
  induction l with
  | nil => rfl
  | cons x l ih => rw [List.flatMap_cons, List.length_append, ih]; simp [opV]; omega

theorem RdOps.src {w : World} {v : Value} {l : List GOp} (h : RdOps w v l) : Src w v 3 l.length (l.flatMap opV) := by
  obtain ⟨a, len, cap, rfl, rfl, hm, hlc, hn, hc⟩ := h
  refine ⟨a, cap, rfl, flatMap_length l, fun h => hn h, fun ad had j u hu => ?_⟩
  have hlt := (List.getElem?_eq_some_iff.1 hu).1
  rw [flatMap_length] at hlt
  have hj : j / 3 < l.length := by omega
  obtain ⟨x, hx⟩ : ∃ x, l[j / 3]? = some x := ⟨_, List.getElem?_eq_getElem hj⟩
  obtain ⟨b, off, cs, hb, hl, hcs, rfl⟩ := hc _ x hx
  rw [hb] at had; cases had
  obtain ⟨u', hu'⟩ : ∃ u', (opV x)[j % 3]? = some u' := ⟨_, List.getElem?_eq_getElem (by simp [opV]; omega)⟩
  have e := flatMap_at l (j / 3) (j % 3) x u' hx hu'
  have hj3 : j / 3 * 3 + j % 3 = j := by omega
  rw [hj3, hu] at e
  cases e
  have := hcs (j % 3) u hu'
  rw [hj3] at this
  rw [addr_add]; exact this

theorem some_at {α : Type} {l : List α} {k : Nat} (h : k < l.length) : ∃ x, l[k]? = some x := ⟨l[k], List.getElem?_eq_getElem h⟩
theorem take_at {α : Type} {l : List α} {k : Nat} {x : α} (h : l[k]? = some x) : l.take (k + 1) = l.take k ++ [x] := by
  rw [List.take_add_one, h]; rfl
end Go.Proofs.YtnacoplokjdglaaGreat

namespace Go.Proofs.YtnacoplokjdglaaGreat
open Go.RowKit Go.Maps

def i64 (n : Int) : Prop := -9223372036854775808 ≤ n ∧ n ≤ 9223372036854775807
def OkOps (l : List GOp) : Prop := ∀ o ∈ l, i64 o.kind ∧ i64 o.key ∧ i64 o.val

theorem intKeyed : Keyed Tryz.prog 3 := int_keyed Tryz.underlying3
theorem intKey {n : Int} (h : i64 n) : keyOf Tryz.prog 3 (vi n) = some (.int .i64 n) :=
  keyOf_int_mk Tryz.underlying3 (by simp [Lit.wf, IntKind.min, IntKind.max, IntKind.signed, IntKind.bits]; exact h)
theorem zeroB (w : World) : (zeroValue 4).run Tryz.prog w = .ok (.bool false) w := by kernel_rfl
theorem zeroI (w : World) : (zeroValue 3).run Tryz.prog w = .ok (vi 0) w := by kernel_rfl
theorem vi_inj (x y : Int) (h : vi x = vi y) : x = y := by cases h; rfl

/-- One operation in Reads: what was written so far, what was read. -/
def stepR (s : List (Int × Bool) × List GOp) (o : GOp) : List (Int × Bool) × List GOp :=
  if o.kind = 2 then (putM s.1 o.key true, s.2) else if (getM s.1 o.key).isSome then s else (s.1, s.2 ++ [o])
def readsS (l : List GOp) : List (Int × Bool) × List GOp := l.foldl stepR ([], [])
/-- hist.Reads. -/
def readsM (t : GTxn) : List GOp := if t.state = 1 then (readsS t.ops).2 else []

theorem readsS_next {l : List GOp} {k : Nat} {o : GOp} (h : l[k]? = some o) : readsS (l.take (k + 1)) = stepR (readsS (l.take k)) o := by
  rw [take_at h]; unfold readsS; rw [List.foldl_append]; rfl

theorem readsS_true (l : List GOp) (x : Int) (b : Bool) (h : getM (readsS l).1 x = some b) : b = true := by
  unfold readsS at h
  have : ∀ (l : List GOp) (s : List (Int × Bool) × List GOp), (∀ x b, getM s.1 x = some b → b = true) → ∀ x b, getM (l.foldl stepR s).1 x = some b → b = true := by
    intro l
    induction l with
    | nil => intro s h; exact h
    | cons o l ih =>
      intro s h
      refine ih _ ?_
      unfold stepR
      split
      · intro x b hb
        rw [getM_put] at hb
        split at hb
        · cases hb; rfl
        · exact h x b hb
      · split
        · exact h
        · exact h
  exact this l ([], []) (fun x b h => by simp [getM_nil] at h) x b h

theorem readsS_le (l : List GOp) : (readsS l).2.length ≤ l.length := by
  have : ∀ (l : List GOp) (s : List (Int × Bool) × List GOp), (l.foldl stepR s).2.length ≤ s.2.length + l.length := by
    intro l
    induction l with
    | nil => intro s; simp
    | cons o l ih =>
      intro s
      rw [List.foldl_cons]
      refine Nat.le_trans (ih _) ?_
      unfold stepR
      split
      · simp
      · split <;> simp <;> omega
  have := this l ([], [])
  simpa [readsS] using this

set_option maxRecDepth 100000 in
set_option maxHeartbeats 1000000 in
theorem reads_call (c s : Int) (v : Value) (l : List GOp) (w : World) (hv : RdOps w v l) (hok : OkOps l) (hl : l.length ≤ 1048576) :
    Calls Tryz.prog 61 #[.agg #[vi c, vi s, v]] w fun e w' => ∃ v', e = .returned v' ∧ OwOps w.heap.size w' v' (readsM ⟨c, s, l⟩) ∧ Below w.heap.size w w' := by
  have HV := Lib.hid hv
  have HOK := Lib.hid hok
  obtain ⟨a, len, cap, rfl, rfl, hm, -⟩ := hv.at
  clear hv hok
  by_cases hs : s = 1
  · subst hs
    have hmm := @run_makeMap Tryz.prog
    go_enter Tryz.func61, Tryz.ntmps61
    go_wp2
    go_loopw [3, 6, 15] (fun v _ i wr => ∃ k : Nat, k ≤ l.length ∧ i = .int .i64 k ∧ wr.ownsRow (w.heap.size + 2) 51 3 v (readsS (l.take k)).2.length ((readsS (l.take k)).2.flatMap opV) ∧ MapT Tryz.prog 3 vi Value.bool wr (w.heap.size + 1) (readsS (l.take k)).1 ∧ w.heap.size + 2 ≤ wr.heap.size ∧ Below w.heap.size w wr) (fun _ _ i _ => l.length - (intOf i).toNat)
    case atStart => exact ⟨0, Nat.zero_le _, rfl, World.ownsRow_nil _ _ _ _, by simpa [readsS] using MapT.made (P := Tryz.prog) (k := 3) (eK := vi) (eV := Value.bool) (w.alloc (.cells #[vi c, vi 1, .slice a l.length cap] 49)), by simp, ((Below.refl _ _).alloc (Nat.le_refl _) _).alloc (by simp) _⟩
    case round =>
      obtain ⟨k, hk, rfl, ho, hM, hsz, hb⟩ := hrel
      have HO := Lib.hid ho
      have HM := Lib.hid hM
      have HB := Lib.hid hb
      clear ho hM hb
      by_cases hlt : k < l.length
      · obtain ⟨o, hok⟩ := some_at hlt
        obtain ⟨_, _, _, e5, -, -, hcl⟩ := (HV.out.later HB.out).at
        cases e5
        obtain ⟨b, off, rfl, k0, k1, k2⟩ := hcl k o hok
        have HN := Lib.hid (readsS_next hok)
        have HK := Lib.hid (intKey ((HOK.out o (List.mem_of_getElem? hok)).2.1))
        clear hcl hok
        by_cases h2 : o.kind = 2
        · have h2' : (o.kind == 2) = true := by simp [h2]
          have HS := Lib.hid (show stepR (readsS (l.take k)) o = (putM (readsS (l.take k)).1 o.key true, (readsS (l.take k)).2) by unfold stepR; rw [if_pos h2])
          clear h2
          go_wp2_with (at_mapUpdate; refine wpList_mapUpdate_T (b := w.heap.size + 1) (eK := vi) (eV := Value.bool) rfl _ _ _ rfl intKeyed vi_inj Tryz.underlying116 (HM.out.frame (Below.heap_alloc _ _ _ (by omega))) rfl o.key HK.out rfl true rfl ?_; intro w1 hM1 hg1)
          go_roundw
          case rel =>
            refine ⟨k + 1, by omega, by go_num, ?_, ?_, ?_, ?_⟩
            · rw [HN.out, HS.out]; exact own_keptBelow (HO.out.alloc _) hg1 (by omega)
            · rw [HN.out, HS.out]; exact hM1
            · have := hg1.size; simp at this; omega
            · exact (HB.out.alloc (by omega) _).grown hg1 (by simp; omega) (fun j hj => by cases hj; omega)
          case measure => simp [intOf]; omega
        · have h2' : (o.kind == 2) = false := by simp [h2]
          have hlk := fun o' => (MapT.lookup intKeyed vi_inj Tryz.underlying116 (HM.out.frame (Below.heap_alloc wr o' _ (by omega))) o.key HK.out (zeroB _)).1
          cases hg : getM (readsS (l.take k)).1 o.key with
          | some b =>
            obtain rfl := readsS_true _ _ _ hg
            have HS := Lib.hid (show stepR (readsS (l.take k)) o = readsS (l.take k) by unfold stepR; rw [if_neg h2, if_pos (by simp [hg])])
            rw [hg] at hlk
            simp only [Option.map_some, Option.getD_some] at hlk
            clear h2 hg
            go_wp2
            go_roundw
            case rel =>
              refine ⟨k + 1, by omega, by go_num, ?_, ?_, by simp; omega, HB.out.alloc (by omega) _⟩
              · rw [HN.out, HS.out]; exact HO.out.alloc _
              · rw [HN.out, HS.out]; exact HM.out.frame (Below.heap_alloc _ _ _ (by omega))
            case measure => simp [intOf]; omega
          | none =>
            have HS := Lib.hid (show stepR (readsS (l.take k)) o = ((readsS (l.take k)).1, (readsS (l.take k)).2 ++ [o]) by unfold stepR; rw [if_neg h2, if_neg (by simp [hg])])
            rw [hg] at hlk
            simp only [Option.map_none, Option.getD_none] at hlk
            have hle := readsS_le (l.take k)
            have htl : (l.take k).length ≤ k := List.length_take_le _ _
            clear h2 hg
            go_wp2_with (at_builtin; refine wpList_append_src rfl _ _ 47 rfl eltOp (w.heap.size + 2) (readsS (l.take k)).2.length _ ((HO.out.alloc _).alloc _) rfl 1 (opV o) (src_new (cs := #[vi o.kind, vi o.key, vi o.val]) rfl (by simp)) rfl (by intro u hu; simp [opV] at hu; rcases hu with rfl | rfl | rfl <;> rfl) (by omega) (by omega) (by simp; omega) ?_; intro v1 w1 ho1 hg1 _)
            have hbl : ∀ j, u3.ownBlock = some j → w.heap.size + 2 ≤ j := fun j hj => (HO.out.lt j hj).1
            go_roundw
            case rel =>
              refine ⟨k + 1, by omega, by go_num, ?_, ?_, ?_, ?_⟩
              · rw [HN.out, HS.out]; simpa using ho1
              · rw [HN.out, HS.out]; exact (HM.out.frame (by rw [Below.heap_alloc _ _ _ (by simp; omega), Below.heap_alloc _ _ _ (by omega)])).kept hg1 (fun e => by have := hbl _ e.symm; omega)
              · have := hg1.size; simp at this; omega
              · exact ((HB.out.alloc (by omega) _).alloc (by simp; omega) _).grown hg1 (by simp; omega) (fun j hj => by have := hbl _ hj; omega)
            case measure => simp [intOf]; omega
      · have hkl : k = l.length := by omega
        subst hkl
        have HE := Lib.hid (show readsM ⟨c, 1, l⟩ = (readsS l).2 by unfold readsM; rw [if_pos rfl])
        go_wp2
        go_ret
        refine ⟨_, rfl, ?_, HB.out⟩
        have := HO.out
        rw [List.take_length] at this
        rw [HE.out]
        exact own_mono this (by omega)
  · have hs' : (s == 1) = false := by simp [hs]
    have hs'' : (s != 1) = true := by simp [hs]
    have HM := Lib.hid (show readsM ⟨c, s, l⟩ = [] by unfold readsM; rw [if_neg hs])
    clear hs
    go_enter Tryz.func61, Tryz.ntmps61
    go_wp2
    go_ret
    exact ⟨_, rfl, by rw [HM.out]; exact World.ownsRow_nil _ _ _ _, (Below.refl _ _).alloc (Nat.le_refl _) _⟩
end Go.Proofs.YtnacoplokjdglaaGreat

namespace Go.Proofs.YtnacoplokjdglaaGreat
open Go.RowKit Go.Maps

theorem laidOutP : laidOutB Tryz.prog = true := by kernel_rfl
theorem placeKeyed : Keyed Tryz.prog 127 := Keyed.of_law (deep_law_laid laidOutP (m := 2) (by omega) (of_decide_eq_true (by kernel_rfl)) (by kernel_rfl) (by rw [Tryz.underlying127]))

theorem wf_of {n : Int} (h : i64 n) : (Lit.int .i64 n).wf = true := by
  simp [Lit.wf, IntKind.min, IntKind.max, IntKind.signed, IntKind.bits]; exact h

theorem lit_int {n : Int} (h : i64 n) (d : Nat) : Tryz.prog.keyLits (d + 1) 3 [vi n] = some [.int .i64 n] := by
  unfold Program.keyLits; simp [Tryz.underlying3, wf_of h]

theorem placeLits {a b : Int} (ha : i64 a) (hb : i64 b) (d : Nat) : Tryz.prog.keyLits (d + 1 + 1) 127 [vi a, vi b] = some [.int .i64 a, .int .i64 b] := by
  have hc : Tryz.prog.cellsOf 127 = 2 := by kernel_rfl
  have hi : Tryz.prog.cellsOf 3 = 1 := by kernel_rfl
  unfold Program.keyLits
  rw [Tryz.underlying127]
  simp [hc, hi, lit_int ha, lit_int hb]

theorem placeKey {a b : Int} (ha : i64 a) (hb : i64 b) : ∃ kl, keyOf Tryz.prog 127 (.agg #[vi a, vi b]) = some kl := by
  have hk : Tryz.prog.keyType 127 = true := by kernel_rfl
  have hc : Tryz.prog.cellsOf 127 = 2 := by kernel_rfl
  obtain ⟨d, hd⟩ : ∃ d, Tryz.prog.types.size = d + 1 := ⟨Tryz.prog.types.size - 1, by have : 0 < Tryz.prog.types.size := of_decide_eq_true (by kernel_rfl); omega⟩
  have hf : (Value.agg #[vi a, vi b]).formed Tryz.prog 127 = true := by simp [Value.formed, Tryz.underlying127, hc]
  have hl := placeLits ha hb d
  unfold keyOf
  rw [Tryz.underlying127, hd]
  simp [hk, hf, Value.cells, hl]
end Go.Proofs.YtnacoplokjdglaaGreat

namespace Go.Proofs.YtnacoplokjdglaaGreat
open Go.RowKit Go.Shelf Go.Maps
attribute [local go_sem] Oper.semAt_some

/-- What slices.Backward hands over, in order. -/
def revL (l : List GOp) : List (Nat × GOp) := (l.zipIdx.map (fun p => (p.2, p.1))).reverse

theorem revL_length (l : List GOp) : (revL l).length = l.length := by simp [revL]
theorem revL_at {l : List GOp} {m : Nat} {o : GOp} (h : l[m]? = some o) : (revL l)[l.length - (m + 1)]? = some (m, o) := by
  have hm := (List.getElem?_eq_some_iff.1 h).1
  unfold revL
  rw [List.getElem?_reverse (by simp; omega)]
  have : (List.map (fun p : GOp × Nat => (p.2, p.1)) l.zipIdx).length - 1 - (l.length - (m + 1)) = m := by simp; omega
  rw [this]
  simp [h]

abbrev encB (x : Nat × GOp) : Array Value := #[.int .i64 (x.1 : Int), .agg #[vi x.2.kind, vi x.2.key, vi x.2.val]]

/-- What a round keeps: what lay below n₀, and the iterator's own box. -/
def KpB (n₀ Bs : Nat) (W W' : World) : Prop := Below n₀ W W' ∧ ∀ v, W.cell? ⟨Bs, 0, none⟩ = some v → W'.cell? ⟨Bs, 0, none⟩ = some v

set_option maxRecDepth 100000 in
set_option maxHeartbeats 2000000 in
theorem back1_in (F : Fence) (n : Nat) (hF : F.fn 115) (hro : F.round = none) (hn : 1 ≤ n) (lp Bs n₀ : Nat) (a : Option Addr) (cap : Nat) (l : List GOp) (hl : l.length ≤ 9223372036854775807) (J Jx : List (Nat × GOp) → World → Prop)
    (hY : ∀ pre x W, J pre W → pre.length < l.length → YieldAt F (n - 1) Tryz.prog lp (encB x) W fun e W' =>
      (e = .returned (.bool true) ∧ J (pre ++ [x]) W' ∧ KpB n₀ Bs W W') ∨ (e = .returned (.bool false) ∧ Jx (pre ++ [x]) W'))
    (W : World) (hBs : W.cell? ⟨Bs, 0, none⟩ = some (.slice a l.length cap)) 
    (hc : ∀ j x, l[j]? = some x → ∃ b off, a = some ⟨b, off, none⟩ ∧ b < n₀ ∧ W.cell? ⟨b, off + j * 3, none⟩ = some (vi x.kind) ∧ W.cell? ⟨b, off + j * 3 + 1, none⟩ = some (vi x.key) ∧ W.cell? ⟨b, off + j * 3 + 2, none⟩ = some (vi x.val)) (h0 : J [] W) :
    CallsIn F n Tryz.prog 115 #[.func (.yield lp) #[] #[], .pointer (some ⟨Bs, 0, none⟩)] W fun e W' => (∃ v, e = .returned v) ∧
      ((∃ ys, ys = revL l ∧ J ys W') ∨ (∃ pre, pre <+: revL l ∧ Jx pre W')) := by
  have HC := Lib.hid hc
  clear hc
  refine callsIn_of_wp Tryz.func115 rfl hF ?_ hro
  simp only [Tryz.ntmps115, List.size_toArray, List.length_cons, List.length_nil, Nat.reduceAdd, Nat.reduceSub, Array.replicate_succ, Array.replicate_zero, List.push_toArray, List.append_toArray, List.nil_append, List.cons_append]
  gi_wp2
  gi_loopw [3] (fun i wr => ∃ j : Nat, j ≤ l.length ∧ ((j = 0 ∧ i = .int .i64 (-1)) ∨ ∃ m : Nat, j = m + 1 ∧ i = .int .i64 (m : Int)) ∧ J ((revL l).take (l.length - j)) wr ∧ KpB n₀ Bs W wr) (fun i _ => (intOf i + 1).toNat)
  case atStart =>
    refine ⟨l.length, Nat.le_refl _, ?_, by simpa using h0, Below.refl _ _, fun _ h => h⟩
    cases hll : l.length with
    | zero => exact .inl ⟨rfl, by simp⟩
    | succ m => exact .inr ⟨m, rfl, by go_num⟩
  case round =>
    obtain ⟨j, hj, hi, hJs, hkp⟩ := hrel
    have HKP := Lib.hid hkp
    clear hkp
    have hbx := HKP.out.2 _ hBs
    rcases hi with ⟨rfl, rfl⟩ | ⟨m, rfl, rfl⟩
    · gi_wp2
      go_end0
      exact ⟨⟨_, rfl⟩, .inl ⟨_, by rw [Nat.sub_zero, ← revL_length, List.take_length], hJs⟩⟩
    · obtain ⟨o, ho⟩ := some_at (l := l) (k := m) (by omega)
      obtain ⟨b, off, rfl, hb, k0', k1', k2'⟩ := HC.out m o ho
      have k0 := (HKP.out.1.cell (p := ⟨b, off + m * 3, none⟩) hb).trans k0'
      have k1 := (HKP.out.1.cell (p := ⟨b, off + m * 3 + 1, none⟩) hb).trans k1'
      have k2 := (HKP.out.1.cell (p := ⟨b, off + m * 3 + 2, none⟩) hb).trans k2'
      obtain ⟨fn, tmps, assign, body, hy, hR⟩ := hY _ (m, o) wr hJs (by rw [List.length_take, revL_length]; omega)
      have HR := Lib.hid (revL_at ho)
      have hmi : (m : Int) < (l.length : Int) := by omega
      clear k0' k1' k2' ho
      gi_wp2
      have HT := Lib.hid (take_at HR.out)
      have hm1 : l.length - (m + 1) + 1 = l.length - m := by omega
      rw [hm1] at HT
      clear hm1
      refine hR.mono ?_
      rintro e W3 (⟨rfl, hJ3, hk3⟩ | ⟨rfl, hJx3⟩)
      · have hk4 : KpB n₀ Bs W W3 := ⟨HKP.out.1.trans hk3.1, fun v hv => hk3.2 v (HKP.out.2 v hv)⟩
        have HK4 := Lib.hid hk4
        clear hk3 hk4
        gi_wp2
        go_roundw
        case rel =>
          refine ⟨m, by omega, ?_, by rw [HT.out]; exact hJ3, HK4.out⟩
          cases m with
          | zero => exact .inl ⟨rfl, by simp⟩
          | succ m => exact .inr ⟨m, rfl, by go_num⟩
        case measure => simp [intOf]
      · gi_wp2
        refine bodyPost_ret (results_none rfl _ _ _) rfl ?_
        exact ⟨⟨_, rfl⟩, .inr ⟨(revL l).take (l.length - m), List.take_prefix _ _, by rw [HT.out]; exact hJx3⟩⟩

theorem kpb_t {n₀ Bs : Nat} {A B C : World} (h : KpB n₀ Bs A B) (k : KpB n₀ Bs B C) : KpB n₀ Bs A C := ⟨h.1.trans k.1, fun v hv => k.2 v (h.2 v hv)⟩

theorem kpb_b {n₀ Bs : Nat} {w : World} (hB : n₀ ≤ w.heap.size) (W : World) (l : Nat) (o o' : Obj) (hl : w.heap.size ≤ l) (ho : W.heap[l]? = some o) (hc : o.isCells = false) (hw : o.isWalk = false) : KpB n₀ Bs W (W.putObj l o') := by
  refine ⟨belowK_b hB W l o o' hl ho hc hw, fun v hv => ?_⟩
  have hne : l ≠ Bs := by
    intro e
    subst e
    unfold World.cell? at hv
    simp only [ho] at hv
    cases o <;> simp [Obj.isCells] at hc hv
  rw [← hv]
  unfold World.cell? World.putObj
  simp only [Array.getElem?_setIfInBounds]
  rw [if_neg (by exact hne)]

set_option maxHeartbeats 1000000 in
/-- slices.Backward(s): the slice value is boxed; the function value captures the box. -/
theorem back_in (F : Fence) (n : Nat) (hF : F.fn 88) (hro : F.round = none) (a : Option Addr) (len cap : Nat) (w : World) :
    CallsIn F n Tryz.prog 88 #[.slice a len cap] w fun e w' => e = .returned (.func (.func 115) #[] #[.pointer (some ⟨w.heap.size, 0, none⟩)]) ∧ w' = w.alloc (.cells #[.slice a len cap] 47) := by
  refine callsIn_of_wp Tryz.func88 rfl hF ?_ hro
  simp only [Tryz.ntmps88, List.size_toArray, List.length_cons, List.length_nil, Nat.reduceAdd, Nat.reduceSub, Array.replicate_succ, Array.replicate_zero, List.push_toArray, List.append_toArray, List.nil_append, List.cons_append]
  gi_wp2
  go_ret
  exact ⟨rfl, rfl⟩

/-- The value that Backward hands back, as an iterator: all of the operations from behind, or the first of them. -/
theorem back_stops (F : Fence) (n : Nat) (hF : F.fn 115) (hro : F.round = none) (hn : 1 ≤ n) (Bs n₀ : Nat) (a : Option Addr) (cap : Nat) (l : List GOp) (hl : l.length ≤ 9223372036854775807) (w : World) (hBs : Bs < w.heap.size) (hn₀ : n₀ ≤ w.heap.size)
    (hcb : w.cell? ⟨Bs, 0, none⟩ = some (.slice a l.length cap))
    (hc : ∀ j x, l[j]? = some x → ∃ b off, a = some ⟨b, off, none⟩ ∧ b < n₀ ∧ w.cell? ⟨b, off + j * 3, none⟩ = some (vi x.kind) ∧ w.cell? ⟨b, off + j * 3 + 1, none⟩ = some (vi x.key) ∧ w.cell? ⟨b, off + j * 3 + 2, none⟩ = some (vi x.val)) :
    SeqStopsK F n Tryz.prog 115 #[.pointer (some ⟨Bs, 0, none⟩)] encB (KpB n₀ Bs) (fun ys => ys = revL l) (fun pre => pre <+: revL l) l.length w := fun lp J Jx W hW _ _ hY h0 =>
  back1_in F n hF hro hn lp Bs n₀ a cap l hl J Jx hY W ((hW.cell (p := ⟨Bs, 0, none⟩) hBs).trans hcb)
    (fun j x hj => by
      obtain ⟨b, off, h1, h2, h3, h4, h5⟩ := hc j x hj
      have hb : b < w.heap.size := by omega
      exact ⟨b, off, h1, h2, (hW.cell (p := ⟨b, off + j * 3, none⟩) hb).trans h3, (hW.cell (p := ⟨b, off + j * 3 + 1, none⟩) hb).trans h4, (hW.cell (p := ⟨b, off + j * 3 + 2, none⟩) hb).trans h5⟩) h0
end Go.Proofs.YtnacoplokjdglaaGreat

namespace Go.Proofs.YtnacoplokjdglaaGreat
open Go.RowKit

theorem wpListIn_append_src {F : Fence} {nf : Nat} {P : Program} {w : World} {ops : Array Oper} {rest : List Oper} {o : Oper} {a : Act} {Q : Exit → Act → World → Prop} (hgd : o.guard = none) (s x : Operand) (t : TypeId)
    (ho : o.op = .call { callee := .builtin .append, args := #[s, x], argTypes := #[t, t] })
    {e : TypeId} {size bytes : Nat} {z : Value} (he : Elt P t e size bytes z) (base : Nat)
    {v vx : Value} (n : Nat) (xs : List Value) (hown : w.ownsRow base e size v n xs) (hs : a.eval s = v)
    (m : Nat) (news : List Value) (hsrc : Src w vx size m news) (hx : a.eval x = vx) (h1 : ∀ u ∈ news, u.oneCell' = true)
    (hsz : n + m ≤ 68719476736) (hbytes : bytes ≤ 2048) (hbase : base ≤ w.heap.size)
    (h : ∀ v' w', w'.ownsRow base e size v' (n + m) (xs ++ news) → w.grownBy w' v.ownBlock → (v' = .slice none 0 0 → v = .slice none 0 0) → wpListIn F nf P ops Q rest (a.put o.dst v') w') : wpListIn F nf P ops Q (o :: rest) a w := by
  obtain ⟨ht, h0, hzs, i, hi, hz, his, hib⟩ := he
  obtain ⟨ad, c, rfl, hl, hnone, hsome⟩ := hsrc
  cases ad with
  | none =>
    obtain ⟨rfl, rfl⟩ := hnone rfl
    have hn : news = [] := List.length_eq_zero_iff.1 (by simpa using hl)
    subst hn
    refine wpListIn_plain hgd fun K hK' => ?_
    have hrun := run_append_owned_none (P := P) (w := w) base t o.type e i size ht hi v n xs hown
    unfold Oper.wpIn
    refine ⟨?_, ?_⟩
    · simp [Oper.about, ho, resolve, Target.leads, Sem.run_pure]
    · rw [Oper.semAt_plain F _ _ (by rw [ho]; intro c hc'; cases hc')]
      simp [execOp, ho, resolve, invoke, builtin, hs, hx, hrun, Result.andThen]
      exact hK' _ _ (h v w (by simpa using hown) ⟨rfl, rfl, rfl, Nat.le_refl _, fun _ _ _ => rfl⟩ id)
  | some ad =>
    refine wpListIn_append_own w hgd s x t ho base e i z size bytes ht hi hz his hib hzs h0 v n xs hs hown ad m c news hx hl (hsome ad rfl) h1 (by simp only [maxLen]; omega) ?_ hbase (fun v' w' a b c => h v' w' a b (fun e => (c.1 e).1))
    exact Nat.le_trans (Nat.mul_le_mul hsz hbytes) (by decide)
end Go.Proofs.YtnacoplokjdglaaGreat
