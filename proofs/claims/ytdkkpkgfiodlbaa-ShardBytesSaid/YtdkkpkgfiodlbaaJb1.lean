/- Texts of one proof, one behind the other: Mem, Args, BtPure, Maps, Data, BtPut. -/
import Derived.WalkKit
import Derived.Outline
import Derived.Lib.Hide
import Derived.Laws.AppendOwnNone
import Derived.WalkSpells
import Derived.WalkLawsBesides
import Derived.BigQuiet
import Derived.Deep.QuietTactic
import Derived.Deep.RegionWith
import Derived.Deep.RegionHeld3
import Derived.Deep.LoopGhost
import Derived.Deep.DeepFit
import Derived.Deep.RegionLaw
import Derived.StillTailTactics
import Derived.Deep.DeepCutAuto
import Derived.Lib.AppendZeros
import Derived.Deep.Slices
import Derived.ProofKit
import Derived.OpenShut
import Derived.Laws.BitsAllLaws
import Derived.Maps.Own
import Derived.Test.YtdkkpkgfiodlbaaProg
import Derived.KernelRfl
import Derived.Laws.OwnMore
set_option linter.all false
/- Laws on memory that name no program: an append to a row of the call's own, whatever readable slice is appended. -/
namespace Go.Proofs.Ytdkkpkgfiodlbaa
open Go.RowKit
/-- The slice type t has elements e of so many cells and bytes, with this zero value. -/
def Elt (P : Program) (t e : TypeId) (size bytes : Nat) (z : Value) : Prop :=
  P.underlying t = some (.slice e) ∧ 0 < size ∧ z.cells.size = size ∧ ∃ i, P.info? e = some i ∧ i.zero = some z ∧ i.size = size ∧ i.bytes = bytes

/-- The slice value x, of m elements, holds the cells news. -/
def Src (w : World) (x : Value) (size m : Nat) (news : List Value) : Prop :=
  ∃ a c, x = .slice a m c ∧ news.length = m * size ∧ (a = none → m = 0 ∧ c = 0) ∧ ∀ ad, a = some ad → ∀ j u, news[j]? = some u → w.cell? (ad.add j) = some u

theorem addr_add (b off j : Nat) : (⟨b, off, none⟩ : Addr).add j = ⟨b, off + j, none⟩ := by unfold Addr.add; split <;> simp_all

theorem own_src {w : World} {base e size n : Nat} {v : Value} {xs : List Value} (h : w.ownsRow base e size v n xs) : Src w v size n xs := by
  obtain ⟨h1, h2⟩ := id h
  rcases h2 with ⟨hv, h0⟩ | ⟨g, cap, cur, hv, hg, hh, hn, hm, hs, ht⟩
  · subst h0
    exact ⟨none, 0, hv, h1, fun _ => ⟨rfl, rfl⟩, fun ad h => by cases h⟩
  · refine ⟨some ⟨g, 0, none⟩, cap, hv, h1, fun h => (by cases h), fun ad had j u hu => ?_⟩
    cases had
    exact World.ownsRow.cells h (g := g) (by rw [hv]; rfl) j u hu

theorem Src.below {w w' : World} {x : Value} {size m : Nat} {news : List Value} (h : Src w x size m news) (hb : Below w.heap.size w w') : Src w' x size m news := by
  obtain ⟨a, c, h1, h2, h3, h4⟩ := h
  refine ⟨a, c, h1, h2, h3, fun ad had j u hu => ?_⟩
  have := h4 ad had j u hu
  rw [hb.cell (World.block_lt_of_cell? w _ this)]
  exact this

theorem wpList_append_src {P : Program} {w : World} {ops : Array Oper} {rest : List Oper} {o : Oper} {a : Act} {Q : Exit → Act → World → Prop} (hgd : o.guard = none) (s x : Operand) (t : TypeId)
    (ho : o.op = .call { callee := .builtin .append, args := #[s, x], argTypes := #[t, t] })
    {e : TypeId} {size bytes : Nat} {z : Value} (he : Elt P t e size bytes z) (base : Nat)
    {v vx : Value} (n : Nat) (xs : List Value) (hown : w.ownsRow base e size v n xs) (hs : a.eval s = v)
    (m : Nat) (news : List Value) (hsrc : Src w vx size m news) (hx : a.eval x = vx) (h1 : ∀ u ∈ news, u.oneCell' = true)
    (hsz : n + m ≤ 68719476736) (hbytes : bytes ≤ 2048) (hbase : base ≤ w.heap.size)
    (h : ∀ v' w', w'.ownsRow base e size v' (n + m) (xs ++ news) → w.grownBy w' v.ownBlock → (v' = .slice none 0 0 → v = .slice none 0 0) → wpList P ops Q rest (a.put o.dst v') w') : wpList P ops Q (o :: rest) a w := by
  obtain ⟨ht, h0, hzs, i, hi, hz, his, hib⟩ := he
  obtain ⟨ad, c, rfl, hl, hnone, hsome⟩ := hsrc
  cases ad with
  | none =>
    obtain ⟨rfl, rfl⟩ := hnone rfl
    have hn : news = [] := List.length_eq_zero_iff.1 (by simpa using hl)
    subst hn
    refine wpList_append_own_none hgd s x t ho base e i size ht hi v n xs hs hown hx (h v w (by simpa using hown) ⟨rfl, rfl, rfl, Nat.le_refl _, fun _ _ _ => rfl⟩ id)
  | some ad =>
    refine wpList_append_own w hgd s x t ho base e i z size bytes ht hi hz his hib hzs h0 v n xs hs hown ad m c news hx hl (hsome ad rfl) h1 (by simp only [maxLen]; omega) ?_ hbase (fun v' w' a b c => h v' w' a b (fun e => (c.1 e).1))
    exact Nat.le_trans (Nat.mul_le_mul hsz hbytes) (by decide)

theorem wp_append_src {P : Program} {w : World} {o : Oper} {a : Act} {K : Act → World → Prop} {Q : Exit → Act → World → Prop} (s x : Operand) (t : TypeId)
    (ho : o.op = .call { callee := .builtin .append, args := #[s, x], argTypes := #[t, t] })
    {e : TypeId} {size bytes : Nat} {z : Value} (he : Elt P t e size bytes z) (base : Nat)
    {v vx : Value} (n : Nat) (xs : List Value) (hown : w.ownsRow base e size v n xs) (hs : a.eval s = v)
    (m : Nat) (news : List Value) (hsrc : Src w vx size m news) (hx : a.eval x = vx) (h1 : ∀ u ∈ news, u.oneCell' = true)
    (hsz : n + m ≤ 68719476736) (hbytes : bytes ≤ 2048) (hbase : base ≤ w.heap.size)
    (h : ∀ v' w', w'.ownsRow base e size v' (n + m) (xs ++ news) → w.grownBy w' v.ownBlock → (v' = .slice none 0 0 → v = .slice none 0 0) → K (a.put o.dst v') w') : o.wp P a w K Q := by
  obtain ⟨ht, h0, hzs, i, hi, hz, his, hib⟩ := he
  obtain ⟨ad, c, rfl, hl, hnone, hsome⟩ := hsrc
  cases ad with
  | none =>
    obtain ⟨rfl, rfl⟩ := hnone rfl
    have hn : news = [] := List.length_eq_zero_iff.1 (by simpa using hl)
    subst hn
    have hrun := run_append_owned_none (P := P) (w := w) base t o.type e i size ht hi v n xs hown
    unfold Oper.wp
    simp [execOp, ho, resolve, invoke, builtin, hs, hx, hrun, Result.andThen]
    exact h v w (by simpa using hown) ⟨rfl, rfl, rfl, Nat.le_refl _, fun _ _ _ => rfl⟩ id
  | some ad =>
    refine wp_append_own w s x t ho base e i z size bytes ht hi hz his hib hzs h0 v n xs hs hown ad m c news hx hl (hsome ad rfl) h1 (by simp only [maxLen]; omega) ?_ hbase (fun v' w' a b c => h v' w' a b (fun e => (c.1 e).1))
    exact Nat.le_trans (Nat.mul_le_mul hsz hbytes) (by decide)

/-- The same, as a step of a region that draws its order. -/
theorem step_append_src {P : Program} {w : World} {ops : Array Oper} {o : Oper} {a : Act} {K : Act → World → Prop} {Q : Exit → Act → World → Prop} {E : Prop} (hgd : o.guard = none) (s x : Operand) (t : TypeId)
    (ho : o.op = .call { callee := .builtin .append, args := #[s, x], argTypes := #[t, t] })
    {e : TypeId} {size bytes : Nat} {z : Value} (he : Elt P t e size bytes z) (base : Nat)
    {v vx : Value} (n : Nat) (xs : List Value) (hown : w.ownsRow base e size v n xs) (hs : a.eval s = v)
    (m : Nat) (news : List Value) (hsrc : Src w vx size m news) (hx : a.eval x = vx) (h1 : ∀ u ∈ news, u.oneCell' = true)
    (hsz : n + m ≤ 68719476736) (hbytes : bytes ≤ 2048) (hbase : base ≤ w.heap.size)
    (h : ∀ v' w', w'.ownsRow base e size v' (n + m) (xs ++ news) → w.grownBy w' v.ownBlock → (v' = .slice none 0 0 → v = .slice none 0 0) → K (a.put o.dst v') w') :
    if Region.wanted o (yielded ops a.tmps) = true then Oper.wp P o a w K Q else E := by
  have hw : Region.wanted o (yielded ops a.tmps) = true := by simp [Region.wanted, hgd]
  rw [if_pos hw]
  exact wp_append_src s x t ho he base n xs hown hs m news hsrc hx h1 hsz hbytes hbase h

/-- What a law of append or make leaves: nothing below base has turned. -/
theorem below_grown {base : Nat} {w w' : World} {v : Value} (hg : w.grownBy w' v.ownBlock) (hB : base ≤ w.heap.size) (hv : ∀ k, v.ownBlock = some k → base ≤ k) : Below base w w' :=
  (Below.refl base w).grown hg hB hv

theorem ownsRow_grown {base base' e size n : Nat} {w w' : World} {v : Value} {xs : List Value} {r : Option Nat} (h : w.ownsRow base e size v n xs) (hg : w.grownBy w' r) (hr : ∀ k, r = some k → base' ≤ k) (hlt : ∀ k, v.ownBlock = some k → k < base') : w'.ownsRow base e size v n xs :=
  h.kept hg (by
    cases hv : v.ownBlock with
    | none => exact .inl rfl
    | some k => exact .inr (fun e => by have := hr k e.symm; have := hlt k hv; omega))

/-- One element that was just laid in a block of its own. -/
theorem src_new {w : World} {T : TypeId} {cs : Array Value} {n g : Nat} (hn : cs.size = n) (hg : g = w.heap.size) : Src (w.alloc (.cells cs T)) (.slice (some ⟨g, 0, none⟩) 1 1) n 1 cs.toList := by
  subst hg
  refine ⟨some ⟨w.heap.size, 0, none⟩, 1, rfl, by simp [hn], fun h => (by cases h), fun ad had j u hu => ?_⟩
  cases had
  rw [addr_add, World.cell?_alloc_at _ _ _ _ rfl]
  simpa using hu

theorem own_mono {w : World} {b b' e size n : Nat} {v : Value} {xs : List Value} (h : w.ownsRow b e size v n xs) (hb : b' ≤ b) : w.ownsRow b' e size v n xs := by
  obtain ⟨h1, h2⟩ := h
  refine ⟨h1, ?_⟩
  rcases h2 with h2 | ⟨g, cap, cur, hv, hg, r⟩
  · exact .inl h2
  · exact .inr ⟨g, cap, cur, hv, by omega, r⟩

theorem own_below {w w' : World} {b e size n : Nat} {v : Value} {xs : List Value} (h : w.ownsRow b e size v n xs) (hb : Below w.heap.size w w') : w'.ownsRow b e size v n xs := by
  refine ⟨h.1, ?_⟩
  rcases h.2 with h2 | ⟨g, cap, cur, hv, hg, hh, r⟩
  · exact .inl h2
  · exact .inr ⟨g, cap, cur, hv, hg, by rw [hb.block g (Array.getElem?_eq_some_iff.1 hh).1]; exact hh, r⟩

/-- An owned row stays while a block below its base is written. -/
theorem own_keptBelow {w w' : World} {b e size n r : Nat} {v : Value} {xs : List Value} (h : w.ownsRow b e size v n xs) (hg : w.grownBy w' (some r)) (hr : r < b) : w'.ownsRow b e size v n xs :=
  h.kept hg (by
    cases hv : v.ownBlock with
    | none => exact .inl rfl
    | some k => exact .inr (fun e => by have := (h.lt k hv).1; cases e; omega))
end Go.Proofs.Ytdkkpkgfiodlbaa

/- Words on readable slices of whatever elements, and from the row's own reading of an argument to them. Names no program. -/
namespace Go.Proofs.Ytdkkpkgfiodlbaa
open Go.RowKit
open Go.ChangeShapes Go.WideShapes
/-- The slice value v reads as the list xs: each element of n cells, which read by E. -/
def RdS {α : Type} (n : Nat) (E : World → List Value → α → Prop) (w : World) (v : Value) (xs : List α) : Prop :=
  ∃ a len cap, v = .slice a len cap ∧ len = xs.length ∧ xs.length ≤ 9223372036854775807 ∧ len ≤ cap ∧ (a = none → len = 0 ∧ cap = 0) ∧
    ∀ j x, xs[j]? = some x → ∃ b off cs, a = some ⟨b, off, none⟩ ∧ cs.length = n ∧ (∀ i u, cs[i]? = some u → w.cell? ⟨b, off + (j * n + i), none⟩ = some u) ∧ E w cs x

theorem list_of {α : Type} {Q : Nat → α → Prop} (n : Nat) (h : ∀ i, i < n → ∃ x, Q i x) : ∃ xs : List α, xs.length = n ∧ ∀ i x, xs[i]? = some x → Q i x := by
  induction n with
  | zero => exact ⟨[], rfl, fun i x hx => by simp at hx⟩
  | succ n ih =>
    obtain ⟨xs, hl, hx⟩ := ih fun i hi => h i (by omega)
    obtain ⟨y, hy⟩ := h n (by omega)
    refine ⟨xs ++ [y], by simp [hl], fun i x hi => ?_⟩
    by_cases hlt : i < xs.length
    · rw [List.getElem?_append_left hlt] at hi; exact hx i x hi
    · rw [List.getElem?_append_right (by omega)] at hi
      have : i = n := by
        have := (List.getElem?_eq_some_iff.1 hi).1; simp at this; omega
      subst this
      simp [hl] at hi
      subst hi; exact hy

theorem addr_flat {w : World} {x : Addr} {u : Value} (h : w.cell? x = some u) : x = ⟨x.block, x.off, none⟩ := by
  obtain ⟨b, o, s⟩ := x
  cases s with
  | none => rfl
  | some s => unfold World.cell? at h; split at h <;> simp_all

theorem mapM_some {α β : Type} {f : α → Option β} : ∀ {l : List α} {r : List β}, l.mapM f = some r → r.length = l.length ∧ ∀ (i : Nat) a b, l[i]? = some a → r[i]? = some b → f a = some b
  | [], r, h => by simp at h; subst h; exact ⟨rfl, fun i a b h => by simp at h⟩
  | x :: l, r, h => by
    rw [List.mapM_cons] at h
    cases hx : f x with
    | none => simp [hx] at h
    | some y =>
      cases hl : l.mapM f with
      | none => simp [hx, hl] at h
      | some ys =>
        simp [hx, hl] at h
        subst h
        obtain ⟨h1, h2⟩ := mapM_some hl
        refine ⟨by simp [h1], fun i a b ha hb => ?_⟩
        cases i with
        | zero => simp at ha hb; subst ha hb; exact hx
        | succ i => exact h2 i a b (by simpa using ha) (by simpa using hb)

theorem cells_at {w : World} {a : Addr} {n : Nat} {cs : List Value} (h : w.cells? 0 a n = some cs) : cs.length = n ∧ ∀ i u, cs[i]? = some u → w.cell? (a.add i) = some u := by
  unfold World.cells? at h
  rw [if_pos (Nat.zero_le _)] at h
  obtain ⟨h1, h2⟩ := mapM_some h
  have hl : cs.length = n := by simpa using h1
  refine ⟨hl, fun i u hu => h2 i i u ?_ hu⟩
  have := (List.getElem?_eq_some_iff.1 hu).1
  rw [List.getElem?_range (by omega)]

theorem rds_of_trod {α H : Type} {enc : TypeId × Value → H} {P : Program} {w : World} {spare : Nat → Bool} {held : Bool} {t e : TypeId} {fuel n : Nat} {v : Value} {x : DataW H × List MemPlace} {E : World → List Value → α → Prop}
    (ht : P.underlying t = some (.slice e)) (hn : P.cellsOf e = n) (h0 : 0 < n) (h : DataW.trod enc P w 0 spare held fuel t [v] = some x)
    (hE : ∀ m cs y, cs.length = n → DataW.trod enc P w 0 spare held m e cs = some y → ∃ a, E w cs a) : ∃ xs, RdS n E w v xs := by
  rcases Deep.open_slice ht h with ⟨hcs, _⟩ | ⟨a, len, cap, m, k, D, Pl, hcs, _, hlc, hcm, hm, _, hel⟩
  · cases hcs
    exact ⟨[], none, 0, 0, rfl, rfl, by simp, Nat.le_refl _, fun _ => ⟨rfl, rfl⟩, fun j x hj => by simp at hj⟩
  · cases hcs
    have hlm : len ≤ m := by rw [hm]; split <;> omega
    obtain ⟨xs, hxl, hx⟩ := list_of (α := α) (Q := fun i x => ∃ cs, w.cells? 0 (a.add (i * n)) n = some cs ∧ E w cs x) len (fun i hi => by
      obtain ⟨cs, h1, h2⟩ := hel i (by omega)
      rw [hn] at h1
      have hl : cs.length = n := (cells_at h1).1
      obtain ⟨y, hy⟩ := hE _ _ _ hl h2
      exact ⟨y, cs, h1, hy⟩)
    refine ⟨xs, some a, len, cap, rfl, hxl.symm, by simp only [maxLen] at hcm; omega, hlc, fun h => (by cases h), fun j x hj => ?_⟩
    obtain ⟨cs, h1, h2⟩ := hx j x hj
    obtain ⟨hl, hc⟩ := cells_at h1
    have hlt : j < len := by rw [← hxl]; exact (List.getElem?_eq_some_iff.1 hj).1
    have ha : a = ⟨a.block, a.off, none⟩ := by
      obtain ⟨cs0, h0', _⟩ := hel 0 (by omega)
      rw [hn, Nat.zero_mul] at h0'
      obtain ⟨hl0, hc0⟩ := cells_at h0'
      exact addr_flat (hc0 0 cs0[0] (List.getElem?_eq_getElem (by omega)))
    refine ⟨a.block, a.off, cs, by rw [← ha], hl, fun i u hu => ?_, h2⟩
    have := hc i u hu
    rw [ha, addr_add, addr_add, Nat.add_assoc] at this
    exact this

theorem RdS.below {α : Type} {n : Nat} {E : World → List Value → α → Prop} {w w' : World} {v : Value} {xs : List α} (h : RdS n E w v xs) (hb : Below w.heap.size w w') (hE : ∀ cs x, E w cs x → E w' cs x) : RdS n E w' v xs := by
  obtain ⟨a, len, cap, h1, h2, h3, h4, h5, h6⟩ := h
  refine ⟨a, len, cap, h1, h2, h3, h4, h5, fun j x hj => ?_⟩
  obtain ⟨b, off, cs, ha, hl, hc, he⟩ := h6 j x hj
  exact ⟨b, off, cs, ha, hl, fun i u hu => cell_later hb (hc i u hu), hE _ _ he⟩

/-- A slice of bools. -/
def EB (_ : World) (cs : List Value) (b : Bool) : Prop := cs = [.bool b]
abbrev RdB (w : World) (v : Value) (bs : List Bool) : Prop := RdS 1 EB w v bs

theorem RdB.at {w : World} {v : Value} {bs : List Bool} (h : RdB w v bs) : ∃ a len cap, v = .slice a len cap ∧ len = bs.length ∧ bs.length ≤ 9223372036854775807 ∧ ∀ j x, bs[j]? = some x → ∃ b off, a = some ⟨b, off, none⟩ ∧ w.cell? ⟨b, off + j, none⟩ = some (.bool x) := by
  obtain ⟨a, len, cap, h1, h2, h3, h4, h5, h6⟩ := h
  refine ⟨a, len, cap, h1, h2, h3, fun j x hj => ?_⟩
  obtain ⟨b, off, cs, ha, hl, hc, rfl⟩ := h6 j x hj
  exact ⟨b, off, ha, by have := hc 0 _ rfl; simpa using this⟩

theorem RdB.later {w w' : World} {v : Value} {bs : List Bool} (h : RdB w v bs) (hb : Below w.heap.size w w') : RdB w' v bs := RdS.below h hb fun _ _ h => h

theorem rdb_of_trod {H : Type} {enc : TypeId × Value → H} {P : Program} {w : World} {spare : Nat → Bool} {held : Bool} {t e : TypeId} {v : Value} {d : DataW H} {ps : List MemPlace}
    (ht : P.underlying t = some (.slice e)) (hu : P.underlying e = some .bool) (hn : P.cellsOf e = 1) (a : Option Addr) (l c : Nat) (hv : v = .slice a l c) (h : DataW.Trod enc P w 0 spare held t v d ps) : ∃ bs, RdB w v bs := by
  obtain ⟨fuel, hf⟩ := h
  subst hv
  refine rds_of_trod ht hn (by omega) hf fun m cs y _ hy => ?_
  obtain ⟨b, rfl, _⟩ := DataW.trod_bool hu hy
  exact ⟨b, rfl⟩

/-- An integer of 64 bits, with its bounds. -/
def EInt (_ : World) (cs : List Value) (n : Int) : Prop := cs = [.int .i64 n] ∧ -9223372036854775808 ≤ n ∧ n ≤ 9223372036854775807

theorem wf_i64 {n : Int} (h : (Lit.int .i64 n).wf = true) : -9223372036854775808 ≤ n ∧ n ≤ 9223372036854775807 := by
  simp [Lit.wf, IntKind.min, IntKind.max, IntKind.signed, IntKind.bits] at h; omega

theorem rdsi_of_trod {H : Type} {enc : TypeId × Value → H} {P : Program} {w : World} {spare : Nat → Bool} {held : Bool} {t e : TypeId} {v : Value} {d : DataW H} {ps : List MemPlace}
    (ht : P.underlying t = some (.slice e)) (hu : P.underlying e = some (.int .i64)) (hn : P.cellsOf e = 1) (hv : ∃ a l c, v = .slice a l c) (h : DataW.Trod enc P w 0 spare held t v d ps) : ∃ xs, RdS 1 EInt w v xs := by
  obtain ⟨fuel, hf⟩ := h
  obtain ⟨a, l, c, rfl⟩ := hv
  refine rds_of_trod ht hn (by omega) hf fun m cs y _ hy => ?_
  obtain ⟨n, rfl, _, hw⟩ := DataW.trod_int hu hy
  exact ⟨n, rfl, wf_i64 hw⟩

theorem rdsb_of_trod {H : Type} {enc : TypeId × Value → H} {P : Program} {w : World} {spare : Nat → Bool} {held : Bool} {t e : TypeId} {v : Value} {d : DataW H} {ps : List MemPlace}
    (ht : P.underlying t = some (.slice e)) (hu : P.underlying e = some .bool) (hn : P.cellsOf e = 1) (hv : ∃ a l c, v = .slice a l c) (h : DataW.Trod enc P w 0 spare held t v d ps) : ∃ bs, RdB w v bs := by
  obtain ⟨a, l, c, rfl⟩ := hv
  exact rdb_of_trod ht hu hn a l c rfl h
end Go.Proofs.Ytdkkpkgfiodlbaa

/- Bits in bytes, numbers in bits: plain. Names no program. -/
namespace Go.Proofs.Ytdkkpkgfiodlbaa
/-- A bit of a list, nought behind its end. -/
def btv (L : List Bool) (i : Nat) : Nat := if L[i]? = some true then 1 else 0
theorem btv_le (L : List Bool) (i : Nat) : btv L i ≤ 1 := by unfold btv; split <;> omega
theorem btv_past {L : List Bool} {i : Nat} (h : L.length ≤ i) : btv L i = 0 := by unfold btv; rw [List.getElem?_eq_none h]; rfl
theorem btv_snoc (L : List Bool) (x : Bool) (i : Nat) : btv (L ++ [x]) i = if i = L.length then (if x then 1 else 0) else btv L i := by
  unfold btv
  by_cases h : i = L.length
  · subst h; simp
  · by_cases h2 : i < L.length
    · rw [List.getElem?_append_left h2, if_neg h]
    · rw [List.getElem?_eq_none (by simp; omega), List.getElem?_eq_none (by omega), if_neg h]
theorem btv_append_left {L M : List Bool} {i : Nat} (h : i < L.length) : btv (L ++ M) i = btv L i := by unfold btv; rw [List.getElem?_append_left h]
/-- Eight bits. -/
def btByte (L : List Bool) (j : Nat) : Nat := 128 * btv L (8 * j) + 64 * btv L (8 * j + 1) + 32 * btv L (8 * j + 2) + 16 * btv L (8 * j + 3) + 8 * btv L (8 * j + 4) + 4 * btv L (8 * j + 5) + 2 * btv L (8 * j + 6) + btv L (8 * j + 7)
theorem btByte_lt (L : List Bool) (j : Nat) : btByte L j < 256 := by
  unfold btByte
  have h := fun i => btv_le L (8 * j + i)
  have h0 := btv_le L (8 * j)
  have := h 1; have := h 2; have := h 3; have := h 4; have := h 5; have := h 6; have := h 7
  omega
theorem btByte_other {L : List Bool} {x : Bool} {j : Nat} (h : L.length / 8 ≠ j) : btByte (L ++ [x]) j = btByte L j := by
  unfold btByte
  have e : ∀ i, i < 8 → btv (L ++ [x]) (8 * j + i) = btv L (8 * j + i) := fun i hi => by rw [btv_snoc, if_neg (by omega)]
  have e0 : btv (L ++ [x]) (8 * j) = btv L (8 * j) := e 0 (by omega)
  rw [e0, e 1 (by omega), e 2 (by omega), e 3 (by omega), e 4 (by omega), e 5 (by omega), e 6 (by omega), e 7 (by omega)]
theorem or_bit : ∀ k, k < 8 → ∀ m, m < 2 ^ k → ((m * 2 ^ (8 - k)) ||| 2 ^ (7 - k)) = m * 2 ^ (8 - k) + 2 ^ (7 - k) := by decide
/-- The byte at the end is a multiple of what its missing bits are worth. -/
theorem btByte_mul {L : List Bool} {j k : Nat} (h : L.length = 8 * j + k) (hk : k < 8) : ∃ m, m < 2 ^ k ∧ btByte L j = m * 2 ^ (8 - k) := by
  have z : ∀ i, k ≤ i → btv L (8 * j + i) = 0 := fun i hi => btv_past (by omega)
  have o : ∀ i, btv L (8 * j + i) ≤ 1 := fun i => btv_le _ _
  have o0 : btv L (8 * j) ≤ 1 := btv_le _ _
  unfold btByte
  rcases (show k = 0 ∨ k = 1 ∨ k = 2 ∨ k = 3 ∨ k = 4 ∨ k = 5 ∨ k = 6 ∨ k = 7 by omega) with rfl | rfl | rfl | rfl | rfl | rfl | rfl | rfl
  · have z0 : btv L (8 * j) = 0 := z 0 (by omega)
    rw [z0, z 1 (by omega), z 2 (by omega), z 3 (by omega), z 4 (by omega), z 5 (by omega), z 6 (by omega), z 7 (by omega)]
    exact ⟨0, by omega, by omega⟩
  · rw [z 1 (by omega), z 2 (by omega), z 3 (by omega), z 4 (by omega), z 5 (by omega), z 6 (by omega), z 7 (by omega)]
    exact ⟨btv L (8 * j), by omega, by omega⟩
  · rw [z 2 (by omega), z 3 (by omega), z 4 (by omega), z 5 (by omega), z 6 (by omega), z 7 (by omega)]
    exact ⟨2 * btv L (8 * j) + btv L (8 * j + 1), by have := o 1; omega, by omega⟩
  · rw [z 3 (by omega), z 4 (by omega), z 5 (by omega), z 6 (by omega), z 7 (by omega)]
    exact ⟨4 * btv L (8 * j) + 2 * btv L (8 * j + 1) + btv L (8 * j + 2), by have := o 1; have := o 2; omega, by omega⟩
  · rw [z 4 (by omega), z 5 (by omega), z 6 (by omega), z 7 (by omega)]
    exact ⟨8 * btv L (8 * j) + 4 * btv L (8 * j + 1) + 2 * btv L (8 * j + 2) + btv L (8 * j + 3), by have := o 1; have := o 2; have := o 3; omega, by omega⟩
  · rw [z 5 (by omega), z 6 (by omega), z 7 (by omega)]
    exact ⟨16 * btv L (8 * j) + 8 * btv L (8 * j + 1) + 4 * btv L (8 * j + 2) + 2 * btv L (8 * j + 3) + btv L (8 * j + 4), by have := o 1; have := o 2; have := o 3; have := o 4; omega, by omega⟩
  · rw [z 6 (by omega), z 7 (by omega)]
    exact ⟨32 * btv L (8 * j) + 16 * btv L (8 * j + 1) + 8 * btv L (8 * j + 2) + 4 * btv L (8 * j + 3) + 2 * btv L (8 * j + 4) + btv L (8 * j + 5), by have := o 1; have := o 2; have := o 3; have := o 4; have := o 5; omega, by omega⟩
  · rw [z 7 (by omega)]
    exact ⟨64 * btv L (8 * j) + 32 * btv L (8 * j + 1) + 16 * btv L (8 * j + 2) + 8 * btv L (8 * j + 3) + 4 * btv L (8 * j + 4) + 2 * btv L (8 * j + 5) + btv L (8 * j + 6), by have := o 1; have := o 2; have := o 3; have := o 4; have := o 5; have := o 6; omega, by omega⟩
theorem btByte_snoc {L : List Bool} {x : Bool} {j k : Nat} (h : L.length = 8 * j + k) (hk : k < 8) : btByte (L ++ [x]) j = btByte L j ||| ((if x then 1 else 0) * 2 ^ (7 - k)) := by
  obtain ⟨m, hm, he⟩ := btByte_mul h hk
  have hor : (btByte L j ||| ((if x then 1 else 0) * 2 ^ (7 - k))) = btByte L j + (if x then 1 else 0) * 2 ^ (7 - k) := by
    cases x
    · simp
    · simp only [if_true, Nat.one_mul]; rw [he]; exact or_bit k hk m hm
  rw [hor]
  unfold btByte
  have hz : btv L (8 * j + k) = 0 := btv_past (by omega)
  have e : ∀ i, i ≠ k → btv (L ++ [x]) (8 * j + i) = btv L (8 * j + i) := fun i hi => by rw [btv_snoc, if_neg (by omega)]
  have ek : btv (L ++ [x]) (8 * j + k) = if x then 1 else 0 := by rw [btv_snoc, if_pos (by omega)]
  rcases (show k = 0 ∨ k = 1 ∨ k = 2 ∨ k = 3 ∨ k = 4 ∨ k = 5 ∨ k = 6 ∨ k = 7 by omega) with rfl | rfl | rfl | rfl | rfl | rfl | rfl | rfl
  · have ek' : btv (L ++ [x]) (8 * j) = if x then 1 else 0 := ek
    have hz' : btv L (8 * j) = 0 := hz
    rw [ek', hz', e 1 (by omega), e 2 (by omega), e 3 (by omega), e 4 (by omega), e 5 (by omega), e 6 (by omega), e 7 (by omega)]; omega
  all_goals
    have e0 : btv (L ++ [x]) (8 * j) = btv L (8 * j) := e 0 (by omega)
    rw [e0, ek, hz]
    try rw [e 1 (by omega)]
    try rw [e 2 (by omega)]
    try rw [e 3 (by omega)]
    try rw [e 4 (by omega)]
    try rw [e 5 (by omega)]
    try rw [e 6 (by omega)]
    try rw [e 7 (by omega)]
    omega

/-- The bytes of a list of bits, noughts up to the end of the last one. -/
def btBytes (L : List Bool) : List Nat := (List.range ((L.length + 7) / 8)).map (btByte L)
theorem btBytes_length (L : List Bool) : (btBytes L).length = (L.length + 7) / 8 := by simp [btBytes]
theorem btBytes_at {L : List Bool} {j : Nat} (h : j < (L.length + 7) / 8) : (btBytes L)[j]? = some (btByte L j) := by
  unfold btBytes; rw [List.getElem?_map, List.getElem?_range h]; rfl
/-- A bit behind a full last byte: a new byte. -/
theorem btBytes_new {L : List Bool} (h : L.length % 8 = 0) : ∀ x : Bool, btBytes (L ++ [x]) = (btBytes L ++ [0]).set (L.length / 8) ((if x then 1 else 0) * 128) := fun x => by
  have h8 : L.length = 8 * (L.length / 8) + 0 := by omega
  apply List.ext_getElem?
  intro j
  rw [List.getElem?_set]
  have hl : (btBytes L ++ [0]).length = L.length / 8 + 1 := by simp [btBytes_length]; omega
  by_cases hj : L.length / 8 = j
  · rw [if_pos hj, if_pos (by omega), btBytes_at (by simp; omega)]
    subst hj
    rw [btByte_snoc h8 (by omega)]
    have : btByte L (L.length / 8) = 0 := by
      obtain ⟨m, hm, he⟩ := btByte_mul h8 (by omega)
      rw [he]; simp at hm; subst hm; simp
    rw [this]; simp
  · rw [if_neg hj]
    by_cases hlt : j < L.length / 8
    · rw [btBytes_at (by simp; omega), btByte_other hj, List.getElem?_append_left (by simp [btBytes_length]; omega), btBytes_at (by omega)]
    · rw [List.getElem?_eq_none (by rw [btBytes_length]; simp; omega), List.getElem?_eq_none (by omega)]
/-- A bit into the last byte. -/
theorem btBytes_more {L : List Bool} (h : L.length % 8 ≠ 0) (x : Bool) : btBytes (L ++ [x]) = (btBytes L).set (L.length / 8) (btByte L (L.length / 8) ||| ((if x then 1 else 0) * 2 ^ (7 - L.length % 8))) := by
  have h8 : L.length = 8 * (L.length / 8) + L.length % 8 := by omega
  apply List.ext_getElem?
  intro j
  rw [List.getElem?_set]
  by_cases hj : L.length / 8 = j
  · rw [if_pos hj, if_pos (by rw [btBytes_length]; omega), btBytes_at (by simp; omega)]
    subst hj
    rw [btByte_snoc h8 (by omega)]
  · rw [if_neg hj]
    by_cases hlt : j < (L.length + 7) / 8
    · rw [btBytes_at (by simp; omega), btByte_other hj, btBytes_at hlt]
    · rw [List.getElem?_eq_none (by rw [btBytes_length]; simp; omega), List.getElem?_eq_none (by rw [btBytes_length]; omega)]

/-- The lowest n bits of a number, the highest of them first. -/
def putL (x : Nat) : Nat → List Bool
  | 0 => []
  | n + 1 => (x / 2 ^ n % 2 == 1) :: putL x n
theorem putL_length (x : Nat) : ∀ n, (putL x n).length = n
  | 0 => rfl
  | n + 1 => by simp [putL, putL_length x n]
end Go.Proofs.Ytdkkpkgfiodlbaa

/- Typed words on a map's block: MapT says that block b is a map that holds just the pairs of a list, each key once. Laws on lookup, store, delete and len. Names no program. -/
namespace Go.Proofs.Ytdkkpkgfiodlbaa
open Go.RowKit Go.MapKept
open Go.Maps (Keyed)
open Go.ChangeMaps (setBlock)
/-- Block b of w is a map whose entries are the pairs of L, keys by eK, elements by eV; each key once. -/
def MapT {κ ν : Type} (P : Program) (k : TypeId) (eK : κ → Value) (eV : ν → Value) (w : World) (b : Nat) (L : List (κ × ν)) : Prop :=
  ∃ es clock, w.heap[b]? = some (.map es clock) ∧ Stamped es clock ∧ (∀ x ∈ es.toList, ∃ kl, keyOf P k x.key = some kl) ∧ es.toList.map (fun x => (x.key, x.val)) = L.map (fun x => (eK x.1, eV x.2))

section lists
variable {κ ν : Type} [DecidableEq κ]
/-- What a list of pairs holds for a key. -/
def getM (L : List (κ × ν)) (x : κ) : Option ν := (L.find? (fun p => decide (p.1 = x))).map (·.2)
/-- The pairs behind a store. -/
def putM (L : List (κ × ν)) (x : κ) (v : ν) : List (κ × ν) := if (getM L x).isSome then L.map (fun p => if p.1 = x then (x, v) else p) else L ++ [(x, v)]
/-- The pairs behind a delete. -/
def delM (L : List (κ × ν)) (x : κ) : List (κ × ν) := L.filter (fun p => decide (p.1 ≠ x))

theorem getM_none {L : List (κ × ν)} {x : κ} : getM L x = none ↔ ∀ p ∈ L, p.1 ≠ x := by simp [getM]

theorem getM_some {L : List (κ × ν)} {x : κ} {v : ν} (h : getM L x = some v) : (x, v) ∈ L := by
  unfold getM at h
  rw [Option.map_eq_some_iff] at h
  obtain ⟨p, hp, rfl⟩ := h
  have h1 := List.mem_of_find?_eq_some hp
  have h2 := List.find?_some hp
  simp at h2
  subst h2
  exact h1

theorem getM_nil (x : κ) : getM ([] : List (κ × ν)) x = none := rfl

theorem getM_cons (p : κ × ν) (L : List (κ × ν)) (x : κ) : getM (p :: L) x = if p.1 = x then some p.2 else getM L x := by
  unfold getM; rw [List.find?_cons]; by_cases h : p.1 = x <;> simp [h]

theorem getM_append (L M : List (κ × ν)) (x : κ) : getM (L ++ M) x = (getM L x).or (getM M x) := by
  induction L with
  | nil => simp [getM_nil]
  | cons p L ih => rw [List.cons_append, getM_cons, getM_cons]; split <;> simp [ih]

theorem getM_map_put (L : List (κ × ν)) (x y : κ) (v : ν) : getM (L.map (fun p => if p.1 = x then (x, v) else p)) y = if x = y then (getM L x).map (fun _ => v) else getM L y := by
  induction L with
  | nil => by_cases h : x = y <;> simp [getM_nil, h]
  | cons p L ih =>
    rw [List.map_cons, getM_cons, ih, getM_cons, getM_cons]
    by_cases h : x = y
    · subst h
      by_cases hp : p.1 = x <;> simp [hp]
    · by_cases hp : p.1 = x
      · simp [hp, h]
      · simp [hp, h]

theorem getM_put (L : List (κ × ν)) (x y : κ) (v : ν) : getM (putM L x v) y = if x = y then some v else getM L y := by
  unfold putM
  split
  · rename_i h
    rw [getM_map_put]
    by_cases hxy : x = y
    · subst hxy
      obtain ⟨u, hu⟩ := Option.isSome_iff_exists.1 h
      simp [hu]
    · simp [hxy]
  · rename_i h
    rw [getM_append, getM_cons, getM_nil]
    by_cases hxy : x = y
    · subst hxy
      simp at h; simp [h]
    · simp [hxy]

theorem putM_length (L : List (κ × ν)) (x : κ) (v : ν) : (putM L x v).length = L.length + if (getM L x).isSome then 0 else 1 := by
  unfold putM; split <;> simp

theorem getM_del (L : List (κ × ν)) (x y : κ) : getM (delM L x) y = if x = y then none else getM L y := by
  unfold delM
  induction L with
  | nil => simp [getM_nil]
  | cons p L ih =>
    rw [List.filter_cons]
    by_cases hp : p.1 = x
    · simp only [hp, ne_eq, not_true_eq_false, decide_false, Bool.false_eq_true, if_false]
      rw [ih, getM_cons]
      by_cases hxy : x = y
      · simp [hxy]
      · simp [hp, hxy]
    · simp only [hp, ne_eq, not_false_eq_true, decide_true, if_true]
      rw [getM_cons, getM_cons, ih]
      by_cases hxy : x = y
      · subst hxy; simp [hp]
      · simp [hxy]
end lists
section laws0
variable {κ ν : Type} {P : Program} {k e t : TypeId} {eK : κ → Value} {eV : ν → Value} {w : World} {b : Nat} {L : List (κ × ν)}

theorem MapT.lt (h : MapT P k eK eV w b L) : b < w.heap.size := by
  obtain ⟨es, clock, hb, _⟩ := h; exact (Array.getElem?_eq_some_iff.1 hb).1

theorem MapT.frame {w' : World} (h : MapT P k eK eV w b L) (hw : w'.heap[b]? = w.heap[b]?) : MapT P k eK eV w' b L := by
  obtain ⟨es, clock, hb, r⟩ := h; exact ⟨es, clock, hw.trans hb, r⟩

theorem MapT.below {w' : World} {B : Nat} (h : MapT P k eK eV w b L) (hw : Below B w w') (hb : b < B) : MapT P k eK eV w' b L := h.frame (hw.block b hb)

theorem MapT.kept {w' : World} {row : Option Nat} (h : MapT P k eK eV w b L) (hg : w.grownBy w' row) (hne : some b ≠ row) : MapT P k eK eV w' b L :=
  h.frame (hg.block b h.lt hne)

theorem MapT.made (w : World) : MapT P k eK eV (w.alloc (.map #[] 0)) w.heap.size ([] : List (κ × ν)) :=
  ⟨#[], 0, (MapKept.heap_alloc w _).1, stamped_empty 0, by simp, rfl⟩

theorem MapT.size (h : MapT P k eK eV w b L) : ∃ es clock, w.heap[b]? = some (.map es clock) ∧ es.size = L.length := by
  obtain ⟨es, clock, hb, _, _, hL⟩ := h
  refine ⟨es, clock, hb, ?_⟩
  have := congrArg List.length hL
  simpa using this
end laws0
section laws
variable {κ ν : Type} [DecidableEq κ] {P : Program} {k e t : TypeId} {eK : κ → Value} {eV : ν → Value} {w : World} {b : Nat} {L : List (κ × ν)}
/-- Where a key stands among the entries. -/
theorem MapT.find (hK : Keyed P k) (hinj : ∀ x y, eK x = eK y → x = y) (h : MapT P k eK eV w b L) (x : κ) {kl : Lit} (hx : keyOf P k (eK x) = some kl) :
    ∃ es clock, w.heap[b]? = some (.map es clock) ∧ Stamped es clock ∧ (∀ y ∈ es.toList, ∃ kl, keyOf P k y.key = some kl) ∧ es.toList.map (fun y => (y.key, y.val)) = L.map (fun y => (eK y.1, eV y.2)) ∧
      ((∀ w, (Instr.findKey k (eK x) es.toList).run P w = .ok none w) ∧ getM L x = none ∧ (∀ y ∈ es.toList, y.key ≠ eK x) ∨
       ∃ j e0 v, (∀ w, (Instr.findKey k (eK x) es.toList).run P w = .ok (some (j, e0.val)) w) ∧ es.toList[j]? = some e0 ∧ e0.key = eK x ∧ L[j]? = some (x, v) ∧ e0.val = eV v ∧ getM L x = some v ∧ ∀ i p, L[i]? = some p → p.1 = x → i = j) := by
  obtain ⟨es, clock, hb, hs, hk, hL⟩ := h
  refine ⟨es, clock, hb, hs, hk, hL, ?_⟩
  have key : ∀ w1, ((Instr.findKey k (eK x) es.toList).run P w1 = .ok none w1 ∧ ∀ y ∈ es.toList, y.key ≠ eK x) ∨ ∃ j e0, (Instr.findKey k (eK x) es.toList).run P w1 = .ok (some (j, e0.val)) w1 ∧ es.toList[j]? = some e0 ∧ e0.key = eK x := fun w1 => hK.find w1 hx es.toList hk
  have uniq : ∀ (i j : Nat) (a c : MapEntry), es.toList[i]? = some a → es.toList[j]? = some c → a.key = c.key → i = j := by
    intro i j a c hi hj hac
    have hn := List.pairwise_iff_getElem.1 ((stamped_iff es clock).1 hs).2.2
    obtain ⟨hi1, hi2⟩ := List.getElem?_eq_some_iff.1 hi
    obtain ⟨hj1, hj2⟩ := List.getElem?_eq_some_iff.1 hj
    rcases Nat.lt_trichotomy i j with hlt | rfl | hlt
    · exact absurd (by rw [hi2, hj2]; exact hac) (hn i j hi1 hj1 hlt)
    · rfl
    · exact absurd (by rw [hi2, hj2]; exact hac.symm) (hn j i hj1 hi1 hlt)
  rcases key w with ⟨h1, h2⟩ | ⟨j, e0, h1, h2, h3⟩
  · refine .inl ⟨fun w1 => ?_, ?_, h2⟩
    · rcases key w1 with ⟨h, _⟩ | ⟨j, e0, _, h2', h3'⟩
      · exact h
      · exact absurd h3' (h2 e0 (List.mem_of_getElem? h2'))
    · rw [getM_none]
      intro p hp hpx
      obtain ⟨i, hi⟩ := List.mem_iff_getElem?.1 hp
      have : (L.map (fun y => (eK y.1, eV y.2)))[i]? = some (eK p.1, eV p.2) := by simp [hi]
      rw [← hL, List.getElem?_map] at this
      cases hes : es.toList[i]? with
      | none => simp [hes] at this
      | some a =>
        simp only [hes, Option.map_some, Option.some.injEq, Prod.mk.injEq] at this
        exact h2 a (List.mem_of_getElem? hes) (by rw [this.1, hpx])
  · have hLj : ∃ v, L[j]? = some (x, v) ∧ e0.val = eV v := by
      have : (es.toList.map (fun y => (y.key, y.val)))[j]? = some (e0.key, e0.val) := by simp [h2]
      rw [hL, List.getElem?_map] at this
      cases hl : L[j]? with
      | none => simp [hl] at this
      | some p =>
        simp only [hl, Option.map_some, Option.some.injEq, Prod.mk.injEq] at this
        have hp : p.1 = x := hinj _ _ (this.1.trans h3)
        exact ⟨p.2, by rw [← hp], this.2.symm⟩
    obtain ⟨v, hv1, hv2⟩ := hLj
    have huniq : ∀ i p, L[i]? = some p → p.1 = x → i = j := by
      intro i p hi hpx
      have : (L.map (fun y => (eK y.1, eV y.2)))[i]? = some (eK p.1, eV p.2) := by simp [hi]
      rw [← hL, List.getElem?_map] at this
      cases hes : es.toList[i]? with
      | none => simp [hes] at this
      | some a =>
        simp only [hes, Option.map_some, Option.some.injEq, Prod.mk.injEq] at this
        exact uniq i j a e0 hes h2 (by rw [this.1, hpx, h3])
    refine .inr ⟨j, e0, v, fun w1 => ?_, h2, h3, hv1, hv2, ?_, huniq⟩
    · rcases key w1 with ⟨_, h⟩ | ⟨j', e0', h, h2', h3'⟩
      · exact absurd h3 (h e0 (List.mem_of_getElem? h2))
      · have := uniq j' j e0' e0 h2' h2 (h3'.trans h3.symm)
        subst this
        rw [h2] at h2'; cases h2'
        exact h
    · cases hg : getM L x with
      | none => exact absurd rfl (getM_none.1 hg (x, v) (List.mem_of_getElem? hv1))
      | some u =>
        obtain ⟨i, hi⟩ := List.mem_iff_getElem?.1 (getM_some hg)
        have := huniq i _ hi rfl
        subst this
        rw [hv1] at hi; cases hi; rfl

/-- m[x] and m[x] with ok. -/
theorem MapT.lookup (hK : Keyed P k) (hinj : ∀ x y, eK x = eK y → x = y) (ht : P.underlying t = some (.map k e)) (h : MapT P k eK eV w b L) (x : κ) {kl : Lit} (hx : keyOf P k (eK x) = some kl) {z : Value} (hz : (zeroValue e).run P w = .ok z w) :
    (Instr.lookup t (.map (some b)) (eK x) false).run P w = .ok (((getM L x).map eV).getD z) w ∧ (Instr.lookup t (.map (some b)) (eK x) true).run P w = .ok (.tuple #[((getM L x).map eV).getD z, .bool (getM L x).isSome]) w := by
  obtain ⟨es, clock, hb, _, _, _, h1 | ⟨j, e0, v, h1, h2, h3, h4, h5, h6, _⟩⟩ := h.find hK hinj x hx
  · constructor <;> simp [Instr.lookup, run_underlying ht, MapKept.run_getObj_map hb, hK.check w _ hx, h1.1 w, hz, Result.andThen, h1.2.1]
  · constructor <;> simp [Instr.lookup, run_underlying ht, MapKept.run_getObj_map hb, hK.check w _ hx, h1 w, Result.andThen, h6, h5]

/-- m[x] = v. -/
theorem MapT.update (hK : Keyed P k) (hinj : ∀ x y, eK x = eK y → x = y) (ht : P.underlying t = some (.map k e)) (h : MapT P k eK eV w b L) (x : κ) {kl : Lit} (hx : keyOf P k (eK x) = some kl) (v : ν) :
    ∃ w', (Instr.mapUpdate t (.map (some b)) (eK x) (eV v)).run P w = .ok () w' ∧ MapT P k eK eV w' b (putM L x v) ∧ w.grownBy w' (some b) := by
  obtain ⟨es, clock, hb, hs, hk, hL, h1 | ⟨j, e0, u, h1, h2, h3, h4, h5, h6, hu⟩⟩ := h.find hK hinj x hx
  · refine ⟨setBlock w b (.map (es.push ⟨eK x, eV v, clock⟩) (clock + 1)), ?_, ⟨_, _, ChangeMaps.heap_setBlock_same hb _, stamped_push hs h1.2.2, ?_, ?_⟩, ⟨rfl, rfl, rfl, by simp [setBlock], fun i _ hi => ChangeMaps.heap_setBlock_other hb _ (fun e => hi (by rw [e]))⟩⟩
    · simp [Instr.mapUpdate, run_underlying ht, MapKept.run_getObj_map hb, hK.check w false hx, h1.1 w, MapKept.run_setObj_map _ hb, Result.andThen, setBlock]
    · intro y hy
      simp only [Array.toList_push, List.mem_append, List.mem_singleton] at hy
      rcases hy with hy | rfl
      · exact hk y hy
      · exact ⟨kl, hx⟩
    · have : putM L x v = L ++ [(x, v)] := by unfold putM; rw [h1.2.1]; rfl
      rw [this, List.map_append, ← hL]; simp
  · have hj : es[j]? = some e0 := by simpa using h2
    have hlist : (es.modify j (fun e' => { e' with key := eK x, val := eV v })).toList = es.toList.set j { e0 with key := eK x, val := eV v } := by
      rw [Array.toList_modify, ChangeMaps.modify_eq_set _ _ _ _ h2]
    have hkeyf : ∀ e', es[j]? = some e' → ({ e' with key := eK x, val := eV v } : MapEntry).key = e'.key := fun e' he' => by rw [hj] at he'; cases he'; exact h3.symm
    refine ⟨setBlock w b (.map (es.modify j (fun e' => { e' with key := eK x, val := eV v })) clock), ?_, ⟨_, _, ChangeMaps.heap_setBlock_same hb _, stamped_modify hs _ _ (fun _ _ => rfl) (fun e' _ he' => hkeyf e' he'), ?_, ?_⟩, ⟨rfl, rfl, rfl, by simp [setBlock], fun i _ hi => ChangeMaps.heap_setBlock_other hb _ (fun e => hi (by rw [e]))⟩⟩
    · simp [Instr.mapUpdate, run_underlying ht, MapKept.run_getObj_map hb, hK.check w false hx, h1 w, hj, h3, hK.stays w hx, MapKept.run_setObj_map _ hb, Result.andThen, setBlock]
    · intro y hy
      rw [hlist] at hy
      rcases List.mem_or_eq_of_mem_set hy with hy | rfl
      · exact hk y hy
      · exact ⟨kl, hx⟩
    · have hp : putM L x v = L.map (fun p => if p.1 = x then (x, v) else p) := by unfold putM; rw [h6]; rfl
      rw [hp, hlist, List.map_set, hL]
      apply List.ext_getElem?
      intro i
      rw [List.getElem?_set, List.getElem?_map, List.getElem?_map, List.getElem?_map]
      by_cases hij : j = i
      · subst hij
        obtain ⟨hjl, hje⟩ := List.getElem?_eq_some_iff.1 h4
        simp [hjl, hje]
      · simp only [hij, if_false]
        cases hl : L[i]? with
        | none => rfl
        | some p =>
          have : ¬ p.1 = x := fun e => hij (hu i p hl e).symm
          simp [this]

/-- m[x] = v at the operation, for the walk. -/
theorem wpList_mapUpdate_T {ops : Array Oper} {rest : List Oper} {o : Oper} {a : Act} {Q : Exit → Act → World → Prop} (hg : o.guard = none) (m x v : Operand) (hop : o.op = Op.mapUpdate t m x v)
    (hK : Keyed P k) (hinj : ∀ x y, eK x = eK y → x = y) (ht : P.underlying t = some (.map k e)) (hT : MapT P k eK eV w b L) (hm : a.eval m = .map (some b)) (key : κ) {kl : Lit} (hkl : keyOf P k (eK key) = some kl) (hx : a.eval x = eK key)
    (val : ν) (hv : a.eval v = eV val) (h : ∀ w', MapT P k eK eV w' b (putM L key val) → w.grownBy w' (some b) → wpList P ops Q rest (a.put o.dst undef) w') :
    wpList P ops Q (o :: rest) a w := by
  refine wpList_plain hg fun K' hK' => ?_
  obtain ⟨w', hrun, r1, r2⟩ := hT.update hK hinj ht key hkl val
  unfold Oper.wp
  simp [execOp, hop, hm, hx, hv, hrun, Result.andThen]
  exact hK' _ _ (h w' r1 r2)
end laws
end Go.Proofs.Ytdkkpkgfiodlbaa

/- The program's data as plain structures, how they lie in cells, and when a slice of them can be read. Names no function. -/
namespace Go.Proofs.Ytdkkpkgfiodlbaa
open Go.RowKit

structure GOp where
  kind : Int
  key : Int
  val : Int
deriving DecidableEq

structure GTxn where
  client : Int
  state : Int
  ops : List GOp
deriving DecidableEq

structure GEvent where
  kind : Int
  client : Int
  ops : List GOp
deriving DecidableEq

abbrev vi (n : Int) : Value := .int .i64 n

def opV (o : GOp) : List Value := [vi o.kind, vi o.key, vi o.val]
def EOp (_ : World) (cs : List Value) (o : GOp) : Prop := cs = opV o
abbrev RdOps (w : World) (v : Value) (l : List GOp) : Prop := RdS 3 EOp w v l

def ETxn (w : World) (cs : List Value) (t : GTxn) : Prop := ∃ v, cs = [vi t.client, vi t.state, v] ∧ RdOps w v t.ops
abbrev RdTxns (w : World) (v : Value) (l : List GTxn) : Prop := RdS 3 ETxn w v l

def EEvent (w : World) (cs : List Value) (t : GEvent) : Prop := ∃ v, cs = [vi t.kind, vi t.client, v] ∧ RdOps w v t.ops
abbrev RdEvents (w : World) (v : Value) (l : List GEvent) : Prop := RdS 3 EEvent w v l

theorem RdOps.later {w w' : World} {v : Value} {l : List GOp} (h : RdOps w v l) (hb : Below w.heap.size w w') : RdOps w' v l := RdS.below h hb fun _ _ h => h
theorem ETxn.later {w w' : World} {cs : List Value} {t : GTxn} (h : ETxn w cs t) (hb : Below w.heap.size w w') : ETxn w' cs t := by
  obtain ⟨v, h1, h2⟩ := h; exact ⟨v, h1, h2.later hb⟩
theorem EEvent.later {w w' : World} {cs : List Value} {t : GEvent} (h : EEvent w cs t) (hb : Below w.heap.size w w') : EEvent w' cs t := by
  obtain ⟨v, h1, h2⟩ := h; exact ⟨v, h1, h2.later hb⟩
theorem RdTxns.later {w w' : World} {v : Value} {l : List GTxn} (h : RdTxns w v l) (hb : Below w.heap.size w w') : RdTxns w' v l := RdS.below h hb fun _ _ h => h.later hb
theorem RdEvents.later {w w' : World} {v : Value} {l : List GEvent} (h : RdEvents w v l) (hb : Below w.heap.size w w') : RdEvents w' v l := RdS.below h hb fun _ _ h => h.later hb

/-- What a walk wants of a readable slice of three cells each. -/
theorem RdS.at3 {α : Type} {E : World → List Value → α → Prop} {w : World} {v : Value} {l : List α} (h : RdS 3 E w v l) : ∃ a len cap, v = .slice a len cap ∧ len = l.length ∧ l.length ≤ 9223372036854775807 ∧
    ∀ j x, l[j]? = some x → ∃ b off c0 c1 c2, a = some ⟨b, off, none⟩ ∧ E w [c0, c1, c2] x ∧ w.cell? ⟨b, off + j * 3, none⟩ = some c0 ∧ w.cell? ⟨b, off + j * 3 + 1, none⟩ = some c1 ∧ w.cell? ⟨b, off + j * 3 + 2, none⟩ = some c2 := by
  obtain ⟨a, len, cap, h1, h2, h3, h4, h5, h6⟩ := h
  refine ⟨a, len, cap, h1, h2, h3, fun j x hj => ?_⟩
  obtain ⟨b, off, cs, ha, hl, hc, he⟩ := h6 j x hj
  match cs, hl with
  | [c0, c1, c2], _ => exact ⟨b, off, c0, c1, c2, ha, he, hc 0 c0 rfl, hc 1 c1 rfl, hc 2 c2 rfl⟩

/-- An operation in a readable slice: its three cells. -/
theorem RdOps.at {w : World} {v : Value} {l : List GOp} (h : RdOps w v l) : ∃ a len cap, v = .slice a len cap ∧ len = l.length ∧ l.length ≤ 9223372036854775807 ∧
    ∀ j x, l[j]? = some x → ∃ b off, a = some ⟨b, off, none⟩ ∧ w.cell? ⟨b, off + j * 3, none⟩ = some (vi x.kind) ∧ w.cell? ⟨b, off + j * 3 + 1, none⟩ = some (vi x.key) ∧ w.cell? ⟨b, off + j * 3 + 2, none⟩ = some (vi x.val) := by
  obtain ⟨a, len, cap, h1, h2, h3, h6⟩ := RdS.at3 h
  refine ⟨a, len, cap, h1, h2, h3, fun j x hj => ?_⟩
  obtain ⟨b, off, c0, c1, c2, ha, he, k0, k1, k2⟩ := h6 j x hj
  simp only [EOp, opV, List.cons.injEq, and_true] at he
  obtain ⟨rfl, rfl, rfl⟩ := he
  exact ⟨b, off, ha, k0, k1, k2⟩

/-- The call owns the slice value v of operations. -/
def OwOps (base : Nat) (w : World) (v : Value) (l : List GOp) : Prop := w.ownsRow base 104 3 v l.length (l.flatMap opV)

theorem flatMap_at (l : List GOp) (j i : Nat) (x : GOp) (u : Value) (hj : l[j]? = some x) (hu : (opV x)[i]? = some u) : (l.flatMap opV)[j * 3 + i]? = some u := by
  induction l generalizing j with
  | nil => simp at hj
  | cons y l ih =>
    have hi : i < 3 := (List.getElem?_eq_some_iff.1 hu).1
    rw [List.flatMap_cons]
    cases j with
    | zero =>
      simp at hj; subst hj
      rw [List.getElem?_append_left (by simpa [opV] using hi)]
      simpa using hu
    | succ j =>
      rw [List.getElem?_append_right (by simp [opV]; omega)]
      have : (j + 1) * 3 + i - (opV y).length = j * 3 + i := by simp [opV]; omega
      rw [this]
      exact ih j (by simpa using hj)

theorem OwOps.rd {base : Nat} {w : World} {v : Value} {l : List GOp} (h : OwOps base w v l) : RdOps w v l := by
  obtain ⟨h1, h2⟩ := id h
  rcases h2 with ⟨hv, h0⟩ | ⟨g, cap, cur, hv, hg, hh, hn, hm, hs, ht⟩
  · have : l = [] := List.length_eq_zero_iff.1 h0
    subst this
    exact ⟨none, 0, 0, hv, rfl, by simp, Nat.le_refl _, fun _ => ⟨rfl, rfl⟩, fun j x hj => by simp at hj⟩
  · refine ⟨some ⟨g, 0, none⟩, l.length, cap, hv, rfl, by simp only [maxLen] at hm; omega, hn, fun h => (by cases h), fun j x hj => ⟨g, 0, opV x, rfl, rfl, fun i u hu => ?_, rfl⟩⟩
    have := World.ownsRow.cells h (g := g) (by rw [hv]; rfl) (j * 3 + i) u (flatMap_at l j i x u hj hu)
    rwa [addr_add] at this

theorem Try.infoOp : (Try.prog.info? 104).map (fun i => (i.zero, i.size, i.bytes)) = some (some (.agg #[vi 0, vi 0, vi 0]), 3, 24) := by kernel_rfl
theorem eltOp : Elt Try.prog 26 104 3 24 (.agg #[vi 0, vi 0, vi 0]) := by
  obtain ⟨i0, hi, hz0, hz1, hz2⟩ := info_parts Try.infoOp
  exact ⟨Try.underlying26, by decide, rfl, i0, hi, hz0, hz1, hz2⟩

theorem opV_one {l : List GOp} : ∀ u ∈ l.flatMap opV, u.oneCell' = true := by
  intro u hu
  obtain ⟨x, _, hx⟩ := List.mem_flatMap.1 hu
  simp [opV] at hx
  rcases hx with rfl | rfl | rfl <;> rfl

theorem flatMap_length (l : List GOp) : (l.flatMap opV).length = l.length * 3 := by
  induction l with
  | nil => rfl
  | cons x l ih => rw [List.flatMap_cons, List.length_append, ih]; simp [opV]; omega

theorem RdOps.src {w : World} {v : Value} {l : List GOp} (h : RdOps w v l) : Src w v 3 l.length (l.flatMap opV) := by
  obtain ⟨a, len, cap, rfl, rfl, hm, hlc, hn, hc⟩ := h
  refine ⟨a, cap, rfl, flatMap_length l, fun h => hn h, fun ad had j u hu => ?_⟩
  have hlt := (List.getElem?_eq_some_iff.1 hu).1
  rw [flatMap_length] at hlt
  have hj : j / 3 < l.length := by omega
  obtain ⟨x, hx⟩ : ∃ x, l[j / 3]? = some x := ⟨_, List.getElem?_eq_getElem hj⟩
  obtain ⟨b, off, cs, hb, hl, hcs, rfl⟩ := hc _ x hx
  rw [hb] at had; cases had
  obtain ⟨u', hu'⟩ : ∃ u', (opV x)[j % 3]? = some u' := ⟨_, List.getElem?_eq_getElem (by simp [opV]; omega)⟩
  have e := flatMap_at l (j / 3) (j % 3) x u' hx hu'
  have hj3 : j / 3 * 3 + j % 3 = j := by omega
  rw [hj3, hu] at e
  cases e
  have := hcs (j % 3) u hu'
  rw [hj3] at this
  rw [addr_add]; exact this

theorem ret_bool {a b : Bool} (h : a = b) : Ending.returned (.bool a) = .returned (.bool b) := by rw [h]
theorem ret_int {k : IntKind} {a b : Int} (h : a = b) : Ending.returned (.int k a) = .returned (.int k b) := by rw [h]
theorem some_at {α : Type} {l : List α} {k : Nat} (h : k < l.length) : ∃ x, l[k]? = some x := ⟨l[k], List.getElem?_eq_getElem h⟩
theorem take_at {α : Type} {l : List α} {k : Nat} {x : α} (h : l[k]? = some x) : l.take (k + 1) = l.take k ++ [x] := by
  rw [List.take_add_one, h]; rfl
end Go.Proofs.Ytdkkpkgfiodlbaa

/- (*bits.Writer).Put. -/
namespace Go.Proofs.Ytdkkpkgfiodlbaa
open Go.RowKit
namespace Bt
theorem alloc_at (w : World) (o : Obj) : (w.alloc o).heap[w.heap.size]? = some o := by show (w.heap.push o)[w.heap.size]? = some o; simp
theorem cell_of {w : World} {b : Nat} {cs : Array Value} {T : TypeId} {fz : Nat × Nat} (h : w.heap[b]? = some (.cells cs T fz)) (o : Nat) : w.cell? ⟨b, o, none⟩ = cs[o]? := by
  simp [World.cell?, h]
theorem free_of {w : World} {b : Nat} {cs : Array Value} {T : TypeId} (h : w.heap[b]? = some (.cells cs T)) (o : Nat) : w.frozen? ⟨b, o, none⟩ = false := by
  simp [World.frozen?, h]
theorem own_shape {w : World} {base e size n : Nat} {v : Value} {xs : List Value} (h : w.ownsRow base e size v n xs) : ∃ a c, v = .slice a n c := by
  rcases h.2 with ⟨hv, h0⟩ | ⟨g, cap, cur, hv, _⟩
  · exact ⟨none, 0, by rw [hv, h0]⟩
  · exact ⟨_, _, hv⟩
theorem own_some {w : World} {base e size n : Nat} {v : Value} {xs : List Value} (h : w.ownsRow base e size v n xs) (h0 : 0 < n) : ∃ g c, v = .slice (some ⟨g, 0, none⟩) n c := by
  rcases h.2 with ⟨hv, h0'⟩ | ⟨g, cap, cur, hv, _⟩
  · omega
  · exact ⟨g, cap, hv⟩
theorem own_frame {A B : World} {base e size n : Nat} {v : Value} {xs : List Value} (h : A.ownsRow base e size v n xs) (hb : ∀ g, v.ownBlock = some g → B.heap[g]? = A.heap[g]?) : B.ownsRow base e size v n xs := by
  refine ⟨h.1, ?_⟩
  rcases h.2 with h2 | ⟨g, cap, cur, hv, hg, hh, r⟩
  · exact .inl h2
  · exact .inr ⟨g, cap, cur, hv, hg, (hb g (by rw [hv]; rfl)).trans hh, r⟩
theorem cells_set {W : World} {b o : Nat} {cs : Array Value} {T : TypeId} {fz : Nat × Nat} (v : Value) (h : W.heap[b]? = some (.cells cs T fz)) : (W.setCell ⟨b, o, none⟩ v).heap[b]? = some (.cells (cs.setIfInBounds o v) T fz) := by
  simp [World.setCell, Array.getElem?_modify, h]
theorem cells_other {W : World} {b c o : Nat} {ob : Option Obj} (v : Value) (h : W.heap[b]? = ob) (hne : b ≠ c) : (W.setCell ⟨c, o, none⟩ v).heap[b]? = ob := (Below.heap_setCell _ _ _ _ hne).trans h
end Bt

abbrev u8 (n : Nat) : Value := .int .u8 (n : Int)
theorem Try.infoU8 : (Try.prog.info? 5).map (fun i => (i.zero, i.size, i.bytes)) = some (some (.int .u8 0), 1, 1) := by kernel_rfl
theorem eltU8 : Elt Try.prog 39 5 1 1 (.int .u8 0) := by
  obtain ⟨i0, hi, hz0, hz1, hz2⟩ := info_parts Try.infoU8
  exact ⟨Try.underlying39, by decide, rfl, i0, hi, hz0, hz1, hz2⟩
/-- A row of bytes that the call owns. -/
def OwU (base : Nat) (w : World) (v : Value) (bs : List Nat) : Prop := w.ownsRow base 5 1 v bs.length (bs.map u8)
/-- A writer in memory: the bits that were written. -/
def WrS (base p : Nat) (L : List Bool) (W : World) : Prop := base ≤ p ∧ ∃ v, W.heap[p]? = some (.cells #[v, vi L.length] 93) ∧ OwU base W v (btBytes L)
/-- Only a writer turns, and rows of bytes from base on. -/
structure FrW (base p : Nat) (w w' : World) : Prop where
  os : w'.os = w.os
  tape : w'.tape = w.tape
  output : w'.output = w.output
  size : w.heap.size ≤ w'.heap.size
  old : ∀ j, j < w.heap.size → j ≠ p → (j < base ∨ ∀ cs fz, w.heap[j]? ≠ some (.cells cs 5 fz)) → w'.heap[j]? = w.heap[j]?
theorem FrW.refl (base p : Nat) (w : World) : FrW base p w w := ⟨rfl, rfl, rfl, Nat.le_refl _, fun _ _ _ _ => rfl⟩
theorem FrW.trans {base p : Nat} {a b c : World} (h : FrW base p a b) (k : FrW base p b c) : FrW base p a c := by
  refine ⟨k.os.trans h.os, k.tape.trans h.tape, k.output.trans h.output, Nat.le_trans h.size k.size, fun j hj hn ho => ?_⟩
  have e := h.old j hj hn ho
  refine (k.old j (Nat.lt_of_lt_of_le hj h.size) hn ?_).trans e
  rcases ho with ho | ho
  · exact .inl ho
  · exact .inr (fun cs fz => by rw [e]; exact ho cs fz)
theorem FrW.below {base p : Nat} {a b : World} (h : Below a.heap.size a b) : FrW base p a b := ⟨h.os, h.tape, h.output, h.size, fun j hj _ _ => h.block j hj⟩
theorem FrW.toBelow {base p : Nat} {a b : World} (h : FrW base p a b) (hs : base ≤ a.heap.size) (hp : base ≤ p) : Below base a b := ⟨h.os, h.tape, h.output, h.size, fun j hj => h.old j (by omega) (by omega) (.inl hj)⟩
theorem FrW.cells {base p : Nat} {a b : World} (h : FrW base p a b) {j : Nat} {cs : Array Value} {T : TypeId} {fz : Nat × Nat} (hj : a.heap[j]? = some (.cells cs T fz)) (hn : j ≠ p) (hT : T ≠ 5) : b.heap[j]? = some (.cells cs T fz) :=
  (h.old j (Array.getElem?_eq_some_iff.1 hj).1 hn (.inr (fun cs2 fz2 e => by rw [hj] at e; cases e; exact hT rfl))).trans hj
theorem WrS.later {base p : Nat} {L : List Bool} {A B : World} (h : WrS base p L A) (hb : Below A.heap.size A B) : WrS base p L B := by
  obtain ⟨hp, v, h1, h2⟩ := h
  exact ⟨hp, v, (hb.block p (Array.getElem?_eq_some_iff.1 h1).1).trans h1, own_below h2 hb⟩
theorem WrS.lt {base p : Nat} {L : List Bool} {A : World} (h : WrS base p L A) : p < A.heap.size := by
  obtain ⟨hp, v, h1, h2⟩ := h
  exact (Array.getElem?_eq_some_iff.1 h1).1

theorem and7 (n : Nat) (h : n < 9223372036854775808) : bits .and .i64 (n : Int) 7 = ((n % 8 : Nat) : Int) := by
  have := bits_mask .i64 63 (by decide) (fun n h0 h1 => by rw [IntKind.wrap_i64]; omega) 3 (by decide) (n : Int) (by omega) (by omega)
  have h2 : bits .and .i64 (n : Int) 7 = (n : Int) % 8 := this
  rw [h2]; omega
theorem put_byte {b x m k : Nat} (hb : b < 256) (hk : k < 8) (hx : x < 18446744073709551616) : bits .or .u8 (b : Int) (bits .and .u64 ((x : Int) / 2 ^ m) 1 % 256 * 2 ^ (7 - k) % 256) = ((b ||| ((if (x / 2 ^ m % 2 == 1) then 1 else 0) * 2 ^ (7 - k)) : Nat) : Int) := by
  have e1 : (x : Int) / 2 ^ m = ((x / 2 ^ m : Nat) : Int) := by simp
  have hlt : x / 2 ^ m < 18446744073709551616 := Nat.lt_of_le_of_lt (Nat.div_le_self _ _) hx
  have e2 : bits .and .u64 ((x / 2 ^ m : Nat) : Int) 1 = ((x / 2 ^ m % 2 : Nat) : Int) := by
    have := u64_and_nat (x / 2 ^ m) 1 hlt (by decide)
    rw [nat_mask1] at this; exact this
  rw [e1, e2]
  have hp : 2 ^ (7 - k) ≤ 2 ^ 7 := Nat.pow_le_pow_right (by decide) (by omega)
  have hy : (if (x / 2 ^ m % 2 == 1) then 1 else 0) = x / 2 ^ m % 2 := by
    have : x / 2 ^ m % 2 < 2 := Nat.mod_lt _ (by decide)
    rcases (show x / 2 ^ m % 2 = 0 ∨ x / 2 ^ m % 2 = 1 by omega) with h | h <;> rw [h] <;> rfl
  rw [hy]
  have hy2 : x / 2 ^ m % 2 < 2 := Nat.mod_lt _ (by decide)
  generalize x / 2 ^ m % 2 = z at *
  have e3 : ((z : Nat) : Int) % 256 * 2 ^ (7 - k) % 256 = ((z * 2 ^ (7 - k) : Nat) : Int) := by
    have h1 : ((z : Nat) : Int) % 256 = z := by omega
    rw [h1]
    have h2 : ((z : Int) * 2 ^ (7 - k)) = ((z * 2 ^ (7 - k) : Nat) : Int) := by simp
    rw [h2]
    have h3 : z * 2 ^ (7 - k) < 256 := by
      rcases (show z = 0 ∨ z = 1 by omega) with rfl | rfl <;> omega
    omega
  rw [e3]
  refine u8_or_nat b _ hb ?_
  rcases (show z = 0 ∨ z = 1 by omega) with rfl | rfl <;> omega
/-- The writer's block stays while its row grows. -/
theorem wr_kept {A B : World} {base p n : Nat} {v : Value} {xs : List Value} {cs : Array Value} {o : Obj} (h : A.ownsRow base 5 1 v n xs) (hg : (A.alloc o).grownBy B v.ownBlock) (hp : A.heap[p]? = some (.cells cs 93)) : B.heap[p]? = some (.cells cs 93) := by
  have hlt := (Array.getElem?_eq_some_iff.1 hp).1
  rw [hg.block p (by simp; omega) (fun e => by
    rcases h.2 with ⟨hv, h0⟩ | ⟨g, cap, cur, hv, hgb, hb, r⟩
    · rw [hv] at e; cases e
    · rw [hv] at e
      have : p = g := by simpa [Value.ownBlock] using e
      subst this
      rw [hb] at hp; cases hp), Below.heap_alloc _ _ _ hlt]
  exact hp
theorem grow_frame {A B : World} {base p n : Nat} {v : Value} {xs : List Value} {o : Obj} (h : A.ownsRow base 5 1 v n xs) (hg : (A.alloc o).grownBy B v.ownBlock) : FrW base p A B := by
  have hs : A.heap.size ≤ B.heap.size := Nat.le_trans (by simp) hg.size
  refine ⟨hg.os, hg.tape, hg.output, hs, fun j hj _ ho => ?_⟩
  rw [hg.block j (by simp; omega) (fun e => by
    rcases h.2 with ⟨hv, h0⟩ | ⟨g, cap, cur, hv, hgb, hb, r⟩
    · rw [hv] at e; cases e
    · rw [hv] at e
      have : j = g := by simpa [Value.ownBlock] using e
      subst this
      rcases ho with ho | ho
      · omega
      · exact ho _ _ hb), Below.heap_alloc _ _ _ hj]
theorem FrW.setP {base p : Nat} (A : World) (o : Nat) (v : Value) : FrW base p A (A.setCell ⟨p, o, none⟩ v) :=
  ⟨rfl, rfl, rfl, by simp [World.setCell], fun j _ hj _ => Below.heap_setCell _ _ _ j hj⟩
/-- An element of a row of bytes is set. -/
theorem own_byte {b p : Nat} {w : World} {len c : Nat} {cs : List Nat} {g : Nat} (h : w.ownsRow b 5 1 (.slice (some ⟨g, 0, none⟩) len c) len (cs.map u8)) {k : Nat} (hk : k < cs.length) (z : Nat) : (w.setCell ⟨g, k, none⟩ (u8 z)).ownsRow b 5 1 (.slice (some ⟨g, 0, none⟩) len c) len ((cs.set k z).map u8) ∧ FrW b p w (w.setCell ⟨g, k, none⟩ (u8 z)) ∧ (∃ cur, w.heap[g]? = some (.cells cur 5)) ∧ w.cell? ⟨g, k, none⟩ = some (u8 (cs[k]?.getD 0)) := by
  have h1 := h.1
  rcases h.2 with ⟨hv, _⟩ | ⟨g', cap, cur, hv, hg, hh, hn, hm, hs, ht⟩
  · cases hv
  · cases hv
    have hcur : (cur.set! k (u8 z)).size = c * 1 := by simpa using hs
    refine ⟨⟨by simpa using h1, .inr ⟨g, c, cur.set! k (u8 z), rfl, hg, Bt.cells_set _ hh, hn, hm, hcur, ?_⟩⟩, ⟨rfl, rfl, rfl, by simp [World.setCell], fun j _ _ ho => Below.heap_setCell _ _ _ j (fun e => by
      subst e
      rcases ho with ho | ho
      · omega
      · exact ho _ _ hh)⟩, ⟨cur, hh⟩, ?_⟩
    · have e1 : (cur.set! k (u8 z)).toList = cur.toList.set k (u8 z) := by simp
      rw [e1, List.map_set, ← ht, List.take_set]
    · rw [Bt.cell_of hh, List.getElem?_eq_getElem hk]
      have e2 : (cur.toList.take (len * 1))[k]? = some (u8 cs[k]) := by rw [ht, List.getElem?_map, List.getElem?_eq_getElem hk]; rfl
      have hk2 : k < len * 1 := by simp at h1; omega
      rw [List.getElem?_take_of_lt hk2] at e2
      simpa using e2
def PutQ (base p : Nat) (L : List Bool) (w : World) (e : Ending) (w' : World) : Prop := e = .returned (.tuple #[]) ∧ WrS base p L w' ∧ FrW base p w w'

set_option maxRecDepth 100000 in
set_option maxHeartbeats 4000000 in
theorem put_call {base p : Nat} {L : List Bool} (x n : Nat) (w : World) (h : WrS base p L w) (hx : x < 18446744073709551616) (hn : n ≤ 64) (hL : L.length ≤ 1048576) (hb : base ≤ w.heap.size) :
    Calls Try.prog 72 #[.pointer (some ⟨p, 0, none⟩), .int .u64 x, .int .i64 n] w (PutQ base p (L ++ putL x n) w) := by
  have HW := Lib.hid h
  have hmm : IntKind.i64.wrap ((n : Int) - 1) = (n : Int) - 1 := IntWalk.i64_in _ (by omega)
  clear h
  go_enter Try.func72, Try.ntmps72
  go_wp2_with fail
  go_loopw [6] (fun v wr => ∃ k : Nat, k ≤ n ∧ ((k = 0 ∧ v = .int .i64 (-1)) ∨ ∃ m : Nat, k = m + 1 ∧ v = .int .i64 (m : Int)) ∧ Hid (∃ L', L' ++ putL x k = L ++ putL x n ∧ WrS base p L' wr ∧ FrW base p w wr)) (fun v _ => (intOf v + 1).toNat)
  case atStart =>
    refine ⟨n, Nat.le_refl _, ?_, Lib.hid ⟨L, rfl, HW.out, FrW.refl _ _ _⟩⟩
    cases n with
    | zero => exact .inl ⟨rfl, by simp <;> omega⟩
    | succ m => exact .inr ⟨m, rfl, by go_num⟩
  case round =>
    obtain ⟨wj, rfl⟩ : ∃ wj : World, wj = wr := ⟨_, rfl⟩
    obtain ⟨k, hk, hv, HJ⟩ := hrel
    obtain ⟨L', hL', hWr, hFr⟩ := HJ.out
    have hlen : L'.length + k = L.length + n := by
      have := congrArg List.length hL'
      simp [putL_length] at this; exact this
    rcases hv with ⟨rfl, rfl⟩ | ⟨m, rfl, rfl⟩
    · have HE := Lib.hid (show L' = L ++ putL x n by simpa [putL] using hL')
      clear hmm hL' HJ
      have HWr := Lib.hid hWr
      have HFr := Lib.hid hFr
      clear hWr hFr
      go_wp2_with fail
      go_end0
      exact ⟨rfl, by rw [← HE.out]; exact HWr.out, HFr.out⟩
    · have HL' := Lib.hid (show (L' ++ [x / 2 ^ m % 2 == 1]) ++ putL x m = L ++ putL x n by rw [← hL']; simp [putL])
      obtain ⟨hbp, v, hp, hrow⟩ := hWr
      have HROW := Lib.hid hrow
      have HPB := Lib.hid hp
      have HFr := Lib.hid hFr
      obtain ⟨av, cv, rfl⟩ := Bt.own_shape hrow
      rw [btBytes_length] at *
      have hlb : L'.length ≤ 1048640 := by omega
      have c0 : wj.cell? ⟨p, 0, none⟩ = some (.slice av ((L'.length + 7) / 8) cv) := by rw [Bt.cell_of hp]; rfl
      have c1 : wj.cell? ⟨p, 1, none⟩ = some (vi L'.length) := by rw [Bt.cell_of hp]; rfl
      have f0 : ∀ o, wj.frozen? ⟨p, o, none⟩ = false := fun o => Bt.free_of hp o
      have h7 : bits .and .i64 (L'.length : Int) 7 = ((L'.length % 8 : Nat) : Int) := and7 _ (by omega)
      clear hL' hrow hp hFr HJ hmm
      go_upto_if 20 with fail
      go_cut [] (fun wx => ∃ v' bs', wx.heap[p]? = some (.cells #[v', vi L'.length] 93) ∧ OwU base wx v' bs' ∧ bs' = (if L'.length % 8 = 0 then btBytes L' ++ [0] else btBytes L') ∧ FrW base p w wx)
      case first =>
        by_cases h8 : L'.length % 8 = 0
        · have hb0 : (((L'.length % 8 : Nat) : Int) == 0) = true := by simp [h8]
          have hbw := HFr.out.size
          have HP8 := Lib.hid h8
          have HLB := Lib.hid (btBytes_length L')
          have hrw : wj.ownsRow base 5 1 (.slice av ((L'.length + 7) / 8) cv) ((L'.length + 7) / 8) ((btBytes L').map u8) := by have := HROW.out; unfold OwU at this; rw [btBytes_length] at this; exact this
          have HRW := Lib.hid hrw
          have c0a : ∀ o, (wj.alloc o).cell? ⟨p, 0, none⟩ = some (.slice av ((L'.length + 7) / 8) cv) := fun o => cell_later ((Below.refl _ _).alloc (Nat.le_refl _) o) c0
          have hlt := (Array.getElem?_eq_some_iff.1 HPB.out).1
          clear h8 hrw
          go_wp2_with (refine wpList_append_src rfl (.tmp 25) (.tmp 26) 39 rfl eltU8 base ((L'.length + 7) / 8) _ (HRW.out.alloc _) rfl 1 [u8 0] (src_new (cs := #[u8 0]) rfl rfl) rfl (by intro u hu; simp at hu; subst hu; rfl) (by omega) (by omega) (by simp; omega) ?_; intro v1 w1 ho1 hg1 _; obtain ⟨g1, cp1, rfl⟩ := Bt.own_some ho1 (by omega); have HO1 := Lib.hid ho1; have HG1 := Lib.hid hg1; have hp1 : w1.heap[p]? = some (.cells #[.slice av ((L'.length + 7) / 8) cv, vi L'.length] 93) := (wr_kept HRW.out hg1 HPB.out); have q0 : w1.cell? ⟨p, 0, none⟩ = some (.slice av ((L'.length + 7) / 8) cv) := (by rw [Bt.cell_of hp1]; rfl); have q1 : w1.frozen? ⟨p, 0, none⟩ = false := Bt.free_of hp1 0; have HP1 := Lib.hid hp1; clear ho1 hg1 hp1)
          go_meet
          have hbp2 : p ≠ g1 := fun e => by
            have := HP1.out
            rcases HO1.out.2 with ⟨hv, _⟩ | ⟨g', cap, cur, hv, hg, hh, hn, hm, hs, ht⟩
            · cases hv
            · cases hv; rw [e] at this; rw [this] at hh; cases hh
          refine ⟨_, btBytes L' ++ [0], Bt.cells_set _ HP1.out, ?_, by rw [if_pos HP8.out], (HFr.out.trans (grow_frame HRW.out HG1.out)).trans (FrW.setP _ _ _)⟩
          have hx : w1.ownsRow base 5 1 (.slice (some ⟨g1, 0, none⟩) ((L'.length + 7) / 8 + 1) cp1) ((L'.length + 7) / 8 + 1) ((btBytes L' ++ [0]).map u8) := by simpa using HO1.out
          have hl : (btBytes L' ++ [0]).length = (L'.length + 7) / 8 + 1 := by simp [btBytes_length]
          show World.ownsRow _ base _ 1 _ (btBytes L' ++ [0]).length _
          rw [hl]
          exact Bt.own_frame hx (fun g hg => by
            simp only [Value.ownBlock, Option.some.injEq] at hg; subst hg
            exact Bt.cells_other _ rfl (fun e => hbp2 e.symm))
        · have hb0 : (((L'.length % 8 : Nat) : Int) == 0) = false := by simp; omega
          have HP8 := Lib.hid h8
          clear h8
          go_wp2_with fail
          go_meet
          exact ⟨_, btBytes L', HPB.out, HROW.out, by rw [if_neg HP8.out], HFr.out⟩
      case rest =>
        obtain ⟨wx, rfl⟩ : ∃ wx : World, wx = wc := ⟨_, rfl⟩
        obtain ⟨v', bs', hp', ho', rfl, hfr'⟩ := hcut
        generalize hB : (if L'.length % 8 = 0 then btBytes L' ++ [0] else btBytes L') = bs at ho'
        have hl : bs.length = L'.length / 8 + 1 := by
          rw [← hB]; split <;> simp [btBytes_length] <;> omega
        unfold OwU at ho'
        rw [hl] at ho'
        obtain ⟨g, cp, rfl⟩ := Bt.own_some ho' (by omega)
        have HSET := fun z => Lib.hid (own_byte (p := p) ho' (k := L'.length / 8) (by omega) z)
        have hbt : bs[L'.length / 8]?.getD 0 < 256 := by
          rw [← hB]
          by_cases h8 : L'.length % 8 = 0
          · rw [if_pos h8, List.getElem?_append_right (by rw [btBytes_length]; omega)]
            rw [show L'.length / 8 - (btBytes L').length = 0 by rw [btBytes_length]; omega]; decide
          · rw [if_neg h8, btBytes_at (by omega)]; exact btByte_lt _ _
        have HNB := Lib.hid (put_byte (b := bs[L'.length / 8]?.getD 0) (x := x) (m := m) (k := L'.length % 8) hbt (by omega) hx)
        have hnew : bs.set (L'.length / 8) (bs[L'.length / 8]?.getD 0 ||| ((if (x / 2 ^ m % 2 == 1) then 1 else 0) * 2 ^ (7 - L'.length % 8))) = btBytes (L' ++ [x / 2 ^ m % 2 == 1]) := by
          rw [← hB]
          by_cases h8 : L'.length % 8 = 0
          · rw [if_pos h8, btBytes_new h8, List.getElem?_append_right (by rw [btBytes_length]; omega), show L'.length / 8 - (btBytes L').length = 0 by rw [btBytes_length]; omega, h8]
            simp
          · rw [if_neg h8, btBytes_more h8, btBytes_at (by omega)]; rfl
        have HNEW := Lib.hid hnew
        clear hnew hbt
        have hc := (own_byte (p := p) ho' (k := L'.length / 8) (by omega) 0).2.2
        obtain ⟨⟨cur, hcur⟩, hg⟩ := hc
        have hc0 := Lib.hid hcur
        have d0 : wx.cell? ⟨p, 0, none⟩ = some (.slice (some ⟨g, 0, none⟩) (L'.length / 8 + 1) cp) := by rw [Bt.cell_of hp']; rfl
        have d1 : wx.cell? ⟨p, 1, none⟩ = some (vi L'.length) := by rw [Bt.cell_of hp']; rfl
        have d2 : ∀ o, wx.frozen? ⟨p, o, none⟩ = false := fun o => Bt.free_of hp' o
        have d3 : ∀ o, wx.frozen? ⟨g, o, none⟩ = false := fun o => Bt.free_of hcur o
        have HB := Lib.hid hB
        have HL2 := Lib.hid hl
        have HP2 := Lib.hid hp'
        have HF2 := Lib.hid hfr'
        clear hB hl hp' hfr' ho' hcur c0 c1 f0
        go_wp2_with fail
        go_region
        rw [HNB.out]
        generalize hz : (bs[L'.length / 8]?.getD 0 ||| ((if (x / 2 ^ m % 2 == 1) then 1 else 0) * 2 ^ (7 - L'.length % 8))) = z at *
        have HZ := Lib.hid hz
        clear hz
        obtain ⟨ho3, hf3, _, _⟩ := (HSET z).out
        have hgp : p ≠ g := fun e => by
          rcases hc0.out with hcur
          rw [e] at HP2; rw [HP2.out] at hcur; cases hcur
        have hp3 : (wx.setCell ⟨g, L'.length / 8, none⟩ (u8 z)).heap[p]? = some (.cells #[.slice (some ⟨g, 0, none⟩) (L'.length / 8 + 1) cp, vi L'.length] 93) := Bt.cells_other _ HP2.out hgp
        generalize hwy : wx.setCell ⟨g, L'.length / 8, none⟩ (u8 z) = wy at *
        have e1 : wy.cell? ⟨p, 1, none⟩ = some (vi L'.length) := by rw [Bt.cell_of hp3]; rfl
        have e2 : wy.frozen? ⟨p, 1, none⟩ = false := Bt.free_of hp3 1
        have HO3 := Lib.hid ho3
        have HF3 := Lib.hid hf3
        have HP3 := Lib.hid hp3
        have hw1 : IntKind.i64.wrap ((L'.length : Int) + 1) = (L'.length : Int) + 1 := IntWalk.i64_in _ (by omega)
        clear ho3 hf3 hp3 hwy HSET d0 d1 d2 d3
        go_wp2_with fail
        refine ⟨⟨m, by omega, ?_, ?_⟩, by simp only [intOf]; omega⟩
        · cases m with
          | zero => exact .inl ⟨rfl, rfl⟩
          | succ q => exact .inr ⟨q, rfl, by go_num⟩
        · have hgl : ∀ j, (Value.slice (some ⟨g, 0, none⟩) (L'.length / 8 + 1) cp).ownBlock = some j → (wy.setCell ⟨p, 1, none⟩ (.int .i64 ((L'.length : Int) + 1))).drew.heap[j]? = wy.heap[j]? := fun j hj => by
            simp only [Value.ownBlock, Option.some.injEq] at hj; subst hj
            exact Bt.cells_other _ rfl (fun e => hgp e.symm)
          have hz2 : bs.set (L'.length / 8) z = btBytes (L' ++ [x / 2 ^ m % 2 == 1]) := HNEW.out
          have hl2 : (btBytes (L' ++ [x / 2 ^ m % 2 == 1])).length = L'.length / 8 + 1 := by rw [btBytes_length]; simp; omega
          have hp4 : (wy.setCell ⟨p, 1, none⟩ (.int .i64 ((L'.length : Int) + 1))).drew.heap[p]? = some (.cells #[.slice (some ⟨g, 0, none⟩) (L'.length / 8 + 1) cp, vi (L' ++ [x / 2 ^ m % 2 == 1]).length] 93) := by
            have h1 : (wy.setCell ⟨p, 1, none⟩ (.int .i64 ((L'.length : Int) + 1))).heap[p]? = _ := Bt.cells_set _ HP3.out
            refine (show _ = _ from h1).trans ?_
            simp
          have hf4 : FrW base p wy (wy.setCell ⟨p, 1, none⟩ (.int .i64 ((L'.length : Int) + 1))).drew := ⟨rfl, rfl, rfl, by simp [World.setCell], fun j _ hj _ => Below.heap_setCell wy ⟨p, 1, none⟩ _ j hj⟩
          refine Lib.hid ⟨L' ++ [x / 2 ^ m % 2 == 1], HL'.out, ⟨hbp, _, hp4, ?_⟩, (HF2.out.trans HF3.out).trans hf4⟩
          have := Bt.own_frame HO3.out hgl
          rw [hz2] at this
          show World.ownsRow _ base _ 1 _ (btBytes _).length _
          rw [hl2]; exact this
end Go.Proofs.Ytdkkpkgfiodlbaa
