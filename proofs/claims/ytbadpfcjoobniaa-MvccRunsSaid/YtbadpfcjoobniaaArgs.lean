/- Words on readable slices of whatever elements, and from the row's own reading of an argument to them. Names no program. -/
import Derived.Test.YtbadpfcjoobniaaMem
import Derived.Deep.Slices
import Derived.ProofKit
import Derived.OpenShut
namespace Go.Proofs.Ytbadpfcjoobniaa
open Go.RowKit
open Go.ChangeShapes Go.WideShapes

/-- The slice value v reads as the list xs: each element of n cells, which read by E. -/
def RdS {α : Type} (n : Nat) (E : World → List Value → α → Prop) (w : World) (v : Value) (xs : List α) : Prop :=
  ∃ a len cap, v = .slice a len cap ∧ len = xs.length ∧ xs.length ≤ 9223372036854775807 ∧ len ≤ cap ∧ (a = none → len = 0 ∧ cap = 0) ∧
    ∀ j x, xs[j]? = some x → ∃ b off cs, a = some ⟨b, off, none⟩ ∧ cs.length = n ∧ (∀ i u, cs[i]? = some u → w.cell? ⟨b, off + (j * n + i), none⟩ = some u) ∧ E w cs x

theorem list_of {α : Type} {Q : Nat → α → Prop} (n : Nat) (h : ∀ i, i < n → ∃ x, Q i x) : ∃ xs : List α, xs.length = n ∧ ∀ i x, xs[i]? = some x → Q i x := by
  induction n with
  | zero => exact ⟨[], rfl, fun i x hx => by simp at hx⟩
  | succ n ih =>
    obtain ⟨xs, hl, hx⟩ := ih fun i hi => h i (by omega)
    obtain ⟨y, hy⟩ := h n (by omega)
    refine ⟨xs ++ [y], by simp [hl], fun i x hi => ?_⟩
    by_cases hlt : i < xs.length
    · rw [List.getElem?_append_left hlt] at hi; exact hx i x hi
    · rw [List.getElem?_append_right (by omega)] at hi
      have : i = n := by
        have := (List.getElem?_eq_some_iff.1 hi).1; simp at this; omega
      subst this
      simp [hl] at hi
      subst hi; exact hy

theorem addr_flat {w : World} {x : Addr} {u : Value} (h : w.cell? x = some u) : x = ⟨x.block, x.off, none⟩ := by
  obtain ⟨b, o, s⟩ := x
  cases s with
  | none => rfl
  | some s => unfold World.cell? at h; split at h <;> simp_all

theorem mapM_some {α β : Type} {f : α → Option β} : ∀ {l : List α} {r : List β}, l.mapM f = some r → r.length = l.length ∧ ∀ (i : Nat) a b, l[i]? = some a → r[i]? = some b → f a = some b
  | [], r, h => by simp at h; subst h; exact ⟨rfl, fun i a b h => by simp at h⟩
  | x :: l, r, h => by
    rw [List.mapM_cons] at h
    cases hx : f x with
    | none => simp [hx] at h
    | some y =>
      cases hl : l.mapM f with
      | none => simp [hx, hl] at h
      | some ys =>
        simp [hx, hl] at h
        subst h
        obtain ⟨h1, h2⟩ := mapM_some hl
        refine ⟨by simp [h1], fun i a b ha hb => ?_⟩
        cases i with
        | zero => simp at ha hb; subst ha hb; exact hx
        | succ i => exact h2 i a b (by simpa using ha) (by simpa using hb)

theorem cells_at {w : World} {a : Addr} {n : Nat} {cs : List Value} (h : w.cells? 0 a n = some cs) : cs.length = n ∧ ∀ i u, cs[i]? = some u → w.cell? (a.add i) = some u := by
  unfold World.cells? at h
  rw [if_pos (Nat.zero_le _)] at h
  obtain ⟨h1, h2⟩ := mapM_some h
  have hl : cs.length = n := by simpa using h1
  refine ⟨hl, fun i u hu => h2 i i u ?_ hu⟩
  have := (List.getElem?_eq_some_iff.1 hu).1
  rw [List.getElem?_range (by omega)]

theorem rds_of_trod {α H : Type} {enc : TypeId × Value → H} {P : Program} {w : World} {spare : Nat → Bool} {held : Bool} {t e : TypeId} {fuel n : Nat} {v : Value} {x : DataW H × List MemPlace} {E : World → List Value → α → Prop}
    (ht : P.underlying t = some (.slice e)) (hn : P.cellsOf e = n) (h0 : 0 < n) (h : DataW.trod enc P w 0 spare held fuel t [v] = some x)
    (hE : ∀ m cs y, cs.length = n → DataW.trod enc P w 0 spare held m e cs = some y → ∃ a, E w cs a) : ∃ xs, RdS n E w v xs := by
  rcases Deep.open_slice ht h with ⟨hcs, _⟩ | ⟨a, len, cap, m, k, D, Pl, hcs, _, hlc, hcm, hm, _, hel⟩
  · cases hcs
    exact ⟨[], none, 0, 0, rfl, rfl, by simp, Nat.le_refl _, fun _ => ⟨rfl, rfl⟩, fun j x hj => by simp at hj⟩
  · cases hcs
    have hlm : len ≤ m := by rw [hm]; split <;> omega
    obtain ⟨xs, hxl, hx⟩ := list_of (α := α) (Q := fun i x => ∃ cs, w.cells? 0 (a.add (i * n)) n = some cs ∧ E w cs x) len (fun i hi => by
      obtain ⟨cs, h1, h2⟩ := hel i (by omega)
      rw [hn] at h1
      have hl : cs.length = n := (cells_at h1).1
      obtain ⟨y, hy⟩ := hE _ _ _ hl h2
      exact ⟨y, cs, h1, hy⟩)
    refine ⟨xs, some a, len, cap, rfl, hxl.symm, by simp only [maxLen] at hcm; omega, hlc, fun h => (by cases h), fun j x hj => ?_⟩
    obtain ⟨cs, h1, h2⟩ := hx j x hj
    obtain ⟨hl, hc⟩ := cells_at h1
    have hlt : j < len := by rw [← hxl]; exact (List.getElem?_eq_some_iff.1 hj).1
    have ha : a = ⟨a.block, a.off, none⟩ := by
      obtain ⟨cs0, h0', _⟩ := hel 0 (by omega)
      rw [hn, Nat.zero_mul] at h0'
      obtain ⟨hl0, hc0⟩ := cells_at h0'
      exact addr_flat (hc0 0 cs0[0] (List.getElem?_eq_getElem (by omega)))
    refine ⟨a.block, a.off, cs, by rw [← ha], hl, fun i u hu => ?_, h2⟩
    have := hc i u hu
    rw [ha, addr_add, addr_add, Nat.add_assoc] at this
    exact this

theorem RdS.below {α : Type} {n : Nat} {E : World → List Value → α → Prop} {w w' : World} {v : Value} {xs : List α} (h : RdS n E w v xs) (hb : Below w.heap.size w w') (hE : ∀ cs x, E w cs x → E w' cs x) : RdS n E w' v xs := by
  obtain ⟨a, len, cap, h1, h2, h3, h4, h5, h6⟩ := h
  refine ⟨a, len, cap, h1, h2, h3, h4, h5, fun j x hj => ?_⟩
  obtain ⟨b, off, cs, ha, hl, hc, he⟩ := h6 j x hj
  exact ⟨b, off, cs, ha, hl, fun i u hu => cell_later hb (hc i u hu), hE _ _ he⟩

/-- A slice of bools. -/
def EB (_ : World) (cs : List Value) (b : Bool) : Prop := cs = [.bool b]
abbrev RdB (w : World) (v : Value) (bs : List Bool) : Prop := RdS 1 EB w v bs

theorem RdB.at {w : World} {v : Value} {bs : List Bool} (h : RdB w v bs) : ∃ a len cap, v = .slice a len cap ∧ len = bs.length ∧ bs.length ≤ 9223372036854775807 ∧ ∀ j x, bs[j]? = some x → ∃ b off, a = some ⟨b, off, none⟩ ∧ w.cell? ⟨b, off + j, none⟩ = some (.bool x) := by
  obtain ⟨a, len, cap, h1, h2, h3, h4, h5, h6⟩ := h
  refine ⟨a, len, cap, h1, h2, h3, fun j x hj => ?_⟩
  obtain ⟨b, off, cs, ha, hl, hc, rfl⟩ := h6 j x hj
  exact ⟨b, off, ha, by have := hc 0 _ rfl; simpa using this⟩

theorem RdB.later {w w' : World} {v : Value} {bs : List Bool} (h : RdB w v bs) (hb : Below w.heap.size w w') : RdB w' v bs := RdS.below h hb fun _ _ h => h

theorem rdb_of_trod {H : Type} {enc : TypeId × Value → H} {P : Program} {w : World} {spare : Nat → Bool} {held : Bool} {t e : TypeId} {v : Value} {d : DataW H} {ps : List MemPlace}
    (ht : P.underlying t = some (.slice e)) (hu : P.underlying e = some .bool) (hn : P.cellsOf e = 1) (a : Option Addr) (l c : Nat) (hv : v = .slice a l c) (h : DataW.Trod enc P w 0 spare held t v d ps) : ∃ bs, RdB w v bs := by
  obtain ⟨fuel, hf⟩ := h
  subst hv
  refine rds_of_trod ht hn (by omega) hf fun m cs y _ hy => ?_
  obtain ⟨b, rfl, _⟩ := DataW.trod_bool hu hy
  exact ⟨b, rfl⟩

/-- An integer of 64 bits, with its bounds. -/
def EInt (_ : World) (cs : List Value) (n : Int) : Prop := cs = [.int .i64 n] ∧ -9223372036854775808 ≤ n ∧ n ≤ 9223372036854775807

theorem wf_i64 {n : Int} (h : (Lit.int .i64 n).wf = true) : -9223372036854775808 ≤ n ∧ n ≤ 9223372036854775807 := by
  simp [Lit.wf, IntKind.min, IntKind.max, IntKind.signed, IntKind.bits] at h; omega

theorem rdsi_of_trod {H : Type} {enc : TypeId × Value → H} {P : Program} {w : World} {spare : Nat → Bool} {held : Bool} {t e : TypeId} {v : Value} {d : DataW H} {ps : List MemPlace}
    (ht : P.underlying t = some (.slice e)) (hu : P.underlying e = some (.int .i64)) (hn : P.cellsOf e = 1) (hv : ∃ a l c, v = .slice a l c) (h : DataW.Trod enc P w 0 spare held t v d ps) : ∃ xs, RdS 1 EInt w v xs := by
  obtain ⟨fuel, hf⟩ := h
  obtain ⟨a, l, c, rfl⟩ := hv
  refine rds_of_trod ht hn (by omega) hf fun m cs y _ hy => ?_
  obtain ⟨n, rfl, _, hw⟩ := DataW.trod_int hu hy
  exact ⟨n, rfl, wf_i64 hw⟩

theorem rdsb_of_trod {H : Type} {enc : TypeId × Value → H} {P : Program} {w : World} {spare : Nat → Bool} {held : Bool} {t e : TypeId} {v : Value} {d : DataW H} {ps : List MemPlace}
    (ht : P.underlying t = some (.slice e)) (hu : P.underlying e = some .bool) (hn : P.cellsOf e = 1) (hv : ∃ a l c, v = .slice a l c) (h : DataW.Trod enc P w 0 spare held t v d ps) : ∃ bs, RdB w v bs := by
  obtain ⟨a, l, c, rfl⟩ := hv
  exact rdb_of_trod ht hu hn a l c rfl h
end Go.Proofs.Ytbadpfcjoobniaa
