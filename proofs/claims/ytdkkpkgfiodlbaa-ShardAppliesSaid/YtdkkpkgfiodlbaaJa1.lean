/- Texts of one proof, one behind the other: Mem, Maps, Range, Maps2, Args, Data. -/
import Derived.WalkKit
import Derived.Outline
import Derived.Lib.Hide
import Derived.Laws.AppendOwnNone
import Derived.WalkSpells
import Derived.WalkLawsBesides
import Derived.BigQuiet
import Derived.Deep.QuietTactic
import Derived.Deep.RegionWith
import Derived.Deep.RegionHeld3
import Derived.Deep.LoopGhost
import Derived.Deep.DeepFit
import Derived.Deep.RegionLaw
import Derived.StillTailTactics
import Derived.Deep.DeepCutAuto
import Derived.Lib.AppendZeros
import Derived.Maps.Own
import Derived.Maps.Range
import Derived.Deep.Slices
import Derived.ProofKit
import Derived.OpenShut
import Derived.Test.YtdkkpkgfiodlbaaProg
import Derived.KernelRfl
set_option linter.all false
/- Laws on memory that name no program: an append to a row of the call's own, whatever readable slice is appended. -/
namespace Go.Proofs.Ytdkkpkgfiodlbaa
open Go.RowKit
/-- The slice type t has elements e of so many cells and bytes, with this zero value. -/
def Elt (P : Program) (t e : TypeId) (size bytes : Nat) (z : Value) : Prop :=
  P.underlying t = some (.slice e) ∧ 0 < size ∧ z.cells.size = size ∧ ∃ i, P.info? e = some i ∧ i.zero = some z ∧ i.size = size ∧ i.bytes = bytes

/-- The slice value x, of m elements, holds the cells news. -/
def Src (w : World) (x : Value) (size m : Nat) (news : List Value) : Prop :=
  ∃ a c, x = .slice a m c ∧ news.length = m * size ∧ (a = none → m = 0 ∧ c = 0) ∧ ∀ ad, a = some ad → ∀ j u, news[j]? = some u → w.cell? (ad.add j) = some u

theorem addr_add (b off j : Nat) : (⟨b, off, none⟩ : Addr).add j = ⟨b, off + j, none⟩ := by unfold Addr.add; split <;> simp_all

theorem own_src {w : World} {base e size n : Nat} {v : Value} {xs : List Value} (h : w.ownsRow base e size v n xs) : Src w v size n xs := by
  obtain ⟨h1, h2⟩ := id h
  rcases h2 with ⟨hv, h0⟩ | ⟨g, cap, cur, hv, hg, hh, hn, hm, hs, ht⟩
  · subst h0
    exact ⟨none, 0, hv, h1, fun _ => ⟨rfl, rfl⟩, fun ad h => by cases h⟩
  · refine ⟨some ⟨g, 0, none⟩, cap, hv, h1, fun h => (by cases h), fun ad had j u hu => ?_⟩
    cases had
    exact World.ownsRow.cells h (g := g) (by rw [hv]; rfl) j u hu

theorem Src.below {w w' : World} {x : Value} {size m : Nat} {news : List Value} (h : Src w x size m news) (hb : Below w.heap.size w w') : Src w' x size m news := by
  obtain ⟨a, c, h1, h2, h3, h4⟩ := h
  refine ⟨a, c, h1, h2, h3, fun ad had j u hu => ?_⟩
  have := h4 ad had j u hu
  rw [hb.cell (World.block_lt_of_cell? w _ this)]
  exact this

theorem wpList_append_src {P : Program} {w : World} {ops : Array Oper} {rest : List Oper} {o : Oper} {a : Act} {Q : Exit → Act → World → Prop} (hgd : o.guard = none) (s x : Operand) (t : TypeId)
    (ho : o.op = .call { callee := .builtin .append, args := #[s, x], argTypes := #[t, t] })
    {e : TypeId} {size bytes : Nat} {z : Value} (he : Elt P t e size bytes z) (base : Nat)
    {v vx : Value} (n : Nat) (xs : List Value) (hown : w.ownsRow base e size v n xs) (hs : a.eval s = v)
    (m : Nat) (news : List Value) (hsrc : Src w vx size m news) (hx : a.eval x = vx) (h1 : ∀ u ∈ news, u.oneCell' = true)
    (hsz : n + m ≤ 68719476736) (hbytes : bytes ≤ 2048) (hbase : base ≤ w.heap.size)
    (h : ∀ v' w', w'.ownsRow base e size v' (n + m) (xs ++ news) → w.grownBy w' v.ownBlock → (v' = .slice none 0 0 → v = .slice none 0 0) → wpList P ops Q rest (a.put o.dst v') w') : wpList P ops Q (o :: rest) a w := by
  obtain ⟨ht, h0, hzs, i, hi, hz, his, hib⟩ := he
  obtain ⟨ad, c, rfl, hl, hnone, hsome⟩ := hsrc
  cases ad with
  | none =>
    obtain ⟨rfl, rfl⟩ := hnone rfl
    have hn : news = [] := List.length_eq_zero_iff.1 (by simpa using hl)
    subst hn
    refine wpList_append_own_none hgd s x t ho base e i size ht hi v n xs hs hown hx (h v w (by simpa using hown) ⟨rfl, rfl, rfl, Nat.le_refl _, fun _ _ _ => rfl⟩ id)
  | some ad =>
    refine wpList_append_own w hgd s x t ho base e i z size bytes ht hi hz his hib hzs h0 v n xs hs hown ad m c news hx hl (hsome ad rfl) h1 (by simp only [maxLen]; omega) ?_ hbase (fun v' w' a b c => h v' w' a b (fun e => (c.1 e).1))
    exact Nat.le_trans (Nat.mul_le_mul hsz hbytes) (by decide)

theorem wp_append_src {P : Program} {w : World} {o : Oper} {a : Act} {K : Act → World → Prop} {Q : Exit → Act → World → Prop} (s x : Operand) (t : TypeId)
    (ho : o.op = .call { callee := .builtin .append, args := #[s, x], argTypes := #[t, t] })
    {e : TypeId} {size bytes : Nat} {z : Value} (he : Elt P t e size bytes z) (base : Nat)
    {v vx : Value} (n : Nat) (xs : List Value) (hown : w.ownsRow base e size v n xs) (hs : a.eval s = v)
    (m : Nat) (news : List Value) (hsrc : Src w vx size m news) (hx : a.eval x = vx) (h1 : ∀ u ∈ news, u.oneCell' = true)
    (hsz : n + m ≤ 68719476736) (hbytes : bytes ≤ 2048) (hbase : base ≤ w.heap.size)
    (h : ∀ v' w', w'.ownsRow base e size v' (n + m) (xs ++ news) → w.grownBy w' v.ownBlock → (v' = .slice none 0 0 → v = .slice none 0 0) → K (a.put o.dst v') w') : o.wp P a w K Q := by
  obtain ⟨ht, h0, hzs, i, hi, hz, his, hib⟩ := he
  obtain ⟨ad, c, rfl, hl, hnone, hsome⟩ := hsrc
  cases ad with
  | none =>
    obtain ⟨rfl, rfl⟩ := hnone rfl
    have hn : news = [] := List.length_eq_zero_iff.1 (by simpa using hl)
    subst hn
    have hrun := run_append_owned_none (P := P) (w := w) base t o.type e i size ht hi v n xs hown
    unfold Oper.wp
    simp [execOp, ho, resolve, invoke, builtin, hs, hx, hrun, Result.andThen]
    exact h v w (by simpa using hown) ⟨rfl, rfl, rfl, Nat.le_refl _, fun _ _ _ => rfl⟩ id
  | some ad =>
    refine wp_append_own w s x t ho base e i z size bytes ht hi hz his hib hzs h0 v n xs hs hown ad m c news hx hl (hsome ad rfl) h1 (by simp only [maxLen]; omega) ?_ hbase (fun v' w' a b c => h v' w' a b (fun e => (c.1 e).1))
    exact Nat.le_trans (Nat.mul_le_mul hsz hbytes) (by decide)

/-- The same, as a step of a region that draws its order. -/
theorem step_append_src {P : Program} {w : World} {ops : Array Oper} {o : Oper} {a : Act} {K : Act → World → Prop} {Q : Exit → Act → World → Prop} {E : Prop} (hgd : o.guard = none) (s x : Operand) (t : TypeId)
    (ho : o.op = .call { callee := .builtin .append, args := #[s, x], argTypes := #[t, t] })
    {e : TypeId} {size bytes : Nat} {z : Value} (he : Elt P t e size bytes z) (base : Nat)
    {v vx : Value} (n : Nat) (xs : List Value) (hown : w.ownsRow base e size v n xs) (hs : a.eval s = v)
    (m : Nat) (news : List Value) (hsrc : Src w vx size m news) (hx : a.eval x = vx) (h1 : ∀ u ∈ news, u.oneCell' = true)
    (hsz : n + m ≤ 68719476736) (hbytes : bytes ≤ 2048) (hbase : base ≤ w.heap.size)
    (h : ∀ v' w', w'.ownsRow base e size v' (n + m) (xs ++ news) → w.grownBy w' v.ownBlock → (v' = .slice none 0 0 → v = .slice none 0 0) → K (a.put o.dst v') w') :
    if Region.wanted o (yielded ops a.tmps) = true then Oper.wp P o a w K Q else E := by
  have hw : Region.wanted o (yielded ops a.tmps) = true := by simp [Region.wanted, hgd]
  rw [if_pos hw]
  exact wp_append_src s x t ho he base n xs hown hs m news hsrc hx h1 hsz hbytes hbase h

/-- What a law of append or make leaves: nothing below base has turned. -/
theorem below_grown {base : Nat} {w w' : World} {v : Value} (hg : w.grownBy w' v.ownBlock) (hB : base ≤ w.heap.size) (hv : ∀ k, v.ownBlock = some k → base ≤ k) : Below base w w' :=
  (Below.refl base w).grown hg hB hv

theorem ownsRow_grown {base base' e size n : Nat} {w w' : World} {v : Value} {xs : List Value} {r : Option Nat} (h : w.ownsRow base e size v n xs) (hg : w.grownBy w' r) (hr : ∀ k, r = some k → base' ≤ k) (hlt : ∀ k, v.ownBlock = some k → k < base') : w'.ownsRow base e size v n xs :=
  h.kept hg (by
    cases hv : v.ownBlock with
    | none => exact .inl rfl
    | some k => exact .inr (fun e => by have := hr k e.symm; have := hlt k hv; omega))

/-- One element that was just laid in a block of its own. -/
theorem src_new {w : World} {T : TypeId} {cs : Array Value} {n g : Nat} (hn : cs.size = n) (hg : g = w.heap.size) : Src (w.alloc (.cells cs T)) (.slice (some ⟨g, 0, none⟩) 1 1) n 1 cs.toList := by
  subst hg
  refine ⟨some ⟨w.heap.size, 0, none⟩, 1, rfl, by simp [hn], fun h => (by cases h), fun ad had j u hu => ?_⟩
  cases had
  rw [addr_add, World.cell?_alloc_at _ _ _ _ rfl]
  simpa using hu

theorem own_mono {w : World} {b b' e size n : Nat} {v : Value} {xs : List Value} (h : w.ownsRow b e size v n xs) (hb : b' ≤ b) : w.ownsRow b' e size v n xs := by
  obtain ⟨h1, h2⟩ := h
  refine ⟨h1, ?_⟩
  rcases h2 with h2 | ⟨g, cap, cur, hv, hg, r⟩
  · exact .inl h2
  · exact .inr ⟨g, cap, cur, hv, by omega, r⟩

theorem own_below {w w' : World} {b e size n : Nat} {v : Value} {xs : List Value} (h : w.ownsRow b e size v n xs) (hb : Below w.heap.size w w') : w'.ownsRow b e size v n xs := by
  refine ⟨h.1, ?_⟩
  rcases h.2 with h2 | ⟨g, cap, cur, hv, hg, hh, r⟩
  · exact .inl h2
  · exact .inr ⟨g, cap, cur, hv, hg, by rw [hb.block g (Array.getElem?_eq_some_iff.1 hh).1]; exact hh, r⟩

/-- An owned row stays while a block below its base is written. -/
theorem own_keptBelow {w w' : World} {b e size n r : Nat} {v : Value} {xs : List Value} (h : w.ownsRow b e size v n xs) (hg : w.grownBy w' (some r)) (hr : r < b) : w'.ownsRow b e size v n xs :=
  h.kept hg (by
    cases hv : v.ownBlock with
    | none => exact .inl rfl
    | some k => exact .inr (fun e => by have := (h.lt k hv).1; cases e; omega))
end Go.Proofs.Ytdkkpkgfiodlbaa

/- Typed words on a map's block: MapT says that block b is a map that holds just the pairs of a list, each key once. Laws on lookup, store, delete and len. Names no program. -/
namespace Go.Proofs.Ytdkkpkgfiodlbaa
open Go.RowKit Go.MapKept
open Go.Maps (Keyed)
open Go.ChangeMaps (setBlock)
/-- Block b of w is a map whose entries are the pairs of L, keys by eK, elements by eV; each key once. -/
def MapT {κ ν : Type} (P : Program) (k : TypeId) (eK : κ → Value) (eV : ν → Value) (w : World) (b : Nat) (L : List (κ × ν)) : Prop :=
  ∃ es clock, w.heap[b]? = some (.map es clock) ∧ Stamped es clock ∧ (∀ x ∈ es.toList, ∃ kl, keyOf P k x.key = some kl) ∧ es.toList.map (fun x => (x.key, x.val)) = L.map (fun x => (eK x.1, eV x.2))

section lists
variable {κ ν : Type} [DecidableEq κ]
/-- What a list of pairs holds for a key. -/
def getM (L : List (κ × ν)) (x : κ) : Option ν := (L.find? (fun p => decide (p.1 = x))).map (·.2)
/-- The pairs behind a store. -/
def putM (L : List (κ × ν)) (x : κ) (v : ν) : List (κ × ν) := if (getM L x).isSome then L.map (fun p => if p.1 = x then (x, v) else p) else L ++ [(x, v)]
/-- The pairs behind a delete. -/
def delM (L : List (κ × ν)) (x : κ) : List (κ × ν) := L.filter (fun p => decide (p.1 ≠ x))

theorem getM_none {L : List (κ × ν)} {x : κ} : getM L x = none ↔ ∀ p ∈ L, p.1 ≠ x := by simp [getM]

theorem getM_some {L : List (κ × ν)} {x : κ} {v : ν} (h : getM L x = some v) : (x, v) ∈ L := by
  unfold getM at h
  rw [Option.map_eq_some_iff] at h
  obtain ⟨p, hp, rfl⟩ := h
  have h1 := List.mem_of_find?_eq_some hp
  have h2 := List.find?_some hp
  simp at h2
  subst h2
  exact h1

theorem getM_nil (x : κ) : getM ([] : List (κ × ν)) x = none := rfl

theorem getM_cons (p : κ × ν) (L : List (κ × ν)) (x : κ) : getM (p :: L) x = if p.1 = x then some p.2 else getM L x := by
  unfold getM; rw [List.find?_cons]; by_cases h : p.1 = x <;> simp [h]

theorem getM_append (L M : List (κ × ν)) (x : κ) : getM (L ++ M) x = (getM L x).or (getM M x) := by
  induction L with
  | nil => simp [getM_nil]
  | cons p L ih => rw [List.cons_append, getM_cons, getM_cons]; split <;> simp [ih]

theorem getM_map_put (L : List (κ × ν)) (x y : κ) (v : ν) : getM (L.map (fun p => if p.1 = x then (x, v) else p)) y = if x = y then (getM L x).map (fun _ => v) else getM L y := by
  induction L with
  | nil => by_cases h : x = y <;> simp [getM_nil, h]
  | cons p L ih =>
    rw [List.map_cons, getM_cons, ih, getM_cons, getM_cons]
    by_cases h : x = y
    · subst h
      by_cases hp : p.1 = x <;> simp [hp]
    · by_cases hp : p.1 = x
      · simp [hp, h]
      · simp [hp, h]

theorem getM_put (L : List (κ × ν)) (x y : κ) (v : ν) : getM (putM L x v) y = if x = y then some v else getM L y := by
  unfold putM
  split
  · rename_i h
    rw [getM_map_put]
    by_cases hxy : x = y
    · subst hxy
      obtain ⟨u, hu⟩ := Option.isSome_iff_exists.1 h
      simp [hu]
    · simp [hxy]
  · rename_i h
    rw [getM_append, getM_cons, getM_nil]
    by_cases hxy : x = y
    · subst hxy
      simp at h; simp [h]
    · simp [hxy]

theorem putM_length (L : List (κ × ν)) (x : κ) (v : ν) : (putM L x v).length = L.length + if (getM L x).isSome then 0 else 1 := by
  unfold putM; split <;> simp

theorem getM_del (L : List (κ × ν)) (x y : κ) : getM (delM L x) y = if x = y then none else getM L y := by
  unfold delM
  induction L with
  | nil => simp [getM_nil]
  | cons p L ih =>
    rw [List.filter_cons]
    by_cases hp : p.1 = x
    · simp only [hp, ne_eq, not_true_eq_false, decide_false, Bool.false_eq_true, if_false]
      rw [ih, getM_cons]
      by_cases hxy : x = y
      · simp [hxy]
      · simp [hp, hxy]
    · simp only [hp, ne_eq, not_false_eq_true, decide_true, if_true]
      rw [getM_cons, getM_cons, ih]
      by_cases hxy : x = y
      · subst hxy; simp [hp]
      · simp [hxy]
end lists
section laws0
variable {κ ν : Type} {P : Program} {k e t : TypeId} {eK : κ → Value} {eV : ν → Value} {w : World} {b : Nat} {L : List (κ × ν)}

theorem MapT.lt (h : MapT P k eK eV w b L) : b < w.heap.size := by
  obtain ⟨es, clock, hb, _⟩ := h; exact (Array.getElem?_eq_some_iff.1 hb).1

theorem MapT.frame {w' : World} (h : MapT P k eK eV w b L) (hw : w'.heap[b]? = w.heap[b]?) : MapT P k eK eV w' b L := by
  obtain ⟨es, clock, hb, r⟩ := h; exact ⟨es, clock, hw.trans hb, r⟩

theorem MapT.below {w' : World} {B : Nat} (h : MapT P k eK eV w b L) (hw : Below B w w') (hb : b < B) : MapT P k eK eV w' b L := h.frame (hw.block b hb)

theorem MapT.kept {w' : World} {row : Option Nat} (h : MapT P k eK eV w b L) (hg : w.grownBy w' row) (hne : some b ≠ row) : MapT P k eK eV w' b L :=
  h.frame (hg.block b h.lt hne)

theorem MapT.made (w : World) : MapT P k eK eV (w.alloc (.map #[] 0)) w.heap.size ([] : List (κ × ν)) :=
  ⟨#[], 0, (MapKept.heap_alloc w _).1, stamped_empty 0, by simp, rfl⟩

theorem MapT.size (h : MapT P k eK eV w b L) : ∃ es clock, w.heap[b]? = some (.map es clock) ∧ es.size = L.length := by
  obtain ⟨es, clock, hb, _, _, hL⟩ := h
  refine ⟨es, clock, hb, ?_⟩
  have := congrArg List.length hL
  simpa using this
end laws0
section laws
variable {κ ν : Type} [DecidableEq κ] {P : Program} {k e t : TypeId} {eK : κ → Value} {eV : ν → Value} {w : World} {b : Nat} {L : List (κ × ν)}
/-- Where a key stands among the entries. -/
theorem MapT.find (hK : Keyed P k) (hinj : ∀ x y, eK x = eK y → x = y) (h : MapT P k eK eV w b L) (x : κ) {kl : Lit} (hx : keyOf P k (eK x) = some kl) :
    ∃ es clock, w.heap[b]? = some (.map es clock) ∧ Stamped es clock ∧ (∀ y ∈ es.toList, ∃ kl, keyOf P k y.key = some kl) ∧ es.toList.map (fun y => (y.key, y.val)) = L.map (fun y => (eK y.1, eV y.2)) ∧
      ((∀ w, (Instr.findKey k (eK x) es.toList).run P w = .ok none w) ∧ getM L x = none ∧ (∀ y ∈ es.toList, y.key ≠ eK x) ∨
       ∃ j e0 v, (∀ w, (Instr.findKey k (eK x) es.toList).run P w = .ok (some (j, e0.val)) w) ∧ es.toList[j]? = some e0 ∧ e0.key = eK x ∧ L[j]? = some (x, v) ∧ e0.val = eV v ∧ getM L x = some v ∧ ∀ i p, L[i]? = some p → p.1 = x → i = j) := by
  obtain ⟨es, clock, hb, hs, hk, hL⟩ := h
  refine ⟨es, clock, hb, hs, hk, hL, ?_⟩
  have key : ∀ w1, ((Instr.findKey k (eK x) es.toList).run P w1 = .ok none w1 ∧ ∀ y ∈ es.toList, y.key ≠ eK x) ∨ ∃ j e0, (Instr.findKey k (eK x) es.toList).run P w1 = .ok (some (j, e0.val)) w1 ∧ es.toList[j]? = some e0 ∧ e0.key = eK x := fun w1 => hK.find w1 hx es.toList hk
  have uniq : ∀ (i j : Nat) (a c : MapEntry), es.toList[i]? = some a → es.toList[j]? = some c → a.key = c.key → i = j := by
    intro i j a c hi hj hac
    have hn := List.pairwise_iff_getElem.1 ((stamped_iff es clock).1 hs).2.2
    obtain ⟨hi1, hi2⟩ := List.getElem?_eq_some_iff.1 hi
    obtain ⟨hj1, hj2⟩ := List.getElem?_eq_some_iff.1 hj
    rcases Nat.lt_trichotomy i j with hlt | rfl | hlt
    · exact absurd (by rw [hi2, hj2]; exact hac) (hn i j hi1 hj1 hlt)
    · rfl
    · exact absurd (by rw [hi2, hj2]; exact hac.symm) (hn j i hj1 hi1 hlt)
  rcases key w with ⟨h1, h2⟩ | ⟨j, e0, h1, h2, h3⟩
  · refine .inl ⟨fun w1 => ?_, ?_, h2⟩
    · rcases key w1 with ⟨h, _⟩ | ⟨j, e0, _, h2', h3'⟩
      · exact h
      · exact absurd h3' (h2 e0 (List.mem_of_getElem? h2'))
    · rw [getM_none]
      intro p hp hpx
      obtain ⟨i, hi⟩ := List.mem_iff_getElem?.1 hp
      have : (L.map (fun y => (eK y.1, eV y.2)))[i]? = some (eK p.1, eV p.2) := by simp [hi]
      rw [← hL, List.getElem?_map] at this
      cases hes : es.toList[i]? with
      | none => simp [hes] at this
      | some a =>
        simp only [hes, Option.map_some, Option.some.injEq, Prod.mk.injEq] at this
        exact h2 a (List.mem_of_getElem? hes) (by rw [this.1, hpx])
  · have hLj : ∃ v, L[j]? = some (x, v) ∧ e0.val = eV v := by
      have : (es.toList.map (fun y => (y.key, y.val)))[j]? = some (e0.key, e0.val) := by simp [h2]
      rw [hL, List.getElem?_map] at this
      cases hl : L[j]? with
      | none => simp [hl] at this
      | some p =>
        simp only [hl, Option.map_some, Option.some.injEq, Prod.mk.injEq] at this
        have hp : p.1 = x := hinj _ _ (this.1.trans h3)
        exact ⟨p.2, by rw [← hp], this.2.symm⟩
    obtain ⟨v, hv1, hv2⟩ := hLj
    have huniq : ∀ i p, L[i]? = some p → p.1 = x → i = j := by
      intro i p hi hpx
      have : (L.map (fun y => (eK y.1, eV y.2)))[i]? = some (eK p.1, eV p.2) := by simp [hi]
      rw [← hL, List.getElem?_map] at this
      cases hes : es.toList[i]? with
      | none => simp [hes] at this
      | some a =>
        simp only [hes, Option.map_some, Option.some.injEq, Prod.mk.injEq] at this
        exact uniq i j a e0 hes h2 (by rw [this.1, hpx, h3])
    refine .inr ⟨j, e0, v, fun w1 => ?_, h2, h3, hv1, hv2, ?_, huniq⟩
    · rcases key w1 with ⟨_, h⟩ | ⟨j', e0', h, h2', h3'⟩
      · exact absurd h3 (h e0 (List.mem_of_getElem? h2))
      · have := uniq j' j e0' e0 h2' h2 (h3'.trans h3.symm)
        subst this
        rw [h2] at h2'; cases h2'
        exact h
    · cases hg : getM L x with
      | none => exact absurd rfl (getM_none.1 hg (x, v) (List.mem_of_getElem? hv1))
      | some u =>
        obtain ⟨i, hi⟩ := List.mem_iff_getElem?.1 (getM_some hg)
        have := huniq i _ hi rfl
        subst this
        rw [hv1] at hi; cases hi; rfl

/-- m[x] and m[x] with ok. -/
theorem MapT.lookup (hK : Keyed P k) (hinj : ∀ x y, eK x = eK y → x = y) (ht : P.underlying t = some (.map k e)) (h : MapT P k eK eV w b L) (x : κ) {kl : Lit} (hx : keyOf P k (eK x) = some kl) {z : Value} (hz : (zeroValue e).run P w = .ok z w) :
    (Instr.lookup t (.map (some b)) (eK x) false).run P w = .ok (((getM L x).map eV).getD z) w ∧ (Instr.lookup t (.map (some b)) (eK x) true).run P w = .ok (.tuple #[((getM L x).map eV).getD z, .bool (getM L x).isSome]) w := by
  obtain ⟨es, clock, hb, _, _, _, h1 | ⟨j, e0, v, h1, h2, h3, h4, h5, h6, _⟩⟩ := h.find hK hinj x hx
  · constructor <;> simp [Instr.lookup, run_underlying ht, MapKept.run_getObj_map hb, hK.check w _ hx, h1.1 w, hz, Result.andThen, h1.2.1]
  · constructor <;> simp [Instr.lookup, run_underlying ht, MapKept.run_getObj_map hb, hK.check w _ hx, h1 w, Result.andThen, h6, h5]

/-- m[x] = v. -/
theorem MapT.update (hK : Keyed P k) (hinj : ∀ x y, eK x = eK y → x = y) (ht : P.underlying t = some (.map k e)) (h : MapT P k eK eV w b L) (x : κ) {kl : Lit} (hx : keyOf P k (eK x) = some kl) (v : ν) :
    ∃ w', (Instr.mapUpdate t (.map (some b)) (eK x) (eV v)).run P w = .ok () w' ∧ MapT P k eK eV w' b (putM L x v) ∧ w.grownBy w' (some b) := by
  obtain ⟨es, clock, hb, hs, hk, hL, h1 | ⟨j, e0, u, h1, h2, h3, h4, h5, h6, hu⟩⟩ := h.find hK hinj x hx
  · refine ⟨setBlock w b (.map (es.push ⟨eK x, eV v, clock⟩) (clock + 1)), ?_, ⟨_, _, ChangeMaps.heap_setBlock_same hb _, stamped_push hs h1.2.2, ?_, ?_⟩, ⟨rfl, rfl, rfl, by simp [setBlock], fun i _ hi => ChangeMaps.heap_setBlock_other hb _ (fun e => hi (by rw [e]))⟩⟩
    · simp [Instr.mapUpdate, run_underlying ht, MapKept.run_getObj_map hb, hK.check w false hx, h1.1 w, MapKept.run_setObj_map _ hb, Result.andThen, setBlock]
    · intro y hy
      simp only [Array.toList_push, List.mem_append, List.mem_singleton] at hy
      rcases hy with hy | rfl
      · exact hk y hy
      · exact ⟨kl, hx⟩
    · have : putM L x v = L ++ [(x, v)] := by unfold putM; rw [h1.2.1]; rfl
      rw [this, List.map_append, ← hL]; simp
  · have hj : es[j]? = some e0 := by simpa using h2
    have hlist : (es.modify j (fun e' => { e' with key := eK x, val := eV v })).toList = es.toList.set j { e0 with key := eK x, val := eV v } := by
      rw [Array.toList_modify, ChangeMaps.modify_eq_set _ _ _ _ h2]
    have hkeyf : ∀ e', es[j]? = some e' → ({ e' with key := eK x, val := eV v } : MapEntry).key = e'.key := fun e' he' => by rw [hj] at he'; cases he'; exact h3.symm
    refine ⟨setBlock w b (.map (es.modify j (fun e' => { e' with key := eK x, val := eV v })) clock), ?_, ⟨_, _, ChangeMaps.heap_setBlock_same hb _, stamped_modify hs _ _ (fun _ _ => rfl) (fun e' _ he' => hkeyf e' he'), ?_, ?_⟩, ⟨rfl, rfl, rfl, by simp [setBlock], fun i _ hi => ChangeMaps.heap_setBlock_other hb _ (fun e => hi (by rw [e]))⟩⟩
    · simp [Instr.mapUpdate, run_underlying ht, MapKept.run_getObj_map hb, hK.check w false hx, h1 w, hj, h3, hK.stays w hx, MapKept.run_setObj_map _ hb, Result.andThen, setBlock]
    · intro y hy
      rw [hlist] at hy
      rcases List.mem_or_eq_of_mem_set hy with hy | rfl
      · exact hk y hy
      · exact ⟨kl, hx⟩
    · have hp : putM L x v = L.map (fun p => if p.1 = x then (x, v) else p) := by unfold putM; rw [h6]; rfl
      rw [hp, hlist, List.map_set, hL]
      apply List.ext_getElem?
      intro i
      rw [List.getElem?_set, List.getElem?_map, List.getElem?_map, List.getElem?_map]
      by_cases hij : j = i
      · subst hij
        obtain ⟨hjl, hje⟩ := List.getElem?_eq_some_iff.1 h4
        simp [hjl, hje]
      · simp only [hij, if_false]
        cases hl : L[i]? with
        | none => rfl
        | some p =>
          have : ¬ p.1 = x := fun e => hij (hu i p hl e).symm
          simp [this]

/-- m[x] = v at the operation, for the walk. -/
theorem wpList_mapUpdate_T {ops : Array Oper} {rest : List Oper} {o : Oper} {a : Act} {Q : Exit → Act → World → Prop} (hg : o.guard = none) (m x v : Operand) (hop : o.op = Op.mapUpdate t m x v)
    (hK : Keyed P k) (hinj : ∀ x y, eK x = eK y → x = y) (ht : P.underlying t = some (.map k e)) (hT : MapT P k eK eV w b L) (hm : a.eval m = .map (some b)) (key : κ) {kl : Lit} (hkl : keyOf P k (eK key) = some kl) (hx : a.eval x = eK key)
    (val : ν) (hv : a.eval v = eV val) (h : ∀ w', MapT P k eK eV w' b (putM L key val) → w.grownBy w' (some b) → wpList P ops Q rest (a.put o.dst undef) w') :
    wpList P ops Q (o :: rest) a w := by
  refine wpList_plain hg fun K' hK' => ?_
  obtain ⟨w', hrun, r1, r2⟩ := hT.update hK hinj ht key hkl val
  unfold Oper.wp
  simp [execOp, hop, hm, hx, hv, hrun, Result.andThen]
  exact hK' _ _ (h w' r1 r2)
end laws
end Go.Proofs.Ytdkkpkgfiodlbaa

/- 'for k, v := range m' over a typed map (MapT), in the order of the tape. Names no program. -/
namespace Go.Proofs.Ytdkkpkgfiodlbaa
open Go.RowKit Go.MapKept
open Go.Maps (Keyed)
open Go.ChangeMaps (setBlock)
/-- Block b is a map that holds L, block r an iterator over it, and the pairs of V have come out, in this order. -/
def RangeT {κ ν : Type} (P : Program) (k : TypeId) (eK : κ → Value) (eV : ν → Value) (w : World) (b r : Nat) (L V : List (κ × ν)) : Prop :=
  ∃ es clock since seen c0, w.heap[b]? = some (.map es clock) ∧ Stamped es clock ∧ (∀ x ∈ es.toList, ∃ kl, keyOf P k x.key = some kl) ∧ es.toList.map (fun x => (x.key, x.val)) = L.map (fun x => (eK x.1, eV x.2)) ∧
    w.heap[r]? = some (.mapIter (some b) since seen c0) ∧ (∀ x ∈ es.toList, x.born < since) ∧ since ≤ c0 ∧ since ≤ clock ∧
    (∀ (i : Nat) (x : MapEntry) (p : κ × ν), es.toList[i]? = some x → L[i]? = some p → (seen.contains x.born = true ↔ p ∈ V)) ∧ (∀ p ∈ V, p ∈ L) ∧ V.Pairwise (fun p q => p.1 ≠ q.1)

section laws
variable {κ ν : Type} {P : Program} {k e t : TypeId} {eK : κ → Value} {eV : ν → Value} {w : World} {b r : Nat} {L V : List (κ × ν)}

theorem RangeT.map (h : RangeT P k eK eV w b r L V) : MapT P k eK eV w b L := by
  obtain ⟨es, clock, _, _, _, h1, h2, h3, h4, _⟩ := h; exact ⟨es, clock, h1, h2, h3, h4⟩
theorem RangeT.lt (h : RangeT P k eK eV w b r L V) : r < w.heap.size := by
  obtain ⟨es, clock, since, seen, c0, _, _, _, _, hr, _⟩ := h
  exact (Array.getElem?_eq_some_iff.1 hr).1
theorem RangeT.ne (h : RangeT P k eK eV w b r L V) : r ≠ b := by
  obtain ⟨es, clock, since, seen, c0, hb, _, _, _, hr, _⟩ := h
  intro e
  rw [e, hb] at hr
  cases hr
theorem RangeT.frame {w' : World} (h : RangeT P k eK eV w b r L V) (hb : w'.heap[b]? = w.heap[b]?) (hr : w'.heap[r]? = w.heap[r]?) : RangeT P k eK eV w' b r L V := by
  obtain ⟨es, clock, since, seen, c0, h1, h2, h3, h4, h5, rest⟩ := h
  exact ⟨es, clock, since, seen, c0, hb.trans h1, h2, h3, h4, hr.trans h5, rest⟩

theorem rangeLeft_frame {w' : World} (hb : w'.heap[b]? = w.heap[b]?) (hr : w'.heap[r]? = w.heap[r]?) : w'.rangeLeft b r = w.rangeLeft b r := by unfold World.rangeLeft; rw [hb, hr]
theorem MapT.keyed (h : MapT P k eK eV w b L) {p : κ × ν} (hp : p ∈ L) : ∃ kl, keyOf P k (eK p.1) = some kl := by
  obtain ⟨es, clock, hb, hs, hk, hL⟩ := h
  have : (eK p.1, eV p.2) ∈ L.map (fun x => (eK x.1, eV x.2)) := List.mem_map.2 ⟨p, hp, rfl⟩
  rw [← hL, List.mem_map] at this
  obtain ⟨x, hx, hxe⟩ := this
  simp only [Prod.mk.injEq] at hxe
  rw [← hxe.1]
  exact hk x hx
theorem MapT.pairwise (h : MapT P k eK eV w b L) : L.Pairwise (fun p q => p.1 ≠ q.1) := by
  obtain ⟨es, clock, hb, hs, hk, hL⟩ := h
  have hlen : es.toList.length = L.length := by simpa using congrArg List.length hL
  have hn := List.pairwise_iff_getElem.1 ((stamped_iff es clock).1 hs).2.2
  rw [List.pairwise_iff_getElem]
  intro i j hi hj hlt he
  have key : ∀ (n : Nat) (h1 : n < L.length), (es.toList[n]'(by omega)).key = eK (L[n]).1 := by
    intro n h1
    have h2 : (es.toList.map (fun y => (y.key, y.val)))[n]? = some ((es.toList[n]'(by omega)).key, (es.toList[n]'(by omega)).val) := by simp [List.getElem?_eq_getElem (by omega : n < es.toList.length)]
    rw [hL, List.getElem?_map, List.getElem?_eq_getElem h1] at h2
    simp only [Option.map_some, Option.some.injEq, Prod.mk.injEq] at h2
    exact h2.1.symm
  exact hn i j (by omega) (by omega) hlt (by rw [key i hi, key j hj, he])

/-- 'range m'. -/
theorem MapT.range (h : MapT P k eK eV w b L) (ht : P.underlying t = some (.map k e)) :
    ∃ w', (Instr.range t (.map (some b))).run P w = .ok (.pointer (some ⟨w.heap.size, 0, none⟩)) w' ∧ RangeT P k eK eV w' b w.heap.size L [] ∧ w.grownBy w' none ∧ w'.heap.size = w.heap.size + 1 := by
  have hlt := h.lt
  obtain ⟨es, clock, hb, hs, hk, hL⟩ := h
  refine ⟨_, run_range_map w t k e b es clock ht hb, ⟨es, clock, clock, #[], clock, ((MapKept.heap_alloc w _).2 b hlt).trans hb, hs, hk, hL, (MapKept.heap_alloc w _).1, hs.1, Nat.le_refl _, Nat.le_refl _, ?_, (fun p hp => by cases hp), List.Pairwise.nil⟩, World.grownBy_alloc w _ none, by simp⟩
  intro i x p _ _
  simp

theorem RangeT.key_uniq (h : MapT P k eK eV w b L) {p q : κ × ν} (hp : p ∈ L) (hq : q ∈ L) (hpq : p.1 = q.1) : p = q := by
  obtain ⟨es, clock, hb, hs, hk, hL⟩ := h
  obtain ⟨i, hi⟩ := List.mem_iff_getElem?.1 hp
  obtain ⟨j, hj⟩ := List.mem_iff_getElem?.1 hq
  have hlen : es.toList.length = L.length := by simpa using congrArg List.length hL
  have hi1 := (List.getElem?_eq_some_iff.1 hi).1
  have hj1 := (List.getElem?_eq_some_iff.1 hj).1
  have ei : (es.toList[i]'(by omega)).key = eK p.1 := by
    have h1 : (L.map (fun y => (eK y.1, eV y.2)))[i]? = some (eK p.1, eV p.2) := by simp [hi]
    rw [← hL, List.getElem?_map, List.getElem?_eq_getElem (by omega : i < es.toList.length)] at h1
    simpa using congrArg (fun o => o.map (·.1)) h1
  have ej : (es.toList[j]'(by omega)).key = eK q.1 := by
    have h1 : (L.map (fun y => (eK y.1, eV y.2)))[j]? = some (eK q.1, eV q.2) := by simp [hj]
    rw [← hL, List.getElem?_map, List.getElem?_eq_getElem (by omega : j < es.toList.length)] at h1
    simpa using congrArg (fun o => o.map (·.1)) h1
  have hn := List.pairwise_iff_getElem.1 ((stamped_iff es clock).1 hs).2.2
  rcases Nat.lt_trichotomy i j with hlt | rfl | hlt
  · exact absurd (by rw [ei, ej, hpq]) (hn i j (by omega) (by omega) hlt)
  · rw [hi] at hj; cases hj; rfl
  · exact absurd (by rw [ei, ej, hpq]) (hn j i (by omega) (by omega) hlt)

/-- The step. -/
theorem RangeT.next (hinj : ∀ x y, eK x = eK y → x = y) (h : RangeT P k eK eV w b r L V) (ty : TypeId) :
    ((∀ p ∈ L, p ∈ V) ∧ (Instr.next (.pointer (some ⟨r, 0, none⟩)) false ty).run P w = .ok (.tuple #[.bool false]) w) ∨
    ∃ p w', p ∈ L ∧ (∀ q ∈ V, q.1 ≠ p.1) ∧ (Instr.next (.pointer (some ⟨r, 0, none⟩)) false ty).run P w = .ok (.tuple #[.bool true, eK p.1, eV p.2]) w' ∧
      RangeT P k eK eV w' b r L (V ++ [p]) ∧ w'.rangeLeft b r < w.rangeLeft b r ∧ w.grownBy w' (some r) ∧ w'.heap.size = w.heap.size ∧ (Instr.entry (.pointer (some ⟨r, 0, none⟩))).run P w' = .ok (.tuple #[eK p.1, eV p.2]) w' := by
  have hne := h.ne
  have hmap := h.map
  obtain ⟨es, clock, since, seen, c0, hb, hs, hk, hL, hr, hold, hsc, hsk, hseen, hsub, hpw⟩ := h
  have hlen : es.toList.length = L.length := by simpa using congrArg List.length hL
  have entry : ∀ (i : Nat) (x : MapEntry) (p : κ × ν), es.toList[i]? = some x → L[i]? = some p → x.key = eK p.1 ∧ x.val = eV p.2 := by
    intro i x p hx hp
    have h1 : (es.toList.map (fun y => (y.key, y.val)))[i]? = some (x.key, x.val) := by simp [hx]
    rw [hL] at h1
    simp [hp] at h1
    exact ⟨h1.1.symm, h1.2.symm⟩
  rcases run_next_at (P := P) w ty r b since c0 seen es clock hr hb hold hsc with ⟨h0, hrun⟩ | ⟨x, hx, w1, hal, hrun⟩
  · refine .inl ⟨fun p hp => ?_, hrun⟩
    obtain ⟨i, hi⟩ := List.mem_iff_getElem?.1 hp
    have hi1 := (List.getElem?_eq_some_iff.1 hi).1
    obtain ⟨x, hx⟩ : ∃ x, es.toList[i]? = some x := ⟨_, List.getElem?_eq_getElem (by omega)⟩
    exact (hseen i x p hx hi).1 (all_seen es seen h0 x (List.mem_of_getElem? hx))
  · obtain ⟨hem, hes⟩ := mem_left hx
    obtain ⟨i, hi⟩ := List.mem_iff_getElem?.1 hem
    have hi1 := (List.getElem?_eq_some_iff.1 hi).1
    obtain ⟨p, hp⟩ : ∃ p, L[i]? = some p := ⟨_, List.getElem?_eq_getElem (by omega)⟩
    obtain ⟨ek, ev⟩ := entry i x p hi hp
    have hpV : p ∉ V := fun h => by
      have := (hseen i x p hi hp).2 h
      rw [hes] at this; cases this
    have hr1 : w1.heap[r]? = some (.mapIter (some b) since seen c0) := by rcases hal with rfl | rfl <;> exact hr
    have hb1 : w1.heap[b]? = some (.map es clock) := by rcases hal with rfl | rfl <;> exact hb
    have hset := heap_set (o' := .mapIter (some b) since (seen.push x.born) clock) hr1
    have hb' : (setBlock w1 r (.mapIter (some b) since (seen.push x.born) clock)).heap[b]? = some (.map es clock) := (hset.2 b (fun e1 => hne e1.symm)).trans hb1
    have hfresh : ∀ q ∈ V, q.1 ≠ p.1 := fun q hq hqp => hpV (RangeT.key_uniq hmap (hsub q hq) (List.mem_of_getElem? hp) hqp ▸ hq)
    have hbi := ((stamped_iff es clock).1 hs).2.1
    refine .inr ⟨p, _, List.mem_of_getElem? hp, hfresh, by rw [← ek, ← ev]; exact hrun,
      ⟨es, clock, since, seen.push x.born, clock, hb', hs, hk, hL, hset.1, hold, hsk, hsk, ?_, ?_, ?_⟩, ?_, ?_, ?_, by rw [← ek, ← ev]; exact run_entry_at _ r b since seen es clock x hset.1 hb' hem hbi⟩
    · intro j y q hy hq
      rw [contains_push, List.mem_append, List.mem_singleton, Bool.or_eq_true, hseen j y q hy hq]
      constructor
      · rintro (h | h)
        · exact .inl h
        · have hyx : y = x := born_inj hbi (List.mem_of_getElem? hy) hem (by simpa using h)
          right
          have e1 := (entry j y q hy hq).1
          have : q.1 = p.1 := hinj _ _ (by rw [← e1, ← ek, hyx])
          exact RangeT.key_uniq hmap (List.mem_of_getElem? hq) (List.mem_of_getElem? hp) this
      · rintro (h | h)
        · exact .inl h
        · right
          subst h
          have hji : y.key = x.key := by rw [(entry j y q hy hq).1, ek]
          have := entry_eq_of_key ((stamped_iff es clock).1 hs).2.2 (List.mem_of_getElem? hy) hem hji
          simp [this]
    · intro q hq
      rw [List.mem_append, List.mem_singleton] at hq
      rcases hq with hq | rfl
      · exact hsub q hq
      · exact List.mem_of_getElem? hp
    · rw [List.pairwise_append]
      exact ⟨hpw, List.pairwise_singleton _ _, fun q hq q' hq' => by simp at hq'; subst hq'; exact hfresh q hq⟩
    · unfold World.rangeLeft
      rw [hb', hb, hr, show (setBlock w1 r (.mapIter (some b) since (seen.push x.born) clock)).heap[r]? = _ from hset.1]
      exact left_shrinks es seen x hx
    · rcases hal with rfl | rfl <;> exact ⟨rfl, rfl, rfl, by simp [setBlock], fun i _ hi => hset.2 i (fun e1 => hi (by rw [e1]))⟩
    · rcases hal with rfl | rfl <;> simp [setBlock]
end laws
end Go.Proofs.Ytdkkpkgfiodlbaa

/- More on typed maps: m[k] = append(m[k], ..) (an entry found, then stored), delete. Names no program. -/
namespace Go.Proofs.Ytdkkpkgfiodlbaa
open Go.RowKit Go.MapKept
open Go.Maps (Keyed)
open Go.ChangeMaps (setBlock)
/-- Block b is a map that holds L, and the entry at key x bears this stamp. -/
def EntryT {κ ν : Type} (P : Program) (k : TypeId) (eK : κ → Value) (eV : ν → Value) (w : World) (b : Nat) (L : List (κ × ν)) (x : κ) (stamp : Nat) : Prop :=
  ∃ (es : Array MapEntry) (clock j : Nat) (e0 : MapEntry), w.heap[b]? = some (.map es clock) ∧ Stamped es clock ∧ (∀ y ∈ es.toList, ∃ kl, keyOf P k y.key = some kl) ∧ es.toList.map (fun y => (y.key, y.val)) = L.map (fun y => (eK y.1, eV y.2)) ∧
    es.toList[j]? = some e0 ∧ e0.key = eK x ∧ e0.born = stamp

section laws0
variable {κ ν : Type} {P : Program} {k : TypeId} {eK : κ → Value} {eV : ν → Value} {w : World} {b : Nat} {L : List (κ × ν)}

theorem EntryT.map {x : κ} {stamp : Nat} (h : EntryT P k eK eV w b L x stamp) : MapT P k eK eV w b L := by
  obtain ⟨es, clock, j, e0, h1, h2, h3, h4, _⟩ := h; exact ⟨es, clock, h1, h2, h3, h4⟩
theorem EntryT.frame {w' : World} {x : κ} {stamp : Nat} (h : EntryT P k eK eV w b L x stamp) (hw : w'.heap[b]? = w.heap[b]?) : EntryT P k eK eV w' b L x stamp := by
  obtain ⟨es, clock, j, e0, hb, r⟩ := h; exact ⟨es, clock, j, e0, hw.trans hb, r⟩
end laws0
section laws
variable {κ ν : Type} [DecidableEq κ] {P : Program} {k e t : TypeId} {eK : κ → Value} {eV : ν → Value} {w : World} {b : Nat} {L : List (κ × ν)}

theorem putM_same {x : κ} {v : ν} (hp : L.Pairwise (fun p q => p.1 ≠ q.1)) (h : getM L x = some v) : putM L x v = L := by
  unfold putM
  rw [h]
  simp only [Option.isSome_some, if_true]
  have hm := getM_some h
  have : ∀ p ∈ L, (if p.1 = x then (x, v) else p) = p := by
    intro p hpL
    by_cases hx : p.1 = x
    · rw [if_pos hx]
      obtain ⟨i, hi⟩ := List.mem_iff_getElem?.1 hpL
      obtain ⟨j, hj⟩ := List.mem_iff_getElem?.1 hm
      obtain ⟨hi1, hi2⟩ := List.getElem?_eq_some_iff.1 hi
      obtain ⟨hj1, hj2⟩ := List.getElem?_eq_some_iff.1 hj
      have hn := List.pairwise_iff_getElem.1 hp
      rcases Nat.lt_trichotomy i j with hlt | rfl | hlt
      · exact absurd (by rw [hi2, hj2]; exact hx) (hn i j hi1 hj1 hlt)
      · rw [hi] at hj; cases hj; rfl
      · exact absurd (by rw [hi2, hj2]; exact hx.symm) (hn j i hj1 hi1 hlt)
    · rw [if_neg hx]
  rw [List.map_congr_left this]; simp

/-- m[x], found or laid, to be stored to. -/
theorem MapT.mapEntry (hK : Keyed P k) (hinj : ∀ x y, eK x = eK y → x = y) (ht : P.underlying t = some (.map k e)) (h : MapT P k eK eV w b L) (x : κ) {kl : Lit} (hx : keyOf P k (eK x) = some kl) (z : ν) (hz : (zeroValue e).run P w = .ok (eV z) w) :
    ∃ w' stamp, (Instr.mapEntry t (.map (some b)) (eK x)).run P w = .ok (.tuple #[eV ((getM L x).getD z), goInt (stamp : Nat)]) w' ∧ EntryT P k eK eV w' b (putM L x ((getM L x).getD z)) x stamp ∧ w.grownBy w' (some b) ∧ w'.heap.size = w.heap.size := by
  obtain ⟨es, clock, hb, hs, hk, hL, h1 | ⟨j, e0, u, h1, h2, h3, h4, h5, h6, hu⟩⟩ := h.find hK hinj x hx
  · refine ⟨setBlock w b (.map (es.push ⟨eK x, eV z, clock⟩) (clock + 1)), clock, ?_, ⟨_, _, es.size, ⟨eK x, eV z, clock⟩, ChangeMaps.heap_setBlock_same hb _, stamped_push hs h1.2.2, ?_, ?_, ?_, rfl, rfl⟩, ⟨rfl, rfl, rfl, by simp [setBlock], fun i _ hi => ChangeMaps.heap_setBlock_other hb _ (fun e => hi (by rw [e]))⟩, by simp [setBlock]⟩
    · rw [h1.2.1]
      simp [Instr.mapEntry, run_underlying ht, MapKept.run_getObj_map hb, hK.check w false hx, h1.1 w, hz, MapKept.run_setObj_map _ hb, Result.andThen, setBlock]
    · intro y hy
      simp only [Array.toList_push, List.mem_append, List.mem_singleton] at hy
      rcases hy with hy | rfl
      · exact hk y hy
      · exact ⟨kl, hx⟩
    · rw [h1.2.1]
      have : putM L x z = L ++ [(x, z)] := by unfold putM; rw [h1.2.1]; rfl
      rw [Option.getD_none, this, List.map_append, ← hL]; simp
    · simp
  · have hj : es[j]? = some e0 := by simpa using h2
    have hlist : (es.modify j (fun e' => { e' with key := eK x })).toList = es.toList.set j { e0 with key := eK x } := by
      rw [Array.toList_modify, ChangeMaps.modify_eq_set _ _ _ _ h2]
    have he0 : ({ e0 with key := eK x } : MapEntry) = e0 := by rw [← h3]
    have hes : (es.modify j (fun e' => { e' with key := eK x })).toList = es.toList := by
      rw [hlist, he0]
      apply List.ext_getElem?
      intro i
      rw [List.getElem?_set]
      by_cases hij : j = i
      · subst hij; rw [if_pos rfl, if_pos (List.getElem?_eq_some_iff.1 h2).1, h2]
      · simp [hij]
    have hes' : es.modify j (fun e' => { e' with key := eK x }) = es := by
      apply Array.toList_inj.1; exact hes
    have hborn : ((es[j]?.map (·.born)).getD 0) = e0.born := by rw [hj]; rfl
    refine ⟨setBlock w b (.map es clock), e0.born, ?_, ⟨es, clock, j, e0, ChangeMaps.heap_setBlock_same hb _, hs, hk, ?_, h2, h3, rfl⟩, ⟨rfl, rfl, rfl, by simp [setBlock], fun i _ hi => ChangeMaps.heap_setBlock_other hb _ (fun e => hi (by rw [e]))⟩, by simp [setBlock]⟩
    · rw [h6]
      simp [Instr.mapEntry, run_underlying ht, MapKept.run_getObj_map hb, hK.check w false hx, h1 w, hj, h3, hK.stays w hx, MapKept.run_setObj_map _ hb, Result.andThen, setBlock, hes', h5]
    · rw [h6, Option.getD_some, putM_same h.pairwise h6, hL]

/-- The entry is stored to. -/
theorem EntryT.store (hinj : ∀ x y, eK x = eK y → x = y) {x : κ} {stamp : Nat} (h : EntryT P k eK eV w b L x stamp) (v : ν) (hm : (getM L x).isSome = true) :
    ∃ w', (Instr.entryStore t (.map (some b)) (goInt (stamp : Nat)) (eV v)).run P w = .ok () w' ∧ MapT P k eK eV w' b (putM L x v) ∧ w.grownBy w' (some b) ∧ w'.heap.size = w.heap.size := by
  have hmap := h.map
  obtain ⟨es, clock, j, e0, hb, hs, hk, hL, h2, h3, rfl⟩ := h
  have hj : es[j]? = some e0 := by simpa using h2
  have hbi := ((stamped_iff es clock).1 hs).2.1
  have hfi : es.findIdx? (fun e => ((e.born : Int) == (e0.born : Int))) = some j := by
    rw [Array.findIdx?_eq_some_iff_getElem]
    obtain ⟨hjl, hje⟩ := List.getElem?_eq_some_iff.1 h2
    have hjl' : j < es.size := by simpa using hjl
    refine ⟨hjl', ?_, fun i hi => ?_⟩
    · have : es[j] = e0 := by simpa using hje
      simp [this]
    · intro hc
      have hc' : (es[i]'(by omega)).born = e0.born := by have := hc; simp at this; omega
      have hil : i < es.toList.length := by simp; omega
      have h1 := List.pairwise_iff_getElem.1 (List.nodup_iff_pairwise_ne.1 hbi) i j (by simpa using hil) (by simpa using hjl) hi
      apply h1
      simp only [List.getElem_map]
      rw [show es.toList[j] = e0 from hje]
      simpa using hc'
  have hlist : (es.modify j (fun e' => { e' with val := eV v })).toList = es.toList.set j { e0 with val := eV v } := by
    rw [Array.toList_modify, ChangeMaps.modify_eq_set _ _ _ _ h2]
  refine ⟨setBlock w b (.map (es.modify j (fun e' => { e' with val := eV v })) clock), ?_, ⟨_, _, ChangeMaps.heap_setBlock_same hb _, stamped_modify hs _ _ (fun _ _ => rfl) (fun e' _ _ => rfl), ?_, ?_⟩, ⟨rfl, rfl, rfl, by simp [setBlock], fun i _ hi => ChangeMaps.heap_setBlock_other hb _ (fun e => hi (by rw [e]))⟩, by simp [setBlock]⟩
  · simp [Instr.entryStore, MapKept.run_getObj_map hb, goInt, asInt, asIntOf, hfi, MapKept.run_setObj_map _ hb, Result.andThen, setBlock]
  · intro y hy
    rw [hlist] at hy
    rcases List.mem_or_eq_of_mem_set hy with hy | rfl
    · exact hk y hy
    · exact hk e0 (List.mem_of_getElem? h2)
  · have hp : putM L x v = L.map (fun p => if p.1 = x then (x, v) else p) := by unfold putM; rw [hm]; rfl
    rw [hp, hlist, List.map_set, hL]
    apply List.ext_getElem?
    intro i
    rw [List.getElem?_set, List.getElem?_map, List.getElem?_map, List.getElem?_map]
    have hlen : es.toList.length = L.length := by simpa using congrArg List.length hL
    by_cases hij : j = i
    · subst hij
      obtain ⟨hjl, _⟩ := List.getElem?_eq_some_iff.1 h2
      have hjL : j < L.length := by omega
      have hkey : (L[j]).1 = x := by
        have h1 : (es.toList.map (fun y => (y.key, y.val)))[j]? = some (e0.key, e0.val) := by simp [h2]
        rw [hL, List.getElem?_map, List.getElem?_eq_getElem hjL] at h1
        simp only [Option.map_some, Option.some.injEq, Prod.mk.injEq] at h1
        exact hinj _ _ (h1.1.trans h3)
      simp [hjL, hkey, h3]
    · simp only [hij, if_false]
      cases hl : L[i]? with
      | none => rfl
      | some p =>
        have : ¬ p.1 = x := by
          intro hpx
          have h1 : (L.map (fun y => (eK y.1, eV y.2)))[i]? = some (eK p.1, eV p.2) := by simp [hl]
          rw [← hL, List.getElem?_map] at h1
          cases hes : es.toList[i]? with
          | none => simp [hes] at h1
          | some a =>
            simp only [hes, Option.map_some, Option.some.injEq, Prod.mk.injEq] at h1
            have hkk : a.key = e0.key := by rw [h1.1, hpx, h3]
            have := entry_eq_of_key ((stamped_iff es clock).1 hs).2.2 (List.mem_of_getElem? hes) (List.mem_of_getElem? h2) hkk
            subst this
            obtain ⟨a1, a2⟩ := List.getElem?_eq_some_iff.1 hes
            obtain ⟨b1, b2⟩ := List.getElem?_eq_some_iff.1 h2
            have hn := List.pairwise_iff_getElem.1 ((stamped_iff es clock).1 hs).2.2
            rcases Nat.lt_trichotomy i j with hlt | he | hlt
            · exact hn i j a1 b1 hlt (by rw [a2, b2])
            · exact hij he.symm
            · exact hn j i b1 a1 hlt (by rw [a2, b2])
        simp [this]

/-- delete(m, x). -/
theorem MapT.delete (hK : Keyed P k) (hinj : ∀ x y, eK x = eK y → x = y) (ht : P.underlying t = some (.map k e)) (h : MapT P k eK eV w b L) (x : κ) {kl : Lit} (hx : keyOf P k (eK x) = some kl) (ty : TypeId) :
    ∃ w', (Builtin.delete_ #[t, k] ty #[.map (some b), eK x]).run P w = .ok (.tuple #[]) w' ∧ MapT P k eK eV w' b (delM L x) ∧ w.grownBy w' (some b) ∧ w'.heap.size = w.heap.size := by
  obtain ⟨es, clock, hb, hs, hk, hL, h1 | ⟨j, e0, u, h1, h2, h3, h4, h5, h6, hu⟩⟩ := h.find hK hinj x hx
  · refine ⟨setBlock w b (.map es clock), ?_, ⟨es, clock, ChangeMaps.heap_setBlock_same hb _, hs, hk, ?_⟩, ⟨rfl, rfl, rfl, by simp [setBlock], fun i _ hi => ChangeMaps.heap_setBlock_other hb _ (fun e => hi (by rw [e]))⟩, by simp [setBlock]⟩
    · simp [Builtin.delete_, run_underlying ht, MapKept.run_getObj_map hb, hK.check w _ hx, h1.1 w, MapKept.run_setObj_map _ hb, Result.andThen, setBlock]
    · have : delM L x = L := by
        unfold delM
        rw [List.filter_eq_self]
        intro p hp
        simpa using getM_none.1 h1.2.1 p hp
      rw [this, hL]
  · have hjl : j < es.toList.length := (List.getElem?_eq_some_iff.1 h2).1
    have hjs : j < es.size := by simpa using hjl
    have hsub : (es.eraseIdxIfInBounds j).toList = es.toList.eraseIdx j := by
      unfold Array.eraseIdxIfInBounds
      rw [dif_pos hjs]
      simp
    have hdel : delM L x = L.eraseIdx j := by
      have hjL : j < L.length := (List.getElem?_eq_some_iff.1 h4).1
      have hs1 : L = L.take j ++ (x, u) :: L.drop (j + 1) := by
        conv => lhs; rw [← List.take_append_drop j L]
        rw [List.drop_eq_getElem_cons hjL, (List.getElem?_eq_some_iff.1 h4).2]
      have hf1 : (L.take j).filter (fun p => decide (p.1 ≠ x)) = L.take j := by
        rw [List.filter_eq_self]
        intro p hp
        obtain ⟨i, hi⟩ := List.mem_iff_getElem?.1 hp
        have hij : i < j := by have := (List.getElem?_eq_some_iff.1 hi).1; simp at this; omega
        rw [List.getElem?_take, if_pos hij] at hi
        have : p.1 ≠ x := fun e => by have := hu i p hi e; omega
        simpa using this
      have hf2 : (L.drop (j + 1)).filter (fun p => decide (p.1 ≠ x)) = L.drop (j + 1) := by
        rw [List.filter_eq_self]
        intro p hp
        obtain ⟨i, hi⟩ := List.mem_iff_getElem?.1 hp
        rw [List.getElem?_drop] at hi
        have : p.1 ≠ x := fun e => by have := hu _ p hi e; omega
        simpa using this
      unfold delM
      rw [List.eraseIdx_eq_take_drop_succ]
      conv => lhs; rw [hs1]
      rw [List.filter_append, List.filter_cons, hf1, hf2]
      simp
    refine ⟨setBlock w b (.map (es.eraseIdxIfInBounds j) clock), ?_, ⟨_, clock, ChangeMaps.heap_setBlock_same hb _, stamped_erase hs j, ?_, ?_⟩, ⟨rfl, rfl, rfl, by simp [setBlock], fun i _ hi => ChangeMaps.heap_setBlock_other hb _ (fun e => hi (by rw [e]))⟩, by simp [setBlock]⟩
    · simp [Builtin.delete_, run_underlying ht, MapKept.run_getObj_map hb, hK.check w _ hx, h1, MapKept.run_setObj_map _ hb, Result.andThen, setBlock]
    · intro y hy
      rw [hsub] at hy
      exact hk y ((List.eraseIdx_sublist _ _).subset hy)
    · rw [hdel, hsub, ChangeMaps.map_eraseIdx, ChangeMaps.map_eraseIdx, hL]
end laws
end Go.Proofs.Ytdkkpkgfiodlbaa

/- Words on readable slices of whatever elements, and from the row's own reading of an argument to them. Names no program. -/
namespace Go.Proofs.Ytdkkpkgfiodlbaa
open Go.RowKit
open Go.ChangeShapes Go.WideShapes
/-- The slice value v reads as the list xs: each element of n cells, which read by E. -/
def RdS {α : Type} (n : Nat) (E : World → List Value → α → Prop) (w : World) (v : Value) (xs : List α) : Prop :=
  ∃ a len cap, v = .slice a len cap ∧ len = xs.length ∧ xs.length ≤ 9223372036854775807 ∧ len ≤ cap ∧ (a = none → len = 0 ∧ cap = 0) ∧
    ∀ j x, xs[j]? = some x → ∃ b off cs, a = some ⟨b, off, none⟩ ∧ cs.length = n ∧ (∀ i u, cs[i]? = some u → w.cell? ⟨b, off + (j * n + i), none⟩ = some u) ∧ E w cs x

theorem list_of {α : Type} {Q : Nat → α → Prop} (n : Nat) (h : ∀ i, i < n → ∃ x, Q i x) : ∃ xs : List α, xs.length = n ∧ ∀ i x, xs[i]? = some x → Q i x := by
  induction n with
  | zero => exact ⟨[], rfl, fun i x hx => by simp at hx⟩
  | succ n ih =>
    obtain ⟨xs, hl, hx⟩ := ih fun i hi => h i (by omega)
    obtain ⟨y, hy⟩ := h n (by omega)
    refine ⟨xs ++ [y], by simp [hl], fun i x hi => ?_⟩
    by_cases hlt : i < xs.length
    · rw [List.getElem?_append_left hlt] at hi; exact hx i x hi
    · rw [List.getElem?_append_right (by omega)] at hi
      have : i = n := by
        have := (List.getElem?_eq_some_iff.1 hi).1; simp at this; omega
      subst this
      simp [hl] at hi
      subst hi; exact hy

theorem addr_flat {w : World} {x : Addr} {u : Value} (h : w.cell? x = some u) : x = ⟨x.block, x.off, none⟩ := by
  obtain ⟨b, o, s⟩ := x
  cases s with
  | none => rfl
  | some s => unfold World.cell? at h; split at h <;> simp_all

theorem mapM_some {α β : Type} {f : α → Option β} : ∀ {l : List α} {r : List β}, l.mapM f = some r → r.length = l.length ∧ ∀ (i : Nat) a b, l[i]? = some a → r[i]? = some b → f a = some b
  | [], r, h => by simp at h; subst h; exact ⟨rfl, fun i a b h => by simp at h⟩
  | x :: l, r, h => by
    rw [List.mapM_cons] at h
    cases hx : f x with
    | none => simp [hx] at h
    | some y =>
      cases hl : l.mapM f with
      | none => simp [hx, hl] at h
      | some ys =>
        simp [hx, hl] at h
        subst h
        obtain ⟨h1, h2⟩ := mapM_some hl
        refine ⟨by simp [h1], fun i a b ha hb => ?_⟩
        cases i with
        | zero => simp at ha hb; subst ha hb; exact hx
        | succ i => exact h2 i a b (by simpa using ha) (by simpa using hb)

theorem cells_at {w : World} {a : Addr} {n : Nat} {cs : List Value} (h : w.cells? 0 a n = some cs) : cs.length = n ∧ ∀ i u, cs[i]? = some u → w.cell? (a.add i) = some u := by
  unfold World.cells? at h
  rw [if_pos (Nat.zero_le _)] at h
  obtain ⟨h1, h2⟩ := mapM_some h
  have hl : cs.length = n := by simpa using h1
  refine ⟨hl, fun i u hu => h2 i i u ?_ hu⟩
  have := (List.getElem?_eq_some_iff.1 hu).1
  rw [List.getElem?_range (by omega)]

theorem rds_of_trod {α H : Type} {enc : TypeId × Value → H} {P : Program} {w : World} {spare : Nat → Bool} {held : Bool} {t e : TypeId} {fuel n : Nat} {v : Value} {x : DataW H × List MemPlace} {E : World → List Value → α → Prop}
    (ht : P.underlying t = some (.slice e)) (hn : P.cellsOf e = n) (h0 : 0 < n) (h : DataW.trod enc P w 0 spare held fuel t [v] = some x)
    (hE : ∀ m cs y, cs.length = n → DataW.trod enc P w 0 spare held m e cs = some y → ∃ a, E w cs a) : ∃ xs, RdS n E w v xs := by
  rcases Deep.open_slice ht h with ⟨hcs, _⟩ | ⟨a, len, cap, m, k, D, Pl, hcs, _, hlc, hcm, hm, _, hel⟩
  · cases hcs
    exact ⟨[], none, 0, 0, rfl, rfl, by simp, Nat.le_refl _, fun _ => ⟨rfl, rfl⟩, fun j x hj => by simp at hj⟩
  · cases hcs
    have hlm : len ≤ m := by rw [hm]; split <;> omega
    obtain ⟨xs, hxl, hx⟩ := list_of (α := α) (Q := fun i x => ∃ cs, w.cells? 0 (a.add (i * n)) n = some cs ∧ E w cs x) len (fun i hi => by
      obtain ⟨cs, h1, h2⟩ := hel i (by omega)
      rw [hn] at h1
      have hl : cs.length = n := (cells_at h1).1
      obtain ⟨y, hy⟩ := hE _ _ _ hl h2
      exact ⟨y, cs, h1, hy⟩)
    refine ⟨xs, some a, len, cap, rfl, hxl.symm, by simp only [maxLen] at hcm; omega, hlc, fun h => (by cases h), fun j x hj => ?_⟩
    obtain ⟨cs, h1, h2⟩ := hx j x hj
    obtain ⟨hl, hc⟩ := cells_at h1
    have hlt : j < len := by rw [← hxl]; exact (List.getElem?_eq_some_iff.1 hj).1
    have ha : a = ⟨a.block, a.off, none⟩ := by
      obtain ⟨cs0, h0', _⟩ := hel 0 (by omega)
      rw [hn, Nat.zero_mul] at h0'
      obtain ⟨hl0, hc0⟩ := cells_at h0'
      exact addr_flat (hc0 0 cs0[0] (List.getElem?_eq_getElem (by omega)))
    refine ⟨a.block, a.off, cs, by rw [← ha], hl, fun i u hu => ?_, h2⟩
    have := hc i u hu
    rw [ha, addr_add, addr_add, Nat.add_assoc] at this
    exact this

theorem RdS.below {α : Type} {n : Nat} {E : World → List Value → α → Prop} {w w' : World} {v : Value} {xs : List α} (h : RdS n E w v xs) (hb : Below w.heap.size w w') (hE : ∀ cs x, E w cs x → E w' cs x) : RdS n E w' v xs := by
  obtain ⟨a, len, cap, h1, h2, h3, h4, h5, h6⟩ := h
  refine ⟨a, len, cap, h1, h2, h3, h4, h5, fun j x hj => ?_⟩
  obtain ⟨b, off, cs, ha, hl, hc, he⟩ := h6 j x hj
  exact ⟨b, off, cs, ha, hl, fun i u hu => cell_later hb (hc i u hu), hE _ _ he⟩

/-- A slice of bools. -/
def EB (_ : World) (cs : List Value) (b : Bool) : Prop := cs = [.bool b]
abbrev RdB (w : World) (v : Value) (bs : List Bool) : Prop := RdS 1 EB w v bs

theorem RdB.at {w : World} {v : Value} {bs : List Bool} (h : RdB w v bs) : ∃ a len cap, v = .slice a len cap ∧ len = bs.length ∧ bs.length ≤ 9223372036854775807 ∧ ∀ j x, bs[j]? = some x → ∃ b off, a = some ⟨b, off, none⟩ ∧ w.cell? ⟨b, off + j, none⟩ = some (.bool x) := by
  obtain ⟨a, len, cap, h1, h2, h3, h4, h5, h6⟩ := h
  refine ⟨a, len, cap, h1, h2, h3, fun j x hj => ?_⟩
  obtain ⟨b, off, cs, ha, hl, hc, rfl⟩ := h6 j x hj
  exact ⟨b, off, ha, by have := hc 0 _ rfl; simpa using this⟩

theorem RdB.later {w w' : World} {v : Value} {bs : List Bool} (h : RdB w v bs) (hb : Below w.heap.size w w') : RdB w' v bs := RdS.below h hb fun _ _ h => h

theorem rdb_of_trod {H : Type} {enc : TypeId × Value → H} {P : Program} {w : World} {spare : Nat → Bool} {held : Bool} {t e : TypeId} {v : Value} {d : DataW H} {ps : List MemPlace}
    (ht : P.underlying t = some (.slice e)) (hu : P.underlying e = some .bool) (hn : P.cellsOf e = 1) (a : Option Addr) (l c : Nat) (hv : v = .slice a l c) (h : DataW.Trod enc P w 0 spare held t v d ps) : ∃ bs, RdB w v bs := by
  obtain ⟨fuel, hf⟩ := h
  subst hv
  refine rds_of_trod ht hn (by omega) hf fun m cs y _ hy => ?_
  obtain ⟨b, rfl, _⟩ := DataW.trod_bool hu hy
  exact ⟨b, rfl⟩

/-- An integer of 64 bits, with its bounds. -/
def EInt (_ : World) (cs : List Value) (n : Int) : Prop := cs = [.int .i64 n] ∧ -9223372036854775808 ≤ n ∧ n ≤ 9223372036854775807

theorem wf_i64 {n : Int} (h : (Lit.int .i64 n).wf = true) : -9223372036854775808 ≤ n ∧ n ≤ 9223372036854775807 := by
  simp [Lit.wf, IntKind.min, IntKind.max, IntKind.signed, IntKind.bits] at h; omega

theorem rdsi_of_trod {H : Type} {enc : TypeId × Value → H} {P : Program} {w : World} {spare : Nat → Bool} {held : Bool} {t e : TypeId} {v : Value} {d : DataW H} {ps : List MemPlace}
    (ht : P.underlying t = some (.slice e)) (hu : P.underlying e = some (.int .i64)) (hn : P.cellsOf e = 1) (hv : ∃ a l c, v = .slice a l c) (h : DataW.Trod enc P w 0 spare held t v d ps) : ∃ xs, RdS 1 EInt w v xs := by
  obtain ⟨fuel, hf⟩ := h
  obtain ⟨a, l, c, rfl⟩ := hv
  refine rds_of_trod ht hn (by omega) hf fun m cs y _ hy => ?_
  obtain ⟨n, rfl, _, hw⟩ := DataW.trod_int hu hy
  exact ⟨n, rfl, wf_i64 hw⟩

theorem rdsb_of_trod {H : Type} {enc : TypeId × Value → H} {P : Program} {w : World} {spare : Nat → Bool} {held : Bool} {t e : TypeId} {v : Value} {d : DataW H} {ps : List MemPlace}
    (ht : P.underlying t = some (.slice e)) (hu : P.underlying e = some .bool) (hn : P.cellsOf e = 1) (hv : ∃ a l c, v = .slice a l c) (h : DataW.Trod enc P w 0 spare held t v d ps) : ∃ bs, RdB w v bs := by
  obtain ⟨a, l, c, rfl⟩ := hv
  exact rdb_of_trod ht hu hn a l c rfl h
end Go.Proofs.Ytdkkpkgfiodlbaa

/- The program's data as plain structures, how they lie in cells, and when a slice of them can be read. Names no function. -/
namespace Go.Proofs.Ytdkkpkgfiodlbaa
open Go.RowKit

structure GOp where
  kind : Int
  key : Int
  val : Int
deriving DecidableEq

structure GTxn where
  client : Int
  state : Int
  ops : List GOp
deriving DecidableEq

structure GEvent where
  kind : Int
  client : Int
  ops : List GOp
deriving DecidableEq

abbrev vi (n : Int) : Value := .int .i64 n

def opV (o : GOp) : List Value := [vi o.kind, vi o.key, vi o.val]
def EOp (_ : World) (cs : List Value) (o : GOp) : Prop := cs = opV o
abbrev RdOps (w : World) (v : Value) (l : List GOp) : Prop := RdS 3 EOp w v l

def ETxn (w : World) (cs : List Value) (t : GTxn) : Prop := ∃ v, cs = [vi t.client, vi t.state, v] ∧ RdOps w v t.ops
abbrev RdTxns (w : World) (v : Value) (l : List GTxn) : Prop := RdS 3 ETxn w v l

def EEvent (w : World) (cs : List Value) (t : GEvent) : Prop := ∃ v, cs = [vi t.kind, vi t.client, v] ∧ RdOps w v t.ops
abbrev RdEvents (w : World) (v : Value) (l : List GEvent) : Prop := RdS 3 EEvent w v l

theorem RdOps.later {w w' : World} {v : Value} {l : List GOp} (h : RdOps w v l) (hb : Below w.heap.size w w') : RdOps w' v l := RdS.below h hb fun _ _ h => h
theorem ETxn.later {w w' : World} {cs : List Value} {t : GTxn} (h : ETxn w cs t) (hb : Below w.heap.size w w') : ETxn w' cs t := by
  obtain ⟨v, h1, h2⟩ := h; exact ⟨v, h1, h2.later hb⟩
theorem EEvent.later {w w' : World} {cs : List Value} {t : GEvent} (h : EEvent w cs t) (hb : Below w.heap.size w w') : EEvent w' cs t := by
  obtain ⟨v, h1, h2⟩ := h; exact ⟨v, h1, h2.later hb⟩
theorem RdTxns.later {w w' : World} {v : Value} {l : List GTxn} (h : RdTxns w v l) (hb : Below w.heap.size w w') : RdTxns w' v l := RdS.below h hb fun _ _ h => h.later hb
theorem RdEvents.later {w w' : World} {v : Value} {l : List GEvent} (h : RdEvents w v l) (hb : Below w.heap.size w w') : RdEvents w' v l := RdS.below h hb fun _ _ h => h.later hb

/-- What a walk wants of a readable slice of three cells each. -/
theorem RdS.at3 {α : Type} {E : World → List Value → α → Prop} {w : World} {v : Value} {l : List α} (h : RdS 3 E w v l) : ∃ a len cap, v = .slice a len cap ∧ len = l.length ∧ l.length ≤ 9223372036854775807 ∧
    ∀ j x, l[j]? = some x → ∃ b off c0 c1 c2, a = some ⟨b, off, none⟩ ∧ E w [c0, c1, c2] x ∧ w.cell? ⟨b, off + j * 3, none⟩ = some c0 ∧ w.cell? ⟨b, off + j * 3 + 1, none⟩ = some c1 ∧ w.cell? ⟨b, off + j * 3 + 2, none⟩ = some c2 := by
  obtain ⟨a, len, cap, h1, h2, h3, h4, h5, h6⟩ := h
  refine ⟨a, len, cap, h1, h2, h3, fun j x hj => ?_⟩
  obtain ⟨b, off, cs, ha, hl, hc, he⟩ := h6 j x hj
  match cs, hl with
  | [c0, c1, c2], _ => exact ⟨b, off, c0, c1, c2, ha, he, hc 0 c0 rfl, hc 1 c1 rfl, hc 2 c2 rfl⟩

/-- An operation in a readable slice: its three cells. -/
theorem RdOps.at {w : World} {v : Value} {l : List GOp} (h : RdOps w v l) : ∃ a len cap, v = .slice a len cap ∧ len = l.length ∧ l.length ≤ 9223372036854775807 ∧
    ∀ j x, l[j]? = some x → ∃ b off, a = some ⟨b, off, none⟩ ∧ w.cell? ⟨b, off + j * 3, none⟩ = some (vi x.kind) ∧ w.cell? ⟨b, off + j * 3 + 1, none⟩ = some (vi x.key) ∧ w.cell? ⟨b, off + j * 3 + 2, none⟩ = some (vi x.val) := by
  obtain ⟨a, len, cap, h1, h2, h3, h6⟩ := RdS.at3 h
  refine ⟨a, len, cap, h1, h2, h3, fun j x hj => ?_⟩
  obtain ⟨b, off, c0, c1, c2, ha, he, k0, k1, k2⟩ := h6 j x hj
  simp only [EOp, opV, List.cons.injEq, and_true] at he
  obtain ⟨rfl, rfl, rfl⟩ := he
  exact ⟨b, off, ha, k0, k1, k2⟩

/-- The call owns the slice value v of operations. -/
def OwOps (base : Nat) (w : World) (v : Value) (l : List GOp) : Prop := w.ownsRow base 104 3 v l.length (l.flatMap opV)

theorem flatMap_at (l : List GOp) (j i : Nat) (x : GOp) (u : Value) (hj : l[j]? = some x) (hu : (opV x)[i]? = some u) : (l.flatMap opV)[j * 3 + i]? = some u := by
  induction l generalizing j with
  | nil => simp at hj
  | cons y l ih =>
    have hi : i < 3 := (List.getElem?_eq_some_iff.1 hu).1
    rw [List.flatMap_cons]
    cases j with
    | zero =>
      simp at hj; subst hj
      rw [List.getElem?_append_left (by simpa [opV] using hi)]
      simpa using hu
    | succ j =>
      rw [List.getElem?_append_right (by simp [opV]; omega)]
      have : (j + 1) * 3 + i - (opV y).length = j * 3 + i := by simp [opV]; omega
      rw [this]
      exact ih j (by simpa using hj)

theorem OwOps.rd {base : Nat} {w : World} {v : Value} {l : List GOp} (h : OwOps base w v l) : RdOps w v l := by
  obtain ⟨h1, h2⟩ := id h
  rcases h2 with ⟨hv, h0⟩ | ⟨g, cap, cur, hv, hg, hh, hn, hm, hs, ht⟩
  · have : l = [] := List.length_eq_zero_iff.1 h0
    subst this
    exact ⟨none, 0, 0, hv, rfl, by simp, Nat.le_refl _, fun _ => ⟨rfl, rfl⟩, fun j x hj => by simp at hj⟩
  · refine ⟨some ⟨g, 0, none⟩, l.length, cap, hv, rfl, by simp only [maxLen] at hm; omega, hn, fun h => (by cases h), fun j x hj => ⟨g, 0, opV x, rfl, rfl, fun i u hu => ?_, rfl⟩⟩
    have := World.ownsRow.cells h (g := g) (by rw [hv]; rfl) (j * 3 + i) u (flatMap_at l j i x u hj hu)
    rwa [addr_add] at this

theorem Try.infoOp : (Try.prog.info? 104).map (fun i => (i.zero, i.size, i.bytes)) = some (some (.agg #[vi 0, vi 0, vi 0]), 3, 24) := by kernel_rfl
theorem eltOp : Elt Try.prog 26 104 3 24 (.agg #[vi 0, vi 0, vi 0]) := by
  obtain ⟨i0, hi, hz0, hz1, hz2⟩ := info_parts Try.infoOp
  exact ⟨Try.underlying26, by decide, rfl, i0, hi, hz0, hz1, hz2⟩

theorem opV_one {l : List GOp} : ∀ u ∈ l.flatMap opV, u.oneCell' = true := by
  intro u hu
  obtain ⟨x, _, hx⟩ := List.mem_flatMap.1 hu
  simp [opV] at hx
  rcases hx with rfl | rfl | rfl <;> rfl

theorem flatMap_length (l : List GOp) : (l.flatMap opV).length = l.length * 3 := by
  induction l with
  | nil => rfl
  | cons x l ih => rw [List.flatMap_cons, List.length_append, ih]; simp [opV]; omega

theorem RdOps.src {w : World} {v : Value} {l : List GOp} (h : RdOps w v l) : Src w v 3 l.length (l.flatMap opV) := by
  obtain ⟨a, len, cap, rfl, rfl, hm, hlc, hn, hc⟩ := h
  refine ⟨a, cap, rfl, flatMap_length l, fun h => hn h, fun ad had j u hu => ?_⟩
  have hlt := (List.getElem?_eq_some_iff.1 hu).1
  rw [flatMap_length] at hlt
  have hj : j / 3 < l.length := by omega
  obtain ⟨x, hx⟩ : ∃ x, l[j / 3]? = some x := ⟨_, List.getElem?_eq_getElem hj⟩
  obtain ⟨b, off, cs, hb, hl, hcs, rfl⟩ := hc _ x hx
  rw [hb] at had; cases had
  obtain ⟨u', hu'⟩ : ∃ u', (opV x)[j % 3]? = some u' := ⟨_, List.getElem?_eq_getElem (by simp [opV]; omega)⟩
  have e := flatMap_at l (j / 3) (j % 3) x u' hx hu'
  have hj3 : j / 3 * 3 + j % 3 = j := by omega
  rw [hj3, hu] at e
  cases e
  have := hcs (j % 3) u hu'
  rw [hj3] at this
  rw [addr_add]; exact this

theorem ret_bool {a b : Bool} (h : a = b) : Ending.returned (.bool a) = .returned (.bool b) := by rw [h]
theorem ret_int {k : IntKind} {a b : Int} (h : a = b) : Ending.returned (.int k a) = .returned (.int k b) := by rw [h]
theorem some_at {α : Type} {l : List α} {k : Nat} (h : k < l.length) : ∃ x, l[k]? = some x := ⟨l[k], List.getElem?_eq_getElem h⟩
theorem take_at {α : Type} {l : List α} {k : Nat} {x : α} (h : l[k]? = some x) : l.take (k + 1) = l.take k ++ [x] := by
  rw [List.take_add_one, h]; rfl
end Go.Proofs.Ytdkkpkgfiodlbaa
