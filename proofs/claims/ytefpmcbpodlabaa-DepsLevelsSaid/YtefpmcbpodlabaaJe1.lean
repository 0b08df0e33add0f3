/- Texts of one proof, one behind the other: DpBadP, DpBadA, DpBad, DpCn, DpIsG, DpL5. -/
import Derived.Test.YtefpmcbpodlabaaJc14
import Derived.Test.YtefpmcbpodlabaaJc6
import Derived.Test.YtefpmcbpodlabaaJc2
import Derived.Test.YtefpmcbpodlabaaJc10
import Derived.Test.YtefpmcbpodlabaaJd1
set_option linter.all false
/- What goes round in states, over numbers: plain; a table of bools in memory. -/
namespace Go.Proofs.Ytefpmcbpodlabaa
open Go.RowKit Go.Maps

def nowK (e : GEdge) : Nat := if e.k = 3 then 1 else 0
def st1 (level : Int) (e : GEdge) (l a b : Nat) : Bool := decide ((a : Int) = 2 * e.f + l ∧ (b : Int) = 2 * e.t + nowK e) && !(level == 1 && (l == 1 && nowK e == 1))
def stE (level : Int) (a b : Nat) (e : GEdge) : Bool := st1 level e 0 a b || st1 level e 1 a b
def stS (es : List GEdge) (level : Int) (a b : Nat) : Bool := es.any (stE level a b)
def StS (es : List GEdge) (level : Int) (a b : Nat) : Prop := stS es level a b = true
theorem stS_iff {es : List GEdge} {level : Int} {a b : Nat} : StS es level a b ↔ ∃ e ∈ es, ∃ l : Nat, l < 2 ∧ (a : Int) = 2 * e.f + l ∧ (b : Int) = 2 * e.t + nowK e ∧ ¬ (level = 1 ∧ l = 1 ∧ e.k = 3) := by
  have hn : ∀ e : GEdge, (nowK e == 1) = decide (e.k = 3) := fun e => by unfold nowK; split <;> simp_all
  have h1 : ∀ (e : GEdge) (l : Nat), st1 level e l a b = true ↔ (a : Int) = 2 * e.f + l ∧ (b : Int) = 2 * e.t + nowK e ∧ ¬ (level = 1 ∧ l = 1 ∧ e.k = 3) := fun e l => by
    unfold st1
    rw [hn]
    simp only [Bool.and_eq_true, Bool.not_eq_true', Bool.and_eq_false_iff, decide_eq_true_eq, decide_eq_false_iff_not, beq_eq_false_iff_ne, ne_eq, and_assoc]
    refine and_congr Iff.rfl (and_congr Iff.rfl ?_)
    constructor
    · rintro (h | h | h) ⟨h2, h3, h4⟩
      · exact h h2
      · exact h h3
      · exact h h4
    · intro h
      by_cases h2 : level = 1
      · by_cases h3 : l = 1
        · exact .inr (.inr fun h4 => h ⟨h2, h3, h4⟩)
        · exact .inr (.inl h3)
      · exact .inl h2
  unfold StS stS
  rw [List.any_eq_true]
  constructor
  · rintro ⟨e, he, hh⟩
    unfold stE at hh
    rcases Bool.or_eq_true _ _ ▸ hh with h | h
    · exact ⟨e, he, 0, by omega, (h1 e 0).1 h⟩
    · exact ⟨e, he, 1, by omega, (h1 e 1).1 h⟩
  · rintro ⟨e, he, l, hl, hh⟩
    refine ⟨e, he, ?_⟩
    unfold stE
    rw [Bool.or_eq_true]
    have : l = 0 ∨ l = 1 := by omega
    rcases this with rfl | rfl
    · exact .inl ((h1 e 0).2 hh)
    · exact .inr ((h1 e 1).2 hh)
theorem stS_lt {es : List GEdge} {level : Int} {n a b : Nat} (h : InN n es) (hs : StS es level a b) : a < 2 * n ∧ b < 2 * n := by
  obtain ⟨e, he, l, hl, h1, h2, -⟩ := stS_iff.1 hs
  have := h e he
  have : nowK e ≤ 1 := by unfold nowK; split <;> omega
  omega
theorem rounds_states {es : List GEdge} {level : Int} {n : Nat} (h : InN n es) : Rounds (StS es level) ↔ Rounds (StepK es (level == 1)) := by
  constructor
  · refine Rounds.map (fun a : Nat => (((a / 2 : Nat) : Int), a % 2 == 1)) (fun a b hs => ?_)
    obtain ⟨e, he, l, hl, h1, h2, h3⟩ := stS_iff.1 hs
    have hin := h e he
    have hk : nowK e ≤ 1 := by unfold nowK; split <;> omega
    have hkk : nowK e = 1 ↔ e.k = 3 := by unfold nowK; split <;> simp_all
    refine ⟨e, he, by simp only; omega, by simp only; omega, ?_, ?_⟩
    · show (b % 2 == 1) = (e.k == 3)
      rw [Bool.eq_iff_iff, beq_iff_eq, beq_iff_eq, ← hkk]; omega
    · rintro ⟨h4, h5, h6⟩
      simp only [beq_iff_eq] at h4 h5 h6
      exact h3 ⟨h4, by omega, hkk.1 (by omega)⟩
  · refine Rounds.map (fun x : Int × Bool => (2 * x.1).toNat + (if x.2 then 1 else 0)) (fun x y hs => ?_)
    obtain ⟨e, he, h1, h2, h3, h4⟩ := hs
    have hin := h e he
    obtain ⟨x1, x2⟩ := x
    obtain ⟨y1, y2⟩ := y
    simp only at h1 h2 h3 h4
    subst h1 h2
    refine stS_iff.2 ⟨e, he, (if x2 then 1 else 0), by split <;> omega, ?_, ?_, ?_⟩
    · simp only; split <;> omega
    · simp only
      have : (if y2 = true then 1 else 0) = nowK e := by
        rw [h3]; unfold nowK
        by_cases hk : e.k = 3 <;> simp [hk]
      rw [this]; omega
    · rintro ⟨h5, h6, h7⟩
      refine h4 ⟨by simpa using h5, ?_, by rw [h3, h7]; rfl⟩
      cases x2 with
      | true => rfl
      | false => simp at h6
theorem rounds_closed {es : List GEdge} {level : Int} {n : Nat} (h : InN n es) : Rounds (StS es level) ↔ ∃ i, i < 2 * n ∧ WayB (StS es level) (2 * n) i i := by
  constructor
  · rintro ⟨a, hw⟩
    have ha : a < 2 * n := by
      cases hw with
      | one h1 => exact (stS_lt h h1).1
      | more h1 _ => exact (stS_lt h h1).1
    exact ⟨a, ha, hw.wayB (fun a b hab => (stS_lt h hab).2)⟩
  · rintro ⟨i, -, hw⟩
    exact ⟨i, hw.way⟩

/-- A table of bools, row by row in the blocks behind its own. -/
structure MatB (tb m : Nat) (M : Nat → Nat → Bool) (W : World) : Prop where
  tab : W.heap[tb]? = some (.cells ((List.range m).map (fun i => Value.slice (some ⟨tb + 1 + i, 0, none⟩) m m)).toArray 71)
  row : ∀ i, i < m → W.heap[tb + 1 + i]? = some (.cells ((List.range m).map (fun j => Value.bool (M i j))).toArray 4)
section
variable {tb m : Nat} {M : Nat → Nat → Bool} {A B : World}
theorem MatB.congr {M' : Nat → Nat → Bool} (h : MatB tb m M A) (he : ∀ a b, a < m → b < m → M a b = M' a b) : MatB tb m M' A :=
  ⟨h.tab, fun i hi => by rw [h.row i hi]; congr 3; exact List.map_congr_left (fun j hj => by rw [he i j hi (List.mem_range.1 hj)])⟩
theorem MatB.later (h : MatB tb m M A) (hb : Below A.heap.size A B) : MatB tb m M B :=
  ⟨(hb.block tb (Array.getElem?_eq_some_iff.1 h.tab).1).trans h.tab, fun i hi => (hb.block _ (Array.getElem?_eq_some_iff.1 (h.row i hi)).1).trans (h.row i hi)⟩
theorem MatB.tcell (h : MatB tb m M A) {i : Nat} (hi : i < m) : A.cell? ⟨tb, i, none⟩ = some (.slice (some ⟨tb + 1 + i, 0, none⟩) m m) := by
  rw [cell_of h.tab]; simp [hi]
theorem MatB.rcell (h : MatB tb m M A) {i j : Nat} (hi : i < m) (hj : j < m) : A.cell? ⟨tb + 1 + i, j, none⟩ = some (.bool (M i j)) := by
  rw [cell_of (h.row i hi)]; simp [hj]
theorem MatB.free (h : MatB tb m M A) {i : Nat} (hi : i < m) (j : Nat) : A.frozen? ⟨tb + 1 + i, j, none⟩ = false := by
  simp [World.frozen?, h.row i hi]
theorem MatB.set (h : MatB tb m M A) {i j : Nat} (hi : i < m) (hj : j < m) : MatB tb m (fun a b => if a = i ∧ b = j then true else M a b) (A.setCell ⟨tb + 1 + i, j, none⟩ (.bool true)) := by
  refine ⟨?_, fun a ha => ?_⟩
  · rw [Below.heap_setCell _ _ _ tb (by simp only; omega)]; exact h.tab
  · by_cases hai : a = i
    · subst hai
      have hr := h.row a ha
      have e0 : (A.setCell ⟨tb + 1 + a, j, none⟩ (.bool true)).heap[tb + 1 + a]? = some (.cells (((List.range m).map (fun b => Value.bool (M a b))).set j (.bool true)).toArray 4) := by
        simp [World.setCell, Array.getElem?_modify, hr]
      rw [e0]
      have e := mapR_set m (fun b => Value.bool (M a b)) (fun b => Value.bool (if a = a ∧ b = j then true else M a b)) j (fun u hu => by rw [if_neg (fun h => hu h.2)])
      have e1 : ((List.range m).map (fun b => Value.bool (M a b))).set j (.bool true) = (List.range m).map (fun b => Value.bool (if a = a ∧ b = j then true else M a b)) := by
        rw [← e]; congr 1; simp
      rw [e1]
    · rw [Below.heap_setCell _ _ _ (tb + 1 + a) (by simp only; omega), h.row a ha]
      congr 3
      exact List.map_congr_left (fun b _ => by rw [if_neg (fun h => hai h.1)])
theorem MatB.drewN (h : MatB tb m M A) (q : Nat) : MatB tb m M (A.drewN q) := ⟨h.tab, h.row⟩
end
/-- One pass of the closure. -/
structure PassI (S : Nat → Nat → Prop) (m k i j : Nat) (M : Nat → Nat → Bool) : Prop where
  lo : ∀ a b, a < m → b < m → WayB S k a b → M a b = true
  hi : ∀ a b, a < m → b < m → M a b = true → WayB S (k + 1) a b
  rows : ∀ a b, a < i → a < m → b < m → WayB S (k + 1) a b → M a b = true
  cols : ∀ b, b < j → b < m → i < m → WayB S (k + 1) i b → M i b = true
def FullI (S : Nat → Nat → Prop) (m k : Nat) (M : Nat → Nat → Bool) : Prop := ∀ a b, a < m → b < m → (M a b = true ↔ WayB S k a b)
theorem FullI.start {S : Nat → Nat → Prop} {m k : Nat} {M : Nat → Nat → Bool} (h : FullI S m k M) : PassI S m k 0 0 M :=
  ⟨fun a b ha hb hw => (h a b ha hb).2 hw, fun a b ha hb hm => ((h a b ha hb).1 hm).mono (by omega), fun a b h => absurd h (Nat.not_lt_zero _), fun b h => absurd h (Nat.not_lt_zero _)⟩
theorem PassI.row {S : Nat → Nat → Prop} {m k i : Nat} {M : Nat → Nat → Bool} (h : PassI S m k i m M) : PassI S m k (i + 1) 0 M :=
  ⟨h.lo, h.hi, fun a b hai ha hb hw => by
    by_cases hl : a < i
    · exact h.rows a b hl ha hb hw
    · obtain rfl : a = i := by omega
      exact h.cols b hb hb ha hw, fun b h => absurd h (Nat.not_lt_zero _)⟩
theorem PassI.full {S : Nat → Nat → Prop} {m k : Nat} {M : Nat → Nat → Bool} (h : PassI S m k m 0 M) : FullI S m (k + 1) M :=
  fun a b ha hb => ⟨h.hi a b ha hb, h.rows a b ha ha hb⟩
theorem PassI.skip {S : Nat → Nat → Prop} {m k i j : Nat} {M : Nat → Nat → Bool} (h : PassI S m k i j M) (hi : i < m) (hj : j < m) (hk : k < m) (hn : ¬ (M i k = true ∧ M k j = true)) : PassI S m k i (j + 1) M :=
  ⟨h.lo, h.hi, h.rows, fun b hb hbm him hw => by
    by_cases hl : b < j
    · exact h.cols b hl hbm him hw
    · obtain rfl : b = j := by omega
      rcases hw.split with h1 | ⟨h1, h2⟩
      · exact h.lo i b him hbm h1
      · exact absurd ⟨h.lo i k him hk h1, h.lo k b hk hbm h2⟩ hn⟩
theorem PassI.put {S : Nat → Nat → Prop} {m k i j : Nat} {M : Nat → Nat → Bool} (h : PassI S m k i j M) (hi : i < m) (hj : j < m) (hk : k < m) (h1 : M i k = true) (h2 : M k j = true) : PassI S m k i (j + 1) (fun a b => if a = i ∧ b = j then true else M a b) := by
  have hm : ∀ a b, M a b = true → (if a = i ∧ b = j then true else M a b) = true := fun a b hab => by split <;> simp_all
  refine ⟨fun a b ha hb hw => hm a b (h.lo a b ha hb hw), fun a b ha hb hab => ?_, fun a b hai ha hb hw => hm a b (h.rows a b hai ha hb hw), fun b hb hbm him hw => ?_⟩
  · split at hab
    · rename_i hc
      obtain ⟨rfl, rfl⟩ := hc
      exact .more (h.hi a k ha hk h1) (by omega) (h.hi k b hk hb h2)
    · exact h.hi a b ha hb hab
  · by_cases hl : b < j
    · exact hm i b (h.cols b hl hbm him hw)
    · obtain rfl : b = j := by omega
      simp
theorem full_start {S : Nat → Nat → Prop} {m : Nat} {M : Nat → Nat → Bool} (h : ∀ a b, a < m → b < m → (M a b = true ↔ S a b)) : FullI S m 0 M := fun a b ha hb => by
  rw [h a b ha hb]
  constructor
  · exact .one
  · intro hw
    cases hw with
    | one h1 => exact h1
    | more _ hb _ => exact absurd hb (Nat.not_lt_zero _)
end Go.Proofs.Ytefpmcbpodlabaa

/- The table of ref.Bad while it is made. -/
namespace Go.Proofs.Ytefpmcbpodlabaa
open Go.RowKit Go.Maps

theorem Try.infoBools : (Try.prog.info? 71).map (fun i => (i.zero, i.size, i.bytes)) = some (some (.slice none 0 0), 1, 24) := by kernel_rfl
theorem run_makeTab (w : World) (n : Nat) (hn : n ≤ 1048576) : (Instr.makeSlice 101 (.int .i64 (n : Int)) (.int .i64 (n : Int))).run Try.prog w = .ok (.slice (some ⟨w.heap.size, 0, none⟩) n n) (w.alloc (.cells (Array.replicate n (.slice none 0 0)) 71)) := by
  obtain ⟨i, hi, h2⟩ := Option.map_eq_some_iff.1 Try.infoBools
  simp only [Prod.mk.injEq] at h2
  obtain ⟨hz, hs, hb⟩ := h2
  have := run_makeSlice (P := Try.prog) w 101 71 i (.slice none 0 0) Try.underlying101 hi hz .i64 .i64 n n (by omega) (Int.le_refl _) (by rw [hs]; omega) (by rw [hb]; omega) (by omega)
  rw [this, hs]
  have e : madeCells (Value.slice none 0 0).cells ((n : Int).toNat * 1) = (List.replicate n (.slice none 0 0)).toArray := by
    apply Array.toList_inj.1
    rw [show (Value.slice none 0 0).cells = #[Value.slice none 0 0] from rfl, toList_madeCells_one]
    simp
  rw [e]; simp
theorem run_makeBoolR (w : World) (n : Nat) (hn : n ≤ 1048576) : (Instr.makeSlice 71 (.int .i64 (n : Int)) (.int .i64 (n : Int))).run Try.prog w = .ok (.slice (some ⟨w.heap.size, 0, none⟩) n n) (w.alloc (.cells (Array.replicate n (Value.bool false)) 4)) := by
  rw [run_makeBools w n hn]
  simp
structure MatP (tb m k : Nat) (W : World) : Prop where
  tab : W.heap[tb]? = some (.cells ((List.range m).map (fun i => if i < k then Value.slice (some ⟨tb + 1 + i, 0, none⟩) m m else Value.slice none 0 0)).toArray 71)
  row : ∀ i, i < k → W.heap[tb + 1 + i]? = some (.cells ((List.range m).map (fun _ => Value.bool false)).toArray 4)
  size : W.heap.size = tb + 1 + k
section
variable {tb m k : Nat} {A : World}
theorem MatP.start (w : World) (m : Nat) : MatP w.heap.size m 0 (w.alloc (.cells (Array.replicate m (.slice none 0 0)) 71)) := by
  refine ⟨?_, fun i h => absurd h (Nat.not_lt_zero _), by simp⟩
  rw [alloc_at]
  congr 2
  apply Array.ext'
  simp
  apply List.ext_getElem?
  intro j
  rw [List.getElem?_map, List.getElem?_replicate]
  by_cases hj : j < m
  · rw [List.getElem?_range hj, if_pos hj]; rfl
  · rw [List.getElem?_eq_none (by simp; omega), if_neg hj]; rfl
theorem MatP.free (h : MatP tb m k A) (o : Obj) (j : Nat) : (A.alloc o).frozen? ⟨tb, j, none⟩ = false := by
  have e : (A.alloc o).heap[tb]? = A.heap[tb]? := Below.heap_alloc A o tb (Array.getElem?_eq_some_iff.1 h.tab).1
  simp only [World.frozen?, e, h.tab]
  simp
theorem MatP.cell (h : MatP tb m k A) (hk : k < m) (o : Obj) : (A.alloc o).cell? ⟨tb, k, none⟩ = some (.slice none 0 0) := by
  have e : (A.alloc o).heap[tb]? = A.heap[tb]? := Below.heap_alloc A o tb (Array.getElem?_eq_some_iff.1 h.tab).1
  rw [cell_of (e.trans h.tab)]
  simp [hk]
theorem MatP.next (h : MatP tb m k A) (hk : k < m) : MatP tb m (k + 1) ((A.alloc (.cells (Array.replicate m (Value.bool false)) 4)).setCell ⟨tb, k, none⟩ (.slice (some ⟨A.heap.size, 0, none⟩) m m)) := by
  have ht := (Array.getElem?_eq_some_iff.1 h.tab).1
  have e : (A.alloc (.cells (Array.replicate m (Value.bool false)) 4)).heap[tb]? = A.heap[tb]? := Below.heap_alloc A _ tb ht
  refine ⟨?_, fun i hi => ?_, ?_⟩
  · have e0 : ((A.alloc (.cells (Array.replicate m (Value.bool false)) 4)).setCell ⟨tb, k, none⟩ (.slice (some ⟨A.heap.size, 0, none⟩) m m)).heap[tb]? = some (.cells (((List.range m).map (fun i => if i < k then Value.slice (some ⟨tb + 1 + i, 0, none⟩) m m else Value.slice none 0 0)).set k (.slice (some ⟨A.heap.size, 0, none⟩) m m)).toArray 71) := by
      simp only [World.setCell, Array.getElem?_modify, e, h.tab]
      simp
    rw [e0]
    have e2 := mapR_set m (fun i => if i < k then Value.slice (some ⟨tb + 1 + i, 0, none⟩) m m else Value.slice none 0 0) (fun i => if i < k + 1 then Value.slice (some ⟨tb + 1 + i, 0, none⟩) m m else Value.slice none 0 0) k (fun u hu => by
      by_cases h1 : u < k
      · rw [if_pos h1, if_pos (by omega)]
      · rw [if_neg h1, if_neg (by omega)])
    rw [← e2, if_pos (Nat.lt_succ_self k), h.size]
  · rw [Below.heap_setCell _ _ _ (tb + 1 + i) (by simp only; omega)]
    by_cases h1 : i < k
    · rw [Below.heap_alloc A _ _ (by rw [h.size]; omega)]
      exact h.row i h1
    · obtain rfl : i = k := by omega
      rw [← h.size, alloc_at]
      congr 2
      apply Array.ext'
      simp only [Array.toList_replicate]
      apply List.ext_getElem?
      intro j
      rw [List.getElem?_map, List.getElem?_replicate]
      by_cases hj : j < m
      · rw [List.getElem?_range hj, if_pos hj]; rfl
      · rw [List.getElem?_eq_none (by simp; omega), if_neg hj]; rfl
  · simp [World.setCell, h.size]; omega
theorem MatP.full (h : MatP tb m m A) : MatB tb m (fun _ _ => false) A := by
  refine ⟨?_, h.row⟩
  rw [h.tab]
  congr 3
  exact List.map_congr_left (fun i hi => by rw [if_pos (List.mem_range.1 hi)])
end
/-- Below, behind a store in the table. -/
theorem below_row {tb base : Nat} {w A : World} (hb : Below base w A) (ht : base ≤ tb) (i j : Nat) (v : Value) : Below base w (A.setCell ⟨tb + 1 + i, j, none⟩ v) := hb.setCell (by simp only; omega) v
end Go.Proofs.Ytefpmcbpodlabaa

/- crucibleref10.Bad, walked. -/
namespace Go.Proofs.Ytefpmcbpodlabaa
open Go.RowKit Go.Maps
attribute [local go_sem] Oper.semAt_some

def stM (es : List GEdge) (level : Int) (e : GEdge) (k l : Nat) (a b : Nat) : Bool := stS (es.take k) level a b || ((decide (0 < l) && st1 level e 0 a b) || (decide (1 < l) && st1 level e 1 a b))
theorem stM_zero (es : List GEdge) (level : Int) (e : GEdge) (k a b : Nat) : stS (es.take k) level a b = stM es level e k 0 a b := by simp [stM]
theorem stM_two {es : List GEdge} {level : Int} {e : GEdge} {k : Nat} (he : es[k]? = some e) (a b : Nat) : stM es level e k 2 a b = stS (es.take (k + 1)) level a b := by
  unfold stM stS
  rw [take_at he, List.any_append]
  simp [stE]
theorem stM_next {es : List GEdge} {level : Int} {e : GEdge} {k l a b f t : Nat} (hl : l < 2) (hf : e.f = f) (ht : e.t = t) (x y : Nat) (ha : a = 2 * f + l) (hb : b = 2 * t + nowK e) (hc : (level == 1 && ((l : Int) == 1 && ((nowK e : Nat) : Int) == 1)) = false) : (if x = a ∧ y = b then true else stM es level e k l x y) = stM es level e k (l + 1) x y := by
  have hi : ∀ q : Nat, ((q : Int) == 1) = (q == 1) := fun q => by
    rw [Bool.eq_iff_iff, beq_iff_eq, beq_iff_eq]; omega
  rw [hi, hi] at hc
  have h1 : ∀ z : Nat, z = l → st1 level e z x y = decide (x = a ∧ y = b) := fun z hz => by
    subst hz
    unfold st1
    rw [hc, Bool.not_false, Bool.and_true, Bool.eq_iff_iff, decide_eq_true_eq, decide_eq_true_eq, hf, ht]
    constructor
    · rintro ⟨h1, h2⟩; constructor <;> omega
    · rintro ⟨h1, h2⟩; constructor <;> omega
  have : l = 0 ∨ l = 1 := by omega
  rcases this with rfl | rfl
  · unfold stM
    rw [h1 0 rfl]
    by_cases hxy : x = a ∧ y = b <;> simp [hxy]
  · unfold stM
    rw [h1 1 rfl]
    by_cases hxy : x = a ∧ y = b <;> simp [hxy]
theorem stM_skip {es : List GEdge} {level : Int} {e : GEdge} {k l : Nat} (hl : l < 2) (hc : (level == 1 && ((l : Int) == 1 && ((nowK e : Nat) : Int) == 1)) = true) (x y : Nat) : stM es level e k l x y = stM es level e k (l + 1) x y := by
  simp only [Bool.and_eq_true, beq_iff_eq] at hc
  obtain ⟨rfl, h2, h3⟩ := hc
  have h4 : l = 1 := by omega
  have h5 : nowK e = 1 := by omega
  subst h4
  simp [stM, st1, h5]

set_option maxRecDepth 100000 in
set_option maxHeartbeats 16000000 in
theorem bad_call (n : Nat) (es : List GEdge) (v : Value) (level : Int) (w : World) (hv : RdEdges w v es) (hin : InN n es) (hn : n ≤ 400) :
    Calls Try.prog 20 #[vi n, v, vi level] w fun e w' => ∃ b, e = .returned (.bool b) ∧ (b = true ↔ Rounds (StepK es (level == 1))) ∧ Below w.heap.size w w' := by
  obtain ⟨av, nv, cv, rfl, rfl, hmv, -⟩ := hv.at
  have HV := Lib.hid hv
  have HIN := Lib.hid hin
  clear hv hin
  obtain ⟨m, hm⟩ : ∃ m : Nat, m = 2 * n := ⟨_, rfl⟩
  have HM := Lib.hid hm
  have hw0 : IntKind.i64.wrap (2 * (n : Int)) = (m : Int) := by rw [IntWalk.i64_in _ (by omega)]; omega
  have hmk := run_makeTab w m (by omega)
  have hmb := fun w => run_makeBoolR w m (by omega)
  have hm8 : m ≤ 800 := by omega
  have HP0 := Lib.hid (MatP.start w m)
  have HB0 := Lib.hid ((Below.refl w.heap.size w).alloc (Nat.le_refl _) (.cells (Array.replicate m (.slice none 0 0)) 71))
  clear hm
  go_enter Try.func20, Try.ntmps20
  go_upto_region 2 with fail
  generalize w.alloc (.cells (Array.replicate m (.slice none 0 0)) 71) = w1 at *
  obtain ⟨tb, htb⟩ : ∃ tb, tb = w.heap.size := ⟨_, rfl⟩
  rw [← htb] at HP0 HB0 ⊢
  have HTB := Lib.hid htb
  clear htb hmk
  go_wp2_with fail
  go_loopw [22] (fun i wr => ∃ k : Nat, k ≤ m ∧ i = vi k ∧ Hid (MatP tb m k wr ∧ Below tb w wr)) (fun i _ => m - (intOf i).toNat)
  case atStart => exact ⟨0, Nat.zero_le _, rfl, Lib.hid ⟨HP0.out, HB0.out⟩⟩
  case round =>
    obtain ⟨wj, rfl⟩ : ∃ wj : World, wj = wr := ⟨_, rfl⟩
    obtain ⟨k, hk, rfl, HJ⟩ := hrel
    by_cases hlt : k < m
    · have k1 : decide ((k : Int) < m) = true := decide_eq_true (by omega)
      have k2 : (k : Int) < m := by omega
      have hwk : IntKind.i64.wrap ((k : Int) + 1) = (k : Int) + 1 := IntWalk.i64_in _ (by omega)
      have f0 := HJ.out.1.free
      have f1 := fun o => HJ.out.1.cell hlt o
      have HSZ := Lib.hid (show tb ≤ wj.heap.size from by rw [HTB.out]; exact HJ.out.2.size)
      go_wp2_with fail
      exact ⟨⟨k + 1, by omega, by go_num, Lib.hid ⟨HJ.out.1.next hlt, (HJ.out.2.alloc HSZ.out _).setCell (Nat.le_refl _) _⟩⟩, by simp only [intOf]; omega⟩
    · have k1 : decide ((k : Int) < m) = false := decide_eq_false (by omega)
      obtain rfl : m = k := by omega
      have HT0 := Lib.hid (HJ.out.1.full)
      have HB1 := Lib.hid (HJ.out.2)
      clear HJ hmb HP0 HB0
      go_wp2_with fail
      go_loopw [34] (fun i wr => ∃ k : Nat, k ≤ es.length ∧ i = vi k ∧ Hid (MatB tb m (stS (es.take k) level) wr ∧ Below tb w wr)) (fun i _ => es.length - (intOf i).toNat)
      case atStart => exact ⟨0, Nat.zero_le _, rfl, Lib.hid ⟨HT0.out, HB1.out⟩⟩
      case round =>
        obtain ⟨wq, rfl⟩ : ∃ wq : World, wq = wr := ⟨_, rfl⟩
        obtain ⟨q, hq, rfl, HQ⟩ := hrel
        by_cases hlq : q < es.length
        · have j1 : decide ((q : Int) < es.length) = true := decide_eq_true (by omega)
          have j2 : (q : Int) < es.length := by omega
          have hwq : IntKind.i64.wrap ((q : Int) + 1) = (q : Int) + 1 := IntWalk.i64_in _ (by omega)
          obtain ⟨e, he⟩ := some_at hlq
          obtain ⟨_, _, _, e5, -, -, hcl⟩ := (HV.out.later (HTB.out ▸ HQ.out.2)).at
          cases e5
          obtain ⟨b, off, rfl, y0, y1, y2⟩ := hcl q e he
          have HE := Lib.hid he
          have hI := HIN.out e (List.mem_of_getElem? he)
          obtain ⟨f, hf⟩ : ∃ f : Nat, e.f = f := ⟨e.f.toNat, by omega⟩
          obtain ⟨t, ht⟩ : ∃ t : Nat, e.t = t := ⟨e.t.toNat, by omega⟩
          have hfn : f < n := by omega
          have htn : t < n := by omega
          have HF := Lib.hid hf
          have HTT := Lib.hid ht
          have hbe := (Below.refl wq.heap.size wq).alloc (Nat.le_refl _) (.cells #[vi e.f, vi e.t, vi e.k] 27)
          have HX := Lib.hid (alloc_at wq (.cells #[vi e.f, vi e.t, vi e.k] 27))
          have HBA := Lib.hid (HQ.out.2.trans (hbe.mono (by rw [HTB.out]; exact HQ.out.2.size)))
          have HMA := Lib.hid (HQ.out.1.later hbe)
          have HLT := Lib.hid (fun i (hi : i < m) => (Array.getElem?_eq_some_iff.1 (HQ.out.1.row i hi)).1)
          clear hcl he hbe hI hf ht
          go_upto_region 10 with fail
          clear y0 y1 y2
          generalize wq.alloc (.cells #[vi e.f, vi e.t, vi e.k] 27) = wa at *
          obtain ⟨eb, heb⟩ : ∃ eb, eb = wq.heap.size := ⟨_, rfl⟩
          rw [← heb] at HX HLT ⊢
          clear heb
          go_wp2_with fail
          go_loopw [11] (fun i wr => ∃ l : Nat, l ≤ 2 ∧ i = vi l ∧ Hid (MatB tb m (stM es level e q l) wr ∧ Below tb w wr ∧ wr.heap[eb]? = some (.cells #[vi e.f, vi e.t, vi e.k] 27))) (fun i _ => 2 - (intOf i).toNat)
          case atStart => exact ⟨0, Nat.zero_le _, rfl, Lib.hid ⟨HMA.out.congr (fun a b _ _ => stM_zero es level e q a b), HBA.out, HX.out⟩⟩
          case round =>
            obtain ⟨wl, rfl⟩ : ∃ wl : World, wl = wr := ⟨_, rfl⟩
            obtain ⟨l, hl, rfl, HL⟩ := hrel
            by_cases hll : l < 2
            · have l1 : decide ((l : Int) < 2) = true := decide_eq_true (by omega)
              have hwl : IntKind.i64.wrap ((l : Int) + 1) = (l : Int) + 1 := IntWalk.i64_in _ (by omega)
              have x0 : wl.cell? ⟨eb, 0, none⟩ = some (vi f) := by rw [cell_of HL.out.2.2, ← HF.out]; rfl
              have x1 : wl.cell? ⟨eb, 1, none⟩ = some (vi t) := by rw [cell_of HL.out.2.2, ← HTT.out]; rfl
              have x2 : wl.cell? ⟨eb, 2, none⟩ = some (vi e.k) := by rw [cell_of HL.out.2.2]; rfl
              cases h3 : (e.k == 3) with
              | true =>
                have hz : nowK e = 1 := by unfold nowK; simp only [beq_iff_eq] at h3; exact if_pos h3
                have HZ := Lib.hid hz
                clear hz
                obtain ⟨a, ha⟩ : ∃ a : Nat, a = 2 * f + l := ⟨_, rfl⟩
                obtain ⟨b, hb⟩ : ∃ b : Nat, b = 2 * t + 1 := ⟨_, rfl⟩
                have HA := Lib.hid ha
                have HBB := Lib.hid (show b = 2 * t + nowK e from by rw [HZ.out]; exact hb)
                obtain ⟨f2, hf2⟩ : ∃ f2 : Nat, f2 = 2 * f := ⟨_, rfl⟩
                obtain ⟨t2, ht2⟩ : ∃ t2 : Nat, t2 = 2 * t := ⟨_, rfl⟩
                have hm := HM.out
                have g1 : IntKind.i64.wrap (2 * (f : Int)) = (f2 : Int) := by rw [IntWalk.i64_in _ (by omega)]; omega
                have g2 : IntKind.i64.wrap ((f2 : Int) + (l : Int)) = (a : Int) := by rw [IntWalk.i64_in _ (by omega)]; omega
                have g3 : IntKind.i64.wrap (2 * (t : Int)) = (t2 : Int) := by rw [IntWalk.i64_in _ (by omega)]; omega
                have g4 : IntKind.i64.wrap ((t2 : Int) + 1) = (b : Int) := by rw [IntWalk.i64_in _ (by omega)]; omega
                have g5 : (a : Int) < m := by omega
                have g6 : (b : Int) < m := by omega
                have ham : a < m := by omega
                have hbm : b < m := by omega
                have g7 := HL.out.1.tcell ham
                have g8 := HL.out.1.free ham
                have g9 := HL.out.1.rcell ham hbm
                have HAE := Lib.hid (show tb + 1 + a ≠ eb from by have := HLT.out a ham; omega)
                clear hm ha hb hf2 ht2
                cases c1 : (level == 1) with
                | false =>
                  have HC := Lib.hid (show (level == 1 && ((l : Int) == 1 && ((nowK e : Nat) : Int) == 1)) = false from by rw [c1]; rfl)
                  have HS := Lib.hid (HL.out.1.set ham hbm)
                  have HBS := Lib.hid (below_row HL.out.2.1 (Nat.le_refl _) a b (.bool true))
                  have HES := Lib.hid (show (wl.setCell ⟨tb + 1 + a, b, none⟩ (.bool true)).heap[eb]? = some (.cells #[vi e.f, vi e.t, vi e.k] 27) from by rw [Below.heap_setCell _ _ _ eb (by simp only; exact HAE.out.symm)]; exact HL.out.2.2)
                  go_upto_region 17 with fail
                  go_region
                  go_wp2_with fail
                  have HSN := Lib.hid (HS.out.congr (fun x y _ _ => stM_next hll HF.out HTT.out x y HA.out HBB.out HC.out))
                  first
                    | exact ⟨⟨l + 1, by omega, by go_num, Lib.hid ⟨HSN.out, HBS.out, HES.out⟩⟩, by simp only [intOf]; omega⟩
                    | exact ⟨⟨l + 1, by omega, by go_num, Lib.hid ⟨⟨HSN.out.tab, HSN.out.row⟩, HBS.out.drew, HES.out⟩⟩, by simp only [intOf]; omega⟩
                | true =>
                  cases c2 : ((l : Int) == 1) with
                  | false =>
                    have HC := Lib.hid (show (level == 1 && ((l : Int) == 1 && ((nowK e : Nat) : Int) == 1)) = false from by rw [c2]; simp)
                    have HS := Lib.hid (HL.out.1.set ham hbm)
                    have HBS := Lib.hid (below_row HL.out.2.1 (Nat.le_refl _) a b (.bool true))
                    have HES := Lib.hid (show (wl.setCell ⟨tb + 1 + a, b, none⟩ (.bool true)).heap[eb]? = some (.cells #[vi e.f, vi e.t, vi e.k] 27) from by rw [Below.heap_setCell _ _ _ eb (by simp only; exact HAE.out.symm)]; exact HL.out.2.2)
                    go_upto_region 17 with fail
                    go_region
                    go_wp2_with fail
                    have HSN := Lib.hid (HS.out.congr (fun x y _ _ => stM_next hll HF.out HTT.out x y HA.out HBB.out HC.out))
                    first
                      | exact ⟨⟨l + 1, by omega, by go_num, Lib.hid ⟨HSN.out, HBS.out, HES.out⟩⟩, by simp only [intOf]; omega⟩
                      | exact ⟨⟨l + 1, by omega, by go_num, Lib.hid ⟨⟨HSN.out.tab, HSN.out.row⟩, HBS.out.drew, HES.out⟩⟩, by simp only [intOf]; omega⟩
                  | true =>
                    have HC := Lib.hid (show (level == 1 && ((l : Int) == 1 && ((nowK e : Nat) : Int) == 1)) = true from by rw [HZ.out, c1, c2]; rfl)
                    clear g7 g8 g9 x0 x1
                    go_wp2_with fail
                    exact ⟨⟨l + 1, by omega, by go_num, Lib.hid ⟨HL.out.1.congr (fun x y _ _ => stM_skip hll HC.out x y), HL.out.2⟩⟩, by simp only [intOf]; omega⟩
              | false =>
                have hz : nowK e = 0 := by unfold nowK; simp only [beq_eq_false_iff_ne] at h3; exact if_neg h3
                have HZ := Lib.hid hz
                clear hz
                obtain ⟨a, ha⟩ : ∃ a : Nat, a = 2 * f + l := ⟨_, rfl⟩
                obtain ⟨b, hb⟩ : ∃ b : Nat, b = 2 * t + 0 := ⟨_, rfl⟩
                have HA := Lib.hid ha
                have HBB := Lib.hid (show b = 2 * t + nowK e from by rw [HZ.out]; exact hb)
                obtain ⟨f2, hf2⟩ : ∃ f2 : Nat, f2 = 2 * f := ⟨_, rfl⟩
                obtain ⟨t2, ht2⟩ : ∃ t2 : Nat, t2 = 2 * t := ⟨_, rfl⟩
                have hm := HM.out
                have g1 : IntKind.i64.wrap (2 * (f : Int)) = (f2 : Int) := by rw [IntWalk.i64_in _ (by omega)]; omega
                have g2 : IntKind.i64.wrap ((f2 : Int) + (l : Int)) = (a : Int) := by rw [IntWalk.i64_in _ (by omega)]; omega
                have g3 : IntKind.i64.wrap (2 * (t : Int)) = (t2 : Int) := by rw [IntWalk.i64_in _ (by omega)]; omega
                have g4 : IntKind.i64.wrap (t2 : Int) = (b : Int) := by rw [IntWalk.i64_in _ (by omega)]; omega
                have g5 : (a : Int) < m := by omega
                have g6 : (b : Int) < m := by omega
                have ham : a < m := by omega
                have hbm : b < m := by omega
                have g7 := HL.out.1.tcell ham
                have g8 := HL.out.1.free ham
                have g9 := HL.out.1.rcell ham hbm
                have HAE := Lib.hid (show tb + 1 + a ≠ eb from by have := HLT.out a ham; omega)
                clear hm ha hb hf2 ht2
                cases c1 : (level == 1) with
                | false =>
                  have HC := Lib.hid (show (level == 1 && ((l : Int) == 1 && ((nowK e : Nat) : Int) == 1)) = false from by rw [c1]; rfl)
                  have HS := Lib.hid (HL.out.1.set ham hbm)
                  have HBS := Lib.hid (below_row HL.out.2.1 (Nat.le_refl _) a b (.bool true))
                  have HES := Lib.hid (show (wl.setCell ⟨tb + 1 + a, b, none⟩ (.bool true)).heap[eb]? = some (.cells #[vi e.f, vi e.t, vi e.k] 27) from by rw [Below.heap_setCell _ _ _ eb (by simp only; exact HAE.out.symm)]; exact HL.out.2.2)
                  go_upto_region 17 with fail
                  go_region
                  go_wp2_with fail
                  have HSN := Lib.hid (HS.out.congr (fun x y _ _ => stM_next hll HF.out HTT.out x y HA.out HBB.out HC.out))
                  first
                    | exact ⟨⟨l + 1, by omega, by go_num, Lib.hid ⟨HSN.out, HBS.out, HES.out⟩⟩, by simp only [intOf]; omega⟩
                    | exact ⟨⟨l + 1, by omega, by go_num, Lib.hid ⟨⟨HSN.out.tab, HSN.out.row⟩, HBS.out.drew, HES.out⟩⟩, by simp only [intOf]; omega⟩
                | true =>
                  cases c2 : ((l : Int) == 1) with
                  | false =>
                    have HC := Lib.hid (show (level == 1 && ((l : Int) == 1 && ((nowK e : Nat) : Int) == 1)) = false from by rw [c2]; simp)
                    have HS := Lib.hid (HL.out.1.set ham hbm)
                    have HBS := Lib.hid (below_row HL.out.2.1 (Nat.le_refl _) a b (.bool true))
                    have HES := Lib.hid (show (wl.setCell ⟨tb + 1 + a, b, none⟩ (.bool true)).heap[eb]? = some (.cells #[vi e.f, vi e.t, vi e.k] 27) from by rw [Below.heap_setCell _ _ _ eb (by simp only; exact HAE.out.symm)]; exact HL.out.2.2)
                    go_upto_region 17 with fail
                    go_region
                    go_wp2_with fail
                    have HSN := Lib.hid (HS.out.congr (fun x y _ _ => stM_next hll HF.out HTT.out x y HA.out HBB.out HC.out))
                    first
                      | exact ⟨⟨l + 1, by omega, by go_num, Lib.hid ⟨HSN.out, HBS.out, HES.out⟩⟩, by simp only [intOf]; omega⟩
                      | exact ⟨⟨l + 1, by omega, by go_num, Lib.hid ⟨⟨HSN.out.tab, HSN.out.row⟩, HBS.out.drew, HES.out⟩⟩, by simp only [intOf]; omega⟩
                  | true =>
                    have HC := Lib.hid (show (level == 1 && ((l : Int) == 1 && ((nowK e : Nat) : Int) == 1)) = false from by rw [HZ.out]; simp)
                    have HS := Lib.hid (HL.out.1.set ham hbm)
                    have HBS := Lib.hid (below_row HL.out.2.1 (Nat.le_refl _) a b (.bool true))
                    have HES := Lib.hid (show (wl.setCell ⟨tb + 1 + a, b, none⟩ (.bool true)).heap[eb]? = some (.cells #[vi e.f, vi e.t, vi e.k] 27) from by rw [Below.heap_setCell _ _ _ eb (by simp only; exact HAE.out.symm)]; exact HL.out.2.2)
                    go_upto_region 17 with fail
                    go_region
                    go_wp2_with fail
                    have HSN := Lib.hid (HS.out.congr (fun x y _ _ => stM_next hll HF.out HTT.out x y HA.out HBB.out HC.out))
                    first
                      | exact ⟨⟨l + 1, by omega, by go_num, Lib.hid ⟨HSN.out, HBS.out, HES.out⟩⟩, by simp only [intOf]; omega⟩
                      | exact ⟨⟨l + 1, by omega, by go_num, Lib.hid ⟨⟨HSN.out.tab, HSN.out.row⟩, HBS.out.drew, HES.out⟩⟩, by simp only [intOf]; omega⟩
            · have l1 : decide ((l : Int) < 2) = false := decide_eq_false (by omega)
              obtain rfl : l = 2 := by omega
              have HN := Lib.hid (HL.out.1.congr (fun a b _ _ => stM_two HE.out a b))
              go_wp2_with fail
              exact ⟨⟨q + 1, by omega, by go_num, Lib.hid ⟨HN.out, HL.out.2.1⟩⟩, by simp only [intOf]; omega⟩
        · have j1 : decide ((q : Int) < es.length) = false := decide_eq_false (by omega)
          have HFU := Lib.hid (show FullI (StS es level) m 0 (stS es level) from full_start (fun a b _ _ => Iff.rfl))
          have HMB := Lib.hid (show MatB tb m (stS es level) wq from by have h := HQ.out.1; rw [List.take_of_length_le (by omega)] at h; exact h)
          have HB2 := Lib.hid HQ.out.2
          clear HQ HT0 HB1
          go_wp2_with fail
          go_loopw [72] (fun i wr => ∃ k : Nat, k ≤ m ∧ i = vi k ∧ Hid (∃ M, FullI (StS es level) m k M ∧ MatB tb m M wr ∧ Below tb w wr)) (fun i _ => m - (intOf i).toNat)
          case atStart => exact ⟨0, Nat.zero_le _, rfl, Lib.hid ⟨_, HFU.out, HMB.out, HB2.out⟩⟩
          case round =>
            clear HFU HMB HB2
            obtain ⟨wk, rfl⟩ : ∃ wk : World, wk = wr := ⟨_, rfl⟩
            obtain ⟨k, hk, rfl, HK⟩ := hrel
            obtain ⟨M, hK1, hK2, hK3⟩ := HK.out
            have HK1 := Lib.hid hK1
            have HK2 := Lib.hid hK2
            have HK3 := Lib.hid hK3
            clear HK hK1 hK2 hK3
            by_cases hkm : k < m
            · have k1 : decide ((k : Int) < m) = true := decide_eq_true (by omega)
              have k2 : (k : Int) < m := by omega
              have hwk : IntKind.i64.wrap ((k : Int) + 1) = (k : Int) + 1 := IntWalk.i64_in _ (by omega)
              go_wp2_with fail
              go_loopw [77] (fun i wr => ∃ i' : Nat, i' ≤ m ∧ i = vi i' ∧ Hid (∃ M, PassI (StS es level) m k i' 0 M ∧ MatB tb m M wr ∧ Below tb w wr)) (fun i _ => m - (intOf i).toNat)
              case atStart => exact ⟨0, Nat.zero_le _, rfl, Lib.hid ⟨_, HK1.out.start, HK2.out, HK3.out⟩⟩
              case round =>
                obtain ⟨wi, rfl⟩ : ∃ wi : World, wi = wr := ⟨_, rfl⟩
                obtain ⟨i, hi, rfl, HI⟩ := hrel
                obtain ⟨M2, hI1, hI2, hI3⟩ := HI.out
                have HI1 := Lib.hid hI1
                have HI2 := Lib.hid hI2
                have HI3 := Lib.hid hI3
                clear HI hI1 hI2 hI3
                by_cases him : i < m
                · have i1 : decide ((i : Int) < m) = true := decide_eq_true (by omega)
                  have i2 : (i : Int) < m := by omega
                  have hwi : IntKind.i64.wrap ((i : Int) + 1) = (i : Int) + 1 := IntWalk.i64_in _ (by omega)
                  go_wp2_with fail
                  go_loopw [82] (fun j wr => ∃ j' : Nat, j' ≤ m ∧ j = vi j' ∧ Hid (∃ M, PassI (StS es level) m k i j' M ∧ MatB tb m M wr ∧ Below tb w wr)) (fun j _ => m - (intOf j).toNat)
                  case atStart => exact ⟨0, Nat.zero_le _, rfl, Lib.hid ⟨_, HI1.out, HI2.out, HI3.out⟩⟩
                  case round =>
                    obtain ⟨wo, rfl⟩ : ∃ wo : World, wo = wr := ⟨_, rfl⟩
                    obtain ⟨j, hj, rfl, HO⟩ := hrel
                    obtain ⟨M3, hO1, hO2, hO3⟩ := HO.out
                    have HO1 := Lib.hid hO1
                    have HO2 := Lib.hid hO2
                    have HO3 := Lib.hid hO3
                    clear HO hO1 hO2 hO3
                    by_cases hjm : j < m
                    · have j1 : decide ((j : Int) < m) = true := decide_eq_true (by omega)
                      have j2 : (j : Int) < m := by omega
                      have hwj : IntKind.i64.wrap ((j : Int) + 1) = (j : Int) + 1 := IntWalk.i64_in _ (by omega)
                      have c1 := HO2.out.tcell him
                      have c2 := HO2.out.tcell hkm
                      have c3 := HO2.out.rcell him hkm
                      have c4 := HO2.out.rcell hkm hjm
                      have c5 := HO2.out.free him
                      have c6 := HO2.out.rcell him hjm
                      cases d1 : M3 i k with
                      | false =>
                        rw [d1] at c3
                        have HN := Lib.hid (HO1.out.skip him hjm hkm (fun h => by rw [d1] at h; cases h.1))
                        go_wp2_with fail
                        exact ⟨⟨j + 1, by omega, by go_num, Lib.hid ⟨_, HN.out, HO2.out, HO3.out⟩⟩, by simp only [intOf]; omega⟩
                      | true =>
                        rw [d1] at c3
                        cases d2 : M3 k j with
                        | false =>
                          rw [d2] at c4
                          have HN := Lib.hid (HO1.out.skip him hjm hkm (fun h => by rw [d2] at h; cases h.2))
                          go_wp2_with fail
                          exact ⟨⟨j + 1, by omega, by go_num, Lib.hid ⟨_, HN.out, HO2.out, HO3.out⟩⟩, by simp only [intOf]; omega⟩
                        | true =>
                          rw [d2] at c4
                          have HN := Lib.hid (HO1.out.put him hjm hkm d1 d2)
                          have HW := Lib.hid (HO2.out.set him hjm)
                          have HB3 := Lib.hid (below_row HO3.out (Nat.le_refl _) i j (.bool true))
                          go_wp2_with fail
                          exact ⟨⟨j + 1, by omega, by go_num, Lib.hid ⟨_, HN.out, HW.out, HB3.out⟩⟩, by simp only [intOf]; omega⟩
                    · have j1 : decide ((j : Int) < m) = false := decide_eq_false (by omega)
                      obtain rfl : m = j := by omega
                      have HN := Lib.hid HO1.out.row
                      go_wp2_with fail
                      exact ⟨⟨i + 1, by omega, by go_num, Lib.hid ⟨_, HN.out, HO2.out, HO3.out⟩⟩, by simp only [intOf]; omega⟩
                · have i1 : decide ((i : Int) < m) = false := decide_eq_false (by omega)
                  obtain rfl : m = i := by omega
                  have HN := Lib.hid HI1.out.full
                  go_wp2_with fail
                  exact ⟨⟨k + 1, by omega, by go_num, Lib.hid ⟨_, HN.out, HI2.out, HI3.out⟩⟩, by simp only [intOf]; omega⟩
            · have k1 : decide ((k : Int) < m) = false := decide_eq_false (by omega)
              obtain rfl : m = k := by omega
              have HR := Lib.hid (show (∃ i, i < m ∧ M i i = true) ↔ Rounds (StepK es (level == 1)) from by
                rw [← rounds_states HIN.out, rounds_closed HIN.out, ← HM.out]
                constructor
                · rintro ⟨i, hi, h⟩; exact ⟨i, hi, (HK1.out i i hi hi).1 h⟩
                · rintro ⟨i, hi, h⟩; exact ⟨i, hi, (HK1.out i i hi hi).2 h⟩)
              go_wp2_with fail
              go_loopw [112] (fun i wr => ∃ i' : Nat, i' ≤ m ∧ i = vi i' ∧ Hid ((∀ x, x < i' → M x x = false) ∧ wr = wk)) (fun i _ => m - (intOf i).toNat)
              case atStart => exact ⟨0, Nat.zero_le _, rfl, Lib.hid ⟨fun x h => absurd h (Nat.not_lt_zero _), rfl⟩⟩
              case round =>
                obtain ⟨i, hi, rfl, HI⟩ := hrel
                obtain ⟨hI1, rfl⟩ := HI.out
                clear HI
                have HI1 := Lib.hid hI1
                clear hI1
                by_cases him : i < m
                · have i1 : decide ((i : Int) < m) = true := decide_eq_true (by omega)
                  have i2 : (i : Int) < m := by omega
                  have hwi : IntKind.i64.wrap ((i : Int) + 1) = (i : Int) + 1 := IntWalk.i64_in _ (by omega)
                  have c1 := HK2.out.tcell him
                  have c3 := HK2.out.rcell him him
                  cases d1 : M i i with
                  | false =>
                    rw [d1] at c3
                    have HN := Lib.hid (show ∀ x, x < i + 1 → M x x = false from fun x hx => by
                      by_cases h : x < i
                      · exact HI1.out x h
                      · obtain rfl : x = i := by omega
                        exact d1)
                    go_wp2_with fail
                    exact ⟨⟨i + 1, by omega, by go_num, Lib.hid ⟨HN.out, by trivial⟩⟩, by simp only [intOf]; omega⟩
                  | true =>
                    rw [d1] at c3
                    have HN := Lib.hid (HR.out.1 ⟨i, him, d1⟩)
                    go_wp2_with fail
                    go_ret
                    exact ⟨true, rfl, ⟨fun _ => HN.out, fun _ => rfl⟩, HTB.out ▸ HK3.out⟩
                · have i1 : decide ((i : Int) < m) = false := decide_eq_false (by omega)
                  have HN := Lib.hid (show ¬ Rounds (StepK es (level == 1)) from fun h => by
                    obtain ⟨x, hx, hxx⟩ := HR.out.2 h
                    have := HI1.out x (by omega)
                    rw [hxx] at this; cases this)
                  go_wp2_with fail
                  go_ret
                  exact ⟨false, rfl, ⟨fun h => (by cases h), fun h => absurd h HN.out⟩, HTB.out ▸ HK3.out⟩
end Go.Proofs.Ytefpmcbpodlabaa

/- slices.Contains at ints, of any row of ints. -/
namespace Go.Proofs.Ytefpmcbpodlabaa
open Go.RowKit Go.Maps

def idxN (q : Int → Bool) (l : List Int) : Int := match l.findIdx? q with | some i => (i : Int) | none => -1
theorem idxN_any (q : Int → Bool) (l : List Int) : decide (0 ≤ idxN q l) = l.any q := by
  unfold idxN
  cases h : l.findIdx? q with
  | none =>
    rw [List.findIdx?_eq_none_iff] at h
    simp only [show ¬ ((0 : Int) ≤ -1) from by decide, decide_false]
    symm; rw [List.any_eq_false]; exact fun x hx => by simp [h x hx]
  | some i =>
    have hs : (l.findIdx? q).isSome = true := by rw [h]; rfl
    rw [List.findIdx?_isSome] at hs
    rw [hs]; simp


/-- A row of ints, read. -/
def IntsAt (w : World) (v : Value) (l : List Int) : Prop := ∃ a c, v = .slice a l.length c ∧ l.length ≤ 1000000000 ∧ ∀ (j : Nat) x, l[j]? = some x → ∃ b off, a = some ⟨b, off, none⟩ ∧ w.cell? ⟨b, off + j, none⟩ = some (vi x)
theorem ints_of_own {w : World} {N : Nat} {a : Option Addr} {c : Nat} {l : List Int} (h : w.ownsRow N 3 1 (.slice a l.length c) l.length (l.flatMap viC)) (hl : l.length ≤ 1000000000) : IntsAt w (.slice a l.length c) l :=
  ⟨a, c, rfl, hl, fun j x hj => by
    obtain ⟨g, h1, h2⟩ := row_cell h j x hj
    exact ⟨g, 0, h1, by rw [Nat.zero_add]; exact h2⟩⟩
theorem IntsAt.later {A B : World} {v : Value} {l : List Int} (h : IntsAt A v l) (hb : Below A.heap.size A B) : IntsAt B v l := by
  obtain ⟨a, c, h1, h2, h3⟩ := h
  exact ⟨a, c, h1, h2, fun j x hj => by
    obtain ⟨b, off, h4, h5⟩ := h3 j x hj
    exact ⟨b, off, h4, cell_later hb h5⟩⟩
theorem IntsAt.take {w : World} {g c k : Nat} {l : List Int} (h : IntsAt w (.slice (some ⟨g, 0, none⟩) l.length c) l) (hk : k ≤ l.length) : IntsAt w (.slice (some ⟨g, 0, none⟩) k c) (l.take k) := by
  obtain ⟨a, c', h1, h2, h3⟩ := h
  cases h1
  refine ⟨_, _, by rw [List.length_take, Nat.min_eq_left hk], by rw [List.length_take]; omega, fun j x hj => ?_⟩
  refine h3 j x ?_
  rw [List.getElem?_take] at hj
  split at hj
  · exact hj
  · cases hj
set_option maxRecDepth 100000 in
theorem indexN_call (v : Value) (l : List Int) (z : Int) (w : World) (hv : IntsAt w v l) :
    Calls Try.prog 89 #[v, vi z] w fun e w' => e = .returned (.int .i64 (idxN (fun o => z == o) l)) ∧ Below w.heap.size w w' := by
  have HV := Lib.hid hv
  obtain ⟨a, cap, rfl, hm, -⟩ := HV.out
  clear hv
  go_enter Try.func89, Try.ntmps89
  go_wp2_with fail
  go_loopw [5, 8] (fun _ i wr => ∃ k : Nat, k ≤ l.length ∧ i = .int .i64 k ∧ (∀ j o, j < k → l[j]? = some o → (z == o) = false) ∧ Below w.heap.size w wr) (fun _ i _ => l.length - (intOf i).toNat)
  case atStart => exact ⟨0, Nat.zero_le _, rfl, fun j o hj => absurd hj (Nat.not_lt_zero _), Below.refl _ _⟩
  case round =>
    obtain ⟨k, hk, rfl, hno, hb⟩ := hrel
    have HB := Lib.hid hb
    have HN := Lib.hid hno
    clear hb hno
    by_cases hlt : k < l.length
    · obtain ⟨o, ho⟩ := some_at hlt
      obtain ⟨_, _, e5, -, hcl⟩ := HV.out
      cases e5
      obtain ⟨b, off, rfl, k0'⟩ := hcl k o ho
      have k0 := cell_later HB.out k0'
      have HO := Lib.hid ho
      clear hcl ho k0'
      cases hh : (z == o) with
      | true =>
        have HH := Lib.hid hh
        go_wp2_with fail
        go_ret
        have : idxN (fun o => z == o) l = k := by
          unfold idxN
          have : l.findIdx? (fun o => z == o) = some k := by
            rw [List.findIdx?_eq_some_iff_getElem]
            have hg := List.getElem?_eq_some_iff.1 HO.out
            refine ⟨hlt, by rw [hg.2]; exact HH.out, fun j hj => ?_⟩
            have := HN.out j l[j] hj (List.getElem?_eq_getElem _)
            simp [this]
          rw [this]
        exact ⟨by rw [this]; rfl, HB.out⟩
      | false =>
        have HH := Lib.hid hh
        go_wp2_with fail
        go_roundw
        case rel =>
          refine ⟨k + 1, by omega, by go_num, ?_, HB.out⟩
          intro j o' hj ho'
          rcases Nat.lt_or_ge j k with h | h
          · exact HN.out j o' h ho'
          · obtain rfl : j = k := by omega
            rw [HO.out] at ho'; cases ho'; exact HH.out
        case measure => simp [intOf]; omega
    · obtain rfl : k = l.length := by omega
      go_wp2_with fail
      go_ret
      have : idxN (fun o => z == o) l = -1 := by
        unfold idxN
        have : l.findIdx? (fun o => z == o) = none := by
          rw [List.findIdx?_eq_none_iff]
          intro x hx
          obtain ⟨j, hj, rfl⟩ := List.mem_iff_getElem.1 hx
          exact HN.out j l[j] hj (List.getElem?_eq_getElem _)
        rw [this]
      exact ⟨by rw [this]; rfl, HB.out⟩

set_option maxRecDepth 100000 in
theorem containsN_call (v : Value) (l : List Int) (z : Int) (w : World) (hv : IntsAt w v l) :
    Calls Try.prog 52 #[v, vi z] w fun e w' => e = .returned (.bool (l.any (fun o => z == o))) ∧ Below w.heap.size w w' := by
  go_enter Try.func52, Try.ntmps52
  go_wp2_with (go_at_call 89; refine (indexN_call v l z w hv).mono ?_; rintro e w1 ⟨rfl, hb1⟩)
  go_ret
  exact ⟨by rw [← idxN_any]; first | rfl | simp, hb1⟩

end Go.Proofs.Ytefpmcbpodlabaa

/- graph.Is: a closed way is told. -/
namespace Go.Proofs.Ytefpmcbpodlabaa
open Go.RowKit Go.Maps
attribute [local go_sem] Oper.semAt_some

theorem chain1_at {r : Nat → Nat → Prop} : ∀ {l : List Nat} {i a b : Nat}, Chain1 r l → l[i]? = some a → l[i + 1]? = some b → r a b
  | [], _, _, _, _, ha, _ => by simp at ha
  | [_], i, _, _, _, _, hb => by simp at hb
  | x :: y :: l, 0, a, b, hc, ha, hb => by
    simp at ha hb
    subst ha hb
    exact hc.1
  | x :: y :: l, i + 1, a, b, hc, ha, hb => chain1_at (l := y :: l) (i := i) hc.2 (by simpa using ha) (by simpa using hb)
theorem Closed.step {r : Nat → Nat → Prop} {s : Nat} {C : List Nat} (h : Closed r s C) {i a b : Nat} (ha : C[i]? = some a) (hb : C[(i + 1) % C.length]? = some b) : r a b := by
  have hi := (List.getElem?_eq_some_iff.1 ha).1
  by_cases h1 : i + 1 < C.length
  · rw [Nat.mod_eq_of_lt h1] at hb
    exact chain1_at h.chain ha hb
  · have h2 : i + 1 = C.length := by omega
    rw [h2, Nat.mod_self] at hb
    have hs : b = s := by
      have h3 := h.head
      rw [List.head?_eq_getElem?, hb] at h3
      exact Option.some.inj h3
    subst hs
    refine h.shut a ?_
    rw [List.getLast?_eq_getElem?, show C.length - 1 = i by omega]
    exact ha
theorem Closed.arc {r : Nat → Nat → Prop} {s : Nat} {C : List Nat} (h : Closed r s C) {i a : Nat} (ha : C[i]? = some a) : ∃ b, C[(i + 1) % C.length]? = some b ∧ r a b := by
  have hi := (List.getElem?_eq_some_iff.1 ha).1
  obtain ⟨b, hb⟩ := some_at (l := C) (k := (i + 1) % C.length) (Nat.mod_lt _ (by omega))
  exact ⟨b, hb, h.step ha hb⟩
theorem Closed.len {n s : Nat} {T : List (List Int)} {C : List Nat} (h : Closed (ArcT T) s C) (hn : T.length = n) : C.length ≤ n := by
  have := nodup_len C (List.range n) h.nodup (fun x hx => by
    obtain ⟨i, hi⟩ := List.mem_iff_getElem?.1 hx
    obtain ⟨b, -, l, h1, -⟩ := h.arc hi
    have := (List.getElem?_eq_some_iff.1 h1).1
    exact List.mem_range.2 (by omega))
  simpa using this
theorem own_cap {w : World} {N g m c : Nat} {cs : List Value} (h : w.ownsRow N 3 1 (.slice (some ⟨g, 0, none⟩) m c) m cs) : m ≤ c := by
  rcases h.2 with ⟨hv, h0⟩ | ⟨g', cap, cur, hv, hg, hb, h1, h2, h3, h4⟩
  · cases hv
  · simp only [Value.slice.injEq] at hv
    obtain ⟨-, -, rfl⟩ := hv
    omega

set_option maxRecDepth 100000 in
set_option maxHeartbeats 8000000 in
theorem is_callG (ni : Int) (arcs : List (Int × Int)) (v vc : Value) (C : List Nat) (s N : Nat) (w : World) (hr : RdArcs w v arcs) (hl : arcs.length ≤ 1000000) (hc : w.ownsRow N 3 1 vc C.length ((C.map natI).flatMap viC)) (hC : Closed (ArcT (nextT (sizeM ni) arcs)) s C) :
    Calls Try.prog 21 #[vi ni, v, vc] w fun e w' => e = .returned (.bool true) ∧ Below w.heap.size w w' := by
  have hsz := size_call ni w
  obtain ⟨n, hn⟩ : ∃ n, n = sizeM ni := ⟨_, rfl⟩
  rw [← hn] at hsz hC
  have hn4 : n ≤ 400 := by rw [hn]; exact sizeM_le ni
  clear hn
  have hnx := Lib.hid (next_callG n arcs v w hr hn4 hl)
  have HSH := Lib.hid (nextT_short (n := n) hl)
  have HSZ := Lib.hid hsz
  obtain ⟨T, hTe⟩ : ∃ T, T = nextT n arcs := ⟨_, rfl⟩
  have HLEN := Lib.hid (show T.length = n from by rw [hTe]; exact nextT_len n arcs)
  rw [← hTe] at hnx HSH hC
  have hcl := hC.len HLEN.out
  have HCC := Lib.hid hC
  obtain ⟨g, cc, rfl⟩ : ∃ g cc, vc = .slice (some ⟨g, 0, none⟩) C.length cc := by
    rcases hc.2 with ⟨hv, h0⟩ | ⟨g, cap, cur, hv, -⟩
    · have h3 := hC.head
      have : C = [] := List.length_eq_zero_iff.1 (by simpa using h0)
      rw [this] at h3; cases h3
    · exact ⟨g, _, hv⟩
  have hcap := own_cap hc
  have hcpos : 0 < C.length := by
    have h3 := hC.head
    cases C with
    | nil => cases h3
    | cons x l => simp
  have HIA := Lib.hid (show IntsAt w (.slice (some ⟨g, 0, none⟩) (C.map natI).length cc) (C.map natI) from ints_of_own (by simpa using hc) (by simp; omega))
  clear hTe hl hr hsz hC hc
  go_enter Try.func21, Try.ntmps21
  go_upto_region 2 with (first | (go_at_call 51; refine HSZ.out.mono ?_; rintro e1 w0 ⟨rfl, rfl⟩) | (go_at_call 50; refine hnx.out.mono ?_; rintro e1 w1 ⟨tb, vs, rfl, hT, hB⟩; have HT := Lib.hid hT; have HB := Lib.hid hB; clear hT hB))
  go_wp2_with fail
  go_loopw [17] (fun i wr => ∃ k : Nat, k ≤ C.length ∧ i = vi k ∧ Hid (Below w1.heap.size w1 wr)) (fun i _ => C.length - (intOf i).toNat)
  case atStart => exact ⟨0, Nat.zero_le _, rfl, Lib.hid (Below.refl _ _)⟩
  case round =>
    obtain ⟨wj, rfl⟩ : ∃ wj : World, wj = wr := ⟨_, rfl⟩
    obtain ⟨k, hk, rfl, HJ⟩ := hrel
    have HBJ := Lib.hid (HB.out.trans (HJ.out.mono HB.out.size))
    by_cases hlt : k < C.length
    · have k1 : decide ((k : Int) < C.length) = true := decide_eq_true (by omega)
      have k2 : (k : Int) < C.length := by omega
      have hwk : IntKind.i64.wrap ((k : Int) + 1) = (k : Int) + 1 := IntWalk.i64_in _ (by omega)
      obtain ⟨a, ha⟩ := some_at hlt
      obtain ⟨b, hb, la, hla, hmem⟩ := HCC.out.arc ha
      obtain ⟨nx, hnx2⟩ : ∃ nx, nx = (k + 1) % C.length := ⟨_, rfl⟩
      rw [← hnx2] at hb
      have hnl : nx < C.length := by rw [hnx2]; exact Nat.mod_lt _ hcpos
      have hrem : ((k : Int) + 1).tmod (C.length : Int) = (nx : Int) := by rw [hnx2, Int.tmod_eq_emod_of_nonneg (by omega)]; push_cast; rfl
      have hwx : IntKind.i64.wrap (nx : Int) = (nx : Int) := IntWalk.i64_in _ (by omega)
      have HI := Lib.hid (HIA.out.later HBJ.out)
      obtain ⟨_, _, e5, -, hcl2⟩ := HI.out
      cases e5
      obtain ⟨g', off, e6, y0'⟩ := hcl2 k (natI a) (by rw [List.getElem?_map, ha]; rfl)
      obtain ⟨_, _, e7, y1'⟩ := hcl2 nx (natI b) (by rw [List.getElem?_map, hb]; rfl)
      cases e6
      cases e7
      rw [Nat.zero_add] at y0' y1'
      have y0 : wj.cell? ⟨g, k, none⟩ = some (vi a) := y0'
      have y1 : wj.cell? ⟨g, nx, none⟩ = some (vi b) := y1'
      clear y0' y1'
      have x2 : (nx : Int) < C.length := by omega
      have x3 : ((C.length : Int) == 0) = false := by rw [beq_eq_false_iff_ne]; omega
      have han : a < n := by have := (List.getElem?_eq_some_iff.1 hla).1; rw [HLEN.out] at this; exact this
      have a1 : decide ((a : Int) < 0) = false := decide_eq_false (by omega)
      have a2 : decide ((n : Int) ≤ (a : Int)) = false := decide_eq_false (by omega)
      have a3 : (a : Int) < n := by omega
      obtain ⟨va, hva, hrow⟩ := HT.out.rows.get hla
      obtain ⟨ak, ck, rfl⟩ := Gr.own_shape (show World.ownsRow _ _ _ _ va la.length _ from hrow)
      have td : wj.cell? ⟨tb, a, none⟩ = some (.slice ak la.length ck) := (HT.out.later HJ.out).cell hva
      have hml := HSH.out la (List.mem_of_getElem? hla)
      have HR := Lib.hid ((ints_of_own hrow (by omega)).later HJ.out)
      have HY := Lib.hid (show la.any (fun o => (b : Int) == o) = true from by rw [List.any_eq_true]; exact ⟨b, hmem, by simp⟩)
      have HN := Lib.hid (show ((C.map natI).take k).any (fun o => (a : Int) == o) = false from by
        rw [List.any_eq_false]
        intro x hx
        obtain ⟨j, hj⟩ := List.mem_iff_getElem?.1 hx
        rw [List.getElem?_take] at hj
        split at hj
        · rename_i hjk
          rw [List.getElem?_map] at hj
          obtain ⟨c, hc, rfl⟩ := Option.map_eq_some_iff.1 hj
          simp only [beq_iff_eq, natI]
          intro e
          have e2 : a = c := by omega
          subst e2
          obtain ⟨q1, q2⟩ := List.getElem?_eq_some_iff.1 hc
          obtain ⟨q3, q4⟩ := List.getElem?_eq_some_iff.1 ha
          exact List.pairwise_iff_getElem.1 HCC.out.nodup j k q1 q3 hjk (q2.trans q4.symm)
        · cases hj)
      have HPF := Lib.hid (HI.out.take (k := k) (by simp; omega))
      have kc : (k : Int) ≤ cc := by omega
      clear hcl2 ha hb hla hmem hnx2 hva hrow HI
      go_upto_region 6 with fail
      clear y0 y1
      go_wp2_with (go_at_call 52; first
        | (refine (containsN_call _ la (b : Int) wj HR.out).mono ?_; rintro e8 w8 ⟨rfl, hb8⟩; rw [HY.out]; have HB8 := Lib.hid (HJ.out.trans (hb8.mono HJ.out.size)); have HP8 := Lib.hid (HPF.out.later hb8); clear hb8)
        | (refine (containsN_call _ ((C.map natI).take k) (a : Int) w8 HP8.out).mono ?_; rintro e9 w9 ⟨rfl, hb9⟩; rw [HN.out]; have HB9 := Lib.hid (HB8.out.trans (hb9.mono HB8.out.size)); clear hb9))
      exact ⟨⟨k + 1, by omega, by go_num, HB9⟩, by simp only [intOf]; omega⟩
    · have k1 : decide ((k : Int) < C.length) = false := decide_eq_false (by omega)
      have k3 : decide ((0 : Int) < C.length) = true := decide_eq_true (by omega)
      go_wp2_with fail
      go_ret
      exact ⟨by rfl, HBJ.out⟩
end Go.Proofs.Ytefpmcbpodlabaa

/- cruciblelaw10.DepsBroken. -/
namespace Go.Proofs.Ytefpmcbpodlabaa
open Go.RowKit Go.Maps

theorem brk_ref {ts : List GTxn} {L : FaL} {level : Int} {l : List GEdge} (he : EdgesOf ts L l) : Brk ts L level ↔ Rounds (StepK l (level == 1)) := by
  rw [rounds_iff]
  constructor
  · rintro ⟨l', he', hr⟩
    have : l' = l := edges_ext he'.1 he.1 (fun p => (he'.2 p).trans (he.2 p).symm)
    subst this
    exact hr
  · exact fun hr => ⟨l, he, hr⟩
theorem bad_no {bb : Bool} {P : Prop} (h : ¬ P) (hi : bb = true ↔ P) : bb = false := by
  cases bb with
  | false => rfl
  | true => exact absurd (hi.1 rfl) h
namespace depsBroken
attribute [local go_sem] Oper.semAt_some

set_option maxRecDepth 100000 in
set_option maxHeartbeats 8000000 in
theorem walk (v u : Value) (level : Int) (es : List GEvent) (picks : List Int) (w : World) (hv : RdEvents w v es) (hu : RdInts w u picks) :
    Calls Try.prog 6 #[v, u, vi level] w fun e w' => e = .returned (.bool true) ∧ Below w.heap.size w w' := by
  have HV := Lib.hid hv
  have HU := Lib.hid hu
  clear hv hu
  go_enter Try.func6, Try.ntmps6
  go_upto_region 4 with (first
    | (go_at_call 12; refine (head10_call _).mono ?_; rintro e w1 ⟨rfl, hb1⟩; have HB1 := Lib.hid hb1; have HV1 := Lib.hid (HV.out.later hb1); clear hb1)
    | (go_at_call 14; refine (made10_call _ es _ HV1.out).mono ?_; rintro e w2 ⟨v2, b, rfl, hg, ⟨sa, sn, sc, rfl⟩, hb2⟩))
  have HB2 := Lib.hid (HB1.out.trans (hb2.mono HB1.out.size))
  clear hb2
  cases b with
  | false =>
    go_wp2_with fail
    go_ret
    exact ⟨by rfl, HB2.out⟩
  | true =>
    obtain ⟨ts, hr, hgood, -⟩ := hg rfl
    have HR := Lib.hid hr
    have HGD := Lib.hid hgood
    have HOK := Lib.hid hgood.ok
    have HUN := Lib.hid hgood.uniq
    have htl : ts.length ≤ 60 := hgood.len
    obtain ⟨_, _, _, e9, hsn, -, -⟩ := hr.at
    cases e9
    subst hsn
    clear hg hr hgood
    go_upto_region 7 with (go_at_call 15; refine (some10_call _ _ ts picks _ HR.out HOK.out (by omega) HUN.out (HU.out.later HB2.out)).mono ?_; rintro e w3 ⟨L, m, sv, rfl, hm0, hM, hS, hkeys, hll, hmem, hb3⟩)
    have HM := Lib.hid (FaV.of hM)
    have HS := Lib.hid hS
    have HB3 := Lib.hid (HB2.out.trans (hb3.mono HB2.out.size))
    have HR3 := Lib.hid (HR.out.later hb3)
    have HFA := Lib.hid (show FaOk ts L from ⟨hmem, hkeys⟩)
    have HSM := Lib.hid (small_good (L := L) HGD.out (by omega))
    have HEF := Lib.hid (refE_edges HGD.out HFA.out)
    clear hM hS hkeys hb3 hll hmem hm0
    go_upto_region 8 with (go_at_call 19; refine (broken_call _ _ ts L 12 level w3 HR3.out HOK.out HM.out HSM.out).mono ?_; rintro e4 w4 ⟨v4, l, C, rfl, he, ho, hc, hb4⟩; have HE := Lib.hid he; have HO4 := Lib.hid ho; have HC := Lib.hid hc; have HB4 := Lib.hid (HB3.out.trans (hb4.mono HB3.out.size)); have HR4 := Lib.hid (HR3.out.later hb4); have HS4 := Lib.hid (HS.out.later hb4); have HM4 := Lib.hid (HM.out.later hb4); clear he ho hc hb4)
    obtain ⟨ca, cc, rfl⟩ := Gr.own_shape HO4.out
    obtain ⟨cl, hcl⟩ : ∃ cl, cl = C.length := ⟨_, rfl⟩
    have HCN := Lib.hid hcl
    rw [← hcl] at HO4 ⊢
    clear hcl
    have HIF := Lib.hid (show 0 < cl ↔ Rounds (StepK (refE ts L) (level == 1)) from by rw [HCN.out]; exact (brk_cyc htl HE.out HC.out).trans (brk_ref HEF.out))
    rcases HC.out with ⟨hC0, -⟩ | ⟨s0, hs0, hcl, -⟩
    · have hz : cl = 0 := by rw [HCN.out, hC0]; rfl
      have HBK := Lib.hid (show ¬ Rounds (StepK (refE ts L) (level == 1)) from fun h => by have := HIF.out.2 h; omega)
      have k1 : decide (0 < cl) = false := decide_eq_false (by omega)
      have k2 : ((cl : Int) == 0) = true := by rw [beq_iff_eq]; omega
      clear hC0 hz
      go_wp2_with (first
        | (go_at_call 17; refine (refEdges_call _ sv ts L w4 HR4.out HOK.out HS4.out (by omega)).mono ?_; rintro e5 w5 ⟨v5, rfl, ho5, hb5⟩; have HO5 := Lib.hid ho5.rd; have HB5 := Lib.hid (HB4.out.trans (hb5.mono HB4.out.size)); have HR5 := Lib.hid (HR4.out.later hb5); have HM5 := Lib.hid (HM4.out.later hb5); have HO45 := Lib.hid (own_below HO4.out hb5); clear ho5 hb5)
        | (go_at_call 20; refine (bad_call ts.length (refE ts L) _ level w5 HO5.out (edges_in HEF.out) (by omega)).mono ?_; rintro e6 w6 ⟨bb, rfl, hbb, hb6⟩; have hbv : bb = false := (bad_no HBK.out hbb); subst hbv; have HB6 := Lib.hid (HB5.out.trans (hb6.mono HB5.out.size)); have HR6 := Lib.hid (HR5.out.later hb6); have HM6 := Lib.hid (HM5.out.later hb6); have HO46 := Lib.hid (own_below HO45.out hb6); clear hbb hb6))
      go_ret
      exact ⟨by rfl, HB6.out⟩
    · have HCL := Lib.hid hcl
      have hpos : 0 < cl := by
        rw [HCN.out]
        have h3 := hcl.head
        cases C with
        | nil => cases h3
        | cons x l => simp
      have HBK := Lib.hid (HIF.out.1 hpos)
      have k1 : decide (0 < cl) = true := decide_eq_true (by omega)
      have k2 : ((cl : Int) == 0) = false := by rw [beq_eq_false_iff_ne]; omega
      clear hcl hpos
      go_wp2_with (first
        | (go_at_call 17; refine (refEdges_call _ sv ts L w4 HR4.out HOK.out HS4.out (by omega)).mono ?_; rintro e5 w5 ⟨v5, rfl, ho5, hb5⟩; have HO5 := Lib.hid ho5.rd; have HB5 := Lib.hid (HB4.out.trans (hb5.mono HB4.out.size)); have HR5 := Lib.hid (HR4.out.later hb5); have HM5 := Lib.hid (HM4.out.later hb5); have HO45 := Lib.hid (own_below HO4.out hb5); clear ho5 hb5)
        | (go_at_call 20; refine (bad_call ts.length (refE ts L) _ level w5 HO5.out (edges_in HEF.out) (by omega)).mono ?_; rintro e6 w6 ⟨bb, rfl, hbb, hb6⟩; have hbv : bb = true := hbb.2 HBK.out; subst hbv; have HB6 := Lib.hid (HB5.out.trans (hb6.mono HB5.out.size)); have HR6 := Lib.hid (HR5.out.later hb6); have HM6 := Lib.hid (HM5.out.later hb6); have HO46 := Lib.hid (own_below HO45.out hb6); clear hbb hb6)
        | (go_at_call 16; refine (edges_call _ _ ts L 12 w6 HR6.out HOK.out (by omega) HM6.out HSM.out.ops HSM.out.room).mono ?_; rintro e7 w7 ⟨v7, l', rfl, ho7, he7, hb7⟩; have hle : l' = l := edges_ext he7.1 HE.out.1 (fun p => (he7.2 p).trans (HE.out.2 p).symm); subst hle; have HO7 := Lib.hid ho7; have HB7 := Lib.hid (HB6.out.trans (hb7.mono HB6.out.size)); have HO47 := Lib.hid (own_below HO46.out hb7); have HLL := Lib.hid (lift_len he7 level htl); clear ho7 he7 hb7)
        | (go_at_call 13; refine (lift_call v7 l' level w7 HO7.out.rd HLL.out.1 (Nat.le_trans HLL.out.2 (by omega))).mono ?_; rintro e8 w8 ⟨v8, rfl, ho8, hb8⟩; have HO8 := Lib.hid ho8; have HB8 := Lib.hid (HB7.out.trans (hb8.mono HB7.out.size)); have HO48 := Lib.hid (own_below HO47.out hb8); clear ho8 hb8)
        | (go_at_call 21; refine (is_callG (ts.length : Int) (liftL l' level) v8 _ C s0 _ w8 HO8.out.rd HLL.out.2 (by rw [← HCN.out]; exact HO48.out) HCL.out).mono ?_; rintro e9 w9 ⟨rfl, hb9⟩; have HB9 := Lib.hid (HB8.out.trans (hb9.mono HB8.out.size)); clear hb9))
      go_ret
      exact ⟨by rfl, HB9.out⟩
end depsBroken
end Go.Proofs.Ytefpmcbpodlabaa
