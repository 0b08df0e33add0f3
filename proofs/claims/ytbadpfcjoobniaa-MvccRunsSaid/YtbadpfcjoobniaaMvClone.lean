/- slices.Clone at versions, operations and ints: a readable slice, copied into memory of the call's own. -/
import Derived.Test.YtbadpfcjoobniaaMvBlk
namespace Go.Proofs.Ytbadpfcjoobniaa
open Go.RowKit Go.Maps

theorem verV_length (x : Ver) : (verV x).length = 2 := rfl
theorem flat2 (l : List Ver) : (l.flatMap verV).length = l.length * 2 := by
  induction l with
  | nil => simp
  | cons x l ih => rw [List.flatMap_cons, List.length_append, verV_length, ih, List.length_cons, Nat.succ_mul, Nat.add_comm]
theorem flat_at {α : Type} (enc : α → List Value) (k : Nat) (hk : ∀ x, (enc x).length = k) : ∀ (l : List α) (j i : Nat) (x : α) (u : Value), l[j]? = some x → (enc x)[i]? = some u → (l.flatMap enc)[j * k + i]? = some u
  | [], j, i, x, u, h, _ => by simp at h
  | y :: l, 0, i, x, u, h, hu => by
    simp at h; subst h
    rw [List.flatMap_cons, Nat.zero_mul, Nat.zero_add, List.getElem?_append_left (List.getElem?_eq_some_iff.1 hu).1]; exact hu
  | y :: l, j + 1, i, x, u, h, hu => by
    rw [List.flatMap_cons, List.getElem?_append_right (by rw [hk, Nat.succ_mul]; omega), hk, show (j + 1) * k + i - k = j * k + i by rw [Nat.succ_mul]; omega]
    exact flat_at enc k hk l j i x u (by simpa using h) hu
/-- A row that the call owns, and each element of which reads by E: a readable slice. -/
theorem own_rds {α : Type} {enc : α → List Value} {k : Nat} (hk : ∀ x, (enc x).length = k) {E : World → List Value → α → Prop} {base : Nat} {w : World} {e : TypeId} {v : Value} {l : List α} (h : w.ownsRow base e k v l.length (l.flatMap enc)) (hE : ∀ x ∈ l, E w (enc x) x) : RdS k E w v l := by
  rcases h.2 with ⟨hv, h0⟩ | ⟨g, cap, cur, hv, hg, hh, hn, hcm, hs, ht⟩
  · have : l = [] := List.length_eq_zero_iff.1 h0
    subst this
    exact ⟨none, 0, 0, hv, rfl, by simp, Nat.le_refl _, fun _ => ⟨rfl, rfl⟩, fun j x hj => by simp at hj⟩
  · refine ⟨some ⟨g, 0, none⟩, l.length, cap, hv, rfl, by simp only [maxLen] at hcm; omega, hn, fun h => (by cases h), fun j x hj => ⟨g, 0, enc x, rfl, hk x, fun i u hu => ?_, hE x (List.mem_of_getElem? hj)⟩⟩
    have := World.ownsRow.cells h (g := g) (by rw [hv]; rfl) (j * k + i) u (flat_at enc k hk l j i x u hj hu)
    rwa [addr_add] at this
/-- A readable slice of elements that lie as enc says: the source of an append. -/
theorem rds_src {α : Type} {enc : α → List Value} {k : Nat} (hk : ∀ x, (enc x).length = k) {E : World → List Value → α → Prop} {w : World} {v : Value} {l : List α} (h : RdS k E w v l) (hE : ∀ cs x, E w cs x → cs = enc x) (k0 : 0 < k) : Src w v k l.length (l.flatMap enc) := by
  obtain ⟨a, len, cap, h1, h2, h3, h4, h5, h6⟩ := h
  subst h2
  have hfl : ∀ l : List α, (l.flatMap enc).length = l.length * k := fun l => by
    induction l with
    | nil => simp
    | cons x l ih => rw [List.flatMap_cons, List.length_append, hk, ih, List.length_cons, Nat.succ_mul, Nat.add_comm]
  refine ⟨a, cap, h1, hfl l, h5, fun ad had j u hu => ?_⟩
  have hj := (List.getElem?_eq_some_iff.1 hu).1
  rw [hfl] at hj
  have hjl : j / k < l.length := Nat.div_lt_of_lt_mul (by rw [Nat.mul_comm]; exact hj)
  have hi : j % k < k := Nat.mod_lt _ k0
  obtain ⟨x, hx⟩ := some_at hjl
  obtain ⟨b, off, cs, ha, hl, hc, he⟩ := h6 _ x hx
  have hcs := hE cs x he
  subst hcs
  rw [ha] at had; cases had
  have h7 : (enc x)[j % k]? = some ((enc x)[j % k]'(by rw [hk]; exact hi)) := List.getElem?_eq_getElem _
  have h8 := flat_at enc k hk l (j / k) (j % k) x _ hx h7
  have e : j / k * k + j % k = j := by rw [Nat.mul_comm]; exact Nat.div_add_mod j k
  rw [e] at h8
  rw [h8] at hu
  have h9 := hc (j % k) _ h7
  rw [e] at h9
  rw [addr_add, h9]; exact hu
theorem one_of {α : Type} {enc : α → List Value} (h : ∀ x, ∀ u ∈ enc x, u.oneCell' = true) (l : List α) : ∀ u ∈ l.flatMap enc, u.oneCell' = true := by
  intro u hu
  obtain ⟨x, _, hx⟩ := List.mem_flatMap.1 hu
  exact h x u hx
def OwV (base : Nat) (w : World) (v : Value) (l : List Ver) : Prop := w.ownsRow base 70 2 v l.length (l.flatMap verV)

set_option maxRecDepth 100000 in
set_option maxHeartbeats 1000000 in
theorem cloneV_call (v : Value) (l : List Ver) (w : World) (hv : RdVer w v l) (hl : l.length ≤ 1048576) :
    Calls Try.prog 49 #[v] w fun e w' => ∃ v', e = .returned v' ∧ w'.ownsRow w.heap.size 70 2 v' l.length (l.flatMap verV) ∧ Below w.heap.size w w' := by
  have HO0 := Lib.hid (World.ownsRow_lit (base := w.heap.size) (e := 70) (size := 2) w #[] 0 (Nat.le_refl _) (by simp [maxLen]) rfl)
  have HB0 := Lib.hid ((Below.refl w.heap.size w).alloc (Nat.le_refl _) (.cells #[] 70))
  have HS := Lib.hid (rds_src (enc := verV) (k := 2) (fun _ => rfl) (hv.later HB0.out) (fun cs x h => h.1) (by omega))
  obtain ⟨a, len, cap, rfl, rfl, hm, hn⟩ : ∃ a len cap, v = .slice a len cap ∧ len = l.length ∧ l.length ≤ 9223372036854775807 ∧ (a = none → len = 0 ∧ cap = 0) := by
    obtain ⟨a, len, cap, h1, h2, h3, -, h5, -⟩ := hv
    exact ⟨a, len, cap, h1, h2, h3, h5⟩
  clear hv
  have qT : ∀ (w : World) (a : Option Addr) (n c : Nat), (binOp .eql 46 (.slice a n c) (.slice none 0 0)).run Try.prog w = .ok (.bool a.isNone) w := fun w a n c => Lib.run_eql_slice_nil w _ _ a n c 0 0 Try.underlying46
  cases a with
  | none =>
    obtain ⟨h0, rfl⟩ := hn rfl
    have hbs : l = [] := List.length_eq_zero_iff.1 h0
    subst hbs
    go_enter Try.func49, Try.ntmps49
    go_wp2_with fail
    go_ret
    exact ⟨_, rfl, World.ownsRow_nil _ _ _ _, Below.refl _ _⟩
  | some ad =>
    go_enter Try.func49, Try.ntmps49
    go_wp2_with (at_builtin; refine wpList_append_src rfl _ _ 46 rfl eltVer w.heap.size 0 [] HO0.out rfl l.length _ HS.out rfl (one_of (by intro x u hu; simp [verV] at hu; rcases hu with rfl | rfl <;> rfl) l) (by omega) (by omega) (by simp) ?_; intro v1 w1 hown hg _)
    go_ret
    exact ⟨_, rfl, by simpa using hown, HB0.out.grown hg (by simp) (by simp [Value.ownBlock])⟩

set_option maxRecDepth 100000 in
set_option maxHeartbeats 1000000 in
theorem cloneO_call (v : Value) (l : List GOp) (w : World) (hv : RdOps w v l) (hl : l.length ≤ 1048576) :
    Calls Try.prog 42 #[v] w fun e w' => ∃ v', e = .returned v' ∧ w'.ownsRow w.heap.size 55 3 v' l.length (l.flatMap opV) ∧ Below w.heap.size w w' := by
  have HO0 := Lib.hid (World.ownsRow_lit (base := w.heap.size) (e := 55) (size := 3) w #[] 0 (Nat.le_refl _) (by simp [maxLen]) rfl)
  have HB0 := Lib.hid ((Below.refl w.heap.size w).alloc (Nat.le_refl _) (.cells #[] 55))
  have HS := Lib.hid (rds_src (enc := opV) (k := 3) (fun _ => rfl) (hv.later HB0.out) (fun cs x h => h) (by omega))
  obtain ⟨a, len, cap, rfl, rfl, hm, hn⟩ : ∃ a len cap, v = .slice a len cap ∧ len = l.length ∧ l.length ≤ 9223372036854775807 ∧ (a = none → len = 0 ∧ cap = 0) := by
    obtain ⟨a, len, cap, h1, h2, h3, -, h5, -⟩ := hv
    exact ⟨a, len, cap, h1, h2, h3, h5⟩
  clear hv
  have qT : ∀ (w : World) (a : Option Addr) (n c : Nat), (binOp .eql 26 (.slice a n c) (.slice none 0 0)).run Try.prog w = .ok (.bool a.isNone) w := fun w a n c => Lib.run_eql_slice_nil w _ _ a n c 0 0 Try.underlying26
  cases a with
  | none =>
    obtain ⟨h0, rfl⟩ := hn rfl
    have hbs : l = [] := List.length_eq_zero_iff.1 h0
    subst hbs
    go_enter Try.func42, Try.ntmps42
    go_wp2_with fail
    go_ret
    exact ⟨_, rfl, World.ownsRow_nil _ _ _ _, Below.refl _ _⟩
  | some ad =>
    go_enter Try.func42, Try.ntmps42
    go_wp2_with (at_builtin; refine wpList_append_src rfl _ _ 26 rfl eltOp w.heap.size 0 [] HO0.out rfl l.length _ HS.out rfl (one_of (by intro x u hu; simp [opV] at hu; rcases hu with rfl | rfl | rfl <;> rfl) l) (by omega) (by omega) (by simp) ?_; intro v1 w1 hown hg _)
    go_ret
    exact ⟨_, rfl, by simpa using hown, HB0.out.grown hg (by simp) (by simp [Value.ownBlock])⟩

set_option maxRecDepth 100000 in
set_option maxHeartbeats 1000000 in
theorem cloneI_call (v : Value) (l : List Int) (w : World) (hv : RdInts w v l) (hl : l.length ≤ 1048576) :
    Calls Try.prog 43 #[v] w fun e w' => ∃ v', e = .returned v' ∧ w'.ownsRow w.heap.size 3 1 v' l.length (l.flatMap viC) ∧ Below w.heap.size w w' := by
  have HO0 := Lib.hid (World.ownsRow_lit (base := w.heap.size) (e := 3) (size := 1) w #[] 0 (Nat.le_refl _) (by simp [maxLen]) rfl)
  have HB0 := Lib.hid ((Below.refl w.heap.size w).alloc (Nat.le_refl _) (.cells #[] 3))
  have HS := Lib.hid (rds_src (enc := viC) (k := 1) (fun _ => rfl) (hv.later HB0.out) (fun cs x h => h.1) (by omega))
  obtain ⟨a, len, cap, rfl, rfl, hm, hn⟩ : ∃ a len cap, v = .slice a len cap ∧ len = l.length ∧ l.length ≤ 9223372036854775807 ∧ (a = none → len = 0 ∧ cap = 0) := by
    obtain ⟨a, len, cap, h1, h2, h3, -, h5, -⟩ := hv
    exact ⟨a, len, cap, h1, h2, h3, h5⟩
  clear hv
  have qT : ∀ (w : World) (a : Option Addr) (n c : Nat), (binOp .eql 27 (.slice a n c) (.slice none 0 0)).run Try.prog w = .ok (.bool a.isNone) w := fun w a n c => Lib.run_eql_slice_nil w _ _ a n c 0 0 Try.underlying27
  cases a with
  | none =>
    obtain ⟨h0, rfl⟩ := hn rfl
    have hbs : l = [] := List.length_eq_zero_iff.1 h0
    subst hbs
    go_enter Try.func43, Try.ntmps43
    go_wp2_with fail
    go_ret
    exact ⟨_, rfl, World.ownsRow_nil _ _ _ _, Below.refl _ _⟩
  | some ad =>
    go_enter Try.func43, Try.ntmps43
    go_wp2_with (at_builtin; refine wpList_append_src rfl _ _ 27 rfl eltI w.heap.size 0 [] HO0.out rfl l.length _ HS.out rfl (one_of (by intro x u hu; simp [viC] at hu; subst hu; rfl) l) (by omega) (by omega) (by simp) ?_; intro v1 w1 hown hg _)
    go_ret
    exact ⟨_, rfl, by simpa using hown, HB0.out.grown hg (by simp) (by simp [Value.ownBlock])⟩
end Go.Proofs.Ytbadpfcjoobniaa
