/- The law LinkRuns: what holds between two steps, and what each step turns it into. -/
import Derived.Test.YthpdenmbcjngkaaLnItems2
namespace Go.Proofs.Ythpdenmbcjngkaa
open Go.RowKit Go.Maps
attribute [local go_sem] Oper.semAt_some

/-- What the net has is what the list says; the places apart are those that were cut. -/
structure Spec (J : List Itm) (ks : List LK) (L : Ways) (C : List (LK × Bool)) : Prop where
  con : ∀ l, conW L l = (ofK J l).map (fun x => byteI x.2)
  cut : ∀ l, (getM C (pairK l)).getD false = ks.any (fun c => sameB c l)
  short : ∀ x ∈ J, x.2.2.length ≤ 200
  wide : ∀ x ∈ J, i64 x.1.1 ∧ i64 x.1.2

theorem Spec.start : Spec [] [] [] [] := ⟨fun l => rfl, fun l => rfl, (fun x hx => by cases hx), (fun x hx => by cases hx)⟩
theorem Spec.sent {J : List Itm} {ks : List LK} {L L' : Ways} {C : List (LK × Bool)} (h : Spec J ks L C) (l : LK) (v : Value) (us : List UInt8) (hu : us.length ≤ 200) (hl : i64 l.1 ∧ i64 l.2) (h1 : conW L' l = conW L l ++ [byteI us]) (h2 : ∀ k, k ≠ l → conW L' k = conW L k) : Spec (J ++ [(l, v, us)]) ks L' C := by
  refine ⟨fun k => ?_, h.cut, fun x hx => ?_, fun x hx => ?_⟩
  · rw [ofK_append, List.map_append, ← h.con]
    by_cases hk : k = l
    · subst hk; rw [h1, ofK_cons, if_pos rfl]; rfl
    · rw [h2 k hk, ofK_cons, if_neg (fun e => hk e.symm)]; simp [ofK]
  · rcases List.mem_append.1 hx with hx | hx
    · exact h.short x hx
    · rw [List.mem_singleton] at hx; subst hx; exact hu
  · rcases List.mem_append.1 hx with hx | hx
    · exact h.wide x hx
    · rw [List.mem_singleton] at hx; subst hx; exact hl
theorem Spec.taken {J : List Itm} {ks : List LK} {L L' : Ways} {C : List (LK × Bool)} (h : Spec J ks L C) {l : LK} {k p : Nat} (hp : atJ J l k = some p) (h1 : conW L' l = (conW L l).eraseIdx k) (h2 : ∀ j, j ≠ l → conW L' j = conW L j) : Spec (J.take p ++ J.drop (p + 1)) ks L' C := by
  obtain ⟨x, hx, _, h3, h4⟩ := atJ_some hp
  rw [← List.eraseIdx_eq_take_drop_succ]
  refine ⟨fun j => ?_, h.cut, fun y hy => h.short y (List.mem_of_mem_eraseIdx hy), fun y hy => h.wide y (List.mem_of_mem_eraseIdx hy)⟩
  by_cases hj : j = l
  · subst hj; rw [h1, h3, h.con, map_eraseIdx']
  · rw [h2 j hj, h4 j hj, h.con]
theorem Spec.cutK {J : List Itm} {ks : List LK} {L : Ways} {C : List (LK × Bool)} (h : Spec J ks L C) (l : LK) : Spec J (ks.filter (fun c => !sameB c l) ++ [l]) L (putM C (pairK l) true) := by
  refine ⟨h.con, fun k => ?_, h.short, h.wide⟩
  rw [getM_put, List.any_append, List.any_filter]
  by_cases hk : pairK l = pairK k
  · rw [if_pos hk]; simp [sameB, hk]
  · rw [if_neg hk, h.cut k]
    have e : (List.any [l] fun c => sameB c k) = false := by simp [sameB, hk]
    rw [e, Bool.or_false]
    rw [Bool.eq_iff_iff, List.any_eq_true, List.any_eq_true]
    constructor
    · rintro ⟨c, hc, hs⟩
      refine ⟨c, hc, ?_⟩
      have h1 : pairK c = pairK k := of_decide_eq_true hs
      simp only [sameB, h1, decide_true, Bool.and_true, Bool.not_eq_true', decide_eq_false_iff_not]
      exact fun e => hk e.symm
    · rintro ⟨c, hc, hs⟩
      exact ⟨c, hc, (Bool.and_eq_true_iff.1 hs).2⟩
theorem Spec.joinK {J : List Itm} {ks : List LK} {L : Ways} {C : List (LK × Bool)} (h : Spec J ks L C) (l : LK) : Spec J (ks.filter (fun c => !sameB c l)) L (delM C (pairK l)) := by
  refine ⟨h.con, fun k => ?_, h.short, h.wide⟩
  rw [getM_del, List.any_filter]
  by_cases hk : pairK l = pairK k
  · rw [if_pos hk]
    symm
    rw [Option.getD_none, List.any_eq_false]
    intro c _
    simp only [sameB, hk]
    by_cases e : pairK c = pairK k <;> simp [e]
  · rw [if_neg hk, h.cut k]
    rw [Bool.eq_iff_iff, List.any_eq_true, List.any_eq_true]
    constructor
    · rintro ⟨c, hc, hs⟩
      refine ⟨c, hc, ?_⟩
      have h1 : pairK c = pairK k := of_decide_eq_true hs
      simp only [sameB, h1, decide_true, Bool.and_true, Bool.not_eq_true', decide_eq_false_iff_not]
      exact fun e => hk e.symm
    · rintro ⟨c, hc, hs⟩
      exact ⟨c, hc, (Bool.and_eq_true_iff.1 hs).2⟩
theorem Spec.healK {J : List Itm} {ks : List LK} {L : Ways} {C : List (LK × Bool)} (h : Spec J ks L C) : Spec J [] L [] := ⟨h.con, fun k => rfl, h.short, h.wide⟩

/-- Where the message is, by the net and by the list. -/
theorem Spec.none {J : List Itm} {ks : List LK} {L : Ways} {C : List (LK × Bool)} (h : Spec J ks L C) {l : LK} {k : Int} (hk : NoneAt L l k) {r : Int} (hr : ∀ n : Nat, k = (n : Int) → r = atI J l n) : k < 0 ∨ r < 0 := by
  rcases Int.lt_or_le k 0 with h0 | h0
  · exact .inl h0
  · right
    have := hr k.toNat (by omega)
    have h2 : atJ J l k.toNat = Option.none := by
      rw [atJ_none]
      have h3 := congrArg List.length (h.con l)
      rw [List.length_map] at h3
      rcases hk with hk | hk <;> omega
    rw [this]; unfold atI; rw [h2]; exact (by decide : (-1 : Int) < 0)
theorem Spec.some {J : List Itm} {ks : List LK} {L : Ways} {C : List (LK × Bool)} (h : Spec J ks L C) {l : LK} {j : Nat} {bs : List Int} (hj : (conW L l)[j]? = Option.some bs) {r : Int} (hr : ∀ n : Nat, (j : Int) = (n : Int) → r = atI J l n) : ∃ (p : Nat) (x : Value × List UInt8), r = (p : Int) ∧ atJ J l j = Option.some p ∧ J[p]? = Option.some (l, x) ∧ bs = byteI x.2 ∧ p < J.length := by
  have h3 := congrArg List.length (h.con l)
  rw [List.length_map] at h3
  have h4 := (List.getElem?_eq_some_iff.1 hj).1
  cases hp : atJ J l j with
  | none => rw [atJ_none] at hp; omega
  | some p =>
    obtain ⟨x, hx, h5, _⟩ := atJ_some hp
    refine ⟨p, x, by rw [hr j rfl]; unfold atI; rw [hp], rfl, hx, ?_, (List.getElem?_eq_some_iff.1 hx).1⟩
    rw [h.con, List.getElem?_map, h5] at hj
    simpa using hj.symm

/-- A net stays while bytes that are none of its messages are written. -/
theorem NetB.wrote {base p mw ma : Nat} {L : Ways} {C : List (LK × Bool)} {n lost : Int} {A B : World} (h : NetB base p mw ma L C n lost A) {g : Nat} (hg : A.grownBy B (Option.some g)) (ho : ∃ cs, A.heap[g]? = Option.some (.cells cs 5)) (hne : ∀ x ∈ L, ∀ m ∈ x.2.2, m.1.ownBlock ≠ Option.some g) : NetB base p mw ma L C n lost B := by
  obtain ⟨cs, ho⟩ := ho
  obtain ⟨es1, c1, ho1⟩ := h.ways.obj
  obtain ⟨es2, c2, ho2⟩ := h.apart.obj
  have h1 : p ≠ g := fun e => by rw [← e, h.blk] at ho; simp at ho
  have h2 : mw ≠ g := fun e => by rw [← e, ho1] at ho; cases ho
  have h3 : ma ≠ g := fun e => by rw [← e, ho2] at ho; cases ho
  refine ⟨(hg.block p (Array.getElem?_eq_some_iff.1 h.blk).1 (by simpa using h1)).trans h.blk, h.ways.kept hg (by simpa using h2), h.apart.kept hg (by simpa using h3), fun x hx => ?_, h.rows, h.bp, h.bw, h.ba, h.wa⟩
  have hw := h.way x hx
  refine ⟨World.ownsRow.kept hw.row hg (.inr (fun e => row_not hw.row ho (fun cs => by simp) e.symm)), fun m hm => World.ownsRow.kept (hw.msgs m hm) hg (.inr (hne x hx m hm))⟩
theorem own_wrote {base size n : Nat} {e : TypeId} {A B : World} {v : Value} {xs : List Value} (h : A.ownsRow base e size v n xs) {g : Nat} (hg : A.grownBy B (Option.some g)) {cs : Array Value} {T : TypeId} (ho : A.heap[g]? = Option.some (.cells cs T)) (hT : T ≠ e) : B.ownsRow base e size v n xs :=
  World.ownsRow.kept h hg (.inr (fun e' => row_not h ho (fun cs' he => hT (by cases he; rfl)) e'.symm))
theorem Stays.wrote {w A B : World} (h : Stays w A) {g : Nat} (hg : A.grownBy B (Option.some g)) (hn : w.heap.size ≤ g) : Stays w B := fun j cs T h1 h2 h3 => by
  have h4 := h j cs T h1 h2 h3
  refine (hg.block j (Array.getElem?_eq_some_iff.1 h4).1 fun e => ?_).trans h4
  have : j = g := by simpa using e
  have := (Array.getElem?_eq_some_iff.1 h1).1
  omega

/-- The runs of list[p+1:] and list[:p]. -/
theorem Try.infoItem : (Try.prog.info? 45).map (fun i => (i.zero, i.size, i.bytes)) = Option.some (Option.some (.agg #[vi 0, vi 0, .slice Option.none 0 0]), 3, 40) := by kernel_rfl
theorem eltItem : Elt Try.prog 38 45 3 40 (.agg #[vi 0, vi 0, .slice Option.none 0 0]) := by
  obtain ⟨i0, hi, hz0, hz1, hz2⟩ := info_parts Try.infoItem
  exact ⟨Try.underlying38, by decide, rfl, i0, hi, hz0, hz1, hz2⟩
theorem run_dropI {b off n c k : Nat} (hk : k ≤ n) (w : World) : (Instr.slice 38 (.slice (Option.some ⟨b, off, Option.none⟩) n c) (Option.some (.int .i64 k)) Option.none Option.none).run Try.prog w = .ok (sliced (Option.some ⟨b, off, Option.none⟩) k n c 3) w := by
  have hs : ∀ w, (sizeOf 45).run Try.prog w = .ok 3 w := fun w => by
    obtain ⟨i0, hi, _, hz1, _⟩ := info_parts Try.infoItem
    simp [sizeOf, typeInfo, hi, hz1]
  have he : Try.prog.elem 38 = 45 := by kernel_rfl
  rw [run_slice_l w _ _ _ _ (by rw [he]; exact Try.underlying38) .i64 _ (by omega) (by omega), he, hs]
  simp [Result.andThen]
theorem run_takeI {b off n c k : Nat} (hk : k ≤ c) (w : World) : (Instr.slice 38 (.slice (Option.some ⟨b, off, Option.none⟩) n c) Option.none (Option.some (.int .i64 k)) Option.none).run Try.prog w = .ok (.slice (Option.some ⟨b, off, Option.none⟩) k c) w := by
  have hs : ∀ w, (sizeOf 45).run Try.prog w = .ok 3 w := fun w => by
    obtain ⟨i0, hi, _, hz1, _⟩ := info_parts Try.infoItem
    simp [sizeOf, typeInfo, hi, hz1]
  have he : Try.prog.elem 38 = 45 := by kernel_rfl
  rw [run_slice_h w _ _ _ _ (by rw [he]; exact Try.underlying38) .i64 _ (by omega) (by omega), he, hs]
  simp [Result.andThen, sliced, Addr.add]
/-- The parts of a row before and behind one element, as sources of an append. -/
theorem ItemsS.parts {base : Nat} {W : World} {v : Value} {J : List Itm} (h : ItemsS base W v J) {p : Nat} (hp : p < J.length) : ∃ g c a2 n2 c2, v = .slice (Option.some ⟨g, 0, Option.none⟩) J.length c ∧ J.length ≤ c ∧ g < W.heap.size ∧ sliced (Option.some ⟨g, 0, Option.none⟩) (p + 1) J.length c 3 = .slice a2 n2 c2 ∧ n2 = (J.drop (p + 1)).length ∧
    Src W (.slice (Option.some ⟨g, 0, Option.none⟩) p c) 3 p ((J.take p).flatMap itV) ∧ Src W (.slice a2 n2 c2) 3 (J.drop (p + 1)).length ((J.drop (p + 1)).flatMap itV) := by
  rcases h.row.2 with ⟨hv, h0⟩ | ⟨g, cap, cur, hv, hg, hh, hn, hcm, hs, ht⟩
  · omega
  · have hc := World.ownsRow.cells h.row (g := g) (by rw [hv]; rfl)
    refine ⟨g, cap, _, _, _, hv, hn, (Array.getElem?_eq_some_iff.1 hh).1, rfl, by simp, ?_, ?_⟩
    · refine ⟨_, _, rfl, by rw [flat_len itV 3 itV_length]; simp; omega, (fun h => by cases h), fun ad had j u hu => ?_⟩
      cases had
      refine hc j u ?_
      have e : J.flatMap itV = (J.take p).flatMap itV ++ (J.drop p).flatMap itV := by rw [← List.flatMap_append, List.take_append_drop]
      rw [e, List.getElem?_append_left (List.getElem?_eq_some_iff.1 hu).1]; exact hu
    · refine ⟨if cap = p + 1 then Option.some ⟨g, 0, Option.none⟩ else (Option.some (⟨g, 0, Option.none⟩ : Addr)).map (·.add ((p + 1) * 3)), cap - (p + 1), by rw [List.length_drop], by rw [flat_len itV 3 itV_length], ?_, fun ad had j u hu => ?_⟩
      · intro hnone
        split at hnone
        · exact absurd hnone (by simp)
        · exact absurd hnone (by simp)
      · have hju := (List.getElem?_eq_some_iff.1 hu).1
        rw [flat_len itV 3 itV_length, List.length_drop] at hju
        have hne : ¬ cap = p + 1 := by omega
        rw [if_neg hne] at had
        simp only [Option.map_some, Option.some.injEq] at had
        subst had
        have e : J.flatMap itV = (J.take (p + 1)).flatMap itV ++ (J.drop (p + 1)).flatMap itV := by rw [← List.flatMap_append, List.take_append_drop]
        have hl : ((J.take (p + 1)).flatMap itV).length = (p + 1) * 3 := by rw [flat_len itV 3 itV_length]; rw [List.length_take, Nat.min_eq_left (by omega)]
        have := hc ((p + 1) * 3 + j) u (by rw [e, List.getElem?_append_right (by omega), hl, show (p + 1) * 3 + j - (p + 1) * 3 = j by omega]; exact hu)
        rw [addr_add] at this
        rw [addr_add, addr_add]
        simpa using this

/-- How many messages some links have. -/
def sumK (L : Ways) (ks : List LK) : Nat := (ks.map (fun l => (conW L l).length)).sum
theorem sumK_take {L : Ways} {ks : List LK} {j : Nat} {c : LK} (h : ks[j]? = Option.some c) : sumK L (ks.take (j + 1)) = sumK L (ks.take j) + (conW L c).length := by
  unfold sumK; rw [List.take_add_one, h]; simp
theorem sumK_le (L : Ways) (ks : List LK) (j : Nat) : sumK L (ks.take j) ≤ sumK L ks := by
  conv => rhs; rw [← List.take_append_drop j ks]
  unfold sumK; rw [List.map_append, List.sum_append]; omega
theorem sumK_perm {L : Ways} {ks : List LK} (hp : ks.Perm (L.map (·.1))) (hd : L.Pairwise (fun p q => p.1 ≠ q.1)) : sumK L ks = sumW L := by
  have h1 : sumK L ks = sumK L (L.map (·.1)) := by unfold sumK; exact (hp.map _).sum_nat
  rw [h1]
  clear h1 hp
  have key : ∀ M N : Ways, M ++ N = L → sumK L (N.map (·.1)) = sumW N := by
    intro M N
    induction N generalizing M with
    | nil => intro _; rfl
    | cons x N ih =>
      intro e
      have h2 := ih (M ++ [x]) (by simpa using e)
      have h3 : (conW L x.1).length = x.2.2.length := by
        rw [← e] at hd ⊢
        rw [List.pairwise_append] at hd
        rw [show (x :: N) = (x.1, x.2) :: N from rfl, conW_mid (fun p hp => hd.2.2 p hp x (by simp))]; simp
      unfold sumK at h2 ⊢
      rw [List.map_cons, List.map_cons, List.sum_cons, h2, h3]; rfl
  exact key [] L rfl
theorem key_has {L : Ways} (hd : L.Pairwise (fun p q => p.1 ≠ q.1)) (hne : ∀ x ∈ L, x.2.2 ≠ []) {c : LK} (hc : c ∈ L.map (·.1)) : 1 ≤ (conW L c).length := by
  obtain ⟨x, hx, rfl⟩ := List.mem_map.1 hc
  obtain ⟨M, N, rfl⟩ := List.append_of_mem hx
  rw [List.pairwise_append] at hd
  rw [show (x :: N) = (x.1, x.2) :: N from rfl, conW_mid (fun p hp' => hd.2.2 p hp' x (by simp)), List.length_map]
  have := hne x (by simp)
  cases hx : x.2.2 with
  | nil => exact absurd hx this
  | cons _ _ => simp
theorem ways_le {L : Ways} (hne : ∀ x ∈ L, x.2.2 ≠ []) : L.length ≤ sumW L := by
  induction L with
  | nil => simp
  | cons x L ih =>
    have h1 := ih (fun y hy => hne y (by simp [hy]))
    have h2 := hne x (by simp)
    have h3 : 1 ≤ x.2.2.length := by
      cases hx : x.2.2 with
      | nil => exact absurd hx h2
      | cons _ _ => simp
    simp only [sumW, List.length_cons]; omega
theorem strict_at {ks : List LK} (hs : ks.Pairwise (fun x y => Go.Proofs.ltOf cmpLK y x = false)) (hd : ks.Nodup) {j : Nat} {a b : LK} (ha : ks[j]? = Option.some a) (hb : ks[j + 1]? = Option.some b) : a.1 < b.1 ∨ (a.1 = b.1 ∧ a.2 < b.2) := by
  obtain ⟨h1, rfl⟩ := List.getElem?_eq_some_iff.1 ha
  obtain ⟨h2, rfl⟩ := List.getElem?_eq_some_iff.1 hb
  have h3 := List.pairwise_iff_getElem.1 hs j (j + 1) h1 h2 (by omega)
  have h4 := List.pairwise_iff_getElem.1 (List.nodup_iff_pairwise_ne.1 hd) j (j + 1) h1 h2 (by omega)
  rw [ltLK] at h3
  have h5 := of_decide_eq_false h3
  by_cases e : ks[j].1 = ks[j + 1].1
  · by_cases e2 : ks[j].2 = ks[j + 1].2
    · exact absurd (Prod.ext e e2) h4
    · omega
  · omega
end Go.Proofs.Ythpdenmbcjngkaa
