/- Texts of one proof, one behind the other: RnFin. -/
import Derived.Test.YtdkkpkgfiodlbaaJb14
import Derived.Test.YtdkkpkgfiodlbaaJb10
set_option linter.all false
/- Layer 19's reference: Finish. -/
namespace Go.Proofs.Ytdkkpkgfiodlbaa
open Go.RowKit Go.Maps

theorem Try.infoV3 : (Try.prog.info? 151).map (fun i => (i.zero, i.size, i.bytes)) = some (some (.agg #[vi 0, vi 0, vi 0]), 3, 24) := by kernel_rfl
theorem eltV3 : Elt Try.prog 48 151 3 24 (.agg #[vi 0, vi 0, vi 0]) := by
  obtain ⟨i0, hi, hz0, hz1, hz2⟩ := info_parts Try.infoV3
  exact ⟨Try.underlying48, by decide, rfl, i0, hi, hz0, hz1, hz2⟩
theorem Try.infoR19 : (Try.prog.info? 61).map (fun i => (i.zero, i.size, i.bytes)) = some (some (.agg #[vi 0, vi 0, vi 0, .slice none 0 0, .slice none 0 0]), 5, 72) := by kernel_rfl
theorem eltR19 : Elt Try.prog 49 61 5 72 (.agg #[vi 0, vi 0, vi 0, .slice none 0 0, .slice none 0 0]) := by
  obtain ⟨i0, hi, hz0, hz1, hz2⟩ := info_parts Try.infoR19
  exact ⟨Try.underlying49, by decide, rfl, i0, hi, hz0, hz1, hz2⟩
theorem Try.infoE19 : (Try.prog.info? 56).map (fun i => (i.zero, i.size, i.bytes)) = some (some (.agg #[vi 0, .bool false, vi 0]), 3, 24) := by kernel_rfl
theorem eltE19 : Elt Try.prog 50 56 3 24 (.agg #[vi 0, .bool false, vi 0]) := by
  obtain ⟨i0, hi, hz0, hz1, hz2⟩ := info_parts Try.infoE19
  exact ⟨Try.underlying50, by decide, rfl, i0, hi, hz0, hz1, hz2⟩

/-- What the reference's Finish makes of the versions. -/
def putV3 (vs : List Ver3) (key t val : Int) : List Ver3 := vs.filter (fun v => v.key != key || v.at_ != t) ++ [⟨key, t, val⟩]
def finW3 (e : EndM) (vs : List Ver3) (ops : List GOp) : List Ver3 := ops.foldl (fun vs o => if e.commit then putV3 vs o.key e.at_ o.val else vs) vs
def finAll (e : EndM) (vs : List Ver3) (ws : List Rdy) : List Ver3 := ws.foldl (fun vs r => if r.txn == e.txn then finW3 e vs r.writes else vs) vs
def rnFinish (s : RSt) (e : EndM) : RSt := if s.es.any (fun x => x.txn == e.txn) then s else ⟨s.serial, s.bugs, finAll e s.vs s.ws, s.ws.filter (fun r => r.txn != e.txn), s.es ++ [e]⟩
theorem putV3_len (vs : List Ver3) (key t val : Int) : (putV3 vs key t val).length ≤ vs.length + 1 := by
  unfold putV3; rw [List.length_append]; have := List.length_filter_le (fun v => v.key != key || v.at_ != t) vs; simp; exact this
theorem finW3_len (e : EndM) : ∀ (ops : List GOp) (vs : List Ver3), (finW3 e vs ops).length ≤ vs.length + ops.length
  | [], vs => Nat.le_refl _
  | o :: ops, vs => by
    show (finW3 e (if e.commit then putV3 vs o.key e.at_ o.val else vs) ops).length ≤ _
    refine Nat.le_trans (finW3_len e ops _) ?_
    have := putV3_len vs o.key e.at_ o.val
    split <;> (simp only [List.length_cons]; omega)
theorem finAll_len (e : EndM) : ∀ (ws : List Rdy) (vs : List Ver3), (∀ r ∈ ws, r.writes.length ≤ 1000) → (finAll e vs ws).length ≤ vs.length + 1000 * ws.length
  | [], vs, _ => Nat.le_refl _
  | r :: ws, vs, h => by
    show (finAll e (if r.txn == e.txn then finW3 e vs r.writes else vs) ws).length ≤ _
    refine Nat.le_trans (finAll_len e ws _ (fun x hx => h x (List.mem_cons_of_mem _ hx))) ?_
    have h1 := finW3_len e r.writes vs
    have h2 := h r List.mem_cons_self
    split <;> (simp only [List.length_cons]; omega)

/-- What Finish keeps of memory behind the world W0: those who still wait, the versions so far. -/
structure FinK (We : World) (N : Nat) (W0 : World) (vw vv : Value) (L : List RV) (V : List Ver3) (W : World) : Prop where
  row : W.ownsRow N 61 5 vw L.length (L.flatMap rdyL)
  ver : W.ownsRow N 151 3 vv V.length (V.flatMap ver3V)
  els : ∀ x ∈ L, RdyS We x
  below : Below N W0 W
  base : N = W0.heap.size
theorem FinK.size {We : World} {N : Nat} {W0 A : World} {vw vv : Value} {L : List RV} {V : List Ver3} (h : FinK We N W0 vw vv L V A) : N ≤ A.heap.size := by rw [h.base]; exact h.below.size
theorem FinK.later {We : World} {N : Nat} {W0 A B : World} {vw vv : Value} {L : List RV} {V : List Ver3} (h : FinK We N W0 vw vv L V A) (hb : Below A.heap.size A B) : FinK We N W0 vw vv L V B :=
  ⟨own_below h.row hb, own_below h.ver hb, h.els, h.below.trans (hb.mono h.size), h.base⟩
theorem FinK.alloc {We : World} {N : Nat} {W0 A : World} {vw vv : Value} {L : List RV} {V : List Ver3} (h : FinK We N W0 vw vv L V A) (o : Obj) : FinK We N W0 vw vv L V (A.alloc o) := h.later ((Below.refl _ _).alloc (Nat.le_refl _) _)
theorem FinK.pushR {We : World} {N : Nat} {W0 A B : World} {vw vv v' : Value} {L : List RV} {V : List Ver3} {x : RV} (h : FinK We N W0 vw vv L V A) (hg : A.grownBy B vw.ownBlock) (ho : B.ownsRow N 61 5 v' (L.length + 1) (L.flatMap rdyL ++ rdyL x)) (hx : RdyS We x) : FinK We N W0 v' vv (L ++ [x]) V B :=
  ⟨by rw [List.length_append, List.flatMap_append]; simpa using ho, h.ver.kept hg (own_apart h.ver h.row (by decide)), fun y hy => by
    rcases List.mem_append.1 hy with hy | hy
    · exact h.els y hy
    · rw [List.mem_singleton.1 hy]; exact hx, h.below.grown hg h.size (fun j hj => (h.row.lt j hj).1), h.base⟩
/-- Another row of versions takes the place of the one so far. -/
theorem FinK.putV {We : World} {N : Nat} {W0 A : World} {vw vv v' : Value} {L : List RV} {V V' : List Ver3} (h : FinK We N W0 vw vv L V A) (ho : A.ownsRow N 151 3 v' V'.length (V'.flatMap ver3V)) : FinK We N W0 vw v' L V' A := ⟨h.row, ho, h.els, h.below, h.base⟩
/-- A row that lies behind is written. -/
theorem FinK.turn {We : World} {N M : Nat} {W0 A B : World} {vw vv : Value} {L : List RV} {V : List Ver3} (h : FinK We N W0 vw vv L V A) {r : Option Nat} (hg : A.grownBy B r) (hr : ∀ k, r = some k → M ≤ k) (hm : ∀ v, (v = vw ∨ v = vv) → ∀ k, v.ownBlock = some k → k < M) (hN : N ≤ M) : FinK We N W0 vw vv L V B :=
  ⟨ownsRow_grown h.row hg hr (hm _ (.inl rfl)), ownsRow_grown h.ver hg hr (hm _ (.inr rfl)), h.els, h.below.grown hg h.size (fun j hj => Nat.le_trans hN (hr j hj)), h.base⟩
theorem later_alloc {w : World} {a : Addr} {v : Value} (h : w.cell? a = some v) (o : Obj) : (w.alloc o).cell? a = some v := cell_later ((Below.refl _ w).alloc (Nat.le_refl _) o) h
theorem rn_set {W : World} {b o : Nat} {cs : Array Value} {T : TypeId} {fz : Nat × Nat} (v : Value) (h : W.heap[b]? = some (.cells cs T fz)) : (W.setCell ⟨b, o, none⟩ v).heap[b]? = some (.cells (cs.setIfInBounds o v) T fz) := by
  have hb := (Array.getElem?_eq_some_iff.1 h).1
  have hc : W.heap[b]? = some (.cells cs T fz) := h
  simp [World.setCell, hc, Array.getElem?_modify]
theorem rn_set5 {W : World} {b : Nat} {c0 c1 c2 c3 c4 : Value} {T : TypeId} (v0 v1 v2 v3 v4 : Value) (h : W.heap[b]? = some (.cells #[c0, c1, c2, c3, c4] T)) :
    (((((W.setCell ⟨b, 0, none⟩ v0).setCell ⟨b, 1, none⟩ v1).setCell ⟨b, 2, none⟩ v2).setCell ⟨b, 3, none⟩ v3).setCell ⟨b, 4, none⟩ v4).heap[b]? = some (.cells #[v0, v1, v2, v3, v4] T) := by
  rw [rn_set (o := 4) v4 (rn_set (o := 3) v3 (rn_set (o := 2) v2 (rn_set (o := 1) v1 (rn_set (o := 0) v0 h))))]; simp
theorem rn_below5 {W : World} {b N : Nat} (v0 v1 v2 v3 v4 : Value) (h : N ≤ b) :
    Below N W (((((W.setCell ⟨b, 0, none⟩ v0).setCell ⟨b, 1, none⟩ v1).setCell ⟨b, 2, none⟩ v2).setCell ⟨b, 3, none⟩ v3).setCell ⟨b, 4, none⟩ v4) :=
  (((((Below.refl N W).setCell h _).setCell h _).setCell h _).setCell h _).setCell h _
theorem ver3_one : ∀ x : Ver3, ∀ u ∈ ver3V x, u.oneCell' = true := by intro x u hu; simp [ver3V] at hu; rcases hu with rfl | rfl | rfl <;> rfl
theorem ver3_snoc (V : List Ver3) (x : Ver3) : V.flatMap ver3V ++ ver3V x = (V ++ [x]).flatMap ver3V := by rw [List.flatMap_append]; simp
theorem own_at {α : Type} {enc : α → List Value} {n : Nat} (hk : ∀ x, (enc x).length = n) {N e : Nat} {W : World} {v : Value} {l : List α} (h : W.ownsRow N e n v l.length (l.flatMap enc)) : RdS n (fun _ cs x => cs = enc x) W v l := own_rds hk h (fun _ _ => rfl)

theorem FinK.start {We wj wa w8 : World} {vw v8 : Value} {V : List Ver3} (ho1 : wa.ownsRow wj.heap.size 61 5 vw 0 []) (hba : Below wj.heap.size wj wa) (hg : (wa.alloc (.cells #[] 151)).grownBy w8 (some wa.heap.size)) (ho8 : w8.ownsRow wj.heap.size 151 3 v8 (0 + V.length) ([] ++ V.flatMap ver3V)) : FinK We wj.heap.size wj vw v8 [] V w8 := by
  have h1 : (wa.alloc (.cells #[] 151)).ownsRow wj.heap.size 61 5 vw 0 [] := own_below ho1 ((Below.refl _ _).alloc (Nat.le_refl _) _)
  have h2 := ownsRow_grown h1 hg (base' := wa.heap.size) (fun k hk => by cases hk; exact Nat.le_refl _) (fun k hk => (ho1.lt k hk).2)
  have h3 := (hba.alloc hba.size (.cells #[] 151)).grown hg (by have := hba.size; simp; omega) (fun k hk => by cases hk; exact hba.size)
  exact ⟨h2, by simpa using ho8, (fun x hx => by cases hx), h3, rfl⟩

theorem rds_map {α β : Type} {n : Nat} {E : World → List Value → α → Prop} {E' : World → List Value → β → Prop} {w : World} {v : Value} {l : List α} (f : α → β) (h : RdS n E w v l) (hE : ∀ cs x, E w cs x → E' w cs (f x)) : RdS n E' w v (l.map f) := by
  obtain ⟨a, len, cap, h1, h2, h3, h4, h5, h6⟩ := h
  refine ⟨a, len, cap, h1, by rw [List.length_map]; exact h2, by rw [List.length_map]; exact h3, h4, h5, fun j x hj => ?_⟩
  rw [List.getElem?_map] at hj
  cases hl : l[j]? with
  | none => rw [hl] at hj; cases hj
  | some y =>
    rw [hl] at hj
    cases hj
    obtain ⟨b, off, cs, ha, hc, hcs, he⟩ := h6 j y hl
    exact ⟨b, off, cs, ha, hc, hcs, hE _ _ he⟩
theorem rdr_of_own {N : Nat} {W : World} {v : Value} {L : List RV} (h : W.ownsRow N 61 5 v L.length (L.flatMap rdyL)) (hE : ∀ x ∈ L, RdyS W x) : RdRdy W v (L.map (·.r)) :=
  rds_map (E := fun _ cs x => cs = rdyL x ∧ RdyS W x) (·.r) (own_rds (enc := rdyL) (fun _ => rfl) h (fun x hx => ⟨rfl, hE x hx⟩)) (fun _ x hx => ⟨x.wv, x.rv, hx.1, hx.2⟩)
def endL (e : EndM) : List Value := [vi e.txn, .bool e.commit, vi e.at_]
theorem endL_one : ∀ e : EndM, ∀ u ∈ endL e, u.oneCell' = true := by intro e u hu; simp [endL] at hu; rcases hu with rfl | rfl | rfl <;> rfl
theorem rde_of_own {N : Nat} {W : World} {v : Value} {L : List EndM} (h : W.ownsRow N 56 3 v L.length (L.flatMap endL)) : RdEn W v L := own_rds (enc := endL) (fun _ => rfl) h (fun _ _ => rfl)
theorem rdv3_of_own {N : Nat} {W : World} {v : Value} {L : List Ver3} (h : W.ownsRow N 151 3 v L.length (L.flatMap ver3V)) : RdVer3 W v L := own_rds (enc := ver3V) (fun _ => rfl) h (fun _ _ => rfl)
/-- An owned row stays while a block below its base is written. -/
theorem own_set {W : World} {N e n m b o : Nat} {v u : Value} {xs : List Value} (h : W.ownsRow N e n v m xs) (hb : b < N) : (W.setCell ⟨b, o, none⟩ u).ownsRow N e n v m xs :=
  own_keptBelow h ⟨rfl, rfl, rfl, by simp [World.setCell], fun k _ hk => Below.heap_setCell _ _ _ k (fun e => hk (by rw [e]))⟩ hb
theorem src_grown {w w' : World} {g size m c : Nat} {news : List Value} {r : Nat} (h : Src w (.slice (some ⟨g, 0, none⟩) m c) size m news) (hg : w.grownBy w' (some r)) (hne : g ≠ r) (hlt : g < w.heap.size) : Src w' (.slice (some ⟨g, 0, none⟩) m c) size m news := by
  obtain ⟨a, c', he, h2, h3, h4⟩ := h
  simp only [Value.slice.injEq, true_and] at he
  obtain ⟨rfl, rfl⟩ := he
  refine ⟨_, _, rfl, h2, h3, fun ad had j u hu => ?_⟩
  cases had
  have h5 := h4 _ rfl j u hu
  rw [addr_add] at h5 ⊢
  unfold World.cell? at h5 ⊢
  rw [hg.block g hlt (fun e => hne (Option.some.inj e))]
  exact h5
theorem rdyL_one {b1 b2 : Option Addr} {l1 e1 l2 e2 : Nat} {r : Rdy} : ∀ u ∈ rdyL ⟨.slice b1 l1 e1, .slice b2 l2 e2, r⟩, u.oneCell' = true := by
  intro u hu; simp [rdyL] at hu; rcases hu with rfl | rfl | rfl | rfl | rfl <;> rfl
theorem filter_take {α : Type} {q : α → Bool} {l : List α} {k : Nat} {x : α} (h : l[k]? = some x) : (l.take (k + 1)).filter q = (l.take k).filter q ++ (if q x then [x] else []) := by
  rw [take_at h, List.filter_append]; congr 1
  cases hq : q x <;> simp [hq]
theorem finAll_snoc {e : EndM} {vs : List Ver3} {ws : List Rdy} {k : Nat} {r : Rdy} (h : ws[k]? = some r) : finAll e vs (ws.take (k + 1)) = if r.txn == e.txn then finW3 e (finAll e vs (ws.take k)) r.writes else finAll e vs (ws.take k) := by
  unfold finAll; rw [take_at h, List.foldl_append]; rfl
theorem finW3_snoc {e : EndM} {vs : List Ver3} {ops : List GOp} {k : Nat} {o : GOp} (h : ops[k]? = some o) : finW3 e vs (ops.take (k + 1)) = if e.commit then putV3 (finW3 e vs (ops.take k)) o.key e.at_ o.val else finW3 e vs (ops.take k) := by
  unfold finW3; rw [take_at h, List.foldl_append]; rfl

theorem RdS.same {α : Type} {n : Nat} {E : World → List Value → α → Prop} {A B : World} {v : Value} {xs : List α} (h : RdS n E A v xs) (hs : ∀ j, j < A.heap.size → B.heap[j]? = A.heap[j]?) (hE : ∀ cs x, E A cs x → E B cs x) : RdS n E B v xs := by
  obtain ⟨a, len, cap, h1, h2, h3, h4, h5, h6⟩ := h
  refine ⟨a, len, cap, h1, h2, h3, h4, h5, fun j x hj => ?_⟩
  obtain ⟨b, off, cs, ha, hl, hc, he⟩ := h6 j x hj
  refine ⟨b, off, cs, ha, hl, fun i u hu => ?_, hE _ _ he⟩
  have h7 := hc i u hu
  have h8 := World.block_lt_of_cell? A _ h7
  unfold World.cell? at h7 ⊢
  rw [hs b h8]; exact h7
/-- What can be read in A reads the same in B. -/
def CLe (A B : World) : Prop := ∀ b o v, A.cell? ⟨b, o, none⟩ = some v → B.cell? ⟨b, o, none⟩ = some v
theorem CLe.refl (A : World) : CLe A A := fun _ _ _ h => h
theorem CLe.trans {A B C : World} (h : CLe A B) (k : CLe B C) : CLe A C := fun b o v hv => k b o v (h b o v hv)
theorem CLe.of_same {A B : World} (hs : ∀ j, j < A.heap.size → B.heap[j]? = A.heap[j]?) : CLe A B := fun b o v h => by
  have h8 := World.block_lt_of_cell? A _ h
  unfold World.cell? at h ⊢
  rw [hs b h8]; exact h
theorem CLe.of_below {A B : World} (h : Below A.heap.size A B) : CLe A B := CLe.of_same h.block
theorem CLe.later {A B C : World} (h : CLe A B) (k : Below B.heap.size B C) : CLe A C := h.trans (CLe.of_below k)
theorem RdS.le {α : Type} {n : Nat} {E : World → List Value → α → Prop} {A B : World} {v : Value} {xs : List α} (h : RdS n E A v xs) (hs : CLe A B) (hE : ∀ cs x, E A cs x → E B cs x) : RdS n E B v xs := by
  obtain ⟨a, len, cap, h1, h2, h3, h4, h5, h6⟩ := h
  refine ⟨a, len, cap, h1, h2, h3, h4, h5, fun j x hj => ?_⟩
  obtain ⟨b, off, cs, ha, hl, hc, he⟩ := h6 j x hj
  exact ⟨b, off, cs, ha, hl, fun i u hu => hs _ _ _ (hc i u hu), hE _ _ he⟩
theorem RdyS.le {A B : World} {x : RV} (h : RdyS A x) (hs : CLe A B) : RdyS B x := ⟨RdS.le h.ws hs fun _ _ h => h, RdS.le h.rs hs fun _ _ h => h⟩
theorem RdSt.le {A B : World} {x : RSV} (h : RdSt A x) (hs : CLe A B) : RdSt B x :=
  ⟨RdS.le h.vs hs fun _ _ h => h, RdS.le h.ws hs fun _ _ ⟨wv, rv, h1, h2⟩ => ⟨wv, rv, h1, h2.le hs⟩, RdS.le h.es hs fun _ _ h => h⟩
theorem RdyS.same {A B : World} {x : RV} (h : RdyS A x) (hs : ∀ j, j < A.heap.size → B.heap[j]? = A.heap[j]?) : RdyS B x := ⟨RdS.same h.ws hs fun _ _ h => h, RdS.same h.rs hs fun _ _ h => h⟩
theorem RdSt.same {A B : World} {x : RSV} (h : RdSt A x) (hs : ∀ j, j < A.heap.size → B.heap[j]? = A.heap[j]?) : RdSt B x :=
  ⟨RdS.same h.vs hs fun _ _ h => h, RdS.same h.ws hs fun _ _ ⟨wv, rv, h1, h2⟩ => ⟨wv, rv, h1, h2.same hs⟩, RdS.same h.es hs fun _ _ h => h⟩
theorem own_same {N b e n m : Nat} {A B : World} {v : Value} {xs : List Value} (h : A.ownsRow b e n v m xs) (hN : N ≤ b) (hs : ∀ j, N ≤ j → B.heap[j]? = A.heap[j]?) : B.ownsRow b e n v m xs := by
  refine ⟨h.1, ?_⟩
  rcases h.2 with h2 | ⟨g, cap, cur, hv, hg, hh, r⟩
  · exact .inl h2
  · exact .inr ⟨g, cap, cur, hv, hg, (hs g (Nat.le_trans hN hg)).trans hh, r⟩

/-- What Finish hands back: what was readable in A, or lies in blocks that are new since w. -/
def FinR3 (A : World) (s : RSt) (e : EndM) (w : World) (r : Ending) (w' : World) : Prop := ∃ x : RSV, r = .returned (rsV x) ∧ x.s = rnFinish s e ∧ RdSt w' x ∧ Below w.heap.size w w' ∧ ∀ W' : World, CLe A W' → (∀ j, w.heap.size ≤ j → W'.heap[j]? = w'.heap[j]?) → RdSt W' x
def FinR2 (A : World) (s : RSt) (e : EndM) (w : World) (r : Ending) (w' : World) : Prop := ∃ x : RSV, r = .returned (rsV x) ∧ x.s = rnFinish s e ∧ RdSt w' x ∧ Below w.heap.size w w' ∧ ∀ W' : World, (∀ j, (j < A.heap.size ∨ w.heap.size ≤ j) → W'.heap[j]? = w'.heap[j]?) → RdSt W' x
def FinR (s : RSt) (e : EndM) (w : World) (r : Ending) (w' : World) : Prop := ∃ x : RSV, r = .returned (rsV x) ∧ x.s = rnFinish s e ∧ RdSt w' x ∧ Below w.heap.size w w'

set_option maxRecDepth 100000 in
set_option maxHeartbeats 16000000 in
theorem rnFinish_call3 (A : World) (x : RSV) (e : EndM) (w : World) (hxA : RdSt A x) (hA : CLe A w) (hlv : x.s.vs.length ≤ 1000000) (hlw : x.s.ws.length ≤ 1000) (hle : x.s.es.length ≤ 1000000) (hws : ∀ r ∈ x.s.ws, r.writes.length ≤ 1000) :
    Calls Try.prog 40 #[rsV x, endV e] w (FinR3 A x.s e w) := by
  have hx := hxA.le hA
  have HHA := Lib.hid hA
  have HXA := Lib.hid hxA
  clear hA
  obtain ⟨vv, wv, ev, s⟩ := x
  have HV := Lib.hid hx.vs
  have HW := Lib.hid hx.ws
  have HWA := Lib.hid (show RdRdy A wv s.ws from hxA.ws)
  clear hxA
  have HE := Lib.hid hx.es
  obtain ⟨av, nv, cv, hwv, rfl, hmv, -⟩ := (show RdVer3 w vv s.vs from hx.vs).at
  obtain ⟨aw, nw, cw, hww, rfl, hmw, -⟩ := (show RdRdy w wv s.ws from hx.ws).at
  obtain ⟨ae, ne, ce, hwe, rfl, hme, -⟩ := (show RdEn w ev s.es from hx.es).at
  subst hwv hww hwe
  simp only at HV HW HE HWA hlv hlw hle hws
  have HWS := Lib.hid hws
  obtain ⟨w1, hw1⟩ : ∃ W, W = (w.alloc (.cells (rsC ⟨.slice av s.vs.length cv, .slice aw s.ws.length cw, .slice ae s.es.length ce, s⟩) 52)) := ⟨_, rfl⟩
  obtain ⟨w2, hw2⟩ : ∃ W, W = (w1.alloc (.cells #[vi e.txn, .bool e.commit, vi e.at_] 56)) := ⟨_, rfl⟩
  obtain ⟨w3, hw3⟩ : ∃ W, W = (w2.alloc (.cells #[.bool false, vi 0, .slice none 0 0, .slice none 0 0, .slice none 0 0] 52)) := ⟨_, rfl⟩
  have hs1 : w1.heap.size = w.heap.size + 1 := by rw [hw1]; simp
  have hs2 : w2.heap.size = w.heap.size + 2 := by rw [hw2]; simp [hs1]
  have hs3 : w3.heap.size = w.heap.size + 3 := by rw [hw3]; simp [hs2]
  have hB : Below w.heap.size w w3 := by
    rw [hw3, hw2, hw1]
    exact (((Below.refl _ _).alloc (Nat.le_refl _) _).alloc (by simp) _).alloc (by simp <;> omega) _
  have hA0 : w3.heap[w.heap.size]? = some (.cells #[.bool s.serial, vi s.bugs, .slice av s.vs.length cv, .slice aw s.ws.length cw, .slice ae s.es.length ce] 52) := by
    rw [hw3, Below.heap_alloc _ _ _ (by omega), hw2, Below.heap_alloc _ _ _ (by omega), hw1]; exact alloc_at w _
  have hA1 : w3.heap[w.heap.size + 1]? = some (.cells #[vi e.txn, .bool e.commit, vi e.at_] 56) := by
    rw [hw3, Below.heap_alloc _ _ _ (by omega), hw2, ← hs1]; exact alloc_at w1 _
  have hA2 : w3.heap[w.heap.size + 2]? = some (.cells #[.bool false, vi 0, .slice none 0 0, .slice none 0 0, .slice none 0 0] 52) := by
    rw [hw3, ← hs2]; exact alloc_at w2 _
  have HBX := Lib.hid (show ∀ W, Below w3.heap.size w3 W → W.heap[w.heap.size]? = some (.cells #[.bool s.serial, vi s.bugs, .slice av s.vs.length cv, .slice aw s.ws.length cw, .slice ae s.es.length ce] 52) ∧ W.heap[w.heap.size + 1]? = some (.cells #[vi e.txn, .bool e.commit, vi e.at_] 56) ∧ W.heap[w.heap.size + 2]? = some (.cells #[.bool false, vi 0, .slice none 0 0, .slice none 0 0, .slice none 0 0] 52) from
    fun W hW => ⟨(hW.block _ (by omega)).trans hA0, (hW.block _ (by omega)).trans hA1, (hW.block _ (by omega)).trans hA2⟩)
  have HB := Lib.hid hB
  have HS3 := Lib.hid hs3
  clear hx hws hB hA1 hA2
  unfold rsV rsC endV at *
  have hAE := cell_of hA0 4
  go_enter Try.func40, Try.ntmps40
  go_upto_region 1 with fail
  simp only at hw1
  rw [← hw1, ← hw2, ← hw3]
  obtain ⟨X2, hX2⟩ : ∃ X, X = w.heap.size + 1 + 1 := ⟨_, rfl⟩
  obtain ⟨X1, hX1⟩ : ∃ X, X = w.heap.size + 1 := ⟨_, rfl⟩
  obtain ⟨X, hX⟩ : ∃ X, X = w.heap.size := ⟨_, rfl⟩
  rw [← hX2, ← hX1, ← hX]
  have hXX : X = w.heap.size ∧ X1 = w.heap.size + 1 ∧ X2 = w.heap.size + 2 := ⟨hX, hX1, hX2⟩
  rw [show w.heap.size + 2 = w.heap.size + 1 + 1 from rfl, ← hX2, ← hX1, ← hX] at HBX
  rw [← hX] at hAE
  have hAE2 : w3.cell? ⟨X, 4, none⟩ = some (.slice ae s.es.length ce) := by rw [hAE]; rfl
  have HXX := Lib.hid hXX
  clear hX hX1 hX2 hXX hAE hA0 hw1 hw2 hw3 hs1 hs2 hs3
  have hsw : w.heap.size ≤ w3.heap.size := HB.out.size
  go_wp2_with fail
  clear hAE2
  go_loopw [19] (fun i wr => ∃ k : Nat, k ≤ s.es.length ∧ i = vi k ∧ Hid (Below w3.heap.size w3 wr) ∧ Hid (∀ o ∈ s.es.take k, (o.txn == e.txn) = false)) (fun i _ => s.es.length - (intOf i).toNat)
  case atStart => exact ⟨0, Nat.zero_le _, rfl, Lib.hid (Below.refl _ _), Lib.hid (by simp)⟩
  case round =>
    obtain ⟨wj, rfl⟩ : ∃ wj : World, wj = wr := ⟨_, rfl⟩
    obtain ⟨k, hk, rfl, HJ, HN⟩ := hrel
    have hsz := HJ.out.size
    by_cases hlt : k < s.es.length
    · have k1 : decide ((k : Int) < s.es.length) = true := decide_eq_true (by omega)
      have k2 : (k : Int) < s.es.length := by omega
      have hwk : IntKind.i64.wrap ((k : Int) + 1) = (k : Int) + 1 := IntWalk.i64_in _ (by omega)
      obtain ⟨o, ho⟩ := some_at hlt
      have HWJ := Lib.hid (HB.out.trans (HJ.out.mono hsw))
      obtain ⟨g, off, ha, c0, c1, c2⟩ := (HE.out.later HWJ.out).el ho
      subst ha
      have HO := Lib.hid ho
      clear ho
      have a0 : wj.cell? ⟨X1, 0, none⟩ = some (vi e.txn) := by rw [cell_of (HBX.out wj HJ.out).2.1]; rfl
      have a0' := later_alloc a0
      have HB1 := Lib.hid (HJ.out.alloc hsz (.cells #[vi o.txn, .bool o.commit, vi o.at_] 56))
      cases hq : (o.txn == e.txn) with
      | false =>
        go_wp2_with fail
        exact ⟨⟨k + 1, by omega, by go_num, HB1, Lib.hid (any_take HN.out HO.out hq)⟩, by simp only [intOf]; omega⟩
      | true =>
        have hr : rnFinish s e = s := by unfold rnFinish; rw [any_some HO.out hq]; rfl
        go_upto_region 5 with fail
        have HBJ := Lib.hid (HWJ.out.alloc (Nat.le_trans hsw hsz) (.cells #[vi o.txn, .bool o.commit, vi o.at_] 56))
        generalize wj.alloc (.cells #[vi o.txn, .bool o.commit, vi o.at_] 56) = wa at *
        have hX := (HBX.out wa HB1.out).1
        have hX2 := (HBX.out wa HB1.out).2.2
        have q0 : ∀ j, wa.frozen? ⟨X2, j, none⟩ = false := fun j => free_of hX2 j
        have p0 : wa.cell? ⟨X2, 0, none⟩ = some (.bool false) := by rw [cell_of hX2]; rfl
        have p1 : wa.cell? ⟨X2, 1, none⟩ = some (vi 0) := by rw [cell_of hX2]; rfl
        have p2 : wa.cell? ⟨X2, 2, none⟩ = some (.slice none 0 0) := by rw [cell_of hX2]; rfl
        have p3 : wa.cell? ⟨X2, 3, none⟩ = some (.slice none 0 0) := by rw [cell_of hX2]; rfl
        have p4 : wa.cell? ⟨X2, 4, none⟩ = some (.slice none 0 0) := by rw [cell_of hX2]; rfl
        have x0 : wa.cell? ⟨X, 0, none⟩ = some (.bool s.serial) := by rw [cell_of hX]; rfl
        have x1 : wa.cell? ⟨X, 1, none⟩ = some (vi s.bugs) := by rw [cell_of hX]; rfl
        have x2 : wa.cell? ⟨X, 2, none⟩ = some (.slice av s.vs.length cv) := by rw [cell_of hX]; rfl
        have x3 : wa.cell? ⟨X, 3, none⟩ = some (.slice aw s.ws.length cw) := by rw [cell_of hX]; rfl
        have x4 : wa.cell? ⟨X, 4, none⟩ = some (.slice (some ⟨g, off, none⟩) s.es.length ce) := by rw [cell_of hX]; rfl
        have hS := rn_set5 (.bool s.serial) (vi s.bugs) (.slice av s.vs.length cv) (.slice aw s.ws.length cw) (.slice (some ⟨g, off, none⟩) s.es.length ce) hX2
        have hBF := HBJ.out.trans (rn_below5 (W := wa) (.bool s.serial) (vi s.bugs) (.slice av s.vs.length cv) (.slice aw s.ws.length cw) (.slice (some ⟨g, off, none⟩) s.es.length ce) (show w.heap.size ≤ X2 by have := HXX.out; omega))
        have HS := Lib.hid hS
        have HBF := Lib.hid hBF
        clear hX hX2 hS hBF
        go_wp2_with fail
        generalize (((((wa.setCell ⟨X2, 0, none⟩ (.bool s.serial)).setCell ⟨X2, 1, none⟩ (vi s.bugs)).setCell ⟨X2, 2, none⟩ (.slice av s.vs.length cv)).setCell ⟨X2, 3, none⟩ (.slice aw s.ws.length cw)).setCell ⟨X2, 4, none⟩ (.slice (some ⟨g, off, none⟩) s.es.length ce)) = wf at *
        have r0 : wf.cell? ⟨X2, 0, none⟩ = some (.bool s.serial) := by rw [cell_of HS.out]; rfl
        have r1 : wf.cell? ⟨X2, 1, none⟩ = some (vi s.bugs) := by rw [cell_of HS.out]; rfl
        have r2 : wf.cell? ⟨X2, 2, none⟩ = some (.slice av s.vs.length cv) := by rw [cell_of HS.out]; rfl
        have r3 : wf.cell? ⟨X2, 3, none⟩ = some (.slice aw s.ws.length cw) := by rw [cell_of HS.out]; rfl
        have r4 : wf.cell? ⟨X2, 4, none⟩ = some (.slice (some ⟨g, off, none⟩) s.es.length ce) := by rw [cell_of HS.out]; rfl
        refine bodyPost_ret (v := rsV ⟨.slice av s.vs.length cv, .slice aw s.ws.length cw, .slice (some ⟨g, off, none⟩) s.es.length ce, s⟩) (by simp [results, Try.results40, go_sem, r0, r1, r2, r3, r4, rsV, rsC]) rfl ⟨_, rfl, hr.symm, ⟨HV.out.later HBF.out, HW.out.later HBF.out, HE.out.later HBF.out⟩, HBF.out, fun W' hs1 _ => RdSt.le HXA.out hs1⟩
    · have k1 : decide ((k : Int) < s.es.length) = false := decide_eq_false (by omega)
      have hr : s.es.any (fun x => x.txn == e.txn) = false := any_none HN.out hlt
      have HWJ := Lib.hid (HB.out.trans (HJ.out.mono hsw))
      have HBY := Lib.hid (show ∀ W, Below wj.heap.size wj W → W.heap[X]? = some (.cells #[.bool s.serial, vi s.bugs, .slice av s.vs.length cv, .slice aw s.ws.length cw, .slice ae s.es.length ce] 52) ∧ W.heap[X1]? = some (.cells #[vi e.txn, .bool e.commit, vi e.at_] 56) ∧ W.heap[X2]? = some (.cells #[.bool false, vi 0, .slice none 0 0, .slice none 0 0, .slice none 0 0] 52) from fun W hW => HBX.out W (HJ.out.trans (hW.mono hsz)))
      have HRR := Lib.hid hr
      have hw0 : wj.heap.size ≤ wj.heap.size := Nat.le_refl _
      have ho1 := World.ownsRow_lit (base := wj.heap.size) (e := 61) (size := 5) wj #[] 0 (Nat.le_refl _) (by simp [maxLen]) rfl
      have hba := (Below.refl wj.heap.size wj).alloc (Nat.le_refl _) (.cells #[] 61)
      go_upto_region 8 with fail
      generalize wj.alloc (.cells #[] 61) = wa at *
      generalize Value.slice (some ⟨wj.heap.size, 0, none⟩) 0 0 = vw at *
      have x2 : ∀ o', (wa.alloc o').cell? ⟨X, 2, none⟩ = some (.slice av s.vs.length cv) := fun o' => later_alloc (by rw [cell_of (HBY.out wa hba).1]; rfl) o'
      have hza := hba.size
      have ho2 := World.ownsRow_lit (base := wj.heap.size) (e := 151) (size := 3) wa #[] 0 hza (by simp [maxLen]) rfl
      have HO1 := Lib.hid ho1
      have HO2 := Lib.hid ho2
      have HBA := Lib.hid hba
      have HSRC := Lib.hid (rds_src (enc := ver3V) (fun _ => rfl) (HV.out.later (HWJ.out.trans ((hba.alloc hza (.cells #[] 151)).mono (Nat.le_trans hsw hsz)))) (fun _ _ h => h) (by omega))
      clear ho1 ho2 hr hba
      go_wp2_with (refine wpList_append_src rfl (.tmp 31) (.tmp 33) 48 rfl eltV3 wj.heap.size 0 [] HO2.out rfl s.vs.length _ HSRC.out rfl (one_of ver3_one _) (by omega) (by omega) (by simp; omega) ?_; intro v8 w8 ho8 hg8 _; have HO8 := Lib.hid ho8; have HK := Lib.hid (FinK.start (We := A) HO1.out HBA.out hg8 ho8); have x3 : w8.cell? ⟨X, 3, none⟩ = some (.slice aw s.ws.length cw) := (by rw [cell_of (HBY.out w8 HK.out.below).1]; rfl); clear ho8 hg8)
      clear x2 x3
      go_loopw [7, 8, 38] (fun vw vv i wr => ∃ (k : Nat) (L : List RV) (V : List Ver3), k ≤ s.ws.length ∧ i = vi k ∧ Hid (FinK A wj.heap.size wj vw vv L V wr) ∧ Hid (L.map (·.r) = (s.ws.take k).filter (fun r => r.txn != e.txn)) ∧ Hid (V = finAll e s.vs (s.ws.take k))) (fun _ _ i _ => s.ws.length - (intOf i).toNat)
      case atStart => exact ⟨0, [], s.vs, Nat.zero_le _, rfl, HK, Lib.hid rfl, Lib.hid rfl⟩
      case round =>
        obtain ⟨wq, rfl⟩ : ∃ wq : World, wq = wr := ⟨_, rfl⟩
        obtain ⟨q, L, V, hq, rfl, HQ, HL, HVE⟩ := hrel
        clear HK HO1 HO2 HBA HSRC
        by_cases hlt2 : q < s.ws.length
        · have z1 : decide ((q : Int) < s.ws.length) = true := decide_eq_true (by omega)
          have z2 : (q : Int) < s.ws.length := by omega
          have hwk : IntKind.i64.wrap ((q : Int) + 1) = (q : Int) + 1 := IntWalk.i64_in _ (by omega)
          obtain ⟨r, hr⟩ := some_at hlt2
          have hwl := HWS.out r (List.mem_of_getElem? hr)
          obtain ⟨g, off, rw_, rr, ha, hrs, c0, c1, c2, c3, c4⟩ := HWA.out.el hr
          obtain ⟨b1, l1, e1, rfl, rfl, -, -⟩ := (show RdOps A rw_ r.writes from hrs.ws).at
          obtain ⟨b2, l2, e2, rfl, -, -, -⟩ := (show RdInts A rr r.reads from hrs.rs).at
          have hwq := HHA.out.later (HWJ.out.trans (HQ.out.below.mono HWJ.out.size))
          replace c0 := hwq _ _ _ c0
          replace c1 := hwq _ _ _ c1
          replace c2 := hwq _ _ _ c2
          replace c3 := hwq _ _ _ c3
          replace c4 := hwq _ _ _ c4
          clear hwq
          subst ha
          have HRS := Lib.hid hrs
          have HF := Lib.hid (filter_take (q := fun r : Rdy => r.txn != e.txn) hr)
          have HFA := Lib.hid (finAll_snoc (e := e) (vs := s.vs) hr)
          have a0 : wq.cell? ⟨X1, 0, none⟩ = some (vi e.txn) := by rw [cell_of (HBY.out wq HQ.out.below).2.1]; rfl
          have a0' := later_alloc a0
          have hLl : L.length ≤ 1000 := by
            have h1 := congrArg List.length HL.out
            rw [List.length_map] at h1
            have h2 := List.length_filter_le (fun r : Rdy => r.txn != e.txn) (s.ws.take q)
            rw [List.length_take] at h2
            omega
          have hVl : V.length ≤ 2000000 := by
            have h1 := finAll_len e (s.ws.take q) s.vs (fun r hr => HWS.out r (List.mem_of_mem_take hr))
            rw [← HVE.out, List.length_take] at h1
            omega
          have hsq := HQ.out.below.size
          clear hr hrs
          go_upto_region 12 with fail
          have HQA := Lib.hid (HQ.out.alloc (.cells #[vi r.txn, vi r.home, vi r.start, .slice b1 r.writes.length e1, .slice b2 l2 e2] 61))
          have hAE := alloc_at wq (.cells #[vi r.txn, vi r.home, vi r.start, .slice b1 r.writes.length e1, .slice b2 l2 e2] 61)
          have hlt3 : wq.heap.size < (wq.alloc (.cells #[vi r.txn, vi r.home, vi r.start, .slice b1 r.writes.length e1, .slice b2 l2 e2] 61)).heap.size := by simp
          have a1' := a0' (.cells #[vi r.txn, vi r.home, vi r.start, .slice b1 r.writes.length e1, .slice b2 l2 e2] 61)
          generalize wq.alloc (.cells #[vi r.txn, vi r.home, vi r.start, .slice b1 r.writes.length e1, .slice b2 l2 e2] 61) = wz at *
          generalize wq.heap.size = Z at *
          have y0 : wz.cell? ⟨Z, 0, none⟩ = some (vi r.txn) := by rw [cell_of hAE]; rfl
          have y1 : wz.cell? ⟨Z, 1, none⟩ = some (vi r.home) := by rw [cell_of hAE]; rfl
          have y2 : wz.cell? ⟨Z, 2, none⟩ = some (vi r.start) := by rw [cell_of hAE]; rfl
          have y3 : wz.cell? ⟨Z, 3, none⟩ = some (.slice b1 r.writes.length e1) := by rw [cell_of hAE]; rfl
          have y4 : wz.cell? ⟨Z, 4, none⟩ = some (.slice b2 l2 e2) := by rw [cell_of hAE]; rfl
          have hsz4 := HQA.out.size
          clear a0 a0' c0 c1 c2 c3 c4 HQ
          cases hq1 : (r.txn != e.txn) with
          | true =>
            have hq2 : (r.txn == e.txn) = false := by simpa using hq1
            go_wp2_with (refine wpList_append_src rfl (.tmp 47) (.tmp 49) 49 rfl eltR19 wj.heap.size L.length _ (HQA.out.alloc _).row rfl 1 (rdyL ⟨.slice b1 r.writes.length e1, .slice b2 l2 e2, r⟩) (src_new (cs := #[vi r.txn, vi r.home, vi r.start, .slice b1 r.writes.length e1, .slice b2 l2 e2]) rfl rfl) rfl rdyL_one (by omega) (by omega) (by simp; omega) ?_; intro v5 w5 ho5 hg5 _; have HK5 := Lib.hid (FinK.pushR (HQA.out.alloc _) hg5 ho5 HRS.out); clear ho5 hg5)
            refine ⟨⟨q + 1, _, _, by omega, by go_num, HK5, Lib.hid ?_, Lib.hid ?_⟩, by simp only [intOf]; omega⟩
            · rw [List.map_append, HL.out, HF.out, if_pos hq1]; rfl
            · rw [HFA.out, hq2, HVE.out]; rfl
          | false =>
            have hq2 : (r.txn == e.txn) = true := by simpa using hq1
            go_wp2_with fail
            clear y0 y1 y2 y3 y4 a1'
            go_loopw [8, 54] (fun vv i wr => ∃ (j : Nat) (V' : List Ver3), j ≤ r.writes.length ∧ i = vi j ∧ Hid (FinK A wj.heap.size wj u7 vv L V' wr) ∧ Hid (V' = finW3 e V (r.writes.take j))) (fun _ i _ => r.writes.length - (intOf i).toNat)
            case atStart => exact ⟨0, V, Nat.zero_le _, rfl, HQA, Lib.hid rfl⟩
            case round =>
              obtain ⟨wy, rfl⟩ : ∃ wy : World, wy = wr := ⟨_, rfl⟩
              obtain ⟨j, V', hj, rfl, HY, HV'⟩ := hrel
              clear hAE
              have hVl' : V'.length ≤ 3000000 := by
                have h1 := finW3_len e (r.writes.take j) V
                rw [← HV'.out, List.length_take] at h1
                omega
              have hsy := HY.out.size
              by_cases hlt5 : j < r.writes.length
              · have z3 : decide ((j : Int) < r.writes.length) = true := decide_eq_true (by omega)
                have z4 : (j : Int) < r.writes.length := by omega
                have hwk : IntKind.i64.wrap ((j : Int) + 1) = (j : Int) + 1 := IntWalk.i64_in _ (by omega)
                obtain ⟨o, ho⟩ := some_at hlt5
                obtain ⟨g1, off1, ha, c0, c1, c2⟩ := (show RdOps A (.slice b1 r.writes.length e1) r.writes from HRS.out.ws).el ho
                subst ha
                have hwy := HHA.out.later (HWJ.out.trans (HY.out.below.mono HWJ.out.size))
                replace c0 := hwy _ _ _ c0
                replace c1 := hwy _ _ _ c1
                replace c2 := hwy _ _ _ c2
                clear hwy
                have HFO := Lib.hid (finW3_snoc (e := e) (vs := V) ho)
                have hAO := alloc_at wy (.cells #[vi o.kind, vi o.key, vi o.val] 104)
                have HYA := Lib.hid (HY.out.alloc (.cells #[vi o.kind, vi o.key, vi o.val] 104))
                have hltY : wy.heap.size < (wy.alloc (.cells #[vi o.kind, vi o.key, vi o.val] 104)).heap.size := by simp
                clear ho
                go_upto_region 17 with fail
                generalize wy.alloc (.cells #[vi o.kind, vi o.key, vi o.val] 104) = wb at *
                generalize wy.heap.size = Y at *
                clear c0 c1 c2 HY
                have a1 : wb.cell? ⟨X1, 1, none⟩ = some (.bool e.commit) := by rw [cell_of (HBY.out wb HYA.out.below).2.1]; rfl
                obtain ⟨cm, hcm⟩ : ∃ b, e.commit = b := ⟨_, rfl⟩
                rw [hcm] at a1
                have HCM := Lib.hid hcm
                clear hcm
                cases cm with
                | false =>
                  go_wp2_with fail
                  go_roundw
                  case rel => exact ⟨j + 1, V', by omega, by go_num, HYA, Lib.hid (by rw [HFO.out, HCM.out, HV'.out]; rfl)⟩
                  case measure => simp only [intOf]; omega
                | true =>
                  obtain ⟨a8, c8, h8⟩ := own_shape HYA.out.ver
                  subst h8
                  have hob := World.ownsRow_lit (base := wb.heap.size) (e := 151) (size := 3) wb #[] 0 (Nat.le_refl _) (by simp [maxLen]) rfl
                  have HOB := Lib.hid hob
                  have hbb := (Below.refl wb.heap.size wb).alloc (Nat.le_refl _) (.cells #[] 151)
                  have HBB := Lib.hid hbb
                  have HBO := Lib.hid (show ∀ W, Below wb.heap.size wb W → W.heap[Y]? = some (.cells #[vi o.kind, vi o.key, vi o.val] 104) ∧ W.heap[X1]? = some (.cells #[vi e.txn, .bool e.commit, vi e.at_] 56) from fun W hW => ⟨(hW.block _ hltY).trans hAO, (HBY.out W (HYA.out.later hW).below).2.1⟩)
                  have HRV := Lib.hid (own_at (enc := ver3V) (fun _ => rfl) HYA.out.ver)
                  clear hob hbb hAO
                  have hMb : wj.heap.size ≤ wb.heap.size := HYA.out.size
                  go_wp2_with fail
                  trace_state
                  go_loopw [13, 64] (fun lf i wr => ∃ (m : Nat), m ≤ V'.length ∧ i = vi m ∧ Hid (Below wb.heap.size wb wr) ∧ Hid (wr.ownsRow wb.heap.size 151 3 lf ((V'.take m).filter (fun v => v.key != o.key || v.at_ != e.at_)).length (((V'.take m).filter (fun v => v.key != o.key || v.at_ != e.at_)).flatMap ver3V))) (fun _ i _ => V'.length - (intOf i).toNat)
                  case atStart => exact ⟨0, Nat.zero_le _, rfl, HBB, HOB⟩
                  case round =>
                    obtain ⟨wl, rfl⟩ : ∃ wl : World, wl = wr := ⟨_, rfl⟩
                    obtain ⟨m, hm, rfl, HBL, HOL⟩ := hrel
                    clear HOB HBB a1
                    have hsl := HBL.out.size
                    have hFl : ((V'.take m).filter (fun v => v.key != o.key || v.at_ != e.at_)).length ≤ 3000000 := by
                      have h1 := List.length_filter_le (fun v : Ver3 => v.key != o.key || v.at_ != e.at_) (V'.take m)
                      rw [List.length_take] at h1
                      omega
                    by_cases hlt6 : m < V'.length
                    · have z5 : decide ((m : Int) < V'.length) = true := decide_eq_true (by omega)
                      have z6 : (m : Int) < V'.length := by omega
                      have hwk2 : IntKind.i64.wrap ((m : Int) + 1) = (m : Int) + 1 := IntWalk.i64_in _ (by omega)
                      obtain ⟨v, hv⟩ := some_at hlt6
                      obtain ⟨g2, off2, ha, c0, c1, c2⟩ := (show RdVer3 wl (.slice a8 V'.length c8) V' from RdVer3.later HRV.out HBL.out).el hv
                      subst ha
                      have HFV := Lib.hid (filter_take (q := fun v : Ver3 => v.key != o.key || v.at_ != e.at_) hv)
                      have o1 : wl.cell? ⟨Y, 1, none⟩ = some (vi o.key) := by rw [cell_of (HBO.out wl HBL.out).1]; rfl
                      have x12 : wl.cell? ⟨X1, 2, none⟩ = some (vi e.at_) := by rw [cell_of (HBO.out wl HBL.out).2]; rfl
                      replace o1 := later_alloc o1 (.cells #[vi v.key, vi v.at_, vi v.val] 151)
                      replace x12 := later_alloc x12 (.cells #[vi v.key, vi v.at_, vi v.val] 151)
                      have HBL1 := Lib.hid (HBL.out.alloc hsl (.cells #[vi v.key, vi v.at_, vi v.val] 151))
                      have HOL1 := Lib.hid (HOL.out.alloc (.cells #[vi v.key, vi v.at_, vi v.val] 151))
                      have hAV := alloc_at wl (.cells #[vi v.key, vi v.at_, vi v.val] 151)
                      clear hv
                      go_upto_region 22 with fail
                      generalize wl.alloc (.cells #[vi v.key, vi v.at_, vi v.val] 151) = wv at *
                      generalize wl.heap.size = Q at *
                      clear c0 c1 c2
                      have v0 : wv.cell? ⟨Q, 0, none⟩ = some (vi v.key) := by rw [cell_of hAV]; rfl
                      have v1 : wv.cell? ⟨Q, 1, none⟩ = some (vi v.at_) := by rw [cell_of hAV]; rfl
                      have v2 : wv.cell? ⟨Q, 2, none⟩ = some (vi v.val) := by rw [cell_of hAV]; rfl
                      have hsv := HBL1.out.size
                      clear hAV
                      have hyes : (v.key != o.key || v.at_ != e.at_) = true → ∀ (vl : Value) (W : World), Hid (W.ownsRow wb.heap.size 151 3 vl (((V'.take m).filter (fun v => v.key != o.key || v.at_ != e.at_)).length + 1) (((V'.take m).filter (fun v => v.key != o.key || v.at_ != e.at_)).flatMap ver3V ++ ver3V v)) → Hid (W.ownsRow wb.heap.size 151 3 vl ((V'.take (m + 1)).filter (fun v => v.key != o.key || v.at_ != e.at_)).length (((V'.take (m + 1)).filter (fun v => v.key != o.key || v.at_ != e.at_)).flatMap ver3V)) := fun hq vl W h => by
                        have h2 := h.out
                        rw [ver3_snoc] at h2
                        rw [HFV.out, if_pos hq, List.length_append]
                        exact Lib.hid h2
                      have HYES := Lib.hid hyes
                      have hno : (v.key != o.key || v.at_ != e.at_) = false → ∀ (vl : Value) (W : World), Hid (W.ownsRow wb.heap.size 151 3 vl ((V'.take m).filter (fun v => v.key != o.key || v.at_ != e.at_)).length (((V'.take m).filter (fun v => v.key != o.key || v.at_ != e.at_)).flatMap ver3V)) → Hid (W.ownsRow wb.heap.size 151 3 vl ((V'.take (m + 1)).filter (fun v => v.key != o.key || v.at_ != e.at_)).length (((V'.take (m + 1)).filter (fun v => v.key != o.key || v.at_ != e.at_)).flatMap ver3V)) := fun hq vl W h => by
                        rw [HFV.out, hq]
                        simpa using h
                      have HNO := Lib.hid hno
                      clear hyes hno
                      obtain ⟨F, hF⟩ : ∃ F, F = (V'.take m).filter (fun v => v.key != o.key || v.at_ != e.at_) := ⟨_, rfl⟩
                      rw [← hF] at HYES HNO HOL1 hFl
                      clear hF HFV HOL
                      cases hk1 : (v.key != o.key) with
                      | true =>
                        go_wp2_with (refine wpList_append_src rfl (.tmp 80) (.tmp 82) 48 rfl eltV3 wb.heap.size F.length _ (HOL1.out.alloc _) rfl 1 (ver3V v) (src_new (cs := #[vi v.key, vi v.at_, vi v.val]) rfl rfl) rfl (ver3_one v) (by omega) (by omega) (by simp; omega) ?_; intro v5 w5 ho5 hg5 _; have HO5 := Lib.hid ho5; have HB5 := Lib.hid ((HBL1.out.alloc hsv (.cells #[vi v.key, vi v.at_, vi v.val] 151)).grown hg5 (by simp; omega) (fun k hk => (HOL1.out.lt k hk).1)); clear ho5 hg5)
                        go_roundw
                        case rel => exact ⟨m + 1, by omega, by go_num, HB5, HYES.out (by rw [hk1]; rfl) _ _ HO5⟩
                        case measure => simp only [intOf]; omega
                      | false =>
                        cases hk2 : (v.at_ != e.at_) with
                        | true =>
                          go_wp2_with (refine wpList_append_src rfl (.tmp 80) (.tmp 82) 48 rfl eltV3 wb.heap.size F.length _ (HOL1.out.alloc _) rfl 1 (ver3V v) (src_new (cs := #[vi v.key, vi v.at_, vi v.val]) rfl rfl) rfl (ver3_one v) (by omega) (by omega) (by simp; omega) ?_; intro v5 w5 ho5 hg5 _; have HO5 := Lib.hid ho5; have HB5 := Lib.hid ((HBL1.out.alloc hsv (.cells #[vi v.key, vi v.at_, vi v.val] 151)).grown hg5 (by simp; omega) (fun k hk => (HOL1.out.lt k hk).1)); clear ho5 hg5)
                          go_roundw
                          case rel => exact ⟨m + 1, by omega, by go_num, HB5, HYES.out (by rw [hk1, hk2]; rfl) _ _ HO5⟩
                          case measure => simp only [intOf]; omega
                        | false =>
                          go_wp2_with fail
                          go_roundw
                          case rel => exact ⟨m + 1, by omega, by go_num, HBL1, HNO.out (by rw [hk1, hk2]; rfl) _ _ HOL1⟩
                          case measure => simp only [intOf]; omega
                    · have z5 : decide ((m : Int) < V'.length) = false := decide_eq_false (by omega)
                      have hml : V'.take m = V' := List.take_of_length_le (by omega)
                      rw [hml] at HOL hFl
                      have o1 : wl.cell? ⟨Y, 1, none⟩ = some (vi o.key) := by rw [cell_of (HBO.out wl HBL.out).1]; rfl
                      have o2 : wl.cell? ⟨Y, 2, none⟩ = some (vi o.val) := by rw [cell_of (HBO.out wl HBL.out).1]; rfl
                      have x12 : wl.cell? ⟨X1, 2, none⟩ = some (vi e.at_) := by rw [cell_of (HBO.out wl HBL.out).2]; rfl
                      obtain ⟨F, hF⟩ : ∃ F, F = V'.filter (fun v => v.key != o.key || v.at_ != e.at_) := ⟨_, rfl⟩
                      rw [← hF] at HOL hFl
                      have HFF := Lib.hid (show F ++ [⟨o.key, e.at_, o.val⟩] = putV3 V' o.key e.at_ o.val by rw [hF]; rfl)
                      clear hF
                      go_wp2_with (refine wpList_append_src rfl (.tmp 85) (.tmp 93) 48 rfl eltV3 wb.heap.size F.length _ (HOL.out.alloc _) rfl 1 (ver3V ⟨o.key, e.at_, o.val⟩) (src_new (cs := #[vi o.key, vi e.at_, vi o.val]) rfl rfl) rfl (ver3_one _) (by omega) (by omega) (by simp; omega) ?_; intro v5 w5 ho5 hg5 _; have HO5 := Lib.hid ho5; have HK5 := Lib.hid (((HYA.out.later HBL.out).alloc (.cells #[vi o.key, vi e.at_, vi o.val] 151)).turn hg5 (fun k hk => (HOL.out.lt k hk).1) (fun v hv k hk => (by rcases hv with rfl | rfl; exact (HYA.out.row.lt k hk).2; exact (HYA.out.ver.lt k hk).2)) hMb); clear ho5 hg5)
                      go_roundw
                      case rel =>
                        refine ⟨j + 1, F ++ [⟨o.key, e.at_, o.val⟩], by omega, by go_num, Lib.hid (HK5.out.putV ?_), Lib.hid ?_⟩
                        · have h2 := HO5.out
                          rw [ver3_snoc] at h2
                          rw [List.length_append]
                          exact own_mono h2 hMb
                        · rw [HFO.out, HCM.out, HFF.out, HV'.out]; rfl
                      case measure => simp only [intOf]; omega
              · have z3 : decide ((j : Int) < r.writes.length) = false := decide_eq_false (by omega)
                have hjl : r.writes.take j = r.writes := List.take_of_length_le (by omega)
                rw [hjl] at HV'
                go_wp2_with fail
                refine ⟨⟨q + 1, L, V', by omega, by go_num, HY, Lib.hid ?_, Lib.hid ?_⟩, by simp only [intOf]; omega⟩
                · rw [HF.out, hq1, HL.out]; simp
                · rw [HFA.out, hq2, ← HVE.out, HV'.out]; rfl
        · have z1 : decide ((q : Int) < s.ws.length) = false := decide_eq_false (by omega)
          have hql : s.ws.take q = s.ws := List.take_of_length_le (by omega)
          rw [hql] at HL HVE
          obtain ⟨a7, c7, h7⟩ := own_shape HQ.out.row
          obtain ⟨a8, c8, h8⟩ := own_shape HQ.out.ver
          subst h7 h8
          have hVl : V.length ≤ 2000000 := by
            have h1 := finAll_len e s.ws s.vs (fun r hr => HWS.out r hr)
            rw [← HVE.out] at h1
            omega
          have hX := (HBY.out wq HQ.out.below).1
          have q0 : ∀ j, wq.frozen? ⟨X, j, none⟩ = false := fun j => free_of hX j
          have x2 : wq.cell? ⟨X, 2, none⟩ = some (.slice av s.vs.length cv) := by rw [cell_of hX]; rfl
          have x3 : wq.cell? ⟨X, 3, none⟩ = some (.slice aw s.ws.length cw) := by rw [cell_of hX]; rfl
          have hXN : X < wj.heap.size := by have := HXX.out; have := HB.out.size; have h3 := (Array.getElem?_eq_some_iff.1 (HBX.out wj HJ.out).2.2).1; omega
          have hS1 := rn_set (o := 3) (.slice a7 L.length c7) hX
          have hS2 := rn_set (o := 2) (.slice a8 V.length c8) hS1
          have hr7 := own_set (b := X) (o := 2) (u := .slice a8 V.length c8) (own_set (b := X) (o := 3) (u := .slice a7 L.length c7) HQ.out.row hXN) hXN
          have hr8 := own_set (b := X) (o := 2) (u := .slice a8 V.length c8) (own_set (b := X) (o := 3) (u := .slice a7 L.length c7) HQ.out.ver hXN) hXN
          have hbS : Below w.heap.size w ((wq.setCell ⟨X, 3, none⟩ (.slice a7 L.length c7)).setCell ⟨X, 2, none⟩ (.slice a8 V.length c8)) := ((HWJ.out.trans (HQ.out.below.mono HWJ.out.size)).setCell (show w.heap.size ≤ X by have := HXX.out; omega) _).setCell (show w.heap.size ≤ X by have := HXX.out; omega) _
          have hX1 := (HBY.out wq HQ.out.below).2.1
          have hX2 := (HBY.out wq HQ.out.below).2.2
          have hY1 : ((wq.setCell ⟨X, 3, none⟩ (.slice a7 L.length c7)).setCell ⟨X, 2, none⟩ (.slice a8 V.length c8)).heap[X1]? = _ := (Below.heap_setCell _ _ _ X1 (by have := HXX.out; show X1 ≠ X; omega)).trans ((Below.heap_setCell _ _ _ X1 (by have := HXX.out; show X1 ≠ X; omega)).trans hX1)
          have hY2 : ((wq.setCell ⟨X, 3, none⟩ (.slice a7 L.length c7)).setCell ⟨X, 2, none⟩ (.slice a8 V.length c8)).heap[X2]? = _ := (Below.heap_setCell _ _ _ X2 (by have := HXX.out; show X2 ≠ X; omega)).trans ((Below.heap_setCell _ _ _ X2 (by have := HXX.out; show X2 ≠ X; omega)).trans hX2)
          have hXs : ((wq.setCell ⟨X, 3, none⟩ (.slice a7 L.length c7)).setCell ⟨X, 2, none⟩ (.slice a8 V.length c8)).heap[X]? = some (.cells #[.bool s.serial, vi s.bugs, .slice a8 V.length c8, .slice a7 L.length c7, .slice ae s.es.length ce] 52) := by rw [hS2]; simp
          have hlN : wj.heap.size ≤ ((wq.setCell ⟨X, 3, none⟩ (.slice a7 L.length c7)).setCell ⟨X, 2, none⟩ (.slice a8 V.length c8)).heap.size := by simpa [World.setCell] using HQ.out.size
          go_upto_region 30 with fail
          generalize ((wq.setCell ⟨X, 3, none⟩ (.slice a7 L.length c7)).setCell ⟨X, 2, none⟩ (.slice a8 V.length c8)) = wS at *
          have HSS := Lib.hid (show ∀ W, Below wS.heap.size wS W → W.cell? ⟨X, 4, none⟩ = some (.slice ae s.es.length ce) ∧ W.cell? ⟨X1, 0, none⟩ = some (vi e.txn) ∧ W.cell? ⟨X1, 1, none⟩ = some (.bool e.commit) ∧ W.cell? ⟨X1, 2, none⟩ = some (vi e.at_) ∧ W.frozen? ⟨X, 4, none⟩ = false from fun W hW => by
            have e1 := (hW.block X (Array.getElem?_eq_some_iff.1 hXs).1).trans hXs
            have e2 := (hW.block X1 (Array.getElem?_eq_some_iff.1 hY1).1).trans hY1
            exact ⟨by rw [cell_of e1]; rfl, by rw [cell_of e2]; rfl, by rw [cell_of e2]; rfl, by rw [cell_of e2]; rfl, free_of e1 4⟩)
          have HXS := Lib.hid hXs
          have HYS := Lib.hid hY2
          have HR7 := Lib.hid hr7
          have HR8 := Lib.hid hr8
          have HBS := Lib.hid hbS
          have HO := Lib.hid (show (wS.drew.alloc (.cells #[] 56)).ownsRow wS.heap.size 56 3 (.slice (some ⟨wS.heap.size, 0, none⟩) 0 0) 0 [] from World.ownsRow_lit wS.drew #[] 0 (Nat.le_refl _) (by simp [maxLen]) rfl)
          have HBd := Lib.hid ((Below.refl wS.heap.size wS).drew)
          have HBe := Lib.hid (((Below.refl wS.heap.size wS).drew).alloc (Nat.le_refl _) (.cells #[] 56))
          have HSRC := Lib.hid (rds_src (enc := endL) (fun _ => rfl) ((HE.out.later HBS.out).later HBe.out) (fun _ _ h => h) (by omega))
          clear hS1 hS2 hr7 hr8 hbS hX hX1 hX2 hY1 hY2 hXs q0 x2 x3
          have hs0 := HSS.out wS (Below.refl _ _)
          have s4 := hs0.1
          have s4' := later_alloc s4
          have s4'' := fun o o' => later_alloc (s4' o) o'
          have e0 := hs0.2.1
          have e1 := hs0.2.2.1
          have e2 := hs0.2.2.2.1
          have e0' := later_alloc e0
          have e1' := later_alloc e1
          have e2' := later_alloc e2
          clear hs0
          have HOb := Lib.hid (HO.out.alloc (.cells #[vi e.txn, .bool e.commit, vi e.at_] 56))
          have HBf := Lib.hid (HBe.out.alloc HBe.out.size (.cells #[vi e.txn, .bool e.commit, vi e.at_] 56))
          have HSRCb := Lib.hid (HSRC.out.below ((Below.refl _ _).alloc (Nat.le_refl _) (.cells #[vi e.txn, .bool e.commit, vi e.at_] 56)))
          have HSN := Lib.hid (show Src ((wS.drew.alloc (.cells #[] 56)).alloc (.cells #[vi e.txn, .bool e.commit, vi e.at_] 56)) (.slice (some ⟨wS.heap.size + 1, 0, none⟩) 1 1) 3 1 (endL e) from src_new (cs := #[vi e.txn, .bool e.commit, vi e.at_]) rfl (by simp))
          have HSG := Lib.hid (show ∀ w5 : World, ((wS.drew.alloc (.cells #[] 56)).alloc (.cells #[vi e.txn, .bool e.commit, vi e.at_] 56)).grownBy w5 (Value.slice (some ⟨wS.heap.size, 0, none⟩) 0 0).ownBlock → Src w5 (.slice (some ⟨wS.heap.size + 1, 0, none⟩) 1 1) 3 1 (endL e) from fun w5 h => src_grown HSN.out (r := wS.heap.size) h (by omega) (by show wS.heap.size + 1 < ((wS.alloc (.cells #[] 56)).alloc (.cells #[vi e.txn, .bool e.commit, vi e.at_] 56)).heap.size; simp))
          have HBG := Lib.hid (show ∀ w5 : World, ((wS.drew.alloc (.cells #[] 56)).alloc (.cells #[vi e.txn, .bool e.commit, vi e.at_] 56)).grownBy w5 (Value.slice (some ⟨wS.heap.size, 0, none⟩) 0 0).ownBlock → Below wS.heap.size wS w5 from fun w5 h => HBf.out.grown h HBf.out.size (fun k hk => by cases hk; exact Nat.le_refl _))
          have hse : (wS.drew.alloc (.cells #[vi e.txn, .bool e.commit, vi e.at_] 56)).heap.size = wS.heap.size + 1 := by show (wS.alloc (.cells #[vi e.txn, .bool e.commit, vi e.at_] 56)).heap.size = _; simp
          have HOc := Lib.hid (show ((wS.drew.alloc (.cells #[vi e.txn, .bool e.commit, vi e.at_] 56)).alloc (.cells #[] 56)).ownsRow wS.heap.size 56 3 (.slice (some ⟨wS.heap.size + 1, 0, none⟩) 0 0) 0 [] from by
            have h := World.ownsRow_lit (base := wS.heap.size) (e := 56) (size := 3) (wS.drew.alloc (.cells #[vi e.txn, .bool e.commit, vi e.at_] 56)) #[] 0 (by rw [hse]; omega) (by simp [maxLen]) rfl
            rw [hse] at h; exact h)
          have HBc := Lib.hid ((((Below.refl wS.heap.size wS).drew).alloc (Nat.le_refl _) (.cells #[vi e.txn, .bool e.commit, vi e.at_] 56)).alloc (by rw [hse]; omega) (.cells #[] 56))
          have HSRCc := Lib.hid (rds_src (enc := endL) (fun _ => rfl) ((HE.out.later HBS.out).later HBc.out) (fun _ _ h => h) (by omega))
          have HSNc := Lib.hid ((show Src (wS.drew.alloc (.cells #[vi e.txn, .bool e.commit, vi e.at_] 56)) (.slice (some ⟨wS.heap.size, 0, none⟩) 1 1) 3 1 (endL e) from src_new (cs := #[vi e.txn, .bool e.commit, vi e.at_]) rfl rfl).below ((Below.refl _ _).alloc (Nat.le_refl _) (.cells #[] 56)))
          have HSGc := Lib.hid (show ∀ w5 : World, ((wS.drew.alloc (.cells #[vi e.txn, .bool e.commit, vi e.at_] 56)).alloc (.cells #[] 56)).grownBy w5 (Value.slice (some ⟨wS.heap.size + 1, 0, none⟩) 0 0).ownBlock → Src w5 (.slice (some ⟨wS.heap.size, 0, none⟩) 1 1) 3 1 (endL e) from fun w5 h => src_grown HSNc.out (r := wS.heap.size + 1) h (by omega) (by show wS.heap.size < ((wS.alloc (.cells #[vi e.txn, .bool e.commit, vi e.at_] 56)).alloc (.cells #[] 56)).heap.size; simp; omega))
          have HBGc := Lib.hid (show ∀ w5 : World, ((wS.drew.alloc (.cells #[vi e.txn, .bool e.commit, vi e.at_] 56)).alloc (.cells #[] 56)).grownBy w5 (Value.slice (some ⟨wS.heap.size + 1, 0, none⟩) 0 0).ownBlock → Below wS.heap.size wS w5 from fun w5 h => HBc.out.grown h HBc.out.size (fun k hk => by cases hk; show wS.heap.size ≤ wS.heap.size + 1; omega))
          clear hse
          go_region_law (first
              | (refine step_append_src rfl _ _ 50 rfl eltE19 wS.heap.size 0 [] HO.out rfl s.es.length _ HSRC.out rfl (one_of endL_one _) (by omega) (by omega) (by simp) ?_; intro v5 w5 ho5 hg5 _; rw [Nat.zero_add, List.nil_append] at ho5; obtain ⟨a5, c5, rfl⟩ := own_shape ho5; have HO5a := Lib.hid ho5; have HB5 := Lib.hid (HBe.out.grown hg5 (by simp) (fun k hk => by cases hk; exact Nat.le_refl _)); have HB6 := Lib.hid (HB5.out.alloc HB5.out.size (.cells #[vi e.txn, .bool e.commit, vi e.at_] 56)); have z0 := (HSS.out _ HB5.out).2.1; have z1 := (HSS.out _ HB5.out).2.2.1; have z2 := (HSS.out _ HB5.out).2.2.2.1; clear ho5 hg5)
              | (refine step_append_src rfl _ _ 50 rfl eltE19 wS.heap.size 0 [] HOb.out rfl s.es.length _ HSRCb.out rfl (one_of endL_one _) (by omega) (by omega) HBf.out.size ?_; intro v5 w5 ho5 hg5 _; rw [Nat.zero_add, List.nil_append] at ho5; obtain ⟨a5, c5, rfl⟩ := own_shape ho5; have HO5b := Lib.hid ho5; have HB6 := Lib.hid (HBG.out _ hg5); have HSN5 := Lib.hid (HSG.out _ hg5); clear ho5 hg5)
              | (refine step_append_src rfl _ _ 50 rfl eltE19 wS.heap.size 0 [] HOc.out rfl s.es.length _ HSRCc.out rfl (one_of endL_one _) (by omega) (by omega) HBc.out.size ?_; intro v5 w5 ho5 hg5 _; rw [Nat.zero_add, List.nil_append] at ho5; obtain ⟨a5, c5, rfl⟩ := own_shape ho5; have HO5b := Lib.hid ho5; have HB6 := Lib.hid (HBGc.out _ hg5); have HSN5 := Lib.hid (HSGc.out _ hg5); clear ho5 hg5)
              | (refine step_append_src rfl _ _ 50 rfl eltE19 wS.heap.size _ _ (HO5a.out.alloc _) rfl 1 (endL e) (src_new (cs := #[vi e.txn, .bool e.commit, vi e.at_]) rfl rfl) rfl (endL_one e) (by omega) (by omega) (by have := HB5.out.size; simp; omega) ?_; intro v7 w7 ho7 hg7 _; obtain ⟨a9, c9, rfl⟩ := own_shape ho7; have HO7 := Lib.hid ho7; have HB7 := Lib.hid (HB6.out.grown hg7 HB6.out.size (fun k hk => (HO5a.out.lt k hk).1)); have z7 := (HSS.out _ HB7.out).1; have f7 := (HSS.out _ HB7.out).2.2.2.2; clear ho7 hg7)
              | (refine step_append_src rfl _ _ 50 rfl eltE19 wS.heap.size _ _ HO5b.out rfl 1 (endL e) HSN5.out rfl (endL_one e) (by omega) (by omega) HB6.out.size ?_; intro v7 w7 ho7 hg7 _; obtain ⟨a9, c9, rfl⟩ := own_shape ho7; have HO7 := Lib.hid ho7; have HB7 := Lib.hid (HB6.out.grown hg7 HB6.out.size (fun k hk => (HO5b.out.lt k hk).1)); have z7 := (HSS.out _ HB7.out).1; have f7 := (HSS.out _ HB7.out).2.2.2.2; clear ho7 hg7))
          all_goals
            have hX9 := rn_set (o := 4) (.slice a9 (s.es.length + 1) c9) ((HB7.out.block X (Array.getElem?_eq_some_iff.1 HXS.out).1).trans HXS.out)
            have hX29 : (w7.setCell ⟨X, 4, none⟩ (.slice a9 (s.es.length + 1) c9)).heap[X2]? = _ := (Below.heap_setCell _ _ _ X2 (by have := HXX.out; show X2 ≠ X; omega)).trans ((HB7.out.block X2 (Array.getElem?_eq_some_iff.1 HYS.out).1).trans HYS.out)
            have hr9 := own_set (b := X) (o := 4) (u := .slice a9 (s.es.length + 1) c9) HO7.out (by omega)
            have hb9 : Below w.heap.size w (w7.setCell ⟨X, 4, none⟩ (.slice a9 (s.es.length + 1) c9)) := (HBS.out.trans (HB7.out.mono (show w.heap.size ≤ wS.heap.size from HBS.out.size))).setCell (show w.heap.size ≤ X by have := HXX.out; omega) _
            have hr7' := own_set (b := X) (o := 4) (u := .slice a9 (s.es.length + 1) c9) (own_mono (b' := wj.heap.size) (own_below HR7.out HB7.out) (Nat.le_refl _)) hXN
            have hr8' := own_set (b := X) (o := 4) (u := .slice a9 (s.es.length + 1) c9) (own_mono (b' := wj.heap.size) (own_below HR8.out HB7.out) (Nat.le_refl _)) hXN
            replace hX9 : (w7.setCell ⟨X, 4, none⟩ (.slice a9 (s.es.length + 1) c9)).heap[X]? = some (.cells #[.bool s.serial, vi s.bugs, .slice a8 V.length c8, .slice a7 L.length c7, .slice a9 (s.es.length + 1) c9] 52) := by rw [hX9]; simp
            go_upto_region 31 with fail
            generalize w7.setCell ⟨X, 4, none⟩ (.slice a9 (s.es.length + 1) c9) = wa at *
            have q0 : ∀ j, wa.frozen? ⟨X2, j, none⟩ = false := fun j => free_of hX29 j
            have p0 : wa.cell? ⟨X2, 0, none⟩ = some (.bool false) := by rw [cell_of hX29]; rfl
            have p1 : wa.cell? ⟨X2, 1, none⟩ = some (vi 0) := by rw [cell_of hX29]; rfl
            have p2 : wa.cell? ⟨X2, 2, none⟩ = some (.slice none 0 0) := by rw [cell_of hX29]; rfl
            have p3 : wa.cell? ⟨X2, 3, none⟩ = some (.slice none 0 0) := by rw [cell_of hX29]; rfl
            have p4 : wa.cell? ⟨X2, 4, none⟩ = some (.slice none 0 0) := by rw [cell_of hX29]; rfl
            have x0 : wa.cell? ⟨X, 0, none⟩ = some (.bool s.serial) := by rw [cell_of hX9]; rfl
            have x1 : wa.cell? ⟨X, 1, none⟩ = some (vi s.bugs) := by rw [cell_of hX9]; rfl
            have x2 : wa.cell? ⟨X, 2, none⟩ = some (.slice a8 V.length c8) := by rw [cell_of hX9]; rfl
            have x3 : wa.cell? ⟨X, 3, none⟩ = some (.slice a7 L.length c7) := by rw [cell_of hX9]; rfl
            have x4 : wa.cell? ⟨X, 4, none⟩ = some (.slice a9 (s.es.length + 1) c9) := by rw [cell_of hX9]; rfl
            have HS := Lib.hid (rn_set5 (.bool s.serial) (vi s.bugs) (.slice a8 V.length c8) (.slice a7 L.length c7) (.slice a9 (s.es.length + 1) c9) hX29)
            have HBF := Lib.hid (hb9.trans (rn_below5 (W := wa) (.bool s.serial) (vi s.bugs) (.slice a8 V.length c8) (.slice a7 L.length c7) (.slice a9 (s.es.length + 1) c9) (show w.heap.size ≤ X2 by have := HXX.out; omega)))
            have hX2N : X2 < wj.heap.size := (Array.getElem?_eq_some_iff.1 (HBX.out wj HJ.out).2.2).1
            have hX2S : X2 < wS.heap.size := (Array.getElem?_eq_some_iff.1 HYS.out).1
            have HF7 := Lib.hid (own_set (b := X2) (o := 4) (u := .slice a9 (s.es.length + 1) c9) (own_set (b := X2) (o := 3) (u := .slice a7 L.length c7) (own_set (b := X2) (o := 2) (u := .slice a8 V.length c8) (own_set (b := X2) (o := 1) (u := vi s.bugs) (own_set (b := X2) (o := 0) (u := .bool s.serial) hr7' hX2N) hX2N) hX2N) hX2N) hX2N)
            have HF8 := Lib.hid (own_set (b := X2) (o := 4) (u := .slice a9 (s.es.length + 1) c9) (own_set (b := X2) (o := 3) (u := .slice a7 L.length c7) (own_set (b := X2) (o := 2) (u := .slice a8 V.length c8) (own_set (b := X2) (o := 1) (u := vi s.bugs) (own_set (b := X2) (o := 0) (u := .bool s.serial) hr8' hX2N) hX2N) hX2N) hX2N) hX2N)
            have HF9 := Lib.hid (own_set (b := X2) (o := 4) (u := .slice a9 (s.es.length + 1) c9) (own_set (b := X2) (o := 3) (u := .slice a7 L.length c7) (own_set (b := X2) (o := 2) (u := .slice a8 V.length c8) (own_set (b := X2) (o := 1) (u := vi s.bugs) (own_set (b := X2) (o := 0) (u := .bool s.serial) hr9 hX2S) hX2S) hX2S) hX2S) hX2S)
            clear hX9 hX29 hr9 hb9 hr7' hr8'
            go_wp2_with fail
            generalize (((((wa.setCell ⟨X2, 0, none⟩ (.bool s.serial)).setCell ⟨X2, 1, none⟩ (vi s.bugs)).setCell ⟨X2, 2, none⟩ (.slice a8 V.length c8)).setCell ⟨X2, 3, none⟩ (.slice a7 L.length c7)).setCell ⟨X2, 4, none⟩ (.slice a9 (s.es.length + 1) c9)) = wf at *
            have r0 : wf.cell? ⟨X2, 0, none⟩ = some (.bool s.serial) := by rw [cell_of HS.out]; rfl
            have r1 : wf.cell? ⟨X2, 1, none⟩ = some (vi s.bugs) := by rw [cell_of HS.out]; rfl
            have r2 : wf.cell? ⟨X2, 2, none⟩ = some (.slice a8 V.length c8) := by rw [cell_of HS.out]; rfl
            have r3 : wf.cell? ⟨X2, 3, none⟩ = some (.slice a7 L.length c7) := by rw [cell_of HS.out]; rfl
            have r4 : wf.cell? ⟨X2, 4, none⟩ = some (.slice a9 (s.es.length + 1) c9) := by rw [cell_of HS.out]; rfl
            have hfin : rnFinish s e = ⟨s.serial, s.bugs, V, L.map (·.r), s.es ++ [e]⟩ := by
              unfold rnFinish; rw [HRR.out, ← HVE.out, ← HL.out]; rfl
            have hall : ∀ W' : World, CLe A W' → (∀ j, w.heap.size ≤ j → W'.heap[j]? = wf.heap[j]?) → RdSt W' ⟨.slice a8 V.length c8, .slice a7 L.length c7, .slice a9 (s.es.length + 1) c9, rnFinish s e⟩ := fun W' hs1 hs2 => by
              rw [hfin]
              refine ⟨rdv3_of_own (own_same HF8.out HWJ.out.size hs2), rdr_of_own (own_same HF7.out HWJ.out.size hs2) (fun x hx => RdyS.le (HQ.out.els x hx) hs1), ?_⟩
              have h9 := own_same HF9.out HBS.out.size hs2
              refine rde_of_own (L := s.es ++ [e]) (N := wS.heap.size) ?_
              rw [List.length_append, List.flatMap_append]
              simpa using h9
            refine bodyPost_ret (v := rsV ⟨.slice a8 V.length c8, .slice a7 L.length c7, .slice a9 (s.es.length + 1) c9, rnFinish s e⟩) (by rw [hfin]; simp [results, Try.results40, go_sem, r0, r1, r2, r3, r4, rsV, rsC]) rfl ⟨_, rfl, rfl, hall wf (HHA.out.later HBF.out) (fun _ _ => rfl), HBF.out, hall⟩
theorem rnFinish_call2 (A : World) (x : RSV) (e : EndM) (w : World) (hxA : RdSt A x) (hA : Below A.heap.size A w) (hlv : x.s.vs.length ≤ 1000000) (hlw : x.s.ws.length ≤ 1000) (hle : x.s.es.length ≤ 1000000) (hws : ∀ r ∈ x.s.ws, r.writes.length ≤ 1000) :
    Calls Try.prog 40 #[rsV x, endV e] w (FinR2 A x.s e w) :=
  (rnFinish_call3 A x e w hxA (CLe.of_below hA) hlv hlw hle hws).mono fun _ w' ⟨y, h1, h2, h3, h4, h5⟩ => ⟨y, h1, h2, h3, h4, fun W' hW => h5 W' (CLe.of_same fun j hj => (hW j (.inl hj)).trans ((h4.block j (Nat.lt_of_lt_of_le hj hA.size)).trans (hA.block j hj))) (fun j hj => hW j (.inr hj))⟩
theorem rnFinish_call (x : RSV) (e : EndM) (w : World) (hx : RdSt w x) (hlv : x.s.vs.length ≤ 1000000) (hlw : x.s.ws.length ≤ 1000) (hle : x.s.es.length ≤ 1000000) (hws : ∀ r ∈ x.s.ws, r.writes.length ≤ 1000) :
    Calls Try.prog 40 #[rsV x, endV e] w (FinR x.s e w) :=
  (rnFinish_call2 w x e w hx (Below.refl _ _) hlv hlw hle hws).mono fun _ _ ⟨y, h1, h2, h3, h4, _⟩ => ⟨y, h1, h2, h3, h4⟩
end Go.Proofs.Ytdkkpkgfiodlbaa
