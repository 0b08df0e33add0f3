/- Writing a transaction of the slice that crucibleref05.Of makes. Names no function. -/
import Derived.Test.YtafboehdihokhaaOfMem
namespace Go.Proofs.Ytafboehdihokhaa
open Go.RowKit Go.Maps

theorem flat_set : ∀ (L : TxL) (k i : Nat) (u : Value) (p p' : GTxn × Value), L[k]? = some p → i < 3 → (txV p).set i u = txV p' → (L.flatMap txV).set (k * 3 + i) u = (L.set k p').flatMap txV := by
  intro L
  induction L with
  | nil => intro k i u p p' h; simp at h
  | cons q L ih =>
    intro k i u p p' h hi hs
    rw [List.flatMap_cons]
    cases k with
    | zero =>
      simp at h; subst h
      rw [List.set_append]
      rw [if_pos (by rw [txV_length]; omega), List.set_cons_zero, List.flatMap_cons, Nat.zero_mul, Nat.zero_add, hs]
    | succ k =>
      rw [List.set_append, if_neg (by rw [txV_length]; omega), txV_length, List.set_cons_succ, List.flatMap_cons]
      rw [show (k + 1) * 3 + i - 3 = k * 3 + i by omega, ih k i u p p' (by simpa using h) hi hs]

theorem OfS.out_shape {w A : World} {vo vf : Value} {L : TxL} {F : List Nat} (h : OfS w vo vf L F A) (h0 : 0 < L.length) : ∃ g cap, vo = .slice (some ⟨g, 0, none⟩) L.length cap := by
  rcases h.out.2 with ⟨_, h2⟩ | ⟨g, cap, _, hv, _⟩
  · omega
  · exact ⟨g, cap, hv⟩
theorem OfS.frm_shape {w A : World} {vo vf : Value} {L : TxL} {F : List Nat} (h : OfS w vo vf L F A) (h0 : 0 < F.length) : ∃ g cap, vf = .slice (some ⟨g, 0, none⟩) F.length cap := by
  rcases h.frm.2 with ⟨_, h2⟩ | ⟨g, cap, _, hv, _⟩
  · omega
  · exact ⟨g, cap, hv⟩

theorem OfS.frm_at {w A : World} {vo : Value} {L : TxL} {F : List Nat} {gf n cf : Nat} (h : OfS w vo (.slice (some ⟨gf, 0, none⟩) n cf) L F A) {k f : Nat} (hf : F[k]? = some f) : A.cell? ⟨gf, k, none⟩ = some (vi f) := by
  have := World.ownsRow.cells h.frm (g := gf) rfl k (vi f) (by simp [hf])
  rw [addr_add] at this
  simpa using this
theorem txV_at (L : TxL) {k i : Nat} {p : GTxn × Value} {u : Value} (hk : L[k]? = some p) (hu : (txV p)[i]? = some u) : (L.flatMap txV)[k * 3 + i]? = some u := flat_at txV_length L k i p u hk hu
theorem OfS.out_at {w A : World} {vf : Value} {L : TxL} {F : List Nat} {g n cap : Nat} (h : OfS w (.slice (some ⟨g, 0, none⟩) n cap) vf L F A) {k : Nat} {p : GTxn × Value} (hp : L[k]? = some p) {i : Nat} {u : Value} (hu : (txV p)[i]? = some u) : A.cell? ⟨g, k * 3 + i, none⟩ = some u := by
  have := World.ownsRow.cells h.out (g := g) rfl (k * 3 + i) u (txV_at L hp hu)
  rw [addr_add] at this
  simpa using this
theorem OfS.out_free {w A : World} {vf : Value} {L : TxL} {F : List Nat} {g n cap : Nat} (h : OfS w (.slice (some ⟨g, 0, none⟩) n cap) vf L F A) (hn : n = L.length) (j : Nat) : A.frozen? ⟨g, j, none⟩ = false := by
  subst hn; exact World.ownsRow.frozenAt h.out j
/-- A cell of a transaction is written. -/
theorem OfS.set {w A : World} {vf : Value} {L : TxL} {F : List Nat} {g n cap : Nat} (h : OfS w (.slice (some ⟨g, 0, none⟩) n cap) vf L F A) (hn : n = L.length) {k i : Nat} {p p' : GTxn × Value} {u : Value} (hp : L[k]? = some p) (hi : i < 3) (hs : (txV p).set i u = txV p') (ho : OwOps w.heap.size A p'.2 p'.1.ops) :
    OfS w (.slice (some ⟨g, 0, none⟩) n cap) vf (L.set k p') F (A.setCell ⟨g, k * 3 + i, none⟩ u) := by
  subst hn
  obtain ⟨h1, h2⟩ := World.ownsRow.stored h.out (k * 3 + i) u
  rw [flat_set L k i u p p' hp hi hs] at h1
  refine h.wrote (vo' := .slice (some ⟨g, 0, none⟩) L.length cap) h2 (by simpa using h1) fun q hq => ?_
  rcases List.mem_or_eq_of_mem_set hq with hq | rfl
  · exact h.ops q hq
  · exact ho
/-- A transaction is appended. -/
theorem OfS.push {w A B : World} {vo vo' vf : Value} {L : TxL} {F : List Nat} {p : GTxn × Value} (h : OfS w vo vf L F A) (hg : A.grownBy B vo.ownBlock) (ho : B.ownsRow w.heap.size 62 3 vo' (L.length + 1) (L.flatMap txV ++ txV p)) (hp : OwOps w.heap.size A p.2 p.1.ops) : OfS w vo' vf (L ++ [p]) F B := by
  refine h.wrote hg (by simpa using ho) fun q hq => ?_
  rw [List.mem_append] at hq
  rcases hq with hq | hq
  · exact h.ops q hq
  · simp at hq; subst hq; exact hp
theorem OfS.pushF {w A B : World} {vo vf vf' : Value} {L : TxL} {F : List Nat} {f : Nat} (h : OfS w vo vf L F A) (hg : A.grownBy B vf.ownBlock) (ho : B.ownsRow w.heap.size 3 1 vf' (F.length + 1) (F.map (fun n : Nat => vi (n : Int)) ++ [vi (f : Int)])) : OfS w vo vf' L (F ++ [f]) B :=
  h.from' hg (by simpa using ho)
theorem txV_one {p : GTxn × Value} {a : Option Addr} {n c : Nat} (h : p.2 = .slice a n c) : ∀ u ∈ txV p, u.oneCell' = true := by
  intro u hu
  simp [txV, h] at hu
  rcases hu with rfl | rfl | rfl <;> rfl

theorem OfS.shapes {w A : World} {vo vf : Value} {L : TxL} {F : List Nat} (h : OfS w vo vf L F A) (hl : L.length = F.length) : ∃ a c a2 c2, vo = .slice a F.length c ∧ vf = .slice a2 F.length c2 := by
  obtain ⟨a, len, c, h1, h2, -⟩ := rds_of_own (V := txV) txV_length h.out
  have h3 := h.frm.2
  subst h2
  rw [hl] at h1
  rcases h3 with ⟨h3, h0⟩ | ⟨g, cap, _, hv, _⟩
  · exact ⟨a, c, none, 0, h1, by rw [h3, h0]⟩
  · exact ⟨a, c, _, _, h1, hv⟩
theorem OfS.shapes_at {w A : World} {a a2 : Option Addr} {n c m c2 : Nat} {L : TxL} {F : List Nat} (h : OfS w (.slice a n c) (.slice a2 m c2) L F A) (hl : L.length = F.length) (h0 : 0 < F.length) : ∃ g gf, a = some ⟨g, 0, none⟩ ∧ a2 = some ⟨gf, 0, none⟩ := by
  obtain ⟨g, cap, e1⟩ := h.out_shape (by omega)
  obtain ⟨gf, cap2, e2⟩ := h.frm_shape h0
  simp only [Value.slice.injEq] at e1 e2
  exact ⟨g, gf, e1.1, e2.1⟩
theorem OfInv.state {es : List GEvent} {i k f : Nat} {L : List GTxn} {F : List Nat} {t : GTxn} {s : Int} (h : OfInv es i L F) (ht : L[k]? = some t) (hf : F[k]? = some f) (hs : 0 ≤ s ∧ s ≤ 2) : OfInv es i (L.set k ⟨t.client, s, t.ops⟩) F := by
  obtain ⟨-, h2, h3, e, h4, h5, h6, h7⟩ := h.txn k t f ht hf
  exact h.set (e := e) hf hs h2 h3 h4 h5 h6 h7
theorem one_vi (n : Int) : ∀ u ∈ [vi n], u.oneCell' = true := by intro u hu; simp at hu; subst hu; rfl

/-- The box of the event stays. -/
theorem OfS.box {w A : World} {vf : Value} {L : TxL} {F : List Nat} {g n cap : Nat} (h : OfS w (.slice (some ⟨g, 0, none⟩) n cap) vf L F A) (hn : n = L.length) {bx : Nat} {cs : Array Value} (hb : A.heap[bx]? = some (.cells cs 88)) (j : Nat) (u : Value) : (A.setCell ⟨g, j, none⟩ u).heap[bx]? = some (.cells cs 88) := by
  subst hn
  exact own_box h.out hb (by decide) (World.ownsRow.stored h.out j u).2
end Go.Proofs.Ytafboehdihokhaa
