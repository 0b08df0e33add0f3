/- Texts of one proof, one behind the other: Rn21C, Rn21E, Rn21F. -/
import Derived.Test.YtdkkpkgfiodlbaaJb20
set_option linter.all false
/- Layer 21's reference: Apply, what it keeps; a stamp. -/
namespace Go.Proofs.Ytdkkpkgfiodlbaa
open Go.RowKit Go.Maps
attribute [local go_sem] Oper.semAt_some

/-- What Apply hands back stays readable while a block made between A and the call turns. -/
def ApR (A w : World) (q : ShM × Ans) (e : Ending) (w' : World) : Prop :=
  ∃ (y : RSh) (vv : Value), e = .returned (.tuple #[shV y, ansV q.2 vv]) ∧ y.m = q.1 ∧ Below w.heap.size w w' ∧ ∀ W' : World, CLe A W' → (∀ j, w.heap.size ≤ j → W'.heap[j]? = w'.heap[j]?) → RdSh W' y ∧ RdV W' vv q.2.vals
/-- Apply's four boxes. -/
structure ApB (w : World) (x : RSh) (c : Cmd21) (wv rv : Value) (W : World) : Prop where
  st : W.heap[w.heap.size]? = some (.cells (shC x) 54)
  cmd : W.heap[w.heap.size + 1]? = some (.cells (cmdC c wv rv) 63)
  rs : W.heap[w.heap.size + 2]? = some (.cells #[.bool false, vi 0, .slice none 0 0, .slice none 0 0, .slice none 0 0, vi 0, vi 0, .slice none 0 0] 54)
  ra : W.heap[w.heap.size + 3]? = some (.cells #[vi 0, .slice none 0 0, vi 0, vi 0, vi 0, vi 0, .bool false, vi 0] 58)
  below : Below w.heap.size w W
theorem ApB.later {w : World} {x : RSh} {c : Cmd21} {wv rv : Value} {A B : World} (h : ApB w x c wv rv A) (hb : Below A.heap.size A B) : ApB w x c wv rv B :=
  ⟨(hb.block _ (Array.getElem?_eq_some_iff.1 h.st).1).trans h.st, (hb.block _ (Array.getElem?_eq_some_iff.1 h.cmd).1).trans h.cmd, (hb.block _ (Array.getElem?_eq_some_iff.1 h.rs).1).trans h.rs, (hb.block _ (Array.getElem?_eq_some_iff.1 h.ra).1).trans h.ra, h.below.trans (hb.mono h.below.size)⟩
theorem ApB.start (w : World) (x : RSh) (c : Cmd21) (wv rv : Value) :
    ApB w x c wv rv ((((w.alloc (.cells (shC x) 54)).alloc (.cells (cmdC c wv rv) 63)).alloc (.cells #[.bool false, vi 0, .slice none 0 0, .slice none 0 0, .slice none 0 0, vi 0, vi 0, .slice none 0 0] 54)).alloc (.cells #[vi 0, .slice none 0 0, vi 0, vi 0, vi 0, vi 0, .bool false, vi 0] 58)) := by
  have al : ∀ (v : World) (o : Obj) (j : Nat), j < v.heap.size → (v.alloc o).heap[j]? = v.heap[j]? := fun v o j hj => by rw [heap_al, if_neg (by omega)]
  refine ⟨?_, ?_, ?_, ?_, (((((Below.refl _ _).alloc (Nat.le_refl _) _).alloc (by simp) _).alloc (by simp <;> omega) _).alloc (by simp <;> omega) _)⟩
  · rw [al _ _ _ (by simp; omega), al _ _ _ (by simp; omega), al _ _ _ (by simp)]; exact alloc_at w _
  · rw [al _ _ _ (by simp), al _ _ _ (by simp)]; exact heap_top (by simp)
  · rw [al _ _ _ (by simp)]; exact heap_top (by simp)
  · exact heap_top (by simp)
theorem two_st {W : World} {b N : Nat} {z0 z1 z2 z3 z4 z5 z6 z7 y0 y1 y2 y3 y4 y5 y6 y7 : Value} {S T : TypeId} (s0 s1 s2 s3 s4 s5 s6 s7 a0 a1 a2 a3 a4 a5 a6 a7 : Value) (hs : W.heap[b]? = some (.cells #[z0, z1, z2, z3, z4, z5, z6, z7] S)) (ha : W.heap[b + 1]? = some (.cells #[y0, y1, y2, y3, y4, y5, y6, y7] T)) (hN : N ≤ b) :
    ((((((((((((((((W.setCell ⟨b, 0, none⟩ s0).setCell ⟨b, 1, none⟩ s1).setCell ⟨b, 2, none⟩ s2).setCell ⟨b, 3, none⟩ s3).setCell ⟨b, 4, none⟩ s4).setCell ⟨b, 5, none⟩ s5).setCell ⟨b, 6, none⟩ s6).setCell ⟨b, 7, none⟩ s7).setCell ⟨(b + 1), 0, none⟩ a0).setCell ⟨(b + 1), 1, none⟩ a1).setCell ⟨(b + 1), 2, none⟩ a2).setCell ⟨(b + 1), 3, none⟩ a3).setCell ⟨(b + 1), 4, none⟩ a4).setCell ⟨(b + 1), 5, none⟩ a5).setCell ⟨(b + 1), 6, none⟩ a6).setCell ⟨(b + 1), 7, none⟩ a7).heap[b]? = some (.cells #[s0, s1, s2, s3, s4, s5, s6, s7] S) ∧
    ((((((((((((((((W.setCell ⟨b, 0, none⟩ s0).setCell ⟨b, 1, none⟩ s1).setCell ⟨b, 2, none⟩ s2).setCell ⟨b, 3, none⟩ s3).setCell ⟨b, 4, none⟩ s4).setCell ⟨b, 5, none⟩ s5).setCell ⟨b, 6, none⟩ s6).setCell ⟨b, 7, none⟩ s7).setCell ⟨(b + 1), 0, none⟩ a0).setCell ⟨(b + 1), 1, none⟩ a1).setCell ⟨(b + 1), 2, none⟩ a2).setCell ⟨(b + 1), 3, none⟩ a3).setCell ⟨(b + 1), 4, none⟩ a4).setCell ⟨(b + 1), 5, none⟩ a5).setCell ⟨(b + 1), 6, none⟩ a6).setCell ⟨(b + 1), 7, none⟩ a7).heap[b + 1]? = some (.cells #[a0, a1, a2, a3, a4, a5, a6, a7] T) ∧
    (∀ j, j ≠ b → j ≠ b + 1 → ((((((((((((((((W.setCell ⟨b, 0, none⟩ s0).setCell ⟨b, 1, none⟩ s1).setCell ⟨b, 2, none⟩ s2).setCell ⟨b, 3, none⟩ s3).setCell ⟨b, 4, none⟩ s4).setCell ⟨b, 5, none⟩ s5).setCell ⟨b, 6, none⟩ s6).setCell ⟨b, 7, none⟩ s7).setCell ⟨(b + 1), 0, none⟩ a0).setCell ⟨(b + 1), 1, none⟩ a1).setCell ⟨(b + 1), 2, none⟩ a2).setCell ⟨(b + 1), 3, none⟩ a3).setCell ⟨(b + 1), 4, none⟩ a4).setCell ⟨(b + 1), 5, none⟩ a5).setCell ⟨(b + 1), 6, none⟩ a6).setCell ⟨(b + 1), 7, none⟩ a7).heap[j]? = W.heap[j]?) ∧
    Below N W ((((((((((((((((W.setCell ⟨b, 0, none⟩ s0).setCell ⟨b, 1, none⟩ s1).setCell ⟨b, 2, none⟩ s2).setCell ⟨b, 3, none⟩ s3).setCell ⟨b, 4, none⟩ s4).setCell ⟨b, 5, none⟩ s5).setCell ⟨b, 6, none⟩ s6).setCell ⟨b, 7, none⟩ s7).setCell ⟨(b + 1), 0, none⟩ a0).setCell ⟨(b + 1), 1, none⟩ a1).setCell ⟨(b + 1), 2, none⟩ a2).setCell ⟨(b + 1), 3, none⟩ a3).setCell ⟨(b + 1), 4, none⟩ a4).setCell ⟨(b + 1), 5, none⟩ a5).setCell ⟨(b + 1), 6, none⟩ a6).setCell ⟨(b + 1), 7, none⟩ a7) :=
  ⟨(rn_oth8 (by omega)).trans (rn_set8 s0 s1 s2 s3 s4 s5 s6 s7 hs), rn_set8 a0 a1 a2 a3 a4 a5 a6 a7 ((rn_oth8 (by omega)).trans ha), fun _ h1 h2 => (rn_oth8 h2).trans (rn_oth8 h1), (rn_below8 _ _ _ _ _ _ _ _ hN).trans (rn_below8 _ _ _ _ _ _ _ _ (by omega))⟩
theorem drew_two {W Wc : World} {b N : Nat} {o1 o2 : Obj} (h : Wc.heap[b]? = some o1 ∧ Wc.heap[b + 1]? = some o2 ∧ (∀ j, j ≠ b → j ≠ b + 1 → Wc.heap[j]? = W.heap[j]?) ∧ Below N W Wc) :
    Wc.drew.heap[b]? = some o1 ∧ Wc.drew.heap[b + 1]? = some o2 ∧ (∀ j, j ≠ b → j ≠ b + 1 → Wc.drew.heap[j]? = W.heap[j]?) ∧ Below N W Wc.drew := ⟨h.1, h.2.1, h.2.2.1, h.2.2.2.drew⟩
theorem two_std {W : World} {b N : Nat} {z0 z1 z2 z3 z4 z5 z6 z7 y0 y1 y2 y3 y4 y5 y6 y7 : Value} {S T : TypeId} (s0 s1 s2 s3 s4 s5 s6 s7 a0 a1 a2 a3 a4 a5 a6 a7 : Value) (hs : W.heap[b]? = some (.cells #[z0, z1, z2, z3, z4, z5, z6, z7] S)) (ha : W.heap[b + 1]? = some (.cells #[y0, y1, y2, y3, y4, y5, y6, y7] T)) (hN : N ≤ b) :
    ((((((((((((((((W.setCell ⟨b, 0, none⟩ s0).setCell ⟨b, 1, none⟩ s1).setCell ⟨b, 2, none⟩ s2).setCell ⟨b, 3, none⟩ s3).setCell ⟨b, 4, none⟩ s4).setCell ⟨b, 5, none⟩ s5).setCell ⟨b, 6, none⟩ s6).setCell ⟨b, 7, none⟩ s7).setCell ⟨(b + 1), 0, none⟩ a0).setCell ⟨(b + 1), 1, none⟩ a1).setCell ⟨(b + 1), 2, none⟩ a2).setCell ⟨(b + 1), 3, none⟩ a3).setCell ⟨(b + 1), 4, none⟩ a4).setCell ⟨(b + 1), 5, none⟩ a5).setCell ⟨(b + 1), 6, none⟩ a6).setCell ⟨(b + 1), 7, none⟩ a7).drew.heap[b]? = some (.cells #[s0, s1, s2, s3, s4, s5, s6, s7] S) ∧
    ((((((((((((((((W.setCell ⟨b, 0, none⟩ s0).setCell ⟨b, 1, none⟩ s1).setCell ⟨b, 2, none⟩ s2).setCell ⟨b, 3, none⟩ s3).setCell ⟨b, 4, none⟩ s4).setCell ⟨b, 5, none⟩ s5).setCell ⟨b, 6, none⟩ s6).setCell ⟨b, 7, none⟩ s7).setCell ⟨(b + 1), 0, none⟩ a0).setCell ⟨(b + 1), 1, none⟩ a1).setCell ⟨(b + 1), 2, none⟩ a2).setCell ⟨(b + 1), 3, none⟩ a3).setCell ⟨(b + 1), 4, none⟩ a4).setCell ⟨(b + 1), 5, none⟩ a5).setCell ⟨(b + 1), 6, none⟩ a6).setCell ⟨(b + 1), 7, none⟩ a7).drew.heap[b + 1]? = some (.cells #[a0, a1, a2, a3, a4, a5, a6, a7] T) ∧
    (∀ j, j ≠ b → j ≠ b + 1 → ((((((((((((((((W.setCell ⟨b, 0, none⟩ s0).setCell ⟨b, 1, none⟩ s1).setCell ⟨b, 2, none⟩ s2).setCell ⟨b, 3, none⟩ s3).setCell ⟨b, 4, none⟩ s4).setCell ⟨b, 5, none⟩ s5).setCell ⟨b, 6, none⟩ s6).setCell ⟨b, 7, none⟩ s7).setCell ⟨(b + 1), 0, none⟩ a0).setCell ⟨(b + 1), 1, none⟩ a1).setCell ⟨(b + 1), 2, none⟩ a2).setCell ⟨(b + 1), 3, none⟩ a3).setCell ⟨(b + 1), 4, none⟩ a4).setCell ⟨(b + 1), 5, none⟩ a5).setCell ⟨(b + 1), 6, none⟩ a6).setCell ⟨(b + 1), 7, none⟩ a7).drew.heap[j]? = W.heap[j]?) ∧
    Below N W ((((((((((((((((W.setCell ⟨b, 0, none⟩ s0).setCell ⟨b, 1, none⟩ s1).setCell ⟨b, 2, none⟩ s2).setCell ⟨b, 3, none⟩ s3).setCell ⟨b, 4, none⟩ s4).setCell ⟨b, 5, none⟩ s5).setCell ⟨b, 6, none⟩ s6).setCell ⟨b, 7, none⟩ s7).setCell ⟨(b + 1), 0, none⟩ a0).setCell ⟨(b + 1), 1, none⟩ a1).setCell ⟨(b + 1), 2, none⟩ a2).setCell ⟨(b + 1), 3, none⟩ a3).setCell ⟨(b + 1), 4, none⟩ a4).setCell ⟨(b + 1), 5, none⟩ a5).setCell ⟨(b + 1), 6, none⟩ a6).setCell ⟨(b + 1), 7, none⟩ a7).drew :=
  drew_two (two_st s0 s1 s2 s3 s4 s5 s6 s7 a0 a1 a2 a3 a4 a5 a6 a7 hs ha hN)
theorem two_ts {W : World} {b N : Nat} {z0 z1 z2 z3 z4 z5 z6 z7 y0 y1 y2 y3 y4 y5 y6 y7 : Value} {S T : TypeId} (s0 s1 s2 s3 s4 s5 s6 s7 a0 a1 a2 a3 a4 a5 a6 a7 : Value) (hs : W.heap[b]? = some (.cells #[z0, z1, z2, z3, z4, z5, z6, z7] S)) (ha : W.heap[b + 1]? = some (.cells #[y0, y1, y2, y3, y4, y5, y6, y7] T)) (hN : N ≤ b) :
    ((((((((((((((((W.setCell ⟨(b + 1), 0, none⟩ a0).setCell ⟨(b + 1), 1, none⟩ a1).setCell ⟨(b + 1), 2, none⟩ a2).setCell ⟨(b + 1), 3, none⟩ a3).setCell ⟨(b + 1), 4, none⟩ a4).setCell ⟨(b + 1), 5, none⟩ a5).setCell ⟨(b + 1), 6, none⟩ a6).setCell ⟨(b + 1), 7, none⟩ a7).setCell ⟨b, 0, none⟩ s0).setCell ⟨b, 1, none⟩ s1).setCell ⟨b, 2, none⟩ s2).setCell ⟨b, 3, none⟩ s3).setCell ⟨b, 4, none⟩ s4).setCell ⟨b, 5, none⟩ s5).setCell ⟨b, 6, none⟩ s6).setCell ⟨b, 7, none⟩ s7).heap[b]? = some (.cells #[s0, s1, s2, s3, s4, s5, s6, s7] S) ∧
    ((((((((((((((((W.setCell ⟨(b + 1), 0, none⟩ a0).setCell ⟨(b + 1), 1, none⟩ a1).setCell ⟨(b + 1), 2, none⟩ a2).setCell ⟨(b + 1), 3, none⟩ a3).setCell ⟨(b + 1), 4, none⟩ a4).setCell ⟨(b + 1), 5, none⟩ a5).setCell ⟨(b + 1), 6, none⟩ a6).setCell ⟨(b + 1), 7, none⟩ a7).setCell ⟨b, 0, none⟩ s0).setCell ⟨b, 1, none⟩ s1).setCell ⟨b, 2, none⟩ s2).setCell ⟨b, 3, none⟩ s3).setCell ⟨b, 4, none⟩ s4).setCell ⟨b, 5, none⟩ s5).setCell ⟨b, 6, none⟩ s6).setCell ⟨b, 7, none⟩ s7).heap[b + 1]? = some (.cells #[a0, a1, a2, a3, a4, a5, a6, a7] T) ∧
    (∀ j, j ≠ b → j ≠ b + 1 → ((((((((((((((((W.setCell ⟨(b + 1), 0, none⟩ a0).setCell ⟨(b + 1), 1, none⟩ a1).setCell ⟨(b + 1), 2, none⟩ a2).setCell ⟨(b + 1), 3, none⟩ a3).setCell ⟨(b + 1), 4, none⟩ a4).setCell ⟨(b + 1), 5, none⟩ a5).setCell ⟨(b + 1), 6, none⟩ a6).setCell ⟨(b + 1), 7, none⟩ a7).setCell ⟨b, 0, none⟩ s0).setCell ⟨b, 1, none⟩ s1).setCell ⟨b, 2, none⟩ s2).setCell ⟨b, 3, none⟩ s3).setCell ⟨b, 4, none⟩ s4).setCell ⟨b, 5, none⟩ s5).setCell ⟨b, 6, none⟩ s6).setCell ⟨b, 7, none⟩ s7).heap[j]? = W.heap[j]?) ∧
    Below N W ((((((((((((((((W.setCell ⟨(b + 1), 0, none⟩ a0).setCell ⟨(b + 1), 1, none⟩ a1).setCell ⟨(b + 1), 2, none⟩ a2).setCell ⟨(b + 1), 3, none⟩ a3).setCell ⟨(b + 1), 4, none⟩ a4).setCell ⟨(b + 1), 5, none⟩ a5).setCell ⟨(b + 1), 6, none⟩ a6).setCell ⟨(b + 1), 7, none⟩ a7).setCell ⟨b, 0, none⟩ s0).setCell ⟨b, 1, none⟩ s1).setCell ⟨b, 2, none⟩ s2).setCell ⟨b, 3, none⟩ s3).setCell ⟨b, 4, none⟩ s4).setCell ⟨b, 5, none⟩ s5).setCell ⟨b, 6, none⟩ s6).setCell ⟨b, 7, none⟩ s7) :=
  ⟨rn_set8 s0 s1 s2 s3 s4 s5 s6 s7 ((rn_oth8 (by omega)).trans hs), (rn_oth8 (by omega)).trans (rn_set8 a0 a1 a2 a3 a4 a5 a6 a7 ha), fun _ h1 h2 => (rn_oth8 h1).trans (rn_oth8 h2), (rn_below8 _ _ _ _ _ _ _ _ (by omega)).trans (rn_below8 _ _ _ _ _ _ _ _ hN)⟩
end Go.Proofs.Ytdkkpkgfiodlbaa

/- Layer 21's reference: Apply, the end of a transaction. Printed by wip/gen/gen_ap21e.py. -/
namespace Go.Proofs.Ytdkkpkgfiodlbaa
open Go.RowKit Go.Maps
attribute [local go_sem] Oper.semAt_some

theorem rst_shapes {W : World} {y : RSV} (h : RdSt W y) : ∃ a1 c1 a2 c2 a3 c3, y = ⟨.slice a1 y.s.vs.length c1, .slice a2 y.s.ws.length c2, .slice a3 y.s.es.length c3, y.s⟩ := by
  obtain ⟨vv, wv, ev, s⟩ := y
  obtain ⟨a1, n1, c1, h1, rfl, -, -⟩ := (show RdVer3 W vv s.vs from h.vs).at
  obtain ⟨a2, n2, c2, h2, rfl, -, -⟩ := (show RdRdy W wv s.ws from h.ws).at
  obtain ⟨a3, n3, c3, h3, rfl, -, -⟩ := (show RdEn W ev s.es from h.es).at
  subst h1 h2 h3
  exact ⟨a1, c1, a2, c2, a3, c3, rfl⟩
theorem st_of {A : World} {x : RSh} {a1 a2 a3 a4 : Option Addr} {c1 c2 c3 c4 : Nat} (h : RdSh A x) (hxe : x = ⟨.slice a1 x.m.s.vs.length c1, .slice a2 x.m.s.ws.length c2, .slice a3 x.m.s.es.length c3, .slice a4 x.m.ds.length c4, x.m⟩) :
    RdSt A ⟨.slice a1 x.m.s.vs.length c1, .slice a2 x.m.s.ws.length c2, .slice a3 x.m.s.es.length c3, x.m.s⟩ := by
  have := h.st
  unfold RSh.st at this
  rw [hxe] at this; exact this
theorem ap_ret2 {A w w4 wf wz : World} {x : RSh} {y : RSV} {q : ShM × Ans} (hx : RdSh A x) (hA : ALe A w) (hb : Below w.heap.size w w4) (h4 : w.heap.size + 4 ≤ w4.heap.size) (hf : Below w4.heap.size w4 wf)
    (hk : ∀ W' : World, CLe A W' → (∀ j, w4.heap.size ≤ j → W'.heap[j]? = wf.heap[j]?) → RdSt W' y) (hz : ∀ j, (j < w.heap.size ∨ w4.heap.size ≤ j) → j < wf.heap.size → wz.heap[j]? = wf.heap[j]?) (hbz : Below w.heap.size wf wz)
    (hm : (⟨y.s, x.m.stamps, x.m.now, x.m.ds⟩ : ShM) = q.1) (h0 : q.2.vals = []) :
    ApR A w q (.returned (.tuple #[shV ⟨y.vv, y.wv, y.ev, x.dv, ⟨y.s, x.m.stamps, x.m.now, x.m.ds⟩⟩, ansV q.2 (.slice none 0 0)])) wz := by
  have hbb : Below w.heap.size w wz := (hb.trans (hf.mono hb.size)).trans hbz
  have hAs := hA.size
  refine ⟨_, _, rfl, hm, hbb, fun W' hs hW => ⟨⟨?_, ?_⟩, by rw [h0]; exact rdv_nil _⟩⟩
  · have hk' := hk { W' with heap := W'.heap.extract 0 wf.heap.size } (fun b o v hv => ?_) (fun j hj => ?_)
    · refine RdSt.same hk' fun j hj => ?_
      simp only [Array.size_extract, Array.getElem?_extract] at hj ⊢
      rw [if_pos (by omega), Nat.zero_add]
    · have h1 : b < A.heap.size := World.block_lt_of_cell? A _ hv
      have h2 := hs b o v hv
      refine (World.cell?_of_block (a := ⟨b, o, none⟩) ?_).trans h2
      have h3 : b < W'.heap.size := World.block_lt_of_cell? W' _ h2
      have h9 := hf.size
      simp only [Array.getElem?_extract]
      rw [if_pos (by omega), Nat.zero_add]
    · simp only [Array.getElem?_extract]
      by_cases hjw : j < wf.heap.size
      · have e1 : W'.heap[j]? = wf.heap[j]? := (hW j (by have := hb.size; omega)).trans (hz j (by omega) hjw)
        have hj2 : j < W'.heap.size := by
          rw [Array.getElem?_eq_getElem hjw] at e1
          exact (Array.getElem?_eq_some_iff.1 e1).1
        rw [if_pos (by omega), Nat.zero_add]; exact e1
      · rw [if_neg (by omega), Array.getElem?_eq_none (by omega)]
  · exact RdS.le hx.ds hs fun _ _ h => h
theorem rn_set58 {W : World} {b : Nat} {c0 c1 c2 c3 c4 c5 c6 c7 : Value} {T : TypeId} (v0 v1 v2 v3 v4 : Value) (h : W.heap[b]? = some (.cells #[c0, c1, c2, c3, c4, c5, c6, c7] T)) :
    (((((W.setCell ⟨b, 0, none⟩ v0).setCell ⟨b, 1, none⟩ v1).setCell ⟨b, 2, none⟩ v2).setCell ⟨b, 3, none⟩ v3).setCell ⟨b, 4, none⟩ v4).heap[b]? = some (.cells #[v0, v1, v2, v3, v4, c5, c6, c7] T) := by
  have h0 := h
  have h1 : (W.setCell ⟨b, 0, none⟩ v0).heap[b]? = some (.cells #[v0, c1, c2, c3, c4, c5, c6, c7] T) := by rw [rn_set v0 h0]; rfl
  have h2 : ((W.setCell ⟨b, 0, none⟩ v0).setCell ⟨b, 1, none⟩ v1).heap[b]? = some (.cells #[v0, v1, c2, c3, c4, c5, c6, c7] T) := by rw [rn_set v1 h1]; rfl
  have h3 : (((W.setCell ⟨b, 0, none⟩ v0).setCell ⟨b, 1, none⟩ v1).setCell ⟨b, 2, none⟩ v2).heap[b]? = some (.cells #[v0, v1, v2, c3, c4, c5, c6, c7] T) := by rw [rn_set v2 h2]; rfl
  have h4 : ((((W.setCell ⟨b, 0, none⟩ v0).setCell ⟨b, 1, none⟩ v1).setCell ⟨b, 2, none⟩ v2).setCell ⟨b, 3, none⟩ v3).heap[b]? = some (.cells #[v0, v1, v2, v3, c4, c5, c6, c7] T) := by rw [rn_set v3 h3]; rfl
  have h5 : (((((W.setCell ⟨b, 0, none⟩ v0).setCell ⟨b, 1, none⟩ v1).setCell ⟨b, 2, none⟩ v2).setCell ⟨b, 3, none⟩ v3).setCell ⟨b, 4, none⟩ v4).heap[b]? = some (.cells #[v0, v1, v2, v3, v4, c5, c6, c7] T) := by rw [rn_set v4 h4]; rfl
  exact h5
theorem rn_oth5s {W : World} {b j : Nat} {v0 v1 v2 v3 v4 : Value} (hj : j ≠ b) : (((((W.setCell ⟨b, 0, none⟩ v0).setCell ⟨b, 1, none⟩ v1).setCell ⟨b, 2, none⟩ v2).setCell ⟨b, 3, none⟩ v3).setCell ⟨b, 4, none⟩ v4).heap[j]? = W.heap[j]? := by
  rw [Below.heap_setCell _ _ _ _ hj, Below.heap_setCell _ _ _ _ hj, Below.heap_setCell _ _ _ _ hj, Below.heap_setCell _ _ _ _ hj, Below.heap_setCell _ _ _ _ hj]
set_option maxRecDepth 1000000 in
set_option maxHeartbeats 16000000 in
theorem apply5_call (A : World) (x : RSh) (r : Rdy) (en : EndM) (wv rv : Value) (w : World) (hxA : RdSh A x) (hA : ALe A w) (hl : x.m.s.vs.length ≤ 1000000 ∧ x.m.s.ws.length ≤ 1000 ∧ x.m.s.es.length ≤ 1000000) (hws : ∀ q ∈ x.m.s.ws, q.writes.length ≤ 1000) :
    Calls Try.prog 16 #[shV x, cmdV ⟨5, r, en⟩ wv rv] w (ApR A w (fin21 x.m en)) := by
  obtain ⟨a1, c1, a2, c2, a3, c3, a4, c4, hxe, hmw, hmd⟩ := hxA.shapes
  have HXA := Lib.hid hxA
  have HHA := Lib.hid hA
  have HA := Lib.hid (ApB.start w x ⟨5, r, en⟩ wv rv)
  clear hxA hA
  have hsc : shC x = #[.bool x.m.s.serial, vi x.m.s.bugs, .slice a1 x.m.s.vs.length c1, .slice a2 x.m.s.ws.length c2, .slice a3 x.m.s.es.length c3, vi x.m.stamps, vi x.m.now, .slice a4 x.m.ds.length c4] := by rw [hxe]; rfl
  have HXE := Lib.hid hxe
  have HSC := Lib.hid hsc
  have HWS := Lib.hid hws
  clear hws
  unfold shV
  unfold cmdV
  rw [hsc] at HA ⊢
  clear hxe hsc
  unfold cmdC at HA ⊢
  go_enter Try.func16, Try.ntmps16
  go_upto_region 1 with fail
  generalize ((((w.alloc (.cells #[.bool x.m.s.serial, vi x.m.s.bugs, .slice a1 x.m.s.vs.length c1, .slice a2 x.m.s.ws.length c2, .slice a3 x.m.s.es.length c3, vi x.m.stamps, vi x.m.now, .slice a4 x.m.ds.length c4] 54)).alloc (.cells #[vi 5, vi r.txn, vi r.home, vi r.start, wv, rv, vi en.txn, .bool en.commit, vi en.at_] 63)).alloc (.cells #[.bool false, vi 0, .slice none 0 0, .slice none 0 0, .slice none 0 0, vi 0, vi 0, .slice none 0 0] 54)).alloc (.cells #[vi 0, .slice none 0 0, vi 0, vi 0, vi 0, vi 0, .bool false, vi 0] 58)) = w4 at *
  have HS0 := HA.out.st
  rw [HSC.out] at HS0
  have HC0 := HA.out.cmd
  unfold cmdC at HC0
  obtain ⟨X, hX⟩ : ∃ X, X = w.heap.size := ⟨_, rfl⟩
  have HRS := HA.out.rs
  have HRA := HA.out.ra
  rw [← hX] at HS0 HC0 HRS HRA ⊢
  have hS0 := Lib.hid HS0
  have hC0 := Lib.hid HC0
  have hRS := Lib.hid HRS
  have hRA := Lib.hid HRA
  have HXX := Lib.hid hX
  clear hX HS0 HC0 HRS HRA
  have x0 : w4.cell? ⟨X, 0, none⟩ = some (.bool x.m.s.serial) := (by rw [cell_of hS0.out]; rfl)
  have x1 : w4.cell? ⟨X, 1, none⟩ = some (vi x.m.s.bugs) := (by rw [cell_of hS0.out]; rfl)
  have x2 : w4.cell? ⟨X, 2, none⟩ = some (.slice a1 x.m.s.vs.length c1) := (by rw [cell_of hS0.out]; rfl)
  have x3 : w4.cell? ⟨X, 3, none⟩ = some (.slice a2 x.m.s.ws.length c2) := (by rw [cell_of hS0.out]; rfl)
  have x4 : w4.cell? ⟨X, 4, none⟩ = some (.slice a3 x.m.s.es.length c3) := (by rw [cell_of hS0.out]; rfl)
  have x5 : w4.cell? ⟨X, 5, none⟩ = some (vi x.m.stamps) := (by rw [cell_of hS0.out]; rfl)
  have x6 : w4.cell? ⟨X, 6, none⟩ = some (vi x.m.now) := (by rw [cell_of hS0.out]; rfl)
  have x7 : w4.cell? ⟨X, 7, none⟩ = some (.slice a4 x.m.ds.length c4) := (by rw [cell_of hS0.out]; rfl)
  have m0 : w4.cell? ⟨X + 1, 0, none⟩ = some (vi 5) := (by rw [cell_of hC0.out]; rfl)
  have m6 : w4.cell? ⟨X + 1, 6, none⟩ = some (vi en.txn) := (by rw [cell_of hC0.out]; rfl)
  have m7 : w4.cell? ⟨X + 1, 7, none⟩ = some (.bool en.commit) := (by rw [cell_of hC0.out]; rfl)
  have m8 : w4.cell? ⟨X + 1, 8, none⟩ = some (vi en.at_) := (by rw [cell_of hC0.out]; rfl)
  have HST := Lib.hid (st_of HXA.out HXE.out)
  have HBA := Lib.hid (HHA.out.trans (HA.out.below.mono HHA.out.size))
  have h4s : w.heap.size + 4 ≤ w4.heap.size := by have := (Array.getElem?_eq_some_iff.1 HA.out.ra).1; omega
  have H4S := Lib.hid h4s
  have HBW := Lib.hid HA.out.below
  clear h4s hRS hRA
  go_upto_region 37 with fail
  have c7 : Calls Try.prog 40 #[.agg #[.bool x.m.s.serial, vi x.m.s.bugs, .slice a1 x.m.s.vs.length c1, .slice a2 x.m.s.ws.length c2, .slice a3 x.m.s.es.length c3], .agg #[vi en.txn, .bool en.commit, vi en.at_]] w4 (fun e w7 => ∃ (ys : RSt) (d1 d2 d3 : Option Addr) (g1 g2 g3 : Nat), e = .returned (.agg #[.bool ys.serial, vi ys.bugs, .slice d1 ys.vs.length g1, .slice d2 ys.ws.length g2, .slice d3 ys.es.length g3]) ∧ Hid (ys = rnFinish x.m.s en) ∧ Hid (Below w4.heap.size w4 w7) ∧ Hid (∀ W' : World, CLe A W' → (∀ j, w4.heap.size ≤ j → W'.heap[j]? = w7.heap[j]?) → RdSt W' ⟨.slice d1 ys.vs.length g1, .slice d2 ys.ws.length g2, .slice d3 ys.es.length g3, ys⟩)) := by
    refine (rnFinish_call3 A ⟨.slice a1 x.m.s.vs.length c1, .slice a2 x.m.s.ws.length c2, .slice a3 x.m.s.es.length c3, x.m.s⟩ en w4 HST.out HBA.out.le hl.1 hl.2.1 hl.2.2 HWS.out).mono ?_
    rintro e7 w7 ⟨⟨yv, yw, ye, ys⟩, rfl, hs7, hr7, hb7, hk7⟩
    obtain ⟨d1, g1, d2, g2, d3, g3, hy⟩ := rst_shapes hr7
    simp only [RSV.mk.injEq, and_true] at hy
    obtain ⟨rfl, rfl, rfl⟩ := hy
    exact ⟨ys, d1, d2, d3, g1, g2, g3, rfl, Lib.hid hs7, Lib.hid hb7, Lib.hid hk7⟩
  have HC7 := Lib.hid c7
  clear c7
  go_upto_region 38 with (go_at_call 40; refine HC7.out.mono ?_; rintro e7 w7 ⟨ys, d1, d2, d3, g1, g2, g3, rfl, HS7, HB7, HK7⟩; have hq7 := (HA.out.later HB7.out).st; rw [HSC.out, ← HXX.out] at hq7; have HQ7 := Lib.hid hq7; clear hq7; have y0 : w7.cell? ⟨X, 0, none⟩ = some (.bool x.m.s.serial) := (by rw [cell_of HQ7.out]; rfl); have y1 : w7.cell? ⟨X, 1, none⟩ = some (vi x.m.s.bugs) := (by rw [cell_of HQ7.out]; rfl); have y2 : w7.cell? ⟨X, 2, none⟩ = some (.slice a1 x.m.s.vs.length c1) := (by rw [cell_of HQ7.out]; rfl); have y3 : w7.cell? ⟨X, 3, none⟩ = some (.slice a2 x.m.s.ws.length c2) := (by rw [cell_of HQ7.out]; rfl); have y4 : w7.cell? ⟨X, 4, none⟩ = some (.slice a3 x.m.s.es.length c3) := (by rw [cell_of HQ7.out]; rfl); have y5 : w7.cell? ⟨X, 5, none⟩ = some (vi x.m.stamps) := (by rw [cell_of HQ7.out]; rfl); have y6 : w7.cell? ⟨X, 6, none⟩ = some (vi x.m.now) := (by rw [cell_of HQ7.out]; rfl); have y7 : w7.cell? ⟨X, 7, none⟩ = some (.slice a4 x.m.ds.length c4) := (by rw [cell_of HQ7.out]; rfl); have xf : ∀ j, w7.frozen? ⟨X, j, none⟩ = false := fun j => free_of HQ7.out j)
  have hA7 := HA.out.later HB7.out
  have hr7' := hA7.rs
  have ha7' := hA7.ra
  rw [← HXX.out] at hr7' ha7'
  clear HA
  have hS8 := rn_set58 (.bool ys.serial) (vi ys.bugs) (.slice d1 ys.vs.length g1) (.slice d2 ys.ws.length g2) (.slice d3 ys.es.length g3) HQ7.out
  have HS8 := Lib.hid hS8
  have ho8 : ∀ j, j ≠ X → (((((w7.setCell ⟨X, 0, none⟩ (.bool ys.serial)).setCell ⟨X, 1, none⟩ (vi ys.bugs)).setCell ⟨X, 2, none⟩ (.slice d1 ys.vs.length g1)).setCell ⟨X, 3, none⟩ (.slice d2 ys.ws.length g2)).setCell ⟨X, 4, none⟩ (.slice d3 ys.es.length g3)).heap[j]? = w7.heap[j]? := fun j hj => rn_oth5s hj
  have HO8 := Lib.hid ho8
  have hb8 : Below w.heap.size w7 (((((w7.setCell ⟨X, 0, none⟩ (.bool ys.serial)).setCell ⟨X, 1, none⟩ (vi ys.bugs)).setCell ⟨X, 2, none⟩ (.slice d1 ys.vs.length g1)).setCell ⟨X, 3, none⟩ (.slice d2 ys.ws.length g2)).setCell ⟨X, 4, none⟩ (.slice d3 ys.es.length g3)) := rn_below5 (b := X) (.bool ys.serial) (vi ys.bugs) (.slice d1 ys.vs.length g1) (.slice d2 ys.ws.length g2) (.slice d3 ys.es.length g3) (by have := HXX.out; omega)
  have HB8 := Lib.hid hb8
  have hRS := Lib.hid ((ho8 (X + 1 + 1) (by omega)).trans hr7')
  have hRA := Lib.hid ((ho8 (X + 1 + 1 + 1) (by omega)).trans ha7')
  clear hS8 ho8 hb8 hr7' ha7' hA7 xf x0 x1 x2 x3 x4 x5 x6 x7 y0 y1 y2 y3 y4 y5 y6 y7 m0 m6 m7 m8
  generalize (((((w7.setCell ⟨X, 0, none⟩ (.bool ys.serial)).setCell ⟨X, 1, none⟩ (vi ys.bugs)).setCell ⟨X, 2, none⟩ (.slice d1 ys.vs.length g1)).setCell ⟨X, 3, none⟩ (.slice d2 ys.ws.length g2)).setCell ⟨X, 4, none⟩ (.slice d3 ys.es.length g3)) = w8 at *
  have x0 : w8.cell? ⟨X, 0, none⟩ = some (.bool ys.serial) := (by rw [cell_of HS8.out]; rfl)
  have x1 : w8.cell? ⟨X, 1, none⟩ = some (vi ys.bugs) := (by rw [cell_of HS8.out]; rfl)
  have x2 : w8.cell? ⟨X, 2, none⟩ = some (.slice d1 ys.vs.length g1) := (by rw [cell_of HS8.out]; rfl)
  have x3 : w8.cell? ⟨X, 3, none⟩ = some (.slice d2 ys.ws.length g2) := (by rw [cell_of HS8.out]; rfl)
  have x4 : w8.cell? ⟨X, 4, none⟩ = some (.slice d3 ys.es.length g3) := (by rw [cell_of HS8.out]; rfl)
  have x5 : w8.cell? ⟨X, 5, none⟩ = some (vi x.m.stamps) := (by rw [cell_of HS8.out]; rfl)
  have x6 : w8.cell? ⟨X, 6, none⟩ = some (vi x.m.now) := (by rw [cell_of HS8.out]; rfl)
  have x7 : w8.cell? ⟨X, 7, none⟩ = some (.slice a4 x.m.ds.length c4) := (by rw [cell_of HS8.out]; rfl)
  have HT := Lib.hid (two_st (W := w8) (b := X + 1 + 1) (N := w.heap.size) (.bool ys.serial) (vi ys.bugs) (.slice d1 ys.vs.length g1) (.slice d2 ys.ws.length g2) (.slice d3 ys.es.length g3) (vi x.m.stamps) (vi x.m.now) (.slice a4 x.m.ds.length c4) (vi 0) (.slice none 0 0) (vi 0) (vi 0) (vi 0) (vi 0) (.bool false) (vi 0) hRS.out hRA.out (by have := HXX.out; omega))
  have q0 : w8.cell? ⟨X + 1 + 1, 0, none⟩ = some (.bool false) := (by rw [cell_of hRS.out]; rfl)
  have q1 : w8.cell? ⟨X + 1 + 1, 1, none⟩ = some (vi 0) := (by rw [cell_of hRS.out]; rfl)
  have q2 : w8.cell? ⟨X + 1 + 1, 2, none⟩ = some (.slice none 0 0) := (by rw [cell_of hRS.out]; rfl)
  have q3 : w8.cell? ⟨X + 1 + 1, 3, none⟩ = some (.slice none 0 0) := (by rw [cell_of hRS.out]; rfl)
  have q4 : w8.cell? ⟨X + 1 + 1, 4, none⟩ = some (.slice none 0 0) := (by rw [cell_of hRS.out]; rfl)
  have q5 : w8.cell? ⟨X + 1 + 1, 5, none⟩ = some (vi 0) := (by rw [cell_of hRS.out]; rfl)
  have q6 : w8.cell? ⟨X + 1 + 1, 6, none⟩ = some (vi 0) := (by rw [cell_of hRS.out]; rfl)
  have q7 : w8.cell? ⟨X + 1 + 1, 7, none⟩ = some (.slice none 0 0) := (by rw [cell_of hRS.out]; rfl)
  have z0 : w8.cell? ⟨X + 1 + 1 + 1, 0, none⟩ = some (vi 0) := (by rw [cell_of hRA.out]; rfl)
  have z1 : w8.cell? ⟨X + 1 + 1 + 1, 1, none⟩ = some (.slice none 0 0) := (by rw [cell_of hRA.out]; rfl)
  have z2 : w8.cell? ⟨X + 1 + 1 + 1, 2, none⟩ = some (vi 0) := (by rw [cell_of hRA.out]; rfl)
  have z3 : w8.cell? ⟨X + 1 + 1 + 1, 3, none⟩ = some (vi 0) := (by rw [cell_of hRA.out]; rfl)
  have z4 : w8.cell? ⟨X + 1 + 1 + 1, 4, none⟩ = some (vi 0) := (by rw [cell_of hRA.out]; rfl)
  have z5 : w8.cell? ⟨X + 1 + 1 + 1, 5, none⟩ = some (vi 0) := (by rw [cell_of hRA.out]; rfl)
  have z6 : w8.cell? ⟨X + 1 + 1 + 1, 6, none⟩ = some (.bool false) := (by rw [cell_of hRA.out]; rfl)
  have z7 : w8.cell? ⟨X + 1 + 1 + 1, 7, none⟩ = some (vi 0) := (by rw [cell_of hRA.out]; rfl)
  have qf : ∀ j, w8.frozen? ⟨X + 1 + 1, j, none⟩ = false := fun j => free_of hRS.out j
  have zf : ∀ j, w8.frozen? ⟨X + 1 + 1 + 1, j, none⟩ = false := fun j => free_of hRA.out j
  go_wp2_with fail
  generalize ((((((((((((((((w8.setCell ⟨X + 1 + 1, 0, none⟩ (.bool ys.serial)).setCell ⟨X + 1 + 1, 1, none⟩ (vi ys.bugs)).setCell ⟨X + 1 + 1, 2, none⟩ (.slice d1 ys.vs.length g1)).setCell ⟨X + 1 + 1, 3, none⟩ (.slice d2 ys.ws.length g2)).setCell ⟨X + 1 + 1, 4, none⟩ (.slice d3 ys.es.length g3)).setCell ⟨X + 1 + 1, 5, none⟩ (vi x.m.stamps)).setCell ⟨X + 1 + 1, 6, none⟩ (vi x.m.now)).setCell ⟨X + 1 + 1, 7, none⟩ (.slice a4 x.m.ds.length c4)).setCell ⟨X + 1 + 1 + 1, 0, none⟩ (vi 0)).setCell ⟨X + 1 + 1 + 1, 1, none⟩ (.slice none 0 0)).setCell ⟨X + 1 + 1 + 1, 2, none⟩ (vi 0)).setCell ⟨X + 1 + 1 + 1, 3, none⟩ (vi 0)).setCell ⟨X + 1 + 1 + 1, 4, none⟩ (vi 0)).setCell ⟨X + 1 + 1 + 1, 5, none⟩ (vi 0)).setCell ⟨X + 1 + 1 + 1, 6, none⟩ (.bool false)).setCell ⟨X + 1 + 1 + 1, 7, none⟩ (vi 0)) = wz at *
  have r0 : wz.cell? ⟨X + 1 + 1, 0, none⟩ = some (.bool ys.serial) := (by rw [cell_of HT.out.1]; rfl)
  have r1 : wz.cell? ⟨X + 1 + 1, 1, none⟩ = some (vi ys.bugs) := (by rw [cell_of HT.out.1]; rfl)
  have r2 : wz.cell? ⟨X + 1 + 1, 2, none⟩ = some (.slice d1 ys.vs.length g1) := (by rw [cell_of HT.out.1]; rfl)
  have r3 : wz.cell? ⟨X + 1 + 1, 3, none⟩ = some (.slice d2 ys.ws.length g2) := (by rw [cell_of HT.out.1]; rfl)
  have r4 : wz.cell? ⟨X + 1 + 1, 4, none⟩ = some (.slice d3 ys.es.length g3) := (by rw [cell_of HT.out.1]; rfl)
  have r5 : wz.cell? ⟨X + 1 + 1, 5, none⟩ = some (vi x.m.stamps) := (by rw [cell_of HT.out.1]; rfl)
  have r6 : wz.cell? ⟨X + 1 + 1, 6, none⟩ = some (vi x.m.now) := (by rw [cell_of HT.out.1]; rfl)
  have r7 : wz.cell? ⟨X + 1 + 1, 7, none⟩ = some (.slice a4 x.m.ds.length c4) := (by rw [cell_of HT.out.1]; rfl)
  have s0 : wz.cell? ⟨X + 1 + 1 + 1, 0, none⟩ = some (vi 0) := (by rw [cell_of HT.out.2.1]; rfl)
  have s1 : wz.cell? ⟨X + 1 + 1 + 1, 1, none⟩ = some (.slice none 0 0) := (by rw [cell_of HT.out.2.1]; rfl)
  have s2 : wz.cell? ⟨X + 1 + 1 + 1, 2, none⟩ = some (vi 0) := (by rw [cell_of HT.out.2.1]; rfl)
  have s3 : wz.cell? ⟨X + 1 + 1 + 1, 3, none⟩ = some (vi 0) := (by rw [cell_of HT.out.2.1]; rfl)
  have s4 : wz.cell? ⟨X + 1 + 1 + 1, 4, none⟩ = some (vi 0) := (by rw [cell_of HT.out.2.1]; rfl)
  have s5 : wz.cell? ⟨X + 1 + 1 + 1, 5, none⟩ = some (vi 0) := (by rw [cell_of HT.out.2.1]; rfl)
  have s6 : wz.cell? ⟨X + 1 + 1 + 1, 6, none⟩ = some (.bool false) := (by rw [cell_of HT.out.2.1]; rfl)
  have s7 : wz.cell? ⟨X + 1 + 1 + 1, 7, none⟩ = some (vi 0) := (by rw [cell_of HT.out.2.1]; rfl)
  refine bodyPost_ret (v := .tuple #[.agg #[.bool ys.serial, vi ys.bugs, .slice d1 ys.vs.length g1, .slice d2 ys.ws.length g2, .slice d3 ys.es.length g3, vi x.m.stamps, vi x.m.now, .slice a4 x.m.ds.length c4], .agg #[vi 0, .slice none 0 0, vi 0, vi 0, vi 0, vi 0, .bool false, vi 0]]) (by simp [results, Try.results16, go_sem, r0, r1, r2, r3, r4, r5, r6, r7, s0, s1, s2, s3, s4, s5, s6, s7]) rfl ?_
  have hq : fin21 x.m en = (⟨ys, x.m.stamps, x.m.now, x.m.ds⟩, ⟨0, [], 0, 0, 0, zeroE'⟩) := by rw [HS7.out]; rfl
  rw [hq]
  have hX := HXX.out
  have h4 := H4S.out
  have := ap_ret2 (wf := w7) (y := ⟨.slice d1 ys.vs.length g1, .slice d2 ys.ws.length g2, .slice d3 ys.es.length g3, ys⟩) (q := (⟨ys, x.m.stamps, x.m.now, x.m.ds⟩, ⟨0, [], 0, 0, 0, zeroE'⟩)) HXA.out HHA.out HBW.out H4S.out HB7.out HK7.out (fun j h1 h2 => (HT.out.2.2.1 j (by omega) (by omega)).trans (HO8.out j (by omega))) (HB8.out.trans HT.out.2.2.2) rfl rfl
  have he : shV ⟨.slice d1 ys.vs.length g1, .slice d2 ys.ws.length g2, .slice d3 ys.es.length g3, x.dv, ⟨ys, x.m.stamps, x.m.now, x.m.ds⟩⟩ = .agg #[.bool ys.serial, vi ys.bugs, .slice d1 ys.vs.length g1, .slice d2 ys.ws.length g2, .slice d3 ys.es.length g3, vi x.m.stamps, vi x.m.now, .slice a4 x.m.ds.length c4] := by unfold shV shC; rw [HXE.out]
  rw [he] at this
  exact this
end Go.Proofs.Ytdkkpkgfiodlbaa

/- Layer 21's reference: Apply, Prepare. Printed by wip/gen/gen_ap21f.py. -/
namespace Go.Proofs.Ytdkkpkgfiodlbaa
open Go.RowKit Go.Maps
attribute [local go_sem] Oper.semAt_some

theorem heap2_al (w : World) (o1 o2 : Obj) : ((w.alloc o1).alloc o2).heap[w.heap.size]? = some o1 ∧ ((w.alloc o1).alloc o2).heap[w.heap.size + 1]? = some o2 ∧ Below w.heap.size w ((w.alloc o1).alloc o2) := by
  refine ⟨?_, heap_top (by simp), ((Below.refl _ _).alloc (Nat.le_refl _) _).alloc (by simp) _⟩
  rw [heap_al, if_neg (by simp)]; exact alloc_at w o1
set_option maxRecDepth 1000000 in
set_option maxHeartbeats 16000000 in
theorem apply3_call (A : World) (x : RSh) (r : Rdy) (en : EndM) (wv rv : Value) (w : World) (hxA : RdSh A x) (hA : ALe A w) (hr : RdyS w ⟨wv, rv, r⟩) (hbg : 0 ≤ x.m.s.bugs ∧ x.m.s.bugs ≤ 63) (hl : x.m.s.ws.length ≤ 1000 ∧ r.writes.length ≤ 1000 ∧ r.reads.length ≤ 1000) :
    Calls Try.prog 16 #[shV x, cmdV ⟨3, r, en⟩ wv rv] w (ApR A w (prep21 x.m r)) := by
  obtain ⟨a1, c1, a2, c2, a3, c3, a4, c4, hxe, hmw, hmd⟩ := hxA.shapes
  have HXA := Lib.hid hxA
  have HHA := Lib.hid hA
  have HA := Lib.hid (ApB.start w x ⟨3, r, en⟩ wv rv)
  clear hxA hA
  have hsc : shC x = #[.bool x.m.s.serial, vi x.m.s.bugs, .slice a1 x.m.s.vs.length c1, .slice a2 x.m.s.ws.length c2, .slice a3 x.m.s.es.length c3, vi x.m.stamps, vi x.m.now, .slice a4 x.m.ds.length c4] := by rw [hxe]; rfl
  have HXE := Lib.hid hxe
  have HSC := Lib.hid hsc
  have HR := Lib.hid hr
  clear hr
  obtain ⟨by_, hby⟩ : ∃ b, b = (rnPrepV x.m.s r).2.1 := ⟨_, rfl⟩
  obtain ⟨err, herr⟩ : ∃ b, b = (rnPrepV x.m.s r).2.2 := ⟨_, rfl⟩
  have HBY := Lib.hid hby
  have HER := Lib.hid herr
  clear hby herr
  unfold shV
  unfold cmdV
  rw [hsc] at HA ⊢
  clear hxe hsc
  unfold cmdC at HA ⊢
  go_enter Try.func16, Try.ntmps16
  go_upto_region 1 with fail
  generalize ((((w.alloc (.cells #[.bool x.m.s.serial, vi x.m.s.bugs, .slice a1 x.m.s.vs.length c1, .slice a2 x.m.s.ws.length c2, .slice a3 x.m.s.es.length c3, vi x.m.stamps, vi x.m.now, .slice a4 x.m.ds.length c4] 54)).alloc (.cells #[vi 3, vi r.txn, vi r.home, vi r.start, wv, rv, vi en.txn, .bool en.commit, vi en.at_] 63)).alloc (.cells #[.bool false, vi 0, .slice none 0 0, .slice none 0 0, .slice none 0 0, vi 0, vi 0, .slice none 0 0] 54)).alloc (.cells #[vi 0, .slice none 0 0, vi 0, vi 0, vi 0, vi 0, .bool false, vi 0] 58)) = w4 at *
  have HS0 := HA.out.st
  rw [HSC.out] at HS0
  have HC0 := HA.out.cmd
  unfold cmdC at HC0
  obtain ⟨X, hX⟩ : ∃ X, X = w.heap.size := ⟨_, rfl⟩
  have HRS := HA.out.rs
  have HRA := HA.out.ra
  rw [← hX] at HS0 HC0 HRS HRA ⊢
  have hS0 := Lib.hid HS0
  have hC0 := Lib.hid HC0
  have hRS := Lib.hid HRS
  have hRA := Lib.hid HRA
  have HXX := Lib.hid hX
  clear hX HS0 HC0 HRS HRA
  have x0 : w4.cell? ⟨X, 0, none⟩ = some (.bool x.m.s.serial) := (by rw [cell_of hS0.out]; rfl)
  have x1 : w4.cell? ⟨X, 1, none⟩ = some (vi x.m.s.bugs) := (by rw [cell_of hS0.out]; rfl)
  have x2 : w4.cell? ⟨X, 2, none⟩ = some (.slice a1 x.m.s.vs.length c1) := (by rw [cell_of hS0.out]; rfl)
  have x3 : w4.cell? ⟨X, 3, none⟩ = some (.slice a2 x.m.s.ws.length c2) := (by rw [cell_of hS0.out]; rfl)
  have x4 : w4.cell? ⟨X, 4, none⟩ = some (.slice a3 x.m.s.es.length c3) := (by rw [cell_of hS0.out]; rfl)
  have x5 : w4.cell? ⟨X, 5, none⟩ = some (vi x.m.stamps) := (by rw [cell_of hS0.out]; rfl)
  have x6 : w4.cell? ⟨X, 6, none⟩ = some (vi x.m.now) := (by rw [cell_of hS0.out]; rfl)
  have x7 : w4.cell? ⟨X, 7, none⟩ = some (.slice a4 x.m.ds.length c4) := (by rw [cell_of hS0.out]; rfl)
  have m0 : w4.cell? ⟨X + 1, 0, none⟩ = some (vi 3) := (by rw [cell_of hC0.out]; rfl)
  have m1 : w4.cell? ⟨X + 1, 1, none⟩ = some (vi r.txn) := (by rw [cell_of hC0.out]; rfl)
  have m2 : w4.cell? ⟨X + 1, 2, none⟩ = some (vi r.home) := (by rw [cell_of hC0.out]; rfl)
  have m3 : w4.cell? ⟨X + 1, 3, none⟩ = some (vi r.start) := (by rw [cell_of hC0.out]; rfl)
  have m4 : w4.cell? ⟨X + 1, 4, none⟩ = some (wv) := (by rw [cell_of hC0.out]; rfl)
  have m5 : w4.cell? ⟨X + 1, 5, none⟩ = some (rv) := (by rw [cell_of hC0.out]; rfl)
  have HST := Lib.hid (st_of HXA.out HXE.out)
  have HBA := Lib.hid (HHA.out.trans (HA.out.below.mono HHA.out.size))
  have h4s : w.heap.size + 4 ≤ w4.heap.size := by have := (Array.getElem?_eq_some_iff.1 HA.out.ra).1; omega
  have H4S := Lib.hid h4s
  have HBW := Lib.hid HA.out.below
  clear h4s hRS hRA
  go_upto_region 19 with fail
  have c7 : Calls Try.prog 39 #[.agg #[.bool x.m.s.serial, vi x.m.s.bugs, .slice a1 x.m.s.vs.length c1, .slice a2 x.m.s.ws.length c2, .slice a3 x.m.s.es.length c3], .agg #[vi r.txn, vi r.home, vi r.start, wv, rv]] w4 (fun e w7 => ∃ (ys : RSt) (d1 d2 d3 : Option Addr) (g1 g2 g3 : Nat), e = .returned (.tuple #[.agg #[.bool ys.serial, vi ys.bugs, .slice d1 ys.vs.length g1, .slice d2 ys.ws.length g2, .slice d3 ys.es.length g3], vi by_, vi err]) ∧ Hid (ys = (rnPrepV x.m.s r).1) ∧ Hid (Below w4.heap.size w4 w7) ∧ Hid (∀ W' : World, CLe A W' → (∀ j, w4.heap.size ≤ j → W'.heap[j]? = w7.heap[j]?) → RdSt W' ⟨.slice d1 ys.vs.length g1, .slice d2 ys.ws.length g2, .slice d3 ys.es.length g3, ys⟩)) := by
    refine (rnPrep_call3 A ⟨.slice a1 x.m.s.vs.length c1, .slice a2 x.m.s.ws.length c2, .slice a3 x.m.s.es.length c3, x.m.s⟩ ⟨wv, rv, r⟩ w4 HST.out HBA.out.le (HR.out.later HBW.out) hbg hl).mono ?_
    rintro e7 w7 ⟨⟨yv, yw, ye, ys⟩, rfl, hs7, hr7, hb7, hk7⟩
    obtain ⟨d1, g1, d2, g2, d3, g3, hy⟩ := rst_shapes hr7
    simp only [RSV.mk.injEq, and_true] at hy
    obtain ⟨rfl, rfl, rfl⟩ := hy
    exact ⟨ys, d1, d2, d3, g1, g2, g3, by rw [HBY.out, HER.out]; rfl, Lib.hid hs7, Lib.hid hb7, Lib.hid hk7⟩
  have HC7 := Lib.hid c7
  clear c7
  go_upto_region 21 with (go_at_call 39; refine HC7.out.mono ?_; rintro e7 w7 ⟨ys, d1, d2, d3, g1, g2, g3, rfl, HS7, HB7, HK7⟩)
  have h9 := heap2_al w7 (.cells #[.bool ys.serial, vi ys.bugs, .slice d1 ys.vs.length g1, .slice d2 ys.ws.length g2, .slice d3 ys.es.length g3] 52) (.cells #[vi err, .slice none 0 0, vi 0, vi by_, vi 0, vi 0, .bool false, vi 0] 58)
  have H9P := Lib.hid h9.1
  have H9Q := Lib.hid h9.2.1
  have H9B := Lib.hid h9.2.2
  have HA9 := Lib.hid ((HA.out.later HB7.out).later h9.2.2)
  clear h9 HA x0 x1 x2 x3 x4 x5 x6 x7 m0 m1 m2 m3 m4 m5
  generalize ((w7.alloc (.cells #[.bool ys.serial, vi ys.bugs, .slice d1 ys.vs.length g1, .slice d2 ys.ws.length g2, .slice d3 ys.es.length g3] 52)).alloc (.cells #[vi err, .slice none 0 0, vi 0, vi by_, vi 0, vi 0, .bool false, vi 0] 58)) = w9 at *
  obtain ⟨P, hP⟩ : ∃ P, P = w7.heap.size := ⟨_, rfl⟩
  rw [← hP] at H9P H9Q ⊢
  have HP := Lib.hid hP
  clear hP
  have hS9 := HA9.out.st
  have hR9 := HA9.out.rs
  have hA9 := HA9.out.ra
  rw [HSC.out, ← HXX.out] at hS9
  rw [← HXX.out] at hR9 hA9
  have HS9 := Lib.hid hS9
  have HR9 := Lib.hid hR9
  have hRA9 := Lib.hid hA9
  clear hS9 hR9 hA9
  have hPX : X + 4 ≤ P := by have h1 := HP.out; have h2 := HXX.out; have h3 := H4S.out; have h4 := HB7.out.size; omega
  by_cases he : err = 60
  · have k0 : True := trivial
    subst he
    obtain ⟨hm, hhm⟩ : ∃ h, h = homeM x.m.s.ws by_ := ⟨_, rfl⟩
    have HHM := Lib.hid hhm
    have c10 : Calls Try.prog 38 #[.agg #[.bool x.m.s.serial, vi x.m.s.bugs, .slice a1 x.m.s.vs.length c1, .slice a2 x.m.s.ws.length c2, .slice a3 x.m.s.es.length c3, vi x.m.stamps, vi x.m.now, .slice a4 x.m.ds.length c4], vi by_] w9 (fun e w10 => e = .returned (vi hm) ∧ Hid (Below w9.heap.size w9 w10)) := by
      have h := home21_call x by_ w9 (HXA.out.ale (HBA.out.trans ((HB7.out.trans (H9B.out.mono HB7.out.size)).mono HBA.out.size)))
      unfold shV at h
      rw [HSC.out, ← hhm] at h
      exact h.mono fun e w' h => ⟨h.1, Lib.hid h.2⟩
    have HC10 := Lib.hid c10
    clear c10 hhm
    have x0 : w9.cell? ⟨X, 0, none⟩ = some (.bool x.m.s.serial) := (by rw [cell_of HS9.out]; rfl)
    have x1 : w9.cell? ⟨X, 1, none⟩ = some (vi x.m.s.bugs) := (by rw [cell_of HS9.out]; rfl)
    have x2 : w9.cell? ⟨X, 2, none⟩ = some (.slice a1 x.m.s.vs.length c1) := (by rw [cell_of HS9.out]; rfl)
    have x3 : w9.cell? ⟨X, 3, none⟩ = some (.slice a2 x.m.s.ws.length c2) := (by rw [cell_of HS9.out]; rfl)
    have x4 : w9.cell? ⟨X, 4, none⟩ = some (.slice a3 x.m.s.es.length c3) := (by rw [cell_of HS9.out]; rfl)
    have x5 : w9.cell? ⟨X, 5, none⟩ = some (vi x.m.stamps) := (by rw [cell_of HS9.out]; rfl)
    have x6 : w9.cell? ⟨X, 6, none⟩ = some (vi x.m.now) := (by rw [cell_of HS9.out]; rfl)
    have x7 : w9.cell? ⟨X, 7, none⟩ = some (.slice a4 x.m.ds.length c4) := (by rw [cell_of HS9.out]; rfl)
    go_upto_region 23 with (go_at_call 38; refine HC10.out.mono ?_; rintro e10 w10 ⟨rfl, HB10⟩; have hq10 := (HB10.out.block _ (Array.getElem?_eq_some_iff.1 H9Q.out).1).trans H9Q.out; have HQ10 := Lib.hid hq10; clear hq10; have t0 : w10.cell? ⟨P + 1, 0, none⟩ = some (vi 60) := (by rw [cell_of HQ10.out]; rfl); have t1 : w10.cell? ⟨P + 1, 1, none⟩ = some (.slice none 0 0) := (by rw [cell_of HQ10.out]; rfl); have t2 : w10.cell? ⟨P + 1, 2, none⟩ = some (vi 0) := (by rw [cell_of HQ10.out]; rfl); have t3 : w10.cell? ⟨P + 1, 3, none⟩ = some (vi by_) := (by rw [cell_of HQ10.out]; rfl); have t4 : w10.cell? ⟨P + 1, 4, none⟩ = some (vi 0) := (by rw [cell_of HQ10.out]; rfl); have t5 : w10.cell? ⟨P + 1, 5, none⟩ = some (vi 0) := (by rw [cell_of HQ10.out]; rfl); have t6 : w10.cell? ⟨P + 1, 6, none⟩ = some (.bool false) := (by rw [cell_of HQ10.out]; rfl); have t7 : w10.cell? ⟨P + 1, 7, none⟩ = some (vi 0) := (by rw [cell_of HQ10.out]; rfl); have tf : w10.frozen? ⟨P + 1, 4, none⟩ = false := free_of HQ10.out 4)
    clear tf x0 x1 x2 x3 x4 x5 x6 x7 t0 t1 t2 t3 t4 t5 t6 t7
    have hk1 := rn_set (o := 4) (vi hm) HQ10.out
    have HQk := Lib.hid (show (w10.setCell ⟨P + 1, 4, none⟩ (vi hm)).heap[P + 1]? = some (.cells #[vi 60, .slice none 0 0, vi 0, vi by_, vi hm, vi 0, .bool false, vi 0] 58) from hk1)
    have ho10 : ∀ j, j ≠ P + 1 → j < w9.heap.size → (w10.setCell ⟨P + 1, 4, none⟩ (vi hm)).heap[j]? = w9.heap[j]? := fun j hj hl => (Below.heap_setCell _ _ _ _ hj).trans (HB10.out.block j hl)
    have hp9 := (Array.getElem?_eq_some_iff.1 H9P.out).1
    have hq9 := (Array.getElem?_eq_some_iff.1 H9Q.out).1
    have HPk := Lib.hid ((ho10 P (by omega) hp9).trans H9P.out)
    have HSk := Lib.hid ((ho10 X (by omega) (by omega)).trans HS9.out)
    have HRk := Lib.hid ((ho10 (X + 1 + 1) (by omega) (by omega)).trans HR9.out)
    have hRAk := Lib.hid ((ho10 (X + 1 + 1 + 1) (by omega) (by omega)).trans hRA9.out)
    have HOk := Lib.hid ho10
    have h9b : Below w.heap.size w7 w9 := H9B.out.mono (show w.heap.size ≤ w7.heap.size by have := HBW.out.size; have := HB7.out.size; omega)
    have h10b : Below w.heap.size w9 w10 := HB10.out.mono (by have := h9b.size; have := HBW.out.size; have := HB7.out.size; omega)
    have h11b : Below w.heap.size w9 (w10.setCell ⟨P + 1, 4, none⟩ (vi hm)) := h10b.setCell (show w.heap.size ≤ P + 1 by have := HXX.out; omega) _
    have HBk := Lib.hid (h9b.trans h11b)
    clear hk1 ho10 h9b h10b h11b
    generalize w10.setCell ⟨P + 1, 4, none⟩ (vi hm) = wk at *
    have p0 : wk.cell? ⟨P, 0, none⟩ = some (.bool ys.serial) := (by rw [cell_of HPk.out]; rfl)
    have p1 : wk.cell? ⟨P, 1, none⟩ = some (vi ys.bugs) := (by rw [cell_of HPk.out]; rfl)
    have p2 : wk.cell? ⟨P, 2, none⟩ = some (.slice d1 ys.vs.length g1) := (by rw [cell_of HPk.out]; rfl)
    have p3 : wk.cell? ⟨P, 3, none⟩ = some (.slice d2 ys.ws.length g2) := (by rw [cell_of HPk.out]; rfl)
    have p4 : wk.cell? ⟨P, 4, none⟩ = some (.slice d3 ys.es.length g3) := (by rw [cell_of HPk.out]; rfl)
    have t0 : wk.cell? ⟨P + 1, 0, none⟩ = some (vi 60) := (by rw [cell_of HQk.out]; rfl)
    have t1 : wk.cell? ⟨P + 1, 1, none⟩ = some (.slice none 0 0) := (by rw [cell_of HQk.out]; rfl)
    have t2 : wk.cell? ⟨P + 1, 2, none⟩ = some (vi 0) := (by rw [cell_of HQk.out]; rfl)
    have t3 : wk.cell? ⟨P + 1, 3, none⟩ = some (vi by_) := (by rw [cell_of HQk.out]; rfl)
    have t4 : wk.cell? ⟨P + 1, 4, none⟩ = some (vi hm) := (by rw [cell_of HQk.out]; rfl)
    have t5 : wk.cell? ⟨P + 1, 5, none⟩ = some (vi 0) := (by rw [cell_of HQk.out]; rfl)
    have t6 : wk.cell? ⟨P + 1, 6, none⟩ = some (.bool false) := (by rw [cell_of HQk.out]; rfl)
    have t7 : wk.cell? ⟨P + 1, 7, none⟩ = some (vi 0) := (by rw [cell_of HQk.out]; rfl)
    have y0 : wk.cell? ⟨X, 0, none⟩ = some (.bool x.m.s.serial) := (by rw [cell_of HSk.out]; rfl)
    have y1 : wk.cell? ⟨X, 1, none⟩ = some (vi x.m.s.bugs) := (by rw [cell_of HSk.out]; rfl)
    have y2 : wk.cell? ⟨X, 2, none⟩ = some (.slice a1 x.m.s.vs.length c1) := (by rw [cell_of HSk.out]; rfl)
    have y3 : wk.cell? ⟨X, 3, none⟩ = some (.slice a2 x.m.s.ws.length c2) := (by rw [cell_of HSk.out]; rfl)
    have y4 : wk.cell? ⟨X, 4, none⟩ = some (.slice a3 x.m.s.es.length c3) := (by rw [cell_of HSk.out]; rfl)
    have y5 : wk.cell? ⟨X, 5, none⟩ = some (vi x.m.stamps) := (by rw [cell_of HSk.out]; rfl)
    have y6 : wk.cell? ⟨X, 6, none⟩ = some (vi x.m.now) := (by rw [cell_of HSk.out]; rfl)
    have y7 : wk.cell? ⟨X, 7, none⟩ = some (.slice a4 x.m.ds.length c4) := (by rw [cell_of HSk.out]; rfl)
    have xf : ∀ j, wk.frozen? ⟨X, j, none⟩ = false := fun j => free_of HSk.out j
    go_upto_region 24 with fail
    have hS8 := rn_set58 (.bool ys.serial) (vi ys.bugs) (.slice d1 ys.vs.length g1) (.slice d2 ys.ws.length g2) (.slice d3 ys.es.length g3) HSk.out
    have HS8 := Lib.hid hS8
    have ho8 : ∀ j, j ≠ X → (((((wk.setCell ⟨X, 0, none⟩ (.bool ys.serial)).setCell ⟨X, 1, none⟩ (vi ys.bugs)).setCell ⟨X, 2, none⟩ (.slice d1 ys.vs.length g1)).setCell ⟨X, 3, none⟩ (.slice d2 ys.ws.length g2)).setCell ⟨X, 4, none⟩ (.slice d3 ys.es.length g3)).heap[j]? = wk.heap[j]? := fun j hj => rn_oth5s hj
    have HO8 := Lib.hid ho8
    have hb8 : Below w.heap.size wk (((((wk.setCell ⟨X, 0, none⟩ (.bool ys.serial)).setCell ⟨X, 1, none⟩ (vi ys.bugs)).setCell ⟨X, 2, none⟩ (.slice d1 ys.vs.length g1)).setCell ⟨X, 3, none⟩ (.slice d2 ys.ws.length g2)).setCell ⟨X, 4, none⟩ (.slice d3 ys.es.length g3)) := rn_below5 (b := X) (.bool ys.serial) (vi ys.bugs) (.slice d1 ys.vs.length g1) (.slice d2 ys.ws.length g2) (.slice d3 ys.es.length g3) (by have := HXX.out; omega)
    have HB8 := Lib.hid hb8
    have hRS := Lib.hid ((ho8 (X + 1 + 1) (by omega)).trans HRk.out)
    have hRA := Lib.hid ((ho8 (X + 1 + 1 + 1) (by omega)).trans hRAk.out)
    have HQ8 := Lib.hid ((ho8 (P + 1) (by omega)).trans HQk.out)
    clear hS8 ho8 hb8 xf p0 p1 p2 p3 p4 t0 t1 t2 t3 t4 t5 t6 t7 y0 y1 y2 y3 y4 y5 y6 y7
    generalize (((((wk.setCell ⟨X, 0, none⟩ (.bool ys.serial)).setCell ⟨X, 1, none⟩ (vi ys.bugs)).setCell ⟨X, 2, none⟩ (.slice d1 ys.vs.length g1)).setCell ⟨X, 3, none⟩ (.slice d2 ys.ws.length g2)).setCell ⟨X, 4, none⟩ (.slice d3 ys.es.length g3)) = w8 at *
    have x0 : w8.cell? ⟨X, 0, none⟩ = some (.bool ys.serial) := (by rw [cell_of HS8.out]; rfl)
    have x1 : w8.cell? ⟨X, 1, none⟩ = some (vi ys.bugs) := (by rw [cell_of HS8.out]; rfl)
    have x2 : w8.cell? ⟨X, 2, none⟩ = some (.slice d1 ys.vs.length g1) := (by rw [cell_of HS8.out]; rfl)
    have x3 : w8.cell? ⟨X, 3, none⟩ = some (.slice d2 ys.ws.length g2) := (by rw [cell_of HS8.out]; rfl)
    have x4 : w8.cell? ⟨X, 4, none⟩ = some (.slice d3 ys.es.length g3) := (by rw [cell_of HS8.out]; rfl)
    have x5 : w8.cell? ⟨X, 5, none⟩ = some (vi x.m.stamps) := (by rw [cell_of HS8.out]; rfl)
    have x6 : w8.cell? ⟨X, 6, none⟩ = some (vi x.m.now) := (by rw [cell_of HS8.out]; rfl)
    have x7 : w8.cell? ⟨X, 7, none⟩ = some (.slice a4 x.m.ds.length c4) := (by rw [cell_of HS8.out]; rfl)
    have t0 : w8.cell? ⟨P + 1, 0, none⟩ = some (vi 60) := (by rw [cell_of HQ8.out]; rfl)
    have t1 : w8.cell? ⟨P + 1, 1, none⟩ = some (.slice none 0 0) := (by rw [cell_of HQ8.out]; rfl)
    have t2 : w8.cell? ⟨P + 1, 2, none⟩ = some (vi 0) := (by rw [cell_of HQ8.out]; rfl)
    have t3 : w8.cell? ⟨P + 1, 3, none⟩ = some (vi by_) := (by rw [cell_of HQ8.out]; rfl)
    have t4 : w8.cell? ⟨P + 1, 4, none⟩ = some (vi hm) := (by rw [cell_of HQ8.out]; rfl)
    have t5 : w8.cell? ⟨P + 1, 5, none⟩ = some (vi 0) := (by rw [cell_of HQ8.out]; rfl)
    have t6 : w8.cell? ⟨P + 1, 6, none⟩ = some (.bool false) := (by rw [cell_of HQ8.out]; rfl)
    have t7 : w8.cell? ⟨P + 1, 7, none⟩ = some (vi 0) := (by rw [cell_of HQ8.out]; rfl)
    have HT := Lib.hid (two_std (W := w8) (b := X + 1 + 1) (N := w.heap.size) (.bool ys.serial) (vi ys.bugs) (.slice d1 ys.vs.length g1) (.slice d2 ys.ws.length g2) (.slice d3 ys.es.length g3) (vi x.m.stamps) (vi x.m.now) (.slice a4 x.m.ds.length c4) (vi 60) (.slice none 0 0) (vi 0) (vi by_) (vi hm) (vi 0) (.bool false) (vi 0) hRS.out hRA.out (by have := HXX.out; omega))
    have q0 : w8.cell? ⟨X + 1 + 1, 0, none⟩ = some (.bool false) := (by rw [cell_of hRS.out]; rfl)
    have q1 : w8.cell? ⟨X + 1 + 1, 1, none⟩ = some (vi 0) := (by rw [cell_of hRS.out]; rfl)
    have q2 : w8.cell? ⟨X + 1 + 1, 2, none⟩ = some (.slice none 0 0) := (by rw [cell_of hRS.out]; rfl)
    have q3 : w8.cell? ⟨X + 1 + 1, 3, none⟩ = some (.slice none 0 0) := (by rw [cell_of hRS.out]; rfl)
    have q4 : w8.cell? ⟨X + 1 + 1, 4, none⟩ = some (.slice none 0 0) := (by rw [cell_of hRS.out]; rfl)
    have q5 : w8.cell? ⟨X + 1 + 1, 5, none⟩ = some (vi 0) := (by rw [cell_of hRS.out]; rfl)
    have q6 : w8.cell? ⟨X + 1 + 1, 6, none⟩ = some (vi 0) := (by rw [cell_of hRS.out]; rfl)
    have q7 : w8.cell? ⟨X + 1 + 1, 7, none⟩ = some (.slice none 0 0) := (by rw [cell_of hRS.out]; rfl)
    have z0 : w8.cell? ⟨X + 1 + 1 + 1, 0, none⟩ = some (vi 0) := (by rw [cell_of hRA.out]; rfl)
    have z1 : w8.cell? ⟨X + 1 + 1 + 1, 1, none⟩ = some (.slice none 0 0) := (by rw [cell_of hRA.out]; rfl)
    have z2 : w8.cell? ⟨X + 1 + 1 + 1, 2, none⟩ = some (vi 0) := (by rw [cell_of hRA.out]; rfl)
    have z3 : w8.cell? ⟨X + 1 + 1 + 1, 3, none⟩ = some (vi 0) := (by rw [cell_of hRA.out]; rfl)
    have z4 : w8.cell? ⟨X + 1 + 1 + 1, 4, none⟩ = some (vi 0) := (by rw [cell_of hRA.out]; rfl)
    have z5 : w8.cell? ⟨X + 1 + 1 + 1, 5, none⟩ = some (vi 0) := (by rw [cell_of hRA.out]; rfl)
    have z6 : w8.cell? ⟨X + 1 + 1 + 1, 6, none⟩ = some (.bool false) := (by rw [cell_of hRA.out]; rfl)
    have z7 : w8.cell? ⟨X + 1 + 1 + 1, 7, none⟩ = some (vi 0) := (by rw [cell_of hRA.out]; rfl)
    have qf : ∀ j, w8.frozen? ⟨X + 1 + 1, j, none⟩ = false := fun j => free_of hRS.out j
    have zf : ∀ j, w8.frozen? ⟨X + 1 + 1 + 1, j, none⟩ = false := fun j => free_of hRA.out j
    go_region
    generalize ((((((((((((((((w8.setCell ⟨X + 1 + 1, 0, none⟩ (.bool ys.serial)).setCell ⟨X + 1 + 1, 1, none⟩ (vi ys.bugs)).setCell ⟨X + 1 + 1, 2, none⟩ (.slice d1 ys.vs.length g1)).setCell ⟨X + 1 + 1, 3, none⟩ (.slice d2 ys.ws.length g2)).setCell ⟨X + 1 + 1, 4, none⟩ (.slice d3 ys.es.length g3)).setCell ⟨X + 1 + 1, 5, none⟩ (vi x.m.stamps)).setCell ⟨X + 1 + 1, 6, none⟩ (vi x.m.now)).setCell ⟨X + 1 + 1, 7, none⟩ (.slice a4 x.m.ds.length c4)).setCell ⟨X + 1 + 1 + 1, 0, none⟩ (vi 60)).setCell ⟨X + 1 + 1 + 1, 1, none⟩ (.slice none 0 0)).setCell ⟨X + 1 + 1 + 1, 2, none⟩ (vi 0)).setCell ⟨X + 1 + 1 + 1, 3, none⟩ (vi by_)).setCell ⟨X + 1 + 1 + 1, 4, none⟩ (vi hm)).setCell ⟨X + 1 + 1 + 1, 5, none⟩ (vi 0)).setCell ⟨X + 1 + 1 + 1, 6, none⟩ (.bool false)).setCell ⟨X + 1 + 1 + 1, 7, none⟩ (vi 0)).drew = wz at *
    have r0 : wz.cell? ⟨X + 1 + 1, 0, none⟩ = some (.bool ys.serial) := (by rw [cell_of HT.out.1]; rfl)
    have r1 : wz.cell? ⟨X + 1 + 1, 1, none⟩ = some (vi ys.bugs) := (by rw [cell_of HT.out.1]; rfl)
    have r2 : wz.cell? ⟨X + 1 + 1, 2, none⟩ = some (.slice d1 ys.vs.length g1) := (by rw [cell_of HT.out.1]; rfl)
    have r3 : wz.cell? ⟨X + 1 + 1, 3, none⟩ = some (.slice d2 ys.ws.length g2) := (by rw [cell_of HT.out.1]; rfl)
    have r4 : wz.cell? ⟨X + 1 + 1, 4, none⟩ = some (.slice d3 ys.es.length g3) := (by rw [cell_of HT.out.1]; rfl)
    have r5 : wz.cell? ⟨X + 1 + 1, 5, none⟩ = some (vi x.m.stamps) := (by rw [cell_of HT.out.1]; rfl)
    have r6 : wz.cell? ⟨X + 1 + 1, 6, none⟩ = some (vi x.m.now) := (by rw [cell_of HT.out.1]; rfl)
    have r7 : wz.cell? ⟨X + 1 + 1, 7, none⟩ = some (.slice a4 x.m.ds.length c4) := (by rw [cell_of HT.out.1]; rfl)
    have s0 : wz.cell? ⟨X + 1 + 1 + 1, 0, none⟩ = some (vi 60) := (by rw [cell_of HT.out.2.1]; rfl)
    have s1 : wz.cell? ⟨X + 1 + 1 + 1, 1, none⟩ = some (.slice none 0 0) := (by rw [cell_of HT.out.2.1]; rfl)
    have s2 : wz.cell? ⟨X + 1 + 1 + 1, 2, none⟩ = some (vi 0) := (by rw [cell_of HT.out.2.1]; rfl)
    have s3 : wz.cell? ⟨X + 1 + 1 + 1, 3, none⟩ = some (vi by_) := (by rw [cell_of HT.out.2.1]; rfl)
    have s4 : wz.cell? ⟨X + 1 + 1 + 1, 4, none⟩ = some (vi hm) := (by rw [cell_of HT.out.2.1]; rfl)
    have s5 : wz.cell? ⟨X + 1 + 1 + 1, 5, none⟩ = some (vi 0) := (by rw [cell_of HT.out.2.1]; rfl)
    have s6 : wz.cell? ⟨X + 1 + 1 + 1, 6, none⟩ = some (.bool false) := (by rw [cell_of HT.out.2.1]; rfl)
    have s7 : wz.cell? ⟨X + 1 + 1 + 1, 7, none⟩ = some (vi 0) := (by rw [cell_of HT.out.2.1]; rfl)
    go_wp2_with fail
    refine bodyPost_ret (v := .tuple #[.agg #[.bool ys.serial, vi ys.bugs, .slice d1 ys.vs.length g1, .slice d2 ys.ws.length g2, .slice d3 ys.es.length g3, vi x.m.stamps, vi x.m.now, .slice a4 x.m.ds.length c4], .agg #[vi 60, .slice none 0 0, vi 0, vi by_, vi hm, vi 0, .bool false, vi 0]]) (by simp [results, Try.results16, go_sem, r0, r1, r2, r3, r4, r5, r6, r7, s0, s1, s2, s3, s4, s5, s6, s7]) rfl ?_
    have hq : prep21 x.m r = (⟨ys, x.m.stamps, x.m.now, x.m.ds⟩, ⟨60, [], 0, by_, hm, zeroE'⟩) := by
      unfold prep21
      rw [← HBY.out, ← HER.out, ← HS7.out]
      rw [if_pos rfl, ← HHM.out]
    rw [hq]
    have hX := HXX.out
    have h4 := H4S.out
    have hP7 := HP.out
    have hw7 := HB7.out.size
    have := ap_ret2 (wf := w7) (y := ⟨.slice d1 ys.vs.length g1, .slice d2 ys.ws.length g2, .slice d3 ys.es.length g3, ys⟩) (q := (⟨ys, x.m.stamps, x.m.now, x.m.ds⟩, ⟨60, [], 0, by_, hm, zeroE'⟩)) HXA.out HHA.out HBW.out H4S.out HB7.out HK7.out (fun j h1 h2 => (HT.out.2.2.1 j (by omega) (by omega)).trans ((HO8.out j (by omega)).trans ((HOk.out j (by omega) (Nat.lt_of_lt_of_le h2 H9B.out.size)).trans (H9B.out.block j h2)))) ((HBk.out.trans HB8.out).trans HT.out.2.2.2) rfl rfl
    have he : shV ⟨.slice d1 ys.vs.length g1, .slice d2 ys.ws.length g2, .slice d3 ys.es.length g3, x.dv, ⟨ys, x.m.stamps, x.m.now, x.m.ds⟩⟩ = .agg #[.bool ys.serial, vi ys.bugs, .slice d1 ys.vs.length g1, .slice d2 ys.ws.length g2, .slice d3 ys.es.length g3, vi x.m.stamps, vi x.m.now, .slice a4 x.m.ds.length c4] := by unfold shV shC; rw [HXE.out]
    rw [he] at this
    exact this
  · have he' := he
    have HPk := H9P
    have HQk := H9Q
    have HSk := HS9
    have HRk := HR9
    have hRAk := hRA9
    have HBk := Lib.hid (H9B.out.mono (show w.heap.size ≤ w7.heap.size by have := HBW.out.size; have := HB7.out.size; omega))
    have k1 : decide (err = 60) = false := decide_eq_false he
    have k2 : (err == 60) = false := by simpa using he
    have p0 : w9.cell? ⟨P, 0, none⟩ = some (.bool ys.serial) := (by rw [cell_of HPk.out]; rfl)
    have p1 : w9.cell? ⟨P, 1, none⟩ = some (vi ys.bugs) := (by rw [cell_of HPk.out]; rfl)
    have p2 : w9.cell? ⟨P, 2, none⟩ = some (.slice d1 ys.vs.length g1) := (by rw [cell_of HPk.out]; rfl)
    have p3 : w9.cell? ⟨P, 3, none⟩ = some (.slice d2 ys.ws.length g2) := (by rw [cell_of HPk.out]; rfl)
    have p4 : w9.cell? ⟨P, 4, none⟩ = some (.slice d3 ys.es.length g3) := (by rw [cell_of HPk.out]; rfl)
    have t0 : w9.cell? ⟨P + 1, 0, none⟩ = some (vi err) := (by rw [cell_of HQk.out]; rfl)
    have t1 : w9.cell? ⟨P + 1, 1, none⟩ = some (.slice none 0 0) := (by rw [cell_of HQk.out]; rfl)
    have t2 : w9.cell? ⟨P + 1, 2, none⟩ = some (vi 0) := (by rw [cell_of HQk.out]; rfl)
    have t3 : w9.cell? ⟨P + 1, 3, none⟩ = some (vi by_) := (by rw [cell_of HQk.out]; rfl)
    have t4 : w9.cell? ⟨P + 1, 4, none⟩ = some (vi 0) := (by rw [cell_of HQk.out]; rfl)
    have t5 : w9.cell? ⟨P + 1, 5, none⟩ = some (vi 0) := (by rw [cell_of HQk.out]; rfl)
    have t6 : w9.cell? ⟨P + 1, 6, none⟩ = some (.bool false) := (by rw [cell_of HQk.out]; rfl)
    have t7 : w9.cell? ⟨P + 1, 7, none⟩ = some (vi 0) := (by rw [cell_of HQk.out]; rfl)
    have y0 : w9.cell? ⟨X, 0, none⟩ = some (.bool x.m.s.serial) := (by rw [cell_of HSk.out]; rfl)
    have y1 : w9.cell? ⟨X, 1, none⟩ = some (vi x.m.s.bugs) := (by rw [cell_of HSk.out]; rfl)
    have y2 : w9.cell? ⟨X, 2, none⟩ = some (.slice a1 x.m.s.vs.length c1) := (by rw [cell_of HSk.out]; rfl)
    have y3 : w9.cell? ⟨X, 3, none⟩ = some (.slice a2 x.m.s.ws.length c2) := (by rw [cell_of HSk.out]; rfl)
    have y4 : w9.cell? ⟨X, 4, none⟩ = some (.slice a3 x.m.s.es.length c3) := (by rw [cell_of HSk.out]; rfl)
    have y5 : w9.cell? ⟨X, 5, none⟩ = some (vi x.m.stamps) := (by rw [cell_of HSk.out]; rfl)
    have y6 : w9.cell? ⟨X, 6, none⟩ = some (vi x.m.now) := (by rw [cell_of HSk.out]; rfl)
    have y7 : w9.cell? ⟨X, 7, none⟩ = some (.slice a4 x.m.ds.length c4) := (by rw [cell_of HSk.out]; rfl)
    have xf : ∀ j, w9.frozen? ⟨X, j, none⟩ = false := fun j => free_of HSk.out j
    go_upto_region 24 with fail
    have hS8 := rn_set58 (.bool ys.serial) (vi ys.bugs) (.slice d1 ys.vs.length g1) (.slice d2 ys.ws.length g2) (.slice d3 ys.es.length g3) HSk.out
    have HS8 := Lib.hid hS8
    have ho8 : ∀ j, j ≠ X → (((((w9.setCell ⟨X, 0, none⟩ (.bool ys.serial)).setCell ⟨X, 1, none⟩ (vi ys.bugs)).setCell ⟨X, 2, none⟩ (.slice d1 ys.vs.length g1)).setCell ⟨X, 3, none⟩ (.slice d2 ys.ws.length g2)).setCell ⟨X, 4, none⟩ (.slice d3 ys.es.length g3)).heap[j]? = w9.heap[j]? := fun j hj => rn_oth5s hj
    have HO8 := Lib.hid ho8
    have hb8 : Below w.heap.size w9 (((((w9.setCell ⟨X, 0, none⟩ (.bool ys.serial)).setCell ⟨X, 1, none⟩ (vi ys.bugs)).setCell ⟨X, 2, none⟩ (.slice d1 ys.vs.length g1)).setCell ⟨X, 3, none⟩ (.slice d2 ys.ws.length g2)).setCell ⟨X, 4, none⟩ (.slice d3 ys.es.length g3)) := rn_below5 (b := X) (.bool ys.serial) (vi ys.bugs) (.slice d1 ys.vs.length g1) (.slice d2 ys.ws.length g2) (.slice d3 ys.es.length g3) (by have := HXX.out; omega)
    have HB8 := Lib.hid hb8
    have hRS := Lib.hid ((ho8 (X + 1 + 1) (by omega)).trans HRk.out)
    have hRA := Lib.hid ((ho8 (X + 1 + 1 + 1) (by omega)).trans hRAk.out)
    have HQ8 := Lib.hid ((ho8 (P + 1) (by omega)).trans HQk.out)
    clear hS8 ho8 hb8 xf p0 p1 p2 p3 p4 t0 t1 t2 t3 t4 t5 t6 t7 y0 y1 y2 y3 y4 y5 y6 y7
    generalize (((((w9.setCell ⟨X, 0, none⟩ (.bool ys.serial)).setCell ⟨X, 1, none⟩ (vi ys.bugs)).setCell ⟨X, 2, none⟩ (.slice d1 ys.vs.length g1)).setCell ⟨X, 3, none⟩ (.slice d2 ys.ws.length g2)).setCell ⟨X, 4, none⟩ (.slice d3 ys.es.length g3)) = w8 at *
    have x0 : w8.cell? ⟨X, 0, none⟩ = some (.bool ys.serial) := (by rw [cell_of HS8.out]; rfl)
    have x1 : w8.cell? ⟨X, 1, none⟩ = some (vi ys.bugs) := (by rw [cell_of HS8.out]; rfl)
    have x2 : w8.cell? ⟨X, 2, none⟩ = some (.slice d1 ys.vs.length g1) := (by rw [cell_of HS8.out]; rfl)
    have x3 : w8.cell? ⟨X, 3, none⟩ = some (.slice d2 ys.ws.length g2) := (by rw [cell_of HS8.out]; rfl)
    have x4 : w8.cell? ⟨X, 4, none⟩ = some (.slice d3 ys.es.length g3) := (by rw [cell_of HS8.out]; rfl)
    have x5 : w8.cell? ⟨X, 5, none⟩ = some (vi x.m.stamps) := (by rw [cell_of HS8.out]; rfl)
    have x6 : w8.cell? ⟨X, 6, none⟩ = some (vi x.m.now) := (by rw [cell_of HS8.out]; rfl)
    have x7 : w8.cell? ⟨X, 7, none⟩ = some (.slice a4 x.m.ds.length c4) := (by rw [cell_of HS8.out]; rfl)
    have t0 : w8.cell? ⟨P + 1, 0, none⟩ = some (vi err) := (by rw [cell_of HQ8.out]; rfl)
    have t1 : w8.cell? ⟨P + 1, 1, none⟩ = some (.slice none 0 0) := (by rw [cell_of HQ8.out]; rfl)
    have t2 : w8.cell? ⟨P + 1, 2, none⟩ = some (vi 0) := (by rw [cell_of HQ8.out]; rfl)
    have t3 : w8.cell? ⟨P + 1, 3, none⟩ = some (vi by_) := (by rw [cell_of HQ8.out]; rfl)
    have t4 : w8.cell? ⟨P + 1, 4, none⟩ = some (vi 0) := (by rw [cell_of HQ8.out]; rfl)
    have t5 : w8.cell? ⟨P + 1, 5, none⟩ = some (vi 0) := (by rw [cell_of HQ8.out]; rfl)
    have t6 : w8.cell? ⟨P + 1, 6, none⟩ = some (.bool false) := (by rw [cell_of HQ8.out]; rfl)
    have t7 : w8.cell? ⟨P + 1, 7, none⟩ = some (vi 0) := (by rw [cell_of HQ8.out]; rfl)
    have HT := Lib.hid (two_std (W := w8) (b := X + 1 + 1) (N := w.heap.size) (.bool ys.serial) (vi ys.bugs) (.slice d1 ys.vs.length g1) (.slice d2 ys.ws.length g2) (.slice d3 ys.es.length g3) (vi x.m.stamps) (vi x.m.now) (.slice a4 x.m.ds.length c4) (vi err) (.slice none 0 0) (vi 0) (vi by_) (vi 0) (vi 0) (.bool false) (vi 0) hRS.out hRA.out (by have := HXX.out; omega))
    have q0 : w8.cell? ⟨X + 1 + 1, 0, none⟩ = some (.bool false) := (by rw [cell_of hRS.out]; rfl)
    have q1 : w8.cell? ⟨X + 1 + 1, 1, none⟩ = some (vi 0) := (by rw [cell_of hRS.out]; rfl)
    have q2 : w8.cell? ⟨X + 1 + 1, 2, none⟩ = some (.slice none 0 0) := (by rw [cell_of hRS.out]; rfl)
    have q3 : w8.cell? ⟨X + 1 + 1, 3, none⟩ = some (.slice none 0 0) := (by rw [cell_of hRS.out]; rfl)
    have q4 : w8.cell? ⟨X + 1 + 1, 4, none⟩ = some (.slice none 0 0) := (by rw [cell_of hRS.out]; rfl)
    have q5 : w8.cell? ⟨X + 1 + 1, 5, none⟩ = some (vi 0) := (by rw [cell_of hRS.out]; rfl)
    have q6 : w8.cell? ⟨X + 1 + 1, 6, none⟩ = some (vi 0) := (by rw [cell_of hRS.out]; rfl)
    have q7 : w8.cell? ⟨X + 1 + 1, 7, none⟩ = some (.slice none 0 0) := (by rw [cell_of hRS.out]; rfl)
    have z0 : w8.cell? ⟨X + 1 + 1 + 1, 0, none⟩ = some (vi 0) := (by rw [cell_of hRA.out]; rfl)
    have z1 : w8.cell? ⟨X + 1 + 1 + 1, 1, none⟩ = some (.slice none 0 0) := (by rw [cell_of hRA.out]; rfl)
    have z2 : w8.cell? ⟨X + 1 + 1 + 1, 2, none⟩ = some (vi 0) := (by rw [cell_of hRA.out]; rfl)
    have z3 : w8.cell? ⟨X + 1 + 1 + 1, 3, none⟩ = some (vi 0) := (by rw [cell_of hRA.out]; rfl)
    have z4 : w8.cell? ⟨X + 1 + 1 + 1, 4, none⟩ = some (vi 0) := (by rw [cell_of hRA.out]; rfl)
    have z5 : w8.cell? ⟨X + 1 + 1 + 1, 5, none⟩ = some (vi 0) := (by rw [cell_of hRA.out]; rfl)
    have z6 : w8.cell? ⟨X + 1 + 1 + 1, 6, none⟩ = some (.bool false) := (by rw [cell_of hRA.out]; rfl)
    have z7 : w8.cell? ⟨X + 1 + 1 + 1, 7, none⟩ = some (vi 0) := (by rw [cell_of hRA.out]; rfl)
    have qf : ∀ j, w8.frozen? ⟨X + 1 + 1, j, none⟩ = false := fun j => free_of hRS.out j
    have zf : ∀ j, w8.frozen? ⟨X + 1 + 1 + 1, j, none⟩ = false := fun j => free_of hRA.out j
    go_region
    generalize ((((((((((((((((w8.setCell ⟨X + 1 + 1, 0, none⟩ (.bool ys.serial)).setCell ⟨X + 1 + 1, 1, none⟩ (vi ys.bugs)).setCell ⟨X + 1 + 1, 2, none⟩ (.slice d1 ys.vs.length g1)).setCell ⟨X + 1 + 1, 3, none⟩ (.slice d2 ys.ws.length g2)).setCell ⟨X + 1 + 1, 4, none⟩ (.slice d3 ys.es.length g3)).setCell ⟨X + 1 + 1, 5, none⟩ (vi x.m.stamps)).setCell ⟨X + 1 + 1, 6, none⟩ (vi x.m.now)).setCell ⟨X + 1 + 1, 7, none⟩ (.slice a4 x.m.ds.length c4)).setCell ⟨X + 1 + 1 + 1, 0, none⟩ (vi err)).setCell ⟨X + 1 + 1 + 1, 1, none⟩ (.slice none 0 0)).setCell ⟨X + 1 + 1 + 1, 2, none⟩ (vi 0)).setCell ⟨X + 1 + 1 + 1, 3, none⟩ (vi by_)).setCell ⟨X + 1 + 1 + 1, 4, none⟩ (vi 0)).setCell ⟨X + 1 + 1 + 1, 5, none⟩ (vi 0)).setCell ⟨X + 1 + 1 + 1, 6, none⟩ (.bool false)).setCell ⟨X + 1 + 1 + 1, 7, none⟩ (vi 0)).drew = wz at *
    have r0 : wz.cell? ⟨X + 1 + 1, 0, none⟩ = some (.bool ys.serial) := (by rw [cell_of HT.out.1]; rfl)
    have r1 : wz.cell? ⟨X + 1 + 1, 1, none⟩ = some (vi ys.bugs) := (by rw [cell_of HT.out.1]; rfl)
    have r2 : wz.cell? ⟨X + 1 + 1, 2, none⟩ = some (.slice d1 ys.vs.length g1) := (by rw [cell_of HT.out.1]; rfl)
    have r3 : wz.cell? ⟨X + 1 + 1, 3, none⟩ = some (.slice d2 ys.ws.length g2) := (by rw [cell_of HT.out.1]; rfl)
    have r4 : wz.cell? ⟨X + 1 + 1, 4, none⟩ = some (.slice d3 ys.es.length g3) := (by rw [cell_of HT.out.1]; rfl)
    have r5 : wz.cell? ⟨X + 1 + 1, 5, none⟩ = some (vi x.m.stamps) := (by rw [cell_of HT.out.1]; rfl)
    have r6 : wz.cell? ⟨X + 1 + 1, 6, none⟩ = some (vi x.m.now) := (by rw [cell_of HT.out.1]; rfl)
    have r7 : wz.cell? ⟨X + 1 + 1, 7, none⟩ = some (.slice a4 x.m.ds.length c4) := (by rw [cell_of HT.out.1]; rfl)
    have s0 : wz.cell? ⟨X + 1 + 1 + 1, 0, none⟩ = some (vi err) := (by rw [cell_of HT.out.2.1]; rfl)
    have s1 : wz.cell? ⟨X + 1 + 1 + 1, 1, none⟩ = some (.slice none 0 0) := (by rw [cell_of HT.out.2.1]; rfl)
    have s2 : wz.cell? ⟨X + 1 + 1 + 1, 2, none⟩ = some (vi 0) := (by rw [cell_of HT.out.2.1]; rfl)
    have s3 : wz.cell? ⟨X + 1 + 1 + 1, 3, none⟩ = some (vi by_) := (by rw [cell_of HT.out.2.1]; rfl)
    have s4 : wz.cell? ⟨X + 1 + 1 + 1, 4, none⟩ = some (vi 0) := (by rw [cell_of HT.out.2.1]; rfl)
    have s5 : wz.cell? ⟨X + 1 + 1 + 1, 5, none⟩ = some (vi 0) := (by rw [cell_of HT.out.2.1]; rfl)
    have s6 : wz.cell? ⟨X + 1 + 1 + 1, 6, none⟩ = some (.bool false) := (by rw [cell_of HT.out.2.1]; rfl)
    have s7 : wz.cell? ⟨X + 1 + 1 + 1, 7, none⟩ = some (vi 0) := (by rw [cell_of HT.out.2.1]; rfl)
    go_wp2_with fail
    refine bodyPost_ret (v := .tuple #[.agg #[.bool ys.serial, vi ys.bugs, .slice d1 ys.vs.length g1, .slice d2 ys.ws.length g2, .slice d3 ys.es.length g3, vi x.m.stamps, vi x.m.now, .slice a4 x.m.ds.length c4], .agg #[vi err, .slice none 0 0, vi 0, vi by_, vi 0, vi 0, .bool false, vi 0]]) (by simp [results, Try.results16, go_sem, r0, r1, r2, r3, r4, r5, r6, r7, s0, s1, s2, s3, s4, s5, s6, s7]) rfl ?_
    have hq : prep21 x.m r = (⟨ys, x.m.stamps, x.m.now, x.m.ds⟩, ⟨err, [], 0, by_, 0, zeroE'⟩) := by
      unfold prep21
      rw [← HBY.out, ← HER.out, ← HS7.out]
      rw [if_neg he]
    rw [hq]
    have hX := HXX.out
    have h4 := H4S.out
    have hP7 := HP.out
    have hw7 := HB7.out.size
    have := ap_ret2 (wf := w7) (y := ⟨.slice d1 ys.vs.length g1, .slice d2 ys.ws.length g2, .slice d3 ys.es.length g3, ys⟩) (q := (⟨ys, x.m.stamps, x.m.now, x.m.ds⟩, ⟨err, [], 0, by_, 0, zeroE'⟩)) HXA.out HHA.out HBW.out H4S.out HB7.out HK7.out (fun j h1 h2 => (HT.out.2.2.1 j (by omega) (by omega)).trans ((HO8.out j (by omega)).trans (H9B.out.block j h2))) ((HBk.out.trans HB8.out).trans HT.out.2.2.2) rfl rfl
    have he : shV ⟨.slice d1 ys.vs.length g1, .slice d2 ys.ws.length g2, .slice d3 ys.es.length g3, x.dv, ⟨ys, x.m.stamps, x.m.now, x.m.ds⟩⟩ = .agg #[.bool ys.serial, vi ys.bugs, .slice d1 ys.vs.length g1, .slice d2 ys.ws.length g2, .slice d3 ys.es.length g3, vi x.m.stamps, vi x.m.now, .slice a4 x.m.ds.length c4] := by unfold shV shC; rw [HXE.out]
    rw [he] at this
    exact this
end Go.Proofs.Ytdkkpkgfiodlbaa
