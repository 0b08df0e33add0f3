/- mvcc.ReadReady. -/
import Derived.Test.YtdkkpkgfiodlbaaMvBits
import Derived.Test.YtdkkpkgfiodlbaaBtSeq
import Derived.Deep.CutBlock
namespace Go.Proofs.Ytdkkpkgfiodlbaa
open Go.RowKit

abbrev OpBOk (o : GOp) : Prop := o.kind = 2 ∧ IntOk o.key ∧ IntOk o.val
/-- What is read as a transaction. -/
structure RdyBOk (r : Rdy) : Prop where
  txn : IntOk r.txn
  home : IntOk r.home
  start : IntOk r.start
  ws : SeqOk OpBOk r.writes
  rs : SeqOk IntOk r.reads
theorem op_read {s s1 s2 : Rd} {a b : Int} (h1 : RdOK intL IntOk s s1 a) (h2 : RdOK intL IntOk s1 s2 b) : RdOK opL OpBOk s s2 ⟨2, a, b⟩ :=
  (h1.seq h2).map (fun z : Int × Int => (⟨2, z.1, z.2⟩ : GOp)) (fun o => (o.key, o.val)) (fun o ho => ⟨⟨ho.2.1, ho.2.2⟩, rfl, by obtain ⟨k, a, b⟩ := o; have := ho.1; simp only at this; subst this; rfl⟩) (fun z hz => ⟨⟨rfl, hz.1, hz.2⟩, rfl⟩)
theorem rdy_read {s s1 s2 s3 s4 s5 : Rd} {a b c : Int} {ws : List GOp} {rs : List Int} (h1 : RdOK intL IntOk s s1 a) (h2 : RdOK intL IntOk s1 s2 b) (h3 : RdOK intL IntOk s2 s3 c) (h4 : RdOK (seqL opL) (SeqOk OpBOk) s3 s4 ws) (h5 : RdOK (seqL intL) (SeqOk IntOk) s4 s5 rs) : RdOK rdyBL RdyBOk s s5 ⟨a, b, c, ws, rs⟩ :=
  ((((h1.seq h2).seq h3).seq h4).seq h5).map (fun z => (⟨z.1.1.1.1, z.1.1.1.2, z.1.1.2, z.1.2, z.2⟩ : Rdy)) (fun r => ((((r.txn, r.home), r.start), r.writes), r.reads))
    (fun r hr => ⟨⟨⟨⟨⟨hr.txn, hr.home⟩, hr.start⟩, hr.ws⟩, hr.rs⟩, by simp [rdyBL, seqL, opsBL, intsBL], rfl⟩)
    (fun z hz => ⟨⟨hz.1.1.1.1, hz.1.1.1.2, hz.1.1.2, hz.1.2, hz.2⟩, by simp [rdyBL, seqL, opsBL, intsBL]⟩)
def RdyRQ (base p : Nat) (s : Rd) (w : World) (e : Ending) (w' : World) : Prop :=
  ∃ (x : RV) (s' : Rd), e = .returned (rdyV x) ∧ OwOps w.heap.size w' x.wv x.r.writes ∧ OwI w.heap.size w' x.rv x.r.reads ∧ RdyBOk x.r ∧ x.r.writes.length ≤ s.rest.length + 1 ∧ x.r.reads.length ≤ s.rest.length + 1 ∧
    RdOK rdyBL RdyBOk s s' x.r ∧ RdrS base p s' w' ∧ w.grownBy w' (some p)
/-- The reading of a transaction, in memory. -/
structure RRS (w : World) (base p X Y : Nat) (s : Rd) (a b c : Int) (wv rv : Value) (ws : List GOp) (rs : List Int) (W : World) : Prop where
  rd : RdrS base p s W
  gro : w.grownBy W (some p)
  res : W.heap[X]? = some (.cells #[vi 0, vi 0, vi 0, .slice none 0 0, .slice none 0 0] 29)
  box : W.heap[Y]? = some (.cells #[vi a, vi b, vi c, wv, rv] 29)
  ows : OwOps w.heap.size W wv ws
  ors : OwI w.heap.size W rv rs
  px : p < w.heap.size
  lx : w.heap.size ≤ X
  ly : w.heap.size ≤ Y
  xy : X ≠ Y
theorem RRS.y3 {w : World} {base p X Y : Nat} {s : Rd} {a b c : Int} {wv rv : Value} {ws : List GOp} {rs : List Int} {W : World} (h : RRS w base p X Y s a b c wv rv ws rs W) : W.cell? ⟨Y, 3, none⟩ = some wv := by rw [Bt.cell_of h.box]; rfl
theorem RRS.y4 {w : World} {base p X Y : Nat} {s : Rd} {a b c : Int} {wv rv : Value} {ws : List GOp} {rs : List Int} {W : World} (h : RRS w base p X Y s a b c wv rv ws rs W) : W.cell? ⟨Y, 4, none⟩ = some rv := by rw [Bt.cell_of h.box]; rfl
theorem RRS.fy {w : World} {base p X Y : Nat} {s : Rd} {a b c : Int} {wv rv : Value} {ws : List GOp} {rs : List Int} {W : World} (h : RRS w base p X Y s a b c wv rv ws rs W) (o : Nat) : W.frozen? ⟨Y, o, none⟩ = false := Bt.free_of h.box o
theorem own_ne {w : World} {base e size n p : Nat} {v : Value} {xs : List Value} (h : w.ownsRow base e size v n xs) (hp : p < base) : v.ownBlock = none ∨ v.ownBlock ≠ some p := by
  cases hv : v.ownBlock with
  | none => exact .inl rfl
  | some g => exact .inr (fun e => by cases e; have := (h.lt _ hv).1; omega)
theorem RRS.read {w : World} {base p X Y : Nat} {s s' : Rd} {a b c : Int} {wv rv : Value} {ws : List GOp} {rs : List Int} {A B : World} (h : RRS w base p X Y s a b c wv rv ws rs A) (hg : A.grownBy B (some p)) (hs : RdrS base p s' B) : RRS w base p X Y s' a b c wv rv ws rs B :=
  ⟨hs, gro_trans h.gro hg, (hg.block X (Array.getElem?_eq_some_iff.1 h.res).1 (fun e => by have := Option.some.inj e; have := h.px; have := h.lx; omega)).trans h.res,
    (hg.block Y (Array.getElem?_eq_some_iff.1 h.box).1 (fun e => by have := Option.some.inj e; have := h.px; have := h.ly; omega)).trans h.box,
    World.ownsRow.kept h.ows hg (own_ne h.ows h.px), World.ownsRow.kept h.ors hg (own_ne h.ors h.px), h.px, h.lx, h.ly, h.xy⟩
theorem RRS.alloc {w : World} {base p X Y : Nat} {s : Rd} {a b c : Int} {wv rv : Value} {ws : List GOp} {rs : List Int} {A : World} (h : RRS w base p X Y s a b c wv rv ws rs A) (o : Obj) : RRS w base p X Y s a b c wv rv ws rs (A.alloc o) :=
  h.read (World.grownBy_alloc A o _) (h.rd.later ((Below.refl _ _).alloc (Nat.le_refl _) o))
theorem RRS.drew {w : World} {base p X Y : Nat} {s : Rd} {a b c : Int} {wv rv : Value} {ws : List GOp} {rs : List Int} {A : World} (h : RRS w base p X Y s a b c wv rv ws rs A) : RRS w base p X Y s a b c wv rv ws rs A.drew :=
  h.read ⟨rfl, rfl, rfl, Nat.le_refl _, fun _ _ _ => rfl⟩ h.rd
theorem row_ne {w : World} {base e size n j : Nat} {v : Value} {xs : List Value} {cs : Array Value} {T : TypeId} {fz : Nat × Nat} (h : w.ownsRow base e size v n xs) (hj : w.heap[j]? = some (.cells cs T fz)) (hT : T ≠ e) : some j ≠ v.ownBlock := by
  intro hv
  rcases h.2 with ⟨rfl, _⟩ | ⟨g, cap, cur, rfl, _, hh, _⟩
  · cases hv
  · simp only [Value.ownBlock, Option.some.injEq] at hv; subst hv; rw [hh] at hj; cases hj; exact hT rfl
theorem RdrS.grown {base p b e size n : Nat} {s : Rd} {v : Value} {xs : List Value} {A B : World} (h : RdrS base p s A) (hr : A.ownsRow b e size v n xs) (hg : A.grownBy B v.ownBlock) (h1 : e ≠ 155) (h2 : e ≠ 5) : RdrS base p s B := by
  obtain ⟨hp, v', bs, at', a1, a2, a3⟩ := h
  refine ⟨hp, v', bs, at', (hg.block p (Array.getElem?_eq_some_iff.1 a1).1 (row_ne hr a1 (fun e => h1 e.symm))).trans a1, World.ownsRow.kept a2 hg ?_, a3⟩
  rcases a2.2 with ⟨hv, _⟩ | ⟨g, cap, cur, hv, _, hh, _⟩
  · left; rw [hv]; rfl
  · right; rw [hv]; exact row_ne hr hh (fun e => h2 e.symm)
theorem RdrS.setO {base p Y o : Nat} {s : Rd} {A : World} (h : RdrS base p s A) {cs : Array Value} {T : TypeId} (hY : A.heap[Y]? = some (.cells cs T)) (h1 : T ≠ 155) (h2 : T ≠ 5) (u : Value) : RdrS base p s (A.setCell ⟨Y, o, none⟩ u) := by
  obtain ⟨hp, v', bs, at', a1, a2, a3⟩ := h
  refine ⟨hp, v', bs, at', Bt.cells_other _ a1 (fun e => by subst e; rw [hY] at a1; cases a1; exact h1 rfl), Bt.own_frame a2 (fun g hg => ?_), a3⟩
  refine Bt.cells_other _ rfl (fun e => ?_)
  subst e
  rcases a2.2 with ⟨hv, _⟩ | ⟨g', cap, cur, hv, _, hh, _⟩
  · rw [hv] at hg; cases hg
  · rw [hv] at hg; simp only [Value.ownBlock, Option.some.injEq] at hg; subst hg; rw [hY] at hh; cases hh; exact h2 rfl
theorem own_setO {A : World} {b e size n Y o : Nat} {v : Value} {xs : List Value} (h : A.ownsRow b e size v n xs) {cs : Array Value} {T : TypeId} (hY : A.heap[Y]? = some (.cells cs T)) (h1 : T ≠ e) (u : Value) : (A.setCell ⟨Y, o, none⟩ u).ownsRow b e size v n xs :=
  Bt.own_frame h (fun g hg => Bt.cells_other _ rfl (fun e => by
    subst e
    rcases h.2 with ⟨hv, _⟩ | ⟨g', cap, cur, hv, _, hh, _⟩
    · rw [hv] at hg; cases hg
    · rw [hv] at hg; simp only [Value.ownBlock, Option.some.injEq] at hg; subst hg; rw [hY] at hh; cases hh; exact h1 rfl))
theorem own_apart' {w : World} {b1 b2 e1 e2 s1 s2 n1 n2 : Nat} {v1 v2 : Value} {xs1 xs2 : List Value} (h1 : w.ownsRow b1 e1 s1 v1 n1 xs1) (h2 : w.ownsRow b2 e2 s2 v2 n2 xs2) (hne : e1 ≠ e2) : v1.ownBlock = none ∨ v1.ownBlock ≠ v2.ownBlock := by
  rcases h1.2 with ⟨hv, _⟩ | ⟨g, cap, cur, hv, _, hh, _⟩
  · left; rw [hv]; rfl
  · right; rw [hv]; exact row_ne h2 hh hne
/-- One operation more. -/
theorem RRS.addW {w : World} {base p X Y : Nat} {s : Rd} {a b c : Int} {wv wv' rv : Value} {ws : List GOp} {rs : List Int} {A B : World} (o : GOp) (h : RRS w base p X Y s a b c wv rv ws rs A) (hg : A.grownBy B wv.ownBlock) (hr : B.ownsRow w.heap.size 104 3 wv' (ws.length + 1) (ws.flatMap opV ++ opV o)) :
    RRS w base p X Y s a b c wv' rv (ws ++ [o]) rs (B.setCell ⟨Y, 3, none⟩ wv') := by
  have hY : B.heap[Y]? = _ := (hg.block Y (Array.getElem?_eq_some_iff.1 h.box).1 (row_ne h.ows h.box (by decide))).trans h.box
  have hX : B.heap[X]? = _ := (hg.block X (Array.getElem?_eq_some_iff.1 h.res).1 (row_ne h.ows h.res (by decide))).trans h.res
  have hor : OwI w.heap.size B rv rs := World.ownsRow.kept h.ors hg (own_apart' h.ors h.ows (by decide))
  have hrow : OwOps w.heap.size B wv' (ws ++ [o]) := by
    show World.ownsRow _ _ _ _ _ _ _
    rw [List.length_append, List.flatMap_append]; simpa using hr
  have hgro : w.grownBy B (some p) := ⟨hg.os.trans h.gro.os, hg.tape.trans h.gro.tape, hg.output.trans h.gro.output, Nat.le_trans h.gro.size hg.size, fun k hk hne => (hg.block k (Nat.lt_of_lt_of_le hk h.gro.size) (fun e => by have := (World.ownsRow.lt h.ows k e.symm).1; omega)).trans (h.gro.block k hk hne)⟩
  refine ⟨(h.rd.grown h.ows hg (by decide) (by decide)).setO hY (by decide) (by decide) _, ⟨hgro.os, hgro.tape, hgro.output, by simpa [World.setCell] using hgro.size, fun k hk hne => (Bt.cells_other _ rfl (fun e => by subst e; have := h.ly; omega)).trans (hgro.block k hk hne)⟩, Bt.cells_other _ hX h.xy, ?_, own_setO hrow hY (by decide) _, own_setO hor hY (by decide) _, h.px, h.lx, h.ly, h.xy⟩
  exact Bt.cells_set _ hY
theorem RRS.addR {w : World} {base p X Y : Nat} {s : Rd} {a b c : Int} {wv rv rv' : Value} {ws : List GOp} {rs : List Int} {A B : World} (o : Int) (h : RRS w base p X Y s a b c wv rv ws rs A) (hg : A.grownBy B rv.ownBlock) (hr : B.ownsRow w.heap.size 3 1 rv' (rs.length + 1) (rs.flatMap viC ++ [vi o])) :
    RRS w base p X Y s a b c wv rv' ws (rs ++ [o]) (B.setCell ⟨Y, 4, none⟩ rv') := by
  have hY : B.heap[Y]? = _ := (hg.block Y (Array.getElem?_eq_some_iff.1 h.box).1 (row_ne h.ors h.box (by decide))).trans h.box
  have hX : B.heap[X]? = _ := (hg.block X (Array.getElem?_eq_some_iff.1 h.res).1 (row_ne h.ors h.res (by decide))).trans h.res
  have hor : OwOps w.heap.size B wv ws := World.ownsRow.kept h.ows hg (own_apart' h.ows h.ors (by decide))
  have hrow : OwI w.heap.size B rv' (rs ++ [o]) := by
    show World.ownsRow _ _ _ _ _ _ _
    rw [List.length_append, List.flatMap_append]; simpa [viC] using hr
  have hgro : w.grownBy B (some p) := ⟨hg.os.trans h.gro.os, hg.tape.trans h.gro.tape, hg.output.trans h.gro.output, Nat.le_trans h.gro.size hg.size, fun k hk hne => (hg.block k (Nat.lt_of_lt_of_le hk h.gro.size) (fun e => by have := (World.ownsRow.lt h.ors k e.symm).1; omega)).trans (h.gro.block k hk hne)⟩
  refine ⟨(h.rd.grown h.ors hg (by decide) (by decide)).setO hY (by decide) (by decide) _, ⟨hgro.os, hgro.tape, hgro.output, by simpa [World.setCell] using hgro.size, fun k hk hne => (Bt.cells_other _ rfl (fun e => by subst e; have := h.ly; omega)).trans (hgro.block k hk hne)⟩, Bt.cells_other _ hX h.xy, ?_, own_setO hor hY (by decide) _, own_setO hrow hY (by decide) _, h.px, h.lx, h.ly, h.xy⟩
  exact Bt.cells_set _ hY
def setReady (W : World) (X : Nat) (a b c : Int) (wv rv : Value) : World := ((((W.setCell ⟨X, 0, none⟩ (vi a)).setCell ⟨X, 1, none⟩ (vi b)).setCell ⟨X, 2, none⟩ (vi c)).setCell ⟨X, 3, none⟩ wv).setCell ⟨X, 4, none⟩ rv
theorem gro_setNew {w A : World} {r : Option Nat} {X o : Nat} (h : w.grownBy A r) (hX : w.heap.size ≤ X) (u : Value) : w.grownBy (A.setCell ⟨X, o, none⟩ u) r :=
  ⟨h.os, h.tape, h.output, by simpa [World.setCell] using h.size, fun k hk hne => (Bt.cells_other _ rfl (fun e => by omega)).trans (h.block k hk hne)⟩
theorem RRS.done {w : World} {base p X Y : Nat} {s : Rd} {a b c : Int} {wv rv : Value} {ws : List GOp} {rs : List Int} {W : World} (h : RRS w base p X Y s a b c wv rv ws rs W) :
    (setReady W X a b c wv rv).heap[X]? = some (.cells #[vi a, vi b, vi c, wv, rv] 29) ∧ OwOps w.heap.size (setReady W X a b c wv rv) wv ws ∧ OwI w.heap.size (setReady W X a b c wv rv) rv rs ∧ RdrS base p s (setReady W X a b c wv rv) ∧ w.grownBy (setReady W X a b c wv rv) (some p) := by
  have h0 := h.res
  have h1 := Bt.cells_set (o := 0) (vi a) h0
  have h2 := Bt.cells_set (o := 1) (vi b) h1
  have h3 := Bt.cells_set (o := 2) (vi c) h2
  have h4 := Bt.cells_set (o := 3) wv h3
  have h5 := Bt.cells_set (o := 4) rv h4
  exact ⟨h5, own_setO (own_setO (own_setO (own_setO (own_setO h.ows h0 (by decide) _) h1 (by decide) _) h2 (by decide) _) h3 (by decide) _) h4 (by decide) _,
    own_setO (own_setO (own_setO (own_setO (own_setO h.ors h0 (by decide) _) h1 (by decide) _) h2 (by decide) _) h3 (by decide) _) h4 (by decide) _,
    ((((h.rd.setO h0 (by decide) (by decide) _).setO h1 (by decide) (by decide) _).setO h2 (by decide) (by decide) _).setO h3 (by decide) (by decide) _).setO h4 (by decide) (by decide) _,
    gro_setNew (gro_setNew (gro_setNew (gro_setNew (gro_setNew h.gro h.lx _) h.lx _) h.lx _) h.lx _) h.lx _⟩
theorem RdrS.restLe {base p : Nat} {s : Rd} {W : World} (h : RdrS base p s W) : s.rest.length ≤ 8388608 := by
  obtain ⟨_, v, bs, at', _, _, _, h4, _, h6⟩ := h
  rw [← h6, List.length_drop, bitsOf_length]; omega
set_option maxRecDepth 100000 in
set_option maxHeartbeats 8000000 in
theorem rdyR_call {base p : Nat} {s : Rd} (w : World) (h : RdrS base p s w) :
    Calls Try.prog 51 #[.pointer (some ⟨p, 0, none⟩)] w (RdyRQ base p s w) := by
  have hp := h.lt
  have HW := Lib.hid h
  clear h
  go_enter Try.func51, Try.ntmps51
  go_upto_region 1 with fail
  have hba : w.heap.size < (w.alloc (.cells #[vi 0, vi 0, vi 0, .slice none 0 0, .slice none 0 0] 29)).heap.size := by simp
  have HXA := Lib.hid (Bt.alloc_at w (.cells #[vi 0, vi 0, vi 0, .slice none 0 0, .slice none 0 0] 29))
  have HSA := Lib.hid (HW.out.later ((Below.refl w.heap.size w).alloc (Nat.le_refl _) (.cells #[vi 0, vi 0, vi 0, .slice none 0 0, .slice none 0 0] 29)))
  have HGA := Lib.hid (World.grownBy_alloc w (.cells #[vi 0, vi 0, vi 0, .slice none 0 0, .slice none 0 0] 29) (some p))
  generalize w.alloc (.cells #[vi 0, vi 0, vi 0, .slice none 0 0, .slice none 0 0] 29) = wa at *
  go_upto_region 2 with (first
    | (go_at_call 50; refine (intR_call w2 HS2.out).mono ?_; rintro e3 w3 ⟨z3, s3, rfl, hz3, hr3, hs3, hg3⟩; have HR3 := Lib.hid hr3; have HS3 := Lib.hid hs3; have HG3 := Lib.hid hg3; clear hr3 hs3 hg3)
    | (go_at_call 50; refine (intR_call w1 HS1.out).mono ?_; rintro e2 w2 ⟨z2, s2, rfl, hz2, hr2, hs2, hg2⟩; have HR2 := Lib.hid hr2; have HS2 := Lib.hid hs2; have HG2 := Lib.hid hg2; clear hr2 hs2 hg2)
    | (go_at_call 50; refine (intR_call wa HSA.out).mono ?_; rintro e1 w1 ⟨z1, s1, rfl, hz1, hr1, hs1, hg1⟩; have HR1 := Lib.hid hr1; have HS1 := Lib.hid hs1; have HG1 := Lib.hid hg1; clear hr1 hs1 hg1))
  have HG13 := Lib.hid (gro_trans (gro_trans HG1.out HG2.out) HG3.out)
  have hX3 : w3.heap[w.heap.size]? = some (.cells #[vi 0, vi 0, vi 0, .slice none 0 0, .slice none 0 0] 29) := (HG13.out.block w.heap.size hba (fun e => by have := Option.some.inj e; omega)).trans HXA.out
  have hw3s := HG13.out.size
  have HI3 := Lib.hid (show RRS w base p w.heap.size w3.heap.size s3 z1 z2 z3 (.slice none 0 0) (.slice none 0 0) [] [] (w3.alloc (.cells #[vi z1, vi z2, vi z3, .slice none 0 0, .slice none 0 0] 29)) from
    ⟨HS3.out.later ((Below.refl _ _).alloc (Nat.le_refl _) _), gro_trans (gro_trans HGA.out HG13.out) (World.grownBy_alloc _ _ _), (Below.heap_alloc _ _ _ (by omega)).trans hX3, Bt.alloc_at _ _, World.ownsRow_nil _ _ _ _, World.ownsRow_nil _ _ _ _, hp, Nat.le_refl _, by omega, by omega⟩)
  obtain ⟨X, hXX⟩ : ∃ X, X = w.heap.size := ⟨_, rfl⟩
  obtain ⟨Y, hYY⟩ : ∃ Y, Y = w3.heap.size := ⟨_, rfl⟩
  rw [← hYY] at HI3 ⊢
  rw [show RRS w base p w.heap.size = RRS w base p X by rw [hXX]] at HI3
  rw [← hXX]
  have HXX := Lib.hid hXX
  clear hXX hYY hX3 hw3s HSA HGA HXA HS1 HS2 HS3 HG1 HG2 HG3
  generalize w3.alloc (.cells #[vi z1, vi z2, vi z3, .slice none 0 0, .slice none 0 0] 29) = w4 at *
  go_wp2_with (go_at_call 55; refine (numR_call w4 HI3.out.rd).mono ?_; rintro e5 w5 ⟨n5, s5, rfl, hn5, hr5, hs5, hg5⟩; have HR5 := Lib.hid hr5; have HI5 := Lib.hid (HI3.out.read hg5 hs5); clear hr5 hs5 hg5)
  have hrl := HI5.out.rd.restLe
  go_loopw [4] (fun t wr => ∃ m : Nat, t = .int .u64 (m : Nat) ∧ m < 2 ^ 64 ∧ Hid (∃ (sk : Rd) (wv : Value) (ws : List GOp), RRS w base p X Y sk z1 z2 z3 wv (.slice none 0 0) ws [] wr ∧ RdOK (fun l : List GOp => l.flatMap opL) (LenOk OpBOk ws.length) s5 sk ws ∧ ws.length + m = n5 ∧ (∀ o ∈ ws, OpBOk o) ∧ (sk.bad = 0 → ws.length + sk.rest.length ≤ s5.rest.length) ∧ ws.length ≤ s5.rest.length + 1 ∧ (s5.bad ≠ 0 → ws = []))) (fun t _ => (intOf t).toNat)
  case atStart => exact ⟨n5, rfl, hn5, Lib.hid ⟨s5, _, [], HI5.out, RdOK.none _, by simp, (fun o h => by cases h), (fun _ => by simp), by simp, fun _ => rfl⟩⟩
  case round =>
    obtain ⟨wj, rfl⟩ : ∃ wj : World, wj = wr := ⟨_, rfl⟩
    obtain ⟨m, rfl, hm, HJ⟩ := hrel
    obtain ⟨sk, wv, ws, hI, hR, hn, hok, hlen, hle, hs5b⟩ := HJ.out
    have HI := Lib.hid hI
    have HR := Lib.hid hR
    have HN := Lib.hid hn
    have HOK := Lib.hid hok
    have HLEN := Lib.hid hlen
    have HS5B := Lib.hid hs5b
    clear HJ hI hR hn hok hlen hs5b
    have fin : (m = 0 ∨ sk.bad ≠ 0) → RdOK (seqL opL) (SeqOk OpBOk) s3 sk ws ∧ (ws.length ≤ s3.rest.length + 1) ∧ (s3.bad ≠ 0 → ws = []) := by
      intro hc
      have hRn : RdOK (fun l : List GOp => l.flatMap opL) (LenOk OpBOk n5) s5 sk ws := by
        have hn := HN.out
        rcases hc with h0 | hb
        · rw [h0, Nat.add_zero] at hn; rw [← hn]; exact HR.out
        · exact HR.out.cut hb (by omega)
      refine ⟨HR5.out.dep hRn, ?_, fun h3 => HS5B.out (HR5.out.was h3)⟩
      by_cases h5 : s5.bad = 0
      · have := HR5.out.less h5; omega
      · rw [HS5B.out h5]; simp
    have FIN := Lib.hid fin
    clear fin
    by_cases hm0 : m = 0
    · have h1 : decide ((0 : Int) < m) = false := decide_eq_false (by omega)
      have h2 : decide (0 < m) = false := decide_eq_false (by omega)
      have HM0 := Lib.hid hm0
      clear hm0
      go_wp2_with (go_at_call 55; refine (numR_call wj HI.out.rd).mono ?_; rintro e8 w8 ⟨n8, s8, rfl, hn8, hr8, hs8, hg8⟩; have HR8 := Lib.hid hr8; have HI8 := Lib.hid (HI.out.read hg8 hs8); clear hr8 hs8 hg8)
      have hF1 := FIN.out (.inl HM0.out)
      have hrl8 := HI8.out.rd.restLe
      go_loopw [5] (fun t wr => ∃ m : Nat, t = .int .u64 (m : Nat) ∧ m < 2 ^ 64 ∧ Hid (∃ (sk : Rd) (rv : Value) (rs : List Int), RRS w base p X Y sk z1 z2 z3 wv rv ws rs wr ∧ RdOK (fun l : List Int => l.flatMap intL) (LenOk IntOk rs.length) s8 sk rs ∧ rs.length + m = n8 ∧ (∀ o ∈ rs, IntOk o) ∧ (sk.bad = 0 → rs.length + sk.rest.length ≤ s8.rest.length) ∧ rs.length ≤ s8.rest.length + 1 ∧ (s8.bad ≠ 0 → rs = []))) (fun t _ => (intOf t).toNat)
      case atStart => exact ⟨n8, rfl, hn8, Lib.hid ⟨s8, _, [], HI8.out, RdOK.none _, by simp, (fun o h => by cases h), (fun _ => by simp), by simp, fun _ => rfl⟩⟩
      case round =>
        obtain ⟨wq, rfl⟩ : ∃ wq : World, wq = wr := ⟨_, rfl⟩
        obtain ⟨m', rfl, hm', HJ⟩ := hrel
        obtain ⟨sq, rv, rs, hI, hR, hn, hok, hlen, hle2, hs8b⟩ := HJ.out
        have HQ := Lib.hid hI
        have HRQ := Lib.hid hR
        have HNQ := Lib.hid hn
        have HOKQ := Lib.hid hok
        have HLENQ := Lib.hid hlen
        have HS8B := Lib.hid hs8b
        have HF1 := Lib.hid hF1
        clear HJ hI hR hn hok hlen hs8b hF1
        have fin : (m' = 0 ∨ sq.bad ≠ 0) → RdOK rdyBL RdyBOk s sq ⟨z1, z2, z3, ws, rs⟩ ∧ rs.length ≤ s.rest.length + 1 ∧ ws.length ≤ s.rest.length + 1 ∧ RdyBOk ⟨z1, z2, z3, ws, rs⟩ := by
          intro hc
          have hRn : RdOK (fun l : List Int => l.flatMap intL) (LenOk IntOk n8) s8 sq rs := by
            have hn := HNQ.out
            rcases hc with h0 | hb
            · rw [h0, Nat.add_zero] at hn; rw [← hn]; exact HRQ.out
            · exact HRQ.out.cut hb (by omega)
          have hd := HR8.out.dep hRn
          have hws := HF1.out.2.1
          have hrr := HF1.out.2.2
          have hw64 : ws.length < 2 ^ 64 := by have := HN.out; omega
          have hr64 : rs.length < 2 ^ 64 := by have := HNQ.out; omega
          refine ⟨rdy_read HR1.out HR2.out HR3.out HF1.out.1 hd, ?_, ?_, ⟨hz1, hz2, hz3, ⟨hw64, HOK.out⟩, ⟨hr64, HOKQ.out⟩⟩⟩
          · by_cases h8 : s8.bad = 0
            · have := HR8.out.less h8
              have h6 := (HR8.out.2 h8).1
              have := HF1.out.1.less h6
              have h3 := (HF1.out.1.2 h6).1
              have := HR3.out.less h3
              have h2 := (HR3.out.2 h3).1
              have := HR2.out.less h2
              have h1 := (HR2.out.2 h2).1
              have := HR1.out.less h1
              omega
            · rw [HS8B.out h8]; simp
          · by_cases h3 : s3.bad = 0
            · have := HR3.out.less h3
              have h2 := (HR3.out.2 h3).1
              have := HR2.out.less h2
              have h1 := (HR2.out.2 h2).1
              have := HR1.out.less h1
              omega
            · rw [hrr h3]; simp
        have FIN2 := Lib.hid fin
        clear fin
        by_cases hm0 : m' = 0
        · have h1 : decide ((0 : Int) < m') = false := decide_eq_false (by omega)
          have h2 : decide (0 < m') = false := decide_eq_false (by omega)
          have HC := Lib.hid (show m' = 0 ∨ sq.bad ≠ 0 from .inl hm0)
          clear hm0
          obtain ⟨aw, cw, rfl⟩ := Bt.own_shape HQ.out.ows
          obtain ⟨ar, cr, rfl⟩ := Bt.own_shape HQ.out.ors
          have c0 : wq.cell? ⟨Y, 0, none⟩ = some (vi z1) := by rw [Bt.cell_of HQ.out.box]; rfl
          have c1 : wq.cell? ⟨Y, 1, none⟩ = some (vi z2) := by rw [Bt.cell_of HQ.out.box]; rfl
          have c2 : wq.cell? ⟨Y, 2, none⟩ = some (vi z3) := by rw [Bt.cell_of HQ.out.box]; rfl
          have c3 := HQ.out.y3
          have c4 := HQ.out.y4
          have d0 : ∀ o, wq.frozen? ⟨X, o, none⟩ = false := fun o => Bt.free_of HQ.out.res o
          have e0 : wq.cell? ⟨X, 0, none⟩ = some (vi 0) := by rw [Bt.cell_of HQ.out.res]; rfl
          have e1 : wq.cell? ⟨X, 1, none⟩ = some (vi 0) := by rw [Bt.cell_of HQ.out.res]; rfl
          have e2 : wq.cell? ⟨X, 2, none⟩ = some (vi 0) := by rw [Bt.cell_of HQ.out.res]; rfl
          have e3 : wq.cell? ⟨X, 3, none⟩ = some (.slice none 0 0) := by rw [Bt.cell_of HQ.out.res]; rfl
          have e4 : wq.cell? ⟨X, 4, none⟩ = some (.slice none 0 0) := by rw [Bt.cell_of HQ.out.res]; rfl
          go_wp2_with (go_at_call 56; refine (err_call wq HQ.out.rd).mono ?_; rintro e9 w9 ⟨rfl, rfl⟩)
          change bodyPost _ _ _ _ _ (setReady wq X z1 z2 z3 (.slice aw ws.length cw) (.slice ar rs.length cr))
          have HD := Lib.hid HQ.out.done
          clear c0 c1 c2 c3 c4 d0 e0 e1 e2 e3 e4
          generalize setReady wq X z1 z2 z3 (.slice aw ws.length cw) (.slice ar rs.length cr) = wz at *
          have r0 : wz.cell? ⟨X, 0, none⟩ = some (vi z1) := by rw [Bt.cell_of HD.out.1]; rfl
          have r1 : wz.cell? ⟨X, 1, none⟩ = some (vi z2) := by rw [Bt.cell_of HD.out.1]; rfl
          have r2 : wz.cell? ⟨X, 2, none⟩ = some (vi z3) := by rw [Bt.cell_of HD.out.1]; rfl
          have r3 : wz.cell? ⟨X, 3, none⟩ = some (.slice aw ws.length cw) := by rw [Bt.cell_of HD.out.1]; rfl
          have r4 : wz.cell? ⟨X, 4, none⟩ = some (.slice ar rs.length cr) := by rw [Bt.cell_of HD.out.1]; rfl
          obtain ⟨f1, f2, f3, f4⟩ := FIN2.out HC.out
          exact bodyPost_ret (v := rdyV ⟨.slice aw ws.length cw, .slice ar rs.length cr, ⟨z1, z2, z3, ws, rs⟩⟩) (by simp [results, Try.results51, go_sem, rdyV, rdyC, r0, r1, r2, r3, r4]) rfl ⟨_, sq, rfl, HD.out.2.1, HD.out.2.2.1, f4, f3, f2, f1, HD.out.2.2.2.1, HD.out.2.2.2.2⟩
        · have h1 : decide ((0 : Int) < m') = true := decide_eq_true (by omega)
          have h2 : decide (0 < m') = true := decide_eq_true (by omega)
          by_cases hb : sq.bad = 0
          · have hb1 : (sq.bad == 0) = true := by simp [hb]
            have HB := Lib.hid hb
            clear hb
            go_upto_region 9 with (go_at_call 56; refine (err_call wq HQ.out.rd).mono ?_; rintro e9 w9 ⟨rfl, rfl⟩)
            obtain ⟨m', rfl⟩ : ∃ m'', m' = m'' + 1 := ⟨m' - 1, by omega⟩
            obtain ⟨ar, cr, rfl⟩ := Bt.own_shape HQ.out.ors
            have HID := Lib.hid (HQ.out.drew)
            have y3 := HQ.out.y4
            have y3' := HID.out.y4
            have hwm : IntKind.u64.wrap (m' : Int) = (m' : Int) := by rw [IntKind.wrap_u64]; omega
            have hbw := HQ.out.gro.size
            have hwl : rs.length + 1 ≤ 68719476736 := by omega
            clear hm0
            go_region_law (first
              | (go_simp; go_at_call 50; refine (intR_call _ HID.out.rd).mono ?_; rintro ea1 wa1 ⟨q1, t1, rfl, hq1, hra, hsa, hga⟩; have HRA := Lib.hid hra; have HA1 := Lib.hid (HID.out.read hga hsa); have hbw1 : w.heap.size ≤ wa1.heap.size := Nat.le_trans hbw hga.size; have y3a := HA1.out.y4; have y3a' := (fun o => (HA1.out.alloc o).y4); clear hra hsa hga)
              | (refine step_append_src rfl _ _ 27 rfl eltI w.heap.size rs.length _ ((HA1.out.alloc _).ors) rfl 1 [vi q1] (src_new (cs := #[vi q1]) rfl rfl) rfl (by intro u hu; simp at hu; subst hu; rfl) hwl (by omega) (by simp; omega) ?_; intro vc1 wc1 hoc hgc _; obtain ⟨gc, cc, rfl⟩ := Bt.own_some hoc (by omega); have HC1 := Lib.hid ((HA1.out.alloc (.cells #[vi q1] 3)).addR q1 hgc hoc); have hYc : wc1.heap[Y]? = _ := (hgc.block Y (Array.getElem?_eq_some_iff.1 (HA1.out.alloc (.cells #[vi q1] 3)).box).1 (row_ne (HA1.out.alloc (.cells #[vi q1] 3)).ors (HA1.out.alloc (.cells #[vi q1] 3)).box (by decide))).trans (HA1.out.alloc (.cells #[vi q1] 3)).box; have y3c : wc1.cell? ⟨Y, 4, none⟩ = some (.slice ar rs.length cr) := (by rw [Bt.cell_of hYc]; rfl); have f3c : wc1.frozen? ⟨Y, 4, none⟩ = false := Bt.free_of hYc 4; clear hoc hgc hYc))
            all_goals
              go_wp2
              refine ⟨⟨m', by go_num, by omega, Lib.hid ⟨t1, _, rs ++ [q1], HC1.out, ?_, ?_, ?_, ?_, ?_, ?_⟩⟩, by simp only [intOf]; omega⟩
              · rw [List.length_append]; exact HRQ.out.snoc HRA.out
              · have := HNQ.out; simp; omega
              · intro o ho
                rcases List.mem_append.1 ho with ho | ho
                · exact HOKQ.out o ho
                · simp at ho; subst ho; exact hq1
              · intro h
                have e1 := HRA.out.less h
                have e2 := HLENQ.out HB.out
                have e3 := numL_pos (x := zig q1) (by have := zig_lt hq1.1 hq1.2; omega)
                have e4 : 1 ≤ (intL q1).length := e3
                simp; omega
              · have e2 := HLENQ.out HB.out
                simp; omega
              · intro h
                exact absurd ((HRQ.out.2 HB.out).1) h
          · have hb1 : (sq.bad == 0) = false := by simp [hb]
            have HC := Lib.hid (show m' = 0 ∨ sq.bad ≠ 0 from .inr hb)
            clear hb
            obtain ⟨aw, cw, rfl⟩ := Bt.own_shape HQ.out.ows
            obtain ⟨ar, cr, rfl⟩ := Bt.own_shape HQ.out.ors
            have c0 : wq.cell? ⟨Y, 0, none⟩ = some (vi z1) := by rw [Bt.cell_of HQ.out.box]; rfl
            have c1 : wq.cell? ⟨Y, 1, none⟩ = some (vi z2) := by rw [Bt.cell_of HQ.out.box]; rfl
            have c2 : wq.cell? ⟨Y, 2, none⟩ = some (vi z3) := by rw [Bt.cell_of HQ.out.box]; rfl
            have c3 := HQ.out.y3
            have c4 := HQ.out.y4
            have d0 : ∀ o, wq.frozen? ⟨X, o, none⟩ = false := fun o => Bt.free_of HQ.out.res o
            have e0 : wq.cell? ⟨X, 0, none⟩ = some (vi 0) := by rw [Bt.cell_of HQ.out.res]; rfl
            have e1 : wq.cell? ⟨X, 1, none⟩ = some (vi 0) := by rw [Bt.cell_of HQ.out.res]; rfl
            have e2 : wq.cell? ⟨X, 2, none⟩ = some (vi 0) := by rw [Bt.cell_of HQ.out.res]; rfl
            have e3 : wq.cell? ⟨X, 3, none⟩ = some (.slice none 0 0) := by rw [Bt.cell_of HQ.out.res]; rfl
            have e4 : wq.cell? ⟨X, 4, none⟩ = some (.slice none 0 0) := by rw [Bt.cell_of HQ.out.res]; rfl
            go_wp2_with (go_at_call 56; refine (err_call wq HQ.out.rd).mono ?_; rintro e9 w9 ⟨rfl, rfl⟩)
            change bodyPost _ _ _ _ _ (setReady wq X z1 z2 z3 (.slice aw ws.length cw) (.slice ar rs.length cr))
            have HD := Lib.hid HQ.out.done
            clear c0 c1 c2 c3 c4 d0 e0 e1 e2 e3 e4
            generalize setReady wq X z1 z2 z3 (.slice aw ws.length cw) (.slice ar rs.length cr) = wz at *
            have r0 : wz.cell? ⟨X, 0, none⟩ = some (vi z1) := by rw [Bt.cell_of HD.out.1]; rfl
            have r1 : wz.cell? ⟨X, 1, none⟩ = some (vi z2) := by rw [Bt.cell_of HD.out.1]; rfl
            have r2 : wz.cell? ⟨X, 2, none⟩ = some (vi z3) := by rw [Bt.cell_of HD.out.1]; rfl
            have r3 : wz.cell? ⟨X, 3, none⟩ = some (.slice aw ws.length cw) := by rw [Bt.cell_of HD.out.1]; rfl
            have r4 : wz.cell? ⟨X, 4, none⟩ = some (.slice ar rs.length cr) := by rw [Bt.cell_of HD.out.1]; rfl
            obtain ⟨f1, f2, f3, f4⟩ := FIN2.out HC.out
            exact bodyPost_ret (v := rdyV ⟨.slice aw ws.length cw, .slice ar rs.length cr, ⟨z1, z2, z3, ws, rs⟩⟩) (by simp [results, Try.results51, go_sem, rdyV, rdyC, r0, r1, r2, r3, r4]) rfl ⟨_, sq, rfl, HD.out.2.1, HD.out.2.2.1, f4, f3, f2, f1, HD.out.2.2.2.1, HD.out.2.2.2.2⟩
    · have h1 : decide ((0 : Int) < m) = true := decide_eq_true (by omega)
      have h2 : decide (0 < m) = true := decide_eq_true (by omega)
      by_cases hb : sk.bad = 0
      · have hb1 : (sk.bad == 0) = true := by simp [hb]
        have HB := Lib.hid hb
        clear hb
        go_upto_region 5 with (go_at_call 56; refine (err_call wj HI.out.rd).mono ?_; rintro e7 w7 ⟨rfl, rfl⟩)
        obtain ⟨m, rfl⟩ : ∃ m', m = m' + 1 := ⟨m - 1, by omega⟩
        obtain ⟨aw, cw, rfl⟩ := Bt.own_shape HI.out.ows
        have HID := Lib.hid (HI.out.drew)
        have y3 := HI.out.y3
        have y3' := HID.out.y3
        have hwm : IntKind.u64.wrap (m : Int) = (m : Int) := by rw [IntKind.wrap_u64]; omega
        have hbw := HI.out.gro.size
        have hwl : ws.length + 1 ≤ 68719476736 := by omega
        clear hm0
        go_region_law (first
          | (go_simp; go_at_call 50; refine (intR_call wa1 HA1.out.rd).mono ?_; rintro eb1 wb1 ⟨q2, t2, rfl, hq2, hrb, hsb, hgb⟩; have HRB := Lib.hid hrb; have HB1 := Lib.hid (HA1.out.read hgb hsb); have hbw2 := Nat.le_trans hbw1 hgb.size; have y3b := HB1.out.y3; have y3b' := (fun o => (HB1.out.alloc o).y3); clear hrb hsb hgb)
          | (go_simp; go_at_call 50; refine (intR_call _ HID.out.rd).mono ?_; rintro ea1 wa1 ⟨q1, t1, rfl, hq1, hra, hsa, hga⟩; have HRA := Lib.hid hra; have HA1 := Lib.hid (HID.out.read hga hsa); have hbw1 : w.heap.size ≤ wa1.heap.size := Nat.le_trans hbw hga.size; have y3a := HA1.out.y3; clear hra hsa hga)
          | (refine step_append_src rfl _ _ 26 rfl eltOp w.heap.size ws.length _ ((HB1.out.alloc _).ows) rfl 1 [vi 2, vi q1, vi q2] (src_new (cs := #[vi 2, vi q1, vi q2]) rfl rfl) rfl (by intro u hu; simp at hu; rcases hu with rfl | rfl | rfl <;> rfl) hwl (by omega) (by simp; omega) ?_; intro vc1 wc1 hoc hgc _; obtain ⟨gc, cc, rfl⟩ := Bt.own_some hoc (by omega); have HC1 := Lib.hid ((HB1.out.alloc (.cells #[vi 2, vi q1, vi q2] 104)).addW ⟨2, q1, q2⟩ hgc hoc); have hYc : wc1.heap[Y]? = _ := (hgc.block Y (Array.getElem?_eq_some_iff.1 (HB1.out.alloc (.cells #[vi 2, vi q1, vi q2] 104)).box).1 (row_ne (HB1.out.alloc (.cells #[vi 2, vi q1, vi q2] 104)).ows (HB1.out.alloc (.cells #[vi 2, vi q1, vi q2] 104)).box (by decide))).trans (HB1.out.alloc (.cells #[vi 2, vi q1, vi q2] 104)).box; have y3c : wc1.cell? ⟨Y, 3, none⟩ = some (.slice aw ws.length cw) := (by rw [Bt.cell_of hYc]; rfl); have f3c : wc1.frozen? ⟨Y, 3, none⟩ = false := Bt.free_of hYc 3; clear hoc hgc hYc))
        all_goals
          go_wp2
          refine ⟨⟨m, by go_num, by omega, Lib.hid ⟨t2, _, ws ++ [⟨2, q1, q2⟩], HC1.out, ?_, ?_, ?_, ?_, ?_, ?_⟩⟩, by simp only [intOf]; omega⟩
          · rw [List.length_append]; exact HR.out.snoc (op_read HRA.out HRB.out)
          · have := HN.out; simp; omega
          · intro o ho
            rcases List.mem_append.1 ho with ho | ho
            · exact HOK.out o ho
            · simp at ho; subst ho; exact ⟨rfl, hq1, hq2⟩
          · intro h
            have e1 := (op_read HRA.out HRB.out).less h
            have e2 := HLEN.out HB.out
            have e3 := numL_pos (x := zig q1) (by have := zig_lt hq1.1 hq1.2; omega)
            have e4 : 1 ≤ (opL ⟨2, q1, q2⟩).length := by unfold opL; rw [List.length_append]; exact Nat.le_trans e3 (Nat.le_add_right _ _)
            simp; omega
          · have e2 := HLEN.out HB.out
            simp; omega
          · intro h
            exact absurd ((HR.out.2 HB.out).1) h
      · have hb1 : (sk.bad == 0) = false := by simp [hb]
        have HB := Lib.hid hb
        clear hb
        go_wp2_with (first | (go_at_call 55; refine (numR_call wj HI.out.rd).mono ?_; rintro e8 w8 ⟨n8, s8, rfl, hn8, hr8, hs8, hg8⟩; have HR8 := Lib.hid hr8; have HI8 := Lib.hid (HI.out.read hg8 hs8); clear hr8 hs8 hg8) | (go_at_call 56; refine (err_call wj HI.out.rd).mono ?_; rintro e7 w7 ⟨rfl, rfl⟩))
        have hF1 := FIN.out (.inr HB.out)
        have hrl8 := HI8.out.rd.restLe
        go_loopw [5] (fun t wr => ∃ m : Nat, t = .int .u64 (m : Nat) ∧ m < 2 ^ 64 ∧ Hid (∃ (sk : Rd) (rv : Value) (rs : List Int), RRS w base p X Y sk z1 z2 z3 wv rv ws rs wr ∧ RdOK (fun l : List Int => l.flatMap intL) (LenOk IntOk rs.length) s8 sk rs ∧ rs.length + m = n8 ∧ (∀ o ∈ rs, IntOk o) ∧ (sk.bad = 0 → rs.length + sk.rest.length ≤ s8.rest.length) ∧ rs.length ≤ s8.rest.length + 1 ∧ (s8.bad ≠ 0 → rs = []))) (fun t _ => (intOf t).toNat)
        case atStart => exact ⟨n8, rfl, hn8, Lib.hid ⟨s8, _, [], HI8.out, RdOK.none _, by simp, (fun o h => by cases h), (fun _ => by simp), by simp, fun _ => rfl⟩⟩
        case round =>
          obtain ⟨wq, rfl⟩ : ∃ wq : World, wq = wr := ⟨_, rfl⟩
          obtain ⟨m', rfl, hm', HJ⟩ := hrel
          obtain ⟨sq, rv, rs, hI, hR, hn, hok, hlen, hle2, hs8b⟩ := HJ.out
          have HQ := Lib.hid hI
          have HRQ := Lib.hid hR
          have HNQ := Lib.hid hn
          have HOKQ := Lib.hid hok
          have HLENQ := Lib.hid hlen
          have HS8B := Lib.hid hs8b
          have HF1 := Lib.hid hF1
          clear HJ hI hR hn hok hlen hs8b hF1
          have fin : (m' = 0 ∨ sq.bad ≠ 0) → RdOK rdyBL RdyBOk s sq ⟨z1, z2, z3, ws, rs⟩ ∧ rs.length ≤ s.rest.length + 1 ∧ ws.length ≤ s.rest.length + 1 ∧ RdyBOk ⟨z1, z2, z3, ws, rs⟩ := by
            intro hc
            have hRn : RdOK (fun l : List Int => l.flatMap intL) (LenOk IntOk n8) s8 sq rs := by
              have hn := HNQ.out
              rcases hc with h0 | hb
              · rw [h0, Nat.add_zero] at hn; rw [← hn]; exact HRQ.out
              · exact HRQ.out.cut hb (by omega)
            have hd := HR8.out.dep hRn
            have hws := HF1.out.2.1
            have hrr := HF1.out.2.2
            have hw64 : ws.length < 2 ^ 64 := by have := HN.out; omega
            have hr64 : rs.length < 2 ^ 64 := by have := HNQ.out; omega
            refine ⟨rdy_read HR1.out HR2.out HR3.out HF1.out.1 hd, ?_, ?_, ⟨hz1, hz2, hz3, ⟨hw64, HOK.out⟩, ⟨hr64, HOKQ.out⟩⟩⟩
            · by_cases h8 : s8.bad = 0
              · have := HR8.out.less h8
                have h6 := (HR8.out.2 h8).1
                have := HF1.out.1.less h6
                have h3 := (HF1.out.1.2 h6).1
                have := HR3.out.less h3
                have h2 := (HR3.out.2 h3).1
                have := HR2.out.less h2
                have h1 := (HR2.out.2 h2).1
                have := HR1.out.less h1
                omega
              · rw [HS8B.out h8]; simp
            · by_cases h3 : s3.bad = 0
              · have := HR3.out.less h3
                have h2 := (HR3.out.2 h3).1
                have := HR2.out.less h2
                have h1 := (HR2.out.2 h2).1
                have := HR1.out.less h1
                omega
              · rw [hrr h3]; simp
          have FIN2 := Lib.hid fin
          clear fin
          by_cases hm0 : m' = 0
          · have h1 : decide ((0 : Int) < m') = false := decide_eq_false (by omega)
            have h2 : decide (0 < m') = false := decide_eq_false (by omega)
            have HC := Lib.hid (show m' = 0 ∨ sq.bad ≠ 0 from .inl hm0)
            clear hm0
            obtain ⟨aw, cw, rfl⟩ := Bt.own_shape HQ.out.ows
            obtain ⟨ar, cr, rfl⟩ := Bt.own_shape HQ.out.ors
            have c0 : wq.cell? ⟨Y, 0, none⟩ = some (vi z1) := by rw [Bt.cell_of HQ.out.box]; rfl
            have c1 : wq.cell? ⟨Y, 1, none⟩ = some (vi z2) := by rw [Bt.cell_of HQ.out.box]; rfl
            have c2 : wq.cell? ⟨Y, 2, none⟩ = some (vi z3) := by rw [Bt.cell_of HQ.out.box]; rfl
            have c3 := HQ.out.y3
            have c4 := HQ.out.y4
            have d0 : ∀ o, wq.frozen? ⟨X, o, none⟩ = false := fun o => Bt.free_of HQ.out.res o
            have e0 : wq.cell? ⟨X, 0, none⟩ = some (vi 0) := by rw [Bt.cell_of HQ.out.res]; rfl
            have e1 : wq.cell? ⟨X, 1, none⟩ = some (vi 0) := by rw [Bt.cell_of HQ.out.res]; rfl
            have e2 : wq.cell? ⟨X, 2, none⟩ = some (vi 0) := by rw [Bt.cell_of HQ.out.res]; rfl
            have e3 : wq.cell? ⟨X, 3, none⟩ = some (.slice none 0 0) := by rw [Bt.cell_of HQ.out.res]; rfl
            have e4 : wq.cell? ⟨X, 4, none⟩ = some (.slice none 0 0) := by rw [Bt.cell_of HQ.out.res]; rfl
            go_wp2_with (go_at_call 56; refine (err_call wq HQ.out.rd).mono ?_; rintro e9 w9 ⟨rfl, rfl⟩)
            change bodyPost _ _ _ _ _ (setReady wq X z1 z2 z3 (.slice aw ws.length cw) (.slice ar rs.length cr))
            have HD := Lib.hid HQ.out.done
            clear c0 c1 c2 c3 c4 d0 e0 e1 e2 e3 e4
            generalize setReady wq X z1 z2 z3 (.slice aw ws.length cw) (.slice ar rs.length cr) = wz at *
            have r0 : wz.cell? ⟨X, 0, none⟩ = some (vi z1) := by rw [Bt.cell_of HD.out.1]; rfl
            have r1 : wz.cell? ⟨X, 1, none⟩ = some (vi z2) := by rw [Bt.cell_of HD.out.1]; rfl
            have r2 : wz.cell? ⟨X, 2, none⟩ = some (vi z3) := by rw [Bt.cell_of HD.out.1]; rfl
            have r3 : wz.cell? ⟨X, 3, none⟩ = some (.slice aw ws.length cw) := by rw [Bt.cell_of HD.out.1]; rfl
            have r4 : wz.cell? ⟨X, 4, none⟩ = some (.slice ar rs.length cr) := by rw [Bt.cell_of HD.out.1]; rfl
            obtain ⟨f1, f2, f3, f4⟩ := FIN2.out HC.out
            exact bodyPost_ret (v := rdyV ⟨.slice aw ws.length cw, .slice ar rs.length cr, ⟨z1, z2, z3, ws, rs⟩⟩) (by simp [results, Try.results51, go_sem, rdyV, rdyC, r0, r1, r2, r3, r4]) rfl ⟨_, sq, rfl, HD.out.2.1, HD.out.2.2.1, f4, f3, f2, f1, HD.out.2.2.2.1, HD.out.2.2.2.2⟩
          · have h1 : decide ((0 : Int) < m') = true := decide_eq_true (by omega)
            have h2 : decide (0 < m') = true := decide_eq_true (by omega)
            by_cases hb : sq.bad = 0
            · have hb1 : (sq.bad == 0) = true := by simp [hb]
              have HB := Lib.hid hb
              clear hb
              go_upto_region 9 with (go_at_call 56; refine (err_call wq HQ.out.rd).mono ?_; rintro e9 w9 ⟨rfl, rfl⟩)
              obtain ⟨m', rfl⟩ : ∃ m'', m' = m'' + 1 := ⟨m' - 1, by omega⟩
              obtain ⟨ar, cr, rfl⟩ := Bt.own_shape HQ.out.ors
              have HID := Lib.hid (HQ.out.drew)
              have y3 := HQ.out.y4
              have y3' := HID.out.y4
              have hwm : IntKind.u64.wrap (m' : Int) = (m' : Int) := by rw [IntKind.wrap_u64]; omega
              have hbw := HQ.out.gro.size
              have hwl : rs.length + 1 ≤ 68719476736 := by omega
              clear hm0
              go_region_law (first
                | (go_simp; go_at_call 50; refine (intR_call _ HID.out.rd).mono ?_; rintro ea1 wa1 ⟨q1, t1, rfl, hq1, hra, hsa, hga⟩; have HRA := Lib.hid hra; have HA1 := Lib.hid (HID.out.read hga hsa); have hbw1 : w.heap.size ≤ wa1.heap.size := Nat.le_trans hbw hga.size; have y3a := HA1.out.y4; have y3a' := (fun o => (HA1.out.alloc o).y4); clear hra hsa hga)
                | (refine step_append_src rfl _ _ 27 rfl eltI w.heap.size rs.length _ ((HA1.out.alloc _).ors) rfl 1 [vi q1] (src_new (cs := #[vi q1]) rfl rfl) rfl (by intro u hu; simp at hu; subst hu; rfl) hwl (by omega) (by simp; omega) ?_; intro vc1 wc1 hoc hgc _; obtain ⟨gc, cc, rfl⟩ := Bt.own_some hoc (by omega); have HC1 := Lib.hid ((HA1.out.alloc (.cells #[vi q1] 3)).addR q1 hgc hoc); have hYc : wc1.heap[Y]? = _ := (hgc.block Y (Array.getElem?_eq_some_iff.1 (HA1.out.alloc (.cells #[vi q1] 3)).box).1 (row_ne (HA1.out.alloc (.cells #[vi q1] 3)).ors (HA1.out.alloc (.cells #[vi q1] 3)).box (by decide))).trans (HA1.out.alloc (.cells #[vi q1] 3)).box; have y3c : wc1.cell? ⟨Y, 4, none⟩ = some (.slice ar rs.length cr) := (by rw [Bt.cell_of hYc]; rfl); have f3c : wc1.frozen? ⟨Y, 4, none⟩ = false := Bt.free_of hYc 4; clear hoc hgc hYc))
              all_goals
                go_wp2
                refine ⟨⟨m', by go_num, by omega, Lib.hid ⟨t1, _, rs ++ [q1], HC1.out, ?_, ?_, ?_, ?_, ?_, ?_⟩⟩, by simp only [intOf]; omega⟩
                · rw [List.length_append]; exact HRQ.out.snoc HRA.out
                · have := HNQ.out; simp; omega
                · intro o ho
                  rcases List.mem_append.1 ho with ho | ho
                  · exact HOKQ.out o ho
                  · simp at ho; subst ho; exact hq1
                · intro h
                  have e1 := HRA.out.less h
                  have e2 := HLENQ.out HB.out
                  have e3 := numL_pos (x := zig q1) (by have := zig_lt hq1.1 hq1.2; omega)
                  have e4 : 1 ≤ (intL q1).length := e3
                  simp; omega
                · have e2 := HLENQ.out HB.out
                  simp; omega
                · intro h
                  exact absurd ((HRQ.out.2 HB.out).1) h
            · have hb1 : (sq.bad == 0) = false := by simp [hb]
              have HC := Lib.hid (show m' = 0 ∨ sq.bad ≠ 0 from .inr hb)
              clear hb
              obtain ⟨aw, cw, rfl⟩ := Bt.own_shape HQ.out.ows
              obtain ⟨ar, cr, rfl⟩ := Bt.own_shape HQ.out.ors
              have c0 : wq.cell? ⟨Y, 0, none⟩ = some (vi z1) := by rw [Bt.cell_of HQ.out.box]; rfl
              have c1 : wq.cell? ⟨Y, 1, none⟩ = some (vi z2) := by rw [Bt.cell_of HQ.out.box]; rfl
              have c2 : wq.cell? ⟨Y, 2, none⟩ = some (vi z3) := by rw [Bt.cell_of HQ.out.box]; rfl
              have c3 := HQ.out.y3
              have c4 := HQ.out.y4
              have d0 : ∀ o, wq.frozen? ⟨X, o, none⟩ = false := fun o => Bt.free_of HQ.out.res o
              have e0 : wq.cell? ⟨X, 0, none⟩ = some (vi 0) := by rw [Bt.cell_of HQ.out.res]; rfl
              have e1 : wq.cell? ⟨X, 1, none⟩ = some (vi 0) := by rw [Bt.cell_of HQ.out.res]; rfl
              have e2 : wq.cell? ⟨X, 2, none⟩ = some (vi 0) := by rw [Bt.cell_of HQ.out.res]; rfl
              have e3 : wq.cell? ⟨X, 3, none⟩ = some (.slice none 0 0) := by rw [Bt.cell_of HQ.out.res]; rfl
              have e4 : wq.cell? ⟨X, 4, none⟩ = some (.slice none 0 0) := by rw [Bt.cell_of HQ.out.res]; rfl
              go_wp2_with (go_at_call 56; refine (err_call wq HQ.out.rd).mono ?_; rintro e9 w9 ⟨rfl, rfl⟩)
              change bodyPost _ _ _ _ _ (setReady wq X z1 z2 z3 (.slice aw ws.length cw) (.slice ar rs.length cr))
              have HD := Lib.hid HQ.out.done
              clear c0 c1 c2 c3 c4 d0 e0 e1 e2 e3 e4
              generalize setReady wq X z1 z2 z3 (.slice aw ws.length cw) (.slice ar rs.length cr) = wz at *
              have r0 : wz.cell? ⟨X, 0, none⟩ = some (vi z1) := by rw [Bt.cell_of HD.out.1]; rfl
              have r1 : wz.cell? ⟨X, 1, none⟩ = some (vi z2) := by rw [Bt.cell_of HD.out.1]; rfl
              have r2 : wz.cell? ⟨X, 2, none⟩ = some (vi z3) := by rw [Bt.cell_of HD.out.1]; rfl
              have r3 : wz.cell? ⟨X, 3, none⟩ = some (.slice aw ws.length cw) := by rw [Bt.cell_of HD.out.1]; rfl
              have r4 : wz.cell? ⟨X, 4, none⟩ = some (.slice ar rs.length cr) := by rw [Bt.cell_of HD.out.1]; rfl
              obtain ⟨f1, f2, f3, f4⟩ := FIN2.out HC.out
              exact bodyPost_ret (v := rdyV ⟨.slice aw ws.length cw, .slice ar rs.length cr, ⟨z1, z2, z3, ws, rs⟩⟩) (by simp [results, Try.results51, go_sem, rdyV, rdyC, r0, r1, r2, r3, r4]) rfl ⟨_, sq, rfl, HD.out.2.1, HD.out.2.2.1, f4, f3, f2, f1, HD.out.2.2.2.1, HD.out.2.2.2.2⟩
end Go.Proofs.Ytdkkpkgfiodlbaa