/- Texts of one proof, one behind the other: MvRdR, ShEnd, ShRow. -/
import Derived.Test.YtdkkpkgfiodlbaaJb3
import Derived.Deep.CutBlock
import Derived.Deep.Strs
set_option linter.all false
/- mvcc.ReadReady. -/
namespace Go.Proofs.Ytdkkpkgfiodlbaa
open Go.RowKit

abbrev OpBOk (o : GOp) : Prop := o.kind = 2 ∧ IntOk o.key ∧ IntOk o.val
/-- What is read as a transaction. -/
structure RdyBOk (r : Rdy) : Prop where
  txn : IntOk r.txn
  home : IntOk r.home
  start : IntOk r.start
  ws : SeqOk OpBOk r.writes
  rs : SeqOk IntOk r.reads
theorem op_read {s s1 s2 : Rd} {a b : Int} (h1 : RdOK intL IntOk s s1 a) (h2 : RdOK intL IntOk s1 s2 b) : RdOK opL OpBOk s s2 ⟨2, a, b⟩ :=
  (h1.seq h2).map (fun z : Int × Int => (⟨2, z.1, z.2⟩ : GOp)) (fun o => (o.key, o.val)) (fun o ho => ⟨⟨ho.2.1, ho.2.2⟩, rfl, by obtain ⟨k, a, b⟩ := o; have := ho.1; simp only at this; subst this; rfl⟩) (fun z hz => ⟨⟨rfl, hz.1, hz.2⟩, rfl⟩)
theorem rdy_read {s s1 s2 s3 s4 s5 : Rd} {a b c : Int} {ws : List GOp} {rs : List Int} (h1 : RdOK intL IntOk s s1 a) (h2 : RdOK intL IntOk s1 s2 b) (h3 : RdOK intL IntOk s2 s3 c) (h4 : RdOK (seqL opL) (SeqOk OpBOk) s3 s4 ws) (h5 : RdOK (seqL intL) (SeqOk IntOk) s4 s5 rs) : RdOK rdyBL RdyBOk s s5 ⟨a, b, c, ws, rs⟩ :=
  ((((h1.seq h2).seq h3).seq h4).seq h5).map (fun z => (⟨z.1.1.1.1, z.1.1.1.2, z.1.1.2, z.1.2, z.2⟩ : Rdy)) (fun r => ((((r.txn, r.home), r.start), r.writes), r.reads))
    (fun r hr => ⟨⟨⟨⟨⟨hr.txn, hr.home⟩, hr.start⟩, hr.ws⟩, hr.rs⟩, by simp [rdyBL, seqL, opsBL, intsBL], rfl⟩)
    (fun z hz => ⟨⟨hz.1.1.1.1, hz.1.1.1.2, hz.1.1.2, hz.1.2, hz.2⟩, by simp [rdyBL, seqL, opsBL, intsBL]⟩)
def RdyRQ (base p : Nat) (s : Rd) (w : World) (e : Ending) (w' : World) : Prop :=
  ∃ (x : RV) (s' : Rd), e = .returned (rdyV x) ∧ OwOps w.heap.size w' x.wv x.r.writes ∧ OwI w.heap.size w' x.rv x.r.reads ∧ RdyBOk x.r ∧ x.r.writes.length ≤ s.rest.length + 1 ∧ x.r.reads.length ≤ s.rest.length + 1 ∧
    RdOK rdyBL RdyBOk s s' x.r ∧ RdrS base p s' w' ∧ w.grownBy w' (some p)
/-- The reading of a transaction, in memory. -/
structure RRS (w : World) (base p X Y : Nat) (s : Rd) (a b c : Int) (wv rv : Value) (ws : List GOp) (rs : List Int) (W : World) : Prop where
  rd : RdrS base p s W
  gro : w.grownBy W (some p)
  res : W.heap[X]? = some (.cells #[vi 0, vi 0, vi 0, .slice none 0 0, .slice none 0 0] 29)
  box : W.heap[Y]? = some (.cells #[vi a, vi b, vi c, wv, rv] 29)
  ows : OwOps w.heap.size W wv ws
  ors : OwI w.heap.size W rv rs
  px : p < w.heap.size
  lx : w.heap.size ≤ X
  ly : w.heap.size ≤ Y
  xy : X ≠ Y
theorem RRS.y3 {w : World} {base p X Y : Nat} {s : Rd} {a b c : Int} {wv rv : Value} {ws : List GOp} {rs : List Int} {W : World} (h : RRS w base p X Y s a b c wv rv ws rs W) : W.cell? ⟨Y, 3, none⟩ = some wv := by rw [Bt.cell_of h.box]; rfl
theorem RRS.y4 {w : World} {base p X Y : Nat} {s : Rd} {a b c : Int} {wv rv : Value} {ws : List GOp} {rs : List Int} {W : World} (h : RRS w base p X Y s a b c wv rv ws rs W) : W.cell? ⟨Y, 4, none⟩ = some rv := by rw [Bt.cell_of h.box]; rfl
theorem RRS.fy {w : World} {base p X Y : Nat} {s : Rd} {a b c : Int} {wv rv : Value} {ws : List GOp} {rs : List Int} {W : World} (h : RRS w base p X Y s a b c wv rv ws rs W) (o : Nat) : W.frozen? ⟨Y, o, none⟩ = false := Bt.free_of h.box o
theorem own_ne {w : World} {base e size n p : Nat} {v : Value} {xs : List Value} (h : w.ownsRow base e size v n xs) (hp : p < base) : v.ownBlock = none ∨ v.ownBlock ≠ some p := by
  cases hv : v.ownBlock with
  | none => exact .inl rfl
  | some g => exact .inr (fun e => by cases e; have := (h.lt _ hv).1; omega)
theorem RRS.read {w : World} {base p X Y : Nat} {s s' : Rd} {a b c : Int} {wv rv : Value} {ws : List GOp} {rs : List Int} {A B : World} (h : RRS w base p X Y s a b c wv rv ws rs A) (hg : A.grownBy B (some p)) (hs : RdrS base p s' B) : RRS w base p X Y s' a b c wv rv ws rs B :=
  ⟨hs, gro_trans h.gro hg, (hg.block X (Array.getElem?_eq_some_iff.1 h.res).1 (fun e => by have := Option.some.inj e; have := h.px; have := h.lx; omega)).trans h.res,
    (hg.block Y (Array.getElem?_eq_some_iff.1 h.box).1 (fun e => by have := Option.some.inj e; have := h.px; have := h.ly; omega)).trans h.box,
    World.ownsRow.kept h.ows hg (own_ne h.ows h.px), World.ownsRow.kept h.ors hg (own_ne h.ors h.px), h.px, h.lx, h.ly, h.xy⟩
theorem RRS.alloc {w : World} {base p X Y : Nat} {s : Rd} {a b c : Int} {wv rv : Value} {ws : List GOp} {rs : List Int} {A : World} (h : RRS w base p X Y s a b c wv rv ws rs A) (o : Obj) : RRS w base p X Y s a b c wv rv ws rs (A.alloc o) :=
  h.read (World.grownBy_alloc A o _) (h.rd.later ((Below.refl _ _).alloc (Nat.le_refl _) o))
theorem RRS.drew {w : World} {base p X Y : Nat} {s : Rd} {a b c : Int} {wv rv : Value} {ws : List GOp} {rs : List Int} {A : World} (h : RRS w base p X Y s a b c wv rv ws rs A) : RRS w base p X Y s a b c wv rv ws rs A.drew :=
  h.read ⟨rfl, rfl, rfl, Nat.le_refl _, fun _ _ _ => rfl⟩ h.rd
theorem row_ne {w : World} {base e size n j : Nat} {v : Value} {xs : List Value} {cs : Array Value} {T : TypeId} {fz : Nat × Nat} (h : w.ownsRow base e size v n xs) (hj : w.heap[j]? = some (.cells cs T fz)) (hT : T ≠ e) : some j ≠ v.ownBlock := by
  intro hv
  rcases h.2 with ⟨rfl, _⟩ | ⟨g, cap, cur, rfl, _, hh, _⟩
  · cases hv
  · simp only [Value.ownBlock, Option.some.injEq] at hv; subst hv; rw [hh] at hj; cases hj; exact hT rfl
theorem RdrS.grown {base p b e size n : Nat} {s : Rd} {v : Value} {xs : List Value} {A B : World} (h : RdrS base p s A) (hr : A.ownsRow b e size v n xs) (hg : A.grownBy B v.ownBlock) (h1 : e ≠ 155) (h2 : e ≠ 5) : RdrS base p s B := by
  obtain ⟨hp, v', bs, at', a1, a2, a3⟩ := h
  refine ⟨hp, v', bs, at', (hg.block p (Array.getElem?_eq_some_iff.1 a1).1 (row_ne hr a1 (fun e => h1 e.symm))).trans a1, World.ownsRow.kept a2 hg ?_, a3⟩
  rcases a2.2 with ⟨hv, _⟩ | ⟨g, cap, cur, hv, _, hh, _⟩
  · left; rw [hv]; rfl
  · right; rw [hv]; exact row_ne hr hh (fun e => h2 e.symm)
theorem RdrS.setO {base p Y o : Nat} {s : Rd} {A : World} (h : RdrS base p s A) {cs : Array Value} {T : TypeId} (hY : A.heap[Y]? = some (.cells cs T)) (h1 : T ≠ 155) (h2 : T ≠ 5) (u : Value) : RdrS base p s (A.setCell ⟨Y, o, none⟩ u) := by
  obtain ⟨hp, v', bs, at', a1, a2, a3⟩ := h
  refine ⟨hp, v', bs, at', Bt.cells_other _ a1 (fun e => by subst e; rw [hY] at a1; cases a1; exact h1 rfl), Bt.own_frame a2 (fun g hg => ?_), a3⟩
  refine Bt.cells_other _ rfl (fun e => ?_)
  subst e
  rcases a2.2 with ⟨hv, _⟩ | ⟨g', cap, cur, hv, _, hh, _⟩
  · rw [hv] at hg; cases hg
  · rw [hv] at hg; simp only [Value.ownBlock, Option.some.injEq] at hg; subst hg; rw [hY] at hh; cases hh; exact h2 rfl
theorem own_setO {A : World} {b e size n Y o : Nat} {v : Value} {xs : List Value} (h : A.ownsRow b e size v n xs) {cs : Array Value} {T : TypeId} (hY : A.heap[Y]? = some (.cells cs T)) (h1 : T ≠ e) (u : Value) : (A.setCell ⟨Y, o, none⟩ u).ownsRow b e size v n xs :=
  Bt.own_frame h (fun g hg => Bt.cells_other _ rfl (fun e => by
    subst e
    rcases h.2 with ⟨hv, _⟩ | ⟨g', cap, cur, hv, _, hh, _⟩
    · rw [hv] at hg; cases hg
    · rw [hv] at hg; simp only [Value.ownBlock, Option.some.injEq] at hg; subst hg; rw [hY] at hh; cases hh; exact h1 rfl))
theorem own_apart' {w : World} {b1 b2 e1 e2 s1 s2 n1 n2 : Nat} {v1 v2 : Value} {xs1 xs2 : List Value} (h1 : w.ownsRow b1 e1 s1 v1 n1 xs1) (h2 : w.ownsRow b2 e2 s2 v2 n2 xs2) (hne : e1 ≠ e2) : v1.ownBlock = none ∨ v1.ownBlock ≠ v2.ownBlock := by
  rcases h1.2 with ⟨hv, _⟩ | ⟨g, cap, cur, hv, _, hh, _⟩
  · left; rw [hv]; rfl
  · right; rw [hv]; exact row_ne h2 hh hne
/-- One operation more. -/
theorem RRS.addW {w : World} {base p X Y : Nat} {s : Rd} {a b c : Int} {wv wv' rv : Value} {ws : List GOp} {rs : List Int} {A B : World} (o : GOp) (h : RRS w base p X Y s a b c wv rv ws rs A) (hg : A.grownBy B wv.ownBlock) (hr : B.ownsRow w.heap.size 104 3 wv' (ws.length + 1) (ws.flatMap opV ++ opV o)) :
    RRS w base p X Y s a b c wv' rv (ws ++ [o]) rs (B.setCell ⟨Y, 3, none⟩ wv') := by
  have hY : B.heap[Y]? = _ := (hg.block Y (Array.getElem?_eq_some_iff.1 h.box).1 (row_ne h.ows h.box (by decide))).trans h.box
  have hX : B.heap[X]? = _ := (hg.block X (Array.getElem?_eq_some_iff.1 h.res).1 (row_ne h.ows h.res (by decide))).trans h.res
  have hor : OwI w.heap.size B rv rs := World.ownsRow.kept h.ors hg (own_apart' h.ors h.ows (by decide))
  have hrow : OwOps w.heap.size B wv' (ws ++ [o]) := by
    show World.ownsRow _ _ _ _ _ _ _
    rw [List.length_append, List.flatMap_append]; simpa using hr
  have hgro : w.grownBy B (some p) := ⟨hg.os.trans h.gro.os, hg.tape.trans h.gro.tape, hg.output.trans h.gro.output, Nat.le_trans h.gro.size hg.size, fun k hk hne => (hg.block k (Nat.lt_of_lt_of_le hk h.gro.size) (fun e => by have := (World.ownsRow.lt h.ows k e.symm).1; omega)).trans (h.gro.block k hk hne)⟩
  refine ⟨(h.rd.grown h.ows hg (by decide) (by decide)).setO hY (by decide) (by decide) _, ⟨hgro.os, hgro.tape, hgro.output, by simpa [World.setCell] using hgro.size, fun k hk hne => (Bt.cells_other _ rfl (fun e => by subst e; have := h.ly; omega)).trans (hgro.block k hk hne)⟩, Bt.cells_other _ hX h.xy, ?_, own_setO hrow hY (by decide) _, own_setO hor hY (by decide) _, h.px, h.lx, h.ly, h.xy⟩
  exact Bt.cells_set _ hY
theorem RRS.addR {w : World} {base p X Y : Nat} {s : Rd} {a b c : Int} {wv rv rv' : Value} {ws : List GOp} {rs : List Int} {A B : World} (o : Int) (h : RRS w base p X Y s a b c wv rv ws rs A) (hg : A.grownBy B rv.ownBlock) (hr : B.ownsRow w.heap.size 3 1 rv' (rs.length + 1) (rs.flatMap viC ++ [vi o])) :
    RRS w base p X Y s a b c wv rv' ws (rs ++ [o]) (B.setCell ⟨Y, 4, none⟩ rv') := by
  have hY : B.heap[Y]? = _ := (hg.block Y (Array.getElem?_eq_some_iff.1 h.box).1 (row_ne h.ors h.box (by decide))).trans h.box
  have hX : B.heap[X]? = _ := (hg.block X (Array.getElem?_eq_some_iff.1 h.res).1 (row_ne h.ors h.res (by decide))).trans h.res
  have hor : OwOps w.heap.size B wv ws := World.ownsRow.kept h.ows hg (own_apart' h.ows h.ors (by decide))
  have hrow : OwI w.heap.size B rv' (rs ++ [o]) := by
    show World.ownsRow _ _ _ _ _ _ _
    rw [List.length_append, List.flatMap_append]; simpa [viC] using hr
  have hgro : w.grownBy B (some p) := ⟨hg.os.trans h.gro.os, hg.tape.trans h.gro.tape, hg.output.trans h.gro.output, Nat.le_trans h.gro.size hg.size, fun k hk hne => (hg.block k (Nat.lt_of_lt_of_le hk h.gro.size) (fun e => by have := (World.ownsRow.lt h.ors k e.symm).1; omega)).trans (h.gro.block k hk hne)⟩
  refine ⟨(h.rd.grown h.ors hg (by decide) (by decide)).setO hY (by decide) (by decide) _, ⟨hgro.os, hgro.tape, hgro.output, by simpa [World.setCell] using hgro.size, fun k hk hne => (Bt.cells_other _ rfl (fun e => by subst e; have := h.ly; omega)).trans (hgro.block k hk hne)⟩, Bt.cells_other _ hX h.xy, ?_, own_setO hor hY (by decide) _, own_setO hrow hY (by decide) _, h.px, h.lx, h.ly, h.xy⟩
  exact Bt.cells_set _ hY
def setReady (W : World) (X : Nat) (a b c : Int) (wv rv : Value) : World := ((((W.setCell ⟨X, 0, none⟩ (vi a)).setCell ⟨X, 1, none⟩ (vi b)).setCell ⟨X, 2, none⟩ (vi c)).setCell ⟨X, 3, none⟩ wv).setCell ⟨X, 4, none⟩ rv
theorem gro_setNew {w A : World} {r : Option Nat} {X o : Nat} (h : w.grownBy A r) (hX : w.heap.size ≤ X) (u : Value) : w.grownBy (A.setCell ⟨X, o, none⟩ u) r :=
  ⟨h.os, h.tape, h.output, by simpa [World.setCell] using h.size, fun k hk hne => (Bt.cells_other _ rfl (fun e => by omega)).trans (h.block k hk hne)⟩
theorem RRS.done {w : World} {base p X Y : Nat} {s : Rd} {a b c : Int} {wv rv : Value} {ws : List GOp} {rs : List Int} {W : World} (h : RRS w base p X Y s a b c wv rv ws rs W) :
    (setReady W X a b c wv rv).heap[X]? = some (.cells #[vi a, vi b, vi c, wv, rv] 29) ∧ OwOps w.heap.size (setReady W X a b c wv rv) wv ws ∧ OwI w.heap.size (setReady W X a b c wv rv) rv rs ∧ RdrS base p s (setReady W X a b c wv rv) ∧ w.grownBy (setReady W X a b c wv rv) (some p) := by
  have h0 := h.res
  have h1 := Bt.cells_set (o := 0) (vi a) h0
  have h2 := Bt.cells_set (o := 1) (vi b) h1
  have h3 := Bt.cells_set (o := 2) (vi c) h2
  have h4 := Bt.cells_set (o := 3) wv h3
  have h5 := Bt.cells_set (o := 4) rv h4
  exact ⟨h5, own_setO (own_setO (own_setO (own_setO (own_setO h.ows h0 (by decide) _) h1 (by decide) _) h2 (by decide) _) h3 (by decide) _) h4 (by decide) _,
    own_setO (own_setO (own_setO (own_setO (own_setO h.ors h0 (by decide) _) h1 (by decide) _) h2 (by decide) _) h3 (by decide) _) h4 (by decide) _,
    ((((h.rd.setO h0 (by decide) (by decide) _).setO h1 (by decide) (by decide) _).setO h2 (by decide) (by decide) _).setO h3 (by decide) (by decide) _).setO h4 (by decide) (by decide) _,
    gro_setNew (gro_setNew (gro_setNew (gro_setNew (gro_setNew h.gro h.lx _) h.lx _) h.lx _) h.lx _) h.lx _⟩
theorem RdrS.restLe {base p : Nat} {s : Rd} {W : World} (h : RdrS base p s W) : s.rest.length ≤ 8388608 := by
  obtain ⟨_, v, bs, at', _, _, _, h4, _, h6⟩ := h
  rw [← h6, List.length_drop, bitsOf_length]; omega
set_option maxRecDepth 100000 in
set_option maxHeartbeats 8000000 in
theorem rdyR_call {base p : Nat} {s : Rd} (w : World) (h : RdrS base p s w) :
    Calls Try.prog 51 #[.pointer (some ⟨p, 0, none⟩)] w (RdyRQ base p s w) := by
  have hp := h.lt
  have HW := Lib.hid h
  clear h
  go_enter Try.func51, Try.ntmps51
  go_upto_region 1 with fail
  have hba : w.heap.size < (w.alloc (.cells #[vi 0, vi 0, vi 0, .slice none 0 0, .slice none 0 0] 29)).heap.size := by simp
  have HXA := Lib.hid (Bt.alloc_at w (.cells #[vi 0, vi 0, vi 0, .slice none 0 0, .slice none 0 0] 29))
  have HSA := Lib.hid (HW.out.later ((Below.refl w.heap.size w).alloc (Nat.le_refl _) (.cells #[vi 0, vi 0, vi 0, .slice none 0 0, .slice none 0 0] 29)))
  have HGA := Lib.hid (World.grownBy_alloc w (.cells #[vi 0, vi 0, vi 0, .slice none 0 0, .slice none 0 0] 29) (some p))
  generalize w.alloc (.cells #[vi 0, vi 0, vi 0, .slice none 0 0, .slice none 0 0] 29) = wa at *
  go_upto_region 2 with (first
    | (go_at_call 50; refine (intR_call w2 HS2.out).mono ?_; rintro e3 w3 ⟨z3, s3, rfl, hz3, hr3, hs3, hg3⟩; have HR3 := Lib.hid hr3; have HS3 := Lib.hid hs3; have HG3 := Lib.hid hg3; clear hr3 hs3 hg3)
    | (go_at_call 50; refine (intR_call w1 HS1.out).mono ?_; rintro e2 w2 ⟨z2, s2, rfl, hz2, hr2, hs2, hg2⟩; have HR2 := Lib.hid hr2; have HS2 := Lib.hid hs2; have HG2 := Lib.hid hg2; clear hr2 hs2 hg2)
    | (go_at_call 50; refine (intR_call wa HSA.out).mono ?_; rintro e1 w1 ⟨z1, s1, rfl, hz1, hr1, hs1, hg1⟩; have HR1 := Lib.hid hr1; have HS1 := Lib.hid hs1; have HG1 := Lib.hid hg1; clear hr1 hs1 hg1))
  have HG13 := Lib.hid (gro_trans (gro_trans HG1.out HG2.out) HG3.out)
  have hX3 : w3.heap[w.heap.size]? = some (.cells #[vi 0, vi 0, vi 0, .slice none 0 0, .slice none 0 0] 29) := (HG13.out.block w.heap.size hba (fun e => by have := Option.some.inj e; omega)).trans HXA.out
  have hw3s := HG13.out.size
  have HI3 := Lib.hid (show RRS w base p w.heap.size w3.heap.size s3 z1 z2 z3 (.slice none 0 0) (.slice none 0 0) [] [] (w3.alloc (.cells #[vi z1, vi z2, vi z3, .slice none 0 0, .slice none 0 0] 29)) from
    ⟨HS3.out.later ((Below.refl _ _).alloc (Nat.le_refl _) _), gro_trans (gro_trans HGA.out HG13.out) (World.grownBy_alloc _ _ _), (Below.heap_alloc _ _ _ (by omega)).trans hX3, Bt.alloc_at _ _, World.ownsRow_nil _ _ _ _, World.ownsRow_nil _ _ _ _, hp, Nat.le_refl _, by omega, by omega⟩)
  obtain ⟨X, hXX⟩ : ∃ X, X = w.heap.size := ⟨_, rfl⟩
  obtain ⟨Y, hYY⟩ : ∃ Y, Y = w3.heap.size := ⟨_, rfl⟩
  rw [← hYY] at HI3 ⊢
  rw [show RRS w base p w.heap.size = RRS w base p X by rw [hXX]] at HI3
  rw [← hXX]
  have HXX := Lib.hid hXX
  clear hXX hYY hX3 hw3s HSA HGA HXA HS1 HS2 HS3 HG1 HG2 HG3
  generalize w3.alloc (.cells #[vi z1, vi z2, vi z3, .slice none 0 0, .slice none 0 0] 29) = w4 at *
  go_wp2_with (go_at_call 55; refine (numR_call w4 HI3.out.rd).mono ?_; rintro e5 w5 ⟨n5, s5, rfl, hn5, hr5, hs5, hg5⟩; have HR5 := Lib.hid hr5; have HI5 := Lib.hid (HI3.out.read hg5 hs5); clear hr5 hs5 hg5)
  have hrl := HI5.out.rd.restLe
  go_loopw [4] (fun t wr => ∃ m : Nat, t = .int .u64 (m : Nat) ∧ m < 2 ^ 64 ∧ Hid (∃ (sk : Rd) (wv : Value) (ws : List GOp), RRS w base p X Y sk z1 z2 z3 wv (.slice none 0 0) ws [] wr ∧ RdOK (fun l : List GOp => l.flatMap opL) (LenOk OpBOk ws.length) s5 sk ws ∧ ws.length + m = n5 ∧ (∀ o ∈ ws, OpBOk o) ∧ (sk.bad = 0 → ws.length + sk.rest.length ≤ s5.rest.length) ∧ ws.length ≤ s5.rest.length + 1 ∧ (s5.bad ≠ 0 → ws = []))) (fun t _ => (intOf t).toNat)
  case atStart => exact ⟨n5, rfl, hn5, Lib.hid ⟨s5, _, [], HI5.out, RdOK.none _, by simp, (fun o h => by cases h), (fun _ => by simp), by simp, fun _ => rfl⟩⟩
  case round =>
    obtain ⟨wj, rfl⟩ : ∃ wj : World, wj = wr := ⟨_, rfl⟩
    obtain ⟨m, rfl, hm, HJ⟩ := hrel
    obtain ⟨sk, wv, ws, hI, hR, hn, hok, hlen, hle, hs5b⟩ := HJ.out
    have HI := Lib.hid hI
    have HR := Lib.hid hR
    have HN := Lib.hid hn
    have HOK := Lib.hid hok
    have HLEN := Lib.hid hlen
    have HS5B := Lib.hid hs5b
    clear HJ hI hR hn hok hlen hs5b
    have fin : (m = 0 ∨ sk.bad ≠ 0) → RdOK (seqL opL) (SeqOk OpBOk) s3 sk ws ∧ (ws.length ≤ s3.rest.length + 1) ∧ (s3.bad ≠ 0 → ws = []) := by
      intro hc
      have hRn : RdOK (fun l : List GOp => l.flatMap opL) (LenOk OpBOk n5) s5 sk ws := by
        have hn := HN.out
        rcases hc with h0 | hb
        · rw [h0, Nat.add_zero] at hn; rw [← hn]; exact HR.out
        · exact HR.out.cut hb (by omega)
      refine ⟨HR5.out.dep hRn, ?_, fun h3 => HS5B.out (HR5.out.was h3)⟩
      by_cases h5 : s5.bad = 0
      · have := HR5.out.less h5; omega
      · rw [HS5B.out h5]; simp
    have FIN := Lib.hid fin
    clear fin
    by_cases hm0 : m = 0
    · have h1 : decide ((0 : Int) < m) = false := decide_eq_false (by omega)
      have h2 : decide (0 < m) = false := decide_eq_false (by omega)
      have HM0 := Lib.hid hm0
      clear hm0
      go_wp2_with (go_at_call 55; refine (numR_call wj HI.out.rd).mono ?_; rintro e8 w8 ⟨n8, s8, rfl, hn8, hr8, hs8, hg8⟩; have HR8 := Lib.hid hr8; have HI8 := Lib.hid (HI.out.read hg8 hs8); clear hr8 hs8 hg8)
      have hF1 := FIN.out (.inl HM0.out)
      have hrl8 := HI8.out.rd.restLe
      go_loopw [5] (fun t wr => ∃ m : Nat, t = .int .u64 (m : Nat) ∧ m < 2 ^ 64 ∧ Hid (∃ (sk : Rd) (rv : Value) (rs : List Int), RRS w base p X Y sk z1 z2 z3 wv rv ws rs wr ∧ RdOK (fun l : List Int => l.flatMap intL) (LenOk IntOk rs.length) s8 sk rs ∧ rs.length + m = n8 ∧ (∀ o ∈ rs, IntOk o) ∧ (sk.bad = 0 → rs.length + sk.rest.length ≤ s8.rest.length) ∧ rs.length ≤ s8.rest.length + 1 ∧ (s8.bad ≠ 0 → rs = []))) (fun t _ => (intOf t).toNat)
      case atStart => exact ⟨n8, rfl, hn8, Lib.hid ⟨s8, _, [], HI8.out, RdOK.none _, by simp, (fun o h => by cases h), (fun _ => by simp), by simp, fun _ => rfl⟩⟩
      case round =>
        obtain ⟨wq, rfl⟩ : ∃ wq : World, wq = wr := ⟨_, rfl⟩
        obtain ⟨m', rfl, hm', HJ⟩ := hrel
        obtain ⟨sq, rv, rs, hI, hR, hn, hok, hlen, hle2, hs8b⟩ := HJ.out
        have HQ := Lib.hid hI
        have HRQ := Lib.hid hR
        have HNQ := Lib.hid hn
        have HOKQ := Lib.hid hok
        have HLENQ := Lib.hid hlen
        have HS8B := Lib.hid hs8b
        have HF1 := Lib.hid hF1
        clear HJ hI hR hn hok hlen hs8b hF1
        have fin : (m' = 0 ∨ sq.bad ≠ 0) → RdOK rdyBL RdyBOk s sq ⟨z1, z2, z3, ws, rs⟩ ∧ rs.length ≤ s.rest.length + 1 ∧ ws.length ≤ s.rest.length + 1 ∧ RdyBOk ⟨z1, z2, z3, ws, rs⟩ := by
          intro hc
          have hRn : RdOK (fun l : List Int => l.flatMap intL) (LenOk IntOk n8) s8 sq rs := by
            have hn := HNQ.out
            rcases hc with h0 | hb
            · rw [h0, Nat.add_zero] at hn; rw [← hn]; exact HRQ.out
            · exact HRQ.out.cut hb (by omega)
          have hd := HR8.out.dep hRn
          have hws := HF1.out.2.1
          have hrr := HF1.out.2.2
          have hw64 : ws.length < 2 ^ 64 := by have := HN.out; omega
          have hr64 : rs.length < 2 ^ 64 := by have := HNQ.out; omega
          refine ⟨rdy_read HR1.out HR2.out HR3.out HF1.out.1 hd, ?_, ?_, ⟨hz1, hz2, hz3, ⟨hw64, HOK.out⟩, ⟨hr64, HOKQ.out⟩⟩⟩
          · by_cases h8 : s8.bad = 0
            · have := HR8.out.less h8
              have h6 := (HR8.out.2 h8).1
              have := HF1.out.1.less h6
              have h3 := (HF1.out.1.2 h6).1
              have := HR3.out.less h3
              have h2 := (HR3.out.2 h3).1
              have := HR2.out.less h2
              have h1 := (HR2.out.2 h2).1
              have := HR1.out.less h1
              omega
            · rw [HS8B.out h8]; simp
          · by_cases h3 : s3.bad = 0
            · have := HR3.out.less h3
              have h2 := (HR3.out.2 h3).1
              have := HR2.out.less h2
              have h1 := (HR2.out.2 h2).1
              have := HR1.out.less h1
              omega
            · rw [hrr h3]; simp
        have FIN2 := Lib.hid fin
        clear fin
        by_cases hm0 : m' = 0
        · have h1 : decide ((0 : Int) < m') = false := decide_eq_false (by omega)
          have h2 : decide (0 < m') = false := decide_eq_false (by omega)
          have HC := Lib.hid (show m' = 0 ∨ sq.bad ≠ 0 from .inl hm0)
          clear hm0
          obtain ⟨aw, cw, rfl⟩ := Bt.own_shape HQ.out.ows
          obtain ⟨ar, cr, rfl⟩ := Bt.own_shape HQ.out.ors
          have c0 : wq.cell? ⟨Y, 0, none⟩ = some (vi z1) := by rw [Bt.cell_of HQ.out.box]; rfl
          have c1 : wq.cell? ⟨Y, 1, none⟩ = some (vi z2) := by rw [Bt.cell_of HQ.out.box]; rfl
          have c2 : wq.cell? ⟨Y, 2, none⟩ = some (vi z3) := by rw [Bt.cell_of HQ.out.box]; rfl
          have c3 := HQ.out.y3
          have c4 := HQ.out.y4
          have d0 : ∀ o, wq.frozen? ⟨X, o, none⟩ = false := fun o => Bt.free_of HQ.out.res o
          have e0 : wq.cell? ⟨X, 0, none⟩ = some (vi 0) := by rw [Bt.cell_of HQ.out.res]; rfl
          have e1 : wq.cell? ⟨X, 1, none⟩ = some (vi 0) := by rw [Bt.cell_of HQ.out.res]; rfl
          have e2 : wq.cell? ⟨X, 2, none⟩ = some (vi 0) := by rw [Bt.cell_of HQ.out.res]; rfl
          have e3 : wq.cell? ⟨X, 3, none⟩ = some (.slice none 0 0) := by rw [Bt.cell_of HQ.out.res]; rfl
          have e4 : wq.cell? ⟨X, 4, none⟩ = some (.slice none 0 0) := by rw [Bt.cell_of HQ.out.res]; rfl
          go_wp2_with (go_at_call 56; refine (err_call wq HQ.out.rd).mono ?_; rintro e9 w9 ⟨rfl, rfl⟩)
          change bodyPost _ _ _ _ _ (setReady wq X z1 z2 z3 (.slice aw ws.length cw) (.slice ar rs.length cr))
          have HD := Lib.hid HQ.out.done
          clear c0 c1 c2 c3 c4 d0 e0 e1 e2 e3 e4
          generalize setReady wq X z1 z2 z3 (.slice aw ws.length cw) (.slice ar rs.length cr) = wz at *
          have r0 : wz.cell? ⟨X, 0, none⟩ = some (vi z1) := by rw [Bt.cell_of HD.out.1]; rfl
          have r1 : wz.cell? ⟨X, 1, none⟩ = some (vi z2) := by rw [Bt.cell_of HD.out.1]; rfl
          have r2 : wz.cell? ⟨X, 2, none⟩ = some (vi z3) := by rw [Bt.cell_of HD.out.1]; rfl
          have r3 : wz.cell? ⟨X, 3, none⟩ = some (.slice aw ws.length cw) := by rw [Bt.cell_of HD.out.1]; rfl
          have r4 : wz.cell? ⟨X, 4, none⟩ = some (.slice ar rs.length cr) := by rw [Bt.cell_of HD.out.1]; rfl
          obtain ⟨f1, f2, f3, f4⟩ := FIN2.out HC.out
          exact bodyPost_ret (v := rdyV ⟨.slice aw ws.length cw, .slice ar rs.length cr, ⟨z1, z2, z3, ws, rs⟩⟩) (by simp [results, Try.results51, go_sem, rdyV, rdyC, r0, r1, r2, r3, r4]) rfl ⟨_, sq, rfl, HD.out.2.1, HD.out.2.2.1, f4, f3, f2, f1, HD.out.2.2.2.1, HD.out.2.2.2.2⟩
        · have h1 : decide ((0 : Int) < m') = true := decide_eq_true (by omega)
          have h2 : decide (0 < m') = true := decide_eq_true (by omega)
          by_cases hb : sq.bad = 0
          · have hb1 : (sq.bad == 0) = true := by simp [hb]
            have HB := Lib.hid hb
            clear hb
            go_upto_region 9 with (go_at_call 56; refine (err_call wq HQ.out.rd).mono ?_; rintro e9 w9 ⟨rfl, rfl⟩)
            obtain ⟨m', rfl⟩ : ∃ m'', m' = m'' + 1 := ⟨m' - 1, by omega⟩
            obtain ⟨ar, cr, rfl⟩ := Bt.own_shape HQ.out.ors
            have HID := Lib.hid (HQ.out.drew)
            have y3 := HQ.out.y4
            have y3' := HID.out.y4
            have hwm : IntKind.u64.wrap (m' : Int) = (m' : Int) := by rw [IntKind.wrap_u64]; omega
            have hbw := HQ.out.gro.size
            have hwl : rs.length + 1 ≤ 68719476736 := by omega
            clear hm0
            go_region_law (first
              | (go_simp; go_at_call 50; refine (intR_call _ HID.out.rd).mono ?_; rintro ea1 wa1 ⟨q1, t1, rfl, hq1, hra, hsa, hga⟩; have HRA := Lib.hid hra; have HA1 := Lib.hid (HID.out.read hga hsa); have hbw1 : w.heap.size ≤ wa1.heap.size := Nat.le_trans hbw hga.size; have y3a := HA1.out.y4; have y3a' := (fun o => (HA1.out.alloc o).y4); clear hra hsa hga)
              | (refine step_append_src rfl _ _ 27 rfl eltI w.heap.size rs.length _ ((HA1.out.alloc _).ors) rfl 1 [vi q1] (src_new (cs := #[vi q1]) rfl rfl) rfl (by intro u hu; simp at hu; subst hu; rfl) hwl (by omega) (by simp; omega) ?_; intro vc1 wc1 hoc hgc _; obtain ⟨gc, cc, rfl⟩ := Bt.own_some hoc (by omega); have HC1 := Lib.hid ((HA1.out.alloc (.cells #[vi q1] 3)).addR q1 hgc hoc); have hYc : wc1.heap[Y]? = _ := (hgc.block Y (Array.getElem?_eq_some_iff.1 (HA1.out.alloc (.cells #[vi q1] 3)).box).1 (row_ne (HA1.out.alloc (.cells #[vi q1] 3)).ors (HA1.out.alloc (.cells #[vi q1] 3)).box (by decide))).trans (HA1.out.alloc (.cells #[vi q1] 3)).box; have y3c : wc1.cell? ⟨Y, 4, none⟩ = some (.slice ar rs.length cr) := (by rw [Bt.cell_of hYc]; rfl); have f3c : wc1.frozen? ⟨Y, 4, none⟩ = false := Bt.free_of hYc 4; clear hoc hgc hYc))
            all_goals
              go_wp2
              refine ⟨⟨m', by go_num, by omega, Lib.hid ⟨t1, _, rs ++ [q1], HC1.out, ?_, ?_, ?_, ?_, ?_, ?_⟩⟩, by simp only [intOf]; omega⟩
              · rw [List.length_append]; exact HRQ.out.snoc HRA.out
              · have := HNQ.out; simp; omega
              · intro o ho
                rcases List.mem_append.1 ho with ho | ho
                · exact HOKQ.out o ho
                · simp at ho; subst ho; exact hq1
              · intro h
                have e1 := HRA.out.less h
                have e2 := HLENQ.out HB.out
                have e3 := numL_pos (x := zig q1) (by have := zig_lt hq1.1 hq1.2; omega)
                have e4 : 1 ≤ (intL q1).length := e3
                simp; omega
              · have e2 := HLENQ.out HB.out
                simp; omega
              · intro h
                exact absurd ((HRQ.out.2 HB.out).1) h
          · have hb1 : (sq.bad == 0) = false := by simp [hb]
            have HC := Lib.hid (show m' = 0 ∨ sq.bad ≠ 0 from .inr hb)
            clear hb
            obtain ⟨aw, cw, rfl⟩ := Bt.own_shape HQ.out.ows
            obtain ⟨ar, cr, rfl⟩ := Bt.own_shape HQ.out.ors
            have c0 : wq.cell? ⟨Y, 0, none⟩ = some (vi z1) := by rw [Bt.cell_of HQ.out.box]; rfl
            have c1 : wq.cell? ⟨Y, 1, none⟩ = some (vi z2) := by rw [Bt.cell_of HQ.out.box]; rfl
            have c2 : wq.cell? ⟨Y, 2, none⟩ = some (vi z3) := by rw [Bt.cell_of HQ.out.box]; rfl
            have c3 := HQ.out.y3
            have c4 := HQ.out.y4
            have d0 : ∀ o, wq.frozen? ⟨X, o, none⟩ = false := fun o => Bt.free_of HQ.out.res o
            have e0 : wq.cell? ⟨X, 0, none⟩ = some (vi 0) := by rw [Bt.cell_of HQ.out.res]; rfl
            have e1 : wq.cell? ⟨X, 1, none⟩ = some (vi 0) := by rw [Bt.cell_of HQ.out.res]; rfl
            have e2 : wq.cell? ⟨X, 2, none⟩ = some (vi 0) := by rw [Bt.cell_of HQ.out.res]; rfl
            have e3 : wq.cell? ⟨X, 3, none⟩ = some (.slice none 0 0) := by rw [Bt.cell_of HQ.out.res]; rfl
            have e4 : wq.cell? ⟨X, 4, none⟩ = some (.slice none 0 0) := by rw [Bt.cell_of HQ.out.res]; rfl
            go_wp2_with (go_at_call 56; refine (err_call wq HQ.out.rd).mono ?_; rintro e9 w9 ⟨rfl, rfl⟩)
            change bodyPost _ _ _ _ _ (setReady wq X z1 z2 z3 (.slice aw ws.length cw) (.slice ar rs.length cr))
            have HD := Lib.hid HQ.out.done
            clear c0 c1 c2 c3 c4 d0 e0 e1 e2 e3 e4
            generalize setReady wq X z1 z2 z3 (.slice aw ws.length cw) (.slice ar rs.length cr) = wz at *
            have r0 : wz.cell? ⟨X, 0, none⟩ = some (vi z1) := by rw [Bt.cell_of HD.out.1]; rfl
            have r1 : wz.cell? ⟨X, 1, none⟩ = some (vi z2) := by rw [Bt.cell_of HD.out.1]; rfl
            have r2 : wz.cell? ⟨X, 2, none⟩ = some (vi z3) := by rw [Bt.cell_of HD.out.1]; rfl
            have r3 : wz.cell? ⟨X, 3, none⟩ = some (.slice aw ws.length cw) := by rw [Bt.cell_of HD.out.1]; rfl
            have r4 : wz.cell? ⟨X, 4, none⟩ = some (.slice ar rs.length cr) := by rw [Bt.cell_of HD.out.1]; rfl
            obtain ⟨f1, f2, f3, f4⟩ := FIN2.out HC.out
            exact bodyPost_ret (v := rdyV ⟨.slice aw ws.length cw, .slice ar rs.length cr, ⟨z1, z2, z3, ws, rs⟩⟩) (by simp [results, Try.results51, go_sem, rdyV, rdyC, r0, r1, r2, r3, r4]) rfl ⟨_, sq, rfl, HD.out.2.1, HD.out.2.2.1, f4, f3, f2, f1, HD.out.2.2.2.1, HD.out.2.2.2.2⟩
    · have h1 : decide ((0 : Int) < m) = true := decide_eq_true (by omega)
      have h2 : decide (0 < m) = true := decide_eq_true (by omega)
      by_cases hb : sk.bad = 0
      · have hb1 : (sk.bad == 0) = true := by simp [hb]
        have HB := Lib.hid hb
        clear hb
        go_upto_region 5 with (go_at_call 56; refine (err_call wj HI.out.rd).mono ?_; rintro e7 w7 ⟨rfl, rfl⟩)
        obtain ⟨m, rfl⟩ : ∃ m', m = m' + 1 := ⟨m - 1, by omega⟩
        obtain ⟨aw, cw, rfl⟩ := Bt.own_shape HI.out.ows
        have HID := Lib.hid (HI.out.drew)
        have y3 := HI.out.y3
        have y3' := HID.out.y3
        have hwm : IntKind.u64.wrap (m : Int) = (m : Int) := by rw [IntKind.wrap_u64]; omega
        have hbw := HI.out.gro.size
        have hwl : ws.length + 1 ≤ 68719476736 := by omega
        clear hm0
        go_region_law (first
          | (go_simp; go_at_call 50; refine (intR_call wa1 HA1.out.rd).mono ?_; rintro eb1 wb1 ⟨q2, t2, rfl, hq2, hrb, hsb, hgb⟩; have HRB := Lib.hid hrb; have HB1 := Lib.hid (HA1.out.read hgb hsb); have hbw2 := Nat.le_trans hbw1 hgb.size; have y3b := HB1.out.y3; have y3b' := (fun o => (HB1.out.alloc o).y3); clear hrb hsb hgb)
          | (go_simp; go_at_call 50; refine (intR_call _ HID.out.rd).mono ?_; rintro ea1 wa1 ⟨q1, t1, rfl, hq1, hra, hsa, hga⟩; have HRA := Lib.hid hra; have HA1 := Lib.hid (HID.out.read hga hsa); have hbw1 : w.heap.size ≤ wa1.heap.size := Nat.le_trans hbw hga.size; have y3a := HA1.out.y3; clear hra hsa hga)
          | (refine step_append_src rfl _ _ 26 rfl eltOp w.heap.size ws.length _ ((HB1.out.alloc _).ows) rfl 1 [vi 2, vi q1, vi q2] (src_new (cs := #[vi 2, vi q1, vi q2]) rfl rfl) rfl (by intro u hu; simp at hu; rcases hu with rfl | rfl | rfl <;> rfl) hwl (by omega) (by simp; omega) ?_; intro vc1 wc1 hoc hgc _; obtain ⟨gc, cc, rfl⟩ := Bt.own_some hoc (by omega); have HC1 := Lib.hid ((HB1.out.alloc (.cells #[vi 2, vi q1, vi q2] 104)).addW ⟨2, q1, q2⟩ hgc hoc); have hYc : wc1.heap[Y]? = _ := (hgc.block Y (Array.getElem?_eq_some_iff.1 (HB1.out.alloc (.cells #[vi 2, vi q1, vi q2] 104)).box).1 (row_ne (HB1.out.alloc (.cells #[vi 2, vi q1, vi q2] 104)).ows (HB1.out.alloc (.cells #[vi 2, vi q1, vi q2] 104)).box (by decide))).trans (HB1.out.alloc (.cells #[vi 2, vi q1, vi q2] 104)).box; have y3c : wc1.cell? ⟨Y, 3, none⟩ = some (.slice aw ws.length cw) := (by rw [Bt.cell_of hYc]; rfl); have f3c : wc1.frozen? ⟨Y, 3, none⟩ = false := Bt.free_of hYc 3; clear hoc hgc hYc))
        all_goals
          go_wp2
          refine ⟨⟨m, by go_num, by omega, Lib.hid ⟨t2, _, ws ++ [⟨2, q1, q2⟩], HC1.out, ?_, ?_, ?_, ?_, ?_, ?_⟩⟩, by simp only [intOf]; omega⟩
          · rw [List.length_append]; exact HR.out.snoc (op_read HRA.out HRB.out)
          · have := HN.out; simp; omega
          · intro o ho
            rcases List.mem_append.1 ho with ho | ho
            · exact HOK.out o ho
            · simp at ho; subst ho; exact ⟨rfl, hq1, hq2⟩
          · intro h
            have e1 := (op_read HRA.out HRB.out).less h
            have e2 := HLEN.out HB.out
            have e3 := numL_pos (x := zig q1) (by have := zig_lt hq1.1 hq1.2; omega)
            have e4 : 1 ≤ (opL ⟨2, q1, q2⟩).length := by unfold opL; rw [List.length_append]; exact Nat.le_trans e3 (Nat.le_add_right _ _)
            simp; omega
          · have e2 := HLEN.out HB.out
            simp; omega
          · intro h
            exact absurd ((HR.out.2 HB.out).1) h
      · have hb1 : (sk.bad == 0) = false := by simp [hb]
        have HB := Lib.hid hb
        clear hb
        go_wp2_with (first | (go_at_call 55; refine (numR_call wj HI.out.rd).mono ?_; rintro e8 w8 ⟨n8, s8, rfl, hn8, hr8, hs8, hg8⟩; have HR8 := Lib.hid hr8; have HI8 := Lib.hid (HI.out.read hg8 hs8); clear hr8 hs8 hg8) | (go_at_call 56; refine (err_call wj HI.out.rd).mono ?_; rintro e7 w7 ⟨rfl, rfl⟩))
        have hF1 := FIN.out (.inr HB.out)
        have hrl8 := HI8.out.rd.restLe
        go_loopw [5] (fun t wr => ∃ m : Nat, t = .int .u64 (m : Nat) ∧ m < 2 ^ 64 ∧ Hid (∃ (sk : Rd) (rv : Value) (rs : List Int), RRS w base p X Y sk z1 z2 z3 wv rv ws rs wr ∧ RdOK (fun l : List Int => l.flatMap intL) (LenOk IntOk rs.length) s8 sk rs ∧ rs.length + m = n8 ∧ (∀ o ∈ rs, IntOk o) ∧ (sk.bad = 0 → rs.length + sk.rest.length ≤ s8.rest.length) ∧ rs.length ≤ s8.rest.length + 1 ∧ (s8.bad ≠ 0 → rs = []))) (fun t _ => (intOf t).toNat)
        case atStart => exact ⟨n8, rfl, hn8, Lib.hid ⟨s8, _, [], HI8.out, RdOK.none _, by simp, (fun o h => by cases h), (fun _ => by simp), by simp, fun _ => rfl⟩⟩
        case round =>
          obtain ⟨wq, rfl⟩ : ∃ wq : World, wq = wr := ⟨_, rfl⟩
          obtain ⟨m', rfl, hm', HJ⟩ := hrel
          obtain ⟨sq, rv, rs, hI, hR, hn, hok, hlen, hle2, hs8b⟩ := HJ.out
          have HQ := Lib.hid hI
          have HRQ := Lib.hid hR
          have HNQ := Lib.hid hn
          have HOKQ := Lib.hid hok
          have HLENQ := Lib.hid hlen
          have HS8B := Lib.hid hs8b
          have HF1 := Lib.hid hF1
          clear HJ hI hR hn hok hlen hs8b hF1
          have fin : (m' = 0 ∨ sq.bad ≠ 0) → RdOK rdyBL RdyBOk s sq ⟨z1, z2, z3, ws, rs⟩ ∧ rs.length ≤ s.rest.length + 1 ∧ ws.length ≤ s.rest.length + 1 ∧ RdyBOk ⟨z1, z2, z3, ws, rs⟩ := by
            intro hc
            have hRn : RdOK (fun l : List Int => l.flatMap intL) (LenOk IntOk n8) s8 sq rs := by
              have hn := HNQ.out
              rcases hc with h0 | hb
              · rw [h0, Nat.add_zero] at hn; rw [← hn]; exact HRQ.out
              · exact HRQ.out.cut hb (by omega)
            have hd := HR8.out.dep hRn
            have hws := HF1.out.2.1
            have hrr := HF1.out.2.2
            have hw64 : ws.length < 2 ^ 64 := by have := HN.out; omega
            have hr64 : rs.length < 2 ^ 64 := by have := HNQ.out; omega
            refine ⟨rdy_read HR1.out HR2.out HR3.out HF1.out.1 hd, ?_, ?_, ⟨hz1, hz2, hz3, ⟨hw64, HOK.out⟩, ⟨hr64, HOKQ.out⟩⟩⟩
            · by_cases h8 : s8.bad = 0
              · have := HR8.out.less h8
                have h6 := (HR8.out.2 h8).1
                have := HF1.out.1.less h6
                have h3 := (HF1.out.1.2 h6).1
                have := HR3.out.less h3
                have h2 := (HR3.out.2 h3).1
                have := HR2.out.less h2
                have h1 := (HR2.out.2 h2).1
                have := HR1.out.less h1
                omega
              · rw [HS8B.out h8]; simp
            · by_cases h3 : s3.bad = 0
              · have := HR3.out.less h3
                have h2 := (HR3.out.2 h3).1
                have := HR2.out.less h2
                have h1 := (HR2.out.2 h2).1
                have := HR1.out.less h1
                omega
              · rw [hrr h3]; simp
          have FIN2 := Lib.hid fin
          clear fin
          by_cases hm0 : m' = 0
          · have h1 : decide ((0 : Int) < m') = false := decide_eq_false (by omega)
            have h2 : decide (0 < m') = false := decide_eq_false (by omega)
            have HC := Lib.hid (show m' = 0 ∨ sq.bad ≠ 0 from .inl hm0)
            clear hm0
            obtain ⟨aw, cw, rfl⟩ := Bt.own_shape HQ.out.ows
            obtain ⟨ar, cr, rfl⟩ := Bt.own_shape HQ.out.ors
            have c0 : wq.cell? ⟨Y, 0, none⟩ = some (vi z1) := by rw [Bt.cell_of HQ.out.box]; rfl
            have c1 : wq.cell? ⟨Y, 1, none⟩ = some (vi z2) := by rw [Bt.cell_of HQ.out.box]; rfl
            have c2 : wq.cell? ⟨Y, 2, none⟩ = some (vi z3) := by rw [Bt.cell_of HQ.out.box]; rfl
            have c3 := HQ.out.y3
            have c4 := HQ.out.y4
            have d0 : ∀ o, wq.frozen? ⟨X, o, none⟩ = false := fun o => Bt.free_of HQ.out.res o
            have e0 : wq.cell? ⟨X, 0, none⟩ = some (vi 0) := by rw [Bt.cell_of HQ.out.res]; rfl
            have e1 : wq.cell? ⟨X, 1, none⟩ = some (vi 0) := by rw [Bt.cell_of HQ.out.res]; rfl
            have e2 : wq.cell? ⟨X, 2, none⟩ = some (vi 0) := by rw [Bt.cell_of HQ.out.res]; rfl
            have e3 : wq.cell? ⟨X, 3, none⟩ = some (.slice none 0 0) := by rw [Bt.cell_of HQ.out.res]; rfl
            have e4 : wq.cell? ⟨X, 4, none⟩ = some (.slice none 0 0) := by rw [Bt.cell_of HQ.out.res]; rfl
            go_wp2_with (go_at_call 56; refine (err_call wq HQ.out.rd).mono ?_; rintro e9 w9 ⟨rfl, rfl⟩)
            change bodyPost _ _ _ _ _ (setReady wq X z1 z2 z3 (.slice aw ws.length cw) (.slice ar rs.length cr))
            have HD := Lib.hid HQ.out.done
            clear c0 c1 c2 c3 c4 d0 e0 e1 e2 e3 e4
            generalize setReady wq X z1 z2 z3 (.slice aw ws.length cw) (.slice ar rs.length cr) = wz at *
            have r0 : wz.cell? ⟨X, 0, none⟩ = some (vi z1) := by rw [Bt.cell_of HD.out.1]; rfl
            have r1 : wz.cell? ⟨X, 1, none⟩ = some (vi z2) := by rw [Bt.cell_of HD.out.1]; rfl
            have r2 : wz.cell? ⟨X, 2, none⟩ = some (vi z3) := by rw [Bt.cell_of HD.out.1]; rfl
            have r3 : wz.cell? ⟨X, 3, none⟩ = some (.slice aw ws.length cw) := by rw [Bt.cell_of HD.out.1]; rfl
            have r4 : wz.cell? ⟨X, 4, none⟩ = some (.slice ar rs.length cr) := by rw [Bt.cell_of HD.out.1]; rfl
            obtain ⟨f1, f2, f3, f4⟩ := FIN2.out HC.out
            exact bodyPost_ret (v := rdyV ⟨.slice aw ws.length cw, .slice ar rs.length cr, ⟨z1, z2, z3, ws, rs⟩⟩) (by simp [results, Try.results51, go_sem, rdyV, rdyC, r0, r1, r2, r3, r4]) rfl ⟨_, sq, rfl, HD.out.2.1, HD.out.2.2.1, f4, f3, f2, f1, HD.out.2.2.2.1, HD.out.2.2.2.2⟩
          · have h1 : decide ((0 : Int) < m') = true := decide_eq_true (by omega)
            have h2 : decide (0 < m') = true := decide_eq_true (by omega)
            by_cases hb : sq.bad = 0
            · have hb1 : (sq.bad == 0) = true := by simp [hb]
              have HB := Lib.hid hb
              clear hb
              go_upto_region 9 with (go_at_call 56; refine (err_call wq HQ.out.rd).mono ?_; rintro e9 w9 ⟨rfl, rfl⟩)
              obtain ⟨m', rfl⟩ : ∃ m'', m' = m'' + 1 := ⟨m' - 1, by omega⟩
              obtain ⟨ar, cr, rfl⟩ := Bt.own_shape HQ.out.ors
              have HID := Lib.hid (HQ.out.drew)
              have y3 := HQ.out.y4
              have y3' := HID.out.y4
              have hwm : IntKind.u64.wrap (m' : Int) = (m' : Int) := by rw [IntKind.wrap_u64]; omega
              have hbw := HQ.out.gro.size
              have hwl : rs.length + 1 ≤ 68719476736 := by omega
              clear hm0
              go_region_law (first
                | (go_simp; go_at_call 50; refine (intR_call _ HID.out.rd).mono ?_; rintro ea1 wa1 ⟨q1, t1, rfl, hq1, hra, hsa, hga⟩; have HRA := Lib.hid hra; have HA1 := Lib.hid (HID.out.read hga hsa); have hbw1 : w.heap.size ≤ wa1.heap.size := Nat.le_trans hbw hga.size; have y3a := HA1.out.y4; have y3a' := (fun o => (HA1.out.alloc o).y4); clear hra hsa hga)
                | (refine step_append_src rfl _ _ 27 rfl eltI w.heap.size rs.length _ ((HA1.out.alloc _).ors) rfl 1 [vi q1] (src_new (cs := #[vi q1]) rfl rfl) rfl (by intro u hu; simp at hu; subst hu; rfl) hwl (by omega) (by simp; omega) ?_; intro vc1 wc1 hoc hgc _; obtain ⟨gc, cc, rfl⟩ := Bt.own_some hoc (by omega); have HC1 := Lib.hid ((HA1.out.alloc (.cells #[vi q1] 3)).addR q1 hgc hoc); have hYc : wc1.heap[Y]? = _ := (hgc.block Y (Array.getElem?_eq_some_iff.1 (HA1.out.alloc (.cells #[vi q1] 3)).box).1 (row_ne (HA1.out.alloc (.cells #[vi q1] 3)).ors (HA1.out.alloc (.cells #[vi q1] 3)).box (by decide))).trans (HA1.out.alloc (.cells #[vi q1] 3)).box; have y3c : wc1.cell? ⟨Y, 4, none⟩ = some (.slice ar rs.length cr) := (by rw [Bt.cell_of hYc]; rfl); have f3c : wc1.frozen? ⟨Y, 4, none⟩ = false := Bt.free_of hYc 4; clear hoc hgc hYc))
              all_goals
                go_wp2
                refine ⟨⟨m', by go_num, by omega, Lib.hid ⟨t1, _, rs ++ [q1], HC1.out, ?_, ?_, ?_, ?_, ?_, ?_⟩⟩, by simp only [intOf]; omega⟩
                · rw [List.length_append]; exact HRQ.out.snoc HRA.out
                · have := HNQ.out; simp; omega
                · intro o ho
                  rcases List.mem_append.1 ho with ho | ho
                  · exact HOKQ.out o ho
                  · simp at ho; subst ho; exact hq1
                · intro h
                  have e1 := HRA.out.less h
                  have e2 := HLENQ.out HB.out
                  have e3 := numL_pos (x := zig q1) (by have := zig_lt hq1.1 hq1.2; omega)
                  have e4 : 1 ≤ (intL q1).length := e3
                  simp; omega
                · have e2 := HLENQ.out HB.out
                  simp; omega
                · intro h
                  exact absurd ((HRQ.out.2 HB.out).1) h
            · have hb1 : (sq.bad == 0) = false := by simp [hb]
              have HC := Lib.hid (show m' = 0 ∨ sq.bad ≠ 0 from .inr hb)
              clear hb
              obtain ⟨aw, cw, rfl⟩ := Bt.own_shape HQ.out.ows
              obtain ⟨ar, cr, rfl⟩ := Bt.own_shape HQ.out.ors
              have c0 : wq.cell? ⟨Y, 0, none⟩ = some (vi z1) := by rw [Bt.cell_of HQ.out.box]; rfl
              have c1 : wq.cell? ⟨Y, 1, none⟩ = some (vi z2) := by rw [Bt.cell_of HQ.out.box]; rfl
              have c2 : wq.cell? ⟨Y, 2, none⟩ = some (vi z3) := by rw [Bt.cell_of HQ.out.box]; rfl
              have c3 := HQ.out.y3
              have c4 := HQ.out.y4
              have d0 : ∀ o, wq.frozen? ⟨X, o, none⟩ = false := fun o => Bt.free_of HQ.out.res o
              have e0 : wq.cell? ⟨X, 0, none⟩ = some (vi 0) := by rw [Bt.cell_of HQ.out.res]; rfl
              have e1 : wq.cell? ⟨X, 1, none⟩ = some (vi 0) := by rw [Bt.cell_of HQ.out.res]; rfl
              have e2 : wq.cell? ⟨X, 2, none⟩ = some (vi 0) := by rw [Bt.cell_of HQ.out.res]; rfl
              have e3 : wq.cell? ⟨X, 3, none⟩ = some (.slice none 0 0) := by rw [Bt.cell_of HQ.out.res]; rfl
              have e4 : wq.cell? ⟨X, 4, none⟩ = some (.slice none 0 0) := by rw [Bt.cell_of HQ.out.res]; rfl
              go_wp2_with (go_at_call 56; refine (err_call wq HQ.out.rd).mono ?_; rintro e9 w9 ⟨rfl, rfl⟩)
              change bodyPost _ _ _ _ _ (setReady wq X z1 z2 z3 (.slice aw ws.length cw) (.slice ar rs.length cr))
              have HD := Lib.hid HQ.out.done
              clear c0 c1 c2 c3 c4 d0 e0 e1 e2 e3 e4
              generalize setReady wq X z1 z2 z3 (.slice aw ws.length cw) (.slice ar rs.length cr) = wz at *
              have r0 : wz.cell? ⟨X, 0, none⟩ = some (vi z1) := by rw [Bt.cell_of HD.out.1]; rfl
              have r1 : wz.cell? ⟨X, 1, none⟩ = some (vi z2) := by rw [Bt.cell_of HD.out.1]; rfl
              have r2 : wz.cell? ⟨X, 2, none⟩ = some (vi z3) := by rw [Bt.cell_of HD.out.1]; rfl
              have r3 : wz.cell? ⟨X, 3, none⟩ = some (.slice aw ws.length cw) := by rw [Bt.cell_of HD.out.1]; rfl
              have r4 : wz.cell? ⟨X, 4, none⟩ = some (.slice ar rs.length cr) := by rw [Bt.cell_of HD.out.1]; rfl
              obtain ⟨f1, f2, f3, f4⟩ := FIN2.out HC.out
              exact bodyPost_ret (v := rdyV ⟨.slice aw ws.length cw, .slice ar rs.length cr, ⟨z1, z2, z3, ws, rs⟩⟩) (by simp [results, Try.results51, go_sem, rdyV, rdyC, r0, r1, r2, r3, r4]) rfl ⟨_, sq, rfl, HD.out.2.1, HD.out.2.2.1, f4, f3, f2, f1, HD.out.2.2.2.1, HD.out.2.2.2.2⟩
end Go.Proofs.Ytdkkpkgfiodlbaa

/- shard.end, shard.readEnd. -/
namespace Go.Proofs.Ytdkkpkgfiodlbaa
open Go.RowKit

def bitL (b : Bool) : List Bool := [b]
theorem bit_read {s : Rd} (h : s.bad = 0) {b : Bool} {r : List Bool} (hr : s.rest = b :: r) : RdOK bitL (fun _ => True) s ⟨r, 0⟩ b := by
  refine ⟨fun _ y t _ e => ?_, fun _ => ⟨h, trivial, hr⟩⟩
  rw [hr] at e
  simp only [bitL, List.cons_append, List.nil_append, List.cons.injEq] at e
  exact ⟨e.1, e.2, rfl⟩
theorem bit_stop {s s' : Rd} {b : Bool} (h : s.bad = 0 → s.rest = []) (hs : s'.bad ≠ 0) : RdOK bitL (fun _ => True) s s' b := by
  refine ⟨fun h0 y t _ e => ?_, fun h0 => absurd h0 hs⟩
  rw [h h0] at e; cases e
theorem getS_bit (s : Rd) : RdOK bitL (fun _ => True) s (getS s 1).2 ((getS s 1).1 == 1) ∧ (getS s 1).1 < 2 := by
  by_cases h : s.bad = 0
  · cases hr : s.rest with
    | nil =>
      have e : getS s 1 = (0, ⟨s.rest, 10⟩) := by rw [getS, if_neg (by simp [h]), if_pos (by rw [hr]; simp)]
      rw [e]
      exact ⟨bit_stop (fun _ => hr) (by simp), by show (0 : Nat) < 2; decide⟩
    | cons b r =>
      have e : getS s 1 = (valL [b], ⟨r, 0⟩) := by rw [getS, if_neg (by simp [h]), if_neg (by rw [hr]; simp), hr]; rfl
      rw [e]
      have hv : (valL [b] == 1) = b := by cases b <;> rfl
      have hv2 : valL [b] < 2 := by cases b <;> decide
      refine ⟨?_, hv2⟩
      show RdOK bitL _ s ⟨r, 0⟩ (valL [b] == 1)
      rw [hv]; exact bit_read h hr
  · have e : getS s 1 = (0, s) := by rw [getS, if_pos h]
    rw [e]
    exact ⟨bit_stop (fun h0 => absurd h0 h) h, by show (0 : Nat) < 2; decide⟩
/-- What became of a transaction, in bits. -/
def endBL (e : EndM) : List Bool := intL e.txn ++ [e.commit] ++ intL e.at_
abbrev EndOk (e : EndM) : Prop := IntOk e.txn ∧ IntOk e.at_
theorem putL_bit (b : Bool) : putL (if b then 1 else 0) 1 = [b] := by cases b <;> rfl
theorem endBL_length {e : EndM} (h : EndOk e) : (endBL e).length ≤ 259 := by
  have := intL_length h.1
  have := intL_length h.2
  simp [endBL]; omega
set_option maxRecDepth 100000 in
set_option maxHeartbeats 4000000 in
theorem shEnd_call {base p : Nat} {L : List Bool} (e : EndM) (w : World) (h : WrS base p L w) (hi : EndOk e) (hL : L.length ≤ 1000000) (hb : base ≤ w.heap.size) :
    Calls Try.prog 35 #[.pointer (some ⟨p, 0, none⟩), endV e] w (PutQ base p (L ++ endBL e) w) := by
  have hne := h.lt
  have HX := Lib.hid (Bt.alloc_at w (.cells #[vi e.txn, .bool e.commit, vi e.at_] 31))
  have HW := Lib.hid (h.alloc (.cells #[vi e.txn, .bool e.commit, vi e.at_] 31))
  have HF := Lib.hid ((FrW.refl base p w).alloc (.cells #[vi e.txn, .bool e.commit, vi e.at_] 31))
  have hl1 := intL_length hi.1
  have hl2 := intL_length hi.2
  have hba : base ≤ (w.alloc (.cells #[vi e.txn, .bool e.commit, vi e.at_] 31)).heap.size := by simp; omega
  clear h
  unfold endV
  go_enter Try.func35, Try.ntmps35
  go_upto_region 1 with fail
  generalize w.alloc (.cells #[vi e.txn, .bool e.commit, vi e.at_] 31) = w1 at *
  obtain ⟨X, hX⟩ : ∃ X, X = w.heap.size := ⟨_, rfl⟩
  rw [← hX] at HX hne ⊢
  have hnX : X ≠ p := by omega
  have HXE := Lib.hid hX
  clear hX hb
  have x0 : w1.cell? ⟨X, 0, none⟩ = some (vi e.txn) := by rw [Bt.cell_of HX.out]; rfl
  obtain ⟨txn, commit, at_⟩ := e
  simp only at *
  cases commit
  · have hlb : (L ++ intL txn).length ≤ 1000200 := by simp; omega
    have hlc : (L ++ intL txn ++ [false]).length ≤ 1048000 := by simp; omega
    go_upto_region 2 with (go_at_call 33; refine (int_call (L := L) txn w1 HW.out hi.1.1 hi.1.2 (by omega) hba).mono ?_; rintro e2 w2 ⟨rfl, hw2, hf2⟩; have HW2 := Lib.hid hw2; have HF2 := Lib.hid hf2; have hz2 := Nat.le_trans hba hf2.size; have HX2 := Lib.hid (hf2.cells HX.out hnX (by decide)); have x1 : w2.cell? ⟨X, 1, none⟩ = some (.bool false) := (by rw [Bt.cell_of HX2.out]; rfl); clear hw2 hf2)
    go_upto_region 6 with (go_at_call 72; refine (put_call (L := L ++ intL txn) 0 1 w2 HW2.out (by decide) (by decide) (by omega) hz2).mono ?_; rintro e3 w3 ⟨rfl, hw3, hf3⟩; have HW3 := Lib.hid (show WrS base p (L ++ intL txn ++ [false]) w3 from hw3); have HF3 := Lib.hid hf3; have hz3 := Nat.le_trans hz2 hf3.size; have x2 : w3.cell? ⟨X, 2, none⟩ = some (vi at_) := (by rw [Bt.cell_of (hf3.cells HX2.out hnX (by decide))]; rfl); clear hw3 hf3)
    go_wp2_with (go_at_call 33; refine (int_call (L := L ++ intL txn ++ [false]) at_ w3 HW3.out hi.2.1 hi.2.2 hlc hz3).mono ?_; rintro e4 w4 ⟨rfl, hw4, hf4⟩; have HW4 := Lib.hid hw4; have HF4 := Lib.hid hf4; clear hw4 hf4)
    go_end0
    refine ⟨rfl, ?_, ((HF.out.trans HF2.out).trans HF3.out).trans HF4.out⟩
    have := HW4.out
    simpa [endBL, List.append_assoc] using this
  · have hlb : (L ++ intL txn).length ≤ 1000200 := by simp; omega
    have hlc : (L ++ intL txn ++ [true]).length ≤ 1048000 := by simp; omega
    go_upto_region 2 with (go_at_call 33; refine (int_call (L := L) txn w1 HW.out hi.1.1 hi.1.2 (by omega) hba).mono ?_; rintro e2 w2 ⟨rfl, hw2, hf2⟩; have HW2 := Lib.hid hw2; have HF2 := Lib.hid hf2; have hz2 := Nat.le_trans hba hf2.size; have HX2 := Lib.hid (hf2.cells HX.out hnX (by decide)); have x1 : w2.cell? ⟨X, 1, none⟩ = some (.bool true) := (by rw [Bt.cell_of HX2.out]; rfl); clear hw2 hf2)
    go_upto_region 6 with (go_at_call 72; refine (put_call (L := L ++ intL txn) 1 1 w2 HW2.out (by decide) (by decide) (by omega) hz2).mono ?_; rintro e3 w3 ⟨rfl, hw3, hf3⟩; have HW3 := Lib.hid (show WrS base p (L ++ intL txn ++ [true]) w3 from hw3); have HF3 := Lib.hid hf3; have hz3 := Nat.le_trans hz2 hf3.size; have x2 : w3.cell? ⟨X, 2, none⟩ = some (vi at_) := (by rw [Bt.cell_of (hf3.cells HX2.out hnX (by decide))]; rfl); clear hw3 hf3)
    go_wp2_with (go_at_call 33; refine (int_call (L := L ++ intL txn ++ [true]) at_ w3 HW3.out hi.2.1 hi.2.2 hlc hz3).mono ?_; rintro e4 w4 ⟨rfl, hw4, hf4⟩; have HW4 := Lib.hid hw4; have HF4 := Lib.hid hf4; clear hw4 hf4)
    go_end0
    refine ⟨rfl, ?_, ((HF.out.trans HF2.out).trans HF3.out).trans HF4.out⟩
    have := HW4.out
    simpa [endBL, List.append_assoc] using this
theorem end_read {s s1 s2 s3 : Rd} {a c : Int} {b : Bool} (h1 : RdOK intL IntOk s s1 a) (h2 : RdOK bitL (fun _ => True) s1 s2 b) (h3 : RdOK intL IntOk s2 s3 c) : RdOK endBL EndOk s s3 ⟨a, b, c⟩ :=
  ((h1.seq h2).seq h3).map (fun z => (⟨z.1.1, z.1.2, z.2⟩ : EndM)) (fun e => ((e.txn, e.commit), e.at_)) (fun e he => ⟨⟨⟨he.1, trivial⟩, he.2⟩, by simp [endBL, bitL], rfl⟩) (fun z hz => ⟨⟨hz.1.1, hz.2⟩, by simp [endBL, bitL]⟩)
def EndRQ (base p : Nat) (s : Rd) (w : World) (e : Ending) (w' : World) : Prop := ∃ x s', e = .returned (endV x) ∧ EndOk x ∧ RdOK endBL EndOk s s' x ∧ RdrS base p s' w' ∧ w.grownBy w' (some p)
set_option maxRecDepth 100000 in
set_option maxHeartbeats 4000000 in
theorem readEnd_call {base p : Nat} {s : Rd} (w : World) (h : RdrS base p s w) :
    Calls Try.prog 52 #[.pointer (some ⟨p, 0, none⟩)] w (EndRQ base p s w) := by
  have hp := h.lt
  have HX := Lib.hid (Bt.alloc_at w (.cells #[vi 0, .bool false, vi 0] 31))
  have HW := Lib.hid (h.later ((Below.refl w.heap.size w).alloc (Nat.le_refl _) (.cells #[vi 0, .bool false, vi 0] 31)))
  have HG := Lib.hid (World.grownBy_alloc w (.cells #[vi 0, .bool false, vi 0] 31) (some p))
  have hsz : w.heap.size < (w.alloc (.cells #[vi 0, .bool false, vi 0] 31)).heap.size := by simp
  clear h
  go_enter Try.func52, Try.ntmps52
  go_upto_region 1 with fail
  generalize w.alloc (.cells #[vi 0, .bool false, vi 0] 31) = w1 at *
  obtain ⟨X, hX⟩ : ∃ X, X = w.heap.size := ⟨_, rfl⟩
  have hpX : p < X := by omega
  have hXw : X < w1.heap.size := by omega
  rw [← hX] at HX ⊢
  have HXE := Lib.hid hX
  clear hX hsz
  go_wp2_with (first
    | (go_at_call 50; refine (intR_call w3 HS3.out).mono ?_; rintro e4 w4 ⟨z2, s4, rfl, hz2, hr4, hs4, hg4⟩; have HR4 := Lib.hid hr4; have HS4 := Lib.hid hs4; have HG4 := Lib.hid (gro_trans HG3.out hg4); have hx4 := (hg4.block X (Nat.lt_of_lt_of_le hXw HG3.out.size) (fun e => by have := Option.some.inj e; omega)).trans HX3.out; have HX4 := Lib.hid hx4; have x0 : w4.cell? ⟨X, 0, none⟩ = some (vi 0) := (by rw [Bt.cell_of hx4]; rfl); have x1 : w4.cell? ⟨X, 1, none⟩ = some (.bool false) := (by rw [Bt.cell_of hx4]; rfl); have x2 : w4.cell? ⟨X, 2, none⟩ = some (vi 0) := (by rw [Bt.cell_of hx4]; rfl); have xf : ∀ o, w4.frozen? ⟨X, o, none⟩ = false := (fun o => Bt.free_of hx4 o); clear hr4 hs4 hg4 hx4)
    | (go_at_call 80; refine (get_call 1 w2 HS2.out (by decide)).mono ?_; rintro e3 w3 ⟨rfl, hs3, hg3⟩; obtain ⟨hb, hlt⟩ := getS_bit s2; have HRB := Lib.hid hb; have HS3 := Lib.hid hs3; have HG3 := Lib.hid (gro_trans HG2.out hg3); have HX3 := Lib.hid ((hg3.block X (Nat.lt_of_lt_of_le hXw HG2.out.size) (fun e => by have := Option.some.inj e; omega)).trans HX2.out); obtain ⟨g, hge⟩ : ∃ g, g = (getS s2 1).1 := ⟨_, rfl⟩; rw [← hge] at hlt HRB; rw [← hge]; have HGE := Lib.hid hge; clear hb hs3 hg3 hge)
    | (go_at_call 50; refine (intR_call w1 HW.out).mono ?_; rintro e2 w2 ⟨z1, s2, rfl, hz1, hr2, hs2, hg2⟩; have HR2 := Lib.hid hr2; have HS2 := Lib.hid hs2; have HG2 := Lib.hid hg2; have HX2 := Lib.hid ((hg2.block X hXw (fun e => by have := Option.some.inj e; omega)).trans HX.out); clear hr2 hs2 hg2))
  have HX4' := HX4
  have h0 := Bt.cells_set (o := 0) (vi z1) HX4.out
  have h1 := Bt.cells_set (o := 1) (.bool ((g : Int) == 1)) h0
  have h2 := Bt.cells_set (o := 2) (vi z2) h1
  have HSR := Lib.hid ((((HS4.out.setO HX4.out (by decide) (by decide) (vi z1) (o := 0)).setO h0 (by decide) (by decide) (.bool ((g : Int) == 1)) (o := 1)).setO h1 (by decide) (by decide) (vi z2) (o := 2)))
  have HGR := Lib.hid (gro_setNew (o := 2) (gro_setNew (o := 1) (gro_setNew (o := 0) (gro_trans HG.out HG4.out) (show w.heap.size ≤ X by rw [HXE.out]; exact Nat.le_refl _) (vi z1)) (show w.heap.size ≤ X by rw [HXE.out]; exact Nat.le_refl _) (.bool ((g : Int) == 1))) (show w.heap.size ≤ X by rw [HXE.out]; exact Nat.le_refl _) (vi z2))
  have H2 := Lib.hid h2
  clear x0 x1 x2 xf h0 h1 h2
  generalize (((w4.setCell ⟨X, 0, none⟩ (.int .i64 z1)).setCell ⟨X, 1, none⟩ (.bool ((g : Int) == 1))).setCell ⟨X, 2, none⟩ (.int .i64 z2)) = wz at *
  have r0 : wz.cell? ⟨X, 0, none⟩ = some (vi z1) := by rw [Bt.cell_of H2.out]; rfl
  have r1 : wz.cell? ⟨X, 1, none⟩ = some (.bool ((g : Int) == 1)) := by rw [Bt.cell_of H2.out]; rfl
  have r2 : wz.cell? ⟨X, 2, none⟩ = some (vi z2) := by rw [Bt.cell_of H2.out]; rfl
  have hg1 : ((g : Int) == 1) = (g == 1) := by rw [Bool.eq_iff_iff]; simp; omega
  refine bodyPost_ret (v := endV ⟨z1, ((g : Int) == 1), z2⟩) (by simp [results, Try.results52, go_sem, endV, r0, r1, r2]) rfl ⟨⟨z1, ((g : Int) == 1), z2⟩, s4, rfl, ⟨hz1, hz2⟩, ?_, HSR.out, HGR.out⟩
  rw [hg1]
  exact end_read HR2.out HRB.out HR4.out
end Go.Proofs.Ytdkkpkgfiodlbaa

/- From the row's own reading of arguments of the types mvcc.Ready, mvcc.End and []shard.Cmd to what they hold. -/
namespace Go.Proofs.Ytdkkpkgfiodlbaa
open Go.RowKit
open Go.ChangeShapes Go.WideShapes
/-- The numbers in a Ready lie in their bounds. -/
structure RdyI (r : Rdy) : Prop where
  txn : i64 r.txn
  home : i64 r.home
  start : i64 r.start
  ws : ∀ o ∈ r.writes, i64 o.kind ∧ i64 o.key ∧ i64 o.val
  rs : ∀ k ∈ r.reads, i64 k
structure EndI (e : EndM) : Prop where
  txn : i64 e.txn
  at_ : i64 e.at_
/-- A step of the law's script. -/
structure Cmd21 where
  k : Int
  r : Rdy
  e : EndM
def cmd21C (o : Cmd21) (wv rv : Value) : List Value := [vi o.k, vi o.r.txn, vi o.r.home, vi o.r.start, wv, rv, vi o.e.txn, .bool o.e.commit, vi o.e.at_]
def ECmd21 (w : World) (cs : List Value) (o : Cmd21) : Prop := ∃ wv rv, cs = cmd21C o wv rv ∧ RdyS w ⟨wv, rv, o.r⟩ ∧ RdyI o.r ∧ EndI o.e
abbrev RdCmds (w : World) (v : Value) (l : List Cmd21) : Prop := RdS 9 ECmd21 w v l
theorem ECmd21.later {A B : World} {cs : List Value} {o : Cmd21} (h : ECmd21 A cs o) (hb : Below A.heap.size A B) : ECmd21 B cs o := by
  obtain ⟨wv, rv, h1, h2, h3⟩ := h
  exact ⟨wv, rv, h1, h2.later hb, h3⟩
theorem RdCmds.later {A B : World} {v : Value} {l : List Cmd21} (h : RdCmds A v l) (hb : Below A.heap.size A B) : RdCmds B v l := RdS.below h hb fun _ _ h => h.later hb
theorem RdCmds.at {w : World} {v : Value} {xs : List Cmd21} (h : RdCmds w v xs) : ∃ a len cap, v = .slice a len cap ∧ len = xs.length ∧ xs.length ≤ 9223372036854775807 ∧ ∀ j x, xs[j]? = some x → ∃ b off wv rv, a = some ⟨b, off, none⟩ ∧ RdyS w ⟨wv, rv, x.r⟩ ∧ RdyI x.r ∧ EndI x.e ∧
    (∀ i u, (cmd21C x wv rv)[i]? = some u → w.cell? ⟨b, off + (j * 9 + i), none⟩ = some u) := by
  obtain ⟨a, len, cap, h1, h2, h3, h4, h5, h6⟩ := h
  refine ⟨a, len, cap, h1, h2, h3, fun j x hj => ?_⟩
  obtain ⟨b, off, cs, ha, hl, hc, wv, rv, hcs, hr, hi, he⟩ := h6 j x hj
  exact ⟨b, off, wv, rv, ha, hr, hi, he, fun i u hu => hc i u (by rw [hcs]; exact hu)⟩

section
variable {H : Type} {enc : TypeId × Value → H} {w : World} {spare : Nat → Bool} {held : Bool}
theorem int_cell {m : Nat} {c : Value} {y : DataW H × List MemPlace} (h : DataW.trod enc Try.prog w 0 spare held m 3 [c] = some y) : ∃ n, c = vi n ∧ i64 n := by
  obtain ⟨n, hc, -, hw⟩ := DataW.trod_int Try.underlying3 h
  exact ⟨n, by simpa using hc, wf_i64 hw⟩
theorem bool_cell {m : Nat} {c : Value} {y : DataW H × List MemPlace} (h : DataW.trod enc Try.prog w 0 spare held m 4 [c] = some y) : ∃ b, c = .bool b := by
  obtain ⟨b, hc, -⟩ := DataW.trod_bool Try.underlying4 h
  exact ⟨b, by simpa using hc⟩
theorem cells_int : Try.prog.cellsOf 3 = 1 := by kernel_rfl
theorem cells_bool : Try.prog.cellsOf 4 = 1 := by kernel_rfl
theorem cells_op : Try.prog.cellsOf 104 = 3 := by kernel_rfl
theorem cells_ops : Try.prog.cellsOf 26 = 1 := by kernel_rfl
theorem cells_ints : Try.prog.cellsOf 27 = 1 := by kernel_rfl
theorem cells_rdy : Try.prog.cellsOf 29 = 5 := by kernel_rfl
theorem cells_end : Try.prog.cellsOf 31 = 3 := by kernel_rfl
theorem cells_cmd21 : Try.prog.cellsOf 33 = 9 := by kernel_rfl

def EOpI (_ : World) (cs : List Value) (o : GOp) : Prop := cs = opV o ∧ i64 o.kind ∧ i64 o.key ∧ i64 o.val
set_option maxRecDepth 100000 in
theorem op_cells {m : Nat} {cs : List Value} {y : DataW H × List MemPlace} (hl : cs.length = 3) (h : DataW.trod enc Try.prog w 0 spare held m 104 cs = some y) : ∃ o, EOpI w cs o := by
  obtain ⟨xs, n, _, _, _, hlen, hf⟩ := DataW.trod_struct Try.underlying104 h
  match cs, hl, xs, hlen with
  | [c0, c1, c2], _, [y0, y1, y2], _ =>
    have h0 : DataW.trod enc Try.prog w 0 spare held n 3 (([c0, c1, c2].drop 0).take (Try.prog.cellsOf 3)) = some y0 := hf 0 _ rfl
    have h1 : DataW.trod enc Try.prog w 0 spare held n 3 (([c0, c1, c2].drop 1).take (Try.prog.cellsOf 3)) = some y1 := hf 1 _ rfl
    have h2 : DataW.trod enc Try.prog w 0 spare held n 3 (([c0, c1, c2].drop 2).take (Try.prog.cellsOf 3)) = some y2 := hf 2 _ rfl
    rw [cells_int] at h0 h1 h2
    obtain ⟨a, rfl, ha⟩ := int_cell h0
    obtain ⟨b, rfl, hb⟩ := int_cell h1
    obtain ⟨c, rfl, hc⟩ := int_cell h2
    exact ⟨⟨a, b, c⟩, rfl, ha, hb, hc⟩
set_option maxRecDepth 100000 in
theorem ops_read {m : Nat} {v : Value} {y : DataW H × List MemPlace} (h : DataW.trod enc Try.prog w 0 spare held m 26 [v] = some y) : ∃ l, RdOps w v l ∧ ∀ o ∈ l, i64 o.kind ∧ i64 o.key ∧ i64 o.val := by
  obtain ⟨l, hl⟩ : ∃ l, RdS 3 EOpI w v l := rds_of_trod Try.underlying26 cells_op (by omega) h fun _ _ _ hl hy => op_cells hl hy
  obtain ⟨a, len, cap, h1, h2, h3, h4, h5, h6⟩ := hl
  refine ⟨l, ⟨a, len, cap, h1, h2, h3, h4, h5, fun j x hj => ?_⟩, fun o ho => ?_⟩
  · obtain ⟨b, off, cs, ha, hl, hc, he, _⟩ := h6 j x hj
    exact ⟨b, off, cs, ha, hl, hc, he⟩
  · obtain ⟨j, hj⟩ := List.mem_iff_getElem?.1 ho
    obtain ⟨b, off, cs, ha, hl, hc, he, hi⟩ := h6 j o hj
    exact hi
set_option maxRecDepth 100000 in
theorem ints_read {m : Nat} {v : Value} {y : DataW H × List MemPlace} (h : DataW.trod enc Try.prog w 0 spare held m 27 [v] = some y) : ∃ l, RdInts w v l ∧ ∀ k ∈ l, i64 k := by
  obtain ⟨l, hl⟩ : ∃ l, RdS 1 EInt w v l := rds_of_trod Try.underlying27 cells_int (by omega) h fun m cs y _ hy => by
    obtain ⟨n, rfl, _, hw⟩ := DataW.trod_int Try.underlying3 hy
    exact ⟨n, rfl, wf_i64 hw⟩
  refine ⟨l, hl, fun k hk => ?_⟩
  obtain ⟨a, len, cap, h1, h2, h3, h4, h5, h6⟩ := hl
  obtain ⟨j, hj⟩ := List.mem_iff_getElem?.1 hk
  obtain ⟨b, off, cs, ha, hl, hc, he, hi⟩ := h6 j k hj
  exact hi
set_option maxRecDepth 100000 in
theorem rdy_cells {m : Nat} {cs : List Value} {y : DataW H × List MemPlace} (hl : cs.length = 5) (h : DataW.trod enc Try.prog w 0 spare held m 29 cs = some y) : ∃ x : RV, cs = [vi x.r.txn, vi x.r.home, vi x.r.start, x.wv, x.rv] ∧ RdyS w x ∧ RdyI x.r := by
  obtain ⟨xs, n, _, _, _, hlen, hf⟩ := DataW.trod_struct Try.underlying29 h
  match cs, hl, xs, hlen with
  | [c0, c1, c2, c3, c4], _, [y0, y1, y2, y3, y4], _ =>
    have h0 : DataW.trod enc Try.prog w 0 spare held n 3 (([c0, c1, c2, c3, c4].drop 0).take (Try.prog.cellsOf 3)) = some y0 := hf 0 _ rfl
    have h1 : DataW.trod enc Try.prog w 0 spare held n 3 (([c0, c1, c2, c3, c4].drop 1).take (Try.prog.cellsOf 3)) = some y1 := hf 1 _ rfl
    have h2 : DataW.trod enc Try.prog w 0 spare held n 3 (([c0, c1, c2, c3, c4].drop 2).take (Try.prog.cellsOf 3)) = some y2 := hf 2 _ rfl
    have h3 : DataW.trod enc Try.prog w 0 spare held n 26 (([c0, c1, c2, c3, c4].drop 3).take (Try.prog.cellsOf 26)) = some y3 := hf 3 _ rfl
    have h4 : DataW.trod enc Try.prog w 0 spare held n 27 (([c0, c1, c2, c3, c4].drop 4).take (Try.prog.cellsOf 27)) = some y4 := hf 4 _ rfl
    rw [cells_int] at h0 h1 h2
    rw [cells_ops] at h3
    rw [cells_ints] at h4
    obtain ⟨a, rfl, ha⟩ := int_cell h0
    obtain ⟨b, rfl, hb⟩ := int_cell h1
    obtain ⟨c, rfl, hc⟩ := int_cell h2
    obtain ⟨ws, hw, hwi⟩ := ops_read h3
    obtain ⟨rs, hr, hri⟩ := ints_read h4
    exact ⟨⟨c3, c4, ⟨a, b, c, ws, rs⟩⟩, rfl, ⟨hw, hr⟩, ⟨ha, hb, hc, hwi, hri⟩⟩
set_option maxRecDepth 100000 in
theorem end_cells {m : Nat} {cs : List Value} {y : DataW H × List MemPlace} (hl : cs.length = 3) (h : DataW.trod enc Try.prog w 0 spare held m 31 cs = some y) : ∃ e : EndM, cs = [vi e.txn, .bool e.commit, vi e.at_] ∧ EndI e := by
  obtain ⟨xs, n, _, _, _, hlen, hf⟩ := DataW.trod_struct Try.underlying31 h
  match cs, hl, xs, hlen with
  | [c0, c1, c2], _, [y0, y1, y2], _ =>
    have h0 : DataW.trod enc Try.prog w 0 spare held n 3 (([c0, c1, c2].drop 0).take (Try.prog.cellsOf 3)) = some y0 := hf 0 _ rfl
    have h1 : DataW.trod enc Try.prog w 0 spare held n 4 (([c0, c1, c2].drop 1).take (Try.prog.cellsOf 4)) = some y1 := hf 1 _ rfl
    have h2 : DataW.trod enc Try.prog w 0 spare held n 3 (([c0, c1, c2].drop 2).take (Try.prog.cellsOf 3)) = some y2 := hf 2 _ rfl
    rw [cells_int] at h0 h2
    rw [cells_bool] at h1
    obtain ⟨a, rfl, ha⟩ := int_cell h0
    obtain ⟨b, rfl⟩ := bool_cell h1
    obtain ⟨c, rfl, hc⟩ := int_cell h2
    exact ⟨⟨a, b, c⟩, rfl, ⟨ha, hc⟩⟩
set_option maxRecDepth 100000 in
theorem cmd21_cells {m : Nat} {cs : List Value} {y : DataW H × List MemPlace} (hl : cs.length = 9) (h : DataW.trod enc Try.prog w 0 spare held m 33 cs = some y) : ∃ o, ECmd21 w cs o := by
  obtain ⟨xs, n, _, _, _, hlen, hf⟩ := DataW.trod_struct Try.underlying33 h
  match cs, hl, xs, hlen with
  | [c0, c1, c2, c3, c4, c5, c6, c7, c8], _, [y0, y1, y2], _ =>
    have h0 : DataW.trod enc Try.prog w 0 spare held n 3 (([c0, c1, c2, c3, c4, c5, c6, c7, c8].drop 0).take (Try.prog.cellsOf 3)) = some y0 := hf 0 _ rfl
    have h1 : DataW.trod enc Try.prog w 0 spare held n 29 (([c0, c1, c2, c3, c4, c5, c6, c7, c8].drop 1).take (Try.prog.cellsOf 29)) = some y1 := hf 1 _ rfl
    have h2 : DataW.trod enc Try.prog w 0 spare held n 31 (([c0, c1, c2, c3, c4, c5, c6, c7, c8].drop 6).take (Try.prog.cellsOf 31)) = some y2 := hf 2 _ rfl
    rw [cells_int] at h0
    rw [cells_rdy] at h1
    rw [cells_end] at h2
    obtain ⟨a, rfl, ha⟩ := int_cell h0
    obtain ⟨x, hx, hs, hi⟩ := rdy_cells (by rfl) h1
    obtain ⟨e, he, hei⟩ := end_cells (by rfl) h2
    cases hx
    cases he
    exact ⟨⟨a, x.r, e⟩, x.wv, x.rv, rfl, hs, hi, hei⟩
end
set_option maxRecDepth 100000 in
theorem cmd21s_of_row {H : Type} {enc : TypeId × Value → H} {w : World} {spare : Nat → Bool} {held : Bool} {base : Nat} {v : Value} {d : DataW H} {ps : List MemPlace} (hk : Value.okWide Try.prog w .any base 22 v) (h : DataW.Trod enc Try.prog w 0 spare held 22 v d ps) : ∃ l, RdCmds w v l := by
  obtain ⟨a, l, c, rfl⟩ := okWide_slice Try.underlying22 hk
  obtain ⟨fuel, hf⟩ := h
  exact rds_of_trod Try.underlying22 cells_cmd21 (by omega) hf fun _ _ _ hl hy => cmd21_cells hl hy
def RdyV (w : World) (v : Value) (x : RV) : Prop := v = rdyV x ∧ RdyS w x ∧ RdyI x.r
set_option maxRecDepth 100000 in
theorem rdy_of_row {H : Type} {enc : TypeId × Value → H} {w : World} {spare : Nat → Bool} {held : Bool} {base : Nat} {v : Value} {d : DataW H} {ps : List MemPlace} (hk : Value.okWide Try.prog w .any base 29 v) (h : DataW.Trod enc Try.prog w 0 spare held 29 v d ps) : ∃ x, RdyV w v x := by
  obtain ⟨cs, rfl, hsz⟩ := okWide_struct Try.underlying29 hk
  obtain ⟨fuel, hf⟩ := h
  obtain ⟨x, hx, h1, h2⟩ := rdy_cells (cs := cs.toList) (by simpa using hsz.trans cells_rdy) hf
  refine ⟨x, ?_, h1, h2⟩
  unfold rdyV rdyC
  rw [← hx]
def EEnd (_ : World) (cs : List Value) (e : EndM) : Prop := cs = [vi e.txn, .bool e.commit, vi e.at_] ∧ EndI e
abbrev RdEnds (w : World) (v : Value) (l : List EndM) : Prop := RdS 3 EEnd w v l
theorem RdEnds.later {A B : World} {v : Value} {l : List EndM} (h : RdEnds A v l) (hb : Below A.heap.size A B) : RdEnds B v l := RdS.below h hb fun _ _ h => h
theorem RdEnds.at {w : World} {v : Value} {xs : List EndM} (h : RdEnds w v xs) : ∃ a len cap, v = .slice a len cap ∧ len = xs.length ∧ xs.length ≤ 9223372036854775807 ∧ ∀ j x, xs[j]? = some x → ∃ b off, a = some ⟨b, off, none⟩ ∧ EndI x ∧ w.cell? ⟨b, off + j * 3, none⟩ = some (vi x.txn) ∧ w.cell? ⟨b, off + j * 3 + 1, none⟩ = some (.bool x.commit) ∧ w.cell? ⟨b, off + j * 3 + 2, none⟩ = some (vi x.at_) := by
  obtain ⟨a, len, cap, h1, h2, h3, h4, h5, h6⟩ := h
  refine ⟨a, len, cap, h1, h2, h3, fun j x hj => ?_⟩
  obtain ⟨b, off, cs, ha, hl, hc, rfl, hx⟩ := h6 j x hj
  exact ⟨b, off, ha, hx, by simpa using hc 0 _ rfl, by simpa [Nat.add_assoc] using hc 1 _ rfl, by simpa [Nat.add_assoc] using hc 2 _ rfl⟩
set_option maxRecDepth 100000 in
theorem ends_of_row {H : Type} {enc : TypeId × Value → H} {w : World} {spare : Nat → Bool} {held : Bool} {base : Nat} {v : Value} {d : DataW H} {ps : List MemPlace} (hk : Value.okWide Try.prog w .any base 43 v) (h : DataW.Trod enc Try.prog w 0 spare held 43 v d ps) : ∃ l, RdEnds w v l := by
  obtain ⟨a, l, c, rfl⟩ := okWide_slice Try.underlying43 hk
  obtain ⟨fuel, hf⟩ := h
  refine rds_of_trod Try.underlying43 cells_end (by omega) hf fun _ _ _ hl hy => ?_
  obtain ⟨e, he, hi⟩ := end_cells hl hy
  exact ⟨e, he, hi⟩
def EndV (v : Value) (e : EndM) : Prop := v = endV e ∧ EndI e
set_option maxRecDepth 100000 in
theorem end_of_row {H : Type} {enc : TypeId × Value → H} {w : World} {spare : Nat → Bool} {held : Bool} {base : Nat} {v : Value} {d : DataW H} {ps : List MemPlace} (hk : Value.okWide Try.prog w .any base 31 v) (h : DataW.Trod enc Try.prog w 0 spare held 31 v d ps) : ∃ e, EndV v e := by
  obtain ⟨cs, rfl, hsz⟩ := okWide_struct Try.underlying31 hk
  obtain ⟨fuel, hf⟩ := h
  obtain ⟨e, he, h1⟩ := end_cells (cs := cs.toList) (by simpa using hsz.trans cells_end) hf
  refine ⟨e, ?_, h1⟩
  unfold endV
  rw [← he]
end Go.Proofs.Ytdkkpkgfiodlbaa
