/- The walk of MvccEnds. -/
import Derived.Test.YtbadpfcjoobniaaMvPast
namespace Go.Proofs.Ytbadpfcjoobniaa
open Go.RowKit Go.Maps

theorem ends_prep {serial : Bool} {r : Rdy} {by_ err : Int} {R' : RdyL} (h : PrepM serial 0 [] [] [] r by_ err R') : by_ = 0 ∧ err = 0 ∧ ∃ wv rv, R' = [(r.txn, ⟨wv, rv, r⟩)] := by
  have hl : ∀ k t, laterB (verOf [] k) t = false := fun k t => rfl
  rcases h with ⟨h, _⟩ | ⟨_, h, _⟩ | ⟨_, _, h, _⟩ | ⟨_, _, _, _, id, ok, hb, h⟩
  · cases h
  · cases h
  · rcases h with h | h <;> simp [lostW, lostR, hl] at h
  · rcases hb with ⟨hb, _⟩ | ⟨x, hx, _⟩
    · cases hb
      rcases h with ⟨h, _⟩ | ⟨_, rfl, rfl, wv, rv, rfl⟩
      · cases h
      · exact ⟨rfl, rfl, wv, rv, rfl⟩
    · cases hx
/-- Behind the first end. -/
structure EndedI (r : Rdy) (e : EndM) (K : KeysL) : Prop where
  srt : ∀ k, Srt (verOf K k)
  len : ∀ k, (verOf K k).length ≤ 20
  yes : e.commit = true → ∀ o ∈ r.writes, ∃ v, verOf K o.key = [(e.at_, v)]
  no : e.commit = false → ∀ k, verOf K k = []
theorem ends_fin {r : Rdy} {e : EndM} {wv rv : Value} (hr : r.writes.length ≤ 20) (ht : e.txn = r.txn) {K : KeysL} {R : RdyL} {E : EndL} (h : FinM [] [(r.txn, ⟨wv, rv, r⟩)] [] e K R E) : R = [] ∧ E = [(r.txn, e)] ∧ EndedI r e K := by
  rcases h with ⟨h, _⟩ | ⟨_, rfl, rfl, hk⟩
  · cases h
  · have hg : getM [(r.txn, (⟨wv, rv, r⟩ : RV))] e.txn = some ⟨wv, rv, r⟩ := by rw [ht]; simp [getM]
    have h0 : ∀ k, verOf ([] : KeysL) k = [] := fun _ => rfl
    refine ⟨by rw [ht]; simp [delM], by rw [ht]; rfl, ?_⟩
    unfold writesOf at hk
    cases hc : e.commit with
    | true =>
      rw [hc, if_pos rfl, hg] at hk
      have hk : KFin [] K e.at_ r.writes := hk
      refine ⟨fun k => by rw [hk k]; exact finV_srt _ _ _ _ List.Pairwise.nil, fun k => ?_, fun _ o ho => ?_, (fun h => by rw [hc] at h; cases h)⟩
      · rw [hk k, h0]; have := finV_len e.at_ k r.writes []; simp at this; omega
      · rw [hk o.key, h0]; exact finV_has ⟨o, ho, rfl⟩
    | false =>
      rw [hc, if_neg (by decide)] at hk
      have hn : ∀ k, verOf K k = [] := fun k => hk k
      exact ⟨fun k => by rw [hn k]; exact List.Pairwise.nil, fun k => by rw [hn k]; simp, (fun h => by rw [hc] at h; cases h), fun _ k => hn k⟩
theorem ends_again {K : KeysL} {E : EndL} {e f : EndM} (ht : f.txn = e.txn) (hE : E = [(e.txn, e)]) {K' : KeysL} {R' : RdyL} {E' : EndL} (h : FinM K [] E f K' R' E') : K' = K ∧ R' = [] ∧ E' = E := by
  subst hE
  rcases h with ⟨_, h⟩ | ⟨h, _⟩
  · exact h
  · rw [ht] at h; simp [getM] at h
theorem ends_over {serial : Bool} {K : KeysL} {E : EndL} {e : EndM} {r : Rdy} (ht : r.txn = e.txn) (hE : E = [(e.txn, e)]) {by_ err : Int} {R' : RdyL} (h : PrepM serial 0 K [] E r by_ err R') : err = 62 ∧ R' = [] := by
  subst hE
  have hs : (getM [(e.txn, e)] r.txn).isSome = true := by rw [ht]; simp [getM]
  rcases h with ⟨_, _, rfl, rfl⟩ | ⟨h, _⟩ | ⟨h, _⟩ | ⟨h, _⟩
  · exact ⟨rfl, rfl⟩
  all_goals rw [hs] at h; cases h

/-- Rows of versions, one for each operation: what they are. -/
structure WasW (base : Nat) (w : World) (v : Value) (ops : List GOp) (K : KeysL) (vals : List Value) : Prop where
  row : w.ownsRow base 46 1 v vals.length vals
  each : ∀ (j : Nat) (x : Value), vals[j]? = some x → ∃ o : GOp, ops[j]? = some o ∧ OwV base w x (verOf K o.key)
theorem WasW.later {base : Nat} {A B : World} {v : Value} {ops : List GOp} {K : KeysL} {vals : List Value} (h : WasW base A v ops K vals) (hb : Below A.heap.size A B) : WasW base B v ops K vals :=
  ⟨own_below h.row hb, fun j x hj => by obtain ⟨o, h1, h2⟩ := h.each j x hj; exact ⟨o, h1, own_below h2 hb⟩⟩
theorem WasW.solid {base : Nat} {A B : World} {v : Value} {ops : List GOp} {K : KeysL} {vals : List Value} (h : WasW base A v ops K vals) (hs : Solid A B) : WasW base B v ops K vals :=
  ⟨own_solid h.row hs, fun j x hj => by obtain ⟨o, h1, h2⟩ := h.each j x hj; exact ⟨o, h1, own_solid h2 hs⟩⟩
theorem WasW.snoc {base : Nat} {A B : World} {v v' : Value} {ops : List GOp} {K : KeysL} {vals : List Value} {x : Value} {o : GOp} (h : WasW base A v ops K vals) (hg : A.grownBy B v.ownBlock) (hrow : B.ownsRow base 46 1 v' (vals.length + 1) (vals ++ [x])) (ho : ops[vals.length]? = some o) (hx : OwV base A x (verOf K o.key)) : WasW base B v' ops K (vals ++ [x]) := by
  refine ⟨by simpa using hrow, fun j y hj => ?_⟩
  have key : ∀ (z : Value) (l : List Ver), OwV base A z l → OwV base B z l := fun z l hz => World.ownsRow.kept hz hg (own_apart hz h.row (by decide))
  by_cases hlt : j < vals.length
  · rw [List.getElem?_append_left hlt] at hj
    obtain ⟨o', h1, h2⟩ := h.each j y hj
    exact ⟨o', h1, key _ _ h2⟩
  · rw [List.getElem?_append_right (by omega)] at hj
    have hj0 : j = vals.length := by
      have := (List.getElem?_eq_some_iff.1 hj).1; simp at this; omega
    subst hj0
    simp at hj; subst hj
    exact ⟨o, ho, key _ _ hx⟩
theorem Try.infoVers : (Try.prog.info? 46).map (fun i => (i.zero, i.size, i.bytes)) = some (some (.slice none 0 0), 1, 24) := by kernel_rfl
theorem eltVers : Elt Try.prog 73 46 1 24 (.slice none 0 0) := by
  obtain ⟨i0, hi, hz0, hz1, hz2⟩ := info_parts Try.infoVers
  exact ⟨Try.underlying73, by decide, rfl, i0, hi, hz0, hz1, hz2⟩

/-- The law's three boxes. -/
structure Box3 (w : World) (x : RV) (e f : EndM) (W : World) : Prop where
  ba : W.heap[w.heap.size]? = some (.cells (rdyC x) 29)
  bb : W.heap[w.heap.size + 1]? = some (.cells #[vi e.txn, .bool e.commit, vi e.at_] 31)
  bc : W.heap[w.heap.size + 2]? = some (.cells #[vi f.txn, .bool f.commit, vi f.at_] 31)
  below : Below w.heap.size w W
theorem Box3.later {w A B : World} {x : RV} {e f : EndM} (h : Box3 w x e f A) (hb : Below A.heap.size A B) : Box3 w x e f B :=
  ⟨(hb.block _ (Array.getElem?_eq_some_iff.1 h.ba).1).trans h.ba, (hb.block _ (Array.getElem?_eq_some_iff.1 h.bb).1).trans h.bb, (hb.block _ (Array.getElem?_eq_some_iff.1 h.bc).1).trans h.bc, h.below.trans (hb.mono h.below.size)⟩
theorem Box3.turn {w A B : World} {x : RV} {e f : EndM} (h : Box3 w x e f A) (hs : Solid A B) (hb : Below w.heap.size A B) : Box3 w x e f B :=
  ⟨hs _ _ _ _ h.ba, hs _ _ _ _ h.bb, hs _ _ _ _ h.bc, h.below.trans hb⟩

set_option maxRecDepth 100000 in
set_option maxHeartbeats 4000000 in
theorem mvccEnds.walk (v0 v1 v2 : Value) (x0 : RV) (e0 f0 : EndM) (w : World) (r0 : RdyV w v0 x0) (r1 : EndV v1 e0) (r2 : EndV v2 f0) :
    Calls Try.prog 7 #[v0, v1, v2] w fun e w' => e = .returned (.bool true) ∧ Below w.heap.size w w' := by
  obtain ⟨rfl, s0, i0⟩ := r0
  obtain ⟨rfl, i1⟩ := r1
  obtain ⟨rfl, i2⟩ := r2
  obtain ⟨wv0, rv0, r⟩ := x0
  obtain ⟨aw, cw, ar, cr, hw0, hr0, lw0, lr0⟩ := rdv_slices s0
  simp only at hw0 hr0 lw0 lr0 i0
  subst hw0 hr0
  have HS := Lib.hid s0
  have HI := Lib.hid i0
  have HI1 := Lib.hid i1
  have HI2 := Lib.hid i2
  have hB0 : Below w.heap.size w (((w.alloc (.cells (rdyC ⟨.slice aw r.writes.length cw, .slice ar r.reads.length cr, r⟩) 29)).alloc (.cells #[vi e0.txn, .bool e0.commit, vi e0.at_] 31)).alloc (.cells #[vi f0.txn, .bool f0.commit, vi f0.at_] 31)) :=
    (((Below.refl _ _).alloc (Nat.le_refl _) _).alloc (by simp) _).alloc (by simp <;> omega) _
  have HX := Lib.hid (show Box3 w ⟨.slice aw r.writes.length cw, .slice ar r.reads.length cr, r⟩ e0 f0 (((w.alloc (.cells (rdyC ⟨.slice aw r.writes.length cw, .slice ar r.reads.length cr, r⟩) 29)).alloc (.cells #[vi e0.txn, .bool e0.commit, vi e0.at_] 31)).alloc (.cells #[vi f0.txn, .bool f0.commit, vi f0.at_] 31)) from
    ⟨by rw [heap_if, heap_if, heap_if]; simp [World.size_alloc] <;> omega, by rw [heap_if, heap_if]; simp [World.size_alloc], by rw [heap_if]; simp [World.size_alloc], hB0⟩)
  clear s0 i0 i1 i2 hB0
  unfold rdyV endV at *
  unfold rdyC at *
  go_enter Try.func7, Try.ntmps7
  go_upto_region 1 with fail
  simp only at HX
  generalize ((w.alloc (.cells #[vi r.txn, vi r.home, vi r.start, .slice aw r.writes.length cw, .slice ar r.reads.length cr] 29)).alloc (.cells #[vi e0.txn, .bool e0.commit, vi e0.at_] 31)).alloc (.cells #[vi f0.txn, .bool f0.commit, vi f0.at_] 31) = w1 at *
  go_wp2_with fail
  refine (head_call w1).mono ?_
  rintro e w2 ⟨rfl, hb2⟩
  have HX2 := Lib.hid (HX.out.later hb2)
  clear hb2 HX
  dsimp only
  have a0 : w2.cell? ⟨w.heap.size, 0, none⟩ = some (vi r.txn) := by rw [cell_of HX2.out.ba]; rfl
  have a1 : w2.cell? ⟨w.heap.size, 1, none⟩ = some (vi r.home) := by rw [cell_of HX2.out.ba]; rfl
  have a2 : w2.cell? ⟨w.heap.size, 2, none⟩ = some (vi r.start) := by rw [cell_of HX2.out.ba]; rfl
  have a3 : w2.cell? ⟨w.heap.size, 3, none⟩ = some (.slice aw r.writes.length cw) := by rw [cell_of HX2.out.ba]; rfl
  have a4 : w2.cell? ⟨w.heap.size, 4, none⟩ = some (.slice ar r.reads.length cr) := by rw [cell_of HX2.out.ba]; rfl
  go_wp2_with fail
  refine (big_call 0 0 0 false aw ar cw cr r w2 lw0 lr0).mono ?_
  rintro e w3 ⟨rfl, hb3⟩
  have HX3 := Lib.hid (HX2.out.later hb3)
  clear hb3 a0 a1 a2 a3 a4 HX2
  dsimp only
  obtain ⟨g0, hg0⟩ : ∃ g, bigB r = g := ⟨_, rfl⟩
  rw [hg0]
  have HG0 := Lib.hid hg0
  clear hg0
  cases g0
  rotate_left
  · go_wp2_with fail
    go_ret
    exact ⟨rfl, HX3.out.below⟩
  have hsm := bigB_false HG0.out
  obtain ⟨hsw, hsr⟩ := hsm
  go_wp2_with fail
  refine (new_call true 0 w3).mono ?_
  rintro e w4 ⟨p, mk, mr, me, rfl, hm4, hb4⟩
  have HM4 := Lib.hid hm4
  have HX4 := Lib.hid (HX3.out.later hb4)
  have hw3 : w.heap.size + 3 ≤ w3.heap.size := (Array.getElem?_eq_some_iff.1 HX3.out.bc).1
  clear hm4 hb4 HX3
  dsimp only
  have a0 : w4.cell? ⟨w.heap.size, 0, none⟩ = some (vi r.txn) := by rw [cell_of HX4.out.ba]; rfl
  have a1 : w4.cell? ⟨w.heap.size, 1, none⟩ = some (vi r.home) := by rw [cell_of HX4.out.ba]; rfl
  have a2 : w4.cell? ⟨w.heap.size, 2, none⟩ = some (vi r.start) := by rw [cell_of HX4.out.ba]; rfl
  have a3 : w4.cell? ⟨w.heap.size, 3, none⟩ = some (.slice aw r.writes.length cw) := by rw [cell_of HX4.out.ba]; rfl
  have a4 : w4.cell? ⟨w.heap.size, 4, none⟩ = some (.slice ar r.reads.length cr) := by rw [cell_of HX4.out.ba]; rfl
  go_wp2_with fail
  refine (prep_call2 ⟨.slice aw r.writes.length cw, .slice ar r.reads.length cr, r⟩ w4 HM4.out (by simp) (HS.out.later HX4.out.below) HI.out.txn (fun o ho => (HI.out.ws o ho).2.1) (by show r.writes.length ≤ _; omega) (by show r.reads.length ≤ _; omega)).mono ?_
  rintro e w5 ⟨by1, er1, R1, rfl, hp, hm5, hg5, ho5⟩
  obtain ⟨rfl, rfl, wv5, rv5, rfl⟩ := ends_prep hp
  have HM5 := Lib.hid hm5
  have HO5 := Lib.hid (show OwnR w4.heap.size w5 ⟨wv5, rv5, r⟩ from (ho5 _ (List.mem_singleton.2 rfl)).resolve_left (fun h => by cases h))
  have hw4 := HX4.out.below.size
  have hw34 : w3.heap.size ≤ w4.heap.size := by have := (Array.getElem?_eq_some_iff.1 HM4.out.blk).1; have := HM4.out.bp; omega
  have HX5 := Lib.hid (HX4.out.turn ((Solid.refl w4).map (HM4.out.ready.obj).choose_spec.choose_spec hg5) ((Below.refl w.heap.size w4).grown hg5 HX4.out.below.size (fun j hj => by cases hj; have := hm5.br; omega)))
  clear hp hm5 hg5 ho5 a0 a1 a2 a3 a4 HX4 HM4
  dsimp only
  have a0 : w5.cell? ⟨w.heap.size, 0, none⟩ = some (vi r.txn) := by rw [cell_of HX5.out.ba]; rfl
  have b0 : w5.cell? ⟨w.heap.size + 1, 0, none⟩ = some (vi e0.txn) := by rw [cell_of HX5.out.bb]; rfl
  have b1 : w5.cell? ⟨w.heap.size + 1, 1, none⟩ = some (.bool e0.commit) := by rw [cell_of HX5.out.bb]; rfl
  have b2 : w5.cell? ⟨w.heap.size + 1, 2, none⟩ = some (vi e0.at_) := by rw [cell_of HX5.out.bb]; rfl
  have c0 : w5.cell? ⟨w.heap.size + 1 + 1, 0, none⟩ = some (vi f0.txn) := by rw [cell_of HX5.out.bc]; rfl
  have fb : ∀ o, w5.frozen? ⟨w.heap.size + 1, o, none⟩ = false := fun o => free_of HX5.out.bb o
  have fc : ∀ o, w5.frozen? ⟨w.heap.size + 1 + 1, o, none⟩ = false := fun o => free_of HX5.out.bc o
  go_upto_region 11 with fail
  have HX6 := Lib.hid (show Box3 w ⟨.slice aw r.writes.length cw, .slice ar r.reads.length cr, r⟩ ⟨r.txn, e0.commit, e0.at_⟩ ⟨r.txn, f0.commit, f0.at_⟩ ((w5.setCell ⟨w.heap.size + 1, 0, none⟩ (vi r.txn)).setCell ⟨w.heap.size + 1 + 1, 0, none⟩ (vi r.txn)) from
    ⟨cells_other _ (cells_other _ HX5.out.ba (by omega)) (by omega), cells_other _ (cells_set _ HX5.out.bb) (by omega), cells_set _ (cells_other _ HX5.out.bc (by omega)), (HX5.out.below.setCell (by show w.heap.size ≤ w.heap.size + 1; omega) _).setCell (by show w.heap.size ≤ w.heap.size + 1 + 1; omega) _⟩)
  have hm6 : MvS w3.heap.size p mk mr me true 0 [] [(r.txn, ⟨wv5, rv5, r⟩)] [] ((w5.setCell ⟨w.heap.size + 1, 0, none⟩ (vi r.txn)).setCell ⟨w.heap.size + 1 + 1, 0, none⟩ (vi r.txn)) := by
    have h5 := HM5.out
    have hbp := h5.bp
    have hbk := h5.bk
    have hbr := h5.br
    have hbe := h5.be
    have fr : ∀ j, j ≠ w.heap.size + 1 → j ≠ w.heap.size + 1 + 1 → ((w5.setCell ⟨w.heap.size + 1, 0, none⟩ (vi r.txn)).setCell ⟨w.heap.size + 1 + 1, 0, none⟩ (vi r.txn)).heap[j]? = w5.heap[j]? := fun j h1 h2 => cells_other _ (cells_other _ rfl h1) h2
    refine ⟨(fr p (by omega) (by omega)).trans h5.blk, h5.keys.frame (fr mk (by omega) (by omega)), h5.ready.frame (fr mr (by omega) (by omega)), h5.ends.frame (fr me (by omega) (by omega)), (fun y hy => by cases hy), fun y hy => ?_, hbp, hbk, hbr, hbe, h5.kr, h5.ke, h5.re⟩
    simp at hy; subst hy
    exact rdy_own (own_frame HO5.out.1 (fun g hg => by have := (HO5.out.1.lt g hg).1; exact fr g (by omega) (by omega))) (own_frame HO5.out.2 (fun g hg => by have := (HO5.out.2.lt g hg).1; exact fr g (by omega) (by omega))) HI.out.rs
  have HM6 := Lib.hid hm6
  generalize (w5.setCell ⟨w.heap.size + 1, 0, none⟩ (vi r.txn)).setCell ⟨w.heap.size + 1 + 1, 0, none⟩ (vi r.txn) = w6 at *
  clear hm6 a0 b0 b1 b2 c0 fb fc HX5
  have b0 : w6.cell? ⟨w.heap.size + 1, 0, none⟩ = some (vi r.txn) := by rw [cell_of HX6.out.bb]; rfl
  have b1 : w6.cell? ⟨w.heap.size + 1, 1, none⟩ = some (.bool e0.commit) := by rw [cell_of HX6.out.bb]; rfl
  have b2 : w6.cell? ⟨w.heap.size + 1, 2, none⟩ = some (vi e0.at_) := by rw [cell_of HX6.out.bb]; rfl
  go_wp2_with fail
  refine (finish_call ⟨r.txn, e0.commit, e0.at_⟩ w6 HM6.out HI.out.txn HI1.out.at_ (fun _ => List.Pairwise.nil) (fun _ => by simp [verOf, curK, getM, nilK]) (by intro y hy; simp at hy; subst hy; exact ⟨by show r.writes.length ≤ _; omega, fun o ho => (HI.out.ws o ho).2.1⟩)).mono ?_
  rintro e w7 ⟨K7, R7, E7, rfl, hf, hm7, ht7⟩
  obtain ⟨rfl, hE7, hEI⟩ := ends_fin hsw (by rfl) hf
  have HEE := Lib.hid hE7
  have HEI := Lib.hid hEI
  have HM7 := Lib.hid hm7
  have HX7 := Lib.hid (HX6.out.turn (ht7.solid HM6.out.maps) ((ht7.toBelow (by have := HX6.out.below.size; have := (Array.getElem?_eq_some_iff.1 HM6.out.blk).1; have := HM6.out.bp; omega) HM6.out.bases).mono (by omega)))
  clear hf hm7 ht7 hE7 hEI b0 b1 b2 HX6 HM6
  dsimp only
  have hw7 := HX7.out.below.size
  have hlt7 : w.heap.size < w7.heap.size := (Array.getElem?_eq_some_iff.1 HX7.out.ba).1
  have a3 : w7.cell? ⟨w.heap.size, 3, none⟩ = some (.slice aw r.writes.length cw) := by rw [cell_of HX7.out.ba]; rfl
  go_upto_region 14 with fail
  have HO0 := Lib.hid (show WasW w7.heap.size (w7.alloc (.cells #[] 46)) (.slice (some ⟨w7.heap.size, 0, none⟩) 0 0) r.writes K7 [] from
    ⟨World.ownsRow_lit (base := w7.heap.size) (e := 46) (size := 1) w7 #[] 0 (Nat.le_refl _) (by simp [maxLen]) rfl, fun j x hj => by simp at hj⟩)
  have HB8 := Lib.hid ((Below.refl w7.heap.size w7).alloc (Nat.le_refl _) (.cells #[] 46))
  have hsz8 : (w7.alloc (.cells #[] 46)).heap.size = w7.heap.size + 1 := by simp
  go_wp2_with fail
  generalize w7.alloc (.cells #[] 46) = w8 at *
  clear a3
  go_loopw [10, 48] (fun v iv wr => ∃ (i : Nat) (vals : List Value), i ≤ r.writes.length ∧ iv = .int .i64 i ∧ vals.length = i ∧ Hid (WasW w7.heap.size wr v r.writes K7 vals ∧ Below w7.heap.size w7 wr)) (fun _ iv _ => r.writes.length - (intOf iv).toNat)
  case atStart => exact ⟨0, [], Nat.zero_le _, rfl, rfl, Lib.hid ⟨HO0.out, HB8.out⟩⟩
  case round =>
    obtain ⟨wj, rfl⟩ : ∃ wj : World, wj = wr := ⟨_, rfl⟩
    obtain ⟨i, vals, hi, rfl, hvl, HJ⟩ := hrel
    have HVL := Lib.hid hvl
    have hvl2 : vals.length ≤ 20 := by omega
    obtain ⟨aV, cV, rfl⟩ := own_shape HJ.out.1.row
    clear hvl
    have HMj := Lib.hid (HM7.out.later HJ.out.2)
    have HXj := Lib.hid (HX7.out.later HJ.out.2)
    by_cases hlt : i < r.writes.length
    · obtain ⟨o, ho⟩ := some_at hlt
      obtain ⟨_, _, _, e5, -, -, hcl⟩ := (HS.out.later HXj.out.below).ws.at
      cases e5
      obtain ⟨b0, off, rfl, k0, k1, k2⟩ := hcl i o ho
      have HO := Lib.hid ho
      have HIO := Lib.hid (HI.out.ws o (List.mem_of_getElem? ho)).2.1
      have hki : (i : Int) < (r.writes.length : Int) := by omega
      have hwi : IntKind.i64.wrap ((i : Int) + 1) = (i : Int) + 1 := IntWalk.i64_in _ (by omega)
      have HBA := Lib.hid ((Below.refl wj.heap.size wj).alloc (Nat.le_refl _) (.cells #[vi o.kind, vi o.key, vi o.val] 55))
      have HMA := Lib.hid (HMj.out.later HBA.out)
      have hsj := HJ.out.2.size
      clear hcl ho
      go_wp2_with (first
        | (go_at_call 17; refine (versions_call o.key _ HMA.out HIO.out (by have := HEI.out.len o.key; omega)).mono ?_; rintro e wB ⟨vB, rfl, hoB, hbB⟩; obtain ⟨aB, cB, rfl⟩ := own_shape hoB; have HOB := Lib.hid (show OwV w7.heap.size wB _ _ from own_mono hoB (by simp; omega)); have HWB := Lib.hid (HJ.out.1.later (HBA.out.trans (hbB.mono (by simp)))); have HBB := Lib.hid (HBA.out.trans (hbB.mono (by simp))); clear hoB hbB)
        | (refine wpList_append_src rfl (.tmp 52) (.tmp 57) 73 rfl eltVers w7.heap.size vals.length vals (HWB.out.row.alloc _) rfl 1 [.slice aB (verOf K7 o.key).length cB] (src_new (cs := #[.slice aB (verOf K7 o.key).length cB]) rfl rfl) rfl (by intro u hu; simp at hu; subst hu; rfl) (by omega) (by omega) (by have := HBB.out.size; simp; omega) ?_; intro vC wC hrC hgC _; have HRC := Lib.hid (WasW.snoc (HWB.out.later ((Below.refl wB.heap.size wB).alloc (Nat.le_refl _) _)) hgC hrC (by rw [HVL.out]; exact HO.out) (World.ownsRow.alloc HOB.out _)); have HBC := Lib.hid (Below.grown ((HJ.out.2.trans (HBB.out.mono hsj)).alloc (by have := HBB.out.size; omega) (.cells #[.slice aB (verOf K7 o.key).length cB] 46)) hgC (by have := HBB.out.size; simp; omega) (fun j hj => (HWB.out.row.lt j hj).1)); clear hrC hgC))
      go_roundw
      case rel => exact ⟨i + 1, _, by omega, by go_num, by simp [HVL.out], Lib.hid ⟨HRC.out, HBC.out⟩⟩
      case measure => simp [intOf]; omega
    · obtain rfl : i = r.writes.length := by omega
      have b0 : wj.cell? ⟨w.heap.size + 1 + 1, 0, none⟩ = some (vi r.txn) := by rw [cell_of HXj.out.bc]; rfl
      have b1 : wj.cell? ⟨w.heap.size + 1 + 1, 1, none⟩ = some (.bool f0.commit) := by rw [cell_of HXj.out.bc]; rfl
      have b2 : wj.cell? ⟨w.heap.size + 1 + 1, 2, none⟩ = some (vi f0.at_) := by rw [cell_of HXj.out.bc]; rfl
      go_wp2_with fail
      refine (finish_call ⟨r.txn, f0.commit, f0.at_⟩ wj HMj.out HI.out.txn HI2.out.at_ HEI.out.srt (fun k => by have := HEI.out.len k; omega) (fun y hy => by cases hy)).mono ?_
      rintro e w9 ⟨K9, R9, E9, rfl, hf, hm9, ht9⟩
      obtain ⟨rfl, rfl, rfl⟩ := ends_again (e := ⟨r.txn, e0.commit, e0.at_⟩) (f := ⟨r.txn, f0.commit, f0.at_⟩) rfl HEE.out hf
      have HM9 := Lib.hid hm9
      have hsol := ht9.solid HMj.out.maps
      have HW9 := Lib.hid (HJ.out.1.solid hsol)
      have hbw : Below w.heap.size wj w9 := (ht9.toBelow (by have := (Array.getElem?_eq_some_iff.1 HMj.out.blk).1; have := HMj.out.bp; omega) HMj.out.bases).mono (by omega)
      have HX9 := Lib.hid (HXj.out.turn hsol hbw)
      clear hf hm9 ht9 hsol hbw b0 b1 b2 HMj HXj HJ
      dsimp only
      have a0 : w9.cell? ⟨w.heap.size, 0, none⟩ = some (vi r.txn) := by rw [cell_of HX9.out.ba]; rfl
      have a1 : w9.cell? ⟨w.heap.size, 1, none⟩ = some (vi r.home) := by rw [cell_of HX9.out.ba]; rfl
      have a2 : w9.cell? ⟨w.heap.size, 2, none⟩ = some (vi r.start) := by rw [cell_of HX9.out.ba]; rfl
      have a3 : w9.cell? ⟨w.heap.size, 3, none⟩ = some (.slice aw r.writes.length cw) := by rw [cell_of HX9.out.ba]; rfl
      have a4 : w9.cell? ⟨w.heap.size, 4, none⟩ = some (.slice ar r.reads.length cr) := by rw [cell_of HX9.out.ba]; rfl
      go_wp2_with fail
      refine (prep_call ⟨.slice aw r.writes.length cw, .slice ar r.reads.length cr, r⟩ w9 HM9.out (by simp) (HS.out.later HX9.out.below) HI.out.txn (fun o ho => (HI.out.ws o ho).2.1) (by show r.writes.length ≤ _; omega) (by show r.reads.length ≤ _; omega)).mono ?_
      rintro e wA ⟨by2, er2, R2, rfl, hp, hmA, hgA⟩
      obtain ⟨rfl, rfl⟩ := ends_over (e := ⟨r.txn, e0.commit, e0.at_⟩) rfl HEE.out hp
      have HMA := Lib.hid hmA
      have hsol : Solid w9 wA := (Solid.refl w9).map (HM9.out.ready.obj).choose_spec.choose_spec hgA
      have HWA := Lib.hid (HW9.out.solid hsol)
      have HXA := Lib.hid (HX9.out.turn hsol ((Below.refl w.heap.size w9).grown hgA HX9.out.below.size (fun j hj => by cases hj; have := hmA.br; omega)))
      clear hp hmA hgA hsol a0 a1 a2 a3 a4 HW9 HX9 HM9
      dsimp only
      have a0 : wA.cell? ⟨w.heap.size, 0, none⟩ = some (vi r.txn) := by rw [cell_of HXA.out.ba]; rfl
      go_wp2_with fail
      refine (ended_call r.txn wA HMA.out HI.out.txn).mono ?_
      rintro e wB ⟨rfl, hbB⟩
      have hend : (getM E9 r.txn).getD ⟨0, false, 0⟩ = ⟨r.txn, e0.commit, e0.at_⟩ ∧ (getM E9 r.txn).isSome = true := by rw [HEE.out]; simp [getM]
      rw [hend.1, hend.2]
      have HMB := Lib.hid (HMA.out.later hbB)
      have HWB := Lib.hid (HWA.out.later hbB)
      have HXB := Lib.hid (HXA.out.later hbB)
      clear hbB hend a0 HMA HWA HXA
      unfold endV
      dsimp only
      have a3 : ∀ o, (wB.alloc o).cell? ⟨w.heap.size, 3, none⟩ = some (.slice aw r.writes.length cw) := fun o => cell_later ((Below.refl _ _).alloc (Nat.le_refl _) o) (by rw [cell_of HXB.out.ba]; rfl)
      have HBC := Lib.hid ((Below.refl wB.heap.size wB).alloc (Nat.le_refl _) (.cells #[vi r.txn, .bool e0.commit, vi e0.at_] 31))
      have HZC := Lib.hid (alloc_at wB (.cells #[vi r.txn, .bool e0.commit, vi e0.at_] 31))
      have HXC := Lib.hid (HXB.out.later HBC.out)
      have HWC := Lib.hid (HWB.out.later HBC.out)
      have HMC := Lib.hid (HMB.out.later HBC.out)
      go_wp2_with fail
      generalize wB.alloc (.cells #[vi r.txn, .bool e0.commit, vi e0.at_] 31) = wC at *
      clear a3 HXB HWB HMB HBC
      go_loopw [80] (fun iv wr => ∃ (i : Nat), i ≤ r.writes.length ∧ iv = .int .i64 i ∧ Hid (Below wC.heap.size wC wr)) (fun iv _ => r.writes.length - (intOf iv).toNat)
      case atStart => exact ⟨0, Nat.zero_le _, rfl, Lib.hid (Below.refl _ _)⟩
      case round =>
        obtain ⟨wk, rfl⟩ : ∃ wk : World, wk = wr := ⟨_, rfl⟩
        obtain ⟨i, hi, rfl, HBk⟩ := hrel
        have HXk := Lib.hid (HXC.out.later HBk.out)
        have HMk := Lib.hid (HMC.out.later HBk.out)
        by_cases hlt : i < r.writes.length
        · obtain ⟨o, ho⟩ := some_at hlt
          obtain ⟨_, _, _, e5, -, -, hcl⟩ := (HS.out.later HXk.out.below).ws.at
          cases e5
          obtain ⟨b0, off, rfl, k0, k1, k2⟩ := hcl i o ho
          have HO := Lib.hid ho
          have HIO := Lib.hid (HI.out.ws o (List.mem_of_getElem? ho)).2.1
          have hki : (i : Int) < (r.writes.length : Int) := by omega
          have hwi : IntKind.i64.wrap ((i : Int) + 1) = (i : Int) + 1 := IntWalk.i64_in _ (by omega)
          have HBA := Lib.hid ((Below.refl wk.heap.size wk).alloc (Nat.le_refl _) (.cells #[vi o.kind, vi o.key, vi o.val] 55))
          have HMA := Lib.hid (HMk.out.later HBA.out)
          clear hcl ho
          go_wp2_with fail
          refine (versions_call o.key _ HMA.out HIO.out (by have := HEI.out.len o.key; omega)).mono ?_
          rintro e wE ⟨vE, rfl, hoE, hbE⟩
          have HOE := Lib.hid hoE
          have HBE := Lib.hid (HBk.out.trans ((HBA.out.trans (hbE.mono (by simp))).mono HBk.out.size))
          have hwas := HWC.out.later HBE.out
          obtain ⟨x, hx⟩ := some_at (l := vals) (k := i) (by rw [HVL.out]; exact hlt)
          obtain ⟨o', ho', hxo⟩ := hwas.each i x hx
          rw [HO.out] at ho'; cases ho'
          obtain ⟨gV, cV', e6⟩ := own_some hwas.row (by rw [HVL.out]; omega)
          cases e6
          have v0 : wE.cell? ⟨gV, i, none⟩ = some x := by
            have h1 := World.ownsRow.cells hwas.row (g := gV) rfl i x hx
            rwa [addr_add, Nat.zero_add] at h1
          have HXE := HXC.out.later HBE.out
          have b1 : wE.cell? ⟨w.heap.size + 1, 1, none⟩ = some (.bool e0.commit) := by rw [cell_of HXE.bb]; rfl
          have b2 : wE.cell? ⟨w.heap.size + 1, 2, none⟩ = some (vi e0.at_) := by rw [cell_of HXE.bb]; rfl
          have hiv : (i : Int) < (vals.length : Int) := by rw [HVL.out]; exact hki
          obtain ⟨ec, hec⟩ : ∃ ec, e0.commit = ec := ⟨_, rfl⟩
          rw [hec] at b1
          cases ec
          · have h0 := HEI.out.no hec o.key
            rw [h0] at hxo hoE
            obtain ⟨a1, c1, rfl⟩ := own_shape hxo
            obtain ⟨a2, c2, rfl⟩ := own_shape hoE
            clear hxo hoE hbE hwas HXE hx hec h0
            dsimp only
            go_upto_region 27 with fail
            go_cut [130] (fun v wx => v = .bool false ∧ Below wE.heap.size wE wx)
            case first =>
              go_quiet (fail)
              go_wp2_with fail
              go_meet
              exact ⟨rfl, ⟨rfl, rfl, rfl, Nat.le_refl _, fun _ _ => rfl⟩⟩
            case rest =>
              obtain ⟨wF, rfl⟩ : ∃ wF : World, wF = wc := ⟨_, rfl⟩
              obtain ⟨rfl, hbF⟩ := hcut
              have HBF := Lib.hid (HBE.out.trans (hbF.mono HBE.out.size))
              clear hbF
              go_wp2_with fail
              go_roundw
              case rel => exact ⟨i + 1, by omega, by go_num, Lib.hid HBF.out⟩
              case measure => simp [intOf]; omega
          · obtain ⟨v, h0⟩ := HEI.out.yes hec o (List.mem_of_getElem? HO.out)
            simp only at h0
            rw [h0] at hxo hoE
            obtain ⟨g1, c1, rfl⟩ := own_some hxo (by simp)
            obtain ⟨g2, c2, rfl⟩ := own_some hoE (by simp)
            have n0 : wE.cell? ⟨g2, 0, none⟩ = some (vi e0.at_) := by rw [World.ownsRow.cellAt hoE 0 (by simp)]; rfl
            have n1 : wE.cell? ⟨g2, 1, none⟩ = some (vi v) := by rw [World.ownsRow.cellAt hoE 1 (by simp)]; rfl
            have m0 : wE.cell? ⟨g1, 0, none⟩ = some (vi e0.at_) := by rw [World.ownsRow.cellAt hxo 0 (by simp)]; rfl
            have m1 : wE.cell? ⟨g1, 1, none⟩ = some (vi v) := by rw [World.ownsRow.cellAt hxo 1 (by simp)]; rfl
            clear hxo hoE hbE hwas HXE hx hec h0
            dsimp only
            go_upto_region 27 with fail
            go_cut [130] (fun v wx => v = .bool false ∧ Below wE.heap.size wE wx)
            case first =>
              go_quiet (fail)
              go_wp2_with fail
              go_meet
              exact ⟨rfl, ⟨rfl, rfl, rfl, Nat.le_refl _, fun _ _ => rfl⟩⟩
            case rest =>
              obtain ⟨wF, rfl⟩ : ∃ wF : World, wF = wc := ⟨_, rfl⟩
              obtain ⟨rfl, hbF⟩ := hcut
              have HBF := Lib.hid (HBE.out.trans (hbF.mono HBE.out.size))
              clear hbF
              go_wp2_with fail
              go_roundw
              case rel => exact ⟨i + 1, by omega, by go_num, Lib.hid HBF.out⟩
              case measure => simp [intOf]; omega
        · obtain rfl : i = r.writes.length := by omega
          have z0 : wk.heap[wB.heap.size]? = some (.cells #[vi r.txn, .bool e0.commit, vi e0.at_] 31) := (HBk.out.block _ (Array.getElem?_eq_some_iff.1 HZC.out).1).trans HZC.out
          have q0 : wk.cell? ⟨wB.heap.size, 0, none⟩ = some (vi r.txn) := by rw [cell_of z0]; rfl
          have q1 : wk.cell? ⟨wB.heap.size, 1, none⟩ = some (.bool e0.commit) := by rw [cell_of z0]; rfl
          have q2 : wk.cell? ⟨wB.heap.size, 2, none⟩ = some (vi e0.at_) := by rw [cell_of z0]; rfl
          have b0 : wk.cell? ⟨w.heap.size + 1, 0, none⟩ = some (vi r.txn) := by rw [cell_of HXk.out.bb]; rfl
          have b1 : wk.cell? ⟨w.heap.size + 1, 1, none⟩ = some (.bool e0.commit) := by rw [cell_of HXk.out.bb]; rfl
          have b2 : wk.cell? ⟨w.heap.size + 1, 2, none⟩ = some (vi e0.at_) := by rw [cell_of HXk.out.bb]; rfl
          clear z0
          go_wp2_with fail
          refine (waits_call wk HMk.out (by simp) (fun y hy => by cases hy)).mono ?_
          rintro e wL ⟨vL, L, rfl, hoL, hwL, hbL⟩
          have hL0 : L = [] := by simpa using waits_none hwL
          subst hL0
          obtain ⟨aL, cL, rfl⟩ := own_shape hoL.row
          have HBL := Lib.hid (HXk.out.below.trans (hbL.mono HXk.out.below.size))
          clear hoL hwL hbL
          dsimp only
          go_wp2_with fail
          go_ret
          exact ⟨rfl, HBL.out⟩
end Go.Proofs.Ytbadpfcjoobniaa
