/- The walk of MvccFirst. -/
import Derived.Test.YtbadpfcjoobniaaMvBig
namespace Go.Proofs.Ytbadpfcjoobniaa
open Go.RowKit Go.Maps

theorem cells_set {W : World} {b o : Nat} {cs : Array Value} {T : TypeId} {fz : Nat × Nat} (v : Value) (h : W.heap[b]? = some (.cells cs T fz)) : (W.setCell ⟨b, o, none⟩ v).heap[b]? = some (.cells (cs.setIfInBounds o v) T fz) := by
  simp [World.setCell, Array.getElem?_modify, h]
theorem cells_other {W : World} {b c o : Nat} {ob : Option Obj} (v : Value) (h : W.heap[b]? = ob) (hne : b ≠ c) : (W.setCell ⟨c, o, none⟩ v).heap[b]? = ob := (Below.heap_setCell _ _ _ _ hne).trans h
/-- The two boxes of the law: what they hold. -/
structure Box2 (w : World) (a b : RV) (W : World) : Prop where
  ba : W.heap[w.heap.size]? = some (.cells (rdyC a) 29)
  bb : W.heap[w.heap.size + 1]? = some (.cells (rdyC b) 29)
  ra : ∀ W' : World, (∀ j, j < W.heap.size → j ≠ w.heap.size → j ≠ w.heap.size + 1 → W'.heap[j]? = W.heap[j]?) → RdyS W' a
  rb : ∀ W' : World, (∀ j, j < W.heap.size → j ≠ w.heap.size → j ≠ w.heap.size + 1 → W'.heap[j]? = W.heap[j]?) → RdyS W' b
  below : Below w.heap.size w W
theorem Box2.rdyA {w A : World} {a b : RV} (h : Box2 w a b A) : RdyS A a := h.ra A fun _ _ _ _ => rfl
theorem Box2.rdyB {w A : World} {a b : RV} (h : Box2 w a b A) : RdyS A b := h.rb A fun _ _ _ _ => rfl
theorem Box2.later {w A B : World} {a b : RV} (h : Box2 w a b A) (hb : Below A.heap.size A B) : Box2 w a b B :=
  ⟨(hb.block _ (Array.getElem?_eq_some_iff.1 h.ba).1).trans h.ba, (hb.block _ (Array.getElem?_eq_some_iff.1 h.bb).1).trans h.bb, fun W' hW => h.ra W' fun j h1 h2 h3 => (hW j (Nat.lt_of_lt_of_le h1 hb.size) h2 h3).trans (hb.block j h1), fun W' hW => h.rb W' fun j h1 h2 h3 => (hW j (Nat.lt_of_lt_of_le h1 hb.size) h2 h3).trans (hb.block j h1), h.below.trans (hb.mono h.below.size)⟩
theorem cell_block {A B : World} {b o : Nat} (h : B.heap[b]? = A.heap[b]?) : B.cell? ⟨b, o, none⟩ = A.cell? ⟨b, o, none⟩ := by
  unfold World.cell?; simp only [h]
theorem RdS.blocks {α : Type} {n : Nat} {E : World → List Value → α → Prop} {A B : World} {v : Value} {xs : List α} (h : RdS n E A v xs) (hb : ∀ j, j < A.heap.size → B.heap[j]? = A.heap[j]?) (hE : ∀ cs x, E A cs x → E B cs x) : RdS n E B v xs := by
  obtain ⟨a, len, cap, h1, h2, h3, h4, h5, h6⟩ := h
  refine ⟨a, len, cap, h1, h2, h3, h4, h5, fun j x hj => ?_⟩
  obtain ⟨b, off, cs, ha, hl, hc, he⟩ := h6 j x hj
  exact ⟨b, off, cs, ha, hl, fun i u hu => (cell_block (hb b (World.block_lt_of_cell? A _ (hc i u hu)))).trans (hc i u hu), hE _ _ he⟩
theorem RdyS.blocks {A B : World} {x : RV} (h : RdyS A x) (hb : ∀ j, j < A.heap.size → B.heap[j]? = A.heap[j]?) : RdyS B x := ⟨RdS.blocks h.ws hb fun _ _ h => h, RdS.blocks h.rs hb fun _ _ h => h⟩
theorem RdyS.args {w A : World} {x : RV} (h : RdyS w x) (hb : Below w.heap.size w A) : ∀ W' : World, (∀ j, j < A.heap.size → j ≠ w.heap.size → j ≠ w.heap.size + 1 → W'.heap[j]? = A.heap[j]?) → RdyS W' x := fun W' hW =>
  h.blocks fun j hj => (hW j (Nat.lt_of_lt_of_le hj hb.size) (by omega) (by omega)).trans (hb.block j hj)
theorem own_frame {A B : World} {base e size n : Nat} {v : Value} {xs : List Value} (h : A.ownsRow base e size v n xs) (hb : ∀ g, v.ownBlock = some g → B.heap[g]? = A.heap[g]?) : B.ownsRow base e size v n xs := by
  refine ⟨h.1, ?_⟩
  rcases h.2 with h2 | ⟨g, cap, cur, hv, hg, hh, r⟩
  · exact .inl h2
  · exact .inr ⟨g, cap, cur, hv, hg, (hb g (by rw [hv]; rfl)).trans hh, r⟩
theorem rdv_slices {W : World} {x : RV} (h : RdyS W x) : ∃ (a : Option Addr) (c : Nat) (a' : Option Addr) (c' : Nat), x.wv = .slice a x.r.writes.length c ∧ x.rv = .slice a' x.r.reads.length c' ∧ x.r.writes.length ≤ 9223372036854775807 ∧ x.r.reads.length ≤ 9223372036854775807 := by
  obtain ⟨a, n, c, h1, h2, h3, -⟩ := h.ws
  obtain ⟨a', n', c', h1', h2', h3', -⟩ := h.rs
  subst h2 h2'
  exact ⟨a, c, a', c', h1, h1', h3, h3'⟩
set_option maxRecDepth 100000 in
set_option maxHeartbeats 4000000 in
theorem first_walk (v0 v1 v3 : Value) (x0 x1 : RV) (key : Int) (ord : List Int) (serial : Bool) (w : World) (r0 : RdyV w v0 x0) (r1 : RdyV w v1 x1) (hk : i64 key) (r3 : RdInts w v3 ord) :
    Calls Try.prog 5 #[v0, v1, vi key, v3, .bool serial] w fun e w' => e = .returned (.bool true) ∧ Below w.heap.size w w' := by
  obtain ⟨rfl, s0, i0⟩ := r0
  obtain ⟨rfl, s1, i1⟩ := r1
  obtain ⟨wv0, rv0, y0⟩ := x0
  obtain ⟨wv1, rv1, y1⟩ := x1
  obtain ⟨aw0, cw0, ar0, cr0, hw0, hr0, lw0, lr0⟩ := rdv_slices s0
  obtain ⟨aw1, cw1, ar1, cr1, hw1, hr1, lw1, lr1⟩ := rdv_slices s1
  simp only at hw0 hr0 hw1 hr1 lw0 lr0 lw1 lr1 i0 i1
  subst hw0 hr0 hw1 hr1
  obtain ⟨ao, no, co, ho, rfl, hm3, -⟩ := r3.at
  subst ho
  have HR3 := Lib.hid r3
  have HS0 := Lib.hid s0
  have HS1 := Lib.hid s1
  have HI0 := Lib.hid i0
  have HI1 := Lib.hid i1
  have HK := Lib.hid hk
  have hB0 : Below w.heap.size w ((w.alloc (.cells (rdyC ⟨.slice aw0 y0.writes.length cw0, .slice ar0 y0.reads.length cr0, y0⟩) 29)).alloc (.cells (rdyC ⟨.slice aw1 y1.writes.length cw1, .slice ar1 y1.reads.length cr1, y1⟩) 29)) := ((Below.refl _ _).alloc (Nat.le_refl _) _).alloc (by simp) _
  have HX := Lib.hid (show Box2 w ⟨.slice aw0 y0.writes.length cw0, .slice ar0 y0.reads.length cr0, y0⟩ ⟨.slice aw1 y1.writes.length cw1, .slice ar1 y1.reads.length cr1, y1⟩ ((w.alloc (.cells (rdyC ⟨.slice aw0 y0.writes.length cw0, .slice ar0 y0.reads.length cr0, y0⟩) 29)).alloc (.cells (rdyC ⟨.slice aw1 y1.writes.length cw1, .slice ar1 y1.reads.length cr1, y1⟩) 29)) from
    ⟨by rw [heap_if, heap_if]; simp, by rw [heap_if]; simp, s0.args hB0, s1.args hB0, hB0⟩)
  clear s0 s1 i0 i1 hk r3 hB0
  unfold rdyV at *
  unfold rdyC at *
  go_enter Try.func5, Try.ntmps5
  go_upto_region 1 with fail
  simp only at HX
  generalize (w.alloc (.cells #[vi y0.txn, vi y0.home, vi y0.start, .slice aw0 y0.writes.length cw0, .slice ar0 y0.reads.length cr0] 29)).alloc (.cells #[vi y1.txn, vi y1.home, vi y1.start, .slice aw1 y1.writes.length cw1, .slice ar1 y1.reads.length cr1] 29) = w1 at *
  go_wp2_with fail
  refine (head_call w1).mono ?_
  rintro e w2 ⟨rfl, hb2⟩
  have HX2 := Lib.hid (HX.out.later hb2)
  clear hb2 HX
  dsimp only
  have a0 : w2.cell? ⟨w.heap.size, 0, none⟩ = some (vi y0.txn) := by rw [cell_of HX2.out.ba]; rfl
  have a1 : w2.cell? ⟨w.heap.size, 1, none⟩ = some (vi y0.home) := by rw [cell_of HX2.out.ba]; rfl
  have a2 : w2.cell? ⟨w.heap.size, 2, none⟩ = some (vi y0.start) := by rw [cell_of HX2.out.ba]; rfl
  have a3 : w2.cell? ⟨w.heap.size, 3, none⟩ = some (.slice aw0 y0.writes.length cw0) := by rw [cell_of HX2.out.ba]; rfl
  have a4 : w2.cell? ⟨w.heap.size, 4, none⟩ = some (.slice ar0 y0.reads.length cr0) := by rw [cell_of HX2.out.ba]; rfl
  go_upto_region 3 with fail
  go_wp2_with fail
  refine (big_call 0 0 0 false aw0 ar0 cw0 cr0 y0 w2 lw0 lr0).mono ?_
  rintro e w3 ⟨rfl, hb3⟩
  have HX3 := Lib.hid (HX2.out.later hb3)
  clear hb3 a0 a1 a2 a3 a4 HX2
  dsimp only
  obtain ⟨g0, hg0⟩ : ∃ g, bigB y0 = g := ⟨_, rfl⟩
  rw [hg0]
  have HG0 := Lib.hid hg0
  clear hg0
  cases g0
  rotate_left
  · go_wp2_with fail
    go_ret
    exact ⟨rfl, HX3.out.below⟩
  have c0 : w3.cell? ⟨w.heap.size + 1, 0, none⟩ = some (vi y1.txn) := by rw [cell_of HX3.out.bb]; rfl
  have c1 : w3.cell? ⟨w.heap.size + 1, 1, none⟩ = some (vi y1.home) := by rw [cell_of HX3.out.bb]; rfl
  have c2 : w3.cell? ⟨w.heap.size + 1, 2, none⟩ = some (vi y1.start) := by rw [cell_of HX3.out.bb]; rfl
  have c3 : w3.cell? ⟨w.heap.size + 1, 3, none⟩ = some (.slice aw1 y1.writes.length cw1) := by rw [cell_of HX3.out.bb]; rfl
  have c4 : w3.cell? ⟨w.heap.size + 1, 4, none⟩ = some (.slice ar1 y1.reads.length cr1) := by rw [cell_of HX3.out.bb]; rfl
  go_wp2_with fail
  refine (big_call 0 0 0 false aw1 ar1 cw1 cr1 y1 w3 lw1 lr1).mono ?_
  rintro e w4 ⟨rfl, hb4⟩
  have HX4 := Lib.hid (HX3.out.later hb4)
  clear hb4 c0 c1 c2 c3 c4 HX3
  dsimp only
  obtain ⟨g0, hg0⟩ : ∃ g, bigB y1 = g := ⟨_, rfl⟩
  rw [hg0]
  have HG1 := Lib.hid hg0
  clear hg0
  cases g0
  rotate_left
  · go_wp2_with fail
    go_ret
    exact ⟨rfl, HX4.out.below⟩
  have a0 : w4.cell? ⟨w.heap.size, 0, none⟩ = some (vi y0.txn) := by rw [cell_of HX4.out.ba]; rfl
  have a2 : w4.cell? ⟨w.heap.size, 2, none⟩ = some (vi y0.start) := by rw [cell_of HX4.out.ba]; rfl
  have c0 : w4.cell? ⟨w.heap.size + 1, 0, none⟩ = some (vi y1.txn) := by rw [cell_of HX4.out.bb]; rfl
  have c2 : w4.cell? ⟨w.heap.size + 1, 2, none⟩ = some (vi y1.start) := by rw [cell_of HX4.out.bb]; rfl
  have fa : ∀ o, w4.frozen? ⟨w.heap.size, o, none⟩ = false := fun o => free_of HX4.out.ba o
  have fb : ∀ o, w4.frozen? ⟨w.heap.size + 1, o, none⟩ = false := fun o => free_of HX4.out.bb o
  go_upto_region 9 with fail
  have HXw5 := Lib.hid (show Box2 w ⟨.slice aw0 y0.writes.length cw0, .slice ar0 y0.reads.length cr0, ⟨1, y0.home, 10, y0.writes, y0.reads⟩⟩ ⟨.slice aw1 y1.writes.length cw1, .slice ar1 y1.reads.length cr1, ⟨2, y1.home, 10, y1.writes, y1.reads⟩⟩ ((((w4.setCell ⟨w.heap.size, 0, none⟩ (vi 1)).setCell ⟨w.heap.size + 1, 0, none⟩ (vi 2)).setCell ⟨w.heap.size, 2, none⟩ (vi 10)).setCell ⟨w.heap.size + 1, 2, none⟩ (vi 10)) from by
    have hb : Below w.heap.size w ((((w4.setCell ⟨w.heap.size, 0, none⟩ (vi 1)).setCell ⟨w.heap.size + 1, 0, none⟩ (vi 2)).setCell ⟨w.heap.size, 2, none⟩ (vi 10)).setCell ⟨w.heap.size + 1, 2, none⟩ (vi 10)) :=
      (((HX4.out.below.setCell (Nat.le_refl _) _).setCell (by show w.heap.size ≤ w.heap.size + 1; omega) _).setCell (Nat.le_refl _) _).setCell (by show w.heap.size ≤ w.heap.size + 1; omega) _
    have hA := cells_other (vi 10) (cells_set (o := 2) (vi 10) (cells_other (vi 2) (cells_set (o := 0) (vi 1) HX4.out.ba) (show w.heap.size ≠ w.heap.size + 1 by omega) (o := 0))) (show w.heap.size ≠ w.heap.size + 1 by omega) (o := 2)
    have hBB := cells_set (o := 2) (vi 10) (cells_other (vi 10) (cells_set (o := 0) (vi 2) (cells_other (vi 1) HX4.out.bb (show w.heap.size + 1 ≠ w.heap.size by omega) (o := 0))) (show w.heap.size + 1 ≠ w.heap.size by omega) (o := 2))
    exact ⟨hA, hBB, (show RdyS w ⟨_, _, ⟨1, y0.home, 10, y0.writes, y0.reads⟩⟩ from ⟨HS0.out.ws, HS0.out.rs⟩).args hb, (show RdyS w ⟨_, _, ⟨2, y1.home, 10, y1.writes, y1.reads⟩⟩ from ⟨HS1.out.ws, HS1.out.rs⟩).args hb, hb⟩)
  generalize (((w4.setCell ⟨w.heap.size, 0, none⟩ (vi 1)).setCell ⟨w.heap.size + 1, 0, none⟩ (vi 2)).setCell ⟨w.heap.size, 2, none⟩ (vi 10)).setCell ⟨w.heap.size + 1, 2, none⟩ (vi 10) = w5 at *
  have HSM0 := Lib.hid (bigB_false HG0.out)
  have HSM1 := Lib.hid (bigB_false HG1.out)
  clear a0 a2 c0 c2 fa fb HX4
  have hws : w.heap.size + 2 ≤ w5.heap.size := (Array.getElem?_eq_some_iff.1 HXw5.out.bb).1
  have HO0 := Lib.hid (World.ownsRow_lit (base := w5.heap.size) (e := 55) (size := 3) w5 #[] 0 (Nat.le_refl _) (by simp [maxLen]) rfl)
  have HB0 := Lib.hid ((Below.refl w5.heap.size w5).alloc (Nat.le_refl _) (.cells #[] 55))
  have HSRC := Lib.hid (rds_src (enc := opV) (k := 3) (fun _ => rfl) (HXw5.out.rdyA.ws.later HB0.out) (fun cs x h => h) (by omega))
  have x3 : ∀ o, (w5.alloc o).cell? ⟨w.heap.size, 3, none⟩ = some (.slice aw0 y0.writes.length cw0) := fun o => cell_later ((Below.refl w5.heap.size w5).alloc (Nat.le_refl _) o) (by rw [cell_of HXw5.out.ba]; rfl)
  have hlen : (y0.writes).length ≤ 22 := by have := HSM0.out.1; have := HSM0.out.2; simp; omega
  simp only at HSRC
  go_upto_region 9 with fail
  go_cut [] (fun wx => ∃ vw6, Box2 w ⟨vw6, .slice ar0 y0.reads.length cr0, ⟨1, y0.home, 10, (y0.writes ++ [(⟨2, key, 5⟩ : GOp)]), y0.reads⟩⟩ ⟨.slice aw1 y1.writes.length cw1, .slice ar1 y1.reads.length cr1, ⟨2, y1.home, 10, y1.writes, y1.reads⟩⟩ wx)
  case first =>
    go_wp2_with (first
      | (refine wpList_append_src rfl (.tmp 31) (.tmp 33) 26 rfl eltOp w5.heap.size 0 [] HO0.out rfl (y0.writes).length _ HSRC.out rfl (one_of (by intro x u hu; simp [opV] at hu; rcases hu with rfl | rfl | rfl <;> rfl) _) (by omega) (by omega) (by simp) ?_; intro vp wp ho6 hg6 _; have HO6 := Lib.hid ho6; have HB6 := Lib.hid (HB0.out.grown hg6 (by simp) (by simp [Value.ownBlock])); clear ho6 hg6)
      | (go_at_call 16; refine (w_call _ _ _).mono ?_; rintro e wq ⟨rfl, rfl⟩)
      | (refine wpList_append_src rfl (.tmp 34) (.tmp 36) 26 rfl eltOp w5.heap.size (0 + (y0.writes).length) ([] ++ (y0.writes).flatMap opV) (HO6.out.alloc _) rfl 1 (opV (⟨2, key, 5⟩ : GOp)) (src_new (cs := #[vi 2, vi (key), vi 5]) rfl rfl) rfl (by intro u hu; simp [opV] at hu; rcases hu with rfl | rfl | rfl <;> rfl) (by omega) (by omega) (by have := HB6.out.size; simp; omega) ?_; intro vz wz ho8 hg8 _; have HB8 := Lib.hid (Below.grown (HB6.out.alloc HB6.out.size (.cells #[vi 2, vi (key), vi 5] 55)) hg8 (by have := HB6.out.size; simp; omega) (fun j hj => (HO6.out.lt j hj).1)); obtain ⟨g8, c8, rfl⟩ := own_some ho8 (by omega); have HO8 := Lib.hid ho8; clear ho8 hg8; have q1 : wz.cell? ⟨w.heap.size, 3, none⟩ = some (.slice aw0 y0.writes.length cw0) := (by rw [cell_of (HXw5.out.later HB8.out).ba]; rfl); have q2 : wz.frozen? ⟨w.heap.size, 3, none⟩ = false := free_of (HXw5.out.later HB8.out).ba 3))
    go_meet
    have hX8 := HXw5.out.later HB8.out
    exact ⟨_, cells_set _ hX8.ba, cells_other _ hX8.bb (by omega), fun W' hW' => ⟨(own_rds (enc := opV) (fun _ => rfl) (l := y0.writes ++ [(⟨2, key, 5⟩ : GOp)]) (by have h9 := own_frame HO8.out (B := W') (fun j hj => by have h7 := HO8.out.lt j hj; exact (hW' j (by simp [World.setCell]; exact h7.2) (by omega) (by omega)).trans (cells_other _ rfl (by omega))); rw [List.length_append, List.flatMap_append]; simpa using h9) (fun x hx => rfl)), (hX8.ra W' (fun j h1 h2 h3 => (hW' j (by simpa [World.setCell] using h1) h2 h3).trans (cells_other _ rfl (by omega)))).rs⟩, fun W' hW' => (hX8.rb W' (fun j h1 h2 h3 => (hW' j (by simpa [World.setCell] using h1) h2 h3).trans (cells_other _ rfl (by omega)))), (hX8.below.setCell (p := ⟨w.heap.size, 3, none⟩) (by show w.heap.size ≤ w.heap.size; omega) _)⟩
  case rest =>
  obtain ⟨w6, rfl⟩ : ∃ w6 : World, w6 = wc := ⟨_, rfl⟩
  obtain ⟨vw6, hX⟩ := hcut
  have HXw6 := Lib.hid hX
  obtain ⟨aw6, cw6, rfl⟩ : ∃ a c, vw6 = .slice a (y0.writes ++ [(⟨2, key, 5⟩ : GOp)]).length c := by
    obtain ⟨a, n, c, h1, h2, -⟩ := (show RdOps w6 vw6 (y0.writes ++ [(⟨2, key, 5⟩ : GOp)]) from hX.rdyA.ws)
    exact ⟨a, c, by rw [h1, h2]⟩
  have hwsw6 : w.heap.size + 2 ≤ w6.heap.size := (Array.getElem?_eq_some_iff.1 hX.bb).1
  clear hX HO0 HB0 HSRC x3 hlen HXw5
  have HO0 := Lib.hid (World.ownsRow_lit (base := w6.heap.size) (e := 55) (size := 3) w6 #[] 0 (Nat.le_refl _) (by simp [maxLen]) rfl)
  have HB0 := Lib.hid ((Below.refl w6.heap.size w6).alloc (Nat.le_refl _) (.cells #[] 55))
  have HSRC := Lib.hid (rds_src (enc := opV) (k := 3) (fun _ => rfl) (HXw6.out.rdyB.ws.later HB0.out) (fun cs x h => h) (by omega))
  have x3 : ∀ o, (w6.alloc o).cell? ⟨w.heap.size + 1, 3, none⟩ = some (.slice aw1 y1.writes.length cw1) := fun o => cell_later ((Below.refl w6.heap.size w6).alloc (Nat.le_refl _) o) (by rw [cell_of HXw6.out.bb]; rfl)
  have hlen : (y1.writes).length ≤ 22 := by have := HSM1.out.1; have := HSM1.out.2; simp; omega
  simp only at HSRC
  go_upto_region 10 with fail
  go_cut [] (fun wx => ∃ vw9, Box2 w ⟨.slice aw6 (y0.writes ++ [(⟨2, key, 5⟩ : GOp)]).length cw6, .slice ar0 y0.reads.length cr0, ⟨1, y0.home, 10, (y0.writes ++ [(⟨2, key, 5⟩ : GOp)]), y0.reads⟩⟩ ⟨vw9, .slice ar1 y1.reads.length cr1, ⟨2, y1.home, 10, (y1.writes ++ [(⟨2, key, 6⟩ : GOp)]), y1.reads⟩⟩ wx)
  case first =>
    go_wp2_with (first
      | (refine wpList_append_src rfl (.tmp 39) (.tmp 41) 26 rfl eltOp w6.heap.size 0 [] HO0.out rfl (y1.writes).length _ HSRC.out rfl (one_of (by intro x u hu; simp [opV] at hu; rcases hu with rfl | rfl | rfl <;> rfl) _) (by omega) (by omega) (by simp) ?_; intro vp wp ho6 hg6 _; have HO6 := Lib.hid ho6; have HB6 := Lib.hid (HB0.out.grown hg6 (by simp) (by simp [Value.ownBlock])); clear ho6 hg6)
      | (go_at_call 16; refine (w_call _ _ _).mono ?_; rintro e wq ⟨rfl, rfl⟩)
      | (refine wpList_append_src rfl (.tmp 42) (.tmp 44) 26 rfl eltOp w6.heap.size (0 + (y1.writes).length) ([] ++ (y1.writes).flatMap opV) (HO6.out.alloc _) rfl 1 (opV (⟨2, key, 6⟩ : GOp)) (src_new (cs := #[vi 2, vi (key), vi 6]) rfl rfl) rfl (by intro u hu; simp [opV] at hu; rcases hu with rfl | rfl | rfl <;> rfl) (by omega) (by omega) (by have := HB6.out.size; simp; omega) ?_; intro vz wz ho8 hg8 _; have HB8 := Lib.hid (Below.grown (HB6.out.alloc HB6.out.size (.cells #[vi 2, vi (key), vi 6] 55)) hg8 (by have := HB6.out.size; simp; omega) (fun j hj => (HO6.out.lt j hj).1)); obtain ⟨g8, c8, rfl⟩ := own_some ho8 (by omega); have HO8 := Lib.hid ho8; clear ho8 hg8; have q1 : wz.cell? ⟨w.heap.size + 1, 3, none⟩ = some (.slice aw1 y1.writes.length cw1) := (by rw [cell_of (HXw6.out.later HB8.out).bb]; rfl); have q2 : wz.frozen? ⟨w.heap.size + 1, 3, none⟩ = false := free_of (HXw6.out.later HB8.out).bb 3))
    go_meet
    have hX8 := HXw6.out.later HB8.out
    exact ⟨_, cells_other _ hX8.ba (by omega), cells_set _ hX8.bb, fun W' hW' => (hX8.ra W' (fun j h1 h2 h3 => (hW' j (by simpa [World.setCell] using h1) h2 h3).trans (cells_other _ rfl (by omega)))), fun W' hW' => ⟨(own_rds (enc := opV) (fun _ => rfl) (l := y1.writes ++ [(⟨2, key, 6⟩ : GOp)]) (by have h9 := own_frame HO8.out (B := W') (fun j hj => by have h7 := HO8.out.lt j hj; exact (hW' j (by simp [World.setCell]; exact h7.2) (by omega) (by omega)).trans (cells_other _ rfl (by omega))); rw [List.length_append, List.flatMap_append]; simpa using h9) (fun x hx => rfl)), (hX8.rb W' (fun j h1 h2 h3 => (hW' j (by simpa [World.setCell] using h1) h2 h3).trans (cells_other _ rfl (by omega)))).rs⟩, (hX8.below.setCell (p := ⟨w.heap.size + 1, 3, none⟩) (by show w.heap.size ≤ w.heap.size + 1; omega) _)⟩
  case rest =>
  obtain ⟨w9, rfl⟩ : ∃ w9 : World, w9 = wc := ⟨_, rfl⟩
  obtain ⟨vw9, hX⟩ := hcut
  have HXw9 := Lib.hid hX
  obtain ⟨aw9, cw9, rfl⟩ : ∃ a c, vw9 = .slice a (y1.writes ++ [(⟨2, key, 6⟩ : GOp)]).length c := by
    obtain ⟨a, n, c, h1, h2, -⟩ := (show RdOps w9 vw9 (y1.writes ++ [(⟨2, key, 6⟩ : GOp)]) from hX.rdyB.ws)
    exact ⟨a, c, by rw [h1, h2]⟩
  have hwsw9 : w.heap.size + 2 ≤ w9.heap.size := (Array.getElem?_eq_some_iff.1 hX.bb).1
  clear hX HO0 HB0 HSRC x3 hlen HXw6
  have HC := Lib.hid (cross_first serial ⟨1, y0.home, 10, y0.writes ++ [(⟨2, key, 5⟩ : GOp)], y0.reads⟩ ⟨2, y1.home, 10, y1.writes ++ [(⟨2, key, 6⟩ : GOp)], y1.reads⟩ key rfl rfl rfl rfl ⟨⟨2, key, 5⟩, by simp, rfl⟩ ⟨⟨2, key, 6⟩, by simp, rfl⟩)
  have HWA := Lib.hid (show ∃ o ∈ y0.writes ++ [(⟨2, key, 5⟩ : GOp)], o.key = key from ⟨⟨2, key, 5⟩, by simp, rfl⟩)
  have HWB := Lib.hid (show ∃ o ∈ y1.writes ++ [(⟨2, key, 6⟩ : GOp)], o.key = key from ⟨⟨2, key, 6⟩, by simp, rfl⟩)
  have HKA := Lib.hid (show ∀ o ∈ y0.writes ++ [(⟨2, key, 5⟩ : GOp)], i64 o.key from fun o ho => by
    rcases List.mem_append.1 ho with ho | ho
    · exact (HI0.out.ws o ho).2.1
    · simp at ho; subst ho; exact HK.out)
  have HKB := Lib.hid (show ∀ o ∈ y1.writes ++ [(⟨2, key, 6⟩ : GOp)], i64 o.key from fun o ho => by
    rcases List.mem_append.1 ho with ho | ho
    · exact (HI1.out.ws o ho).2.1
    · simp at ho; subst ho; exact HK.out)
  have hla : (y0.writes ++ [(⟨2, key, 5⟩ : GOp)]).length ≤ 22 := by have := HSM0.out.1; simp; omega
  have hlb : (y1.writes ++ [(⟨2, key, 6⟩ : GOp)]).length ≤ 22 := by have := HSM1.out.1; simp; omega
  have hra : y0.reads.length ≤ 22 := by have := HSM0.out.2; omega
  have hrb : y1.reads.length ≤ 22 := by have := HSM1.out.2; omega
  generalize y0.writes ++ [(⟨2, key, 5⟩ : GOp)] = WA at *
  generalize y1.writes ++ [(⟨2, key, 6⟩ : GOp)] = WB at *
  go_wp2_with fail
  refine (new_call serial 0 w9).mono ?_
  rintro e w10 ⟨p, mk, mr, me, rfl, hm10, hb10⟩
  have HM10 := Lib.hid hm10
  have HB10 := Lib.hid hb10
  clear hm10 hb10
  dsimp only
  go_wp2_with fail
  go_loopw [12, 13] (fun dv iv wr => ∃ (i : Nat) (d : Int), i ≤ 20 ∧ iv = .int .i64 i ∧ dv = .int .i64 d ∧ Hid (∃ K R E, TwoI ⟨1, y0.home, 10, WA, y0.reads⟩ ⟨2, y1.home, 10, WB, y1.reads⟩ d K R E ∧ MvS w9.heap.size p mk mr me serial 0 K R E wr ∧ Turns [mk, mr, me] w10 wr ∧ Solid w10 wr)) (fun _ iv _ => 20 - (intOf iv).toNat)
  case atStart => exact ⟨0, 0, Nat.zero_le _, rfl, rfl, Lib.hid ⟨[], [], [], .inl ⟨rfl, rfl, rfl, .inl rfl⟩, HM10.out, Turns.refl _ _, Solid.refl _⟩⟩
  case round =>
    obtain ⟨wj, rfl⟩ : ∃ wj : World, wj = wr := ⟨_, rfl⟩
    obtain ⟨i, d, hi, rfl, rfl, HJ⟩ := hrel
    by_cases hlt : i < ord.length ∧ i < 20
    · obtain ⟨hl1, hl2⟩ := hlt
      have hi1 : (i : Int) < (ord.length : Int) := by omega
      have hi2 : (i : Int) < 20 := by omega
      obtain ⟨K, R, E, hT, hM, hTu, hSo⟩ := HJ.out
      have HT := Lib.hid hT
      have HM := Lib.hid hM
      have HTU := Lib.hid hTu
      have HSO := Lib.hid hSo
      have hXj : Box2 w ⟨.slice aw6 WA.length cw6, .slice ar0 y0.reads.length cr0, ⟨1, y0.home, 10, WA, y0.reads⟩⟩ ⟨.slice aw9 WB.length cw9, .slice ar1 y1.reads.length cr1, ⟨2, y1.home, 10, WB, y1.reads⟩⟩ wj := HXw9.out.later (HB10.out.trans (hTu.toBelow HB10.out.size hM.bases))
      have HXj := Lib.hid hXj
      have ho := (HR3.out.later hXj.below).at
      obtain ⟨_, _, _, e5, -, -, hoc⟩ := ho
      cases e5
      obtain ⟨ov, hov⟩ := some_at hl1
      obtain ⟨bo, oo, rfl, k0, hio⟩ := hoc i ov hov
      have a0 : wj.cell? ⟨w.heap.size, 0, none⟩ = some (vi 1) := by rw [cell_of hXj.ba]; rfl
      have a1 : wj.cell? ⟨w.heap.size, 1, none⟩ = some (vi y0.home) := by rw [cell_of hXj.ba]; rfl
      have a2 : wj.cell? ⟨w.heap.size, 2, none⟩ = some (vi 10) := by rw [cell_of hXj.ba]; rfl
      have a3 : wj.cell? ⟨w.heap.size, 3, none⟩ = some (.slice aw6 WA.length cw6) := by rw [cell_of hXj.ba]; rfl
      have a4 : wj.cell? ⟨w.heap.size, 4, none⟩ = some (.slice ar0 y0.reads.length cr0) := by rw [cell_of hXj.ba]; rfl
      have c0 : ∀ o, (wj.alloc o).cell? ⟨w.heap.size + 1, 0, none⟩ = some (vi 2) := fun o => cell_later ((Below.refl _ _).alloc (Nat.le_refl _) o) (by rw [cell_of hXj.bb]; rfl)
      have c1 : ∀ o, (wj.alloc o).cell? ⟨w.heap.size + 1, 1, none⟩ = some (vi y1.home) := fun o => cell_later ((Below.refl _ _).alloc (Nat.le_refl _) o) (by rw [cell_of hXj.bb]; rfl)
      have c2 : ∀ o, (wj.alloc o).cell? ⟨w.heap.size + 1, 2, none⟩ = some (vi 10) := fun o => cell_later ((Below.refl _ _).alloc (Nat.le_refl _) o) (by rw [cell_of hXj.bb]; rfl)
      have c3 : ∀ o, (wj.alloc o).cell? ⟨w.heap.size + 1, 3, none⟩ = some (.slice aw9 WB.length cw9) := fun o => cell_later ((Below.refl _ _).alloc (Nat.le_refl _) o) (by rw [cell_of hXj.bb]; rfl)
      have c4 : ∀ o, (wj.alloc o).cell? ⟨w.heap.size + 1, 4, none⟩ = some (.slice ar1 y1.reads.length cr1) := fun o => cell_later ((Below.refl _ _).alloc (Nat.le_refl _) o) (by rw [cell_of hXj.bb]; rfl)
      have k0a : ∀ o, (wj.alloc o).cell? ⟨bo, oo + i, none⟩ = some (vi ov) := fun o => cell_later ((Below.refl _ _).alloc (Nat.le_refl _) o) k0
      have hwj := hXj.below.size
      obtain ⟨b1, hb1⟩ : ∃ b, (bits .and .i64 ov 1 == 1) = b := ⟨_, rfl⟩
      clear hT hM hTu hSo hXj hoc hov hio
      go_upto_if 65 with fail
      go_cut [] (fun wx => ∃ (c : Int) (r : Rdy) (av : Option Addr) (cv : Nat) (ar : Option Addr) (cr : Nat), (c = 1 ∨ c = 2) ∧ r = pickR ⟨1, y0.home, 10, WA, y0.reads⟩ ⟨2, y1.home, 10, WB, y1.reads⟩ c ∧
        wx = wj.alloc (.cells #[vi r.txn, vi r.home, vi r.start, .slice av r.writes.length cv, .slice ar r.reads.length cr] 29) ∧ RdyS wj ⟨.slice av r.writes.length cv, .slice ar r.reads.length cr, r⟩ ∧ r.txn = c ∧ (∀ o ∈ r.writes, i64 o.key) ∧ r.writes.length ≤ 22 ∧ r.reads.length ≤ 22)
      case first =>
        cases b1
        · clear c0 c1 c2 c3 c4
          go_wp2_with fail
          go_meet
          exact ⟨1, ⟨1, y0.home, 10, WA, y0.reads⟩, _, _, _, _, .inl rfl, rfl, rfl, HXj.out.rdyA, rfl, HKA.out, hla, hra⟩
        · go_wp2_with fail
          go_meet
          exact ⟨2, ⟨2, y1.home, 10, WB, y1.reads⟩, _, _, _, _, .inr rfl, rfl, rfl, HXj.out.rdyB, rfl, HKB.out, hlb, hrb⟩
      case rest =>
        obtain ⟨wA, rfl⟩ : ∃ wA : World, wA = wc := ⟨_, rfl⟩
        obtain ⟨c, r, av, cv, ar, cr, hcc, hr, hw, hrd, htx, hok, hlw, hlr⟩ := hcut
        have hBA : Below wj.heap.size wj wA := by rw [hw]; exact (Below.refl _ _).alloc (Nat.le_refl _) _
        have HBA := Lib.hid hBA
        have HXA := Lib.hid (show wA.heap[wj.heap.size]? = some (.cells #[vi r.txn, vi r.home, vi r.start, .slice av r.writes.length cv, .slice ar r.reads.length cr] 29) by rw [hw]; exact alloc_at _ _)
        have HCC := Lib.hid hcc
        have HR := Lib.hid hr
        have HRD := Lib.hid hrd
        have HTX := Lib.hid htx
        have HOK := Lib.hid hok
        have k0A : wA.cell? ⟨bo, oo + i, none⟩ = some (vi ov) := cell_later hBA k0
        have r0 : wA.cell? ⟨wj.heap.size, 0, none⟩ = some (vi r.txn) := by rw [cell_of HXA.out]; rfl
        have r1 : wA.cell? ⟨wj.heap.size, 1, none⟩ = some (vi r.home) := by rw [cell_of HXA.out]; rfl
        have r2 : wA.cell? ⟨wj.heap.size, 2, none⟩ = some (vi r.start) := by rw [cell_of HXA.out]; rfl
        have r3 : wA.cell? ⟨wj.heap.size, 3, none⟩ = some (.slice av r.writes.length cv) := by rw [cell_of HXA.out]; rfl
        have r4 : wA.cell? ⟨wj.heap.size, 4, none⟩ = some (.slice ar r.reads.length cr) := by rw [cell_of HXA.out]; rfl
        have hwi : IntKind.i64.wrap ((i : Int) + 1) = (i : Int) + 1 := IntWalk.i64_in _ (by omega)
        clear hw hBA hcc hr hrd htx hok a0 a1 a2 a3 a4 c0 c1 c2 c3 c4 k0a k0 hb1
        obtain ⟨b2, hb2⟩ : ∃ b, (bits .and .i64 ov 2 == 0) = b := ⟨_, rfl⟩
        have HMA := Lib.hid (HM.out.later HBA.out)
        have HTA := Lib.hid ((HTU.out.later HBA.out))
        have HSA := Lib.hid (HSO.out.later HBA.out)
        cases b2
        · go_wp2_with fail
          have hR1 : R.length ≤ 1048576 := by have := (two_len HT.out 0).2.2.2.1; omega
          have HPK := Lib.hid (show ∀ c, (pickR ⟨1, y0.home, 10, WA, y0.reads⟩ ⟨2, y1.home, 10, WB, y1.reads⟩ c).writes.length ≤ 22 ∧ (pickR ⟨1, y0.home, 10, WA, y0.reads⟩ ⟨2, y1.home, 10, WB, y1.reads⟩ c).reads.length ≤ 22 ∧ ∀ o ∈ (pickR ⟨1, y0.home, 10, WA, y0.reads⟩ ⟨2, y1.home, 10, WB, y1.reads⟩ c).writes, i64 o.key from fun c => by
            unfold pickR; split
            · exact ⟨hla, hra, HKA.out⟩
            · exact ⟨hlb, hrb, HKB.out⟩)
          refine (waits_call wA HMA.out hR1 (fun y hy => by
            obtain ⟨c2, _, _, hy2⟩ := two_mem HT.out hy
            rw [hy2]
            have := HPK.out c2
            exact ⟨by omega, by omega⟩)).mono ?_
          rintro e wB ⟨vL, L, rfl, hoL, hwL, hbL⟩
          have HOL := Lib.hid hoL
          have HWL := Lib.hid hwL
          have HBB := Lib.hid hbL
          have HMB := Lib.hid (HMA.out.later hbL)
          obtain ⟨aL, cL, rfl⟩ := own_shape hoL.row
          have hLR : L.length = R.length := by
            obtain ⟨ks, h1, h2, h3⟩ := hwL
            have h4 := congrArg List.length h3
            have h5 := h1.length_eq
            simp at h4 h5; omega
          have hL1 : L.length ≤ 1 := by have := (two_len HT.out 0).2.2.2.1; omega
          have HLR := Lib.hid hLR
          have r0B : wB.cell? ⟨wj.heap.size, 0, none⟩ = some (vi r.txn) := cell_later hbL r0
          have hszB := HBA.out.size
          have hszC := HBB.out.size
          clear hoL hwL hbL hLR r0 r1 r2 r3 r4 k0A
          dsimp only
          go_wp2_with fail
          go_loopw [12, 79] (fun dv kv wr => ∃ (k : Nat) (d2 : Int), k ≤ L.length ∧ kv = .int .i64 k ∧ dv = .int .i64 d2 ∧ Hid (∃ K2 R2 E2, TwoI ⟨1, y0.home, 10, WA, y0.reads⟩ ⟨2, y1.home, 10, WB, y1.reads⟩ d2 K2 R2 E2 ∧ MvS w9.heap.size p mk mr me serial 0 K2 R2 E2 wr ∧ Turns [mk, mr, me] wB wr ∧ Solid wB wr ∧ (k = 0 → K2 = K ∧ R2 = R ∧ E2 = E ∧ d2 = d))) (fun _ kv _ => L.length - (intOf kv).toNat)
          case atStart => exact ⟨0, d, Nat.zero_le _, rfl, rfl, Lib.hid ⟨K, R, E, HT.out, HMB.out, Turns.refl _ _, Solid.refl _, fun _ => ⟨rfl, rfl, rfl, rfl⟩⟩⟩
          case round =>
            obtain ⟨wk, rfl⟩ : ∃ wk : World, wk = wr := ⟨_, rfl⟩
            obtain ⟨k, d2, hk, rfl, rfl, HJ2⟩ := hrel
            by_cases hlt : k < L.length
            · obtain rfl : k = 0 := by omega
              obtain ⟨K2, R2, E2, hT2, hM2, hTu2, hSo2, he2⟩ := HJ2.out
              obtain ⟨rfl, rfl, rfl, rfl⟩ := he2 rfl
              have hLen1 : L.length = 1 := by omega
              rcases HT.out with ⟨rfl, rfl, rfl, hR⟩ | ⟨_, rfl, _⟩
              rotate_left
              · have h9 := HLR.out; rw [List.length_nil] at h9; omega
              rcases hR with rfl | ⟨c2, wv2, rv2, hc2, rfl⟩
              · have h9 := HLR.out; rw [List.length_nil] at h9; omega
              obtain ⟨y, hy⟩ : ∃ y, L = [y] := by
                match L, hLen1 with
                | [y], _ => exact ⟨y, rfl⟩
              subst hy
              have hyr : y.r = pickR ⟨1, y0.home, 10, WA, y0.reads⟩ ⟨2, y1.home, 10, WB, y1.reads⟩ c2 := by simpa using waits_one HWL.out
              obtain ⟨gL, cL', e5⟩ := own_some HOL.out.row (by simp)
              cases e5
              obtain ⟨a1, c1, e6⟩ := own_shape (HOL.out.ws y (by simp))
              obtain ⟨a2, c2', e7⟩ := own_shape (HOL.out.rs y (by simp)).1
              have hcell : ∀ j u, (rdyL y)[j]? = some u → wk.cell? ⟨gL, j, none⟩ = some u := fun j u hu => by
                have h1 := World.ownsRow.cells HOL.out.row (g := gL) rfl j u (by simpa using hu)
                rw [addr_add, Nat.zero_add] at h1
                exact hSo2.cell h1
              have y0c : wk.cell? ⟨gL, 0, none⟩ = some (vi y.r.txn) := hcell 0 _ rfl
              have y1c : wk.cell? ⟨gL, 1, none⟩ = some (vi y.r.home) := hcell 1 _ rfl
              have y2c : wk.cell? ⟨gL, 2, none⟩ = some (vi y.r.start) := hcell 2 _ rfl
              have y3c : wk.cell? ⟨gL, 3, none⟩ = some (.slice a1 y.r.writes.length c1) := hcell 3 _ (by rw [← e6]; rfl)
              have y4c : wk.cell? ⟨gL, 4, none⟩ = some (.slice a2 y.r.reads.length c2') := hcell 4 _ (by rw [← e7]; rfl)
              have r0k : ∀ o, (wk.alloc o).cell? ⟨wj.heap.size, 0, none⟩ = some (vi r.txn) := fun o => cell_later ((Below.refl _ _).alloc (Nat.le_refl _) o) (hSo2.cell r0B)
              have hytx : y.r.txn = c2 := by rw [hyr]; rcases hc2 with rfl | rfl <;> rfl
              have HMk := Lib.hid (hM2.later ((Below.refl wk.heap.size wk).alloc (Nat.le_refl _) (.cells #[vi y.r.txn, vi y.r.home, vi y.r.start, .slice a1 y.r.writes.length c1, .slice a2 y.r.reads.length c2'] 29)))
              have HTk := Lib.hid (hTu2.later ((Below.refl wk.heap.size wk).alloc (Nat.le_refl _) (.cells #[vi y.r.txn, vi y.r.home, vi y.r.start, .slice a1 y.r.writes.length c1, .slice a2 y.r.reads.length c2'] 29)))
              have HSk := Lib.hid (hSo2.later ((Below.refl wk.heap.size wk).alloc (Nat.le_refl _) (.cells #[vi y.r.txn, vi y.r.home, vi y.r.start, .slice a1 y.r.writes.length c1, .slice a2 y.r.reads.length c2'] 29)))
              have HC2 := Lib.hid hc2
              have HT2 := Lib.hid hT2
              have HYT := Lib.hid hytx
              by_cases hcc2 : y.r.txn = r.txn
              · have hbe : (y.r.txn == r.txn) = true := by simp [hcc2]
                have HCE := Lib.hid (show c2 = c by rw [← hytx, hcc2, HTX.out])
                have h20 : IntKind.i64.wrap (20 + (i : Int)) = 20 + (i : Int) := IntWalk.i64_in _ (by omega)
                clear hcc2 hytx hc2 hT2 hM2 hTu2 hSo2 he2 hyr e6 e7 hcell hLen1
                go_wp2_with fail
                refine (finish_call ⟨r.txn, true, 20 + (i : Int)⟩ _ HMk.out (by show i64 r.txn; rw [HTX.out]; rcases HCC.out with h | h <;> rw [h] <;> (unfold i64; omega)) (by show i64 (20 + (i : Int)); unfold i64; omega) (two_srt HT2.out) (fun key => by have := (two_len HT2.out key).1; omega) (fun y hy => by
                  obtain ⟨c3, _, _, hy2⟩ := two_mem HT2.out hy
                  rw [hy2]
                  have := HPK.out c3
                  exact ⟨by omega, this.2.2⟩)).mono ?_
                rintro e wD ⟨K3, R3, E3, rfl, hf, hmD, htD⟩
                have HTF := Lib.hid (two_fin (a := ⟨1, y0.home, 10, WA, y0.reads⟩) (b := ⟨2, y1.home, 10, WB, y1.reads⟩) HC2.out (show 10 < 20 + (i : Int) by omega) (by rw [HTX.out, ← HCE.out] at hf; exact hf))
                have HMD := Lib.hid hmD
                have HTD := Lib.hid (HTk.out.trans htD)
                have HSD := Lib.hid (HSk.out.trans (htD.solid HMk.out.maps))
                clear hf hmD htD
                dsimp only
                go_wp2_with fail
                go_roundw
                case rel =>
                  (repeat apply Exists.intro)
                  exact ⟨⟨1, 1, by simp, rfl, rfl, Lib.hid ⟨K3, R3, E3, HTF.out, HMD.out, HTD.out, HSD.out, fun h => absurd h (by decide)⟩⟩, rfl⟩
                case measure => simp [intOf]
              · have hbe : (y.r.txn == r.txn) = false := by simp [hcc2]
                clear hcc2 hytx hc2 hT2 hM2 hTu2 hSo2 he2 hyr e6 e7 hcell hLen1
                go_wp2_with fail
                go_roundw
                case rel => exact ⟨1, 0, by simp, by go_num, rfl, Lib.hid ⟨_, _, _, HT2.out, HMk.out, HTk.out, HSk.out, fun h => by cases h⟩⟩
                case measure => simp [intOf]
            · obtain rfl : k = L.length := by omega
              obtain ⟨K2, R2, E2, hT2, hM2, hTu2, hSo2, -⟩ := HJ2.out
              have HT2 := Lib.hid hT2
              have HM2 := Lib.hid hM2
              have HTU2 := Lib.hid ((HTA.out.later HBB.out).trans hTu2)
              have HSO2 := Lib.hid ((HSA.out.later HBB.out).trans hSo2)
              clear hT2 hM2 hTu2 hSo2 r0B
              go_wp2_with fail
              go_roundw
              case rel => exact ⟨i + 1, d2, by omega, by go_num, rfl, Lib.hid ⟨K2, R2, E2, HT2.out, HM2.out, HTU2.out, HSO2.out⟩⟩
              case measure => simp [intOf]; omega
        · go_wp2_with fail
          have hR1 : R.length ≤ 1048576 := by have := (two_len HT.out 0).2.2.2.1; omega
          refine (prep_call ⟨.slice av r.writes.length cv, .slice ar r.reads.length cr, r⟩ wA HMA.out hR1 (HRD.out.later HBA.out) (by show i64 r.txn; rw [HTX.out]; rcases HCC.out with h | h <;> rw [h] <;> (unfold i64; omega)) HOK.out (by show r.writes.length ≤ _; omega) (by show r.reads.length ≤ _; omega)).mono ?_
          rintro e wB ⟨by1, er1, R1, rfl, hp, hmB, hgB⟩
          have HTW := Lib.hid (two_prep HC.out HT.out HCC.out (by rw [← HR.out]; exact hp))
          have HMB := Lib.hid hmB
          have HTB := Lib.hid (HTA.out.trans (Turns.grown hgB (by simp)))
          have HSB := Lib.hid (HSA.out.trans ((Solid.refl wA).map (HMA.out.ready.obj).choose_spec.choose_spec hgB))
          clear hp hmB hgB hR1
          dsimp only
          go_wp2_with fail
          go_roundw
          case rel => exact ⟨i + 1, d, by omega, by go_num, rfl, Lib.hid ⟨K, R1, E, HTW.out, HMB.out, HTB.out, HSB.out⟩⟩
          case measure => simp [intOf]; omega
    · obtain ⟨K, R, E, hT, hM, hTu, hSo⟩ := HJ.out
      have HT := Lib.hid hT
      have HM := Lib.hid hM
      have hXj := HXw9.out.later (HB10.out.trans (hTu.toBelow HB10.out.size hM.bases))
      have HB := Lib.hid hXj.below
      have hd := (two_len hT 0).2.2.2.2
      have hVL := (two_len hT key).1
      have HVL := Lib.hid (show ((verOf K key).length : Int) = d by
        have h := two_len hT key
        rcases h.2.2.2.2 with rfl | rfl
        · rw [h.2.1 rfl]; rfl
        · rw [h.2.2.1 rfl HWA.out HWB.out]; rfl)
      clear hT hM hTu hSo hXj HJ
      have hd1 : d ≤ 1 := by rcases hd with rfl | rfl <;> omega
      by_cases hl1 : i < ord.length
      · have hi2 : ¬ (i : Int) < 20 := by omega
        have hi1 : (i : Int) < (ord.length : Int) := by omega
        clear hlt hd
        go_wp2_with fail
        refine (versions_call key wj HM.out HK.out (by omega)).mono ?_
        rintro e wV ⟨vV, rfl, hoV, hbV⟩
        obtain ⟨aV, cV, rfl⟩ := own_shape hoV
        have hbe : (((verOf K key).length : Int) == d) = true := by rw [HVL.out]; simp
        have HBV := Lib.hid (HB.out.trans (hbV.mono HB.out.size))
        clear hoV hbV
        dsimp only
        go_wp2_with fail
        go_ret
        exact ⟨rfl, HBV.out⟩
      · have hi1 : ¬ (i : Int) < (ord.length : Int) := by omega
        clear hlt hd
        go_wp2_with fail
        refine (versions_call key wj HM.out HK.out (by omega)).mono ?_
        rintro e wV ⟨vV, rfl, hoV, hbV⟩
        obtain ⟨aV, cV, rfl⟩ := own_shape hoV
        have hbe : (((verOf K key).length : Int) == d) = true := by rw [HVL.out]; simp
        have HBV := Lib.hid (HB.out.trans (hbV.mono HB.out.size))
        clear hoV hbV
        dsimp only
        go_wp2_with fail
        go_ret
        exact ⟨rfl, HBV.out⟩

theorem mvccFirst.walk (v0 v1 v3 : Value) (x0 x1 : RV) (key : Int) (ord : List Int) (serial : Bool) (w : World) (r0 : RdyV w v0 x0) (r1 : RdyV w v1 x1) (hk : i64 key) (r3 : RdInts w v3 ord) :
    Calls Try.prog 5 #[v0, v1, vi key, v3, .bool serial] w fun e w' => e = .returned (.bool true) ∧ Below w.heap.size w w' := first_walk v0 v1 v3 x0 x1 key ord serial w r0 r1 hk r3
end Go.Proofs.Ytbadpfcjoobniaa
