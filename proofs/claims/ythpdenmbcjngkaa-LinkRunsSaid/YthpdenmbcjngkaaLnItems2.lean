/- The law's same; ref01.Copy at bytes; how the row's argument of steps reads. -/
import Derived.Test.YthpdenmbcjngkaaLnItems
import Derived.Deep.Strs
namespace Go.Proofs.Ythpdenmbcjngkaa
open Go.RowKit Go.Maps
open Go.ChangeShapes Go.WideShapes
attribute [local go_sem] Oper.semAt_some

def sameB (a b : LK) : Bool := decide (pairK a = pairK b)
theorem pairK_eq (a b : LK) : pairK a = pairK b ↔ (a.1 = b.1 ∧ a.2 = b.2) ∨ (a.1 = b.2 ∧ a.2 = b.1) := by
  unfold pairK
  simp only [Prod.mk.injEq]
  omega

set_option maxRecDepth 100000 in
set_option maxHeartbeats 4000000 in
theorem sameL_call (a b : LK) (w : World) : Calls Try.prog 14 #[lkV a, lkV b] w fun e w' => e = .returned (.bool (sameB a b)) ∧ Below w.heap.size w w' := by
  have HB := Lib.hid (((Below.refl w.heap.size w).alloc (Nat.le_refl _) (.cells #[vi a.1, vi a.2] 29)).alloc (by simp) (.cells #[vi b.1, vi b.2] 29))
  have HX1 := Lib.hid (show ((w.alloc (.cells #[vi a.1, vi a.2] 29)).alloc (.cells #[vi b.1, vi b.2] 29)).heap[w.heap.size]? = some (.cells #[vi a.1, vi a.2] 29) by
    have := ((Below.refl (w.alloc (.cells #[vi a.1, vi a.2] 29)).heap.size (w.alloc (.cells #[vi a.1, vi a.2] 29))).alloc (Nat.le_refl _) (.cells #[vi b.1, vi b.2] 29)).block w.heap.size (by simp)
    exact this.trans (alloc_at w _))
  have HX2 := Lib.hid (show ((w.alloc (.cells #[vi a.1, vi a.2] 29)).alloc (.cells #[vi b.1, vi b.2] 29)).heap[w.heap.size + 1]? = some (.cells #[vi b.1, vi b.2] 29) by
    have := alloc_at (w.alloc (.cells #[vi a.1, vi a.2] 29)) (.cells #[vi b.1, vi b.2] 29)
    simpa using this)
  have HD := Lib.hid (pairK_eq a b)
  go_enter Try.func14, Try.ntmps14
  go_upto_region 1 with fail
  generalize (w.alloc (.cells #[vi a.1, vi a.2] 29)).alloc (.cells #[vi b.1, vi b.2] 29) = w1 at *
  have a0 : w1.cell? ⟨w.heap.size, 0, none⟩ = some (vi a.1) := by rw [cell_of HX1.out]; rfl
  have a1 : w1.cell? ⟨w.heap.size, 1, none⟩ = some (vi a.2) := by rw [cell_of HX1.out]; rfl
  have b0 : w1.cell? ⟨w.heap.size + 1, 0, none⟩ = some (vi b.1) := by rw [cell_of HX2.out]; rfl
  have b1 : w1.cell? ⟨w.heap.size + 1, 1, none⟩ = some (vi b.2) := by rw [cell_of HX2.out]; rfl
  by_cases h1 : a.1 = b.1
  · have e1 : (a.1 == b.1) = true := by simp [h1]
    by_cases h2 : a.2 = b.2
    · have e2 : (a.2 == b.2) = true := by simp [h2]
      have hr : sameB a b = true := decide_eq_true (HD.out.2 (.inl ⟨h1, h2⟩))
      clear h1 h2
      go_wp2_with fail
      go_ret
      exact ⟨by rw [hr]; rfl, HB.out⟩
    · have e2 : (a.2 == b.2) = false := by simp [h2]
      by_cases h3 : a.1 = b.2
      · have e3 : (a.1 == b.2) = true := by simp [h3]
        by_cases h4 : a.2 = b.1
        · have e4 : (a.2 == b.1) = true := by simp [h4]
          have hr : sameB a b = true := decide_eq_true (HD.out.2 (.inr ⟨h3, h4⟩))
          clear h1 h2 h3 h4
          go_wp2_with fail
          go_ret
          exact ⟨by rw [hr]; rfl, HB.out⟩
        · have e4 : (a.2 == b.1) = false := by simp [h4]
          have hr : sameB a b = false := decide_eq_false (fun h => by rcases HD.out.1 h with ⟨_, h⟩ | ⟨_, h⟩; exact h2 h; exact h4 h)
          clear h1 h2 h3 h4
          go_wp2_with fail
          go_ret
          exact ⟨by rw [hr]; rfl, HB.out⟩
      · have e3 : (a.1 == b.2) = false := by simp [h3]
        have hr : sameB a b = false := decide_eq_false (fun h => by rcases HD.out.1 h with ⟨_, h⟩ | ⟨h, _⟩; exact h2 h; exact h3 h)
        clear h1 h2 h3
        go_wp2_with fail
        go_ret
        exact ⟨by rw [hr]; rfl, HB.out⟩
  · have e1 : (a.1 == b.1) = false := by simp [h1]
    by_cases h3 : a.1 = b.2
    · have e3 : (a.1 == b.2) = true := by simp [h3]
      by_cases h4 : a.2 = b.1
      · have e4 : (a.2 == b.1) = true := by simp [h4]
        have hr : sameB a b = true := decide_eq_true (HD.out.2 (.inr ⟨h3, h4⟩))
        clear h1 h3 h4
        go_wp2_with fail
        go_ret
        exact ⟨by rw [hr]; rfl, HB.out⟩
      · have e4 : (a.2 == b.1) = false := by simp [h4]
        have hr : sameB a b = false := decide_eq_false (fun h => by rcases HD.out.1 h with ⟨h, _⟩ | ⟨_, h⟩; exact h1 h; exact h4 h)
        clear h1 h3 h4
        go_wp2_with fail
        go_ret
        exact ⟨by rw [hr]; rfl, HB.out⟩
    · have e3 : (a.1 == b.2) = false := by simp [h3]
      have hr : sameB a b = false := decide_eq_false (fun h => by rcases HD.out.1 h with ⟨h, _⟩ | ⟨h, _⟩; exact h1 h; exact h3 h)
      clear h1 h3
      go_wp2_with fail
      go_ret
      exact ⟨by rw [hr]; rfl, HB.out⟩

set_option maxRecDepth 100000 in
set_option maxHeartbeats 1000000 in
theorem copy_call (v : Value) (bs : List Int) (w : World) (hv : RdB8 w v bs) (hl : bs.length ≤ 1048576) :
    Calls Try.prog 15 #[v] w fun e w' => ∃ v', e = .returned v' ∧ OwB w.heap.size w' v' bs ∧ Below w.heap.size w w' := by
  have HO0 := Lib.hid (World.ownsRow_lit (base := w.heap.size) (e := 5) (size := 1) w #[] 0 (Nat.le_refl _) (by simp [maxLen]) rfl)
  have HB0 := Lib.hid ((Below.refl w.heap.size w).alloc (Nat.le_refl _) (.cells #[] 5))
  have HS := Lib.hid (hv.later HB0.out).src
  obtain ⟨a, len, cap, rfl, rfl, hm, hn, -⟩ := hv.at
  clear hv
  go_enter Try.func15, Try.ntmps15
  go_wp2_with (at_builtin; refine wpList_append_src rfl _ _ 30 rfl eltU8 w.heap.size 0 [] HO0.out rfl bs.length _ HS.out rfl u8_one (by omega) (by omega) (by simp) ?_; intro v1 w1 hown hg _)
  go_ret
  exact ⟨_, rfl, by simpa [OwB] using hown, HB0.out.grown hg (by simp) (by simp [Value.ownBlock])⟩

/-- A step of the script. -/
structure OpL where
  k : Int
  n : Int
  l : LK
  b : List UInt8
def EOpL (w : World) (cs : List Value) (o : OpL) : Prop := ∃ b, cs = [vi o.k, vi o.n, vi o.l.1, vi o.l.2, b] ∧ RdU w b o.b ∧ i64 o.k ∧ i64 o.n ∧ i64 o.l.1 ∧ i64 o.l.2
abbrev RdOpsL (w : World) (v : Value) (xs : List OpL) : Prop := RdS 5 EOpL w v xs
theorem RdOpsL.later {w w' : World} {v : Value} {xs : List OpL} (h : RdOpsL w v xs) (hb : Below w.heap.size w w') : RdOpsL w' v xs :=
  RdS.below h hb fun _ _ ⟨b, h1, h2, h3⟩ => ⟨b, h1, RdB8.later h2 hb, h3⟩
theorem RdOpsL.at {w : World} {v : Value} {xs : List OpL} (h : RdOpsL w v xs) : ∃ a cap, v = .slice a xs.length cap ∧ xs.length ≤ 9223372036854775807 ∧
    ∀ j o, xs[j]? = some o → ∃ b off vb, a = some ⟨b, off, none⟩ ∧ w.cell? ⟨b, off + j * 5, none⟩ = some (vi o.k) ∧ w.cell? ⟨b, off + j * 5 + 1, none⟩ = some (vi o.n) ∧ w.cell? ⟨b, off + j * 5 + 2, none⟩ = some (vi o.l.1) ∧ w.cell? ⟨b, off + j * 5 + 3, none⟩ = some (vi o.l.2) ∧ w.cell? ⟨b, off + j * 5 + 4, none⟩ = some vb ∧ RdU w vb o.b ∧ i64 o.k ∧ i64 o.n ∧ i64 o.l.1 ∧ i64 o.l.2 := by
  obtain ⟨a, len, cap, h1, h2, h3, h4, h5, h6⟩ := h
  subst h2
  refine ⟨a, cap, h1, h3, fun j x hj => ?_⟩
  obtain ⟨b, off, cs, ha, hl, hc, vb, rfl, hr, hi⟩ := h6 j x hj
  exact ⟨b, off, vb, ha, by simpa using hc 0 _ rfl, by simpa [Nat.add_assoc] using hc 1 _ rfl, by simpa [Nat.add_assoc] using hc 2 _ rfl, by simpa [Nat.add_assoc] using hc 3 _ rfl, by simpa [Nat.add_assoc] using hc 4 _ rfl, hr, hi⟩

section
variable {H : Type} {enc : TypeId × Value → H} {w : World} {spare : Nat → Bool} {held : Bool}
theorem int_cell {m : Nat} {c : Value} {y : DataW H × List MemPlace} (h : DataW.trod enc Try.prog w 0 spare held m 3 [c] = some y) : ∃ n, c = vi n ∧ i64 n := by
  obtain ⟨n, hc, -, hw⟩ := DataW.trod_int Try.underlying3 h
  exact ⟨n, by simpa using hc, wf_i64 hw⟩
theorem cells_int : Try.prog.cellsOf 3 = 1 := by kernel_rfl
theorem cells_link : Try.prog.cellsOf 29 = 2 := by kernel_rfl
theorem cells_u8s : Try.prog.cellsOf 30 = 1 := by kernel_rfl
theorem cells_u8 : Try.prog.cellsOf 5 = 1 := by kernel_rfl
theorem cells_opL : Try.prog.cellsOf 40 = 5 := by kernel_rfl
theorem u8s_read {m : Nat} {v : Value} {y : DataW H × List MemPlace} (h : DataW.trod enc Try.prog w 0 spare held m 30 [v] = some y) : ∃ us, RdU w v us := by
  obtain ⟨us, hus⟩ : ∃ us : List UInt8, RdS 1 (fun _ cs (b : UInt8) => cs = [u8 (b.toNat : Int)]) w v us := rds_of_trod Try.underlying30 cells_u8 (by omega) h fun m cs y _ hy => by
    obtain ⟨n, rfl, _, hw⟩ := DataW.trod_int Try.underlying5 hy
    have hb : 0 ≤ n ∧ n ≤ 255 := by simp [Lit.wf, IntKind.min, IntKind.max, IntKind.signed, IntKind.bits] at hw; omega
    refine ⟨UInt8.ofNat n.toNat, ?_⟩
    have : ((UInt8.ofNat n.toNat).toNat : Int) = n := by
      rw [UInt8.toNat_ofNat']; omega
    rw [this]
  refine ⟨us, ?_⟩
  obtain ⟨a', len, cap, h1, h2, h3, h4, h5, h6⟩ := hus
  refine ⟨a', len, cap, h1, by rw [byteI_len]; exact h2, by rw [byteI_len]; exact h3, h4, h5, fun j x hj => ?_⟩
  unfold byteI at hj
  rw [List.getElem?_map, Option.map_eq_some_iff] at hj
  obtain ⟨b, hb, rfl⟩ := hj
  exact h6 j b hb
set_option maxRecDepth 100000 in
theorem link_cells {m : Nat} {cs : List Value} {y : DataW H × List MemPlace} (hl : cs.length = 2) (h : DataW.trod enc Try.prog w 0 spare held m 29 cs = some y) : ∃ l : LK, cs = [vi l.1, vi l.2] ∧ i64 l.1 ∧ i64 l.2 := by
  obtain ⟨xs, n, _, _, _, hlen, hf⟩ := DataW.trod_struct Try.underlying29 h
  match cs, hl, xs, hlen with
  | [c0, c1], _, [y0, y1], _ =>
    have h0 : DataW.trod enc Try.prog w 0 spare held n 3 (([c0, c1].drop 0).take (Try.prog.cellsOf 3)) = some y0 := hf 0 _ rfl
    have h1 : DataW.trod enc Try.prog w 0 spare held n 3 (([c0, c1].drop 1).take (Try.prog.cellsOf 3)) = some y1 := hf 1 _ rfl
    rw [cells_int] at h0 h1
    obtain ⟨a, rfl, ha⟩ := int_cell h0
    obtain ⟨b, rfl, hb⟩ := int_cell h1
    exact ⟨(a, b), rfl, ha, hb⟩
set_option maxRecDepth 100000 in
theorem opL_cells {m : Nat} {cs : List Value} {y : DataW H × List MemPlace} (hl : cs.length = 5) (h : DataW.trod enc Try.prog w 0 spare held m 40 cs = some y) : ∃ o, EOpL w cs o := by
  obtain ⟨xs, n, _, _, _, hlen, hf⟩ := DataW.trod_struct Try.underlying40 h
  match cs, hl, xs, hlen with
  | [c0, c1, c2, c3, c4], _, [y0, y1, y2, y3], _ =>
    have h0 : DataW.trod enc Try.prog w 0 spare held n 3 (([c0, c1, c2, c3, c4].drop 0).take (Try.prog.cellsOf 3)) = some y0 := hf 0 _ rfl
    have h1 : DataW.trod enc Try.prog w 0 spare held n 3 (([c0, c1, c2, c3, c4].drop 1).take (Try.prog.cellsOf 3)) = some y1 := hf 1 _ rfl
    have h2 : DataW.trod enc Try.prog w 0 spare held n 29 (([c0, c1, c2, c3, c4].drop 2).take (Try.prog.cellsOf 29)) = some y2 := hf 2 _ rfl
    have h3 : DataW.trod enc Try.prog w 0 spare held n 30 (([c0, c1, c2, c3, c4].drop 4).take (Try.prog.cellsOf 30)) = some y3 := hf 3 _ rfl
    rw [cells_int] at h0 h1
    rw [cells_link] at h2
    rw [cells_u8s] at h3
    obtain ⟨a, rfl, ha⟩ := int_cell h0
    obtain ⟨b, rfl, hb⟩ := int_cell h1
    obtain ⟨l, hl2, hla, hlb⟩ := link_cells (by rfl) h2
    obtain ⟨us, hr⟩ := u8s_read h3
    cases hl2
    exact ⟨⟨a, b, l, us⟩, c4, rfl, hr, ha, hb, hla, hlb⟩
end
set_option maxRecDepth 100000 in
theorem opsL_of_row {H : Type} {enc : TypeId × Value → H} {w : World} {spare : Nat → Bool} {held : Bool} {base : Nat} {v : Value} {d : DataW H} {ps : List MemPlace} (hk : Value.okWide Try.prog w .any base 37 v) (h : DataW.Trod enc Try.prog w 0 spare held 37 v d ps) : ∃ es, RdOpsL w v es := by
  obtain ⟨a, l, c, rfl⟩ := okWide_slice Try.underlying37 hk
  obtain ⟨fuel, hf⟩ := h
  exact rds_of_trod Try.underlying37 cells_opL (by omega) hf fun _ _ _ hl hy => opL_cells hl hy
end Go.Proofs.Ythpdenmbcjngkaa
