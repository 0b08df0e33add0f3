/- (*mvcc.Store).Waits. -/
import Derived.Test.YtbadpfcjoobniaaMvFin
namespace Go.Proofs.Ytbadpfcjoobniaa
open Go.RowKit Go.Shelf Go.Maps

theorem Try.infoRdy : (Try.prog.info? 29).map (fun i => (i.zero, i.size, i.bytes)) = some (some (.agg #[vi 0, vi 0, vi 0, .slice none 0 0, .slice none 0 0]), 5, 72) := by kernel_rfl
theorem eltRdy : Elt Try.prog 38 29 5 72 (.agg #[vi 0, vi 0, vi 0, .slice none 0 0, .slice none 0 0]) := by
  obtain ⟨i0, hi, hz0, hz1, hz2⟩ := info_parts Try.infoRdy
  exact ⟨Try.underlying38, by decide, rfl, i0, hi, hz0, hz1, hz2⟩
def rdyL (x : RV) : List Value := [vi x.r.txn, vi x.r.home, vi x.r.start, x.wv, x.rv]
/-- Those who wait, copied into memory of the call's own. -/
structure OwR (base : Nat) (w : World) (v : Value) (L : List RV) : Prop where
  row : w.ownsRow base 29 5 v L.length (L.flatMap rdyL)
  ws : ∀ x ∈ L, w.ownsRow base 55 3 x.wv x.r.writes.length (x.r.writes.flatMap opV)
  rs : ∀ x ∈ L, w.ownsRow base 3 1 x.rv x.r.reads.length (x.r.reads.flatMap viC) ∧ ∀ k ∈ x.r.reads, i64 k
theorem OwR.later {base : Nat} {A B : World} {v : Value} {L : List RV} (h : OwR base A v L) (hb : Below A.heap.size A B) : OwR base B v L :=
  ⟨own_below h.row hb, fun x hx => own_below (h.ws x hx) hb, fun x hx => ⟨own_below (h.rs x hx).1 hb, (h.rs x hx).2⟩⟩
theorem OwR.mono {b b' : Nat} {w : World} {v : Value} {L : List RV} (h : OwR b w v L) (hb : b' ≤ b) : OwR b' w v L := ⟨own_mono h.row hb, fun x hx => own_mono (h.ws x hx) hb, fun x hx => ⟨own_mono (h.rs x hx).1 hb, (h.rs x hx).2⟩⟩
theorem OwR.rdy {base : Nat} {w : World} {v : Value} {L : List RV} (h : OwR base w v L) : ∀ x ∈ L, RdyS w x := fun x hx => rdy_own (h.ws x hx) (h.rs x hx).1 (h.rs x hx).2
/-- Rows of elements of other types lie in other blocks. -/
theorem own_apart {w : World} {b1 b2 e1 e2 s1 s2 n1 n2 : Nat} {v1 v2 : Value} {xs1 xs2 : List Value} (h1 : w.ownsRow b1 e1 s1 v1 n1 xs1) (h2 : w.ownsRow b2 e2 s2 v2 n2 xs2) (hne : e1 ≠ e2) : v1.ownBlock = none ∨ v1.ownBlock ≠ v2.ownBlock := by
  rcases h1.2 with ⟨hv, h0⟩ | ⟨g, cap, cur, hv, hg, hb, r⟩
  · exact .inl (by rw [hv]; rfl)
  · rcases h2.2 with ⟨hv2, h02⟩ | ⟨g2, cap2, cur2, hv2, hg2, hb2, r2⟩
    · exact .inr (by rw [hv, hv2]; simp [Value.ownBlock])
    · refine .inr (fun e => ?_)
      rw [hv, hv2] at e
      have : g = g2 := by simpa [Value.ownBlock] using e
      subst this
      rw [hb] at hb2; cases hb2; exact hne rfl
theorem OwR.snoc {base : Nat} {A B : World} {v v' : Value} {L : List RV} {x : RV} (h : OwR base A v L) (hg : A.grownBy B v.ownBlock) (hrow : B.ownsRow base 29 5 v' (L.length + 1) (L.flatMap rdyL ++ rdyL x))
    (h1 : A.ownsRow base 55 3 x.wv x.r.writes.length (x.r.writes.flatMap opV)) (h2 : A.ownsRow base 3 1 x.rv x.r.reads.length (x.r.reads.flatMap viC)) (h3 : ∀ k ∈ x.r.reads, i64 k) : OwR base B v' (L ++ [x]) := by
  refine ⟨by rw [List.length_append, List.flatMap_append]; simpa using hrow, fun y hy => ?_, fun y hy => ?_⟩
  · have : A.ownsRow base 55 3 y.wv y.r.writes.length (y.r.writes.flatMap opV) := by
      rcases List.mem_append.1 hy with hy | hy
      · exact h.ws y hy
      · simp at hy; subst hy; exact h1
    exact this.kept hg (own_apart this h.row (by decide))
  · have : A.ownsRow base 3 1 y.rv y.r.reads.length (y.r.reads.flatMap viC) ∧ ∀ k ∈ y.r.reads, i64 k := by
      rcases List.mem_append.1 hy with hy | hy
      · exact h.rs y hy
      · simp at hy; subst hy; exact ⟨h2, h3⟩
    exact ⟨this.1.kept hg (own_apart this.1 h.row (by decide)), this.2⟩

/-- Who waits, by rising numbers. -/
def WaitsM (R : RdyL) (l : List Rdy) : Prop := ∃ ks : List Int, ks.Perm (R.map (·.1)) ∧ ks.Pairwise (fun x y => x ≤ y) ∧ l = ks.map (fun k => ((getM R k).getD nilR).r)
def WaitsQ (R : RdyL) (w : World) (e : Ending) (w' : World) : Prop := ∃ v L, e = .returned v ∧ OwR w.heap.size w' v L ∧ WaitsM R (L.map (·.r)) ∧ Below w.heap.size w w'

theorem lookup_readyD {base p mk mr me : Nat} {serial : Bool} {bugs : Int} {K : KeysL} {R : RdyL} {E : EndL} {w : World} (h : MvS base p mk mr me serial bugs K R E w) {k : Int} (hk : k ∈ R.map (·.1)) :
    ∃ y, getM R k = some y ∧ y ∈ R.map (·.2) ∧ (Instr.lookup 92 (.map (some mr)) (vi k) false).run Try.prog w = .ok (rdyV y) w := by
  obtain ⟨x, hx, rfl⟩ := List.mem_map.1 hk
  refine ⟨x.2, ?_, List.mem_map.2 ⟨x, hx, rfl⟩, lookup_ready h.ready hx _ (zero_ready w)⟩
  cases hg : getM R x.1 with
  | none => exact absurd rfl (getM_none.1 hg x hx)
  | some y =>
    have hp := h.ready.pairwise
    have hy := getM_some hg
    obtain ⟨i, hi⟩ := List.mem_iff_getElem?.1 hx
    obtain ⟨j, hj⟩ := List.mem_iff_getElem?.1 hy
    obtain ⟨i1, i2⟩ := List.getElem?_eq_some_iff.1 hi
    obtain ⟨j1, j2⟩ := List.getElem?_eq_some_iff.1 hj
    rcases Nat.lt_trichotomy i j with h3 | h3 | h3
    · exact absurd (by rw [i2, j2]) (List.pairwise_iff_getElem.1 hp i j i1 j1 h3)
    · subst h3; rw [hi] at hj
      have h4 := congrArg Prod.snd (Option.some.inj hj)
      rw [h4]
    · exact absurd (by rw [i2, j2]) (List.pairwise_iff_getElem.1 hp j i j1 i1 h3)

set_option maxRecDepth 100000 in
set_option maxHeartbeats 4000000 in
theorem waits_call {base p mk mr me : Nat} {serial : Bool} {bugs : Int} {K : KeysL} {R : RdyL} {E : EndL} (w : World) (h : MvS base p mk mr me serial bugs K R E w) (hR : R.length ≤ 1048576) (hW : ∀ y ∈ R, y.2.r.writes.length ≤ 1048576 ∧ y.2.r.reads.length ≤ 1048576) :
    Calls Try.prog 13 #[.pointer (some ⟨p, 0, none⟩)] w (WaitsQ R w) := by
  have HM := Lib.hid h
  have HW := Lib.hid hW
  have p3 : w.cell? ⟨p, 3, none⟩ = some (.map (some mr)) := by rw [cell_of h.blk]; rfl
  have HB1 := Lib.hid ((Below.refl w.heap.size w).alloc (Nat.le_refl _) (.cells #[.map (some mr)] 92))
  clear h hW
  go_enter Try.func13, Try.ntmps13
  go_wp2_with (first
    | (go_at_call 45; refine (keys_call _).mono ?_; rintro e w1 ⟨rfl, rfl⟩)
    | (go_at_call 44; refine (sorted_call (mr := mr) (L := R) _ (by rw [cell_of (alloc_at _ _)]; rfl) (HM.out.later HB1.out).ready hR).mono ?_; rintro e w2 ⟨v2, ks, rfl, ho2, hp2, hs2, hb2⟩; obtain ⟨a2, c2, rfl⟩ := own_shape ho2))
  have HO := Lib.hid ho2
  have HP := Lib.hid hp2
  have HSO := Lib.hid hs2
  have HB2 := Lib.hid (HB1.out.trans (hb2.mono HB1.out.size))
  have hkl : ks.length ≤ 1048576 := by rw [hp2.length_eq]; simpa using hR
  clear ho2 hp2 hs2 hb2 p3
  go_loopw [3, 16] (fun v i wr => ∃ (k : Nat) (L : List RV), k ≤ ks.length ∧ i = .int .i64 k ∧ Hid (OwR w2.heap.size wr v L ∧ L.length = k ∧ L.map (·.r) = (ks.take k).map (fun k => ((getM R k).getD nilR).r) ∧ Below w2.heap.size w2 wr)) (fun _ i _ => ks.length - (intOf i).toNat)
  case atStart => exact ⟨0, [], Nat.zero_le _, rfl, Lib.hid ⟨⟨World.ownsRow_nil _ _ _ _, (fun x hx => by cases hx), (fun x hx => by cases hx)⟩, rfl, by simp, Below.refl _ _⟩⟩
  case round =>
    obtain ⟨wj, rfl⟩ : ∃ wj : World, wj = wr := ⟨_, rfl⟩
    obtain ⟨k, L, hk, rfl, HJ⟩ := hrel
    obtain ⟨aL, cL, rfl⟩ := own_shape HJ.out.1.row
    have HLK := Lib.hid HJ.out.2.1
    have hLk' : L.length ≤ 1048576 := by rw [HLK.out]; omega
    have HNE := Lib.hid (show ∀ j, (Value.slice aL L.length cL).ownBlock = some j → w2.heap.size ≤ j ∧ j < wj.heap.size from fun j hj => HJ.out.1.row.lt j hj)
    by_cases hlt : k < ks.length
    · obtain ⟨id, hid⟩ := some_at hlt
      obtain ⟨g2, c2', e2⟩ := own_some HO.out (by omega)
      cases e2
      have c0 : wj.cell? ⟨g2, k, none⟩ = some (vi id) := by
        have h1 := World.ownsRow.cells HO.out (g := g2) rfl k (vi id) (by rw [viC_map, List.getElem?_map, hid]; rfl)
        rw [addr_add, Nat.zero_add] at h1
        exact cell_later HJ.out.2.2.2 h1
      have hjI : (k : Int) < (ks.length : Int) := by omega
      have HMj := Lib.hid (HM.out.later (HB2.out.trans (HJ.out.2.2.2.mono HB2.out.size)))
      obtain ⟨y, hy, hym, hlk⟩ := lookup_readyD HMj.out (HP.out.mem_iff.1 (List.mem_of_getElem? hid))
      obtain ⟨x, hxR, hxy⟩ := List.mem_map.1 hym
      have HYW := Lib.hid (HW.out x hxR)
      have HYS := Lib.hid (HMj.out.rrow x hxR)
      rw [hxy] at HYW HYS
      clear hxy hxR hym x
      have p3 : wj.cell? ⟨p, 3, none⟩ = some (.map (some mr)) := by rw [cell_of HMj.out.blk]; rfl
      have HY := Lib.hid hy
      have HID := Lib.hid hid
      obtain ⟨wv, rv, r⟩ := y
      obtain ⟨aw, nw, cw, hwv, rfl, hmw, -⟩ := (show RdOps wj wv r.writes from HYS.out.ws).at
      obtain ⟨ar, nr, cr, hrv, rfl, hmr, -⟩ := (show RdInts wj rv r.reads from HYS.out.rs).at
      subst hwv hrv
      have HBA := Lib.hid ((Below.refl wj.heap.size wj).alloc (Nat.le_refl _) (.cells #[vi r.txn, vi r.home, vi r.start, .slice aw r.writes.length cw, .slice ar r.reads.length cr] 29))
      have HXA := Lib.hid (alloc_at wj (.cells #[vi r.txn, vi r.home, vi r.start, .slice aw r.writes.length cw, .slice ar r.reads.length cr] 29))
      clear hy hid hmw hmr
      unfold rdyV rdyC at hlk
      simp only at hlk
      go_upto_region 7 with fail
      generalize wj.alloc (.cells #[vi r.txn, vi r.home, vi r.start, .slice aw r.writes.length cw, .slice ar r.reads.length cr] 29) = wA at *
      have HS := Lib.hid (show ∀ w' : World, Below wA.heap.size wA w' → w'.cell? ⟨wj.heap.size, 0, none⟩ = some (vi r.txn) ∧ w'.cell? ⟨wj.heap.size, 1, none⟩ = some (vi r.home) ∧ w'.cell? ⟨wj.heap.size, 2, none⟩ = some (vi r.start) ∧ w'.cell? ⟨wj.heap.size, 3, none⟩ = some (.slice aw r.writes.length cw) ∧ w'.cell? ⟨wj.heap.size, 4, none⟩ = some (.slice ar r.reads.length cr) from fun w' hw =>
        ⟨cell_later hw (by rw [cell_of HXA.out]; rfl), cell_later hw (by rw [cell_of HXA.out]; rfl), cell_later hw (by rw [cell_of HXA.out]; rfl), cell_later hw (by rw [cell_of HXA.out]; rfl), cell_later hw (by rw [cell_of HXA.out]; rfl)⟩)
      have HXQ := Lib.hid (HYS.out.later (HBA.out.drew))
      have hwl := HYW.out.1
      have hrl := HYW.out.2
      simp only at hwl hrl
      have hsz1 := HB2.out.size
      have hsz2 := HJ.out.2.2.2.size
      have hsz3 := HBA.out.size
      clear c0 p3 hlk
      have HN2 := Lib.hid (show some wj.heap.size ≠ (Value.slice aL L.length cL).ownBlock from fun e => by have := (HNE.out _ e.symm).2; omega)
      have HRA := Lib.hid ((HJ.out.1.later HBA.out).later ((Below.refl wA.heap.size wA).drew))
      have HBd := Lib.hid ((Below.refl wA.heap.size wA).drew)
      go_region_held3 (fun w' : World => w'.cell? ⟨wj.heap.size, 0, none⟩ = some (vi r.txn) ∧ w'.cell? ⟨wj.heap.size, 1, none⟩ = some (vi r.home) ∧ w'.cell? ⟨wj.heap.size, 2, none⟩ = some (vi r.start) ∧ w'.cell? ⟨wj.heap.size, 3, none⟩ = some (.slice aw r.writes.length cw) ∧ w'.cell? ⟨wj.heap.size, 4, none⟩ = some (.slice ar r.reads.length cr))
        (first | exact HS.out _ HBd.out | exact HS.out _ HB8.out | exact HS.out _ HB9.out | exact HS.out _ (HB9.out.alloc HB9.out.size _) | exact (fun s => ⟨HGX.out.cell s.1 HN2.out, HGX.out.cell s.2.1 HN2.out, HGX.out.cell s.2.2.1 HN2.out, HGX.out.cell s.2.2.2.1 HN2.out, HGX.out.cell s.2.2.2.2 HN2.out⟩) (HS.out _ (HB9.out.alloc HB9.out.size _)))
        (first
          | (go_at_call 42; refine (cloneO_call _ r.writes wA.drew HXQ.out.ws hwl).mono ?_; rintro e w8 ⟨v1, rfl, ho1, hb8⟩; obtain ⟨a1, c1, rfl⟩ := own_shape ho1; have HO1 := Lib.hid (own_mono (b' := w2.heap.size) ho1 (by show w2.heap.size ≤ wA.heap.size; omega)); have HB8 := Lib.hid (HBd.out.trans hb8); have HX8 := Lib.hid (HXQ.out.later hb8); have HR8 := Lib.hid (HRA.out.later hb8); clear ho1 hb8)
          | (go_at_call 43; refine (cloneI_call _ r.reads w8 HX8.out.rs hrl).mono ?_; rintro e w9 ⟨v2, rfl, ho2, hb9⟩; obtain ⟨a2, c2, rfl⟩ := own_shape ho2; have HB9 := Lib.hid (HB8.out.trans (hb9.mono HB8.out.size)); have HO2 := Lib.hid (own_mono (b' := w2.heap.size) ho2 (by have := HB8.out.size; omega)); have HO1' := Lib.hid (own_below HO1.out hb9); have HR9 := Lib.hid (HR8.out.later hb9); clear ho2 hb9)
          | (refine step_append_src rfl _ _ 38 rfl eltRdy w2.heap.size L.length (L.flatMap rdyL) (HR9.out.row.alloc _) rfl 1 (rdyL ⟨.slice a1 r.writes.length c1, .slice a2 r.reads.length c2, r⟩) (src_new (cs := #[vi r.txn, vi r.home, vi r.start, .slice a1 r.writes.length c1, .slice a2 r.reads.length c2]) rfl rfl) rfl (by intro u hu; simp [rdyL] at hu; rcases hu with rfl | rfl | rfl | rfl | rfl <;> rfl) (by omega) (by omega) (by have := HB9.out.size; simp; omega) ?_; intro vX wX hrX hgX _; have HRX := Lib.hid (OwR.snoc (HR9.out.later ((Below.refl w9.heap.size w9).alloc (Nat.le_refl _) _)) hgX hrX (HO1'.out.alloc _) (HO2.out.alloc _) (reads_i64 HXQ.out.rs)); have HGX := Lib.hid hgX; clear hrX hgX))
      all_goals
        go_wp2_with fail
        go_roundw
        case rel =>
          refine ⟨k + 1, _, by omega, by go_num, Lib.hid ⟨HRX.out, by simp [HLK.out], ?_, ?_⟩⟩
          · rw [take_at HID.out, List.map_append, List.map_append, HJ.out.2.2.1, List.map_cons, List.map_cons, HY.out]
            rfl
          · exact (HJ.out.2.2.2.trans ((HBA.out.trans ((HB9.out.alloc HB9.out.size _).mono hsz3)).mono hsz2)).grown HGX.out (by have := HB9.out.size; simp; omega) (fun j hj => (HNE.out j hj).1)
        case measure => simp [intOf]; omega
    · obtain rfl : k = ks.length := by omega
      go_wp2_with fail
      go_ret
      have hJ := HJ.out
      rw [List.take_length] at hJ
      exact ⟨_, L, rfl, hJ.1.mono HB2.out.size, ⟨ks, HP.out, HSO.out, hJ.2.2.1⟩, HB2.out.trans (hJ.2.2.2.mono HB2.out.size)⟩
end Go.Proofs.Ytbadpfcjoobniaa
