/- (*link.Net).take of a message that is there. -/
import Derived.Test.YthpdenmbcjngkaaLnLen
import Derived.Deep.RegionHeld3
namespace Go.Proofs.Ythpdenmbcjngkaa
open Go.RowKit Go.Maps

theorem row_values {x : Way} {base : Nat} {W : World} (h : WayS base W x) : ∀ u ∈ x.2.map (·.1), u.oneCell' = true := by
  intro u hu
  obtain ⟨m, hm, rfl⟩ := List.mem_map.1 hu
  obtain ⟨a, len, c, hv, -⟩ := (h.msgs m hm).rd.at
  rw [hv]; rfl
theorem conW_mid {M N : Ways} {l : LK} {x : Way} (hM : ∀ p ∈ M, p.1 ≠ l) : conW (M ++ (l, x) :: N) l = x.2.map (·.2) := by unfold conW; rw [getM_mid hM]; rfl
theorem conW_side {M N : Ways} {l k : LK} {x : Way} (hk : k ≠ l) : conW (M ++ (l, x) :: N) k = conW (M ++ N) k := by unfold conW; rw [getM_side hk]
theorem conW_gone {M N : Ways} {l : LK} (hM : ∀ p ∈ M, p.1 ≠ l) (hN : ∀ p ∈ N, p.1 ≠ l) : conW (M ++ N) l = [] := by
  unfold conW; rw [getM_append, getM_none.2 hM, getM_none.2 hN]; rfl
theorem map_eraseIdx' {α β : Type} (f : α → β) (L : List α) (k : Nat) : (L.eraseIdx k).map f = (L.map f).eraseIdx k := ChangeMaps.map_eraseIdx f L k

def TakeQ (base p mw ma : Nat) (L : Ways) (C : List (LK × Bool)) (n lost : Int) (l : LK) (k : Nat) (bs : List Int) (w : World) (e : Ending) (w' : World) : Prop :=
  ∃ v, e = .returned (.tuple #[v, .bool true]) ∧ OwB base w' v bs ∧ (∃ L', NetS base p mw ma L' C (n - 1) lost w' ∧ conW L' l = (conW L l).eraseIdx k ∧ ∀ j, j ≠ l → conW L' j = conW L j) ∧ Below base w w' ∧ Stays w w'

set_option maxRecDepth 100000 in
set_option maxHeartbeats 8000000 in
theorem take_call {base p mw ma : Nat} {L : Ways} {C : List (LK × Bool)} {n lost : Int} (l : LK) (k : Nat) (bs : List Int) (w : World) (h : NetS base p mw ma L C n lost w) (hbw : base ≤ w.heap.size) (hn : n ≤ 500) (hl : i64 l.1 ∧ i64 l.2) (hk : (conW L l)[k]? = some bs) :
    Calls Try.prog 23 #[.pointer (some ⟨p, 0, none⟩), lkV l, .int .i64 k] w (TakeQ base p mw ma L C n lost l k bs w) := by
  obtain ⟨kl, hkl⟩ := linkKey hl
  have HK := Lib.hid hkl
  have hkc := (List.getElem?_eq_some_iff.1 hk).1
  have hlen := conW_cur L l
  obtain ⟨x, hx⟩ : ∃ x, getM L l = some x := by
    cases hg : getM L l with
    | some x => exact ⟨x, rfl⟩
    | none => rw [hlen, curW_none hg] at hkc; simp [nilW] at hkc
  obtain ⟨M, N, rfl, hM, hN⟩ := split_key h.mem.ways.pairwise hx
  have hcm : conW (M ++ (l, x) :: N) l = x.2.map (·.2) := conW_mid hM
  rw [hcm] at hk hkc
  have hkx : k < x.2.length := by simpa using hkc
  obtain ⟨m, hmk⟩ := some_at hkx
  have hmb : m.2 = bs := by rw [List.getElem?_map, hmk] at hk; simpa using hk
  have hsum := h.cnt
  rw [sumW_append] at hsum
  simp only [sumW] at hsum
  have hxl : x.2.length ≤ 500 := by omega
  have HSUM := Lib.hid hsum
  have HNE := Lib.hid h.ne
  have HB0 := Lib.hid ((Below.refl w.heap.size w).alloc (Nat.le_refl _) (.cells #[vi l.1, vi l.2] 29))
  have HN0 := Lib.hid (h.mem.later HB0.out)
  have HX0 := Lib.hid (alloc_at w (.cells #[vi l.1, vi l.2] 29))
  have hw0 : (w.alloc (.cells #[vi l.1, vi l.2] 29)).heap.size = w.heap.size + 1 := by simp
  have HMM := Lib.hid hM
  have HNN := Lib.hid hN
  have HCM := Lib.hid hcm
  have HMK := Lib.hid hmk
  have HMB := Lib.hid hmb
  have hlenI : (conW (M ++ (l, x) :: N) l).length = x.2.length := by rw [hcm]; simp
  have HLI := Lib.hid hlenI
  have hkI : (k : Int) < (x.2.length : Int) := by omega
  have hk0 : ¬ ((k : Int) < 0) := by omega
  have hpl := (Array.getElem?_eq_some_iff.1 h.mem.blk).1
  have hxs := h.mem.way (l, x) (by simp)
  obtain ⟨g, c, hxv⟩ : ∃ g c, x.1 = .slice (some ⟨g, 0, none⟩) x.2.length c := by
    rcases hxs.row.2 with ⟨_, h0⟩ | ⟨g, cap, cur, hv, _⟩
    · have h0' : x.2.length = 0 := h0
      omega
    · exact ⟨_, _, hv⟩
  have HXV := Lib.hid hxv
  have hgl : g < w.heap.size := (hxs.row.lt g (by rw [hxv]; rfl)).2
  clear h hk hkc hlen hx hM hN hcm hmk hmb hsum hlenI hxs hxv hkl
  go_enter Try.func23, Try.ntmps23
  go_upto_region 1 with fail
  generalize w.alloc (.cells #[vi l.1, vi l.2] 29) = w0 at *
  have b0 : w0.cell? ⟨w.heap.size, 0, none⟩ = some (vi l.1) := by rw [cell_of HX0.out]; rfl
  have b1 : w0.cell? ⟨w.heap.size, 1, none⟩ = some (vi l.2) := by rw [cell_of HX0.out]; rfl
  go_upto_region 3 with (go_at_call 21; refine (len_call l _ HN0.out hl).mono ?_; rw [HLI.out]; rintro e w1 ⟨rfl, hb1⟩)
  have HN1 := Lib.hid (HN0.out.later hb1)
  have HX1 := Lib.hid ((hb1.block w.heap.size (by omega)).trans HX0.out)
  have HB1 := Lib.hid (HB0.out.trans (hb1.mono HB0.out.size))
  have hw1 : w.heap.size < w1.heap.size := by have := hb1.size; omega
  clear hb1 b0 b1
  have b0 : w1.cell? ⟨w.heap.size, 0, none⟩ = some (vi l.1) := by rw [cell_of HX1.out]; rfl
  have b1 : w1.cell? ⟨w.heap.size, 1, none⟩ = some (vi l.2) := by rw [cell_of HX1.out]; rfl
  have p0 : w1.cell? ⟨p, 0, none⟩ = some (.map (some mw)) := by rw [cell_of HN1.out.blk]; rfl
  have hcw : curW (M ++ (l, x) :: N) l = x := curW_some (getM_mid HMM.out)
  have hlk : ∀ q, (Instr.lookup 53 (.map (some mw)) (lkV l) false).run Try.prog (w1.drewN q) = .ok (.slice (some ⟨g, 0, none⟩) x.2.length c) (w1.drewN q) := fun q => by
    rw [← HXV.out]
    have := lookup_way (HN1.out.ways.below (below_drewN (Below.refl w1.heap.size w1) q) HN1.out.ways.lt) hl
    rwa [hcw] at this
  have v0 : w1.cell? ⟨g, k, none⟩ = some m.1 := by
    have := World.ownsRow.cells (HN1.out.way (l, x) (by simp)).row (g := g) (by rw [HXV.out]; rfl) k m.1 (by simp [HMK.out])
    rw [addr_add] at this
    simpa using this
  go_wp2
  go_quiet (fail)
  go_upto_region 4 with fail
  have HB2 := Lib.hid (below_drewN HB1.out nq)
  have HN2 := Lib.hid (HN1.out.later (below_drewN (Below.refl w1.heap.size w1) nq))
  have HX2 := Lib.hid (show (w1.drewN nq).heap[w.heap.size]? = some (.cells #[vi l.1, vi l.2] 29) from (below_drewN (Below.refl w1.heap.size w1) nq).block _ hw1 |>.trans HX1.out)
  have hs2 : w.heap.size < (w1.drewN nq).heap.size := Nat.lt_of_lt_of_le hw1 (below_drewN (Below.refl w1.heap.size w1) nq).size
  clear b0 b1 p0 hlk v0
  generalize w1.drewN nq = w2 at *
  have b0 : w2.drew.cell? ⟨w.heap.size, 0, none⟩ = some (vi l.1) := by show w2.cell? _ = _; rw [cell_of HX2.out]; rfl
  have b1 : w2.drew.cell? ⟨w.heap.size, 1, none⟩ = some (vi l.2) := by show w2.cell? _ = _; rw [cell_of HX2.out]; rfl
  have p0 : w2.drew.cell? ⟨p, 0, none⟩ = some (.map (some mw)) := by show w2.cell? _ = _; rw [cell_of HN2.out.blk]; rfl
  have HN3 := Lib.hid (HN2.out.later ((Below.refl w2.heap.size w2).drew))
  have hlk : (Instr.lookup 53 (.map (some mw)) (lkV l) false).run Try.prog w2.drew = .ok (.slice (some ⟨g, 0, none⟩) x.2.length c) w2.drew := by
    rw [← HXV.out]
    have := lookup_way HN3.out.ways hl
    rwa [hcw] at this
  have HROW := Lib.hid (show w2.drew.ownsRow base 30 1 (.slice (some ⟨g, 0, none⟩) x.2.length c) x.2.length (x.2.map (·.1)) by rw [← HXV.out]; exact (HN3.out.way (l, x) (by simp)).row)
  have HONE := Lib.hid (row_values (HN3.out.way (l, x) (by simp)))
  have HWB := Lib.hid (World.ownsRow.lt HROW.out g rfl)
  have hwr : IntKind.i64.wrap ((k : Int) + 1) = (k : Int) + 1 := IntWalk.i64_in _ (by omega)
  go_cut [] (fun wx => NetB base p mw ma (M ++ (l, (.slice (some ⟨g, 0, none⟩) (x.2.length - 1) c, x.2.eraseIdx k)) :: N) C n lost wx ∧ OwB base wx m.1 bs ∧ wx.heap[w.heap.size]? = some (.cells #[vi l.1, vi l.2] 29) ∧ Below base w wx ∧ Stays w wx)
  case first =>
    go_region_held3 (fun w' : World => w'.cell? ⟨p, 0, none⟩ = some (.map (some mw)) ∧ w'.cell? ⟨w.heap.size, 0, none⟩ = some (vi l.1) ∧ w'.cell? ⟨w.heap.size, 1, none⟩ = some (vi l.2)) (first | exact ⟨p0, b0, b1⟩ | exact ⟨p0', b0', b1'⟩ | exact ⟨p0'', b0'', b1''⟩)
      (first | (go_at_call 30; refine (delete_call k _ HROW.out hkx HONE.out).mono ?_; rintro e w3 ⟨rfl, hrow3, hg3⟩; have HR3 := Lib.hid hrow3; have HG3 := Lib.hid hg3; have HM3 := Lib.hid (HN3.out.ways.kept hg3 (by obtain ⟨es1, c1, ho1⟩ := HN3.out.ways.obj; exact row_not HROW.out ho1 (fun cs => by simp))); have p0' := hg3.cell p0 (row_not HROW.out HN3.out.blk (fun cs => by simp)); have b0' := hg3.cell b0 (by simp; omega); have b1' := hg3.cell b1 (by simp; omega); obtain ⟨w4, hrun4, hM4, hg4⟩ := HM3.out.update (eV := fun x : Way => x.1) linkKeyed lkV_inj (t := 53) (e := 57) Try.underlying53 l HK.out ((.slice (some ⟨g, 0, none⟩) (x.2.length - 1) c, x.2.eraseIdx k) : Way); replace hrun4 : (Instr.mapUpdate 53 (.map (some mw)) (lkV l) (.slice (some ⟨g, 0, none⟩) (x.2.length - 1) c)).run Try.prog w3 = .ok () w4 := hrun4; have p0'' := hg4.cell p0' (by obtain ⟨es1, c1, ho1⟩ := HM3.out.obj; intro e; have e' : p = mw := (by simpa using e); subst e'; simp [World.cell?, ho1] at p0'); have b0'' := hg4.cell b0' (by obtain ⟨es1, c1, ho1⟩ := HM3.out.obj; intro e; have e' : w.heap.size = mw := (by simpa using e); subst e'; simp [World.cell?, ho1] at b0'); have b1'' := hg4.cell b1' (by obtain ⟨es1, c1, ho1⟩ := HM3.out.obj; intro e; have e' : w.heap.size = mw := (by simpa using e); subst e'; simp [World.cell?, ho1] at b1'); have HM4 := Lib.hid hM4; have HG4 := Lib.hid hg4; clear hrow3 hg3 hM4 hg4))
    all_goals
      go_wp2
      go_meet
      have hM5 := HM4.out
      rw [putM_split HMM.out HNN.out] at hM5
      obtain ⟨es1, c1, ho1⟩ := HM3.out.obj
      have hgo : ∃ o, w2.drew.heap[g]? = some o ∧ ∀ cs, o ≠ .cells cs 5 := by
        rcases HROW.out.2 with ⟨hv, _⟩ | ⟨g', cap, cur, hv, _, hh, _⟩
        · simp at hv
        · simp only [Value.slice.injEq, Option.some.injEq, Addr.mk.injEq, and_true, true_and] at hv
          obtain ⟨rfl, rfl⟩ := hv
          exact ⟨_, hh, fun cs => by simp⟩
      have hmsg : OwB base w2.drew m.1 bs := by rw [← HMB.out]; exact (HN3.out.way (l, x) (by simp)).msgs m (List.mem_of_getElem? HMK.out)
      have hbx3 := (HG3.out.block w.heap.size (by show w.heap.size < w2.heap.size; exact hs2) (by simp; omega)).trans (show w2.drew.heap[w.heap.size]? = _ from HX2.out)
      have HT := Lib.hid (((((Stays.refl w).later HB2.out).later ((Below.refl w2.heap.size w2).drew)).grown HG3.out (vac_row HROW.out)).grown HG4.out (vac_map ho1))
      refine ⟨HN3.out.changed (x := x) (fun q hq => (HN3.out.way (l, x) (by simp)).msgs q (List.mem_of_mem_eraseIdx hq)) (by rw [HXV.out]; exact HG3.out) ?_ (.inl (by rw [HXV.out]; rfl)) HG4.out hM5, ?_, ?_, ?_, HT.out⟩
      · have := HR3.out
        rw [← map_eraseIdx'] at this
        simpa [List.length_eraseIdx, hkx] using this
      · exact (hmsg.kept HG3.out (fun j hj => by cases hj; exact hgo)).kept HG4.out (fun j hj => by cases hj; exact ⟨_, ho1, fun cs => by simp⟩)
      · refine (HG4.out.block w.heap.size (Array.getElem?_eq_some_iff.1 hbx3).1 ?_).trans hbx3
        intro e
        have e' : w.heap.size = mw := by simpa using e
        subst e'
        rw [hbx3] at ho1; cases ho1
      · have hb2 : Below base w w2.drew := ((HB2.out.mono hbw).drew)
        have hsz : base ≤ w2.drew.heap.size := by show base ≤ w2.heap.size; omega
        exact (hb2.grown HG3.out hsz (fun j hj => by cases hj; exact HWB.out.1)).grown HG4.out (Nat.le_trans hsz HG3.out.size) (fun j hj => by cases hj; exact HN3.out.bw)
  case rest =>
    obtain ⟨w5, rfl⟩ : ∃ w5 : World, w5 = wc := ⟨_, rfl⟩
    obtain ⟨hnb, hmsg, hbx, hb5, ht5⟩ := hcut
    have HT5 := Lib.hid ht5
    have HN5 := Lib.hid hnb
    have HG5 := Lib.hid hmsg
    have HX5 := Lib.hid hbx
    have HB5 := Lib.hid hb5
    have hbl := (Array.getElem?_eq_some_iff.1 hbx).1
    clear hnb hmsg hbx hb5 ht5 p0 b0 b1 hlk
    have p0 : w5.cell? ⟨p, 0, none⟩ = some (.map (some mw)) := by rw [cell_of HN5.out.blk]; rfl
    have b0 : w5.cell? ⟨w.heap.size, 0, none⟩ = some (vi l.1) := by rw [cell_of HX5.out]; rfl
    have b1 : w5.cell? ⟨w.heap.size, 1, none⟩ = some (vi l.2) := by rw [cell_of HX5.out]; rfl
    have hlk : ∀ q, (Instr.lookup 53 (.map (some mw)) (lkV l) false).run Try.prog (w5.drewN q) = .ok (.slice (some ⟨g, 0, none⟩) (x.2.length - 1) c) (w5.drewN q) := fun q => by
      have := lookup_way (HN5.out.ways.below (below_drewN (Below.refl w5.heap.size w5) q) HN5.out.ways.lt) hl
      rwa [curW_some (getM_mid HMM.out)] at this
    by_cases h1 : x.2.length - 1 = 0
    · have hc0 : (((x.2.length - 1 : Nat) : Int) == 0) = true := by simp [h1]
      have HL1 := Lib.hid h1
      clear h1
      go_wp2
      go_quiet (fail)
      go_upto_region 6 with fail
      have HN6 := Lib.hid (HN5.out.later ((below_drewN (Below.refl w5.heap.size w5) nq).drew))
      have HG6 := Lib.hid (show OwB base (w5.drewN nq).drew m.1 bs from own_below HG5.out ((below_drewN (Below.refl w5.heap.size w5) nq).drew))
      have HB6 := Lib.hid ((below_drewN HB5.out nq).drew)
      have HT6 := Lib.hid (HT5.out.later ((below_drewN (Below.refl w5.heap.size w5) nq).drew))
      have HX6 := Lib.hid (show (w5.drewN nq).drew.heap[w.heap.size]? = some (.cells #[vi l.1, vi l.2] 29) from ((below_drewN (Below.refl w5.heap.size w5) nq).drew).block _ hbl |>.trans HX5.out)
      clear p0 b0 b1 hlk
      generalize w5.drewN nq = w6 at *
      have p0 : w6.drew.cell? ⟨p, 0, none⟩ = some (.map (some mw)) := by rw [cell_of HN6.out.blk]; rfl
      have b0 : w6.drew.cell? ⟨w.heap.size, 0, none⟩ = some (vi l.1) := by rw [cell_of HX6.out]; rfl
      have b1 : w6.drew.cell? ⟨w.heap.size, 1, none⟩ = some (vi l.2) := by rw [cell_of HX6.out]; rfl
      obtain ⟨w7, hdel, hM7, hg7, hs7⟩ := HN6.out.ways.delete linkKeyed lkV_inj (t := 53) (e := 57) Try.underlying53 l HK.out 0
      rw [delM_split HMM.out HNN.out] at hM7
      obtain ⟨es1, c1, ho1⟩ := HN6.out.ways.obj
      have HN7 := Lib.hid (HN6.out.dropped hg7 hM7)
      have HG7 := Lib.hid (HG6.out.kept hg7 (fun j hj => by cases hj; exact ⟨_, ho1, fun cs => by simp⟩))
      have HB7 := Lib.hid (HB6.out.grown hg7 (Nat.le_trans hbw HB6.out.size) (fun j hj => by cases hj; exact HN6.out.bw))
      have HT7 := Lib.hid (HT6.out.grown hg7 (vac_map ho1))
      have hl1 := HL1.out
      clear hM7 hg7 ho1
      go_still_tail 5, (by kernel_rfl)
      change wpList _ _ _ _ _ w6.drew
      go_upto_region 7 with fail
      have q2 : w7.cell? ⟨p, 2, none⟩ = some (vi n) := by rw [cell_of HN7.out.blk]; rfl
      have z2 : w7.frozen? ⟨p, 2, none⟩ = false := free_of HN7.out.blk 2
      have hn1 : 1 ≤ n := by have := HSUM.out; omega
      go_wp2_with fail
      go_ret2
      have hg9 : w7.grownBy (w7.setCell ⟨p, 2, none⟩ (vi (n - 1))) (some p) := ⟨rfl, rfl, rfl, by simp, fun k _ hk => heap_setCell_other w7 ⟨p, 2, none⟩ k _ (fun e => hk (by simp [e]))⟩
      refine ⟨m.1, rfl, HG7.out.kept hg9 (fun j hj => by cases hj; exact ⟨_, HN7.out.blk, fun cs => by simp⟩), ⟨M ++ N, ⟨HN7.out.numbers (n' := n - 1) hg9 (by rw [heap_setCell_same w7 p 2 _ _ _ HN7.out.blk]; rfl), ?_, ?_⟩, ?_, ?_⟩, HB7.out.setCell HN7.out.bp _, HT7.out.grown hg9 (vac_net HN7.out.blk)⟩
      · intro y hy
        refine HNE.out y ?_
        rw [List.mem_append] at hy ⊢
        rcases hy with hy | hy
        · exact .inl hy
        · exact .inr (List.mem_cons_of_mem _ hy)
      · have h1 := HSUM.out
        rw [sumW_append]; omega
      · rw [HCM.out, conW_gone HMM.out HNN.out]
        have : ((x.2.map (·.2)).eraseIdx k).length = 0 := by rw [List.length_eraseIdx, if_pos (by simpa using hkx)]; simp; omega
        exact (List.length_eq_zero_iff.1 this).symm
      · intro j hj
        exact (conW_side hj).symm
    · have hc0 : (((x.2.length - 1 : Nat) : Int) == 0) = false := by simp; omega
      go_wp2
      go_quiet (fail)
      go_upto_region 7 with fail
      have HN6 := Lib.hid (HN5.out.later (below_drewN (Below.refl w5.heap.size w5) nq))
      have HG6 := Lib.hid (show OwB base (w5.drewN nq) m.1 bs from own_below HG5.out (below_drewN (Below.refl w5.heap.size w5) nq))
      have HB6 := Lib.hid (below_drewN HB5.out nq)
      have HT6 := Lib.hid (HT5.out.later (below_drewN (Below.refl w5.heap.size w5) nq))
      clear p0 b0 b1 hlk
      generalize w5.drewN nq = w6 at *
      have q2 : w6.cell? ⟨p, 2, none⟩ = some (vi n) := by rw [cell_of HN6.out.blk]; rfl
      have z2 : w6.frozen? ⟨p, 2, none⟩ = false := free_of HN6.out.blk 2
      have hn1 : 1 ≤ n := by have := HSUM.out; omega
      go_wp2_with fail
      go_ret2
      have hg9 : w6.grownBy (w6.setCell ⟨p, 2, none⟩ (vi (n - 1))) (some p) := ⟨rfl, rfl, rfl, by simp, fun k _ hk => heap_setCell_other w6 ⟨p, 2, none⟩ k _ (fun e => hk (by simp [e]))⟩
      refine ⟨m.1, rfl, HG6.out.kept hg9 (fun j hj => by cases hj; exact ⟨_, HN6.out.blk, fun cs => by simp⟩), ⟨M ++ (l, ((.slice (some ⟨g, 0, none⟩) (x.2.length - 1) c, x.2.eraseIdx k) : Way)) :: N, ⟨HN6.out.numbers (n' := n - 1) hg9 (by rw [heap_setCell_same w6 p 2 _ _ _ HN6.out.blk]; rfl), ?_, ?_⟩, ?_, ?_⟩, HB6.out.setCell HN6.out.bp _, HT6.out.grown hg9 (vac_net HN6.out.blk)⟩
      · intro y hy
        rw [List.mem_append] at hy
        rcases hy with hy | hy
        · exact HNE.out y (by simp [hy])
        · rcases List.mem_cons.1 hy with rfl | hy
          · intro e
            have : (x.2.eraseIdx k).length = 0 := by rw [show x.2.eraseIdx k = [] from e]; rfl
            rw [List.length_eraseIdx, if_pos hkx] at this
            omega
          · exact HNE.out y (by simp [hy])
      · have h1 := HSUM.out
        have h2 : (x.2.eraseIdx k).length = x.2.length - 1 := by rw [List.length_eraseIdx, if_pos hkx]
        rw [sumW_append]; simp only [sumW]; omega
      · rw [HCM.out, conW_mid HMM.out]; exact map_eraseIdx' _ _ _
      · intro j hj
        rw [conW_side hj, conW_side hj]
end Go.Proofs.Ythpdenmbcjngkaa
