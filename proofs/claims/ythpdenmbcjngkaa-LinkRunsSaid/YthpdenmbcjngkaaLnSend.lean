/- (*link.Net).Send. -/
import Derived.Test.YthpdenmbcjngkaaLnStep
import Derived.Deep.RegionLaw
namespace Go.Proofs.Ythpdenmbcjngkaa
open Go.RowKit Go.Maps

theorem curW_some {L : Ways} {l : LK} {x : Way} (h : getM L l = some x) : curW L l = x := by unfold curW; rw [h]; rfl
theorem curW_none {L : Ways} {l : LK} (h : getM L l = none) : curW L l = nilW := by unfold curW; rw [h]; rfl
/-- The entry, found or laid, among the others. -/
theorem entry_split {L : Ways} {l : LK} (hp : L.Pairwise (fun p q => p.1 ≠ q.1)) : ∃ M N, putM L l (curW L l) = M ++ (l, curW L l) :: N ∧ (∀ p ∈ M, p.1 ≠ l) ∧ (∀ p ∈ N, p.1 ≠ l) ∧ (∀ p ∈ M ++ N, p ∈ L) ∧ sumW L = sumW M + sumW N + (curW L l).2.length ∧ (∀ k, k ≠ l → getM (M ++ N) k = getM L k) := by
  cases h : getM L l with
  | some x =>
    obtain ⟨M, N, rfl, hM, hN⟩ := split_key hp h
    rw [curW_some h]
    refine ⟨M, N, putM_split hM hN, hM, hN, fun p hp => by rw [List.mem_append] at hp ⊢; rcases hp with hp | hp; exact .inl hp; exact .inr (List.mem_cons_of_mem _ hp), ?_, fun k hk => ?_⟩
    · rw [sumW_append]; simp only [sumW]; omega
    · rw [getM_append, getM_append, getM_cons, if_neg (fun e => hk e.symm)]
  | none =>
    rw [curW_none h]
    refine ⟨L, [], by rw [putM_fresh h], getM_none.1 h, (fun p hp => by cases hp), fun p hp => by simpa using hp, by simp [sumW, nilW], fun k hk => by simp⟩

theorem getM_mid {ν : Type} {M N : List (LK × ν)} {l : LK} {x : ν} (hM : ∀ p ∈ M, p.1 ≠ l) : getM (M ++ (l, x) :: N) l = some x := by
  rw [getM_append, getM_none.2 hM]; simp [getM_cons]
theorem getM_side {ν : Type} {M N : List (LK × ν)} {l k : LK} {x : ν} (hk : k ≠ l) : getM (M ++ (l, x) :: N) k = getM (M ++ N) k := by
  rw [getM_append, getM_append, getM_cons, if_neg (fun e => hk e.symm)]
theorem conW_cur (L : Ways) (l : LK) : conW L l = (curW L l).2.map (·.2) := by
  unfold conW curW
  cases getM L l <;> rfl

/-- What Send leaves. -/
def SendQ (base p mw ma : Nat) (L : Ways) (C : List (LK × Bool)) (n lost : Int) (l : LK) (bs : List Int) (w : World) (e : Ending) (w' : World) : Prop :=
  e = .returned (vi 0) ∧ (∃ L', NetS base p mw ma L' C (n + 1) lost w' ∧ conW L' l = conW L l ++ [bs] ∧ ∀ k, k ≠ l → conW L' k = conW L k) ∧ Below base w w' ∧ Stays w w'

/-- The same, and where the messages come from: of the net, or laid anew. -/
def SendQ2 (base p mw ma : Nat) (L : Ways) (C : List (LK × Bool)) (n lost : Int) (l : LK) (bs : List Int) (w : World) (e : Ending) (w' : World) : Prop :=
  e = .returned (vi 0) ∧ (∃ L', NetS base p mw ma L' C (n + 1) lost w' ∧ (conW L' l = conW L l ++ [bs] ∧ ∀ k, k ≠ l → conW L' k = conW L k) ∧ ∀ x ∈ L', ∀ m ∈ x.2.2, (∃ y ∈ L, m ∈ y.2.2) ∨ (∀ g, m.1.ownBlock = some g → w.heap.size ≤ g)) ∧ Below base w w' ∧ Stays w w'
theorem curW_in {L : Ways} {l : LK} : ∀ m ∈ (curW L l).2, ∃ y ∈ L, m ∈ y.2.2 := by
  intro m hm
  unfold curW at hm
  cases hg : getM L l with
  | none => rw [hg] at hm; simp [nilW] at hm
  | some x => rw [hg] at hm; exact ⟨(l, x), getM_some hg, hm⟩

theorem RdB8.kept_map {A B : World} {v : Value} {bs : List Int} {m c : Nat} {es : Array MapEntry} (h : RdB8 A v bs) (hm : A.heap[m]? = some (.map es c)) (hg : A.grownBy B (some m)) : RdB8 B v bs := by
  obtain ⟨a, len, cap, h1, h2, h3, h4, h5, h6⟩ := h
  refine ⟨a, len, cap, h1, h2, h3, h4, h5, fun j x hj => ?_⟩
  obtain ⟨b, off, cs, ha, hl, hc, he⟩ := h6 j x hj
  refine ⟨b, off, cs, ha, hl, fun i u hu => ?_, he⟩
  have h0 := hc i u hu
  refine hg.cell h0 fun e => ?_
  have : b = m := by simpa using e
  subst this
  simp [World.cell?, hm] at h0
theorem Src.kept {A B : World} {x : Value} {size m : Nat} {news : List Value} {r : Option Nat} (h : Src A x size m news) (hg : A.grownBy B r) (hr : ∀ (ad j : Nat) (u : Value), news[j]? = some u → x.ownBlock = some ad → some ad ≠ r) : Src B x size m news := by
  obtain ⟨a, c, h1, h2, h3, h4⟩ := h
  refine ⟨a, c, h1, h2, h3, fun ad had j u hu => ?_⟩
  have h0 := h4 ad had j u hu
  refine hg.cell h0 ?_
  have hb : (ad.add j).block = ad.block := by unfold Addr.add; split <;> rfl
  rw [hb]
  exact hr ad.block j u hu (by rw [h1, had]; rfl)

theorem row_one (a : Option Addr) (n c : Nat) : ∀ u ∈ [Value.slice a n c], u.oneCell' = true := by intro u hu; simp at hu; subst hu; rfl

theorem zero_row (w : World) : (zeroValue 57).run Try.prog w = .ok (.slice none 0 0) w := by kernel_rfl

set_option maxRecDepth 100000 in
set_option maxHeartbeats 8000000 in
theorem send_fresh {base p mw ma : Nat} {L : Ways} {C : List (LK × Bool)} {n lost : Int} (l : LK) (v : Value) (bs : List Int) (w : World) (h : NetS base p mw ma L C n lost w) (hbw : base ≤ w.heap.size) (hn : n < 500) (hl : i64 l.1 ∧ i64 l.2) (hv : RdB8 w v bs) (hbs : bs.length ≤ 1048576) :
    Calls Try.prog 8 #[.pointer (some ⟨p, 0, none⟩), lkV l, v] w (SendQ2 base p mw ma L C n lost l bs w) := by
  obtain ⟨kl, hkl⟩ := linkKey hl
  have HK := Lib.hid hkl
  have HB0 := Lib.hid ((Below.refl w.heap.size w).alloc (Nat.le_refl _) (.cells #[vi l.1, vi l.2] 29))
  have HN0 := Lib.hid (h.later HB0.out)
  have HX0 := Lib.hid (alloc_at w (.cells #[vi l.1, vi l.2] 29))
  have HV0 := Lib.hid (hv.later HB0.out)
  have hw0 : (w.alloc (.cells #[vi l.1, vi l.2] 29)).heap.size = w.heap.size + 1 := by simp
  have HCNT := Lib.hid h.cnt
  have HNE := Lib.hid h.ne
  have HXIN := Lib.hid (curW_in (L := L) (l := l))
  have hlen : (curW L l).2.length ≤ 500 := by
    have := h.cnt
    unfold curW
    cases hg : getM L l with
    | none => simp [nilW]
    | some x => have := sumW_mem (getM_some hg); simp at this ⊢; omega
  obtain ⟨va, vl, vc, rfl, rfl, hvm, hvn, -⟩ := hv.at
  have hpl := (Array.getElem?_eq_some_iff.1 h.mem.blk).1
  clear h hv hkl
  go_enter Try.func8, Try.ntmps8
  go_upto_region 1 with fail
  generalize w.alloc (.cells #[vi l.1, vi l.2] 29) = w0 at *
  have q2 : w0.cell? ⟨p, 2, none⟩ = some (vi n) := by rw [cell_of HN0.out.mem.blk]; rfl
  obtain ⟨M, N, hs1, hs2, hs3, hs4, hs5, hs6⟩ := entry_split (l := l) HN0.out.mem.ways.pairwise
  have HCC := Lib.hid (conW_cur L l)
  have HMN := Lib.hid hs4
  have HSUM := Lib.hid hs5
  have HGET := Lib.hid hs6
  have HM2 := Lib.hid hs2
  have HN3' := Lib.hid hs3
  have HS1 := Lib.hid hs1
  have HCU := Lib.hid (show (getM L l).getD nilW = curW L l from rfl)
  have HENT := Lib.hid (show ∀ A B : World, NetB base p mw ma L C n lost A → A.grownBy B (some mw) → MapW B mw (M ++ (l, curW L l) :: N) → NetB base p mw ma (M ++ (l, curW L l) :: N) C n lost B from fun A B h1 h2 h3 => by rw [← hs1] at h3 ⊢; exact h1.entry h2 h3)
  clear hs1 hs2 hs3 hs4 hs5 hs6
  generalize curW L l = x at *
  go_upto_region 6 with fail
  go_cut [] (fun wx => ∃ v5 v2, NetB base p mw ma (M ++ (l, (v5, x.2 ++ [(v2, bs)])) :: N) C n lost wx ∧ Below base w wx ∧ Stays w wx ∧ (∀ g, v2.ownBlock = some g → w.heap.size ≤ g))
  case first =>
    have HW := Lib.hid ((HB0.out.mono hbw).trans ((Below.refl base w0).drew.mono (Nat.le_refl _)))
    have HN := Lib.hid (HN0.out.mem.later ((Below.refl w0.heap.size w0).drew))
    have HT := Lib.hid (((Stays.refl w).later HB0.out).later ((Below.refl w0.heap.size w0).drew))
    have HV := Lib.hid (HV0.out.later ((Below.refl w0.heap.size w0).drew))
    have p0 : w0.drew.cell? ⟨p, 0, none⟩ = some (.map (some mw)) := by rw [cell_of HN.out.blk]; rfl
    have b0 : w0.drew.cell? ⟨w.heap.size, 0, none⟩ = some (vi l.1) := by show w0.cell? _ = _; rw [cell_of HX0.out]; rfl
    have b1 : w0.drew.cell? ⟨w.heap.size, 1, none⟩ = some (vi l.2) := by show w0.cell? _ = _; rw [cell_of HX0.out]; rfl
    have hs0 : base ≤ w0.heap.size := by omega
    have hbwB := HN.out.bw
    go_region_law (first
      | (go_simp; go_at_call 22; refine (clone_call _ bs _ HV.out hbs).mono ?_; rintro e w2 ⟨v2, rfl, ho2, hb2⟩; have hr2 := ho2.rd; obtain ⟨a2, len2, cap2, rfl, rfl, hm2, hn2, -⟩ := hr2.at; have HFR := Lib.hid (fun (g : Nat) (hg : (Value.slice a2 bs.length cap2).ownBlock = some g) => Nat.le_trans (show w.heap.size ≤ w0.heap.size by omega) (World.ownsRow.lt ho2 g hg).1); have HO := Lib.hid (show OwB base (w2.alloc (.cells #[.slice a2 bs.length cap2] 30)) (.slice a2 bs.length cap2) bs from World.ownsRow.alloc (own_mono ho2 hs0) _); have hs2 : w0.heap.size ≤ w2.heap.size := hb2.size; have hpb : p < w2.heap.size := (by omega); have hbb : w.heap.size < w2.heap.size := (by omega); have p0' := cell_later hb2 p0; have b0' := cell_later hb2 b0; have b1' := cell_later hb2 b1; have HW2 := Lib.hid ((HW.out.trans (hb2.mono hs0)).alloc (by omega) (.cells #[.slice a2 bs.length cap2] 30)); have HT2 := Lib.hid ((HT.out.later hb2).later ((Below.refl w2.heap.size w2).alloc (Nat.le_refl _) (.cells #[.slice a2 bs.length cap2] 30))); have HN2 := Lib.hid ((HN.out.later hb2).more (.cells #[.slice a2 bs.length cap2] 30)); obtain ⟨w3, st, hrun, hE, hg3, hsz3⟩ := HN2.out.ways.mapEntry linkKeyed lkV_inj (t := 53) (e := 57) Try.underlying53 l HK.out nilW (zero_row _); rw [HCU.out] at hrun hE; rw [HS1.out] at hE; replace hrun : (Instr.mapEntry 53 (.map (some mw)) (lkV l)).run Try.prog (w2.alloc (.cells #[.slice a2 bs.length cap2] 30)) = .ok (.tuple #[x.1, .int .i64 (st : Nat)]) w3 := hrun; obtain ⟨es1, c1, ho1⟩ := HN2.out.ways.obj; have HE := Lib.hid hE; have hs3 : w0.heap.size ≤ w3.heap.size := (by have h' := hsz3; simp at h'; omega); have HSRC := Lib.hid (Src.kept (src_new (w := w2) (T := 30) (cs := #[.slice a2 bs.length cap2]) rfl rfl) hg3 (fun ad j u hu had e => by cases e; have := (HN.out.later hb2).ways.lt; simp [Value.ownBlock] at had; omega)); have HT3 := Lib.hid (HT2.out.grown hg3 (vac_map ho1)); have HO3 := Lib.hid (HO.out.kept hg3 (fun j hj => by cases hj; exact ⟨_, ho1, fun cs => by simp⟩)); have HW3 := Lib.hid (HW2.out.grown hg3 (by simp; omega) (fun j hj => by cases hj; exact hbwB)); have HN3 := Lib.hid (HENT.out _ _ HN2.out hg3 hE.map); clear ho2 hb2 hr2 hE hg3)
      | (refine step_append_at rfl _ _ 57 rfl eltRow base x.2.length (x.2.map (·.1)) (HN3.out.way (l, x) (by simp)).row rfl 1 [.slice a2 bs.length cap2] HSRC.out rfl (row_one _ _ _) (by omega) (by omega) (by omega) ?_; intro v5 w5 hr5 hg5 hat5; have HE5 := Lib.hid (HE.out.frame (hg5.block mw HE.out.map.lt (by obtain ⟨es1, c1, ho1⟩ := HN3.out.ways.obj; exact row_not (HN3.out.way (l, x) (by simp)).row ho1 (fun cs => by simp)))); have HW5 := Lib.hid (HW3.out.grown hg5 (by omega) (fun j hj => ((HN3.out.way (l, x) (by simp)).row.lt j hj).1)); have hs5 : w0.heap.size ≤ w5.heap.size := Nat.le_trans hs3 hg5.size; obtain ⟨w6, hrun6, hM6, hg6, hsz6⟩ := HE5.out.store (t := 53) lkV_inj ((v5, x.2 ++ [(.slice a2 bs.length cap2, bs)]) : Way) (by rw [getM_mid HM2.out]; rfl); replace hrun6 : (Instr.entryStore 53 (.map (some mw)) (.int .i64 (st : Nat)) v5).run Try.prog w5 = .ok () w6 := hrun6; rw [putM_split HM2.out HN3'.out] at hM6; have HT5 := Lib.hid (HT3.out.grown hg5 (vac_row (HN3.out.way (l, x) (by simp)).row)); have HT6 := Lib.hid (HT5.out.grown hg6 (by obtain ⟨es1, c1, ho1⟩ := HE5.out.map.obj; exact vac_map ho1)); have HFIN := Lib.hid (HN3.out.sent HO3.out hg5 hr5 hat5 hg6 hM6); have HW6 := Lib.hid (HW5.out.grown hg6 (by omega) (fun j hj => by cases hj; exact hbwB)); clear hr5 hg5 hat5 hM6 hg6))
    all_goals
      go_wp2
      go_meet
      exact ⟨_, _, HFIN.out, HW6.out, HT6.out, HFR.out⟩
  case rest =>
    obtain ⟨wx, rfl⟩ : ∃ wx : World, wx = wc := ⟨_, rfl⟩
    obtain ⟨v5, v2, hnb, hw, ht, hfr⟩ := hcut
    have HFR := Lib.hid hfr
    have HT := Lib.hid ht
    have HNB := Lib.hid hnb
    have HW := Lib.hid hw
    have q2 : wx.cell? ⟨p, 2, none⟩ = some (vi n) := by rw [cell_of hnb.blk]; rfl
    have z2 : wx.frozen? ⟨p, 2, none⟩ = false := free_of hnb.blk 2
    have hbp := hnb.bp
    have hn0 : 0 ≤ n := by have := HCNT.out; omega
    have hpx := (Array.getElem?_eq_some_iff.1 hnb.blk).1
    clear hnb hw ht hfr
    go_wp2_with fail
    go_ret
    have hg9 : wx.grownBy (wx.setCell ⟨p, 2, none⟩ (vi (n + 1))) (some p) := ⟨rfl, rfl, rfl, by simp, fun k _ hk => heap_setCell_other wx ⟨p, 2, none⟩ k _ (fun e => hk (by simp [e]))⟩
    refine ⟨rfl, ⟨_, ⟨HNB.out.numbers (n' := n + 1) hg9 ?_, ?_, ?_⟩, ⟨?_, ?_⟩, ?_⟩, ?_, HT.out.grown hg9 (vac_net HNB.out.blk)⟩
    · rw [heap_setCell_same wx p 2 _ _ _ HNB.out.blk]; rfl
    · intro y hy
      rw [List.mem_append] at hy
      rcases hy with hy | hy
      · exact HNE.out y (HMN.out y (by simp [hy]))
      · rcases List.mem_cons.1 hy with rfl | hy
        · simp
        · exact HNE.out y (HMN.out y (by simp [hy]))
    · have h1 := HCNT.out
      have h2 := HSUM.out
      rw [sumW_append]; simp only [sumW, List.length_append, List.length_singleton]; omega
    · rw [HCC.out]; unfold conW; rw [getM_mid HM2.out]; simp
    · intro k hk
      unfold conW
      rw [getM_side hk, HGET.out k hk]
    · intro y hy m hm
      rw [List.mem_append] at hy
      rcases hy with hy | hy
      · exact .inl ⟨y, HMN.out y (by simp [hy]), hm⟩
      · rcases List.mem_cons.1 hy with rfl | hy
        · rcases List.mem_append.1 hm with hm | hm
          · exact .inl (HXIN.out m hm)
          · rw [List.mem_singleton] at hm; subst hm; exact .inr HFR.out
        · exact .inl ⟨y, HMN.out y (by simp [hy]), hm⟩
    · exact HW.out.setCell hbp _

theorem send_call {base p mw ma : Nat} {L : Ways} {C : List (LK × Bool)} {n lost : Int} (l : LK) (v : Value) (bs : List Int) (w : World) (h : NetS base p mw ma L C n lost w) (hbw : base ≤ w.heap.size) (hn : n < 500) (hl : i64 l.1 ∧ i64 l.2) (hv : RdB8 w v bs) (hbs : bs.length ≤ 1048576) :
    Calls Try.prog 8 #[.pointer (some ⟨p, 0, none⟩), lkV l, v] w (SendQ base p mw ma L C n lost l bs w) :=
  (send_fresh l v bs w h hbw hn hl hv hbs).mono fun _ _ ⟨h1, ⟨L', h2, h3, _⟩, h4⟩ => ⟨h1, ⟨L', h2, h3⟩, h4⟩
end Go.Proofs.Ythpdenmbcjngkaa
