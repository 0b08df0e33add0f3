/- Texts of one proof, one behind the other: DpIs, DpSrc, DpHas, DpLiftW, DpCmp, DpLay. -/
import Derived.Shelf.SlSortCmp.KitK
import Derived.Sort.OwnSorted
import Derived.Shelf.SlGeneric
import Derived.Shelf.SlLaysF0
import Derived.Test.YtnacoplokjdglaaGreatProg
import Derived.Test.YtnacoplokjdglaaGreatKp1
import Derived.Test.YtnacoplokjdglaaGreatKp2
import Derived.Test.YtnacoplokjdglaaGreatKp3
import Derived.Test.YtnacoplokjdglaaGreatKp4
import Derived.Test.YtnacoplokjdglaaGreatKp5
import Derived.Test.YtnacoplokjdglaaGreatKp8
set_option linter.all false
namespace Go.Proofs.YtnacoplokjdglaaGreat
open Go.RowKit Go.Maps
/-- A look into a nil map. -/
theorem lookup_nilM {P : Program} {k e t : TypeId} (hK : Keyed P k) (ht : P.underlying t = some (.map k e)) {x : Value} {kl : Lit} (hx : keyOf P k x = some kl) {w : World} {z : Value} (hz : (zeroValue e).run P w = .ok z w) :
    (Instr.lookup t (.map none) x true).run P w = .ok (.tuple #[z, .bool false]) w ∧ (Instr.lookup t (.map none) x false).run P w = .ok z w := by
  have hf : (Instr.findKey k x []).run P w = .ok none w := by
    rcases hK.find w hx [] (fun y hy => by cases hy) with ⟨h, _⟩ | ⟨j, e0, _, h, _⟩
    · exact h
    · simp at h
  constructor <;> simp [Instr.lookup, run_underlying ht, hK.check w _ hx, hz, hf, Result.andThen]
/-- A value of type chains.Facts, and what it holds. -/
def FaV (w : World) (v : Value) (L : FaL) : Prop := (v = .map none ∧ L = []) ∨ ∃ m, v = .map (some m) ∧ MapF w m L
theorem FaV.later {w w' : World} {v : Value} {L : FaL} (h : FaV w v L) (hb : Below w.heap.size w w') : FaV w' v L := by
  rcases h with h | ⟨m, hv, hm⟩
  · exact .inl h
  · exact .inr ⟨m, hv, hm.below hb hm.lt⟩
theorem FaV.of {w : World} {m : Nat} {L : FaL} (h : MapF w m L) : FaV w (.map (some m)) L := .inr ⟨m, rfl, h⟩
theorem FaV.look {w : World} {v : Value} {L : FaL} (h : FaV w v L) {c : GChoice} (hc : SmallCh c) :
    (Instr.lookup 87 v (chK c) true).run Tryz.prog w = .ok (.tuple #[.bool ((getM L c).getD false), .bool (getM L c).isSome]) w ∧ (Instr.lookup 87 v (chK c) false).run Tryz.prog w = .ok (.bool ((getM L c).getD false)) w := by
  rcases h with ⟨rfl, rfl⟩ | ⟨m, rfl, hm⟩
  · obtain ⟨kl, hkl⟩ := choiceKey hc
    have h := lookup_nilM (t := 87) (e := 4) choiceKeyed Tryz.underlying87 hkl (zero_bool w)
    rw [getM_nil]
    exact h
  · exact lookup_fact hm hc

set_option maxRecDepth 100000 in
set_option maxHeartbeats 4000000 in
theorem is_callV (v : Value) (ts : List GTxn) (sv : Value) (mv : Value) (L : FaL) (i : Nat) (w : World) (hv : RdTxns w v ts) (hok : OkTxns ts) (htl : ts.length ≤ 4096) (hs : OwBs 0 w sv (sureM ts)) (hm : FaV w mv L) (hi : i < ts.length) :
    Calls Tryz.prog 64 #[v, sv, mv, .int .i64 i] w fun e w' => e = .returned (.tuple #[.bool (isM ts L i).1, .bool (isM ts L i).2]) ∧ Below w.heap.size w w' := by
  have HV := Lib.hid hv
  have HOK := Lib.hid hok
  have HM := Lib.hid hm
  have HS := Lib.hid hs
  obtain ⟨a, len, cap, rfl, rfl, hmm, hcl⟩ := hv.at
  obtain ⟨t, ht⟩ := some_at hi
  obtain ⟨b, off, oa, oc, rfl, hr, k0, k1, k2⟩ := hcl i t ht
  obtain ⟨sa, sc, rfl, hsc⟩ := OwBs.at hs
  have hsl := sureM_length ts
  obtain ⟨x, hx⟩ := some_at (l := sureM ts) (k := i) (by rw [hsl]; exact hi)
  obtain ⟨sb, so, rfl, x0⟩ := hsc i x hx
  rw [hsl]
  have HR := Lib.hid hr
  have HX := Lib.hid hx
  have HD := Lib.hid (deadB_at ht)
  have hok2 := (HOK.out.2 t (List.mem_of_getElem? ht)).2
  have hiI : (i : Int) < (ts.length : Int) := by omega
  clear hv hok hs hm hcl hsc hr hx ht hsl
  go_enter Tryz.func64, Tryz.ntmps64
  cases x with
  | true =>
    have he := Lib.hid (isM_sure (L := L) HX.out)
    go_wp2_with fail
    go_ret2
    exact ⟨by rw [he.out]; rfl, Below.refl _ _⟩
  | false =>
    go_upto_region 3 with fail
    go_cut [17] (fun r wx => r = .bool (deadB ts i) ∧ Below w.heap.size w wx)
    case first =>
      by_cases hs2 : t.state = 2
      · have h2 := beq_t hs2
        rw [h2] at HD
        clear hs2
        go_wp2_with fail
        go_meet
        exact ⟨by rw [HD.out]; rfl, Below.refl _ _⟩
      · have h2 := beq_f hs2
        rw [h2] at HD
        clear hs2
        go_wp2_with (go_at_call 71; refine (writes_call t.client t.state _ t.ops _ HR.out hok2).mono ?_; rintro e w2 ⟨v2, rfl, ho2, hb2⟩; have hr2 := ho2.rd; obtain ⟨a2, len2, cap2, rfl, rfl, hm2, -⟩ := hr2.at)
        go_meet
        exact ⟨by rw [HD.out]; first | rfl | simp, hb2⟩
    case rest =>
      obtain ⟨wx, rfl⟩ : ∃ wx : World, wx = wc := ⟨_, rfl⟩
      obtain ⟨rfl, hb⟩ := hcut
      have HB := Lib.hid hb
      cases hd : deadB ts i with
      | true =>
        have he := Lib.hid (isM_dead (L := L) HX.out hd)
        clear hd
        go_wp2_with fail
        go_ret2
        exact ⟨by rw [he.out]; rfl, HB.out⟩
      | false =>
        have he := Lib.hid (isM_fact (L := L) HX.out hd)
        have hl := ((HM.out.later hb).look (small_commit (i := i) (by omega))).1
        clear hd hb
        go_wp2_with fail
        go_ret2
        exact ⟨by rw [he.out]; rfl, HB.out⟩

set_option maxRecDepth 100000 in
set_option maxHeartbeats 4000000 in
theorem Is_callV (v : Value) (ts : List GTxn) (mv : Value) (L : FaL) (i : Nat) (w : World) (hv : RdTxns w v ts) (hok : OkTxns ts) (htl : ts.length ≤ 4096) (hm : FaV w mv L) (hi : i < ts.length) :
    Calls Tryz.prog 41 #[v, mv, .int .i64 i] w fun e w' => e = .returned (.tuple #[.bool (isM ts L i).1, .bool (isM ts L i).2]) ∧ Below w.heap.size w w' := by
  have HV := Lib.hid hv
  have HOK := Lib.hid hok
  have HM := Lib.hid hm
  have hsl := sureM_length ts
  clear hv hok hm
  go_enter Tryz.func41, Tryz.ntmps41
  go_wp2_with (first
    | (go_at_call 65; refine (sure_call _ _ _ HV.out HOK.out).mono ?_; rintro e w1 ⟨sb, rfl, hsb, hS, hb1⟩; have HB1 := Lib.hid hb1; have HS := Lib.hid (hS.own (by omega)); rw [hsl] at HS; have HV1 := Lib.hid (HV.out.later hb1); have HM1 := Lib.hid (HM.out.later hb1); clear hb1 hS)
    | (go_at_call 64; refine (is_callV _ ts _ mv L i _ HV1.out HOK.out htl HS.out HM1.out hi).mono ?_; rintro e w2 ⟨rfl, hb2⟩))
  go_ret2
  exact ⟨by rfl, HB1.out.trans (hb2.mono HB1.out.size)⟩

end Go.Proofs.YtnacoplokjdglaaGreat

namespace Go.Proofs.YtnacoplokjdglaaGreat
open Go.RowKit Go.Maps
set_option maxRecDepth 100000 in
set_option maxHeartbeats 2000000 in
theorem source_call (v : Value) (ts : List GTxn) (key val : Int) (w : World) (hv : RdTxns w v ts) (hok : OkTxns ts) (hk : i64 key) (hl : i64 val) :
    Calls Tryz.prog 98 #[v, vi key, vi val] w fun e w' => e = .returned (.tuple #[vi (srcM ts key val).1, .bool (srcM ts key val).2]) ∧ Below w.heap.size w w' := by
  obtain ⟨kl, hkl⟩ := placeKey hk hl
  have HK := Lib.hid hkl
  clear hkl hk hl
  by_cases h0 : val = 0
  · subst h0
    have he : srcM ts key 0 = (-1, true) := by unfold srcM; rw [if_pos rfl]
    rw [he]
    clear he
    go_enter Tryz.func98, Tryz.ntmps98
    go_wp2_with fail
    go_ret2
    exact ⟨rfl, Below.refl _ _⟩
  · have h0' : (val == 0) = false := by simp [h0]
    have HN := Lib.hid h0
    clear h0
    go_enter Tryz.func98, Tryz.ntmps98
    go_upto_region 4 with (go_at_call 60; refine (writers_call v ts w hv hok).mono ?_; rintro e w1 ⟨rfl, hM, -, hb⟩; have HM := Lib.hid hM; have HB := Lib.hid hb; clear hM hb)
    have hlk := (HM.out.lookup placeKeyed vp_inj (t := 122) (e := 3) Tryz.underlying122 (key, val) HK.out (zeroI w1)).2
    cases hg : getM (byN ts ts.length) (key, val) with
    | none =>
      rw [hg] at hlk
      have he := Lib.hid (show srcM ts key val = (0, false) from by unfold srcM; rw [if_neg HN.out, hg])
      simp only [Option.map_none, Option.getD_none, Option.isSome_none] at hlk
      clear hg
      go_wp2_with fail
      go_ret2
      exact ⟨by rw [he.out]; rfl, HB.out⟩
    | some i =>
      rw [hg] at hlk
      have he := Lib.hid (show srcM ts key val = (i, true) from by unfold srcM; rw [if_neg HN.out, hg])
      simp only [Option.map_some, Option.getD_some, Option.isSome_some] at hlk
      clear hg
      go_wp2_with fail
      go_ret2
      exact ⟨by rw [he.out]; rfl, HB.out⟩

def edV (e : GEdge) : List Value := [vi e.f, vi e.t, vi e.k]
theorem Tryz.infoEdge : (Tryz.prog.info? 113).map (fun i => (i.zero, i.size, i.bytes)) = some (some (.agg #[vi 0, vi 0, vi 0]), 3, 24) := by kernel_rfl
theorem eltEdge : Elt Tryz.prog 65 113 3 24 (.agg #[vi 0, vi 0, vi 0]) := by
  obtain ⟨i0, hi, hz0, hz1, hz2⟩ := info_parts Tryz.infoEdge
  exact ⟨Tryz.underlying65, by decide, rfl, i0, hi, hz0, hz1, hz2⟩
def OwE (base : Nat) (w : World) (v : Value) (l : List GEdge) : Prop := w.ownsRow base 113 3 v l.length (l.flatMap edV)
theorem OwE.rd {base : Nat} {w : World} {v : Value} {l : List GEdge} (h : OwE base w v l) : RdEdges w v l := by
  have h1 : RdS 3 (fun _ cs x => cs = edV x) w v l := rds_of_own (V := edV) (fun _ => rfl) h
  exact h1
theorem edV_one (e : GEdge) : ∀ u ∈ edV e, u.oneCell' = true := by
  intro u hu; simp [edV] at hu; rcases hu with rfl | rfl | rfl <;> rfl
/-- The box of the edges and their row. -/
structure EdI (N b0 : Nat) (E : List GEdge) (w : World) : Prop where
  box : ∃ v, w.heap[b0]? = some (.cells #[v] 65) ∧ OwE N w v E
  own : N ≤ b0
/-- What an edge more leaves: all but the box, and blocks of edges. -/
structure EdT (N b0 : Nat) (w w' : World) : Prop where
  below : Below N w w'
  keep : ∀ j o, w.heap[j]? = some o → j ≠ b0 → (∀ cur fr, o ≠ .cells cur 113 fr) → w'.heap[j]? = some o
theorem EdT.refl (N b0 : Nat) (w : World) : EdT N b0 w w := ⟨Below.refl _ _, fun _ _ h _ _ => h⟩
theorem EdI.later {N b0 : Nat} {E : List GEdge} {a b : World} (h : EdI N b0 E a) (hb : Below a.heap.size a b) : EdI N b0 E b := by
  obtain ⟨v, h1, h2⟩ := h.box
  exact ⟨⟨v, (hb.block b0 (Array.getElem?_eq_some_iff.1 h1).1).trans h1, own_below h2 hb⟩, h.own⟩
theorem EdT.row {N b0 N' e k n : Nat} {a b : World} {v : Value} {xs : List Value} (h : EdT N b0 a b) (ho : a.ownsRow N' e k v n xs) (he : e ≠ 113) (hb : ∀ g, v.ownBlock = some g → g ≠ b0) : b.ownsRow N' e k v n xs := by
  refine ⟨ho.1, ?_⟩
  rcases ho.2 with h1 | ⟨g, cap, cur, h1, h2, h3, h4⟩
  · exact .inl h1
  · exact .inr ⟨g, cap, cur, h1, h2, h.keep g _ h3 (hb g (by rw [h1]; rfl)) (fun cur fr hc => by cases hc; exact he rfl), h4⟩

theorem OwE.ne {N b0 : Nat} {w : World} {v : Value} {xs : List Value} {n : Nat} {cs : Array Value} (ho : w.ownsRow N 113 3 v n xs) (hb : w.heap[b0]? = some (.cells cs 65)) : ∀ g, v.ownBlock = some g → g ≠ b0 := by
  intro g hg e
  subst e
  rcases ho.2 with ⟨h1, _⟩ | ⟨g', cap, cur, h1, _, hh, _⟩
  · rw [h1] at hg; cases hg
  · rw [h1] at hg
    cases hg
    rw [hb] at hh
    cases hh
theorem EdI.push {N b0 : Nat} {E : List GEdge} {e : GEdge} {w w1 : World} {v v1 : Value} {o : Obj} (hN0 : N ≤ b0) (hN : N ≤ w.heap.size) (hb : w.heap[b0]? = some (.cells #[v] 65)) (ho : OwE N w v E)
    (hg : (w.alloc o).grownBy w1 v.ownBlock) (ho1 : w1.ownsRow N 113 3 v1 (E.length + 1) (E.flatMap edV ++ edV e)) :
    EdI N b0 (E ++ [e]) (w1.setCell ⟨b0, 0, none⟩ v1) ∧ EdT N b0 w (w1.setCell ⟨b0, 0, none⟩ v1) := by
  have hbl := (Array.getElem?_eq_some_iff.1 hb).1
  have hvb := OwE.ne ho hb
  have hb0 : (w.alloc o).heap[b0]? = some (.cells #[v] 65) := (Below.heap_alloc w o b0 hbl).trans hb
  have hb1 : w1.heap[b0]? = some (.cells #[v] 65) := (hg.block b0 (by simp; omega) (fun e => hvb b0 e.symm rfl)).trans hb0
  have hv1 := OwE.ne ho1 hb1
  have hgs : w1.grownBy (w1.setCell ⟨b0, 0, none⟩ v1) (some b0) := ⟨rfl, rfl, rfl, by simp [World.setCell], fun j _ hj => Below.heap_setCell _ _ _ j (fun e => hj (by rw [e]))⟩
  refine ⟨⟨⟨v1, by simp [World.setCell, Array.getElem?_modify, hb1], ?_⟩, hN0⟩, ?_, ?_⟩
  · have := ho1.kept hgs (by
      cases hv : v1.ownBlock with
      | none => exact .inl rfl
      | some g => exact .inr (fun e => hv1 g hv (Option.some.inj e)))
    unfold OwE
    simpa using this
  · have h1 := ((Below.refl N w).alloc hN o).grown hg (by simp; omega) (fun j hj => (World.ownsRow.lt ho j hj).1)
    exact h1.grown hgs (by have := h1.size; omega) (fun j hj => by cases hj; exact hN0)
  · intro j o' hj hn hno
    have hjl := (Array.getElem?_eq_some_iff.1 hj).1
    have h0 : (w.alloc o).heap[j]? = some o' := (Below.heap_alloc w o j hjl).trans hj
    have h1 : w1.heap[j]? = some o' := (hg.block j (by simp; omega) (fun e => by
      rcases ho.2 with ⟨h1, _⟩ | ⟨g', cap, cur, h1, _, hh, _⟩
      · rw [h1] at e; cases e
      · rw [h1] at e
        cases e
        rw [hj] at hh
        exact hno cur _ (Option.some.inj hh))).trans h0
    exact (hgs.block j (Array.getElem?_eq_some_iff.1 h1).1 (fun e => hn (Option.some.inj e))).trans h1

set_option maxRecDepth 100000 in
set_option maxHeartbeats 2000000 in
theorem add_call (f t k : Int) (N b0 : Nat) (E : List GEdge) (w : World) (h : EdI N b0 E w) (hN : N ≤ w.heap.size) (hl : E.length + 1 ≤ 68719476736) :
    Calls Tryz.prog 97 #[vi f, vi t, vi k, .pointer (some ⟨b0, 0, none⟩)] w fun e w' => e = .returned (.tuple #[]) ∧ EdI N b0 (E ++ addE f t k) w' ∧ EdT N b0 w w' := by
  obtain ⟨⟨v, hb, ho⟩, hN0⟩ := h
  have hbl := (Array.getElem?_eq_some_iff.1 hb).1
  by_cases hft : f = t
  · have h1 : (f != t) = false := by simp [hft]
    have HE := Lib.hid (show E ++ addE f t k = E from by unfold addE; rw [if_pos hft, List.append_nil])
    have HR := Lib.hid (show EdI N b0 E w from ⟨⟨v, hb, ho⟩, hN0⟩)
    clear hft hb ho
    go_enter Tryz.func97, Tryz.ntmps97
    go_wp2_with fail
    go_end0
    exact ⟨rfl, by rw [HE.out]; exact HR.out, EdT.refl _ _ _⟩
  · have h1 : (f != t) = true := by simp [hft]
    have HE := Lib.hid (show E ++ addE f t k = E ++ [⟨f, t, k⟩] from by unfold addE; rw [if_neg hft])
    have c0 : w.cell? ⟨b0, 0, none⟩ = some v := by rw [cell_of hb]; rfl
    have HO := Lib.hid ho
    have HB := Lib.hid hb
    have hvb : ∀ g, v.ownBlock = some g → g ≠ b0 := by
      intro g hg e
      subst e
      rcases ho.2 with ⟨h1, _⟩ | ⟨g', cap, cur, h1, _, hh, _⟩
      · rw [h1] at hg; cases hg
      · rw [h1] at hg
        cases hg
        rw [hb] at hh
        cases hh
    have HVB := Lib.hid hvb
    clear hft hb ho hvb
    go_enter Tryz.func97, Tryz.ntmps97
    go_wp2_with (at_builtin; refine wpList_append_src rfl _ _ 65 rfl eltEdge N E.length _ (HO.out.alloc _) rfl 1 (edV ⟨f, t, k⟩) (src_new (cs := #[vi f, vi t, vi k]) rfl rfl) rfl (edV_one _) hl (by omega) (by simp; omega) ?_; intro v1 w1 ho1 hg1 _; obtain ⟨a1, c1, rfl⟩ := Gr.own_shape ho1; have HO1 := Lib.hid ho1; have HG1 := Lib.hid hg1; have HX := Lib.hid ((hg1.block b0 (by simp; omega) (fun e => HVB.out b0 e.symm rfl)).trans ((Below.heap_alloc w _ b0 hbl).trans HB.out)); have x0 : w1.cell? ⟨b0, 0, none⟩ = some v := (by rw [cell_of HX.out]; rfl); have f0 : w1.frozen? ⟨b0, 0, none⟩ = false := (by simp [World.frozen?, HX.out]); clear ho1 hg1)
    go_end0
    have := EdI.push hN0 hN HB.out HO.out HG1.out HO1.out
    exact ⟨rfl, by rw [HE.out]; exact this.1, this.2⟩
end Go.Proofs.YtnacoplokjdglaaGreat

namespace Go.Proofs.YtnacoplokjdglaaGreat
open Go.RowKit Go.Maps

def idxW (key : Int) (l : List GOp) : Int := match l.findIdx? (wkB key) with | some i => (i : Int) | none => -1
theorem idxW_any (key : Int) (l : List GOp) : decide (0 ≤ idxW key l) = l.any (wkB key) := by
  unfold idxW
  cases h : l.findIdx? (wkB key) with
  | none =>
    rw [List.findIdx?_eq_none_iff] at h
    simp only [show ¬ ((0 : Int) ≤ -1) from by decide, decide_false]
    symm; rw [List.any_eq_false]; exact fun x hx => by simp [h x hx]
  | some i =>
    have hs : (l.findIdx? (wkB key)).isSome = true := by rw [h]; rfl
    rw [List.findIdx?_isSome] at hs
    rw [hs]; simp

set_option maxRecDepth 100000 in
theorem hitW_call (o : GOp) (c : GChoice) (kb : Nat) (w : World) (hk : w.cell? ⟨kb, 1, none⟩ = some (vi c.key)) :
    Calls Tryz.prog 120 #[.agg #[vi o.kind, vi o.key, vi o.val], .pointer (some ⟨kb, 0, none⟩)] w fun e w' => e = .returned (.bool (wkB c.key o)) ∧ Below w.heap.size w w' := by
  have hk' := fun o' => cell_later ((Below.refl w.heap.size w).alloc (Nat.le_refl _) o') hk
  by_cases h2 : o.kind = 2
  · have h2' : (o.kind == 2) = true := by simp [h2]
    have hr : wkB c.key o = (o.key == c.key) := by simp [wkB, h2]
    clear h2
    go_enter Tryz.func120, Tryz.ntmps120
    go_wp2_with fail
    go_ret
    exact ⟨by rw [hr]; rfl, (Below.refl _ _).alloc (Nat.le_refl _) _⟩
  · have h2' : (o.kind == 2) = false := by simp [h2]
    have hr : wkB c.key o = false := by simp [wkB, h2]
    clear h2
    go_enter Tryz.func120, Tryz.ntmps120
    go_wp2_with fail
    go_ret
    exact ⟨by rw [hr]; rfl, (Below.refl _ _).alloc (Nat.le_refl _) _⟩

set_option maxRecDepth 100000 in
set_option maxHeartbeats 1000000 in
theorem indexW_call (v : Value) (l : List GOp) (c : GChoice) (kb : Nat) (w : World) (hv : RdOps w v l) (hk : w.cell? ⟨kb, 1, none⟩ = some (vi c.key)) :
    Calls Tryz.prog 104 #[v, .func (.func 120) #[] #[.pointer (some ⟨kb, 0, none⟩)]] w fun e w' => e = .returned (.int .i64 (idxW c.key l)) ∧ Below w.heap.size w w' := by
  have HV := Lib.hid hv
  have HK := Lib.hid hk
  obtain ⟨a, len, cap, rfl, rfl, hm, -⟩ := hv.at
  clear hv hk
  go_enter Tryz.func104, Tryz.ntmps104
  go_wp2_with fail
  go_loopw [5, 8] (fun _ i wr => ∃ k : Nat, k ≤ l.length ∧ i = .int .i64 k ∧ (∀ j o, j < k → l[j]? = some o → wkB c.key o = false) ∧ Below w.heap.size w wr) (fun _ i _ => l.length - (intOf i).toNat)
  case atStart => exact ⟨0, Nat.zero_le _, rfl, fun j o hj => absurd hj (Nat.not_lt_zero _), Below.refl _ _⟩
  case round =>
    obtain ⟨k, hk, rfl, hno, hb⟩ := hrel
    have HB := Lib.hid hb
    have HN := Lib.hid hno
    clear hb hno
    by_cases hlt : k < l.length
    · obtain ⟨o, ho⟩ := some_at hlt
      obtain ⟨_, _, _, e5, -, -, hcl⟩ := HV.out.at
      cases e5
      obtain ⟨b, off, rfl, k0', k1', k2'⟩ := hcl k o ho
      have k0 := cell_later HB.out k0'
      have k1 := cell_later HB.out k1'
      have k2 := cell_later HB.out k2'
      have HO := Lib.hid ho
      clear hcl ho k0' k1' k2'
      cases hh : wkB c.key o with
      | true =>
        have HH := Lib.hid hh
        clear hh
        go_wp2_with (go_at_call 120; refine (hitW_call o c kb _ (cell_later HB.out HK.out)).mono ?_; rintro e w1 ⟨rfl, hb1⟩; rw [HH.out])
        go_ret
        have : idxW c.key l = k := by
          unfold idxW
          have : l.findIdx? (wkB c.key) = some k := by
            rw [List.findIdx?_eq_some_iff_getElem]
            have hg := List.getElem?_eq_some_iff.1 HO.out
            refine ⟨hlt, by rw [hg.2]; exact HH.out, fun j hj => ?_⟩
            have := HN.out j l[j] hj (List.getElem?_eq_getElem _)
            simp [this]
          rw [this]
        exact ⟨by rw [this]; rfl, HB.out.trans (hb1.mono HB.out.size)⟩
      | false =>
        have HH := Lib.hid hh
        clear hh
        go_wp2_with (go_at_call 120; refine (hitW_call o c kb _ (cell_later HB.out HK.out)).mono ?_; rintro e w1 ⟨rfl, hb1⟩; rw [HH.out])
        go_roundw
        case rel =>
          refine ⟨k + 1, by omega, by go_num, ?_, HB.out.trans (hb1.mono HB.out.size)⟩
          intro j o' hj ho'
          rcases Nat.lt_or_ge j k with h | h
          · exact HN.out j o' h ho'
          · obtain rfl : j = k := by omega
            rw [HO.out] at ho'; cases ho'; exact HH.out
        case measure => simp [intOf]; omega
    · obtain rfl : k = l.length := by omega
      go_wp2_with fail
      go_ret
      have : idxW c.key l = -1 := by
        unfold idxW
        have : l.findIdx? (wkB c.key) = none := by
          rw [List.findIdx?_eq_none_iff]
          intro x hx
          obtain ⟨j, hj, rfl⟩ := List.mem_iff_getElem.1 hx
          exact HN.out j l[j] hj (List.getElem?_eq_getElem _)
        rw [this]
      exact ⟨by rw [this]; rfl, HB.out⟩

set_option maxRecDepth 100000 in
theorem containsW_call (v : Value) (l : List GOp) (c : GChoice) (kb : Nat) (w : World) (hv : RdOps w v l) (hk : w.cell? ⟨kb, 1, none⟩ = some (vi c.key)) :
    Calls Tryz.prog 83 #[v, .func (.func 120) #[] #[.pointer (some ⟨kb, 0, none⟩)]] w fun e w' => e = .returned (.bool (l.any (wkB c.key))) ∧ Below w.heap.size w w' := by
  go_enter Tryz.func83, Tryz.ntmps83
  go_wp2_with (go_at_call 104; refine (indexW_call v l c kb w hv hk).mono ?_; rintro e w1 ⟨rfl, hb1⟩)
  go_ret
  exact ⟨by rw [← idxW_any]; first | rfl | simp, hb1⟩

/-- What is known of done: a row of bools that says who. -/
def OwDn (base : Nat) (w : World) (v : Value) (ts : List GTxn) (dn : Nat → Bool) : Prop := OwBs base w v ((List.range ts.length).map dn)
theorem dn_at {ts : List GTxn} {dn : Nat → Bool} {i : Nat} (h : i < ts.length) : ((List.range ts.length).map dn)[i]? = some (dn i) := by
  rw [List.getElem?_map, List.getElem?_range h]; rfl
theorem has1_at {ts : List GTxn} {dn : Nat → Bool} {key : Int} {i : Nat} {t : GTxn} (h : ts[i]? = some t) : has1 ts dn key (i : Int) = (dn i && t.ops.any (wkB key)) := by
  have hi := (List.getElem?_eq_some_iff.1 h).1
  unfold has1
  rw [Int.toNat_natCast, h]
  have h1 : decide ((0 : Int) ≤ (i : Int)) = true := decide_eq_true (by omega)
  have h2 : decide ((i : Int) < (ts.length : Int)) = true := decide_eq_true (by omega)
  rw [h1, h2]; simp

structure HasA (c : GChoice) (ts : List GTxn) (dn : Nat → Bool) (k : Nat) : Prop where
  a : 0 < k → has1 ts dn c.key c.a = true
  b : 1 < k → has1 ts dn c.key c.b = true
theorem HasA.more {c : GChoice} {ts : List GTxn} {dn : Nat → Bool} {k : Nat} {i : Int} (h : HasA c ts dn k) (hi : (k = 0 ∧ i = c.a) ∨ (k = 1 ∧ i = c.b)) (hp : has1 ts dn c.key i = true) : HasA c ts dn (k + 1) := by
  rcases hi with ⟨rfl, rfl⟩ | ⟨rfl, rfl⟩
  · exact ⟨fun _ => hp, fun h => absurd h (by omega)⟩
  · exact ⟨fun _ => h.a (by omega), fun _ => hp⟩
theorem HasA.all {c : GChoice} {ts : List GTxn} {dn : Nat → Bool} {k : Nat} (h : HasA c ts dn k) (hk : 1 < k) : hasM ts dn c = true := by
  unfold hasM; rw [h.a (by omega), h.b hk]; rfl
theorem OwBs.later {base : Nat} {w w' : World} {v : Value} {l : List Bool} (h : OwBs base w v l) (hb : Below w.heap.size w w') : OwBs base w' v l := own_below h hb

set_option maxRecDepth 100000 in
set_option maxHeartbeats 4000000 in
theorem has_call (v d : Value) (ts : List GTxn) (dn : Nat → Bool) (base : Nat) (c : GChoice) (w : World) (hv : RdTxns w v ts) (hd : OwDn base w d ts dn) (htl : ts.length ≤ 4096) :
    Calls Tryz.prog 99 #[v, d, chK c] w fun e w' => e = .returned (.bool (hasM ts dn c)) ∧ Below w.heap.size w w' := by
  have HV := Lib.hid hv
  have HD := Lib.hid hd
  obtain ⟨a, len, cap, rfl, rfl, hm, -⟩ := hv.at
  obtain ⟨da, dc, rfl, -⟩ := OwBs.at hd
  have hmf : ∀ (fn : Fn) (first cap : Array Value) (w : World), (Instr.makeFunc fn first cap).run Tryz.prog w = .ok (.func fn first cap) w := fun _ _ _ _ => rfl
  have hdl : ((List.range ts.length).map dn).length = ts.length := by simp
  rw [hdl]
  have HX1 := Lib.hid (alloc_at w (.cells #[vi c.kind, vi c.key, vi c.a, vi c.b] 128))
  have hw1 := Lib.hid (show (w.alloc (.cells #[vi c.kind, vi c.key, vi c.a, vi c.b] 128)).heap.size = w.heap.size + 1 from by simp)
  have HB1 := Lib.hid ((Below.refl w.heap.size w).alloc (Nat.le_refl _) (.cells #[vi c.kind, vi c.key, vi c.a, vi c.b] 128))
  clear hv hd hdl
  go_enter Tryz.func99, Tryz.ntmps99
  go_upto_region 1 with fail
  generalize w.alloc (.cells #[vi c.kind, vi c.key, vi c.a, vi c.b] 128) = w1 at *
  have q2 : w1.cell? ⟨w.heap.size, 2, none⟩ = some (vi c.a) := by rw [cell_of HX1.out]; rfl
  have q3 : w1.cell? ⟨w.heap.size, 3, none⟩ = some (vi c.b) := by rw [cell_of HX1.out]; rfl
  have HB2 := Lib.hid ((Below.refl w1.heap.size w1).alloc (Nat.le_refl _) (.cells #[vi c.a, vi c.b] 3))
  have HX2 := Lib.hid (alloc_at w1 (.cells #[vi c.a, vi c.b] 3))
  have HA := Lib.hid (show HasA c ts dn 0 from ⟨fun h => absurd h (Nat.lt_irrefl 0), fun h => absurd h (by omega)⟩)
  go_wp2_with fail
  have hbs : w1.heap.size + 1 = (w1.alloc (.cells #[vi c.a, vi c.b] 3)).heap.size := by simp
  generalize w1.alloc (.cells #[vi c.a, vi c.b] 3) = w2 at *
  obtain ⟨gb, hgb⟩ : ∃ gb, gb = w1.heap.size := ⟨_, rfl⟩
  rw [← hgb] at HX2 hbs ⊢
  have HBW := Lib.hid (HB1.out.trans (HB2.out.mono HB1.out.size))
  have hw2 : w.heap.size < w2.heap.size := by have := hw1.out; omega
  have HX12 := Lib.hid ((HB2.out.block w.heap.size (by have := hw1.out; omega)).trans HX1.out)
  clear hgb q2 q3 hw1 HB1 HB2 HX1
  go_loopw [15] (fun i wr => ∃ k : Nat, k ≤ 2 ∧ i = .int .i64 k ∧ Hid (HasA c ts dn k ∧ Below w2.heap.size w2 wr)) (fun i _ => 2 - (intOf i).toNat)
  case atStart => exact ⟨0, by omega, rfl, Lib.hid ⟨HA.out, Below.refl _ _⟩⟩
  case round =>
    obtain ⟨wj, rfl⟩ : ∃ wj : World, wj = wr := ⟨_, rfl⟩
    obtain ⟨k, hk, rfl, HJ⟩ := hrel
    by_cases hlt : k < 2
    · have HBJ := Lib.hid HJ.out.2
      have HBX := Lib.hid (HBW.out.trans (HJ.out.2.mono HBW.out.size))
      have k2 : (k : Int) < 2 := by omega
      have hwk : IntKind.i64.wrap ((k : Int) + 1) = (k : Int) + 1 := IntWalk.i64_in _ (by omega)
      obtain ⟨i, hi, hc2⟩ : ∃ i, ((k = 0 ∧ i = c.a) ∨ (k = 1 ∧ i = c.b)) ∧ w2.cell? ⟨gb, k, none⟩ = some (vi i) := by
        have h3 : k = 0 ∨ k = 1 := by omega
        rcases h3 with rfl | rfl
        · exact ⟨c.a, .inl ⟨rfl, rfl⟩, by rw [cell_of HX2.out]; rfl⟩
        · exact ⟨c.b, .inr ⟨rfl, rfl⟩, by rw [cell_of HX2.out]; rfl⟩
      have c0 := cell_later HBJ.out hc2
      have HI := Lib.hid hi
      clear hc2 hi
      have no : has1 ts dn c.key i = false → hasM ts dn c = false := fun h => by
        unfold hasM
        rcases HI.out with ⟨_, rfl⟩ | ⟨_, rfl⟩
        · rw [h]; rfl
        · rw [h]; simp
      have NO := Lib.hid no
      clear no
      by_cases h0 : i < 0
      · have d0 : decide (i < 0) = true := decide_eq_true h0
        have HN := Lib.hid (NO.out (by unfold has1; rw [decide_eq_false (by omega : ¬ 0 ≤ i)]; rfl))
        clear h0
        go_wp2_with fail
        go_ret
        exact ⟨by rw [HN.out]; rfl, HBX.out⟩
      · by_cases h1 : (ts.length : Int) ≤ i
        · have d0 : decide (i < 0) = false := decide_eq_false h0
          have d1 : decide ((ts.length : Int) ≤ i) = true := decide_eq_true h1
          have HN := Lib.hid (NO.out (by unfold has1; rw [decide_eq_false (by omega : ¬ i < (ts.length : Int))]; simp))
          clear h0 h1
          go_wp2_with fail
          go_ret
          exact ⟨by rw [HN.out]; rfl, HBX.out⟩
        · obtain ⟨n, rfl⟩ : ∃ n : Nat, i = (n : Int) := ⟨i.toNat, by omega⟩
          have d0 : decide ((n : Int) < 0) = false := decide_eq_false h0
          have d1 : decide ((ts.length : Int) ≤ (n : Int)) = false := decide_eq_false h1
          have hn : n < ts.length := by omega
          have hnI : (n : Int) < (ts.length : Int) := by omega
          have hn0 : (0 : Int) ≤ (n : Int) := by omega
          obtain ⟨t, ht⟩ := some_at hn
          have H1 := Lib.hid (has1_at (dn := dn) (key := c.key) ht)
          obtain ⟨_, _, _, e5, -, -, hcl⟩ := (HV.out.later HBX.out).at
          cases e5
          obtain ⟨b, off, oa, oc, rfl, hr, k0, k1, k2'⟩ := hcl n t ht
          have HR := Lib.hid hr
          obtain ⟨_, _, e6, hdc⟩ := OwBs.at (HD.out.later HBX.out)
          cases e6
          obtain ⟨db, doff, rfl, x0⟩ := hdc n _ (dn_at hn)
          have HKB := Lib.hid (show wj.cell? ⟨w.heap.size, 1, none⟩ = some (vi c.key) from cell_later HBJ.out (by rw [cell_of HX12.out]; rfl))
          clear hcl hr ht h0 h1 hdc
          cases hdn : dn n with
          | false =>
            rw [hdn] at H1 x0
            have HN := Lib.hid (NO.out H1.out)
            clear hdn
            go_wp2_with fail
            go_ret
            exact ⟨by rw [HN.out]; rfl, HBX.out⟩
          | true =>
            rw [hdn] at H1 x0
            clear hdn
            cases hany : t.ops.any (wkB c.key) with
            | false =>
              have HY := Lib.hid hany
              have HN := Lib.hid (NO.out (by rw [H1.out, hany]; rfl))
              clear hany
              go_wp2_with (go_at_call 83; refine (containsW_call _ t.ops c w.heap.size _ HR.out HKB.out).mono ?_; rw [HY.out]; rintro e w3 ⟨rfl, hb3⟩)
              go_ret
              exact ⟨by rw [HN.out]; rfl, HBX.out.trans (hb3.mono HBX.out.size)⟩
            | true =>
              have HY := Lib.hid hany
              have HP := Lib.hid (show has1 ts dn c.key (n : Int) = true from by rw [H1.out, hany]; rfl)
              clear hany
              go_wp2_with (go_at_call 83; refine (containsW_call _ t.ops c w.heap.size _ HR.out HKB.out).mono ?_; rw [HY.out]; rintro e w3 ⟨rfl, hb3⟩)
              go_roundw
              case rel => exact ⟨k + 1, by omega, by go_num, Lib.hid ⟨HJ.out.1.more HI.out HP.out, HBJ.out.trans (hb3.mono HBJ.out.size)⟩⟩
              case measure => simp [intOf]; omega
    · have hk2 : k = 2 := by omega
      have HE := Lib.hid (HJ.out.1.all (by omega))
      have HBX := Lib.hid (HBW.out.trans (HJ.out.2.mono HBW.out.size))
      subst hk2
      clear HJ
      go_wp2_with fail
      go_ret
      exact ⟨by rw [HE.out]; rfl, HBX.out⟩
end Go.Proofs.YtnacoplokjdglaaGreat

namespace Go.Proofs.YtnacoplokjdglaaGreat
open Go.RowKit Go.Maps
attribute [local go_sem] Oper.semAt_some

/-- A row and a block of another type lie apart. -/
theorem rowNe {N k n b e e' : Nat} {w : World} {v : Value} {xs : List Value} {cs : Array Value} {fr : Nat × Nat} (ho : w.ownsRow N e k v n xs) (hb : w.heap[b]? = some (.cells cs e' fr)) (hne : e ≠ e') : ∀ g, v.ownBlock = some g → g ≠ b := by
  intro g hg h
  subst h
  rcases ho.2 with ⟨h1, _⟩ | ⟨g', cap, cur, h1, _, hh, _⟩
  · rw [h1] at hg; cases hg
  · rw [h1] at hg
    cases hg
    rw [hb] at hh
    cases hh
    exact hne rfl
def liftA (es : List GEdge) (level : Int) (k : Nat) : List (Int × Int) := (es.take k).flatMap (lift1 es level)
def liftB (es : List GEdge) (e : GEdge) (j : Nat) : List (Int × Int) := (es.take j).flatMap (fun g => if g.k = 3 ∧ g.f = e.t then [(e.f, g.t)] else [])
theorem liftA_next {es : List GEdge} {level : Int} {k : Nat} {e : GEdge} (h : es[k]? = some e) : liftA es level (k + 1) = liftA es level k ++ lift1 es level e := by
  unfold liftA; rw [take_at h, List.flatMap_append]; simp
theorem liftB_next {es : List GEdge} {e g : GEdge} {j : Nat} (h : es[j]? = some g) : liftB es e (j + 1) = liftB es e j ++ (if g.k = 3 ∧ g.f = e.t then [(e.f, g.t)] else []) := by
  unfold liftB; rw [take_at h, List.flatMap_append]; simp
theorem liftA_len (es : List GEdge) (level : Int) (k : Nat) : (liftA es level k).length ≤ (liftL es level).length := by
  unfold liftA liftL
  have h : (es.flatMap (lift1 es level)).length = ((es.take k).flatMap (lift1 es level)).length + ((es.drop k).flatMap (lift1 es level)).length := by
    rw [← List.length_append, ← List.flatMap_append, List.take_append_drop]
  omega
theorem liftB_len (es : List GEdge) (e : GEdge) (j : Nat) : (liftB es e j).length ≤ j := by
  unfold liftB
  have : ∀ l : List GEdge, (l.flatMap (fun g => if g.k = 3 ∧ g.f = e.t then [(e.f, g.t)] else [])).length ≤ l.length := by
    intro l
    induction l with
    | nil => simp
    | cons x l ih =>
      rw [List.flatMap_cons, List.length_append, List.length_cons]
      have h1 : (if x.k = 3 ∧ x.f = e.t then [(e.f, x.t)] else []).length ≤ 1 := by split <;> simp
      omega
  have h := this (es.take j)
  have h2 : (es.take j).length ≤ j := List.length_take_le _ _
  omega
theorem liftB_all (es : List GEdge) (e : GEdge) (hk : e.k ≠ 3) : lift1 es 1 e = [(e.f, e.t)] ++ liftB es e es.length := by
  unfold lift1 liftB
  rw [if_pos (.inr hk), if_neg (by rintro (h | h); exact h rfl; exact hk h), List.take_length]
theorem arcV_one (a : Int × Int) : ∀ u ∈ arcV a, u.oneCell' = true := by
  intro u hu; simp [arcV] at hu; rcases hu with rfl | rfl <;> rfl
theorem OwA.push {N : Nat} {w : World} {v : Value} {l : List (Int × Int)} {a : Int × Int} (h : w.ownsRow N 164 2 v (l.length + 1) (l.flatMap arcV ++ arcV a)) : OwA N w v (l ++ [a]) := by
  unfold OwA; simpa using h

set_option maxRecDepth 100000 in
set_option maxHeartbeats 4000000 in
theorem lift_call (v : Value) (es : List GEdge) (level : Int) (w : World) (hr : RdEdges w v es) (hn : es.length ≤ 1000000) (hl : (liftL es level).length ≤ 100000000) :
    Calls Tryz.prog 76 #[v, vi level] w fun e w' => ∃ v', e = .returned v' ∧ OwA w.heap.size w' v' (liftL es level) ∧ Below w.heap.size w w' := by
  have HR := Lib.hid hr
  obtain ⟨av, nv, cv, rfl, rfl, hm, -⟩ := hr.at
  have HL := Lib.hid hl
  clear hr hl
  go_enter Tryz.func76, Tryz.ntmps76
  go_wp2_with fail
  go_loopw [5, 12] (fun x i wr => ∃ k : Nat, k ≤ es.length ∧ i = .int .i64 k ∧ Hid (OwA w.heap.size wr x (liftA es level k) ∧ Below w.heap.size w wr)) (fun _ i _ => es.length - (intOf i).toNat)
  case atStart => exact ⟨0, Nat.zero_le _, rfl, Lib.hid ⟨World.ownsRow_nil _ _ _ _, Below.refl _ _⟩⟩
  case round =>
    obtain ⟨wj, rfl⟩ : ∃ wj : World, wj = wr := ⟨_, rfl⟩
    obtain ⟨k, hk, rfl, HJ⟩ := hrel
    have HO := Lib.hid (show wj.ownsRow w.heap.size 164 2 _ (liftA es level k).length ((liftA es level k).flatMap arcV) from HJ.out.1)
    have HB := Lib.hid HJ.out.2
    obtain ⟨ax, cx, rfl⟩ := Gr.own_shape (show World.ownsRow _ _ _ _ _ (liftA es level k).length _ from HJ.out.1)
    have hln := Nat.le_trans (liftA_len es level k) HL.out
    obtain ⟨n0, hn0⟩ : ∃ n, n = (liftA es level k).length := ⟨_, rfl⟩
    have HN0 := Lib.hid hn0
    rw [← hn0] at HO hln ⊢
    clear HJ hn0
    by_cases hlt : k < es.length
    · have k1 : decide ((k : Int) < es.length) = true := decide_eq_true (by omega)
      have k2 : (k : Int) < es.length := by omega
      have hwk : IntKind.i64.wrap ((k : Int) + 1) = (k : Int) + 1 := IntWalk.i64_in _ (by omega)
      obtain ⟨e, he⟩ := some_at hlt
      obtain ⟨_, _, _, e5, -, -, hcl⟩ := (HR.out.later HB.out).at
      cases e5
      obtain ⟨b, off, rfl, c0, c1, c2⟩ := hcl k e he
      have HNX := Lib.hid (liftA_next (level := level) he)
      have HX := Lib.hid (alloc_at wj (.cells #[vi e.f, vi e.t, vi e.k] 113))
      have HOA := Lib.hid (HO.out.alloc (.cells #[vi e.f, vi e.t, vi e.k] 113))
      have HBA := Lib.hid (HB.out.alloc HB.out.size (.cells #[vi e.f, vi e.t, vi e.k] 113))
      clear hcl he
      go_upto_region 5 with fail
      clear c0 c1 c2
      generalize wj.alloc (.cells #[vi e.f, vi e.t, vi e.k] 113) = wa at *
      obtain ⟨eb, heb⟩ : ∃ eb, eb = wj.heap.size := ⟨_, rfl⟩
      rw [← heb] at HX ⊢
      clear heb
      have x0 : wa.cell? ⟨eb, 0, none⟩ = some (vi e.f) := by rw [cell_of HX.out]; rfl
      have x1 : wa.cell? ⟨eb, 1, none⟩ = some (vi e.t) := by rw [cell_of HX.out]; rfl
      have x2 : wa.cell? ⟨eb, 2, none⟩ = some (vi e.k) := by rw [cell_of HX.out]; rfl
      by_cases hL : level = 1
      case neg =>
        have d1 : (level != 1) = true := by simp [hL]
        have HE := Lib.hid (show lift1 es level e = [(e.f, e.t)] from by unfold lift1; rw [if_pos (.inl hL), if_pos (.inl hL)]; rfl)
        clear hL
        go_wp2_with (at_builtin; refine wpList_append_src rfl _ _ 141 rfl eltArc w.heap.size n0 _ (HOA.out.alloc _) rfl 1 (arcV (e.f, e.t)) (src_new (cs := #[vi e.f, vi e.t]) rfl rfl) rfl (arcV_one _) (by omega) (by omega) (by have := HBA.out.size; simp; omega) ?_; intro v1 w1 ho1 hg1 _; obtain ⟨a1, c1, rfl⟩ := Gr.own_shape ho1; have HO1 := Lib.hid ho1; have HB1 := Lib.hid ((HBA.out.alloc HBA.out.size _).grown hg1 (by have := HBA.out.size; simp; omega) (fun j hj => (HOA.out.lt j hj).1)); have g0 : w1.cell? ⟨eb, 2, none⟩ = some (vi e.k) := (by rw [cell_of ((hg1.block eb (by have := (Array.getElem?_eq_some_iff.1 HX.out).1; simp; omega) (fun h => rowNe HOA.out HX.out (by decide) eb h.symm rfl)).trans ((Below.heap_alloc wa _ eb (Array.getElem?_eq_some_iff.1 HX.out).1).trans HX.out))]; rfl); clear ho1 hg1)
        exact ⟨⟨k + 1, by omega, by go_num, Lib.hid ⟨by rw [HNX.out, HE.out]; exact OwA.push (by rw [← HN0.out]; exact HO1.out), HB1.out⟩⟩, by simp only [intOf]; omega⟩
      case pos =>
      subst hL
      have d1 : ((1 : Int) != 1) = false := rfl
      by_cases hk3 : e.k = 3
      · have d3 : (e.k != 3) = false := by simp [hk3]
        have d4 : (e.k == 3) = true := by simp [hk3]
        have HE := Lib.hid (show lift1 es 1 e = [] from by unfold lift1; rw [if_neg (by rintro (h | h); exact h rfl; exact h hk3), if_pos (.inr hk3)]; rfl)
        clear hk3
        go_wp2_with fail
        exact ⟨⟨k + 1, by omega, by go_num, Lib.hid ⟨by rw [HNX.out, HE.out, List.append_nil]; unfold OwA; rw [← HN0.out]; exact HOA.out, HBA.out⟩⟩, by simp only [intOf]; omega⟩
      · have d3 : (e.k != 3) = true := by simp [hk3]
        have d4 : (e.k == 3) = false := by simp [hk3]
        have HE := Lib.hid (liftB_all es e hk3)
        have HBL := Lib.hid (fun j => liftB_len es e j)
        clear hk3
        go_wp2_with (at_builtin; refine wpList_append_src rfl _ _ 141 rfl eltArc w.heap.size n0 _ (HOA.out.alloc _) rfl 1 (arcV (e.f, e.t)) (src_new (cs := #[vi e.f, vi e.t]) rfl rfl) rfl (arcV_one _) (by omega) (by omega) (by have := HBA.out.size; simp; omega) ?_; intro v1 w1 ho1 hg1 _; obtain ⟨a1, c1, rfl⟩ := Gr.own_shape ho1; have HO1 := Lib.hid ho1; have HB1 := Lib.hid ((HBA.out.alloc HBA.out.size _).grown hg1 (by have := HBA.out.size; simp; omega) (fun j hj => (HOA.out.lt j hj).1)); have HX1 := Lib.hid ((hg1.block eb (by have := (Array.getElem?_eq_some_iff.1 HX.out).1; simp; omega) (fun h => rowNe HOA.out HX.out (by decide) eb h.symm rfl)).trans ((Below.heap_alloc wa _ eb (Array.getElem?_eq_some_iff.1 HX.out).1).trans HX.out)); have g0 : w1.cell? ⟨eb, 2, none⟩ = some (vi e.k) := (by rw [cell_of HX1.out]; rfl); clear ho1 hg1)
        obtain ⟨L0, hL0⟩ : ∃ L0, L0 = liftA es 1 k ++ [(e.f, e.t)] := ⟨_, rfl⟩
        have HO2 := Lib.hid (show OwA w.heap.size w1 (.slice a1 (n0 + 1) c1) L0 from by rw [hL0]; exact OwA.push (by rw [← HN0.out]; exact HO1.out))
        have HL0 := Lib.hid hL0
        have HLL := Lib.hid (show L0.length = n0 + 1 from by rw [hL0, List.length_append, ← HN0.out]; rfl)
        clear hL0 HO1 g0 x0 x1 x2
        go_loopw [5, 40] (fun x i wr => ∃ j : Nat, j ≤ es.length ∧ i = .int .i64 j ∧ Hid (OwA w.heap.size wr x (L0 ++ liftB es e j) ∧ wr.heap[eb]? = some (.cells #[vi e.f, vi e.t, vi e.k] 113) ∧ Below w.heap.size w wr)) (fun _ i _ => es.length - (intOf i).toNat)
        case atStart => exact ⟨0, Nat.zero_le _, rfl, Lib.hid ⟨by simpa [liftB] using HO2.out, HX1.out, HB1.out⟩⟩
        case round =>
          obtain ⟨wq, rfl⟩ : ∃ wq : World, wq = wr := ⟨_, rfl⟩
          obtain ⟨j, hj, rfl, HJ⟩ := hrel
          have HOq := Lib.hid (show wq.ownsRow w.heap.size 164 2 _ (L0 ++ liftB es e j).length ((L0 ++ liftB es e j).flatMap arcV) from HJ.out.1)
          have HXq := Lib.hid HJ.out.2.1
          have HBq := Lib.hid HJ.out.2.2
          obtain ⟨aq, cq, rfl⟩ := Gr.own_shape (show World.ownsRow _ _ _ _ _ (L0 ++ liftB es e j).length _ from HJ.out.1)
          have hlq : (L0 ++ liftB es e j).length ≤ 100000000 + 1 + 1000000 := by
            have := HBL.out j; have := HLL.out
            rw [List.length_append]; omega
          obtain ⟨n1, hn1⟩ : ∃ n, n = (L0 ++ liftB es e j).length := ⟨_, rfl⟩
          have HN1 := Lib.hid hn1
          rw [← hn1] at HOq hlq ⊢
          clear HJ hn1
          by_cases hltq : j < es.length
          · have j1 : decide ((j : Int) < es.length) = true := decide_eq_true (by omega)
            have j2 : (j : Int) < es.length := by omega
            have hwj : IntKind.i64.wrap ((j : Int) + 1) = (j : Int) + 1 := IntWalk.i64_in _ (by omega)
            obtain ⟨g, hg⟩ := some_at hltq
            obtain ⟨_, _, _, e5, -, -, hcl⟩ := (HR.out.later HBq.out).at
            cases e5
            obtain ⟨b', off', e6, c0, c1, c2⟩ := hcl j g hg
            simp only [Option.some.injEq, Addr.mk.injEq, and_true] at e6
            obtain ⟨rfl, rfl⟩ := e6
            have HNB := Lib.hid (liftB_next (e := e) hg)
            have HXg := Lib.hid (alloc_at wq (.cells #[vi g.f, vi g.t, vi g.k] 113))
            have HXe := Lib.hid ((Below.heap_alloc wq (.cells #[vi g.f, vi g.t, vi g.k] 113) eb (Array.getElem?_eq_some_iff.1 HXq.out).1).trans HXq.out)
            have HOg := Lib.hid (HOq.out.alloc (.cells #[vi g.f, vi g.t, vi g.k] 113))
            have HBg := Lib.hid (HBq.out.alloc HBq.out.size (.cells #[vi g.f, vi g.t, vi g.k] 113))
            clear hcl hg
            go_upto_region 11 with fail
            clear c0 c1 c2
            generalize wq.alloc (.cells #[vi g.f, vi g.t, vi g.k] 113) = wb at *
            obtain ⟨gb, hgb⟩ : ∃ gb, gb = wq.heap.size := ⟨_, rfl⟩
            rw [← hgb] at HXg ⊢
            clear hgb
            have y0 : wb.cell? ⟨gb, 0, none⟩ = some (vi g.f) := by rw [cell_of HXg.out]; rfl
            have y1 : wb.cell? ⟨gb, 1, none⟩ = some (vi g.t) := by rw [cell_of HXg.out]; rfl
            have y2 : wb.cell? ⟨gb, 2, none⟩ = some (vi g.k) := by rw [cell_of HXg.out]; rfl
            have z0 : wb.cell? ⟨eb, 0, none⟩ = some (vi e.f) := by rw [cell_of HXe.out]; rfl
            have z1 : wb.cell? ⟨eb, 1, none⟩ = some (vi e.t) := by rw [cell_of HXe.out]; rfl
            by_cases hg3 : g.k = 3
            · have f3 : (g.k == 3) = true := by simp [hg3]
              by_cases hgf : g.f = e.t
              · have f4 : (g.f == e.t) = true := by simp [hgf]
                have HI := Lib.hid (show (if g.k = 3 ∧ g.f = e.t then [(e.f, g.t)] else []) = [(e.f, g.t)] from if_pos ⟨hg3, hgf⟩)
                clear hg3 hgf
                go_wp2_with (at_builtin; refine wpList_append_src rfl _ _ 141 rfl eltArc w.heap.size n1 _ (HOg.out.alloc _) rfl 1 (arcV (e.f, g.t)) (src_new (cs := #[vi e.f, vi g.t]) rfl rfl) rfl (arcV_one _) (by omega) (by omega) (by have := HBg.out.size; simp; omega) ?_; intro v1 w1 ho1 hg1 _; obtain ⟨a1, c1, rfl⟩ := Gr.own_shape ho1; have HO3 := Lib.hid ho1; have HB3 := Lib.hid ((HBg.out.alloc HBg.out.size _).grown hg1 (by have := HBg.out.size; simp; omega) (fun j hj => (HOg.out.lt j hj).1)); have HX3 := Lib.hid ((hg1.block eb (by have := (Array.getElem?_eq_some_iff.1 HXe.out).1; simp; omega) (fun h => rowNe HOg.out HXe.out (by decide) eb h.symm rfl)).trans ((Below.heap_alloc wb _ eb (Array.getElem?_eq_some_iff.1 HXe.out).1).trans HXe.out)); clear ho1 hg1)
                exact ⟨⟨j + 1, by omega, by go_num, Lib.hid ⟨by rw [HNB.out, HI.out, ← List.append_assoc]; exact OwA.push (by rw [← HN1.out]; exact HO3.out), HX3.out, HB3.out⟩⟩, by simp only [intOf]; omega⟩
              · have f4 : (g.f == e.t) = false := by simp [hgf]
                have HI := Lib.hid (show (if g.k = 3 ∧ g.f = e.t then [(e.f, g.t)] else []) = [] from if_neg (fun h => hgf h.2))
                clear hg3 hgf
                go_wp2_with fail
                exact ⟨⟨j + 1, by omega, by go_num, Lib.hid ⟨by rw [HNB.out, HI.out, List.append_nil]; unfold OwA; rw [← HN1.out]; exact HOg.out, HXe.out, HBg.out⟩⟩, by simp only [intOf]; omega⟩
            · have f3 : (g.k == 3) = false := by simp [hg3]
              have HI := Lib.hid (show (if g.k = 3 ∧ g.f = e.t then [(e.f, g.t)] else []) = [] from if_neg (fun h => hg3 h.1))
              clear hg3
              go_wp2_with fail
              exact ⟨⟨j + 1, by omega, by go_num, Lib.hid ⟨by rw [HNB.out, HI.out, List.append_nil]; unfold OwA; rw [← HN1.out]; exact HOg.out, HXe.out, HBg.out⟩⟩, by simp only [intOf]; omega⟩
          · have j1 : decide ((j : Int) < es.length) = false := decide_eq_false (by omega)
            have HF := Lib.hid (show OwA w.heap.size wq (.slice aq n1 cq) (liftA es 1 (k + 1)) from by
              have hje : j = es.length := by omega
              rw [HNX.out, HE.out, ← List.append_assoc, ← HL0.out, ← hje]
              unfold OwA; rw [← HN1.out]; exact HOq.out)
            go_wp2_with fail
            exact ⟨⟨k + 1, by omega, by go_num, Lib.hid ⟨HF.out, HBq.out⟩⟩, by simp only [intOf]; omega⟩
    · have k1 : decide ((k : Int) < es.length) = false := decide_eq_false (by omega)
      have HF := Lib.hid (show OwA w.heap.size wj (.slice ax n0 cx) (liftL es level) from by
        have hke : k = es.length := by omega
        have h : liftA es level k = liftL es level := by unfold liftA liftL; rw [hke, List.take_length]
        rw [← h]
        unfold OwA; rw [← HN0.out]; exact HO.out)
      go_wp2_with fail
      go_ret
      exact ⟨_, rfl, HF.out, HB.out⟩
end Go.Proofs.YtnacoplokjdglaaGreat

namespace Go.Proofs.YtnacoplokjdglaaGreat
open Go.RowKit Go.Maps Go.Sort Go.Shelf
set_option maxRecDepth 100000 in
set_option maxHeartbeats 1000000 in
theorem nan_call (a : Int) (w : World) : Calls Tryz.prog 148 #[vi a] w fun e w' => e = .returned (.bool false) ∧ w' = w := by
  go_enter Tryz.func148, Tryz.ntmps148
  go_wp2_with fail
  go_ret
  exact ⟨by simp, rfl⟩

set_option maxRecDepth 100000 in
set_option maxHeartbeats 2000000 in
theorem compare_call (a b : Int) (w : World) : Calls Tryz.prog 123 #[vi a, vi b] w fun e w' => e = .returned (vi (Lib.compareInt a b)) ∧ w' = w := by
  go_enter Tryz.func123, Tryz.ntmps123
  by_cases h1 : a < b
  · have e1 : Lib.compareInt a b = -1 := by unfold Lib.compareInt; simp [h1]
    rw [e1]
    go_wp2_with (go_at_call 148; refine (nan_call _ _).mono ?_; rintro e w1 ⟨rfl, rfl⟩)
    go_ret
    exact ⟨rfl, rfl⟩
  · by_cases h2 : b < a
    · have e1 : Lib.compareInt a b = 1 := by unfold Lib.compareInt; simp [h1, h2]
      rw [e1]
      go_wp2_with (go_at_call 148; refine (nan_call _ _).mono ?_; rintro e w1 ⟨rfl, rfl⟩)
      go_ret
      exact ⟨rfl, rfl⟩
    · have e1 : Lib.compareInt a b = 0 := by unfold Lib.compareInt; simp [h1, h2]
      rw [e1]
      go_wp2_with (go_at_call 148; refine (nan_call _ _).mono ?_; rintro e w1 ⟨rfl, rfl⟩)
      go_ret
      exact ⟨rfl, rfl⟩

theorem compareInt_cases (a b : Int) : (a < b ∧ Lib.compareInt a b = -1) ∨ (b < a ∧ Lib.compareInt a b = 1) ∨ (a = b ∧ Lib.compareInt a b = 0) := by
  unfold Lib.compareInt
  by_cases h1 : a < b
  · exact .inl ⟨h1, by simp [h1]⟩
  · by_cases h2 : b < a
    · exact .inr (.inl ⟨h2, by simp [h1, h2]⟩)
    · exact .inr (.inr ⟨by omega, by simp [h1, h2]⟩)
theorem grow_more {w w2 : World} (h : ∃ q os', w2 = grow (w.drewN q) os') (o : Obj) : ∃ q os', (w2.alloc o).drew = grow (w.drewN q) os' := by
  obtain ⟨q, os', rfl⟩ := h
  exact ⟨q + 1, os' ++ #[o], by rw [alloc_eq_grow, grow_grow]; rfl⟩

theorem flat_atK {α : Type} (enc : α → List Value) (k : Nat) (hk : ∀ x, (enc x).length = k) : ∀ (l : List α) (j i : Nat) (x : α) (u : Value), l[j]? = some x → (enc x)[i]? = some u → (l.flatMap enc)[j * k + i]? = some u
  | [], j, i, x, u, h, _ => by simp at h
  | y :: l, 0, i, x, u, h, hu => by
    simp at h; subst h
    rw [List.flatMap_cons, Nat.zero_mul, Nat.zero_add, List.getElem?_append_left (List.getElem?_eq_some_iff.1 hu).1]; exact hu
  | y :: l, j + 1, i, x, u, h, hu => by
    rw [List.flatMap_cons, List.getElem?_append_right (by rw [hk, Nat.succ_mul]; omega), hk, show (j + 1) * k + i - k = j * k + i by rw [Nat.succ_mul]; omega]
    exact flat_atK enc k hk l j i x u (by simpa using h) hu
theorem flat_lenK {α : Type} (enc : α → List Value) (k : Nat) (hk : ∀ x, (enc x).length = k) (l : List α) : (l.flatMap enc).length = l.length * k := by
  induction l with
  | nil => simp
  | cons x l ih => rw [List.flatMap_cons, List.length_append, hk, ih, List.length_cons, Nat.succ_mul, Nat.add_comm]
theorem flatK_list {α : Type} [Inhabited α] (enc : α → List Value) (k : Nat) (hk : ∀ x, (enc x).length = k) (l : List α) : (flatK enc k l.toArray).toList = l.flatMap enc := by
  apply List.ext_getElem?
  intro t
  by_cases ht : t < l.length * k
  · have k0 : 0 < k := by rcases Nat.eq_zero_or_pos k with h | h; · subst h; simp at ht
                          · exact h
    have hj : t / k < l.length := Nat.div_lt_of_lt_mul (by rw [Nat.mul_comm]; exact ht)
    have hi : t % k < k := Nat.mod_lt _ k0
    have h1 := flat_atK enc k hk l (t / k) (t % k) (l[t / k]) ((enc (l[t / k]))[t % k]'(by rw [hk]; exact hi)) (List.getElem?_eq_getElem hj) (List.getElem?_eq_getElem _)
    have e : t / k * k + t % k = t := by rw [Nat.mul_comm]; exact Nat.div_add_mod t k
    rw [e] at h1
    rw [h1, Array.getElem?_toList, Array.getElem?_eq_getElem (by simpa using ht)]
    congr 1
    rw [← getElem!_pos (flatK enc k l.toArray) t (by simpa using ht), get_flatK _ _ _ _ (by simpa using ht)]
    rw [getElem!_pos l.toArray (t / k) (by simpa using hj)]
    simp only [List.getElem_toArray]
    rw [getElem!_pos _ _ (by rw [hk]; exact hi)]
  · rw [List.getElem?_eq_none (by simp; omega), List.getElem?_eq_none (by rw [flat_lenK enc k hk]; omega)]

theorem holdsK_of_block {α : Type} [Inhabited α] {enc : α → List Value} {k : Nat} (hk : ∀ x, (enc x).length = k) {w : World} {g : Nat} {cur : Array Value} {e : TypeId} {l : List α} (hb : w.heap[g]? = some (.cells cur e (0, 0))) (ht : cur.toList.take (l.length * k) = l.flatMap enc) : HoldsK enc k w g 0 l.toArray := by
  intro j hj
  have hj' : j < l.length * k := by simpa using hj
  refine ⟨?_, by simp [World.frozen?, hb]⟩
  have h1 : (cur.toList.take (l.length * k))[j]? = (flatK enc k l.toArray).toList[j]? := by rw [ht, flatK_list enc k hk]
  rw [List.getElem?_take_of_lt hj'] at h1
  simp only [World.cell?, hb, Nat.zero_add]
  simp only [Option.isSome_none, Bool.false_eq_true, if_false]
  rw [← Array.getElem?_toList, h1, Array.getElem?_toList, Array.getElem?_eq_getElem hj]
  show some _ = some ((flatK enc k l.toArray)[j]!)
  rw [getElem!_pos (flatK enc k l.toArray) j hj]

theorem heap_sortedK {α : Type} [Inhabited α] {enc : α → List Value} {k : Nat} {w : World} {g n : Nat} {os : Array Obj} {cur : Array Value} {e : TypeId} {fr : Nat × Nat} (d : Array α) (hb : w.heap[g]? = some (.cells cur e fr)) :
    (sortWorldK enc k w g 0 n d os).heap[g]? = some (.cells (putCells id 0 (flatK enc k d) cur) e fr) := by
  have hg : g < w.heap.size := (Array.getElem?_eq_some_iff.1 hb).1
  unfold sortWorldK
  rw [heap_grow_old _ _ (by simpa [putRowK] using hg)]
  simp [putRowK, putRow, mapBlock, Sort.ahead, Array.getElem?_modify, hb, onCells]
theorem grownBy_sortedK {α : Type} [Inhabited α] {enc : α → List Value} {k : Nat} {w : World} {g n : Nat} {os : Array Obj} (d : Array α) : w.grownBy (sortWorldK enc k w g 0 n d os) (some g) := by
  refine ⟨rfl, rfl, rfl, by simp [sortWorldK, putRowK], fun j hj hne => ?_⟩
  unfold sortWorldK
  rw [heap_grow_old _ _ (by simpa [putRowK] using hj)]
  have : g ≠ j := fun e => hne (by rw [e])
  simp [putRowK, putRow, mapBlock, Sort.ahead, Array.getElem?_modify, this]
theorem take_putK (cur : Array Value) (F : Array Value) (h : F.size ≤ cur.size) : (putCells id 0 F cur).toList.take F.size = F.toList := by
  apply List.ext_getElem?
  intro j
  by_cases hj : j < F.size
  · rw [List.getElem?_take_of_lt hj, Array.getElem?_toList, Array.getElem?_toList]
    simp [putCells, hj, show j < cur.size by omega]
  · rw [List.getElem?_take_eq_none (by omega), List.getElem?_eq_none (by simp; omega)]
theorem ownsRow_sortedK {α : Type} [Inhabited α] {enc : α → List Value} {k : Nat} (hk : ∀ x, (enc x).length = k) {w : World} {base g cap n : Nat} {e : TypeId} {os : Array Obj} {cur : Array Value} {l l' : List α} (hl : l'.length = l.length) (hbase : base ≤ g) (hb : w.heap[g]? = some (.cells cur e (0, 0)))
    (h1 : l.length ≤ cap) (h2 : cap ≤ maxLen) (h3 : cur.size = cap * k) :
    (sortWorldK enc k w g 0 n l'.toArray os).ownsRow base e k (.slice (some ⟨g, 0, none⟩) l.length cap) l.length (l'.flatMap enc) := by
  have h5 : l.length * k ≤ cur.size := by rw [h3]; exact Nat.mul_le_mul_right k h1
  refine ⟨by rw [flat_lenK enc k hk, hl], .inr ⟨g, cap, _, rfl, hbase, heap_sortedK _ hb, h1, h2, by simp [putCells, h3], ?_⟩⟩
  have h4 := take_putK cur (flatK enc k l'.toArray) (by simp [hl]; exact h5)
  rw [flatK_list enc k hk] at h4
  simpa [hl] using h4
end Go.Proofs.YtnacoplokjdglaaGreat

namespace Go.Proofs.YtnacoplokjdglaaGreat
open Go.Proofs Go.Shelf
def sortEd_ren : Go.Shelf.Ren := ⟨fun | 6 => 100 | 15 => 86 | 14 => 121 | 28 => 113 | 29 => 114 | 20 => 140 | 21 => 141 | 22 => 142 | 23 => 143 | 24 => 144 | 25 => 145 | 26 => 146 | 27 => 147 | 46 => 155 | 47 => 126 | 48 => 127 | 49 => 156 | 50 => 157 | 57 => 159 | n => n, fun | 22 => 65 | 24 => 113 | 25 => 172 | 3 => 3 | 39 => 152 | 0 => 0 | 53 => 184 | 55 => 186 | 4 => 4 | 46 => 178 | 45 => 177 | 50 => 118 | 5 => 5 | 9 => 9 | 66 => 195 | 70 => 199 | 76 => 214 | 77 => 215 | n => n, fun | n => n⟩
theorem sortEd : Go.Proofs.SlLaysF0.n6 Tryz.prog sortEd_ren := {
  mixed := by kernel_rfl,
  f6 := ⟨Tryz.f100.name, by decide, Tryz.func100.trans (congrArg some (by kernel_rfl))⟩,
  f14 := ⟨Tryz.f121.name, by decide, Tryz.func121.trans (congrArg some (by kernel_rfl))⟩,
  f15 := Tryz.func86.trans (congrArg some (by kernel_rfl)),
  f20 := ⟨Tryz.f140.name, by decide, Tryz.func140.trans (congrArg some (by kernel_rfl))⟩,
  f21 := ⟨Tryz.f141.name, by decide, Tryz.func141.trans (congrArg some (by kernel_rfl))⟩,
  f22 := ⟨Tryz.f142.name, by decide, Tryz.func142.trans (congrArg some (by kernel_rfl))⟩,
  f23 := ⟨Tryz.f143.name, by decide, Tryz.func143.trans (congrArg some (by kernel_rfl))⟩,
  f24 := ⟨Tryz.f144.name, by decide, Tryz.func144.trans (congrArg some (by kernel_rfl))⟩,
  f25 := ⟨Tryz.f145.name, by decide, Tryz.func145.trans (congrArg some (by kernel_rfl))⟩,
  f26 := ⟨Tryz.f146.name, by decide, Tryz.func146.trans (congrArg some (by kernel_rfl))⟩,
  f27 := ⟨Tryz.f147.name, by decide, Tryz.func147.trans (congrArg some (by kernel_rfl))⟩,
  f28 := Tryz.func113.trans (congrArg some (by kernel_rfl)),
  f29 := Tryz.func114.trans (congrArg some (by kernel_rfl)),
  f46 := ⟨Tryz.f155.name, by decide, Tryz.func155.trans (congrArg some (by kernel_rfl))⟩,
  f47 := Tryz.func126.trans (congrArg some (by kernel_rfl)),
  f48 := Tryz.func127.trans (congrArg some (by kernel_rfl)),
  f49 := ⟨Tryz.f156.name, by decide, Tryz.func156.trans (congrArg some (by kernel_rfl))⟩,
  f50 := ⟨Tryz.f157.name, by decide, Tryz.func157.trans (congrArg some (by kernel_rfl))⟩,
  f57 := ⟨Tryz.f159.name, by decide, Tryz.func159.trans (congrArg some (by kernel_rfl))⟩,
  t0 := Tryz.underlying0,
  a0 := Tryz.isAgg0,
  z0 := Tryz.sizeOf0,
  v0 := Tryz.zeroValue0,
  t3 := Tryz.underlying3,
  a3 := Tryz.isAgg3,
  z3 := Tryz.sizeOf3,
  v3 := Tryz.zeroValue3,
  t4 := Tryz.underlying4,
  a4 := Tryz.isAgg4,
  z4 := Tryz.sizeOf4,
  v4 := Tryz.zeroValue4,
  t5 := Tryz.underlying5,
  a5 := Tryz.isAgg5,
  z5 := Tryz.sizeOf5,
  v5 := Tryz.zeroValue5,
  t9 := Tryz.underlying9,
  a9 := Tryz.isAgg9,
  z9 := Tryz.sizeOf9,
  v9 := Tryz.zeroValue9,
  t22 := Tryz.underlying65,
  a22 := Tryz.isAgg65,
  z22 := Tryz.sizeOf65,
  v22 := Tryz.zeroValue65,
  t25 := Tryz.underlying172,
  a25 := Tryz.isAgg172,
  z25 := Tryz.sizeOf172,
  v25 := Tryz.zeroValue172,
  t39 := Tryz.underlying152,
  a39 := Tryz.isAgg152,
  z39 := Tryz.sizeOf152,
  v39 := Tryz.zeroValue152,
  t45 := Tryz.underlying177,
  a45 := Tryz.isAgg177,
  z45 := Tryz.sizeOf177,
  v45 := Tryz.zeroValue177,
  t46 := Tryz.underlying178,
  a46 := Tryz.isAgg178,
  z46 := Tryz.sizeOf178,
  v46 := Tryz.zeroValue178,
  t50 := Tryz.underlying118,
  a50 := Tryz.isAgg118,
  z50 := Tryz.sizeOf118,
  v50 := Tryz.zeroValue118,
  t53 := Tryz.underlying184,
  a53 := Tryz.isAgg184,
  z53 := Tryz.sizeOf184,
  v53 := Tryz.zeroValue184,
  t55 := Tryz.underlying186,
  a55 := Tryz.isAgg186,
  z55 := Tryz.sizeOf186,
  v55 := Tryz.zeroValue186,
  t66 := Tryz.underlying195,
  a66 := Tryz.isAgg195,
  z66 := Tryz.sizeOf195,
  v66 := Tryz.zeroValue195,
  t70 := Tryz.underlying199,
  a70 := Tryz.isAgg199,
  z70 := Tryz.sizeOf199,
  v70 := Tryz.zeroValue199,
  t76 := Tryz.underlying214,
  a76 := Tryz.isAgg214,
  z76 := Tryz.sizeOf214,
  v76 := Tryz.zeroValue214,
  t77 := Tryz.underlying215,
  a77 := Tryz.isAgg215,
  z77 := Tryz.sizeOf215,
  v77 := Tryz.zeroValue215 }
end Go.Proofs.YtnacoplokjdglaaGreat
