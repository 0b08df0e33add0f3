/- Texts of one proof, one behind the other: CkW, HxP, HsChk. -/
import Derived.Lib.SliceRun
import Derived.Test.YtnacoplokjdglaaGreatKe1
import Derived.Test.YtnacoplokjdglaaGreatKe2
import Derived.Test.YtnacoplokjdglaaGreatKe3
import Derived.Test.YtnacoplokjdglaaGreatKe4
import Derived.Test.YtnacoplokjdglaaGreatKe5
import Derived.Test.YtnacoplokjdglaaGreatKe6
import Derived.Test.YtnacoplokjdglaaGreatKe7
import Derived.Test.YtnacoplokjdglaaGreatKe8
import Derived.Test.YtnacoplokjdglaaGreatKe9
import Derived.Test.YtnacoplokjdglaaGreatKe10
import Derived.Test.YtnacoplokjdglaaGreatKe11
import Derived.Test.YtnacoplokjdglaaGreatKe12
import Derived.Test.YtnacoplokjdglaaGreatKe13
set_option linter.all false
namespace Go.Proofs.YtnacoplokjdglaaGreat
open Go.RowKit Go.Maps
attribute [local go_sem] Oper.semAt_some

theorem grown_put (W : World) (b o : Nat) (v : Value) : W.grownBy (W.setCell ⟨b, o, none⟩ v) (some b) := ⟨rfl, rfl, rfl, by simp [World.setCell], fun k _ hk => Below.heap_setCell _ _ _ k (fun e => hk (by rw [e]))⟩
/-- A row of another kind stays while a box is written. -/
theorem own_boxed {A B : World} {b n m p : Nat} {e T : TypeId} {v : Value} {xs : List Value} {cs : Array Value} (h : A.ownsRow b e n v m xs) (hp : A.heap[p]? = some (.cells cs T)) (hT : T ≠ e) (hg : A.grownBy B (some p)) : B.ownsRow b e n v m xs :=
  h.kept hg (by
    cases hv : v.ownBlock with
    | none => exact .inl rfl
    | some k =>
      refine .inr (fun e1 => ?_)
      have e3 : k = p := by simpa using e1
      subst e3
      rcases h.2 with ⟨h1, _⟩ | ⟨g, cap, cur, h1, _, hh, _⟩
      · rw [h1] at hv; cases hv
      · rw [h1] at hv
        have e2 : g = k := by simpa [Value.ownBlock] using hv
        subst e2
        rw [hp] at hh
        simp at hh
        exact hT hh.2)

abbrev TrL := List (Value × List Nat)
/-- A search, as memory keeps it. -/
structure SeS (N p : Nat) (tsv : Value) (level B s : Int) (vt fm : Value) (out : Bool) (T : TrL) (W : World) : Prop where
  box : W.heap[p]? = some (.cells #[tsv, vi level, vi B, vi s, vt, fm, .bool out] 89)
  row : W.ownsRow N 70 1 vt T.length (T.map (·.1))
  cyc : ∀ q ∈ T, W.ownsRow N 3 1 q.1 q.2.length ((q.2.map natI).flatMap viC)
  lt : N ≤ p
section
variable {N p : Nat} {tsv : Value} {level B s : Int} {vt fm : Value} {out : Bool} {T : TrL} {W W' : World}
theorem SeS.later (h : SeS N p tsv level B s vt fm out T W) (hb : Below W.heap.size W W') : SeS N p tsv level B s vt fm out T W' :=
  ⟨(hb.block _ (Array.getElem?_eq_some_iff.1 h.box).1).trans h.box, own_below h.row hb, fun q hq => own_below (h.cyc q hq) hb, h.lt⟩
theorem SeS.plt (h : SeS N p tsv level B s vt fm out T W) : p < W.heap.size := (Array.getElem?_eq_some_iff.1 h.box).1
theorem SeS.setS (h : SeS N p tsv level B s vt fm out T W) (s' : Int) : SeS N p tsv level B s' vt fm out T (W.setCell ⟨p, 3, none⟩ (vi s')) :=
  ⟨by rw [heap_setCell_same W p 3 _ _ _ h.box]; rfl, own_boxed h.row h.box (by decide) (grown_put _ _ _ _), fun q hq => own_boxed (h.cyc q hq) h.box (by decide) (grown_put _ _ _ _), h.lt⟩
theorem SeS.setF (h : SeS N p tsv level B s vt fm out T W) (fm' : Value) : SeS N p tsv level B s vt fm' out T (W.setCell ⟨p, 5, none⟩ fm') :=
  ⟨by rw [heap_setCell_same W p 5 _ _ _ h.box]; rfl, own_boxed h.row h.box (by decide) (grown_put _ _ _ _), fun q hq => own_boxed (h.cyc q hq) h.box (by decide) (grown_put _ _ _ _), h.lt⟩
theorem SeS.setO (h : SeS N p tsv level B s vt fm out T W) (o' : Bool) : SeS N p tsv level B s vt fm o' T (W.setCell ⟨p, 6, none⟩ (.bool o')) :=
  ⟨by rw [heap_setCell_same W p 6 _ _ _ h.box]; rfl, own_boxed h.row h.box (by decide) (grown_put _ _ _ _), fun q hq => own_boxed (h.cyc q hq) h.box (by decide) (grown_put _ _ _ _), h.lt⟩
theorem SeS.push {A D : World} {vt' v : Value} {C : List Nat} (h : SeS N p tsv level B s vt fm out T A) (hg : A.grownBy D vt.ownBlock) (ho : D.ownsRow N 70 1 vt' (T.length + 1) (T.map (·.1) ++ [v])) (hc : A.ownsRow N 3 1 v C.length ((C.map natI).flatMap viC)) :
    SeS N p tsv level B s vt' fm out (T ++ [(v, C)]) (D.setCell ⟨p, 4, none⟩ vt') := by
  have hbx : D.heap[p]? = some (.cells #[tsv, vi level, vi B, vi s, vt, fm, .bool out] 89) := own_box h.row h.box (by decide) hg
  refine ⟨by rw [heap_setCell_same D p 4 _ _ _ hbx]; rfl, ?_, fun q hq => ?_, h.lt⟩
  · have := own_boxed ho hbx (by decide) (grown_put D p 4 vt')
    simpa using this
  · refine own_boxed (e := 3) ?_ hbx (by decide) (grown_put D p 4 vt')
    rcases List.mem_append.1 hq with hq | hq
    · exact rows_kept (h.cyc q hq) h.row (by decide) hg
    · simp only [List.mem_singleton] at hq
      subst hq
      exact rows_kept hc h.row (by decide) hg
end
/-- What a search does not write. -/
def StillO (o : Obj) : Prop := ∀ cs T fz, o = .cells cs T fz → T ≠ 89 ∧ T ≠ 70
theorem StillO.map (es : Array MapEntry) (c : Nat) : StillO (.map es c) := fun cs T fz h => by cases h
theorem StillO.cells {cs : Array Value} {T : TypeId} (h1 : T ≠ 89) (h2 : T ≠ 70) : StillO (.cells cs T) := fun cs' T' fz h => by cases h; exact ⟨h1, h2⟩
/-- What a search leaves as it was. -/
structure KeepS (N : Nat) (w w' : World) : Prop where
  below : Below N w w'
  still : ∀ (b : Nat) (o : Obj), w.heap[b]? = some o → StillO o → w'.heap[b]? = some o
  size : w.heap.size ≤ w'.heap.size
theorem KeepS.trans {N : Nat} {a b c : World} (h : KeepS N a b) (k : KeepS N b c) : KeepS N a c := ⟨h.below.trans k.below, fun x o hh hs => k.still x o (h.still x o hh hs) hs, Nat.le_trans h.size k.size⟩
theorem KeepS.of {N : Nat} {a b : World} (h : Below a.heap.size a b) (hN : N ≤ a.heap.size) : KeepS N a b := ⟨h.mono hN, fun x o hh _ => (h.block x (Array.getElem?_eq_some_iff.1 hh).1).trans hh, h.size⟩
theorem KeepS.set {N p i : Nat} {a : World} {cs : Array Value} (hp : a.heap[p]? = some (.cells cs 89)) (hN : N ≤ p) (u : Value) : KeepS N a (a.setCell ⟨p, i, none⟩ u) :=
  ⟨(Below.refl N a).setCell hN u, (fun x o hh hs => by
    rw [Below.heap_setCell _ _ _ x]
    · exact hh
    · intro e
      simp only at e
      subst e
      rw [hp] at hh
      cases hh
      exact absurd rfl (hs _ _ _ rfl).1), by simp [World.setCell]⟩
theorem KeepS.grown {N k n : Nat} {a b : World} {v : Value} {xs : List Value} (ho : a.ownsRow N 70 k v n xs) (hg : a.grownBy b v.ownBlock) (hN : N ≤ a.heap.size) : KeepS N a b :=
  ⟨(Below.refl N a).grown hg hN (fun j hj => (World.ownsRow.lt ho j hj).1), (fun x o hh hs => by
    rw [hg.block x (Array.getElem?_eq_some_iff.1 hh).1]
    · exact hh
    · intro e1
      rcases ho.2 with ⟨h1, _⟩ | ⟨g, cap, cur, h1, _, h2, _⟩
      · rw [h1] at e1; cases e1
      · rw [h1] at e1
        have e2 : x = g := by simpa [Value.ownBlock] using e1
        subst e2
        rw [h2] at hh
        cases hh
        exact absurd rfl (hs _ _ _ rfl).2), hg.size⟩
theorem KeepS.mapF {N m : Nat} {a b : World} {L : FaL} (h : KeepS N a b) (hm : MapF a m L) : MapF b m L := by
  obtain ⟨es, c, ho, r⟩ := hm
  exact ⟨es, c, h.still _ _ ho (StillO.map _ _), r⟩

theorem SameF.next {L H H1 : FaL} {c : GChoice} {so : Bool} (h : SameF L H) (hg : ∀ k, getM H1 k = if c = k then some so else getM H k) (hl : H1.length = H.length + 1) : SameF ((c, so) :: L) H1 :=
  ⟨fun k => by rw [getM_cons, hg k, h.get k], by rw [hl, h.len]; rfl⟩

/-- What the search answers. -/
def WalkQ (ts : List GTxn) (level : Int) (t : WT) (N p : Nat) (tsv : Value) (B s : Int) (T : TrL) (w : World) (e : Ending) (w' : World) : Prop :=
  ∃ (vt fm : Value) (T2 : TrL), e = .returned (.bool (endB t s B)) ∧ SeS N p tsv level B (endS t s B) vt fm (endO t s B) (T ++ T2) w' ∧ KeepS N w w' ∧
    (endB t s B = true → ∃ (m : Nat) (H F : FaL), fm = .map (some m) ∧ MapF w' m H ∧ t.found = some F ∧ SameF F H) ∧ (endB t s B = false → endO t s B = false → Nodes ts level t (T2.map (·.2)))

/-! How a search ends. -/
theorem end_over {t : WT} {s B : Int} (h : B ≤ s) : endB t s B = false ∧ endS t s B = s ∧ endO t s B = true := by
  have := t.size_pos
  unfold endB endS endO
  refine ⟨?_, ?_, ?_⟩
  · rw [decide_eq_false (by omega)]; rfl
  · rw [if_neg (by omega)]; omega
  · exact decide_eq_true (by omega)
theorem end_leaf {t : WT} {s B : Int} (h : s < B) (h1 : t.size = 1) : endB t s B = t.res ∧ endS t s B = s + 1 ∧ endO t s B = false := by
  unfold endB endS endO
  rw [h1]
  refine ⟨?_, ?_, ?_⟩
  · rw [decide_eq_true (by omega)]; rfl
  · rw [if_pos (by omega)]; rfl
  · exact decide_eq_false (by omega)
theorem end_left {L : FaL} {a b : WT} {s B : Int} (h : s < B) (h1 : endB a (s + 1) B = true) : endB (.node L a b) s B = true ∧ endS (.node L a b) s B = endS a (s + 1) B ∧ endO (.node L a b) s B = false ∧ endO a (s + 1) B = false := by
  unfold endB at h1
  rw [Bool.and_eq_true, decide_eq_true_eq] at h1
  have h2 : (WT.node L a b).size = 1 + a.size := by simp [WT.size, h1.2]
  have h3 : (WT.node L a b).res = true := by simp [WT.res, h1.2]
  unfold endB endS endO
  rw [h2, h3]
  refine ⟨?_, ?_, ?_, ?_⟩
  · rw [decide_eq_true (by omega)]; rfl
  · rw [if_pos (by omega), if_pos (by omega)]; omega
  · exact decide_eq_false (by omega)
  · exact decide_eq_false (by omega)
theorem end_cut {L : FaL} {a b : WT} {s B : Int} (h : s < B) (h2 : endO a (s + 1) B = true) : endB a (s + 1) B = false ∧ endB (.node L a b) s B = false ∧ endS (.node L a b) s B = endS a (s + 1) B ∧ endO (.node L a b) s B = true := by
  unfold endO at h2
  rw [decide_eq_true_eq] at h2
  have h3 : 1 + a.size ≤ (WT.node L a b).size := by simp only [WT.size]; omega
  unfold endB endS endO
  refine ⟨?_, ?_, ?_, ?_⟩
  · rw [decide_eq_false (by omega)]; rfl
  · rw [decide_eq_false (by omega)]; rfl
  · rw [if_neg (by omega), if_neg (by omega)]; omega
  · exact decide_eq_true (by omega)
theorem end_right {L : FaL} {a b : WT} {s B : Int} (h : s < B) (h1 : endB a (s + 1) B = false) (h2 : endO a (s + 1) B = false) :
    a.res = false ∧ endS a (s + 1) B = s + 1 + a.size ∧ endB (.node L a b) s B = endB b (endS a (s + 1) B) B ∧ endS (.node L a b) s B = endS b (endS a (s + 1) B) B ∧ endO (.node L a b) s B = endO b (endS a (s + 1) B) B := by
  unfold endO at h2
  rw [decide_eq_false_iff_not] at h2
  unfold endB at h1
  rw [decide_eq_true (by omega), Bool.true_and] at h1
  have h4 : (WT.node L a b).size = 1 + a.size + b.size := by simp [WT.size, h1]
  have h5 : (WT.node L a b).res = b.res := by simp [WT.res, h1]
  have h6 : endS a (s + 1) B = s + 1 + a.size := by unfold endS; rw [if_pos (by omega)]
  refine ⟨h1, h6, ?_, ?_, ?_⟩
  · unfold endB
    rw [h6, h4, h5]
    congr 1
    exact decide_eq_decide.2 (by omega)
  · unfold endS at *
    rw [h6, h4]
    by_cases h7 : s + ((1 + a.size + b.size : Nat) : Int) ≤ B
    · rw [if_pos h7, if_pos (by omega)]; omega
    · rw [if_neg h7, if_neg (by omega)]; omega
  · unfold endO
    rw [h6, h4]
    exact decide_eq_decide.2 (by omega)

theorem Tryz.infoNode : (Tryz.prog.info? 70).map (fun i => (i.zero, i.size, i.bytes)) = some (some (.agg #[.slice none 0 0]), 1, 24) := by kernel_rfl
theorem eltNode : Elt Tryz.prog 33 70 1 24 (.agg #[.slice none 0 0]) := by
  obtain ⟨i0, hi, hz0, hz1, hz2⟩ := info_parts Tryz.infoNode
  exact ⟨Tryz.underlying33, by decide, rfl, i0, hi, hz0, hz1, hz2⟩
theorem neq_nil (w : World) (a : Option Addr) (n c : Nat) : (binOp .neq 58 (.slice a n c) (.slice none 0 0)).run Tryz.prog w = .ok (.bool (!a.isNone)) w := by
  simp only [binOp]
  simp [Op.equal, Op.maxDepth, Lib.run_equalIn_slice_nil w 9999 58 3 a n c 0 0 Tryz.underlying58]

set_option maxRecDepth 100000 in
set_option maxHeartbeats 8000000 in
theorem walkCk_call (ts : List GTxn) (level B : Int) (tsv : Value) (w0 : World) (hg : GoodTs ts) (hv : RdTxns w0 tsv ts) (hB : i64 B) : ∀ (n : Nat) (L H : FaL) (m p : Nat) (s : Int) (vt fm : Value) (T : TrL) (w : World),
    SeS w0.heap.size p tsv level B s vt fm false T w → Below w0.heap.size w0 w → MapF w m H → SameF L H → FaOk ts L → (choicesM ts).length ≤ saidN ts L + n → (T.length : Int) = s → (B ≤ 34359738368 ∨ s + (treeM ts level n L).size ≤ 34359738368) →
    Calls Tryz.prog 40 #[.pointer (some ⟨p, 0, none⟩), .map (some m)] w (WalkQ ts level (treeM ts level n L) w0.heap.size p tsv B s T w) := by
  have HG := Lib.hid hg
  have HV := Lib.hid hv
  obtain ⟨ta, nt, tc, rfl, rfl, hmm, -⟩ := hv.at
  have hB2 := hB.2
  have hB1 := hB.1
  have hnn := neq_nil
  clear hg hv hB
  intro n
  induction n using Nat.strongRecOn with
  | ind n ih =>
    intro L H m p s vt fm T w hs hb hm hsf hfo hn hT hroom
    have HS := Lib.hid hs
    have HB := Lib.hid hb
    have HM := Lib.hid hm
    have HSF := Lib.hid hsf
    have HFO := Lib.hid hfo
    have HN := Lib.hid hn
    have HT := Lib.hid hT
    have HROOM := Lib.hid hroom
    have HIH := Lib.hid ih
    obtain ⟨at', ct, rfl⟩ := Gr.own_shape hs.row
    have hs0 : 0 ≤ s := by omega
    have hNw := HB.out.size
    clear hs hb hm hsf hfo hn hroom ih
    have b0 : w.cell? ⟨p, 0, none⟩ = some (.slice ta ts.length tc) := by rw [cell_of HS.out.box]; rfl
    have b2 : w.cell? ⟨p, 2, none⟩ = some (vi B) := by rw [cell_of HS.out.box]; rfl
    have b3 : w.cell? ⟨p, 3, none⟩ = some (vi s) := by rw [cell_of HS.out.box]; rfl
    have b6 : w.cell? ⟨p, 6, none⟩ = some (.bool false) := by rw [cell_of HS.out.box]; rfl
    have z3 := fun j => free_of HS.out.box j
    have z6 := fun j => free_of HS.out.box j
    clear hT
    go_enter Tryz.func40, Tryz.ntmps40
    by_cases hsB : s ≥ B
    · have HE := Lib.hid (end_over (t := treeM ts level n L) hsB)
      go_wp2
      go_quiet (fail)
      go_wp2_with fail
      go_ret
      have HS2 := Lib.hid ((HS.out.later ((below_drewN (Below.refl _ w) nq))).setO true)
      refine ⟨.slice at' T.length ct, fm, [], by (show Ending.returned (.bool false) = _; rw [HE.out.1]), ?_, (KeepS.of (below_drewN (Below.refl _ w) nq) hNw).trans (KeepS.set (by exact HS.out.box) HS.out.lt _), ?_, ?_⟩
      · rw [HE.out.2.1, HE.out.2.2, List.append_nil]; exact HS2.out
      · intro h; rw [HE.out.1] at h; cases h
      · intro _ h; rw [HE.out.2.2] at h; cases h
    · go_wp2
      go_quiet (fail)
      go_upto_region 5 with fail
      have HW2 := Lib.hid ((HS.out.later (below_drewN (Below.refl _ w) nq)).setS (s + 1))
      have HK2 := Lib.hid ((KeepS.of (below_drewN (Below.refl _ w) nq) hNw).trans (KeepS.set (i := 3) (by exact HS.out.box) HS.out.lt (vi (s + 1))))
      have hTl : T.length + 1 ≤ 68719476736 := by
        have h1 := HT.out
        have h2 := (treeM ts level n L).size_pos
        rcases HROOM.out with h | h <;> omega
      clear b0 b2 b3 b6 z3 z6
      have hsB' : s < B := by omega
      have hBk := Lib.hid (HB.out.trans HK2.out.below)
      have HM2 := Lib.hid (HK2.out.mapF HM.out)
      have HL2 := Lib.hid (SeS.plt HW2.out)
      generalize (w.drewN nq).setCell ⟨p, 3, none⟩ (vi (s + 1)) = w2 at *
      have HBd := Lib.hid ((Below.refl w2.heap.size w2).drew)
      have HRd := Lib.hid (HV.out.later (hBk.out.trans ((Below.refl w0.heap.size w2).drew)))
      have HMd := Lib.hid (FaV.of (HM2.out.below (w' := w2.drew) HBd.out HM2.out.lt))
      have HSM := Lib.hid (small_good (L := H) HG.out (by have := HFO.out.len; rw [HSF.out.len]; omega))
      have hNw2 : w0.heap.size ≤ w2.heap.size := hBk.out.size
      have b0 : w2.cell? ⟨p, 0, none⟩ = some (.slice ta ts.length tc) := by rw [cell_of HW2.out.box]; rfl
      have b1 : w2.cell? ⟨p, 1, none⟩ = some (vi level) := by rw [cell_of HW2.out.box]; rfl
      go_still_tail 9, (by kernel_rfl)
      change wpList _ _ _ _ _ w2.drew
      go_upto_region 7 with (first
        | (go_at_call 52; refine (broken_callN _ _ ts H 12 level w2.drew HRd.out HG.out.ok HMd.out HSM.out).mono ?_; rintro e3 w3 ⟨v3, l3, C, rfl, he3, ho3, hc3, hn3, hb3⟩; have HO3 := Lib.hid (own_mono ho3 hNw2); have HC3 := Lib.hid (show NodeC ts H level C from ⟨l3, he3, hc3⟩); have HN3 := Lib.hid hn3; have HB3 := Lib.hid (HBd.out.trans hb3); obtain ⟨a3, c3, rfl⟩ := Gr.own_shape ho3; have HW3 := Lib.hid (HW2.out.later HB3.out); have b4 : w3.cell? ⟨p, 4, none⟩ = some (.slice at' T.length ct) := (by rw [cell_of HW3.out.box]; rfl); have hw3 : w2.heap.size ≤ w3.heap.size := HB3.out.size; clear ho3 he3 hc3 hn3 hb3 b0 b1)
        | (at_builtin; refine wpList_append_src rfl _ _ 33 rfl eltNode w0.heap.size T.length _ (World.ownsRow.alloc HW3.out.row _) rfl 1 [.slice a3 C.length c3] (src_new (cs := #[.slice a3 C.length c3]) rfl rfl) rfl (by intro q hq; simp at hq; subst hq; rfl) (by omega) (by omega) (by simp; omega) ?_; intro v4 w4 ho4 hg4 _; have HO4 := Lib.hid ho4; have HG4 := Lib.hid hg4; obtain ⟨a4, c4, rfl⟩ := Gr.own_shape ho4; have HX4 := Lib.hid (own_box (World.ownsRow.alloc HW3.out.row (.cells #[.slice a3 C.length c3] 70)) (((Below.heap_alloc w3 (.cells #[.slice a3 C.length c3] 70) _ HW3.out.plt)).trans HW3.out.box) (by decide) hg4); have b4' : w4.cell? ⟨p, 4, none⟩ = some (.slice at' T.length ct) := (by rw [cell_of HX4.out]; rfl); have z4 := free_of HX4.out 4; clear ho4 hg4))
      have HWA := Lib.hid (HW3.out.later ((Below.refl _ _).alloc (Nat.le_refl _) (.cells #[.slice a3 C.length c3] 70)))
      have HW5 := Lib.hid (HWA.out.push HG4.out HO4.out (World.ownsRow.alloc HO3.out _))
      have HK5 := Lib.hid (HK2.out.trans (((KeepS.of HB3.out hNw2).trans (KeepS.of ((Below.refl w3.heap.size w3).alloc (Nat.le_refl _) (.cells #[.slice a3 C.length c3] 70)) (by omega))).trans ((KeepS.grown HWA.out.row HG4.out (by simp; omega)).trans (KeepS.set (i := 4) HX4.out HW3.out.lt (.slice a4 (T.length + 1) c4)))))
      clear b4 b4' z4
      generalize w4.setCell ⟨p, 4, none⟩ (.slice a4 (T.length + 1) c4) = w5 at *
      have HB5 := Lib.hid (HB.out.trans HK5.out.below)
      have HM5 := Lib.hid (HK5.out.mapF HM.out)
      have hNw5 := HB5.out.size
      have HBS := Lib.hid (brk_same (ts := ts) (level := level) HFO.out.pw HM.out.pairwise HSF.out.get)
      have hBrk := HC3.out.brk HG.out.len
      by_cases hC : C = []
      · subst hC
        have HNB := Lib.hid (show ¬ Brk ts L level from fun h => by have := hBrk.2 (HBS.out.1 h); simp at this)
        have e3 := HN3.out rfl
        simp only [List.length_nil, Value.slice.injEq, true_and] at e3
        obtain ⟨rfl, rfl⟩ := e3
        clear hBrk
        have HV5 := Lib.hid (HV.out.later HB5.out)
        have HNX := Lib.hid (nextM_same (ts := ts) HSF.out.get)
        have q5 := fun j => free_of HW5.out.box j
        have b5 : w5.cell? ⟨p, 5, none⟩ = some fm := by rw [cell_of HW5.out.box]; rfl
        have b0 : w5.cell? ⟨p, 0, none⟩ = some (.slice ta ts.length tc) := by rw [cell_of HW5.out.box]; rfl
        cases hx : nextM ts H with
        | none =>
          have HT' := Lib.hid (treeM_good (n := n) HNB.out (HNX.out.trans hx))
          have HE := Lib.hid (end_leaf (t := WT.good L) hsB' rfl)
          have HX := Lib.hid hx
          clear hx
          go_upto_region 11 with (go_at_call 62; refine (next_call _ ts m H w5 HV5.out HG.out.ok (by have := HG.out.len; omega) HM5.out).mono ?_; rw [HX.out]; rintro e6 w6 ⟨rfl, hb6⟩; have HB6 := Lib.hid hb6; have HW6 := Lib.hid (HW5.out.later hb6); clear hb6)
          have HA7 := Lib.hid ((Below.refl w6.heap.size w6).alloc (Nat.le_refl _) (.cells #[vi zeroC.kind, vi zeroC.key, vi zeroC.a, vi zeroC.b] 128))
          have HW7 := Lib.hid (HW6.out.later HA7.out)
          have hw6 : w5.heap.size ≤ w6.heap.size := HB6.out.size
          have HK7 := Lib.hid (HK5.out.trans ((KeepS.of HB6.out hNw5).trans (KeepS.of HA7.out (by omega))))
          clear q5 b5
          have q5 := free_of HW7.out.box 5
          have b5 : (w6.alloc (.cells #[vi zeroC.kind, vi zeroC.key, vi zeroC.a, vi zeroC.b] 128)).cell? ⟨p, 5, none⟩ = some fm := by rw [cell_of HW7.out.box]; rfl
          go_wp2_with fail
          go_ret
          have HW8 := Lib.hid (HW7.out.setF (.map (some m)))
          have HK8 := Lib.hid (HK7.out.trans (KeepS.set (i := 5) HW7.out.box HW7.out.lt (.map (some m))))
          refine ⟨.slice a4 (T.length + 1) c4, .map (some m), [(.slice none 0 0, [])], by (show Ending.returned (.bool true) = _; rw [HT'.out, HE.out.1]; rfl), ?_, HK8.out, ?_, ?_⟩
          · rw [HT'.out, HE.out.2.1, HE.out.2.2]; exact HW8.out
          · intro _; exact ⟨m, H, L, rfl, HK8.out.mapF HM.out, by rw [HT'.out]; rfl, HSF.out⟩
          · intro h; rw [HT'.out, HE.out.1] at h; cases h
        | some c =>
          have HX := Lib.hid hx
          have HXL := Lib.hid (HNX.out.trans hx)
          have hns := nextM_some (HNX.out.trans hx)
          have HNO := Lib.hid (show getM H c = none from by rw [← HSF.out.get]; exact hns.2)
          have HSC := Lib.hid ((choicesM_ok hns.1).small (by have := HG.out.len; omega))
          have hsn : ∀ so : Bool, saidN ts ((c, so) :: L) = saidN ts L + 1 ∧ saidN ts L < (choicesM ts).length := fun so => said_next (HNX.out.trans hx) (fun d => getM_cons _ _ _)
          obtain ⟨k, rfl⟩ : ∃ k, n = k + 1 := ⟨n - 1, by have := (hsn true).2; have := HN.out; omega⟩
          have HT' := Lib.hid (treeM_node (n := k) HNB.out (HNX.out.trans hx))
          have HSN := Lib.hid (show ∀ so : Bool, (choicesM ts).length ≤ saidN ts ((c, so) :: L) + k from fun so => by rw [(hsn so).1]; have := HN.out; omega)
          have HFN := Lib.hid (show ∀ so : Bool, FaOk ts ((c, so) :: L) from fun so => HFO.out.next (HNX.out.trans hx))
          have hszn := congrArg WT.size HT'.out
          simp only [WT.size] at hszn
          have HSZ := Lib.hid hszn
          obtain ⟨t1, ht1⟩ : ∃ t1, t1 = treeM ts level k ((c, true) :: L) := ⟨_, rfl⟩
          obtain ⟨t2, ht2⟩ : ∃ t2, t2 = treeM ts level k ((c, false) :: L) := ⟨_, rfl⟩
          rw [← ht1, ← ht2] at HT' HSZ
          have HT1 := Lib.hid ht1
          have HT2 := Lib.hid ht2
          clear hx hns hsn hszn ht1 ht2 q5 b5
          go_upto_region 13 with (go_at_call 62; refine (next_call _ ts m H w5 HV5.out HG.out.ok (by have := HG.out.len; omega) HM5.out).mono ?_; rw [HX.out]; rintro e6 w6 ⟨rfl, hb6⟩; have HB6 := Lib.hid hb6; have HW6 := Lib.hid (HW5.out.later hb6); clear hb6)
          have HA7 := Lib.hid ((Below.refl w6.heap.size w6).alloc (Nat.le_refl _) (.cells #[vi c.kind, vi c.key, vi c.a, vi c.b] 128))
          have HW7 := Lib.hid (HW6.out.later HA7.out)
          have hw6 : w5.heap.size ≤ w6.heap.size := HB6.out.size
          have HK7 := Lib.hid (HK5.out.trans ((KeepS.of HB6.out hNw5).trans (KeepS.of HA7.out (by omega))))
          have HX7 := Lib.hid (alloc_at w6 (.cells #[vi c.kind, vi c.key, vi c.a, vi c.b] 128))
          have hw7 : (w6.alloc (.cells #[vi c.kind, vi c.key, vi c.a, vi c.b] 128)).heap.size = w6.heap.size + 1 := by simp
          generalize w6.alloc (.cells #[vi c.kind, vi c.key, vi c.a, vi c.b] 128) = w7 at *
          have HM7 := Lib.hid (HK7.out.mapF HM.out)
          have x0 : w7.cell? ⟨w6.heap.size, 0, none⟩ = some (vi c.kind) := by rw [cell_of HX7.out]; rfl
          have x1 : w7.cell? ⟨w6.heap.size, 1, none⟩ = some (vi c.key) := by rw [cell_of HX7.out]; rfl
          have x2 : w7.cell? ⟨w6.heap.size, 2, none⟩ = some (vi c.a) := by rw [cell_of HX7.out]; rfl
          have x3 : w7.cell? ⟨w6.heap.size, 3, none⟩ = some (vi c.b) := by rw [cell_of HX7.out]; rfl
          have HTT := Lib.hid (show ((T ++ [((.slice none 0 0 : Value), ([] : List Nat))]).length : Int) = s + 1 from by have := HT.out; simp; omega)
          have HR1 := Lib.hid (show B ≤ 34359738368 ∨ s + 1 + (treeM ts level k ((c, true) :: L)).size ≤ 34359738368 from by
            rcases HROOM.out with h | h
            · exact .inl h
            · right
              rw [← HT1.out]
              have := HSZ.out
              omega)
          cases h1 : endB t1 (s + 1) B with
          | true =>
            have HE1 := Lib.hid h1
            have HE := Lib.hid (end_left (L := L) (b := t2) hsB' h1)
            clear h1
            go_wp2_with (first
              | (go_at_call 40; ((with_reducible refine (HIH.out k (by omega) ((c, true) :: L) H1 m1 p (s + 1) (.slice a4 (T.length + 1) c4) fm (T ++ [(.slice none 0 0, [])]) w8 HW8.out HB8.out HM8.out HS1.out (HFN.out true) (HSN.out true) HTT.out HR1.out).mono ?_); rw [← HT1.out]; rintro e9 w9 ⟨vt9, fm9, T9, e10, hs9, hk9, hf9, hn9⟩; rw [HE1.out] at e10; subst e10; have HS9 := Lib.hid hs9; have HK9 := Lib.hid hk9; have HF9 := Lib.hid hf9; have HN9 := Lib.hid hn9; clear hs9 hk9 hf9 hn9))
              | (go_at_call 63; ((with_reducible refine (with_call m H c true w7 HM7.out HSC.out HNO.out).mono ?_); rintro e8 w8 ⟨H1, m1, rfl, hm1, hM8, hg8, hl8, hb8⟩; have HM8 := Lib.hid hM8; have HS1 := Lib.hid (HSF.out.next hg8 hl8); have HK8 := Lib.hid (HK7.out.trans (KeepS.of hb8 (by omega))); have HB8 := Lib.hid (HB.out.trans HK8.out.below); have HW8 := Lib.hid (HW7.out.later hb8); clear hm1 hM8 hg8 hl8 hb8)))
            go_ret
            refine ⟨vt9, fm9, (.slice none 0 0, []) :: T9, by (show Ending.returned (.bool true) = _; rw [HT'.out, HE.out.1]), ?_, HK8.out.trans HK9.out, ?_, ?_⟩
            · have h := HS9.out
              rw [HT'.out, HE.out.2.1, HE.out.2.2.1]
              rw [HE.out.2.2.2] at h
              simpa using h
            · intro _
              obtain ⟨m9, H9, F9, h2, h3, h4, h5⟩ := HF9.out HE1.out
              exact ⟨m9, H9, F9, h2, h3, by rw [HT'.out]; simp only [WT.found]; rw [h4]; rfl, h5⟩
            · intro h
              rw [HT'.out, HE.out.1] at h; cases h
          | false =>
            have HE1 := Lib.hid h1
            cases h2 : endO t1 (s + 1) B with
            | true =>
              have HE := Lib.hid (end_cut (L := L) (b := t2) hsB' h2)
              have HO1 := Lib.hid h2
              clear h1 h2
              go_wp2_with (first
                | (go_at_call 40; ((with_reducible refine (HIH.out k (by omega) ((c, true) :: L) H1 m1 p (s + 1) (.slice a4 (T.length + 1) c4) fm (T ++ [(.slice none 0 0, [])]) w8 HW8.out HB8.out HM8.out HS1.out (HFN.out true) (HSN.out true) HTT.out HR1.out).mono ?_); rw [← HT1.out]; rintro e9 w9 ⟨vt9, fm9, T9, e10, hs9, hk9, hf9, hn9⟩; rw [HE1.out] at e10; subst e10; rw [HO1.out] at hs9; have HS9 := Lib.hid hs9; have HK9 := Lib.hid hk9; have b6 : w9.cell? ⟨p, 6, none⟩ = some (.bool true) := (by rw [cell_of HS9.out.box]; rfl); clear hs9 hk9 hf9 hn9))
                | (go_at_call 63; ((with_reducible refine (with_call m H c true w7 HM7.out HSC.out HNO.out).mono ?_); rintro e8 w8 ⟨H1, m1, rfl, hm1, hM8, hg8, hl8, hb8⟩; have HM8 := Lib.hid hM8; have HS1 := Lib.hid (HSF.out.next hg8 hl8); have HK8 := Lib.hid (HK7.out.trans (KeepS.of hb8 (by omega))); have HB8 := Lib.hid (HB.out.trans HK8.out.below); have HW8 := Lib.hid (HW7.out.later hb8); clear hm1 hM8 hg8 hl8 hb8)))
              go_ret
              refine ⟨vt9, fm9, (.slice none 0 0, []) :: T9, by (show Ending.returned (.bool false) = _; rw [HT'.out, HE.out.2.1]), ?_, HK8.out.trans HK9.out, ?_, ?_⟩
              · have h := HS9.out
                rw [HT'.out, HE.out.2.2.1, HE.out.2.2.2]
                simpa using h
              · intro h
                rw [HT'.out, HE.out.2.1] at h; cases h
              · intro _ h
                rw [HT'.out, HE.out.2.2.2] at h; cases h
            | false =>
              have HE := Lib.hid (end_right (L := L) (b := t2) hsB' h1 h2)
              have HO1 := Lib.hid h2
              clear h1 h2
              go_wp2_with (first
                | (go_at_call 40; ((with_reducible refine (HIH.out k (by omega) ((c, false) :: L) H2 m2 p (endS t1 (s + 1) B) vt9 fm9 ((T ++ [(.slice none 0 0, [])]) ++ T9) w10 HW10.out HB10.out HM10.out HS2.out (HFN.out false) (HSN.out false) HTT2.out HR2.out).mono ?_); rw [← HT2.out]; rintro e11 w11 ⟨vt11, fm11, T11, e12, hs11, hk11, hf11, hn11⟩; subst e12; have HS11 := Lib.hid hs11; have HK11 := Lib.hid hk11; have HF11 := Lib.hid hf11; have HN11 := Lib.hid hn11; clear hs11 hk11 hf11 hn11))
                | (go_at_call 63; ((with_reducible refine (with_call m H c false w9 HM9.out HSC.out HNO.out).mono ?_); rintro e10 w10 ⟨H2, m2, rfl, hm2, hM10, hg10, hl10, hb10⟩; have HM10 := Lib.hid hM10; have HS2 := Lib.hid (HSF.out.next hg10 hl10); have HK10 := Lib.hid (HK89.out.trans (KeepS.of hb10 (by have := HK89.out.size; omega))); have HB10 := Lib.hid (HB.out.trans HK10.out.below); have HW10 := Lib.hid (HS9.out.later hb10); clear hm2 hM10 hg10 hl10 hb10))
                | (go_at_call 40; ((with_reducible refine (HIH.out k (by omega) ((c, true) :: L) H1 m1 p (s + 1) (.slice a4 (T.length + 1) c4) fm (T ++ [(.slice none 0 0, [])]) w8 HW8.out HB8.out HM8.out HS1.out (HFN.out true) (HSN.out true) HTT.out HR1.out).mono ?_); rw [← HT1.out]; rintro e9 w9 ⟨vt9, fm9, T9, e10, hs9, hk9, hf9, hn9⟩; rw [HE1.out] at e10; subst e10; rw [HO1.out] at hs9; have HS9 := Lib.hid hs9; have HK89 := Lib.hid (HK8.out.trans hk9); have HN9 := Lib.hid (hn9 HE1.out HO1.out); have HX9 := Lib.hid (hk9.still _ _ (HX8.out) (StillO.cells (by decide) (by decide))); have HM9 := Lib.hid (HK89.out.mapF HM.out); have b6 : w9.cell? ⟨p, 6, none⟩ = some (.bool false) := (by rw [cell_of HS9.out.box]; rfl); have x0 : w9.cell? ⟨w6.heap.size, 0, none⟩ = some (vi c.kind) := (by rw [cell_of HX9.out]; rfl); have x1 : w9.cell? ⟨w6.heap.size, 1, none⟩ = some (vi c.key) := (by rw [cell_of HX9.out]; rfl); have x2 : w9.cell? ⟨w6.heap.size, 2, none⟩ = some (vi c.a) := (by rw [cell_of HX9.out]; rfl); have x3 : w9.cell? ⟨w6.heap.size, 3, none⟩ = some (vi c.b) := (by rw [cell_of HX9.out]; rfl); have HTT2 := Lib.hid (show (((T ++ [((.slice none 0 0 : Value), ([] : List Nat))]) ++ T9).length : Int) = endS t1 (s + 1) B from (by have h3 := Nodes.len HE.out.1 HN9.out; have h4 := HE.out.2.1; have h5 := HTT.out; rw [List.length_map] at h3; rw [List.length_append]; omega)); have HR2 := Lib.hid (show B ≤ 34359738368 ∨ endS t1 (s + 1) B + (treeM ts level k ((c, false) :: L)).size ≤ 34359738368 from (by rcases HROOM.out with h | h; exact .inl h; right; rw [← HT2.out, HE.out.2.1]; have h3 := HSZ.out; rw [HE.out.1] at h3; simp only [Bool.false_eq_true, if_false] at h3; omega)); clear hs9 hk9 hf9 hn9))
                | (go_at_call 63; ((with_reducible refine (with_call m H c true w7 HM7.out HSC.out HNO.out).mono ?_); rintro e8 w8 ⟨H1, m1, rfl, hm1, hM8, hg8, hl8, hb8⟩; have HM8 := Lib.hid hM8; have HS1 := Lib.hid (HSF.out.next hg8 hl8); have HK8 := Lib.hid (HK7.out.trans (KeepS.of hb8 (by omega))); have HB8 := Lib.hid (HB.out.trans HK8.out.below); have HW8 := Lib.hid (HW7.out.later hb8); have HX8 := Lib.hid ((hb8.block _ (Array.getElem?_eq_some_iff.1 HX7.out).1).trans HX7.out); clear hm1 hM8 hg8 hl8 hb8)))
              go_ret
              refine ⟨vt11, fm11, (.slice none 0 0, []) :: (T9 ++ T11), by (show Ending.returned (.bool (endB t2 (endS t1 (s + 1) B) B)) = _; rw [HT'.out, HE.out.2.2.1]), ?_, HK10.out.trans HK11.out, ?_, ?_⟩
              · have h := HS11.out
                rw [HT'.out, HE.out.2.2.2.1, HE.out.2.2.2.2]
                simpa using h
              · intro h
                rw [HT'.out, HE.out.2.2.1] at h
                obtain ⟨m9, H9, F9, h2, h3, h4, h5⟩ := HF11.out h
                refine ⟨m9, H9, F9, h2, h3, ?_, h5⟩
                rw [HT'.out]
                simp only [WT.found]
                have h6 := WT.found_res t1
                rw [HE.out.1] at h6
                rw [h4]
                cases hq : t1.found with
                | none => rfl
                | some x => rw [hq] at h6; cases h6
              · intro h h'
                rw [HT'.out, HE.out.2.2.1] at h
                rw [HT'.out, HE.out.2.2.2.2] at h'
                rw [HT'.out]
                exact ⟨T9.map (·.2), T11.map (·.2), HN9.out, HN11.out h h', by simp⟩
      · have HBB := Lib.hid (show Brk ts L level from HBS.out.2 (hBrk.1 (List.length_pos_iff.2 hC)))
        have HT' := Lib.hid (treeM_bad (n := n) HBB.out)
        have HE := Lib.hid (end_leaf (t := WT.bad L) hsB' rfl)
        have HNC := Lib.hid (show Nodes ts level (.bad L) [C] from ⟨C, rfl, hC, HC3.out.same HFO.out.pw HM.out.pairwise HSF.out.get⟩)
        obtain ⟨g3, rfl⟩ : ∃ g3, a3 = some g3 := by
          rcases HO3.out.2 with ⟨_, h2⟩ | ⟨g, cap, cur, h1, _⟩
          · exact absurd (List.length_eq_zero_iff.1 h2) hC
          · simp only [Value.slice.injEq] at h1
            exact ⟨_, h1.1⟩
        clear hBrk hC
        go_wp2_with fail
        go_ret
        refine ⟨.slice a4 (T.length + 1) c4, fm, [(.slice (some g3) C.length c3, C)], by (show Ending.returned (.bool false) = _; rw [HT'.out, HE.out.1]; rfl), ?_, HK5.out, ?_, ?_⟩
        · rw [HT'.out, HE.out.2.1, HE.out.2.2]; exact HW5.out
        · intro h; rw [HT'.out, HE.out.1] at h; cases h
        · intro _ _; rw [HT'.out]; exact HNC.out
end Go.Proofs.YtnacoplokjdglaaGreat

namespace Go.Proofs.YtnacoplokjdglaaGreat
open Go.RowKit Go.Maps
/-- An operation of an event of kind k that may be. -/
structure RightOp (k : Int) (o : GOp) : Prop where
  good : GoodOp o
  wr : o.kind = 2 → o.val ≠ 0
  rd : o.kind = 1 → k = 1 → o.val = 0
/-- An event that may be, exactly. -/
structure RightEv (e : GEvent) : Prop where
  good : GoodEv e
  full : e.kind = 1 ∨ e.kind = 2 → e.ops ≠ []
  ops : ∀ o ∈ e.ops, RightOp e.kind o

/-- The last value written to a key. -/
def lstW : List GOp → Int → Option Int
  | [], _ => none
  | o :: l, key => (lstW l key).or (if o.kind = 2 ∧ o.key = key then some o.val else none)
theorem lstW_append (l m : List GOp) (key : Int) : lstW (l ++ m) key = (lstW m key).or (lstW l key) := by
  induction l with
  | nil => simp [lstW]
  | cons o l ih => rw [List.cons_append, lstW, ih, lstW, Option.or_assoc]
theorem lstW_snoc (l : List GOp) (o : GOp) (key : Int) : lstW (l ++ [o]) key = if o.kind = 2 ∧ o.key = key then some o.val else lstW l key := by
  rw [lstW_append]
  simp only [lstW, Option.none_or]
  split <;> simp
/-- Each read that its own transaction wrote ahead of sees that, as far as place n. -/
def OwnN (l : List GOp) (n : Nat) : Prop := ∀ (i : Nat) (o : GOp) (v : Int), i < n → l[i]? = some o → o.kind ≠ 2 → lstW (l.take i) o.key = some v → v = o.val
theorem OwnN.next {l : List GOp} {n : Nat} {o : GOp} (h : OwnN l n) (ho : l[n]? = some o) (hk : ∀ v, o.kind ≠ 2 → lstW (l.take n) o.key = some v → v = o.val) : OwnN l (n + 1) := by
  intro i o' v hlt ho' h2 hv
  rcases Nat.lt_or_ge i n with h' | h'
  · exact h i o' v h' ho' h2 hv
  · obtain rfl : i = n := by omega
    rw [ho] at ho'; cases ho'
    exact hk v h2 hv
/-- What was told is an end of what was asked. -/
def AnsOK (asked told : List GOp) : Prop := asked.length = told.length ∧ ShapeN asked told told.length ∧ OwnN told told.length
def EndOK (asked : List GOp) (e : GEvent) : Prop := if e.kind = 2 then AnsOK asked e.ops else e.ops = []
def endT (t : GTxn) (e : GEvent) : GTxn := if e.kind = 2 then ⟨t.client, 1, e.ops⟩ else if e.kind = 3 then ⟨t.client, 2, t.ops⟩ else t

/-- The written values, and those that some operations write; none: one is written twice. -/
def addW : List (Int × Bool) → List GOp → Option (List (Int × Bool))
  | wr, [] => some wr
  | wr, o :: l => if o.kind = 2 then (if (getM wr o.val).getD false then none else addW (putM wr o.val true) l) else addW wr l
/-- What is known behind some events. -/
structure HSt where
  ts : List GTxn
  op : List (Int × Int)
  wr : List (Int × Bool)
open Classical in
noncomputable def stepH (s : HSt) (e : GEvent) : Option HSt :=
  if RightEv e then
    match getM s.op e.client with
    | none => if e.kind = 1 then (addW s.wr e.ops).map (fun wr => ⟨s.ts ++ [⟨e.client, 0, e.ops⟩], putM s.op e.client s.ts.length, wr⟩) else none
    | some k => if e.kind = 1 then none else
      match s.ts[k.toNat]? with
      | none => none
      | some t => if EndOK t.ops e then some ⟨s.ts.set k.toNat (endT t e), delM s.op e.client, s.wr⟩ else none
  else none
noncomputable def runH : HSt → List GEvent → Option HSt
  | s, [] => some s
  | s, e :: es => (stepH s e).bind fun s' => runH s' es
def hst0 : HSt := ⟨[], [], []⟩
/-- The transactions of a history; none: it is no history. -/
noncomputable def histH (es : List GEvent) : Option (List GTxn) := (runH hst0 es).map (·.ts)

theorem runH_append (s : HSt) (es fs : List GEvent) : runH s (es ++ fs) = (runH s es).bind fun s' => runH s' fs := by
  induction es generalizing s with
  | nil => rfl
  | cons e es ih =>
    rw [List.cons_append, runH, runH, Option.bind_assoc]
    congr 1
    funext s'
    exact ih s'
theorem runH_next {es : List GEvent} {i : Nat} {e : GEvent} {s : HSt} (h : runH hst0 (es.take i) = some s) (he : es[i]? = some e) : runH hst0 (es.take (i + 1)) = stepH s e := by
  rw [take_at he, runH_append, h]
  simp only [Option.bind_some, runH]
  cases stepH s e <;> rfl
theorem runH_none {es : List GEvent} {i : Nat} (h : runH hst0 (es.take i) = none) : histH es = none := by
  unfold histH
  have : runH hst0 es = none := by
    rw [← List.take_append_drop i es, runH_append, h]; rfl
  rw [this]; rfl
theorem stepH_wrong {s : HSt} {e : GEvent} (h : ¬ RightEv e) : stepH s e = none := by unfold stepH; rw [if_neg h]
theorem stepH_new {s : HSt} {e : GEvent} (h : RightEv e) (hk : getM s.op e.client = none) (h1 : e.kind = 1) : stepH s e = (addW s.wr e.ops).map (fun wr => ⟨s.ts ++ [⟨e.client, 0, e.ops⟩], putM s.op e.client s.ts.length, wr⟩) := by
  unfold stepH; rw [if_pos h, hk]; simp only; rw [if_pos h1]
theorem stepH_idle {s : HSt} {e : GEvent} (hk : getM s.op e.client = none) (h1 : e.kind ≠ 1) : stepH s e = none := by
  unfold stepH
  simp [hk, h1]
theorem stepH_busy {s : HSt} {e : GEvent} {k : Int} (hk : getM s.op e.client = some k) (h1 : e.kind = 1) : stepH s e = none := by
  unfold stepH
  simp [hk, h1]
theorem stepH_end {s : HSt} {e : GEvent} {k : Int} {t : GTxn} (h : RightEv e) (hk : getM s.op e.client = some k) (h1 : e.kind ≠ 1) (ht : s.ts[k.toNat]? = some t) (ho : EndOK t.ops e) : stepH s e = some ⟨s.ts.set k.toNat (endT t e), delM s.op e.client, s.wr⟩ := by
  unfold stepH; rw [if_pos h, hk]; simp only; rw [if_neg h1, ht]; simp only; rw [if_pos ho]
theorem stepH_other {s : HSt} {e : GEvent} {k : Int} {t : GTxn} (hk : getM s.op e.client = some k) (ht : s.ts[k.toNat]? = some t) (ho : ¬ EndOK t.ops e) : stepH s e = none := by
  unfold stepH
  split
  · rw [hk]; simp only
    split
    · rfl
    · rw [ht]; simp only; rw [if_neg ho]
  · rfl
/-- What a step that is one gives. -/
theorem stepH_some {s s' : HSt} {e : GEvent} (h : stepH s e = some s') : RightEv e ∧ (getM s.op e.client = none ∧ e.kind = 1 ∧ (∃ wr, addW s.wr e.ops = some wr ∧ s' = ⟨s.ts ++ [⟨e.client, 0, e.ops⟩], putM s.op e.client s.ts.length, wr⟩) ∨
    ∃ k t, getM s.op e.client = some k ∧ e.kind ≠ 1 ∧ s.ts[k.toNat]? = some t ∧ EndOK t.ops e ∧ s' = ⟨s.ts.set k.toNat (endT t e), delM s.op e.client, s.wr⟩) := by
  unfold stepH at h
  split at h
  · rename_i hr
    refine ⟨hr, ?_⟩
    cases hk : getM s.op e.client with
    | none =>
      rw [hk] at h
      simp only at h
      split at h
      · rename_i h1
        rw [Option.map_eq_some_iff] at h
        obtain ⟨wr, hw, rfl⟩ := h
        exact .inl ⟨rfl, h1, wr, hw, rfl⟩
      · cases h
    | some k =>
      rw [hk] at h
      simp only at h
      split at h
      · cases h
      · rename_i h1
        cases ht : s.ts[k.toNat]? with
        | none => rw [ht] at h; cases h
        | some t =>
          rw [ht] at h
          simp only at h
          split at h
          · rename_i ho
            cases h
            exact .inr ⟨k, t, rfl, h1, ht, ho, rfl⟩
          · cases h
  · cases h

/-! The written values. -/
def isWr (wr : List (Int × Bool)) (v : Int) : Prop := (getM wr v).getD false = true
theorem isWr_put {wr : List (Int × Bool)} {v x : Int} : isWr (putM wr v true) x ↔ v = x ∨ isWr wr x := by
  unfold isWr
  rw [getM_put]
  split <;> simp_all
/-- Operations that write nothing twice. -/
def FreshW (wr : List (Int × Bool)) (l : List GOp) : Prop := ∀ (i : Nat) (o : GOp), l[i]? = some o → o.kind = 2 → ¬ isWr wr o.val ∧ ∀ (j : Nat) (p : GOp), j < i → l[j]? = some p → p.kind = 2 → p.val ≠ o.val
theorem addW_some {l : List GOp} : ∀ {wr wr' : List (Int × Bool)}, addW wr l = some wr' → FreshW wr l ∧ ∀ v, isWr wr' v ↔ isWr wr v ∨ ∃ o ∈ l, o.kind = 2 ∧ o.val = v := by
  induction l with
  | nil => intro wr wr' h; simp only [addW] at h; cases h; exact ⟨fun i o h => by simp at h, fun v => by simp⟩
  | cons o l ih =>
    intro wr wr' h
    rw [addW] at h
    split at h
    · rename_i h2
      split at h
      · cases h
      · rename_i hn
        obtain ⟨k1, k2⟩ := ih h
        refine ⟨fun i q hi hq => ?_, fun v => ?_⟩
        · cases i with
          | zero => simp at hi; subst hi; exact ⟨hn, fun j p hj => by omega⟩
          | succ i =>
            have := k1 i q (by simpa using hi) hq
            refine ⟨fun hw => this.1 (isWr_put.2 (.inr hw)), fun j p hj hp hp2 => ?_⟩
            cases j with
            | zero => simp at hp; subst hp; exact fun e => this.1 (isWr_put.2 (.inl e))
            | succ j => exact this.2 j p (by omega) (by simpa using hp) hp2
        · rw [k2, isWr_put]
          simp only [List.mem_cons, exists_eq_or_imp, h2, true_and]
          constructor
          · rintro ((rfl | h) | h)
            · exact .inr (.inl rfl)
            · exact .inl h
            · exact .inr (.inr h)
          · rintro (h | rfl | h)
            · exact .inl (.inr h)
            · exact .inl (.inl rfl)
            · exact .inr h
    · rename_i h2
      obtain ⟨k1, k2⟩ := ih h
      refine ⟨fun i q hi hq => ?_, fun v => ?_⟩
      · cases i with
        | zero => simp at hi; subst hi; exact absurd hq h2
        | succ i =>
          have := k1 i q (by simpa using hi) hq
          refine ⟨this.1, fun j p hj hp hp2 => ?_⟩
          cases j with
          | zero => simp at hp; subst hp; exact absurd hp2 h2
          | succ j => exact this.2 j p (by omega) (by simpa using hp) hp2
      · rw [k2]
        simp [h2]
/-! What holds of the transactions behind some events. -/
structure HInv (s : HSt) (n : Nat) : Prop where
  len : s.ts.length ≤ n
  txn : ∀ t ∈ s.ts, (0 ≤ t.state ∧ t.state ≤ 2) ∧ (∀ o ∈ t.ops, GoodOp o) ∧ t.ops.length ≤ 12
  wr : ∀ t ∈ s.ts, ∀ o ∈ t.ops, o.kind = 2 → isWr s.wr o.val
  uniq : Uniq s.ts
  op : ∀ c k, getM s.op c = some k → 0 ≤ k ∧ k.toNat < s.ts.length
theorem shape_writes {l m : List GOp} (h : l.length = m.length) (hs : ShapeN l m m.length) : ∀ o ∈ m, o.kind = 2 → ∃ p ∈ l, p.kind = 2 ∧ p.val = o.val := by
  intro o ho h2
  obtain ⟨i, hi⟩ := List.mem_iff_getElem?.1 ho
  have hlt := (List.getElem?_eq_some_iff.1 hi).1
  obtain ⟨p, hp⟩ := some_at (l := l) (k := i) (by omega)
  obtain ⟨h3, _, h5⟩ := hs i o p hlt hi hp
  exact ⟨p, List.mem_of_getElem? hp, by rw [← h3]; exact h2, (h5 h2).symm⟩
theorem endT_ops (t : GTxn) (e : GEvent) (h : EndOK t.ops e) : ∀ o ∈ (endT t e).ops, o.kind = 2 → ∃ p ∈ t.ops, p.kind = 2 ∧ p.val = o.val := by
  intro o ho h2
  unfold endT at ho
  unfold EndOK at h
  split at ho
  · rename_i hk
    rw [if_pos hk] at h
    exact shape_writes h.1 h.2.1 o ho h2
  · split at ho <;> exact ⟨o, ho, h2, rfl⟩
theorem HInv.step {s s' : HSt} {n : Nat} {e : GEvent} (h : HInv s n) (hs : stepH s e = some s') : HInv s' (n + 1) := by
  obtain ⟨hr, ⟨hk, h1, wr, hw, rfl⟩ | ⟨k, t, hk, h1, ht, ho, rfl⟩⟩ := stepH_some hs
  · obtain ⟨hf, hin⟩ := addW_some hw
    refine ⟨by have := h.len; simp; omega, fun t ht => ?_, fun t ht o ho h2 => ?_, ?_, fun c k hc => ?_⟩
    · rcases List.mem_append.1 ht with ht | ht
      · exact h.txn t ht
      · simp at ht; subst ht; exact ⟨⟨Int.le_refl _, by show (0 : Int) ≤ 2; decide⟩, fun o ho => (hr.ops o ho).good, hr.good.len⟩
    · rw [hin]
      rcases List.mem_append.1 ht with ht | ht
      · exact .inl (h.wr t ht o ho h2)
      · simp at ht; subst ht; exact .inr ⟨o, ho, h2, rfl⟩
    · have key : ∀ t ∈ s.ts, ∀ o ∈ t.ops, ∀ p ∈ e.ops, o.kind = 2 → p.kind = 2 → o.val ≠ p.val := by
        intro t ht o ho p hp h2 h3 hv
        obtain ⟨i, hi⟩ := List.mem_iff_getElem?.1 hp
        have := (hf i p hi h3).1
        rw [← hv] at this
        exact this (h.wr t ht o ho h2)
      intro a b t u ha hb o ho p hp h2 h3 hv
      rw [List.getElem?_append] at ha hb
      split at ha <;> split at hb
      · exact h.uniq a b t u ha hb o ho p hp h2 h3 hv
      · have hu := List.mem_of_getElem? hb
        simp at hu; subst hu
        exact absurd hv (key t (List.mem_of_getElem? ha) o ho p hp h2 h3)
      · have hu := List.mem_of_getElem? ha
        simp at hu; subst hu
        exact absurd hv.symm (key u (List.mem_of_getElem? hb) p hp o ho h3 h2)
      · have h4 := (List.getElem?_eq_some_iff.1 ha).1
        have h5 := (List.getElem?_eq_some_iff.1 hb).1
        simp at h4 h5; omega
    · rw [getM_put] at hc
      split at hc
      · cases hc; simp
      · have := h.op c k hc; simp; omega
  · have hk' := h.op _ _ hk
    have htm := List.mem_of_getElem? ht
    have hto := h.txn t htm
    have hee := endT_ops t e ho
    refine ⟨by have := h.len; simp; omega, fun u hu => ?_, fun u hu o ho h2 => ?_, ?_, fun c k hc => ?_⟩
    · rcases List.mem_or_eq_of_mem_set hu with hu | rfl
      · exact h.txn u hu
      · unfold endT
        split
        · exact ⟨⟨by show (0 : Int) ≤ 1; decide, by show (1 : Int) ≤ 2; decide⟩, fun o ho => (hr.ops o ho).good, hr.good.len⟩
        · split
          · exact ⟨⟨by show (0 : Int) ≤ 2; decide, by show (2 : Int) ≤ 2; decide⟩, hto.2.1, hto.2.2⟩
          · exact hto
    · rcases List.mem_or_eq_of_mem_set hu with hu | rfl
      · exact h.wr u hu o ho h2
      · obtain ⟨p, hp, h3, h4⟩ := hee o ho h2
        rw [← h4]; exact h.wr t htm p hp h3
    · intro a b x y ha hb o ho p hp h2 h3 hv
      rw [List.getElem?_set] at ha hb
      split at ha <;> split at hb
      · omega
      · rename_i e1 e2
        subst e1
        rw [if_pos hk'.2] at ha
        cases ha
        obtain ⟨q, hq, h5, h6⟩ := hee o ho h2
        exact h.uniq _ _ t y ht hb q hq p hp h5 h3 (h6.trans hv)
      · rename_i e1 e2
        subst e2
        rw [if_pos hk'.2] at hb
        cases hb
        obtain ⟨q, hq, h5, h6⟩ := hee p hp h3
        exact h.uniq _ _ x t ha ht o ho q hq h2 h5 (hv.trans h6.symm)
      · exact h.uniq a b x y ha hb o ho p hp h2 h3 hv
    · rw [getM_del] at hc
      split at hc
      · cases hc
      · have := h.op c k hc; simpa using this
theorem HInv.start : HInv hst0 0 := ⟨Nat.le_refl _, (fun t h => by cases h), (fun t h => by cases h), (fun i j t u h => by simp [hst0] at h), (fun c k h => by simp [hst0, getM_nil] at h)⟩
theorem runH_inv {es : List GEvent} : ∀ {i : Nat} {s : HSt}, i ≤ es.length → runH hst0 (es.take i) = some s → HInv s i := by
  intro i
  induction i with
  | zero => intro s _ h; simp [runH] at h; subst h; exact HInv.start
  | succ i ih =>
    intro s hi h
    obtain ⟨e, he⟩ := some_at (l := es) (k := i) (by omega)
    cases hr : runH hst0 (es.take i) with
    | none => rw [take_at he, runH_append, hr] at h; cases h
    | some s0 =>
      rw [runH_next hr he] at h
      exact (ih (by omega) hr).step h
theorem HInv.good {s : HSt} {n : Nat} (h : HInv s n) (hn : n ≤ 60) : GoodTs s.ts := ⟨by have := h.len; omega, h.txn, h.uniq⟩
theorem hist_good {es : List GEvent} {ts : List GTxn} (hes : es.length ≤ 60) (h : histH es = some ts) : GoodTs ts ∧ ts.length ≤ es.length := by
  unfold histH at h
  rw [Option.map_eq_some_iff] at h
  obtain ⟨s, hs, rfl⟩ := h
  have hi := runH_inv (es := es) (i := es.length) (Nat.le_refl _) (by rw [List.take_length]; exact hs)
  exact ⟨hi.good hes, hi.len⟩
end Go.Proofs.YtnacoplokjdglaaGreat

namespace Go.Proofs.YtnacoplokjdglaaGreat
open Go.RowKit Go.Maps
/-- What hist.check answers. -/
def ChkQ (e : GEvent) (w : World) (r : Ending) (w' : World) : Prop := ∃ n : Int, r = .returned (.int .i64 n) ∧ (n = 0 ↔ RightEv e) ∧ Below w.heap.size w w'
theorem ChkQ.bad {e : GEvent} {w w' : World} {r : Ending} {n : Int} (h : r = .returned (.int .i64 n)) (h0 : n ≠ 0) (hn : ¬ RightEv e) (hb : Below w.heap.size w w') : ChkQ e w r w' := ⟨n, h, ⟨(fun h => absurd h h0), fun h => absurd h hn⟩, hb⟩
theorem ChkQ.good {e : GEvent} {w w' : World} {r : Ending} (h : r = .returned (.int .i64 0)) (hg : RightEv e) (hb : Below w.heap.size w w') : ChkQ e w r w' := ⟨0, h, ⟨fun _ => hg, fun _ => rfl⟩, hb⟩

set_option maxRecDepth 100000 in
set_option maxHeartbeats 4000000 in
theorem check_call (e : GEvent) (v : Value) (w : World) (hv : RdOps w v e.ops) :
    Calls Tryz.prog 57 #[.agg #[vi e.kind, vi e.client, v]] w (ChkQ e w) := by
  obtain ⟨kind, client, l⟩ := e
  have hB : Below w.heap.size w (w.alloc (.cells #[vi kind, vi client, v] 53)) := (Below.refl _ _).alloc (Nat.le_refl _) _
  have hV := hv.later hB
  have HV := Lib.hid hV
  have HB := Lib.hid hB
  obtain ⟨a, len, cap, rfl, rfl, hm, -⟩ := hv.at
  clear hv hV hB
  show Calls Tryz.prog 57 #[.agg #[vi kind, vi client, .slice a l.length cap]] w _
  go_enter Tryz.func57, Tryz.ntmps57
  by_cases a1 : kind < 1
  · go_wp2_with fail
    go_ret
    exact .bad rfl (by decide) (fun h => absurd (show 1 ≤ kind from h.good.kind0) (by omega)) HB.out
  by_cases a2 : kind > 4
  · go_wp2_with fail
    go_ret
    exact .bad rfl (by decide) (fun h => absurd (show kind ≤ 4 from h.good.kind1) (by omega)) HB.out
  by_cases a3 : client < 1
  · go_wp2_with fail
    go_ret
    exact .bad rfl (by decide) (fun h => absurd (show 1 ≤ client from h.good.cl0) (by omega)) HB.out
  by_cases a4 : client > 16
  · go_wp2_with fail
    go_ret
    exact .bad rfl (by decide) (fun h => absurd (show client ≤ 16 from h.good.cl1) (by omega)) HB.out
  by_cases a5 : (l.length : Int) > 12
  · go_wp2_with fail
    go_ret
    exact .bad rfl (by decide) (fun h => absurd (show l.length ≤ 12 from h.good.len) (by omega)) HB.out
  go_upto_region 3 with fail
  go_cut [43] (fun r wx => (∃ b, r = .bool b ∧ (b = true → ¬ RightEv ⟨kind, client, l⟩) ∧ (b = false → kind = 1 ∨ kind = 2 → l ≠ [])) ∧ wx = w.alloc (.cells #[vi kind, vi client, .slice a l.length cap] 53))
  case first =>
    by_cases b3 : kind = 3
    · have c3 := bne_f b3
      have K := Lib.hid b3
      clear b3
      go_wp2_with fail
      go_meet
      exact ⟨⟨false, rfl, (fun h => by cases h), fun _ h => absurd h (by have := K.out; omega)⟩, rfl⟩
    · have c3 := bne_t b3
      have K := Lib.hid b3
      clear b3
      by_cases b4 : kind = 4
      · have c4 := bne_f b4
        have K2 := Lib.hid b4
        clear b4
        go_wp2_with fail
        go_meet
        exact ⟨⟨false, rfl, (fun h => by cases h), fun _ h => absurd h (by have := K2.out; omega)⟩, rfl⟩
      · have c4 := bne_t b4
        have K2 := Lib.hid b4
        clear b4
        by_cases b1 : (l.length : Int) = 0
        · have c1 := beq_t b1
          have L0 := Lib.hid (show l = [] from List.length_eq_zero_iff.1 (by omega))
          have K3 := Lib.hid (show kind = 1 ∨ kind = 2 by have := K.out; have := K2.out; omega)
          clear b1
          go_wp2_with fail
          go_meet
          exact ⟨⟨true, rfl, (fun _ h => h.full K3.out L0.out), fun h => by cases h⟩, rfl⟩
        · have c1 := beq_f b1
          have L0 := Lib.hid (show l ≠ [] from fun h => b1 (by rw [h]; rfl))
          clear b1
          go_wp2_with fail
          go_meet
          exact ⟨⟨false, rfl, (fun h => by cases h), fun _ _ => L0.out⟩, rfl⟩
  case rest =>
    obtain ⟨⟨b, rfl, hbt, hbf⟩, rfl⟩ := hcut
    cases b with
    | true =>
      have HBT := Lib.hid (hbt rfl)
      clear hbt hbf
      go_wp2_with fail
      go_ret
      exact .bad rfl (by decide) HBT.out HB.out
    | false =>
      have HBF := Lib.hid (hbf rfl)
      clear hbt hbf
      have HB1 := Lib.hid (show Below w.heap.size w (w.alloc (.cells #[vi kind, vi client, .slice a l.length cap] 53)) from HB.out)
      have q0 : (w.alloc (.cells #[vi kind, vi client, .slice a l.length cap] 53)).cell? ⟨w.heap.size, 0, none⟩ = some (vi kind) := by rw [cell_of (alloc_at _ _)]; rfl
      have hw1 : (w.alloc (.cells #[vi kind, vi client, .slice a l.length cap] 53)).heap.size = w.heap.size + 1 := by simp
      have Q0 := Lib.hid q0
      clear q0
      go_wp2_with fail
      generalize w.alloc (.cells #[vi kind, vi client, .slice a l.length cap] 53) = w1 at *
      go_loopw [47] (fun i wr => ∃ k : Nat, k ≤ l.length ∧ i = .int .i64 k ∧ Hid (∀ j o, j < k → l[j]? = some o → RightOp kind o) ∧ Below w1.heap.size w1 wr) (fun i _ => l.length - (intOf i).toNat)
      case atStart => exact ⟨0, Nat.zero_le _, rfl, Lib.hid (fun j u hj => absurd hj (Nat.not_lt_zero _)), Below.refl _ _⟩
      case round =>
        obtain ⟨wk, rfl⟩ : ∃ wk : World, wk = wr := ⟨_, rfl⟩
        obtain ⟨k, hk, rfl, HN, hb⟩ := hrel
        have HBk := Lib.hid hb
        have hwk := hb.size
        have hwk2 : w.heap.size < wk.heap.size := by omega
        have q1 := cell_later hb Q0.out
        clear hb
        by_cases hlt : k < l.length
        · obtain ⟨o, ho⟩ := some_at hlt
          obtain ⟨_, _, _, e5, -, -, hcl⟩ := HV.out.at
          cases e5
          obtain ⟨b, off, rfl, k0', k1', k2'⟩ := hcl k o ho
          have k0 := cell_later HBk.out k0'
          have k1 := cell_later HBk.out k1'
          have k2 := cell_later HBk.out k2'
          have HO := Lib.hid (List.mem_of_getElem? ho)
          have HNX := Lib.hid (show RightOp kind o → ∀ j o, j < k + 1 → l[j]? = some o → RightOp kind o from fun hr j o' hj ho' => by
            rcases Nat.lt_or_ge j k with h | h
            · exact HN.out j o' h ho'
            · obtain rfl : j = k := by omega
              rw [ho] at ho'; cases ho'; exact hr)
          have HBA := Lib.hid (HB1.out.trans ((HBk.out.alloc hwk (.cells #[vi o.kind, vi o.key, vi o.val] 51)).mono HB1.out.size))
          have hkI : (k : Int) < (l.length : Int) := by omega
          clear hcl ho k0' k1' k2'
          by_cases g1 : o.kind = 1
          · have G1 := Lib.hid g1
            have e1 := beq_t g1
            have e1' := bne_f g1
            clear g1
            by_cases d1 : o.key < 0
            · have HNO := Lib.hid (show ¬ RightEv ⟨kind, client, l⟩ from fun h => absurd (h.ops o HO.out).good.key0 (by omega))
              go_wp2_with fail
              go_ret
              exact .bad rfl (by decide) HNO.out HBA.out
            by_cases d2 : o.key ≥ 16
            · have HNO := Lib.hid (show ¬ RightEv ⟨kind, client, l⟩ from fun h => absurd (h.ops o HO.out).good.key1 (by omega))
              go_wp2_with fail
              go_ret
              exact .bad rfl (by decide) HNO.out HBA.out
            by_cases d3 : o.val < 0
            · have HNO := Lib.hid (show ¬ RightEv ⟨kind, client, l⟩ from fun h => absurd (h.ops o HO.out).good.val0 (by omega))
              go_wp2_with fail
              go_ret
              exact .bad rfl (by decide) HNO.out HBA.out
            by_cases d4 : o.val ≥ 1099511627776
            · have HNO := Lib.hid (show ¬ RightEv ⟨kind, client, l⟩ from fun h => absurd (h.ops o HO.out).good.val1 (by omega))
              go_wp2_with fail
              go_ret
              exact .bad rfl (by decide) HNO.out HBA.out
            have HGO := Lib.hid (show GoodOp o from ⟨.inl G1.out, by omega, by omega, by omega, by omega⟩)
            have G2 := Lib.hid (show o.kind ≠ 2 from by have := G1.out; omega)
            by_cases g4 : kind = 1
            · have f4 := beq_t g4
              have G4 := Lib.hid g4
              clear g4
              by_cases g3 : o.val = 0
              · have f3 := bne_f g3
                have HR := Lib.hid (HNX.out ⟨HGO.out, fun h => absurd h G2.out, fun _ _ => g3⟩)
                clear g3
                go_wp2_with fail
                go_roundw
                case rel => exact ⟨k + 1, by omega, by go_num, HR, HBk.out.alloc hwk _⟩
                case measure => simp [intOf]; omega
              · have f3 := bne_t g3
                have HNO := Lib.hid (show ¬ RightEv ⟨kind, client, l⟩ from fun h => g3 ((h.ops o HO.out).rd G1.out G4.out))
                clear g3
                go_wp2_with fail
                go_ret
                exact .bad rfl (by decide) HNO.out HBA.out
            · have f4 := beq_f g4
              have HR := Lib.hid (HNX.out ⟨HGO.out, fun h => absurd h G2.out, fun _ h => absurd h g4⟩)
              clear g4
              go_wp2_with fail
              go_roundw
              case rel => exact ⟨k + 1, by omega, by go_num, HR, HBk.out.alloc hwk _⟩
              case measure => simp [intOf]; omega
          · have G1 := Lib.hid g1
            have e1 := beq_f g1
            have e1' := bne_t g1
            clear g1
            by_cases g2 : o.kind = 2
            · have G2 := Lib.hid g2
              have e2 := bne_f g2
              clear g2
              by_cases d1 : o.key < 0
              · have HNO := Lib.hid (show ¬ RightEv ⟨kind, client, l⟩ from fun h => absurd (h.ops o HO.out).good.key0 (by omega))
                go_wp2_with fail
                go_ret
                exact .bad rfl (by decide) HNO.out HBA.out
              by_cases d2 : o.key ≥ 16
              · have HNO := Lib.hid (show ¬ RightEv ⟨kind, client, l⟩ from fun h => absurd (h.ops o HO.out).good.key1 (by omega))
                go_wp2_with fail
                go_ret
                exact .bad rfl (by decide) HNO.out HBA.out
              by_cases d3 : o.val < 1
              · have HNO := Lib.hid (show ¬ RightEv ⟨kind, client, l⟩ from fun h => absurd (h.ops o HO.out).good.val0 (by have := (h.ops o HO.out).wr G2.out; omega))
                go_wp2_with fail
                go_ret
                exact .bad rfl (by decide) HNO.out HBA.out
              by_cases d4 : o.val ≥ 1099511627776
              · have HNO := Lib.hid (show ¬ RightEv ⟨kind, client, l⟩ from fun h => absurd (h.ops o HO.out).good.val1 (by omega))
                go_wp2_with fail
                go_ret
                exact .bad rfl (by decide) HNO.out HBA.out
              have HR := Lib.hid (HNX.out ⟨⟨.inr G2.out, by omega, by omega, by omega, by omega⟩, fun _ => by omega, fun h => absurd h G1.out⟩)
              cases f4 : kind == 1 with
              | true =>
                go_wp2_with fail
                go_roundw
                case rel => exact ⟨k + 1, by omega, by go_num, HR, HBk.out.alloc hwk _⟩
                case measure => simp [intOf]; omega
              | false =>
                go_wp2_with fail
                go_roundw
                case rel => exact ⟨k + 1, by omega, by go_num, HR, HBk.out.alloc hwk _⟩
                case measure => simp [intOf]; omega
            · have e2 := bne_t g2
              have HNO := Lib.hid (show ¬ RightEv ⟨kind, client, l⟩ from fun h => ((h.ops o HO.out).good.kind).elim G1.out g2)
              clear g2
              go_wp2_with fail
              go_ret
              exact .bad rfl (by decide) HNO.out HBA.out
        · obtain rfl : k = l.length := by omega
          have HALL := Lib.hid (show ∀ o ∈ l, RightOp kind o from fun o ho => by
            obtain ⟨j, hj, rfl⟩ := List.mem_iff_getElem.1 ho
            exact HN.out j _ hj (List.getElem?_eq_getElem hj))
          go_wp2_with fail
          go_ret
          exact .good rfl ⟨⟨by show 1 ≤ kind; omega, by show kind ≤ 4; omega, by show 1 ≤ client; omega, by show client ≤ 16; omega, by show l.length ≤ 12; omega, fun o ho => (HALL.out o ho).good⟩, HBF.out, HALL.out⟩ (HB1.out.trans (HBk.out.mono HB1.out.size))
end Go.Proofs.YtnacoplokjdglaaGreat
