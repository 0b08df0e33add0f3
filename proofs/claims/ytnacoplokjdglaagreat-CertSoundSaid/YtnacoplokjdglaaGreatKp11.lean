/- Texts of one proof, one behind the other: GrFar, GrCy1, GrCyP, GrNext. -/
import Derived.Test.YtnacoplokjdglaaGreatKp1
import Derived.Test.YtnacoplokjdglaaGreatKp3
import Derived.Test.YtnacoplokjdglaaGreatKp5
import Derived.Test.YtnacoplokjdglaaGreatKp8
import Derived.Test.YtnacoplokjdglaaGreatKp10
set_option linter.all false
namespace Go.Proofs.YtnacoplokjdglaaGreat
open Go.RowKit Go.Maps
attribute [local go_sem] Oper.semAt_some

def natI (x : Nat) : Int := (x : Int)
/-- How many cells of a block are below zero. -/
def unseen (w : World) (ob : Nat) : Nat := match w.heap[ob]? with
  | some (.cells cur _ _) => cur.toList.countP (fun c => decide (intOf c < 0))
  | _ => 0
theorem unseen_eq {w : World} {ob : Nat} {D : List Int} {t : TypeId} (h : w.heap[ob]? = some (.cells (D.map vi).toArray t)) : unseen w ob + D.countP visB = D.length := by
  have e : unseen w ob = D.countP (fun x => decide (x < 0)) := by
    unfold unseen
    rw [h]
    simp only [List.countP_map]
    rfl
  rw [e]
  clear e h
  induction D with
  | nil => rfl
  | cons x D ih =>
    rw [List.countP_cons, List.countP_cons, List.length_cons]
    by_cases hx : 0 ≤ x
    · have h1 : decide (x < 0) = false := decide_eq_false (by omega)
      have h2 : visB x = true := by unfold visB; exact decide_eq_true hx
      rw [h1, h2]; simp; omega
    · have h1 : decide (x < 0) = true := decide_eq_true (by omega)
      have h2 : visB x = false := by unfold visB; exact decide_eq_false hx
      rw [h1, h2]; simp; omega
def lenQ : Value → Nat
  | .slice _ n _ => n
  | _ => 0
theorem setD {w : World} {ob i : Nat} {D : List Int} {d : Int} {t : TypeId} (h : w.heap[ob]? = some (.cells (D.map vi).toArray t)) : (w.setCell ⟨ob, i, none⟩ (vi d)).heap[ob]? = some (.cells ((D.set i d).map vi).toArray t) := by
  simp [World.setCell, Array.getElem?_modify, h, List.map_set]
theorem grown_setCell {w1 w : World} {ob i : Nat} {v : Value} (h : w1.grownBy w (some ob)) : w1.grownBy (w.setCell ⟨ob, i, none⟩ v) (some ob) :=
  ⟨h.os, h.tape, h.output, by simpa [World.setCell] using h.size, fun j hj hne => (Below.heap_setCell _ _ _ j (fun e => hne (by rw [e]))).trans (h.block j hj hne)⟩
theorem grown_alloc {w1 w : World} {r : Option Nat} (h : w1.grownBy w r) (o : Obj) : w1.grownBy (w.alloc o) r :=
  ⟨h.os, h.tape, h.output, Nat.le_trans h.size (by simp), fun j hj hne => (Below.heap_alloc w o j (Nat.lt_of_lt_of_le hj h.size)).trans (h.block j hj hne)⟩
/-- Cells of an owned row of ints. -/
theorem row_cell {w : World} {N : Nat} {a : Option Addr} {c : Nat} {l : List Int} (h : w.ownsRow N 3 1 (.slice a l.length c) l.length (l.flatMap viC)) : ∀ (j : Nat) x, l[j]? = some x → ∃ g, a = some ⟨g, 0, none⟩ ∧ w.cell? ⟨g, j, none⟩ = some (vi x) := by
  intro j x hj
  have hjl := (List.getElem?_eq_some_iff.1 hj).1
  rcases h.2 with ⟨hv, h0⟩ | ⟨g, cap, cur, hv, hg, hb, h1, h2, h3, h4⟩
  · omega
  · simp only [Value.slice.injEq] at hv
    obtain ⟨rfl, -, rfl⟩ := hv
    refine ⟨g, rfl, ?_⟩
    rw [cell_ofG hb]
    have e : (l.flatMap viC)[j]? = some (vi x) := by
      rw [viC_map, List.getElem?_map, hj]; rfl
    rw [← h4, List.getElem?_take_of_lt (by omega)] at e
    simpa using e
/-- What holds on the way. -/
structure FarW (w1 : World) (ob : Nat) (T : List (List Int)) (goal : Nat) (D : List Int) (q : List Nat) (v : Value) (wr : World) : Prop where
  out : wr.heap[ob]? = some (.cells (D.map vi).toArray 3)
  gr : w1.grownBy wr (some ob)
  que : Que w1.heap.size wr v (q.map natI)
  far : FarI T goal D q
theorem FarW.tab {w1 wr : World} {ob goal N fb : Nat} {T F : List (List Int)} {D : List Int} {q : List Nat} {v : Value} {us : List Value} (h : FarW w1 ob T goal D q v wr) (hF : TabT viC 1 3 58 N fb us F w1) (hx : fb ≠ ob ∧ ∀ (i : Nat) (u : Value), us[i]? = some u → u.ownBlock ≠ some ob) : TabT viC 1 3 58 N fb us F wr :=
  hF.kept h.gr (fun g hg => by cases hg; exact ⟨Ne.symm hx.1, hx.2⟩)
theorem FarW.cell {w1 wr : World} {ob goal : Nat} {T : List (List Int)} {D : List Int} {q : List Nat} {v : Value} (h : FarW w1 ob T goal D q v wr) {i : Nat} {d : Int} (hd : D[i]? = some d) : wr.cell? ⟨ob, i, none⟩ = some (vi d) := by
  rw [cell_ofG h.out]; simp [hd]
/-- One more is found: what is written, what is appended. -/
theorem FarW.push {w1 wr w' : World} {ob goal x u bb : Nat} {T : List (List Int)} {D : List Int} {q : List Nat} {v v' : Value} {dx du : Int} (h : FarW w1 ob T goal D q v wr) (hob : ob < w1.heap.size) (hx : x ∈ q) (hdx : D[x]? = some dx) (hu : ArcT T u x) (hdu : D[u]? = some du) (hneg : du < 0)
    (hq : Que w1.heap.size w' v' (q.map natI ++ [natI u])) (hg : ((wr.setCell ⟨ob, u, none⟩ (vi (dx + 1))).alloc (.cells #[vi u] 3)).grownBy w' (some bb)) (hbb : w1.heap.size ≤ bb) :
    FarW w1 ob T goal (D.set u (dx + 1)) (q ++ [u]) v' w' ∧ unseen w' ob + 1 = unseen wr ob := by
  have h1 := h.far.push hx hdx hu hdu hneg
  have hob' : ob < wr.heap.size := Nat.lt_of_lt_of_le hob h.gr.size
  have hout : w'.heap[ob]? = some (.cells ((D.set u (dx + 1)).map vi).toArray 3) :=
    (hg.block ob (by simp [World.setCell]; omega) (fun e => by have := Option.some.inj e; omega)).trans ((Below.heap_alloc _ _ ob (by simpa [World.setCell] using hob')).trans (setD h.out))
  refine ⟨⟨hout, ?_, by simpa using hq, h1.1⟩, ?_⟩
  · have h2 := grown_alloc (grown_setCell (i := u) (v := vi (dx + 1)) h.gr) (.cells #[vi u] 3)
    exact ⟨hg.os.trans h2.os, hg.tape.trans h2.tape, hg.output.trans h2.output, Nat.le_trans h2.size hg.size, fun j hj hne => (hg.block j (Nat.lt_of_lt_of_le hj h2.size) (fun e => by have := Option.some.inj e; omega)).trans (h2.block j hj hne)⟩
  · have e1 := unseen_eq hout
    have e2 := unseen_eq h.out
    rw [h1.2] at e1
    simp only [List.length_set] at e1
    omega
theorem Que.shape {N : Nat} {w : World} {v : Value} {q : List Int} (h : Que N w v q) : ∃ b off m c, v = .slice (some ⟨b, off, none⟩) m c := by
  obtain ⟨b, off, cap, hv, -, -⟩ := h.cell
  exact ⟨b, off, _, cap, hv⟩
theorem cons_eq {a b : Value} {l m : List Value} (h : a = b) (h2 : l = m) : a :: l = b :: m := by rw [h, h2]
theorem lenQ_que {N : Nat} {w : World} {v : Value} {q : List Int} (h : Que N w v q) : lenQ v = q.length := by
  obtain ⟨b, off, cap, hv, -, -⟩ := h.cell
  rw [hv]; rfl
theorem fromT_row {n x : Nat} {T : List (List Int)} (h : x < n) : (fromT n T)[x]? = some (rawRow n (revA T 0) x) := by
  unfold fromT; rw [List.getElem?_map, List.getElem?_range h]; rfl

set_option maxRecDepth 100000 in
set_option maxHeartbeats 8000000 in
theorem far_call (T : List (List Int)) (goal n : Nat) {N tb : Nat} {vs : List Value} (w : World) (hT : TabT viC 1 3 58 N tb vs T w) (hn : T.length = n) (hn4 : n ≤ 400) (hg : goal < n) (hb : ∀ m ∈ T, ∀ y ∈ m, 0 ≤ y ∧ y < n) (hm : ∀ m ∈ T, m.length ≤ 1048576) :
    Calls Tryz.prog 94 #[.slice (some ⟨tb, 0, none⟩) n n, vi goal] w fun e w' => ∃ ob D, e = .returned (.slice (some ⟨ob, 0, none⟩) n n) ∧ w.heap.size ≤ ob ∧ w'.heap[ob]? = some (.cells (D.map vi).toArray 3) ∧ FarP T goal D ∧ Below w.heap.size w w' := by
  have hmk := run_makeRows w n (by omega)
  have HTT := Lib.hid hT
  have HNN := Lib.hid hn
  have HBB := Lib.hid hb
  have HMM := Lib.hid hm
  have HT0 := Lib.hid (show TabT viC 1 3 58 w.heap.size w.heap.size (List.replicate n (.slice none 0 0)) ((List.range n).map (rawRow n (revA (T.take 0) 0))) (w.alloc (.cells (Array.replicate n (.slice none 0 0)) 58)) from
    ⟨by have h := RowsT.nils (enc := viC) (k := 1) (e := 3) (N := w.heap.size) (A := w.alloc (.cells (Array.replicate n (.slice none 0 0)) 58)) n
        have e : (List.range n).map (rawRow n (revA (T.take 0) 0)) = List.replicate n ([] : List Int) := by
          apply List.ext_getElem?
          intro j
          rw [List.getElem?_map, List.getElem?_replicate]
          by_cases hj : j < n
          · rw [List.getElem?_range hj, if_pos hj]; simp [rawRow, revA]
          · rw [List.getElem?_eq_none (by simp; omega), if_neg hj]; rfl
        rw [e]; exact h, by rw [alloc_atG]; simp, Nat.le_refl _, by decide⟩)
  have HB0 := Lib.hid ((Below.refl w.heap.size w).alloc (Nat.le_refl _) (.cells (Array.replicate n (.slice none 0 0)) 58))
  clear hT hn hb hm
  go_enter Tryz.func94, Tryz.ntmps94
  go_upto_region 2 with fail
  generalize w.alloc (.cells (Array.replicate n (.slice none 0 0)) 58) = w1 at *
  obtain ⟨fb, hfb⟩ : ∃ fb, fb = w.heap.size := ⟨_, rfl⟩
  have HT1 := Lib.hid (show TabT viC 1 3 58 w.heap.size fb (List.replicate n (.slice none 0 0)) ((List.range n).map (rawRow n (revA (T.take 0) 0))) w1 from by rw [hfb]; exact HT0.out)
  rw [← hfb]
  clear hfb HT0 hmk
  go_wp2_with fail
  go_loopw [19] (fun i wr => ∃ k : Nat, k ≤ n ∧ i = vi k ∧ Hid (∃ us, TabT viC 1 3 58 w.heap.size fb us ((List.range n).map (rawRow n (revA (T.take k) 0))) wr ∧ Below w.heap.size w wr)) (fun i _ => n - (intOf i).toNat)
  case atStart => exact ⟨0, Nat.zero_le _, rfl, Lib.hid ⟨_, HT1.out, HB0.out⟩⟩
  case round =>
    obtain ⟨wj, rfl⟩ : ∃ wj : World, wj = wr := ⟨_, rfl⟩
    obtain ⟨k, hk, rfl, HJ⟩ := hrel
    by_cases hlt : k < n
    · have k1 : decide ((k : Int) < (n : Int)) = true := decide_eq_true (by omega)
      have k2 : (k : Int) < (n : Int) := by omega
      have k3 : (0 : Int) ≤ (k : Int) := by omega
      have hwk : IntKind.i64.wrap ((k : Int) + 1) = (k : Int) + 1 := IntWalk.i64_in _ (by omega)
      obtain ⟨l, hl⟩ := some_at (show k < T.length by rw [HNN.out]; exact hlt)
      have HL := Lib.hid hl
      have hml := HMM.out l (List.mem_of_getElem? hl)
      have HLB := Lib.hid (HBB.out l (List.mem_of_getElem? hl))
      obtain ⟨vk, hvk, hrow⟩ := HTT.out.rows.get hl
      obtain ⟨ak, ck, rfl⟩ := Gr.own_shape (show World.ownsRow _ _ _ _ vk l.length _ from hrow)
      have HVK := Lib.hid hvk
      have HROW := Lib.hid hrow
      have td : wj.cell? ⟨tb, k, none⟩ = some (.slice ak l.length ck) := by
        obtain ⟨us, _, hB⟩ := HJ.out
        exact (HTT.out.later hB).cell hvk
      obtain ⟨ln, hln⟩ : ∃ ln, ln = l.length := ⟨_, rfl⟩
      have HLN := Lib.hid hln
      rw [← hln] at td hml
      clear hl hvk hrow hln
      go_wp2_with fail
      clear td
      go_loopw [26] (fun i wr => ∃ j : Nat, j ≤ ln ∧ i = vi j ∧ Hid (∃ us, TabT viC 1 3 58 w.heap.size fb us ((List.range n).map (rawRow n (revA (T.take k) 0 ++ (l.take j).map (fun v => (v, (k : Int)))))) wr ∧ Below w.heap.size w wr)) (fun i _ => ln - (intOf i).toNat)
      case atStart =>
        obtain ⟨us, h1, h2⟩ := HJ.out
        exact ⟨0, Nat.zero_le _, rfl, Lib.hid ⟨us, by simpa using h1, h2⟩⟩
      case round =>
        obtain ⟨wi, rfl⟩ : ∃ wi : World, wi = wr := ⟨_, rfl⟩
        clear HJ
        obtain ⟨j, hj, rfl, HI⟩ := hrel
        by_cases hjl : j < ln
        · have g1 : decide ((j : Int) < (ln : Int)) = true := decide_eq_true (by omega)
          have g2 : (j : Int) < (ln : Int) := by omega
          have g3 : (0 : Int) ≤ (j : Int) := by omega
          have hwj : IntKind.i64.wrap ((j : Int) + 1) = (j : Int) + 1 := IntWalk.i64_in _ (by omega)
          obtain ⟨y, hy⟩ := some_at (show j < l.length by rw [← HLN.out]; exact hjl)
          have hyb := HLB.out y (List.mem_of_getElem? hy)
          obtain ⟨z, rfl⟩ : ∃ z : Nat, y = (z : Int) := ⟨y.toNat, by omega⟩
          have hz : z < n := by omega
          obtain ⟨us, hF, hB⟩ := HI.out
          obtain ⟨g, rfl, y0⟩ := row_cell (own_below HROW.out hB) j _ hy
          have hAl : (revA (T.take k) 0 ++ (l.take j).map (fun v => (v, (k : Int)))).length ≤ 420000000 := by
            have h1 := revA_len 1048576 (T.take k) 0 fun m hm => HMM.out m (List.mem_of_mem_take hm)
            rw [List.length_append, List.length_map, List.length_take]
            have h2 : (T.take k).length ≤ 399 := by rw [List.length_take]; omega
            have h3 : (T.take k).length * 1048576 ≤ 399 * 1048576 := Nat.mul_le_mul_right _ h2
            omega
          obtain ⟨A, hA⟩ : ∃ A, A = revA (T.take k) 0 ++ (l.take j).map (fun v => (v, (k : Int))) := ⟨_, rfl⟩
          have HST := Lib.hid (show A ++ [((z : Int), (k : Int))] = revA (T.take k) 0 ++ (l.take (j + 1)).map (fun v => (v, (k : Int))) from by
            rw [hA, List.take_add_one, hy]; simp)
          rw [← hA] at hF hAl
          clear hA
          have hraw : ((List.range n).map (rawRow n A))[z]? = some (rawRow n A z) := by rw [List.getElem?_map, List.getElem?_range hz]; rfl
          obtain ⟨vz, hvz, hrz⟩ := hF.rows.get hraw
          obtain ⟨az, cz, rfl⟩ := Gr.own_shape (show World.ownsRow _ _ _ _ vz (rawRow n A z).length _ from hrz)
          have hrl : (rawRow n A z).length + 1 ≤ 68719476736 := by have := rawRow_len n A z; omega
          have x0 : wi.cell? ⟨fb, z, none⟩ = some (.slice az (rawRow n A z).length cz) := hF.cell hvz
          have hal := (Below.refl wi.heap.size wi).alloc (Nat.le_refl _) (.cells #[vi k] 3)
          have HVZ := Lib.hid hvz
          have HFA := Lib.hid (hF.later hal)
          have HRA := Lib.hid (own_below hrz hal)
          have HBA := Lib.hid (hB.trans (hal.mono hB.size))
          have hsz : w.heap.size ≤ (wi.alloc (.cells #[vi k] 3)).heap.size := HBA.out.size
          have h3z : (0 : Int) ≤ (z : Int) := by omega
          have h4z : (z : Int) < (n : Int) := by omega
          obtain ⟨rl, hrlE⟩ : ∃ rl, rl = (rawRow n A z).length := ⟨_, rfl⟩
          have HRL := Lib.hid hrlE
          rw [← hrlE] at x0 hrl HRA
          clear HI hF hB hvz hrz hraw hal hrlE hy hyb
          go_wp2_with (refine wpListAt rfl (.tmp 35) (.tmp 37) 58 rfl eltI w.heap.size rl _ HRA.out rfl 1 [vi k] (src_new (cs := #[vi k]) rfl rfl) rfl (by intro q hq; simp at hq; subst hq; rfl) hrl (by omega) hsz ?_; intro vc wc hoc hgc hat; obtain ⟨ac, cc, rfl⟩ := Gr.own_shape hoc; have HW := Lib.hid (HFA.out.wrote (l := rawRow n A z ++ [(k : Int)]) HVZ.out (by rw [← HRL.out]; exact hgc) (by rw [List.length_append, viC_flat, ← HRL.out]; exact hoc) (by rw [← HRL.out]; exact hat)); have HBG := Lib.hid (tab_below HFA.out HVZ.out (by rw [← HRL.out]; exact hgc) HBA.out); have z1 := HW.out.1; have z2 := HW.out.2.1; clear hoc hgc hat)
          have HW2 := HW.out.2.2
          rw [raw_push hz hlt, HST.out] at HW2
          exact ⟨⟨j + 1, by omega, by go_num, Lib.hid ⟨_, HW2, HBG.out.setCell HFA.out.own _⟩⟩, by simp only [intOf]; omega⟩
        · have g1 : decide ((j : Int) < (ln : Int)) = false := decide_eq_false (by omega)
          have HFN := Lib.hid (show ∃ us, TabT viC 1 3 58 w.heap.size fb us ((List.range n).map (rawRow n (revA (T.take (k + 1)) 0))) wi ∧ Below w.heap.size w wi from by
            obtain ⟨us, h1, h2⟩ := HI.out
            have e : l.take j = l := List.take_of_length_le (by rw [← HLN.out]; omega)
            rw [e] at h1
            refine ⟨us, ?_, h2⟩
            rw [revA_take T 0 k l HL.out]
            simpa using h1)
          clear HI
          go_wp2_with fail
          exact ⟨⟨k + 1, by omega, by go_num, HFN⟩, by simp only [intOf]; omega⟩
    · have k1 : decide ((k : Int) < (n : Int)) = false := decide_eq_false (by omega)
      have HJ2 := Lib.hid (show ∃ us, TabT viC 1 3 58 w.heap.size fb us (fromT n T) wj ∧ Below w.heap.size w wj from by
        obtain ⟨us, h1, h2⟩ := HJ.out
        refine ⟨us, ?_, h2⟩
        rw [List.take_of_length_le (by rw [HNN.out]; omega)] at h1
        exact h1)
      clear HJ
      have h1n : 1 ≤ n := by omega
      obtain ⟨us, hF, hB⟩ := HJ2.out
      have hal := (Below.refl wj.heap.size wj).alloc (Nat.le_refl _) (.cells #[vi (-1)] 3)
      have hrp := repeat_call wj.heap.size n (wj.alloc (.cells #[vi (-1)] 3)) (alloc_atG _ _) h1n hn4
      have HRP := Lib.hid hrp
      have HFA := Lib.hid (hF.later hal)
      have HFJ := Lib.hid hF
      have HBA := Lib.hid (hB.trans (hal.mono hB.size))
      have hg1 : (goal : Int) < (n : Int) := by omega
      have hg2 : (0 : Int) ≤ (goal : Int) := by omega
      clear hrp hF hB hal HJ2
      go_upto_region 12 with (go_at_call 119; refine HRP.out.mono ?_; rintro e5 w5 ⟨rfl, h5⟩; have H5 := Lib.hid h5; clear h5)
      obtain ⟨h5b, h5B⟩ := H5.out
      have hD5 : w5.heap[(wj.alloc (.cells #[vi (-1)] 3)).heap.size]? = some (.cells ((List.replicate n (-1 : Int)).map vi).toArray 3) := by
        rw [h5b]; simp [repC]
      have HT5 := Lib.hid (HFA.out.later h5B)
      have HB5 := Lib.hid (HBA.out.trans (h5B.mono HBA.out.size))
      have HX5 := Lib.hid (show fb ≠ (wj.alloc (.cells #[vi (-1)] 3)).heap.size ∧ ∀ (i : Nat) (u : Value), us[i]? = some u → u.ownBlock ≠ some (wj.alloc (.cells #[vi (-1)] 3)).heap.size from by
        refine ⟨fun e => by have := (Array.getElem?_eq_some_iff.1 HFA.out.blk).1; omega, fun i u hu e => ?_⟩
        have hi : i < (fromT n T).length := by rw [← HFA.out.rows.len]; exact (List.getElem?_eq_some_iff.1 hu).1
        have := ((HFA.out.rows.row i u _ hu (List.getElem?_eq_getElem hi)).lt _ e).2
        omega)
      have HOB := Lib.hid (show w.heap.size ≤ (wj.alloc (.cells #[vi (-1)] 3)).heap.size from HBA.out.size)
      have HO5 := Lib.hid (show (wj.alloc (.cells #[vi (-1)] 3)).heap.size < w5.heap.size from (Array.getElem?_eq_some_iff.1 h5b).1)
      clear HFA HBA HFJ HRP H5 h5b h5B k1
      have e1 : (wj.alloc (.cells #[vi (-1)] 3)).heap.size = wj.heap.size + 1 := by simp
      rw [e1] at hD5 HX5 HOB HO5
      clear e1
      generalize wj.heap.size + 1 = ob at *
      have c5 : w5.cell? ⟨ob, goal, none⟩ = some (vi (-1)) := by rw [cell_ofG hD5]; simp [hg]
      have f5 : w5.frozen? ⟨ob, goal, none⟩ = false := by simp [World.frozen?, hD5]
      have HI0 := Lib.hid (show FarW w5 ob T goal ((List.replicate n (-1)).set goal 0) [goal] (.slice (some ⟨w5.heap.size, 0, none⟩) 1 1) ((w5.setCell ⟨ob, goal, none⟩ (vi 0)).alloc (.cells #[vi goal] 3)) from
        ⟨(Below.heap_alloc _ _ ob (by have := HO5.out; simp [World.setCell]; omega)).trans (setD hD5), grown_alloc (grown_setCell ⟨rfl, rfl, rfl, Nat.le_refl _, fun _ _ _ => rfl⟩) _, by
          have h := Que.new (w5.setCell ⟨ob, goal, none⟩ (vi 0)) goal
          have e : (w5.setCell ⟨ob, goal, none⟩ (vi 0)).heap.size = w5.heap.size := by simp [World.setCell]
          rw [e] at h
          exact h, by
          have h := FarI.start T goal (by rw [HNN.out]; exact hg)
          rw [HNN.out] at h
          exact h⟩)
      have HU0 := Lib.hid (show 1 + unseen ((w5.setCell ⟨ob, goal, none⟩ (vi 0)).alloc (.cells #[vi goal] 3)) ob ≤ n from by
        have h := unseen_eq HI0.out.out
        rw [vis_set _ goal 0 (-1) (by rw [List.getElem?_replicate, if_pos hg]) (by omega) (by omega)] at h
        simp only [List.length_set, List.length_replicate] at h
        omega)
      clear hD5
      go_upto_region 14 with fail
      clear c5 f5
      generalize (w5.setCell ⟨ob, goal, none⟩ (vi 0)).alloc (.cells #[vi goal] 3) = w7 at *
      go_loopw [11] (fun v wr => ∃ D q, Hid (FarW w5 ob T goal D q v wr ∧ q.length + unseen wr ob ≤ n)) (fun v wr => lenQ v + unseen wr ob)
      case atStart => exact ⟨_, _, Lib.hid ⟨HI0.out, HU0.out⟩⟩
      case round =>
        obtain ⟨wb, rfl⟩ : ∃ wb : World, wb = wr := ⟨_, rfl⟩
        clear HI0 HU0
        obtain ⟨D, q, HI⟩ := hrel
        cases q with
        | nil =>
          obtain ⟨b, off, cap, hv, -, -⟩ := HI.out.1.que.cell
          simp only [List.map_nil, List.length_nil] at hv
          subst hv
          have HFB := Lib.hid (show Below w.heap.size w wb from by
            have h1 := HB5.out
            have h2 := HI.out.1.gr
            have h3 := HOB.out
            exact ⟨h2.os.trans h1.os, h2.tape.trans h1.tape, h2.output.trans h1.output, Nat.le_trans h1.size h2.size, fun j hj => (h2.block j (Nat.lt_of_lt_of_le hj h1.size) (fun e => by have := Option.some.inj e; omega)).trans (h1.block j hj)⟩)
          go_wp2_with fail
          go_ret
          exact ⟨ob, D, rfl, HOB.out, HI.out.1.out, HI.out.1.far.done, HFB.out⟩
        | cons x q =>
          obtain ⟨b, off, cap, hv, hle, hcell⟩ := HI.out.1.que.cell
          obtain ⟨m, hm⟩ : ∃ m, m = ((x :: q).map natI).length := ⟨_, rfl⟩
          rw [← hm] at hv hle
          subst hv
          have hm2 : m = q.length + 1 := by rw [hm]; simp
          have HM := Lib.hid hm2
          have m0 : decide ((0 : Int) < (m : Int)) = true := decide_eq_true (by omega)
          have m1 : (0 : Int) < (m : Int) := by omega
          have q0 : wb.cell? ⟨b, off, none⟩ = some (vi x) := by have := hcell 0 (natI x) rfl; simpa [natI] using this
          obtain ⟨dx, hdx, hdx0⟩ := HI.out.1.far.seen x (List.mem_cons_self ..)
          have hxn : x < n := by rw [← HNN.out, ← HI.out.1.far.len]; exact (List.getElem?_eq_some_iff.1 hdx).1
          have hx1 : (x : Int) < (n : Int) := by omega
          have hx2 : (0 : Int) ≤ (x : Int) := by omega
          obtain ⟨vx, hvx, hrx⟩ := (HI.out.1.tab HT5.out HX5.out).rows.get (fromT_row hxn)
          have HMEM := Lib.hid (fromT_mem (T := T) (x := x) (l := rawRow n (revA T 0) x) (by rw [HNN.out]; exact fromT_row hxn) (by rw [HNN.out]; exact hxn) (by rw [HNN.out]; exact HBB.out))
          have HROW := Lib.hid (fromT_row (T := T) hxn)
          have hrb : (rawRow n (revA T 0) x).length ≤ 420000000 := by
            have h1 := revA_len 1048576 T 0 HMM.out
            have h2 := rawRow_len n (revA T 0) x
            have h3 : T.length * 1048576 ≤ 400 * 1048576 := Nat.mul_le_mul_right _ (by rw [HNN.out]; exact hn4)
            omega
          obtain ⟨l, hl⟩ : ∃ l, l = rawRow n (revA T 0) x := ⟨_, rfl⟩
          rw [← hl] at hrb
          rw [← hl] at hrx HMEM HROW
          obtain ⟨ax, cx, rfl⟩ := Gr.own_shape (show World.ownsRow _ _ _ _ vx l.length _ from hrx)
          have x1 : wb.cell? ⟨fb, x, none⟩ = some (.slice ax l.length cx) := (HI.out.1.tab HT5.out HX5.out).cell hvx
          have HVX := Lib.hid hvx
          have HDX := Lib.hid hdx
          obtain ⟨rl, hrl⟩ : ∃ rl, rl = l.length := ⟨_, rfl⟩
          have HRL := Lib.hid hrl
          rw [← hrl] at x1 hrb
          have hdxn : dx < 400 := by
            have h1 := (HI.out.1.far.bnd x dx hdx).2
            have h2 := List.countP_le_length (p := visB) (l := D)
            have h3 := HI.out.1.far.len
            have h4 := HNN.out
            omega
          have hwd : IntKind.i64.wrap (dx + 1) = dx + 1 := IntWalk.i64_in _ (by omega)
          clear hm hm2 hcell hvx hrx hl hrl hdx hle
          go_wp2_with fail
          clear x1 q0
          go_loopw [63, 11] (fun i v wr => ∃ j : Nat, j ≤ rl ∧ i = vi j ∧ Hid (∃ D2 q2, FarW w5 ob T goal D2 (x :: q2) v wr ∧ (∀ (i u : Nat), i < j → l[i]? = some (u : Int) → ∃ e, D2[u]? = some e ∧ 0 ≤ e) ∧ D2[x]? = some dx ∧ q2.length + unseen wr ob = q.length + unseen wb ob)) (fun i _ _ => rl - (intOf i).toNat)
          case atStart => exact ⟨0, Nat.zero_le _, rfl, Lib.hid ⟨D, q, HI.out.1, fun _ _ h => absurd h (Nat.not_lt_zero _), HDX.out, rfl⟩⟩
          case round =>
            obtain ⟨wi, rfl⟩ : ∃ wi : World, wi = wr := ⟨_, rfl⟩
            obtain ⟨j, hj, rfl, HI2⟩ := hrel
            obtain ⟨D2, q2, hW, hseen, hdx2, hmu⟩ := HI2.out
            have HMU := Lib.hid hmu
            obtain ⟨b2, off2, cap2, hv2, hle2, hcell2⟩ := hW.que.cell
            obtain ⟨m2, hm2⟩ : ∃ m2, m2 = ((x :: q2).map natI).length := ⟨_, rfl⟩
            rw [← hm2] at hv2 hle2
            subst hv2
            have hm3 : m2 = q2.length + 1 := by rw [hm2]; simp
            have HM2 := Lib.hid hm3
            have m2p : (0 : Int) < (m2 : Int) := by omega
            have HW := Lib.hid hW
            have HSEEN := Lib.hid hseen
            have HDX2 := Lib.hid hdx2
            clear hm2 hm3 hle2 HI2 hseen hmu
            by_cases hjl : j < rl
            · have g1 : decide ((j : Int) < (rl : Int)) = true := decide_eq_true (by omega)
              have g2 : (j : Int) < (rl : Int) := by omega
              have g3 : (0 : Int) ≤ (j : Int) := by omega
              have hwj : IntKind.i64.wrap ((j : Int) + 1) = (j : Int) + 1 := IntWalk.i64_in _ (by omega)
              obtain ⟨y, hy⟩ := some_at (show j < l.length by rw [← HRL.out]; exact hjl)
              obtain ⟨u, rfl, harc⟩ := (HMEM.out y).1 (List.mem_of_getElem? hy)
              have hun : u < n := by obtain ⟨l', h1, -⟩ := harc; rw [← HNN.out]; exact (List.getElem?_eq_some_iff.1 h1).1
              have hu1 : (u : Int) < (n : Int) := by omega
              have hu2 : (0 : Int) ≤ (u : Int) := by omega
              obtain ⟨g, rfl, y0⟩ := row_cell ((hW.tab HT5.out HX5.out).rows.row x _ _ HVX.out HROW.out) j _ hy
              obtain ⟨du, hdu⟩ := some_at (show u < D2.length by rw [hW.far.len, HNN.out]; exact hun)
              have y1 := hW.cell hdu
              have y2 := hW.cell hdx2
              have y3 : wi.cell? ⟨b2, off2, none⟩ = some (vi x) := by have := hcell2 0 (natI x) rfl; simpa [natI] using this
              have yf : wi.frozen? ⟨ob, u, none⟩ = false := by simp [World.frozen?, hW.out]
              have HDU := Lib.hid hdu
              have HARC := Lib.hid harc
              have HY := Lib.hid hy
              clear hcell2 hdx2 hdu harc hy
              by_cases hneg : du < 0
              · have d1 : decide (du < 0) = true := decide_eq_true hneg
                have HQX := Lib.hid (show Que w5.heap.size ((wi.setCell ⟨ob, u, none⟩ (vi (dx + 1))).alloc (.cells #[vi u] 3)) (.slice (some ⟨b2, off2, none⟩) m2 cap2) ((x :: q2).map natI) from
                  (hW.que.kept (grown_setCell ⟨rfl, rfl, rfl, Nat.le_refl _, fun _ _ _ => rfl⟩) HO5.out).later ((Below.refl _ _).alloc (Nat.le_refl _) _))
                have HGX := Lib.hid (show ((wi.setCell ⟨ob, u, none⟩ (vi (dx + 1))).alloc (.cells #[vi u] 3)).heap[wi.heap.size]? = some (.cells #[vi u] 3) from by
                  have h := alloc_atG (wi.setCell ⟨ob, u, none⟩ (vi (dx + 1))) (.cells #[vi u] 3)
                  have e : (wi.setCell ⟨ob, u, none⟩ (vi (dx + 1))).heap.size = wi.heap.size := by simp [World.setCell]
                  rw [e] at h; exact h)
                have hql : ((x :: q2).map natI).length + 1 ≤ 1048576 := by
                  have h1 := HI.out.2
                  have h2 := HMU.out
                  simp only [List.length_map, List.length_cons] at h1 ⊢
                  omega
                have hsz : w5.heap.size ≤ ((wi.setCell ⟨ob, u, none⟩ (vi (dx + 1))).alloc (.cells #[vi u] 3)).heap.size := by
                  have := hW.gr.size
                  simp [World.setCell]; omega
                have HQL := Lib.hid hql
                clear hW hql
                go_wp2_with (refine wpList_que rfl (.tmp 82) (.tmp 84) rfl rfl rfl HQX.out wi.heap.size u rfl HGX.out HQL.out hsz ?_; intro v2 w2 bb hq2 hg2 hbb; obtain ⟨b9, o9, m9, c9, rfl⟩ := hq2.shape; have HP := Lib.hid (HW.out.push HO5.out (List.mem_cons_self ..) HDX2.out HARC.out HDU.out hneg (by exact hq2) hg2 hbb); clear hq2 hg2 hbb)
                have HZ := Lib.hid (show ∃ D2 q2, FarW w5 ob T goal D2 (x :: q2) (.slice (some ⟨b9, o9, none⟩) m9 c9) w2 ∧ (∀ (i u : Nat), i < j + 1 → l[i]? = some (u : Int) → ∃ e, D2[u]? = some e ∧ 0 ≤ e) ∧ D2[x]? = some dx ∧ q2.length + unseen w2 ob = q.length + unseen wb ob from
                  ⟨D2.set u (dx + 1), q2 ++ [u], HP.out.1, (fun i u' hi hu' => by
                    by_cases e : u' = u
                    · exact ⟨dx + 1, by rw [e]; exact List.getElem?_set_self (List.getElem?_eq_some_iff.1 HDU.out).1, by omega⟩
                    · have hij : i < j := by
                        rcases Nat.lt_or_ge i j with h | h
                        · exact h
                        · exfalso
                          obtain rfl : i = j := by omega
                          have := HY.out.symm.trans hu'
                          simp at this
                          omega
                      obtain ⟨e1, h1, h2⟩ := HSEEN.out i u' hij hu'
                      exact ⟨e1, by rw [List.getElem?_set_ne (Ne.symm e)]; exact h1, h2⟩), by
                    have hux : u ≠ x := fun e => by
                      have h1 := HDU.out
                      rw [e, HDX2.out] at h1
                      cases h1; omega
                    rw [List.getElem?_set_ne hux]; exact HDX2.out, by
                    have h1 := HP.out.2
                    have h2 := HMU.out
                    simp only [List.length_append, List.length_singleton]
                    omega⟩)
                refine ⟨?ex, ?ms⟩
                case ms =>
                  show rl - (intOf (vi ((j : Int) + 1))).toNat < rl - (intOf (vi (j : Int))).toNat
                  simp only [intOf]; omega
                case ex =>
                  (repeat apply Exists.intro)
                  refine ⟨?rel, ?fr⟩
                  case fr =>
                    refine congrArg (fun t => Act.mk t []) ?_
                    refine congrArg List.toArray ?_
                    iterate 87 (apply cons_eq; (first | rfl | exact congrArg Value.bool (decide_eq_true (by have := HM.out; omega)).symm))
                    rfl
                  exact ⟨j + 1, by omega, by go_num, HZ⟩
              · have d1 : decide (du < 0) = false := decide_eq_false hneg
                clear hW
                go_wp2_with fail
                exact ⟨⟨j + 1, by omega, by go_num, Lib.hid ⟨D2, q2, HW.out, (fun i u' hi hu' => by
                    by_cases e : u' = u
                    · exact ⟨du, by rw [e]; exact HDU.out, by omega⟩
                    · have hij : i < j := by
                        rcases Nat.lt_or_ge i j with h | h
                        · exact h
                        · exfalso
                          obtain rfl : i = j := by omega
                          have := HY.out.symm.trans hu'
                          simp at this
                          omega
                      obtain ⟨e1, h1, h2⟩ := HSEEN.out i u' hij hu'
                      exact ⟨e1, h1, h2⟩), HDX2.out, HMU.out⟩⟩, by simp only [intOf]; omega⟩
            · have g1 : decide ((j : Int) < (rl : Int)) = false := decide_eq_false (by omega)
              obtain ⟨v3, hpop, hq3⟩ := hW.que.pop
              go_wp2_with fail
              have HF := Lib.hid (HW.out.far.pop (fun u hu => by
                obtain ⟨i, hi⟩ := List.mem_iff_getElem?.1 ((HMEM.out (u : Int)).2 ⟨u, rfl, hu⟩)
                exact HSEEN.out i u (by have := (List.getElem?_eq_some_iff.1 hi).1; have := HRL.out; omega) hi))
              have hml := HMU.out
              have hmm := HM.out
              have hmi := HI.out.2
              simp only [List.length_cons] at hmi
              refine ⟨⟨D2, q2, Lib.hid ⟨⟨HW.out.out, HW.out.gr, hq3, HF.out⟩, by omega⟩⟩, ?_⟩
              have e1 := lenQ_que hq3
              rw [List.length_map] at e1
              show lenQ v3 + unseen wi ob < m + unseen wb ob
              omega
end Go.Proofs.YtnacoplokjdglaaGreat

namespace Go.Proofs.YtnacoplokjdglaaGreat
open Go.RowKit Go.Maps
attribute [local go_sem] Oper.semAt_some

def sizeM (n : Int) : Nat := if n < 0 then 0 else if 400 < n then 400 else n.toNat
theorem sizeM_le (n : Int) : sizeM n ≤ 400 := by unfold sizeM; split <;> (try split) <;> omega
set_option maxRecDepth 100000 in
theorem size_call (n : Int) (w : World) : Calls Tryz.prog 92 #[vi n] w fun e w' => e = .returned (vi (sizeM n)) ∧ w = w' := by
  have e : ((sizeM n : Nat) : Int) = min (max n 0) 400 := by unfold sizeM; split <;> (try split) <;> omega
  rw [e]
  clear e
  go_enter Tryz.func92, Tryz.ntmps92
  go_wp2_with fail
  go_ret
  exact ⟨rfl, rfl⟩

/-- All cells are as they were. -/
structure SameH (w w' : World) : Prop where
  heap : w'.heap = w.heap
  below : Below w.heap.size w w'
theorem SameH.refl (w : World) : SameH w w := ⟨rfl, Below.refl _ _⟩
theorem SameH.drewN {w W : World} (h : SameH w W) (n : Nat) : SameH w (W.drewN n) := ⟨h.heap, ⟨h.below.os, h.below.tape, h.below.output, h.below.size, h.below.block⟩⟩
def idxC (q : Int → Bool) (l : List Int) : Int := match l.findIdx? q with | some i => (i : Int) | none => -1
set_option maxRecDepth 100000 in
theorem indexC_call {N : Nat} (a : Option Addr) (c : Nat) (l : List Int) (g : FuncId) (p1 p2 : Value) (q : Int → Bool) (w : World) (hv : w.ownsRow N 3 1 (.slice a l.length c) l.length (l.flatMap viC)) (hl : l.length ≤ 1000000000) (eg : ∀ args w, (callFunc g args).run Tryz.prog w = .ok (.enter g args) w)
    (hk : ∀ o ∈ l, ∀ W, SameH w W → Calls Tryz.prog g #[vi o, p1, p2] W fun e w' => e = .returned (.bool (q o)) ∧ SameH w w') :
    Calls Tryz.prog 95 #[.slice a l.length c, .func (.func g) #[] #[p1, p2]] w fun e w' => e = .returned (.int .i64 (idxC q l)) ∧ SameH w w' := by
  have HV := Lib.hid hv
  have HK := Lib.hid hk
  clear hv hk
  go_enter Tryz.func95, Tryz.ntmps95
  go_wp2_with fail
  go_loopw [5, 8] (fun _ i wr => ∃ k : Nat, k ≤ l.length ∧ i = .int .i64 k ∧ Hid (∀ j o, j < k → l[j]? = some o → q o = false) ∧ Hid (SameH w wr)) (fun _ i _ => l.length - (intOf i).toNat)
  case atStart => exact ⟨0, Nat.zero_le _, rfl, Lib.hid (fun j o hj => absurd hj (Nat.not_lt_zero _)), Lib.hid (SameH.refl w)⟩
  case round =>
    obtain ⟨wj, rfl⟩ : ∃ wj : World, wj = wr := ⟨_, rfl⟩
    obtain ⟨k, hk, rfl, HN, HS⟩ := hrel
    by_cases hlt : k < l.length
    · obtain ⟨o, ho⟩ := some_at hlt
      obtain ⟨b, rfl, k0⟩ := row_cell (own_below HV.out HS.out.below) k o ho
      have HO := Lib.hid ho
      have hwk : IntKind.i64.wrap ((k : Int) + 1) = (k : Int) + 1 := IntWalk.i64_in _ (by omega)
      have HC := Lib.hid (HK.out o (List.mem_of_getElem? ho) _ HS.out)
      clear ho
      cases hh : q o with
      | true =>
        have HH := Lib.hid hh
        clear hh
        go_wp2_with (go_at_fn g; refine HC.out.mono ?_; rintro e w1 ⟨rfl, hs1⟩; rw [HH.out]; have HS1 := Lib.hid hs1; clear hs1)
        go_ret
        have : idxC q l = k := by
          unfold idxC
          have : l.findIdx? (q) = some k := by
            rw [List.findIdx?_eq_some_iff_getElem]
            have hg := List.getElem?_eq_some_iff.1 HO.out
            refine ⟨hlt, by rw [hg.2]; exact HH.out, fun j hj => ?_⟩
            have := HN.out j l[j] hj (List.getElem?_eq_getElem _)
            simp [this]
          rw [this]
        exact ⟨by rw [this]; rfl, HS1.out⟩
      | false =>
        have HH := Lib.hid hh
        clear hh
        have HN2 := Lib.hid (show ∀ j o, j < k + 1 → l[j]? = some o → q o = false from by
          intro j o' hj ho'
          rcases Nat.lt_or_ge j k with h | h
          · exact HN.out j o' h ho'
          · obtain rfl : j = k := by omega
            rw [HO.out] at ho'; cases ho'; exact HH.out)
        go_wp2_with (go_at_fn g; refine HC.out.mono ?_; rintro e w1 ⟨rfl, hs1⟩; rw [HH.out]; have HS1 := Lib.hid hs1; clear hs1)
        go_roundw
        case rel => exact ⟨k + 1, by omega, by go_num, HN2, HS1⟩
        case measure => simp [intOf]; omega
    · obtain rfl : k = l.length := by omega
      have : idxC q l = -1 := by
        unfold idxC
        have : l.findIdx? (q) = none := by
          rw [List.findIdx?_eq_none_iff]
          intro x hx
          obtain ⟨j, hj⟩ := List.mem_iff_getElem?.1 hx
          exact HN.out j x (List.getElem?_eq_some_iff.1 hj).1 hj
        rw [this]
      have HT := Lib.hid this
      clear this
      go_wp2_with fail
      go_ret
      exact ⟨by rw [HT.out]; rfl, HS.out⟩

set_option maxRecDepth 100000 in
/-- graph.Cycle's test: is a node so far away. -/
theorem cyc1_call (o : Nat) (b1 b2 ob n : Nat) (d L : Int) (D : List Int) (w : World) (h1 : w.heap[b1]? = some (.cells #[.slice (some ⟨ob, 0, none⟩) n n] 58)) (h2 : w.heap[b2]? = some (.cells #[vi L] 3)) (h3 : w.heap[ob]? = some (.cells (D.map vi).toArray 3)) (hn : o < n) (hd : D[o]? = some d) :
    Calls Tryz.prog 96 #[vi o, .pointer (some ⟨b1, 0, none⟩), .pointer (some ⟨b2, 0, none⟩)] w fun e w' => e = .returned (.bool (d == L)) ∧ SameH w w' := by
  have c1 : w.cell? ⟨b1, 0, none⟩ = some (.slice (some ⟨ob, 0, none⟩) n n) := by rw [cell_ofG h1]; rfl
  have c2 : w.cell? ⟨b2, 0, none⟩ = some (vi L) := by rw [cell_ofG h2]; rfl
  have c3 : w.cell? ⟨ob, o, none⟩ = some (vi d) := by rw [cell_ofG h3]; simp [hd]
  have k1 : (o : Int) < (n : Int) := by omega
  have k2 : (0 : Int) ≤ (o : Int) := by omega
  clear h1 h2 h3 hd
  go_enter Tryz.func96, Tryz.ntmps96
  go_upto_region 1 with fail
  go_quiet (fail)
  go_wp2
  go_ret
  exact ⟨rfl, (SameH.refl w).drewN _⟩
end Go.Proofs.YtnacoplokjdglaaGreat

namespace Go.Proofs.YtnacoplokjdglaaGreat

structure Closed (r : Nat → Nat → Prop) (s : Nat) (C : List Nat) : Prop where
  head : C.head? = some s
  chain : Chain1 r C
  nodup : C.Nodup
  shut : ∀ b, C.getLast? = some b → r b s
/-- A way along which one comes nearer. -/
structure PathI (T : List (List Int)) (s : Nat) (D : List Int) (at_ : Nat) (L : Nat) (C : List Nat) : Prop where
  head : C.head? = some s
  last : C.getLast? = some at_
  chain : Chain1 (ArcT T) C
  nodup : C.Nodup
  far : ∀ x ∈ C, x = s ∨ ∃ d, D[x]? = some d ∧ (L : Int) < d
  next : ∃ v, ArcT T at_ v ∧ D[v]? = some (L : Int)
theorem PathI.start {T : List (List Int)} {s v L : Nat} {D : List Int} (hv : ArcT T s v) (hd : D[v]? = some (L : Int)) : PathI T s D s L [s] :=
  ⟨rfl, rfl, trivial, by simp, fun x hx => .inl (by simpa using hx), v, hv, hd⟩
theorem chain1_snoc {r : Nat → Nat → Prop} : ∀ (C : List Nat) (a b : Nat), Chain1 r C → C.getLast? = some a → r a b → Chain1 r (C ++ [b])
  | [], _, _, _, h, _ => by simp at h
  | [c], a, b, _, h, hr => by simp at h; subst h; exact ⟨hr, trivial⟩
  | c :: d :: l, a, b, hc, h, hr => ⟨hc.1, chain1_snoc (d :: l) a b hc.2 (by simpa using h) hr⟩
theorem PathI.more {T : List (List Int)} {s at_ v L : Nat} {D : List Int} {C : List Nat} (hf : FarP T s D) (h : PathI T s D at_ (L + 1) C) (hv : ArcT T at_ v) (hd : D[v]? = some ((L + 1 : Nat) : Int)) : PathI T s D v L (C ++ [v]) := by
  have hvs : v ≠ s := fun e => by
    subst e
    have := hf.at_
    rw [hd] at this
    have := Option.some.inj this
    omega
  refine ⟨?_, by simp, chain1_snoc C at_ v h.chain h.last hv, ?_, fun x hx => ?_, ?_⟩
  · have := h.head
    cases C with
    | nil => simp at this
    | cons a l => simpa using this
  · refine List.nodup_append.2 ⟨h.nodup, by simp, fun a ha b hb e => ?_⟩
    rw [List.mem_singleton.1 hb] at e
    subst e
    rcases h.far a ha with rfl | ⟨d, h1, h2⟩
    · exact hvs rfl
    · rw [hd] at h1
      have := Option.some.inj h1
      omega
  · rcases List.mem_append.1 hx with hx | hx
    · rcases h.far x hx with h1 | ⟨d, h1, h2⟩
      · exact .inl h1
      · exact .inr ⟨d, h1, by omega⟩
    · rw [List.mem_singleton.1 hx]
      exact .inr ⟨_, hd, by omega⟩
  · obtain ⟨w, h1, h2⟩ := hf.step v _ hd (by omega)
    exact ⟨w, h1, by rw [h2]; congr 1; omega⟩
theorem PathI.done {T : List (List Int)} {s at_ : Nat} {D : List Int} {C : List Nat} (hf : FarP T s D) (h : PathI T s D at_ 0 C) : Closed (ArcT T) s C := by
  refine ⟨h.head, h.chain, h.nodup, fun b hb => ?_⟩
  rw [h.last] at hb
  cases hb
  obtain ⟨v, h1, h2⟩ := h.next
  have := hf.zero v h2
  subst this
  exact h1
theorem PathI.closed {T : List (List Int)} {s : Nat} {D : List Int} (hf : FarP T s D) : ∀ (L at_ : Nat) (C : List Nat), PathI T s D at_ L C → ∃ C', Closed (ArcT T) s C' ∧ C'.length = C.length + L
  | 0, _, C, h => ⟨C, h.done hf, rfl⟩
  | L + 1, _, C, h => by
    obtain ⟨v, h1, h2⟩ := h.next
    obtain ⟨C', h3, h4⟩ := PathI.closed hf L v (C ++ [v]) (h.more hf h1 h2)
    exact ⟨C', h3, by rw [h4]; simp; omega⟩
/-- What the look at a node's arcs has told so far: the least that is there. -/
structure MinI (D : List Int) (l : List Int) (n j : Nat) (L : Int) : Prop where
  neg : L < 0 → ∀ (i v : Nat), i < j → l[i]? = some (v : Int) → ∀ d, D[v]? = some d → d < 0
  some_ : 0 ≤ L → ∃ v : Nat, (v : Int) ∈ l ∧ D[v]? = some L
  bnd : -1 ≤ L ∧ L < n
theorem MinI.start (D l : List Int) (n : Nat) : MinI D l n 0 (-1) := ⟨fun _ _ _ h => absurd h (Nat.not_lt_zero _), fun h => by omega, by omega⟩
theorem MinI.take {D l : List Int} {n j v : Nat} {L d : Int} (h : MinI D l n j L) (hv : l[j]? = some (v : Int)) (hd : D[v]? = some d) (h0 : 0 ≤ d) (hn : d < n) : MinI D l n (j + 1) d :=
  ⟨fun h1 => by omega, fun _ => ⟨v, List.mem_of_getElem? hv, hd⟩, by omega⟩
theorem MinI.skip {D l : List Int} {n j v : Nat} {L d : Int} (h : MinI D l n j L) (hv : l[j]? = some (v : Int)) (hd : D[v]? = some d) (h0 : d < 0 ∨ (0 ≤ L ∧ L ≤ d)) : MinI D l n (j + 1) L :=
  ⟨fun h1 i u hi hu e he => by
    rcases Nat.lt_or_ge i j with hij | hij
    · exact h.neg h1 i u hij hu e he
    · obtain rfl : i = j := by omega
      rw [hv] at hu
      have e1 : v = u := by have := Option.some.inj hu; omega
      subst e1
      rw [hd] at he
      cases he
      omega, h.some_, h.bnd⟩
theorem MinI.none {T : List (List Int)} {s n : Nat} {D l : List Int} {L : Int} (hf : FarP T s D) (hl : T[s]? = some l) (h : MinI D l n l.length L) (h0 : L < 0) : ¬ Way (ArcT T) s s := by
  intro hw
  have first : ∀ {a b : Nat}, Way (ArcT T) a b → ∃ v, ArcT T a v ∧ (v = b ∨ Way (ArcT T) v b) := fun hw => by
    cases hw with
    | one h => exact ⟨_, h, .inl rfl⟩
    | more h k => exact ⟨_, h, .inr k⟩
  obtain ⟨v, ⟨l', h1, h2⟩, h3⟩ := first hw
  rw [hl] at h1
  cases h1
  have hd : ∃ d, D[v]? = some d ∧ 0 ≤ d := by
    rcases h3 with rfl | h3
    · exact ⟨0, hf.at_, Int.le_refl _⟩
    · exact hf.reach h3 hf.at_ (Int.le_refl _)
  obtain ⟨d, h4, h5⟩ := hd
  obtain ⟨i, hi⟩ := List.mem_iff_getElem?.1 h2
  have := h.neg h0 i v (List.getElem?_eq_some_iff.1 hi).1 hi d h4
  omega
/-- The best of the cycles through the first k nodes. -/
def CycI (T : List (List Int)) (k : Nat) (C : List Nat) : Prop :=
  (C = [] ∧ ∀ s, s < k → ¬ Way (ArcT T) s s) ∨
  ∃ s0, s0 < k ∧ Closed (ArcT T) s0 C ∧ ∀ s, s < k → Way (ArcT T) s s → ∃ C', Closed (ArcT T) s C' ∧ C.length ≤ C'.length ∧ (s < s0 → C.length < C'.length)
theorem CycI.start (T : List (List Int)) : CycI T 0 [] := .inl ⟨rfl, fun _ h => absurd h (Nat.not_lt_zero _)⟩
theorem CycI.none {T : List (List Int)} {k : Nat} {C : List Nat} (h : CycI T k C) (hk : ¬ Way (ArcT T) k k) : CycI T (k + 1) C := by
  rcases h with ⟨h1, h2⟩ | ⟨s0, h1, h2, h3⟩
  · refine .inl ⟨h1, fun s hs => ?_⟩
    rcases Nat.lt_or_ge s k with h | h
    · exact h2 s h
    · obtain rfl : s = k := by omega
      exact hk
  · refine .inr ⟨s0, by omega, h2, fun s hs hw => ?_⟩
    rcases Nat.lt_or_ge s k with h | h
    · exact h3 s h hw
    · obtain rfl : s = k := by omega
      exact absurd hw hk
theorem CycI.skip {T : List (List Int)} {k : Nat} {C C' : List Nat} (h : CycI T k C) (hc : Closed (ArcT T) k C') (h0 : C ≠ []) (hl : C.length ≤ C'.length) : CycI T (k + 1) C := by
  rcases h with ⟨h1, h2⟩ | ⟨s0, h1, h2, h3⟩
  · exact absurd h1 h0
  · refine .inr ⟨s0, by omega, h2, fun s hs hw => ?_⟩
    rcases Nat.lt_or_ge s k with h | h
    · exact h3 s h hw
    · obtain rfl : s = k := by omega
      exact ⟨C', hc, hl, fun h => by omega⟩
theorem CycI.take {T : List (List Int)} {k : Nat} {C C' : List Nat} (h : CycI T k C) (hc : Closed (ArcT T) k C') (hl : C = [] ∨ C'.length < C.length) : CycI T (k + 1) C' := by
  refine .inr ⟨k, by omega, hc, fun s hs hw => ?_⟩
  rcases Nat.lt_or_ge s k with hsk | hsk
  · rcases h with ⟨h1, h2⟩ | ⟨s0, h1, h2, h3⟩
    · exact absurd hw (h2 s hsk)
    · obtain ⟨C1, h4, h5, -⟩ := h3 s hsk hw
      rcases hl with hl | hl
      · subst hl
        have := h2.head
        simp at this
      · exact ⟨C1, h4, by omega, fun _ => by omega⟩
  · obtain rfl : s = k := by omega
    exact ⟨C', hc, Nat.le_refl _, fun h => by omega⟩
/-- A list is closed and simple where it is not empty; it is empty just where nothing goes round. -/
theorem CycI.rounds {T : List (List Int)} {C : List Nat} (h : CycI T T.length C) : C = [] ↔ ¬ Rounds (ArcT T) := by
  rcases h with ⟨h1, h2⟩ | ⟨s0, h1, h2, h3⟩
  · refine ⟨fun _ => ?_, fun _ => h1⟩
    rintro ⟨a, hw⟩
    have ha : a < T.length := by
      cases hw with
      | one h => obtain ⟨l, h, -⟩ := h; exact (List.getElem?_eq_some_iff.1 h).1
      | more h _ => obtain ⟨l, h, -⟩ := h; exact (List.getElem?_eq_some_iff.1 h).1
    exact h2 a ha hw
  · have hne : C ≠ [] := fun e => by have := h2.head; rw [e] at this; simp at this
    refine ⟨fun e => absurd e hne, fun hr => absurd ?_ hr⟩
    cases C with
    | nil => exact absurd rfl hne
    | cons a l =>
      have hh := h2.head
      simp only [List.head?_cons, Option.some.injEq] at hh
      subst hh
      obtain ⟨b, hb⟩ : ∃ b, (a :: l).getLast? = some b := ⟨_, List.getLast?_eq_some_getLast (by simp)⟩
      have hs := h2.shut b hb
      refine ⟨a, ?_⟩
      by_cases hl : l = []
      · subst hl
        simp at hb
        subst hb
        exact .one hs
      · have hbm : b ∈ l := by
          have := List.mem_of_getLast? hb
          cases l with
          | nil => exact absurd rfl hl
          | cons c l =>
            rw [List.getLast?_cons_cons] at hb
            exact List.mem_of_getLast? hb
        exact (chain_way h2.chain hbm).trans (.one hs)
end Go.Proofs.YtnacoplokjdglaaGreat

namespace Go.Proofs.YtnacoplokjdglaaGreat
open Go.RowKit Go.Maps
attribute [local go_sem] Oper.semAt_some

set_option maxRecDepth 100000 in
set_option maxHeartbeats 8000000 in
theorem next_callG (n : Nat) (arcs : List (Int × Int)) (v : Value) (w : World) (hr : RdArcs w v arcs) (hn : n ≤ 400) (hl : arcs.length ≤ 1000000) :
    Calls Tryz.prog 93 #[vi n, v] w fun e w' => ∃ tb vs, e = .returned (.slice (some ⟨tb, 0, none⟩) n n) ∧ TabT viC 1 3 58 w.heap.size tb vs (nextT n arcs) w' ∧ Below w.heap.size w w' := by
  obtain ⟨av, nv, cv, rfl, rfl, hm, -⟩ := hr.at
  have HR := Lib.hid hr
  have hmk := run_makeRows w n (by omega)
  have HT0 := Lib.hid (show TabT viC 1 3 58 w.heap.size w.heap.size (List.replicate n (.slice none 0 0)) ((List.range n).map (rawRow n (arcs.take 0))) (w.alloc (.cells (Array.replicate n (.slice none 0 0)) 58)) from
    ⟨by have h := RowsT.nils (enc := viC) (k := 1) (e := 3) (N := w.heap.size) (A := w.alloc (.cells (Array.replicate n (.slice none 0 0)) 58)) n
        have e : (List.range n).map (rawRow n (arcs.take 0)) = List.replicate n ([] : List Int) := by
          apply List.ext_getElem?
          intro j
          rw [List.getElem?_map, List.getElem?_replicate]
          by_cases hj : j < n
          · rw [List.getElem?_range hj, if_pos hj]; simp [rawRow]
          · rw [List.getElem?_eq_none (by simp; omega), if_neg hj]; rfl
        rw [e]; exact h, by rw [alloc_atG]; simp, Nat.le_refl _, by decide⟩)
  have HB0 := Lib.hid ((Below.refl w.heap.size w).alloc (Nat.le_refl _) (.cells (Array.replicate n (.slice none 0 0)) 58))
  clear hr
  go_enter Tryz.func93, Tryz.ntmps93
  go_upto_region 2 with fail
  generalize w.alloc (.cells (Array.replicate n (.slice none 0 0)) 58) = w1 at *
  obtain ⟨tb, htb⟩ : ∃ tb, tb = w.heap.size := ⟨_, rfl⟩
  have HT1 := Lib.hid (show TabT viC 1 3 58 w.heap.size tb (List.replicate n (.slice none 0 0)) ((List.range n).map (rawRow n (arcs.take 0))) w1 from by rw [htb]; exact HT0.out)
  rw [← htb]
  clear htb HT0 hmk
  go_wp2_with fail
  go_loopw [13] (fun i wr => ∃ k : Nat, k ≤ arcs.length ∧ i = vi k ∧ Hid (∃ vs, TabT viC 1 3 58 w.heap.size tb vs ((List.range n).map (rawRow n (arcs.take k))) wr ∧ Below w.heap.size w wr)) (fun i _ => arcs.length - (intOf i).toNat)
  case atStart => exact ⟨0, Nat.zero_le _, rfl, Lib.hid ⟨_, HT1.out, HB0.out⟩⟩
  case round =>
    obtain ⟨wj, rfl⟩ : ∃ wj : World, wj = wr := ⟨_, rfl⟩
    obtain ⟨k, hk, rfl, HJ⟩ := hrel
    obtain ⟨vs, hT, hB⟩ := HJ.out
    have HT := Lib.hid hT
    have HB := Lib.hid hB
    clear HJ hT hB
    by_cases hlt : k < arcs.length
    · have k1 : decide ((k : Int) < arcs.length) = true := decide_eq_true (by omega)
      have k2 : (k : Int) < arcs.length := by omega
      have hwk : IntKind.i64.wrap ((k : Int) + 1) = (k : Int) + 1 := IntWalk.i64_in _ (by omega)
      obtain ⟨⟨f, t⟩, ho⟩ := some_at hlt
      obtain ⟨a', n', c', hee, _, _, hcells⟩ := (HR.out.later HB.out).at
      obtain ⟨b, off, ha, y0, y1⟩ := hcells k _ ho
      simp only [Value.slice.injEq] at hee
      obtain ⟨rfl, -, -⟩ := hee
      subst ha
      simp only at y0 y1
      have hA := (Below.refl wj.heap.size wj).alloc (Nat.le_refl _) (.cells #[vi f, vi t] 164)
      have HTA := Lib.hid (HT.out.later hA)
      have HBA := Lib.hid (HB.out.trans (hA.mono HB.out.size))
      have HXA := Lib.hid (alloc_atG wj (.cells #[vi f, vi t] 164))
      have HO := Lib.hid ho
      clear hcells ho hA
      go_upto_region 5 with fail
      clear y0 y1
      generalize wj.alloc (.cells #[vi f, vi t] 164) = wa at *
      obtain ⟨b7, hb7⟩ : ∃ b7, b7 = wj.heap.size := ⟨_, rfl⟩
      rw [← hb7] at HXA ⊢
      clear hb7
      have x0 : wa.cell? ⟨b7, 0, none⟩ = some (vi f) := by rw [cell_ofG HXA.out]; rfl
      have x1 : wa.cell? ⟨b7, 1, none⟩ = some (vi t) := by rw [cell_ofG HXA.out]; rfl
      by_cases hin : inN n (f, t) = true
      case neg =>
        have HSK := Lib.hid (raw_skip HO.out (by simpa using hin))
        have HFN := Lib.hid (show ∃ vs, TabT viC 1 3 58 w.heap.size tb vs ((List.range n).map (rawRow n (arcs.take (k + 1)))) wa ∧ Below w.heap.size w wa from ⟨vs, by rw [HSK.out]; exact HTA.out, HBA.out⟩)
        by_cases h1 : 0 ≤ f
        · have g1 : decide ((0 : Int) ≤ f) = true := decide_eq_true h1
          by_cases h2 : f < n
          · have g2 : decide (f < (n : Int)) = true := decide_eq_true h2
            by_cases h3 : 0 ≤ t
            · have g3 : decide ((0 : Int) ≤ t) = true := decide_eq_true h3
              have g4 : decide (t < (n : Int)) = false := decide_eq_false (fun h4 => hin (by simp [inN, h1, h2, h3, h4]))
              clear hin
              go_wp2_with fail
              exact ⟨⟨k + 1, by omega, by go_num, HFN⟩, by simp only [intOf]; omega⟩
            · have g3 : decide ((0 : Int) ≤ t) = false := decide_eq_false h3
              clear hin
              go_wp2_with fail
              exact ⟨⟨k + 1, by omega, by go_num, HFN⟩, by simp only [intOf]; omega⟩
          · have g2 : decide (f < (n : Int)) = false := decide_eq_false h2
            clear hin
            go_wp2_with fail
            exact ⟨⟨k + 1, by omega, by go_num, HFN⟩, by simp only [intOf]; omega⟩
        · have g1 : decide ((0 : Int) ≤ f) = false := decide_eq_false h1
          clear hin
          go_wp2_with fail
          exact ⟨⟨k + 1, by omega, by go_num, HFN⟩, by simp only [intOf]; omega⟩
      case pos =>
      simp only [inN, Bool.and_eq_true, decide_eq_true_eq] at hin
      obtain ⟨⟨⟨h1, h2⟩, h3⟩, h4⟩ := hin
      obtain ⟨u, rfl⟩ : ∃ u : Nat, f = (u : Int) := ⟨f.toNat, by omega⟩
      obtain ⟨z, rfl⟩ : ∃ z : Nat, t = (z : Int) := ⟨t.toNat, by omega⟩
      have g1 : decide ((0 : Int) ≤ u) = true := decide_eq_true h1
      have g2 : decide ((u : Int) < (n : Int)) = true := decide_eq_true h2
      have g3 : decide ((0 : Int) ≤ z) = true := decide_eq_true h3
      have g4 : decide ((z : Int) < (n : Int)) = true := decide_eq_true h4
      have hu : u < n := by omega
      have hz : z < n := by omega
      have hraw : ((List.range n).map (rawRow n (arcs.take k)))[u]? = some (rawRow n (arcs.take k) u) := by rw [List.getElem?_map, List.getElem?_range hu]; rfl
      obtain ⟨vu, hvu, hrow⟩ := HTA.out.rows.get hraw
      obtain ⟨au, cu, rfl⟩ := Gr.own_shape (show World.ownsRow _ _ _ _ vu (rawRow n (arcs.take k) u).length _ from hrow)
      have hrl : (rawRow n (arcs.take k) u).length + 1 ≤ 68719476736 := by
        have h5 := rawRow_len n (arcs.take k) u
        have h6 : (arcs.take k).length ≤ arcs.length := by rw [List.length_take]; omega
        omega
      go_upto_region 6 with fail
      clear g1 g2 g3 g4
      have HST := Lib.hid (raw_step HO.out hu hz)
      have HVU := Lib.hid hvu
      have HRW := Lib.hid hrow
      have h2 : (u : Int) < n := by omega
      clear x0 x1 hrow hraw
      refine wp_onlyN ?_ (fun _ _ h => h)
      refine reg6 wa _ HXA.out HTA.out HVU.out HRW.out hrl HBA.out.size h2 ?_
      intro wc v' v37 v38 v39 v40 v41 v42 v43 v44 v45 v46 v47 v48 v49 hf
      have HTB := Lib.hid (show TabT viC 1 3 58 w.heap.size tb (vs.set u v') ((List.range n).map (rawRow n (arcs.take (k + 1)))) (wc.setCell ⟨tb, u, none⟩ v') from by rw [← HST.out]; exact hf.2.1)
      have HBB := Lib.hid (show Below w.heap.size w (wc.setCell ⟨tb, u, none⟩ v') from (hf.2.2 w HBA.out).setCell HTA.out.own _)
      clear hf
      generalize wc.setCell ⟨tb, u, none⟩ v' = wx at *
      go_wp2_with fail
      exact ⟨⟨k + 1, by omega, by go_num, Lib.hid ⟨_, HTB.out, HBB.out⟩⟩, by simp only [intOf]; omega⟩
    · have k1 : decide ((k : Int) < arcs.length) = false := decide_eq_false (by omega)
      have hke : k = arcs.length := by omega
      have HT2 : Hid (TabT viC 1 3 58 w.heap.size tb vs ((List.range n).map (fun u => if u < 0 then sortC (rawRow n arcs u) else rawRow n arcs u)) wj) := by
        have h := HT.out
        rw [hke, List.take_length] at h
        have e : (List.range n).map (fun u => if u < 0 then sortC (rawRow n arcs u) else rawRow n arcs u) = (List.range n).map (rawRow n arcs) := List.map_congr_left (fun x _ => by simp)
        rw [e]; exact Lib.hid h
      clear hke HT
      go_wp2_with fail
      go_loopw [53] (fun i wr => ∃ k : Nat, k ≤ n ∧ i = vi k ∧ Hid (∃ vs, TabT viC 1 3 58 w.heap.size tb vs ((List.range n).map (fun u => if u < k then sortC (rawRow n arcs u) else rawRow n arcs u)) wr ∧ Below w.heap.size w wr)) (fun i _ => n - (intOf i).toNat)
      case atStart => exact ⟨0, Nat.zero_le _, rfl, Lib.hid ⟨_, HT2.out, HB.out⟩⟩
      case round =>
        obtain ⟨wq, rfl⟩ : ∃ wq : World, wq = wr := ⟨_, rfl⟩
        clear hlt k1 hk
        obtain ⟨j, hj, rfl, HJ⟩ := hrel
        obtain ⟨us, hT, hB⟩ := HJ.out
        have HTQ := Lib.hid hT
        have HBQ := Lib.hid hB
        clear HJ hT hB
        by_cases hlt : j < n
        · have k1 : decide ((j : Int) < (n : Int)) = true := decide_eq_true (by omega)
          have k2 : (j : Int) < (n : Int) := by omega
          have k3 : (0 : Int) ≤ (j : Int) := by omega
          have hwk : IntKind.i64.wrap ((j : Int) + 1) = (j : Int) + 1 := IntWalk.i64_in _ (by omega)
          have hraw : ((List.range n).map (fun u => if u < j then sortC (rawRow n arcs u) else rawRow n arcs u))[j]? = some (rawRow n arcs j) := by
            rw [List.getElem?_map, List.getElem?_range hlt]; simp
          obtain ⟨vj, hvj, hrow⟩ := HTQ.out.rows.get hraw
          obtain ⟨aj, cj, rfl⟩ := Gr.own_shape (show World.ownsRow _ _ _ _ vj (rawRow n arcs j).length _ from hrow)
          have hrl := rawRow_len n arcs j
          have HVJ := Lib.hid hvj
          have HRW := Lib.hid hrow
          have td : wq.cell? ⟨tb, j, none⟩ = some (.slice aj (rawRow n arcs j).length cj) := HTQ.out.cell hvj
          have hsl : (srt (rawRow n arcs j)).length = (rawRow n arcs j).length := (srt_perm _).length_eq
          have HSL := Lib.hid hsl
          have HRL := Lib.hid hrl
          clear hraw hrow hvj hsl hrl
          go_upto_region 12 with (go_at_call 90; refine (sort_call (.slice aj (rawRow n arcs j).length cj) (rawRow n arcs j) wq HRW.out (by have := HRL.out; omega)).mono ?_; rintro e1 y1 ⟨rfl, ho1, hg1⟩; have HO1 := Lib.hid ho1; have HT1 := Lib.hid (HTQ.out.turned HVJ.out hg1 ho1); have HB1 := Lib.hid (tab_below HTQ.out HVJ.out hg1 HBQ.out); clear ho1 hg1)
          clear td
          have t1 : y1.cell? ⟨tb, j, none⟩ = some (.slice aj (rawRow n arcs j).length cj) := HT1.out.cell HVJ.out
          go_wp2_with (go_at_call 118; refine (compact_call (.slice aj (rawRow n arcs j).length cj) (srt (rawRow n arcs j)) y1 HO1.out (by have := HRL.out; have := HSL.out; omega)).mono ?_; rintro e2 y2 ⟨v2, rfl, ho2, hg2, hat2⟩; obtain ⟨a2, c2, rfl⟩ := Gr.own_shape ho2; have HW := Lib.hid (HT1.out.wrote HVJ.out hg2 ho2 (.inl hat2)); have HB2 := Lib.hid (tab_below HT1.out HVJ.out hg2 HB1.out); have z1 := HW.out.1; have z2 := HW.out.2.1; clear ho2 hg2 hat2)
          refine ⟨⟨j + 1, by omega, by go_num, Lib.hid ⟨us.set j (.slice a2 (Lib.compact (srt (rawRow n arcs j))).length c2), ?_, HB2.out.setCell (by have := HTQ.out.own; omega) _⟩⟩, by simp only [intOf]; omega⟩
          have e := mapR_set n (fun u => if u < j then sortC (rawRow n arcs u) else rawRow n arcs u) (fun u => if u < j + 1 then sortC (rawRow n arcs u) else rawRow n arcs u) j (fun u hu => by
            by_cases h1 : u < j
            · rw [if_pos (by omega), if_pos h1]
            · rw [if_neg (by omega), if_neg h1])
          simp only [show j < j + 1 by omega, if_true] at e
          have h := HW.out.2.2
          rw [List.set_set] at h
          rw [← e]; exact h
        · have k1 : decide ((j : Int) < (n : Int)) = false := decide_eq_false (by omega)
          have hje : j = n := by omega
          have HTF : Hid (TabT viC 1 3 58 w.heap.size tb us (nextT n arcs) wq) := by
            have h := HTQ.out
            have e : (List.range n).map (fun u => if u < j then sortC (rawRow n arcs u) else rawRow n arcs u) = nextT n arcs := List.map_congr_left (fun x hx => by rw [if_pos (by have := List.mem_range.1 hx; omega)])
            rw [e] at h; exact Lib.hid h
          clear hje
          go_wp2_with fail
          go_ret
          exact ⟨tb, us, rfl, HTF.out, HBQ.out⟩
end Go.Proofs.YtnacoplokjdglaaGreat
