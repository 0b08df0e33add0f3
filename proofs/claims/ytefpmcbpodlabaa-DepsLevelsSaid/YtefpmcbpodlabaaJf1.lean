/- Texts of one proof, one behind the other: DpOrdA, DpOrdW, DpRow, DpL6. -/
import Derived.Test.YtefpmcbpodlabaaJc10
import Derived.Test.YtefpmcbpodlabaaJc2
import Derived.WalkMore
import Derived.Test.YtefpmcbpodlabaaJc14
import Derived.Test.YtefpmcbpodlabaaJc6
import Derived.Test.YtefpmcbpodlabaaJe1
set_option linter.all false
/- graph.Order: the counts, the marks, the order so far. -/
namespace Go.Proofs.Ytefpmcbpodlabaa
open Go.RowKit Go.Maps

def BdB (B : List Int) (lo hi : Int) : Prop := ∀ x ∈ B, lo ≤ x ∧ x ≤ hi
theorem BdB.up {B : List Int} {lo hi : Int} (h : BdB B lo hi) (v : Int) (h1 : lo ≤ 0) (h2 : 0 ≤ hi) : BdB (addAt 1 B v) lo (hi + 1) := fun x hx => by
  rcases List.mem_or_eq_of_mem_set hx with hx | rfl
  · have := h x hx; omega
  · cases hb : B[v.toNat]? with
    | none => simp only [Option.getD_none]; omega
    | some y => have := h y (List.mem_of_getElem? hb); simp only [Option.getD_some]; omega
theorem BdB.down {B : List Int} {lo hi : Int} (h : BdB B lo hi) (v : Int) (h1 : lo ≤ 0) (h2 : 0 ≤ hi) : BdB (addAt (-1) B v) (lo - 1) hi := fun x hx => by
  rcases List.mem_or_eq_of_mem_set hx with hx | rfl
  · have := h x hx; omega
  · cases hb : B[v.toNat]? with
    | none => simp only [Option.getD_none]; omega
    | some y => have := h y (List.mem_of_getElem? hb); simp only [Option.getD_some]; omega
theorem addRow_take {d : Int} {B l : List Int} {j : Nat} {v : Int} (h : l[j]? = some v) : addRow d B (l.take (j + 1)) = addAt d (addRow d B (l.take j)) v := by
  rw [take_at h]
  unfold addRow
  rw [List.foldl_append]
  rfl
def cntB (n : Nat) (T : List (List Int)) : List Int := T.foldl (addRow 1) (List.replicate n 0)
theorem cntB_take {n k : Nat} {T : List (List Int)} {l : List Int} (h : T[k]? = some l) : cntB n (T.take (k + 1)) = addRow 1 (cntB n (T.take k)) l := by
  rw [take_at h]
  unfold cntB
  rw [List.foldl_append]
  rfl
theorem foldl_cnt (v : Nat) : ∀ (T : List (List Int)) (k : Nat) (B : List Int), (∀ l ∈ T, ∀ x ∈ l, 0 ≤ x) → v < B.length → ((T.foldl (addRow 1) B)[v]?).getD 0 = (B[v]?).getD 0 + sumB T k (fun _ => false) v ∧ (T.foldl (addRow 1) B).length = B.length
  | [], _, B, _, _ => by simp [sumB]
  | l :: T, k, B, hT, hv => by
    have h1 := foldl_cnt v T (k + 1) (addRow 1 B l) (fun m hm => hT m (List.mem_cons_of_mem _ hm)) (by rw [addRow_len]; exact hv)
    have h2 := addRow_at 1 l B v hv (hT l List.mem_cons_self)
    rw [List.foldl_cons]
    refine ⟨?_, by rw [h1.2, addRow_len]⟩
    have e : sumB (l :: T) k (fun _ => false) (v : Int) = (l.count (v : Int) : Int) + sumB T (k + 1) (fun _ => false) v := rfl
    rw [h1.1, h2, e]
    omega
theorem cntB_len (n : Nat) : ∀ (T : List (List Int)) (B : List Int), (T.foldl (addRow 1) B).length = B.length
  | [], _ => rfl
  | l :: T, B => by rw [List.foldl_cons, cntB_len n T, addRow_len]
theorem kahn_start {n : Nat} {T : List (List Int)} (hn : T.length = n) (hT : InT T) : KahnI T [] (fun _ => false) (cntB n T) := by
  refine ⟨List.nodup_nil, fun v h => (by cases h), fun v _ => (by simp), (by unfold cntB; rw [cntB_len n]; simp [hn]), fun v hv => ?_, fun i v h => (by simp at h)⟩
  have h1 := (foldl_cnt v T 0 (List.replicate n 0) (fun l hl x hx => (hT l hl x hx).1) (by simp; omega)).1
  unfold cntB
  rw [h1, List.getElem?_replicate, if_pos (by omega)]
  simp

theorem addAt_eq {B : List Int} {z : Nat} {x d : Int} (h : B[z]? = some x) : addAt d B (z : Int) = B.set z (x + d) := by
  unfold addAt
  rw [Int.toNat_natCast, h, Option.getD_some]
theorem addAt_len (d : Int) (B : List Int) (v : Int) : (addAt d B v).length = B.length := by simp [addAt]
/-- The counts while they are made. -/
structure CntW (w1 : World) (n : Nat) (B : List Int) (hi : Nat) (wr : World) : Prop where
  lo : Below w1.heap.size w1 wr
  sz : wr.heap.size = w1.heap.size + 1
  bs : wr.heap[w1.heap.size]? = some (.cells (B.map vi).toArray 3)
  bd : BdB B 0 hi
  bl : B.length = n
theorem CntW.start (w1 : World) (n : Nat) : CntW w1 n (cntB n []) 0 (w1.alloc (.cells (Array.replicate n (vi 0)) 3)) := by
  refine ⟨(Below.refl w1.heap.size w1).alloc (Nat.le_refl _) _, by simp, ?_, fun x hx => ?_, by simp [cntB]⟩
  · rw [alloc_atG]; simp [cntB]
  · have := List.eq_of_mem_replicate hx; omega
theorem CntW.free {w1 wr : World} {n hi : Nat} {B : List Int} (h : CntW w1 n B hi wr) (i : Nat) : wr.frozen? ⟨w1.heap.size, i, none⟩ = false := by simp [World.frozen?, h.bs]
theorem CntW.cell {w1 wr : World} {n hi : Nat} {B : List Int} (h : CntW w1 n B hi wr) {i : Nat} {x : Int} (hx : B[i]? = some x) : wr.cell? ⟨w1.heap.size, i, none⟩ = some (vi x) := by
  rw [cell_ofG h.bs]; simp [hx]
theorem CntW.put {w1 wr : World} {n hi z : Nat} {B : List Int} {x : Int} (h : CntW w1 n B hi wr) (hx : B[z]? = some x) : CntW w1 n (addAt 1 B z) (hi + 1) (wr.setCell ⟨w1.heap.size, z, none⟩ (vi (x + 1))) := by
  refine ⟨h.lo.setCell (Nat.le_refl _) _, by simpa [World.setCell] using h.sz, ?_, ?_, by rw [addAt_len]; exact h.bl⟩
  · rw [addAt_eq hx]; exact setD h.bs
  · have := h.bd.up z (Int.le_refl _) (by omega)
    exact this
theorem CntW.more {w1 wr : World} {n hi hi' : Nat} {B : List Int} (h : CntW w1 n B hi wr) (hh : hi ≤ hi') : CntW w1 n B hi' wr := ⟨h.lo, h.sz, h.bs, fun x hx => by have := h.bd x hx; omega, h.bl⟩
structure OrdW (w1 : World) (n : Nat) (B : List Int) (dn : Nat → Bool) (out : List Nat) (vo : Value) (wr : World) : Prop where
  lo : Below w1.heap.size w1 wr
  sz : w1.heap.size + 2 ≤ wr.heap.size
  bs : wr.heap[w1.heap.size]? = some (.cells (B.map vi).toArray 3)
  ds : wr.heap[w1.heap.size + 1]? = some (.cells ((List.range n).map (fun i => Value.bool (dn i))).toArray 4)
  row : wr.ownsRow (w1.heap.size + 2) 3 1 vo out.length ((out.map natI).flatMap viC)
section
variable {w1 wr : World} {n : Nat} {B : List Int} {dn : Nat → Bool} {out : List Nat} {vo : Value}
theorem OrdW.start {hi : Nat} (h : CntW w1 n B hi wr) : OrdW w1 n B (fun _ => false) [] (.slice none 0 0) (wr.alloc (.cells (Array.replicate n (Value.bool false)) 4)) := by
  have hb := (Below.refl wr.heap.size wr).alloc (Nat.le_refl _) (.cells (Array.replicate n (Value.bool false)) 4)
  refine ⟨h.lo.trans (hb.mono h.lo.size), by simp [h.sz], (hb.block _ (by have := h.sz; omega)).trans h.bs, ?_, World.ownsRow_nil _ _ _ _⟩
  rw [← h.sz, alloc_atG]
  congr 2
  apply Array.ext'
  simp only [Array.toList_replicate]
  apply List.ext_getElem?
  intro j
  rw [List.getElem?_map, List.getElem?_replicate]
  by_cases hj : j < n
  · rw [List.getElem?_range hj, if_pos hj]; rfl
  · rw [List.getElem?_eq_none (by simp; omega), if_neg hj]; rfl
theorem OrdW.cellB (h : OrdW w1 n B dn out vo wr) {i : Nat} {x : Int} (hx : B[i]? = some x) : wr.cell? ⟨w1.heap.size, i, none⟩ = some (vi x) := by
  rw [cell_ofG h.bs]; simp [hx]
theorem OrdW.cellD (h : OrdW w1 n B dn out vo wr) {i : Nat} (hi : i < n) : wr.cell? ⟨w1.heap.size + 1, i, none⟩ = some (.bool (dn i)) := by
  rw [cell_ofG h.ds]; simp [hi]
theorem OrdW.freeB (h : OrdW w1 n B dn out vo wr) (i : Nat) : wr.frozen? ⟨w1.heap.size, i, none⟩ = false := by simp [World.frozen?, h.bs]
theorem OrdW.freeD (h : OrdW w1 n B dn out vo wr) (i : Nat) : wr.frozen? ⟨w1.heap.size + 1, i, none⟩ = false := by simp [World.frozen?, h.ds]
theorem OrdW.rowset (h : OrdW w1 n B dn out vo wr) (b i : Nat) (x : Value) (hb : b < w1.heap.size + 2) : (wr.setCell ⟨b, i, none⟩ x).ownsRow (w1.heap.size + 2) 3 1 vo out.length ((out.map natI).flatMap viC) :=
  h.row.kept (grown_setCell (i := i) (v := x) (ob := b) ⟨rfl, rfl, rfl, Nat.le_refl _, fun _ _ _ => rfl⟩) (by
    cases ho : vo.ownBlock with
    | none => exact .inl rfl
    | some g => exact .inr (fun e => by have h1 := (h.row.lt g ho).1; have h3 := Option.some.inj e; omega))
theorem OrdW.put (h : OrdW w1 n B dn out vo wr) (i : Nat) (d : Int) : OrdW w1 n (B.set i d) dn out vo (wr.setCell ⟨w1.heap.size, i, none⟩ (vi d)) :=
  ⟨h.lo.setCell (Nat.le_refl _) _, by simpa [World.setCell] using h.sz, setD h.bs, (Below.heap_setCell _ _ _ _ (by simp only; omega)).trans h.ds, h.rowset _ _ _ (by omega)⟩
theorem OrdW.mark (h : OrdW w1 n B dn out vo wr) {a : Nat} : OrdW w1 n B (fun i => dn i || i == a) out vo (wr.setCell ⟨w1.heap.size + 1, a, none⟩ (.bool true)) := by
  refine ⟨h.lo.setCell (Nat.le_succ _) _, by simpa [World.setCell] using h.sz, (Below.heap_setCell _ _ _ _ (by simp only; omega)).trans h.bs, ?_, h.rowset _ _ _ (by omega)⟩
  have e0 : (wr.setCell ⟨w1.heap.size + 1, a, none⟩ (.bool true)).heap[w1.heap.size + 1]? = some (.cells (((List.range n).map (fun i => Value.bool (dn i))).set a (.bool true)).toArray 4) := by
    simp [World.setCell, Array.getElem?_modify, h.ds]
  rw [e0]
  have e := mapR_set n (fun i => Value.bool (dn i)) (fun i => Value.bool (dn i || i == a)) a (fun u hu => by
    have : (u == a) = false := by rw [beq_eq_false_iff_ne]; exact hu
    rw [this, Bool.or_false])
  have e1 : ((List.range n).map (fun i => Value.bool (dn i))).set a (.bool true) = (List.range n).map (fun i => Value.bool (dn i || i == a)) := by
    rw [← e]; simp
  rw [e1]
theorem OrdW.alloc (h : OrdW w1 n B dn out vo wr) (o : Obj) : OrdW w1 n B dn out vo (wr.alloc o) := by
  have hb := (Below.refl wr.heap.size wr).alloc (Nat.le_refl _) o
  exact ⟨h.lo.trans (hb.mono h.lo.size), Nat.le_trans h.sz hb.size, (hb.block _ (by have := h.sz; omega)).trans h.bs, (hb.block _ (by have := h.sz; omega)).trans h.ds, own_below h.row hb⟩
theorem OrdW.push {vc : Value} {wc : World} {a : Nat} (h : OrdW w1 n B dn out vo wr) (ho : wc.ownsRow (w1.heap.size + 2) 3 1 vc (out.length + 1) ((out.map natI).flatMap viC ++ [vi a])) (hg : wr.grownBy wc vo.ownBlock) : OrdW w1 n B dn (out ++ [a]) vc wc := by
  have hne : ∀ j, j < w1.heap.size + 2 → some j ≠ vo.ownBlock := fun j hj e => by have h1 := (h.row.lt j e.symm).1; omega
  have hz := h.sz
  refine ⟨⟨hg.os.trans h.lo.os, hg.tape.trans h.lo.tape, hg.output.trans h.lo.output, Nat.le_trans h.lo.size hg.size, fun j hj => (hg.block j (by omega) (hne j (by omega))).trans (h.lo.block j hj)⟩, Nat.le_trans hz hg.size, (hg.block _ (by omega) (hne _ (by omega))).trans h.bs, (hg.block _ (by omega) (hne _ (by omega))).trans h.ds, ?_⟩
  have e2 : ((out ++ [a]).map natI).flatMap viC = (out.map natI).flatMap viC ++ [vi a] := by simp [viC, natI]
  rw [e2, List.length_append, List.length_singleton]
  exact ho
end
end Go.Proofs.Ytefpmcbpodlabaa

/- graph.Order: whether there is an order. -/
namespace Go.Proofs.Ytefpmcbpodlabaa
open Go.RowKit Go.Maps
attribute [local go_sem] Oper.semAt_some

set_option maxRecDepth 100000 in
set_option maxHeartbeats 16000000 in
theorem order_callG (ni : Int) (arcs : List (Int × Int)) (v : Value) (w : World) (hr : RdArcs w v arcs) (hl : arcs.length ≤ 1000000) :
    Calls Try.prog 22 #[vi ni, v] w fun e w' => ∃ vo b, e = .returned (.tuple #[vo, .bool b]) ∧ (b = true ↔ ¬ Rounds (ArcT (nextT (sizeM ni) arcs))) ∧ Below w.heap.size w w' := by
  have hsz := size_call ni w
  obtain ⟨n, hn⟩ : ∃ n, n = sizeM ni := ⟨_, rfl⟩
  rw [← hn] at hsz ⊢
  have hn4 : n ≤ 400 := by rw [hn]; exact sizeM_le ni
  clear hn
  have hnx := Lib.hid (next_callG n arcs v w hr hn4 hl)
  have HSH := Lib.hid (nextT_short (n := n) hl)
  have HSZ := Lib.hid hsz
  obtain ⟨T, hTe⟩ : ∃ T, T = nextT n arcs := ⟨_, rfl⟩
  have HLEN := Lib.hid (show T.length = n from by rw [hTe]; exact nextT_len n arcs)
  have HBD := Lib.hid (show InT T from by rw [hTe]; intro l hl v hv; rw [nextT_len]; exact nextT_bound l hl v hv)
  rw [← hTe] at hnx HSH ⊢
  clear hTe hl hr hsz
  have hmz := fun w => run_makeZ w n (by omega)
  have hmb := fun w => run_makeBools w n (by omega)
  go_enter Try.func22, Try.ntmps22
  go_wp2_with fail
  go_step3
  go_upto_region 3 with (first | (go_at_call 51; refine HSZ.out.mono ?_; rintro e1 w0 ⟨rfl, rfl⟩) | (go_at_call 50; refine hnx.out.mono ?_; rintro e1 w1 ⟨tb, vs, rfl, hT, hB⟩; have HT := Lib.hid hT; have HB := Lib.hid hB; clear hT hB))
  go_upto_region 4 with fail
  have HC0 := Lib.hid (show CntW w1 n (cntB n (T.take 0)) (0 * 1048576) (w1.alloc (.cells (Array.replicate n (vi 0)) 3)) from by simpa using CntW.start w1 n)
  go_wp2_with fail
  go_loopw [26] (fun i wr => ∃ k : Nat, k ≤ n ∧ i = vi k ∧ Hid (CntW w1 n (cntB n (T.take k)) (k * 1048576) wr)) (fun i _ => n - (intOf i).toNat)
  case atStart => exact ⟨0, Nat.zero_le _, rfl, HC0⟩
  case round =>
    obtain ⟨wj, rfl⟩ : ∃ wj : World, wj = wr := ⟨_, rfl⟩
    obtain ⟨k, hk, rfl, HJ⟩ := hrel
    by_cases hlt : k < n
    · have k1 : decide ((k : Int) < (n : Int)) = true := decide_eq_true (by omega)
      have k2 : (k : Int) < (n : Int) := by omega
      have hwk : IntKind.i64.wrap ((k : Int) + 1) = (k : Int) + 1 := IntWalk.i64_in _ (by omega)
      obtain ⟨l, hl⟩ := some_at (show k < T.length by rw [HLEN.out]; exact hlt)
      obtain ⟨vr, hvr, hrow⟩ := HT.out.rows.get hl
      obtain ⟨ar, cr, rfl⟩ := Gr.own_shape (show World.ownsRow _ _ _ _ vr l.length _ from hrow)
      have t1 : wj.cell? ⟨tb, k, none⟩ = some (.slice ar l.length cr) := (HT.out.later HJ.out.lo).cell hvr
      have hml := HSH.out l (List.mem_of_getElem? hl)
      have HRW := Lib.hid hrow
      have HL := Lib.hid hl
      have HIN := Lib.hid (HBD.out l (List.mem_of_getElem? hl))
      have HJ2 := Lib.hid (show CntW w1 n (addRow 1 (cntB n (T.take k)) (l.take 0)) (k * 1048576 + 0) wj from by simpa [addRow] using HJ.out)
      clear hl hvr hrow
      go_wp2_with fail
      clear t1
      go_loopw [32] (fun j wr => ∃ j' : Nat, j' ≤ l.length ∧ j = vi j' ∧ Hid (CntW w1 n (addRow 1 (cntB n (T.take k)) (l.take j')) (k * 1048576 + j') wr)) (fun j _ => l.length - (intOf j).toNat)
      case atStart => exact ⟨0, Nat.zero_le _, rfl, HJ2⟩
      case round =>
        obtain ⟨wi, rfl⟩ : ∃ wi : World, wi = wr := ⟨_, rfl⟩
        obtain ⟨j, hj, rfl, HI⟩ := hrel
        by_cases hjl : j < l.length
        · have j1 : decide ((j : Int) < (l.length : Int)) = true := decide_eq_true (by omega)
          have j2 : (j : Int) < (l.length : Int) := by omega
          have hwj : IntKind.i64.wrap ((j : Int) + 1) = (j : Int) + 1 := IntWalk.i64_in _ (by omega)
          obtain ⟨y, hy⟩ := some_at hjl
          have hyb := HIN.out y (List.mem_of_getElem? hy)
          obtain ⟨z, rfl⟩ : ∃ z : Nat, y = (z : Int) := ⟨y.toNat, by omega⟩
          obtain ⟨g, rfl, c0⟩ := row_cell (own_below HRW.out HI.out.lo) j _ hy
          have hzn : z < n := by have := hyb.2; rw [HLEN.out] at this; omega
          obtain ⟨x, hx⟩ := some_at (show z < (addRow 1 (cntB n (T.take k)) (l.take j)).length by rw [HI.out.bl]; exact hzn)
          have hxb := HI.out.bd x (List.mem_of_getElem? hx)
          have c1 := HI.out.cell hx
          have f1 := HI.out.free z
          have hwx : IntKind.i64.wrap (x + 1) = x + 1 := IntWalk.i64_in _ (by omega)
          have z2 : (z : Int) < (n : Int) := by omega
          have z0 : (0 : Int) ≤ (z : Int) := by omega
          have HN := Lib.hid (HI.out.put hx)
          rw [← addRow_take hy, Nat.add_assoc] at HN
          clear hy hyb hx hxb
          go_wp2_with fail
          exact ⟨⟨j + 1, by omega, by go_num, HN⟩, by simp only [intOf]; omega⟩
        · have j1 : decide ((j : Int) < (l.length : Int)) = false := decide_eq_false (by omega)
          have HN := Lib.hid (show CntW w1 n (cntB n (T.take (k + 1))) ((k + 1) * 1048576) wi from by
            have h := HI.out
            have e : l.take j = l := List.take_of_length_le (by omega)
            rw [e, ← cntB_take HL.out] at h
            exact h.more (by rw [Nat.add_mul]; omega))
          go_wp2_with fail
          exact ⟨⟨k + 1, by omega, by go_num, HN⟩, by simp only [intOf]; omega⟩
    · have k1 : decide ((k : Int) < (n : Int)) = false := decide_eq_false (by omega)
      have HK := Lib.hid (kahn_start HLEN.out HBD.out)
      have hck : cntB n (T.take k) = cntB n T := by rw [List.take_of_length_le (by rw [HLEN.out]; omega)]
      have HO0 := Lib.hid (show OrdW w1 n (cntB n T) (fun _ => false) [] (.slice none 0 0) (wj.alloc (.cells (Array.replicate n (Value.bool false)) 4)) from by have h := OrdW.start HJ.out; rw [hck] at h; exact h)
      have HBD0 := Lib.hid (show BdB (cntB n T) 0 1000000000 from fun x hx => by have h := HJ.out.bd; rw [hck] at h; have := h x hx; omega)
      have hsz := HJ.out.sz
      clear hck HJ HC0
      go_upto_region 15 with fail
      generalize wj.alloc (.cells (Array.replicate n (Value.bool false)) 4) = w2 at *
      clear hsz hmb hmz
      go_step3
      go_wp2_with fail
      go_loopw [12, 47] (fun vo i wr => ∃ (k : Nat) (out : List Nat) (dn : Nat → Bool) (B : List Int), k ≤ n ∧ i = vi k ∧ Hid (OrdW w1 n B dn out vo wr ∧ KahnI T out dn B ∧ out.length = k ∧ ∀ x ∈ B, x ≤ 1000000000)) (fun _ i _ => n - (intOf i).toNat)
      case atStart => exact ⟨0, [], fun _ => false, cntB n T, Nat.zero_le _, rfl, Lib.hid ⟨HO0.out, HK.out, rfl, fun x hx => (HBD0.out x hx).2⟩⟩
      case round =>
        clear HO0 HK HBD0
        obtain ⟨wq, rfl⟩ : ∃ wq : World, wq = wr := ⟨_, rfl⟩
        obtain ⟨q, out, dn, B, hq, rfl, HQ⟩ := hrel
        obtain ⟨hQ1, hQ2, hQ3, hQ4⟩ := HQ.out
        have HQ1 := Lib.hid hQ1
        have HQ2 := Lib.hid hQ2
        have HQ3 := Lib.hid hQ3
        have HQ4 := Lib.hid hQ4
        clear HQ hQ1 hQ2 hQ3 hQ4
        obtain ⟨ao, co, rfl⟩ := Gr.own_shape HQ1.out.row
        obtain ⟨ol, hol⟩ : ∃ ol, ol = out.length := ⟨_, rfl⟩
        have HOL := Lib.hid hol
        have HROW := Lib.hid (HQ1.out.row)
        have hq3 := HQ3.out
        rw [← hol] at HROW HQ1 hq3 ⊢
        clear hol
        by_cases hlq : q < n
        · have q1 : decide ((q : Int) < (n : Int)) = true := decide_eq_true (by omega)
          have hwq : IntKind.i64.wrap ((q : Int) + 1) = (q : Int) + 1 := IntWalk.i64_in _ (by omega)
          go_wp2_with fail
          go_loopw [12, 50] (fun vo i wr => ∃ a : Nat, a ≤ n ∧ vo = .slice ao ol co ∧ i = vi a ∧ Hid (wr = wq ∧ ∀ x, x < a → dn x = true ∨ 0 < (B[x]?).getD 0)) (fun _ i _ => n - (intOf i).toNat)
          case atStart => exact ⟨0, Nat.zero_le _, rfl, rfl, Lib.hid ⟨rfl, fun x h => absurd h (Nat.not_lt_zero _)⟩⟩
          case round =>
            obtain ⟨a, ha, rfl, rfl, HA⟩ := hrel
            obtain ⟨hA0, hA⟩ := HA.out
            subst hA0
            have HAA := Lib.hid hA
            clear HA hA
            by_cases han : a < n
            · have a1 : decide ((a : Int) < (n : Int)) = true := decide_eq_true (by omega)
              have a2 : (a : Int) < (n : Int) := by omega
              have hwa : IntKind.i64.wrap ((a : Int) + 1) = (a : Int) + 1 := IntWalk.i64_in _ (by omega)
              have HAN := Lib.hid (fun (hs : dn a = true ∨ 0 < (B[a]?).getD 0) (x : Nat) (hx : x < a + 1) => show dn x = true ∨ 0 < (B[x]?).getD 0 from by
                by_cases h : x < a
                · exact HAA.out x h
                · obtain rfl : x = a := by omega
                  exact hs)
              have c0 := HQ1.out.cellD han
              obtain ⟨x, hx⟩ := some_at (show a < B.length by rw [HQ2.out.blen, HLEN.out]; exact han)
              have c1 := HQ1.out.cellB hx
              have HX := Lib.hid hx
              clear hx
              cases hd : dn a with
              | true =>
                rw [hd] at c0
                have HH := Lib.hid (HAN.out (.inl hd))
                clear hd
                go_wp2_with fail
                exact ⟨⟨a + 1, by omega, rfl, by go_num, Lib.hid ⟨by trivial, HH.out⟩⟩, by simp only [intOf]; omega⟩
              | false =>
                rw [hd] at c0
                by_cases hx0 : 0 < x
                · have x1 : decide (0 < x) = true := decide_eq_true hx0
                  have HH := Lib.hid (HAN.out (.inr (by rw [HX.out]; exact hx0)))
                  clear hd
                  go_wp2_with fail
                  exact ⟨⟨a + 1, by omega, rfl, by go_num, Lib.hid ⟨by trivial, HH.out⟩⟩, by simp only [intOf]; omega⟩
                · have x1 : decide (0 < x) = false := decide_eq_false hx0
                  have f1 := HQ1.out.freeD a
                  obtain ⟨l, hl⟩ := some_at (show a < T.length by rw [HLEN.out]; exact han)
                  have HST := Lib.hid (HQ2.out.step HBD.out hl hd (by rw [HX.out]; exact hx0))
                  have HMK := Lib.hid (HQ1.out.mark (a := a))
                  have HL := Lib.hid hl
                  have HB0 := Lib.hid (show BdB B (-0) 1000000000 from fun y hy => by
                    obtain ⟨i, hi⟩ := List.mem_iff_getElem?.1 hy
                    have h1 := HQ2.out.cnt i (by rw [← HQ2.out.blen]; exact (List.getElem?_eq_some_iff.1 hi).1)
                    rw [hi, Option.getD_some] at h1
                    have h2 := sumB_nonneg T 0 dn i
                    exact ⟨by omega, HQ4.out y hy⟩)
                  obtain ⟨vr, hvr, hrow⟩ := HT.out.rows.get hl
                  obtain ⟨ar, cr, rfl⟩ := Gr.own_shape (show World.ownsRow _ _ _ _ vr l.length _ from hrow)
                  have hml := HSH.out l (List.mem_of_getElem? hl)
                  have HVR := Lib.hid hvr
                  have HRW := Lib.hid hrow
                  have HIN := Lib.hid (HBD.out l (List.mem_of_getElem? hl))
                  clear hd hl hvr hrow
                  go_upto_region 22 with fail
                  clear c0 c1 f1
                  generalize wr.setCell ⟨w1.heap.size + 1, a, none⟩ (.bool true) = wm at *
                  have HPA := Lib.hid (HMK.out.alloc (.cells #[vi a] 3))
                  have HPR := Lib.hid (show (wm.alloc (.cells #[vi a] 3)).ownsRow (w1.heap.size + 2) 3 1 (.slice ao ol co) ol ((out.map natI).flatMap viC) from by have h := HPA.out.row; rw [← HOL.out] at h; exact h)
                  have hszp : w1.heap.size + 2 ≤ (wm.alloc (.cells #[vi a] 3)).heap.size := HPA.out.sz
                  have hol4 : ol + 1 ≤ 68719476736 := by omega
                  go_upto_region 23 with (refine wpListAt rfl (.tmp 67) (.tmp 69) 32 rfl eltI (w1.heap.size + 2) ol _ HPR.out rfl 1 [vi a] (src_new (cs := #[vi a]) rfl rfl) rfl (by intro q hq; simp at hq; subst hq; rfl) hol4 (by omega) hszp ?_; intro vc wc hoc hgc hat; obtain ⟨ac, cc, rfl⟩ := Gr.own_shape hoc; have HPU := Lib.hid (HPA.out.push (by rw [← HOL.out]; exact hoc) hgc); clear hoc hgc hat)
                  have t1 : wc.cell? ⟨tb, a, none⟩ = some (.slice ar l.length cr) := (HT.out.later HPU.out.lo).cell HVR.out
                  go_wp2_with fail
                  clear t1
                  go_loopw [76] (fun j wr => ∃ j' : Nat, j' ≤ l.length ∧ j = vi j' ∧ Hid (OrdW w1 n (addRow (-1) B (l.take j')) (fun i => dn i || i == a) (out ++ [a]) (.slice ac (ol + 1) cc) wr ∧ BdB (addRow (-1) B (l.take j')) (-j') 1000000000)) (fun j _ => l.length - (intOf j).toNat)
                  case atStart => exact ⟨0, Nat.zero_le _, rfl, Lib.hid ⟨HPU.out, HB0.out⟩⟩
                  case round =>
                    obtain ⟨wi, rfl⟩ : ∃ wi : World, wi = wr := ⟨_, rfl⟩
                    obtain ⟨j, hj, rfl, HI⟩ := hrel
                    by_cases hjl : j < l.length
                    · have j1 : decide ((j : Int) < (l.length : Int)) = true := decide_eq_true (by omega)
                      have j2 : (j : Int) < (l.length : Int) := by omega
                      have hwj : IntKind.i64.wrap ((j : Int) + 1) = (j : Int) + 1 := IntWalk.i64_in _ (by omega)
                      obtain ⟨y, hy⟩ := some_at hjl
                      have hyb := HIN.out y (List.mem_of_getElem? hy)
                      obtain ⟨z, rfl⟩ : ∃ z : Nat, y = (z : Int) := ⟨y.toNat, by omega⟩
                      obtain ⟨g, rfl, c0⟩ := row_cell (own_below HRW.out HI.out.1.lo) j _ hy
                      have hzn : z < n := by have := hyb.2; rw [HLEN.out] at this; omega
                      obtain ⟨x', hx'⟩ := some_at (show z < (addRow (-1) B (l.take j)).length by rw [addRow_len, HQ2.out.blen, HLEN.out]; exact hzn)
                      have hxb := HI.out.2 x' (List.mem_of_getElem? hx')
                      have c1 := HI.out.1.cellB hx'
                      have f1 := HI.out.1.freeB z
                      have hwx : IntKind.i64.wrap (x' - 1) = x' - 1 := IntWalk.i64_in _ (by omega)
                      have z2 : (z : Int) < (n : Int) := by omega
                      have z0 : (0 : Int) ≤ (z : Int) := by omega
                      have HN := Lib.hid (show OrdW w1 n (addRow (-1) B (l.take (j + 1))) (fun i => dn i || i == a) (out ++ [a]) (.slice ac (ol + 1) cc) (wi.setCell ⟨w1.heap.size, z, none⟩ (vi (x' - 1))) from by
                        rw [addRow_take hy, addAt_eq hx', show x' + -1 = x' - 1 by omega]
                        exact HI.out.1.put z (x' - 1))
                      have HM := Lib.hid (show BdB (addRow (-1) B (l.take (j + 1))) (-((j + 1 : Nat) : Int)) 1000000000 from by
                        rw [addRow_take hy]
                        have h := HI.out.2.down z (by omega) (by omega)
                        rw [show -((j + 1 : Nat) : Int) = -(j : Int) - 1 by omega]
                        exact h)
                      clear hy hyb hx' hxb
                      go_wp2_with fail
                      exact ⟨⟨j + 1, by omega, by go_num, Lib.hid ⟨HN.out, HM.out⟩⟩, by simp only [intOf]; omega⟩
                    · have j1 : decide ((j : Int) < (l.length : Int)) = false := decide_eq_false (by omega)
                      have HN := Lib.hid (show OrdW w1 n (addRow (-1) B l) (fun i => dn i || i == a) (out ++ [a]) (.slice ac (q + 1) cc) wi ∧ ∀ x ∈ addRow (-1) B l, x ≤ 1000000000 from by
                        have h := HI.out
                        rw [hq3] at h
                        have e : l.take j = l := List.take_of_length_le (by omega)
                        rw [e] at h
                        exact ⟨h.1, fun x hx => (h.2 x hx).2⟩)
                      have HQN := Lib.hid (show (out ++ [a]).length = q + 1 from by rw [List.length_append, List.length_singleton, ← HOL.out, hq3])
                      go_wp2_with fail
                      exact ⟨⟨q + 1, out ++ [a], _, _, by omega, by go_num, Lib.hid ⟨HN.out.1, HST.out, HQN.out, HN.out.2⟩⟩, by simp only [intOf]; omega⟩
            · have a1 : decide ((a : Int) < (n : Int)) = false := decide_eq_false (by omega)
              have HRD := Lib.hid (show Rounds (ArcT T) from HQ2.out.stuck (by rw [HLEN.out, ← HOL.out, hq3]; exact hlq) (fun x hx => HAA.out x (by rw [HLEN.out] at hx; omega)))
              have HBF := Lib.hid (HB.out.trans (HQ1.out.lo.mono HB.out.size))
              go_wp2_with fail
              try rw [Exit.noGoto_ret]
              go_ret2
              exact ⟨_, false, rfl, ⟨fun h => (by cases h), fun h => absurd HRD.out h⟩, HBF.out⟩
        · have q1 : decide ((q : Int) < (n : Int)) = false := decide_eq_false (by omega)
          have HRD := Lib.hid (show ¬ Rounds (ArcT T) from HQ2.out.free HBD.out (by rw [HLEN.out, ← HOL.out, hq3]; omega))
          have HBF := Lib.hid (HB.out.trans (HQ1.out.lo.mono HB.out.size))
          go_wp2_with fail
          try rw [Exit.noGoto_ret]
          go_ret2
          exact ⟨_, true, rfl, ⟨fun _ => HRD.out, fun _ => rfl⟩, HBF.out⟩
end Go.Proofs.Ytefpmcbpodlabaa

/- From the row's own reading of an argument of type []api.Edge to the readable slice. Names no function. -/
namespace Go.Proofs.Ytefpmcbpodlabaa
open Go.RowKit
open Go.ChangeShapes Go.WideShapes

section
variable {H : Type} {enc : TypeId × Value → H} {w : World} {spare : Nat → Bool} {held : Bool}
theorem cells_edge : Try.prog.cellsOf 27 = 3 := by kernel_rfl
set_option maxRecDepth 100000 in
theorem edge_cells {m : Nat} {cs : List Value} {y : DataW H × List MemPlace} (hl : cs.length = 3) (h : DataW.trod enc Try.prog w 0 spare held m 27 cs = some y) : ∃ o, EEdge w cs o := by
  obtain ⟨y0, y1, y2, n, -, -, h0, h1, h2⟩ := Deep.trod_struct3 Try.underlying27 h
  match cs, hl with
  | [c0, c1, c2], _ =>
    dsimp only at h0 h1 h2
    rw [cells_int] at h0 h1 h2
    obtain ⟨a, rfl⟩ := int_cell h0
    obtain ⟨b, rfl⟩ := int_cell h1
    obtain ⟨c, rfl⟩ := int_cell h2
    exact ⟨⟨a, b, c⟩, rfl⟩
set_option maxRecDepth 100000 in
theorem edges_of_trod {v : Value} {d : DataW H} {ps : List MemPlace} (hv : ∃ a l c, v = .slice a l c) (h : DataW.Trod enc Try.prog w 0 spare held 22 v d ps) : ∃ es, RdEdges w v es := by
  obtain ⟨fuel, hf⟩ := h
  obtain ⟨a, l, c, rfl⟩ := hv
  exact rds_of_trod Try.underlying22 cells_edge (by omega) hf fun _ _ _ hl hy => edge_cells hl hy
end
set_option maxRecDepth 100000 in
theorem edges_of_row {H : Type} {enc : TypeId × Value → H} {w : World} {spare : Nat → Bool} {held : Bool} {base : Nat} {v : Value} {d : DataW H} {ps : List MemPlace} (hk : Value.okWide Try.prog w .any base 22 v) (h : DataW.Trod enc Try.prog w 0 spare held 22 v d ps) : ∃ es, RdEdges w v es :=
  edges_of_trod (okWide_slice Try.underlying22 hk) h
end Go.Proofs.Ytefpmcbpodlabaa

/- cruciblelaw10.DepsLevels. -/
namespace Go.Proofs.Ytefpmcbpodlabaa
open Go.RowKit Go.Maps
theorem lift_short (l : List GEdge) (level : Int) : (liftL l level).length ≤ l.length * (1 + l.length) := by
  have h1 : ∀ e, (lift1 l level e).length ≤ 1 + l.length := fun e => by
    have hf : ∀ m : List GEdge, (m.flatMap (fun g => if g.k = 3 ∧ g.f = e.t then [(e.f, g.t)] else [])).length ≤ m.length := fun m => by
      induction m with
      | nil => simp
      | cons g m ih =>
        rw [List.flatMap_cons, List.length_append, List.length_cons]
        have : (if g.k = 3 ∧ g.f = e.t then [(e.f, g.t)] else []).length ≤ 1 := by split <;> simp
        omega
    unfold lift1
    rw [List.length_append]
    have h1 : (if level ≠ 1 ∨ e.k ≠ 3 then [(e.f, e.t)] else []).length ≤ 1 := by split <;> simp
    have h2 : (if level ≠ 1 ∨ e.k = 3 then [] else l.flatMap (fun g => if g.k = 3 ∧ g.f = e.t then [(e.f, g.t)] else [])).length ≤ l.length := by
      split
      · simp
      · exact hf l
    omega
  have h2 : ∀ m : List GEdge, (m.flatMap (lift1 l level)).length ≤ m.length * (1 + l.length) := fun m => by
    induction m with
    | nil => simp
    | cons e m ih =>
      rw [List.flatMap_cons, List.length_append, List.length_cons, Nat.add_mul, Nat.one_mul]
      have := h1 e
      omega
  exact h2 l
theorem free_bad {a b : Bool} {P : Prop} (h : a = true ↔ ¬ P) (k : b = true ↔ P) : b = !a := by
  cases a with
  | true =>
    cases b with
    | false => rfl
    | true => exact absurd (k.1 rfl) (h.1 rfl)
  | false =>
    cases b with
    | true => rfl
    | false => exact absurd (h.2 (fun hp => by have := k.2 hp; cases this)) (by simp)
namespace depsLevels
attribute [local go_sem] Oper.semAt_some

def okE (n : Int) (e : GEdge) : Bool := decide (0 ≤ e.f) && (decide (e.f < n) && (decide (0 ≤ e.t) && (decide (e.t < n) && (decide (1 ≤ e.k) && decide (e.k ≤ 3)))))
theorem right_next {n : Int} {es : List GEdge} {k : Nat} {e : GEdge} (h : es[k]? = some e) : (es.take (k + 1)).filter (okE n) = (es.take k).filter (okE n) ++ (if okE n e then [e] else []) := by
  rw [take_at h, List.filter_append]
  simp [List.filter_cons]
theorem right_in {n : Nat} {l : List GEdge} : InN n (l.filter (okE n)) := fun e he => by
  have := (List.mem_filter.1 he).2
  simp only [okE, Bool.and_eq_true, decide_eq_true_eq] at this
  omega

set_option maxRecDepth 100000 in
set_option maxHeartbeats 8000000 in
theorem walk (n : Int) (v : Value) (level : Int) (es : List GEdge) (w : World) (hv : RdEdges w v es) :
    Calls Try.prog 7 #[vi n, v, vi level] w fun e w' => e = .returned (.bool true) ∧ Below w.heap.size w w' := by
  obtain ⟨av, nv, cv, rfl, rfl, hm, -⟩ := hv.at
  have HV := Lib.hid hv
  clear hv
  go_enter Try.func7, Try.ntmps7
  go_upto_region 3 with (go_at_call 12; refine (head10_call w).mono ?_; rintro e1 w1 ⟨rfl, hb1⟩; have HB1 := Lib.hid hb1; clear hb1)
  by_cases h1 : n < 1
  case pos =>
    have d1 : decide (n < 1) = true := decide_eq_true h1
    clear h1
    go_wp2_with fail
    go_ret
    exact ⟨rfl, HB1.out⟩
  case neg =>
  have d1 : decide (n < 1) = false := decide_eq_false h1
  by_cases h2 : 12 < n
  case pos =>
    have d2 : decide (12 < n) = true := decide_eq_true h2
    clear h1 h2
    go_wp2_with fail
    go_ret
    exact ⟨rfl, HB1.out⟩
  case neg =>
  have d2 : decide (12 < n) = false := decide_eq_false h2
  by_cases h60 : es.length ≤ 60
  case neg =>
    have d60 : decide ((60 : Int) < es.length) = true := decide_eq_true (by omega)
    clear h1 h2 h60
    go_wp2_with fail
    go_ret
    exact ⟨rfl, HB1.out⟩
  case pos =>
  have d60 : decide ((60 : Int) < es.length) = false := decide_eq_false (by omega)
  obtain ⟨m, hm'⟩ : ∃ m : Nat, n = (m : Int) := ⟨n.toNat, by omega⟩
  subst hm'
  have hm12 : m ≤ 12 := by omega
  have hsm : sizeM (m : Int) = m := by unfold sizeM; rw [if_neg (by omega), if_neg (by omega)]; omega
  have HSM := Lib.hid hsm
  clear h1 h2 hsm
  go_upto_region 5 with fail
  clear d1 d2
  have HN0 := Lib.hid (World.ownsRow_lit (base := w.heap.size) (e := 27) (size := 3) w1 #[] 0 HB1.out.size (by simp [maxLen]) rfl)
  have HB0 := Lib.hid (HB1.out.alloc HB1.out.size (.cells #[] 27))
  go_wp2_with fail
  generalize w1.alloc (.cells #[] 27) = w4 at *
  go_loopw [7, 29] (fun x i wr => ∃ k : Nat, k ≤ es.length ∧ i = .int .i64 k ∧ Hid (OwE w.heap.size wr x ((es.take k).filter (okE m)) ∧ Below w.heap.size w wr)) (fun _ i _ => es.length - (intOf i).toNat)
  case atStart => exact ⟨0, Nat.zero_le _, rfl, Lib.hid ⟨by simpa [OwE] using HN0.out, HB0.out⟩⟩
  case round =>
    clear HN0 HB0
    obtain ⟨wq, rfl⟩ : ∃ wq : World, wq = wr := ⟨_, rfl⟩
    obtain ⟨j, hj, rfl, HQ⟩ := hrel
    have hlq : ((es.take j).filter (okE m)).length ≤ 60 := by
      have h1 := List.length_filter_le (okE m) (es.take j)
      have h2 : (es.take j).length ≤ j := List.length_take_le _ _
      omega
    obtain ⟨aq, cq, rfl⟩ := Gr.own_shape (show World.ownsRow _ _ _ _ _ ((es.take j).filter (okE m)).length _ from HQ.out.1)
    have HO := Lib.hid (show wq.ownsRow w.heap.size 27 3 _ ((es.take j).filter (okE m)).length (((es.take j).filter (okE m)).flatMap edV) from HQ.out.1)
    have HBq := Lib.hid HQ.out.2
    obtain ⟨n1, hn1⟩ : ∃ n, n = ((es.take j).filter (okE m)).length := ⟨_, rfl⟩
    have HN1 := Lib.hid hn1
    rw [← hn1] at HO hlq ⊢
    clear HQ hn1
    by_cases hltq : j < es.length
    · have j1 : decide ((j : Int) < es.length) = true := decide_eq_true (by omega)
      have j2 : (j : Int) < es.length := by omega
      have hwj : IntKind.i64.wrap ((j : Int) + 1) = (j : Int) + 1 := IntWalk.i64_in _ (by omega)
      obtain ⟨g, hg⟩ := some_at hltq
      obtain ⟨_, _, _, e5, -, -, hcl⟩ := (HV.out.later HBq.out).at
      cases e5
      obtain ⟨b, off, rfl, c0, c1, c2'⟩ := hcl j g hg
      have HNX := Lib.hid (right_next (n := m) hg)
      have HXg := Lib.hid (alloc_at wq (.cells #[vi g.f, vi g.t, vi g.k] 27))
      have HOg := Lib.hid (HO.out.alloc (.cells #[vi g.f, vi g.t, vi g.k] 27))
      have HBg := Lib.hid (HBq.out.alloc HBq.out.size (.cells #[vi g.f, vi g.t, vi g.k] 27))
      clear hcl hg
      go_upto_region 9 with fail
      clear c0 c1 c2'
      generalize wq.alloc (.cells #[vi g.f, vi g.t, vi g.k] 27) = wb at *
      obtain ⟨gb, hgb⟩ : ∃ gb, gb = wq.heap.size := ⟨_, rfl⟩
      rw [← hgb] at HXg ⊢
      clear hgb
      have y0 : wb.cell? ⟨gb, 0, none⟩ = some (vi g.f) := by rw [cell_of HXg.out]; rfl
      have y1 : wb.cell? ⟨gb, 1, none⟩ = some (vi g.t) := by rw [cell_of HXg.out]; rfl
      have y2 : wb.cell? ⟨gb, 2, none⟩ = some (vi g.k) := by rw [cell_of HXg.out]; rfl
      cases g0 : decide (0 ≤ g.f) with
      | false =>
        have HE := Lib.hid (show (if okE m g = true then [g] else []) = [] from by rw [show okE m g = false from by unfold okE; rw [g0]; rfl]; rfl)
        go_wp2_with fail
        exact ⟨⟨j + 1, by omega, by go_num, Lib.hid ⟨by rw [HNX.out, HE.out, List.append_nil]; unfold OwE; have h := HOg.out; rw [HN1.out] at h; rw [HN1.out]; exact h, HBg.out⟩⟩, by simp only [intOf]; omega⟩
      | true =>
        cases g1 : decide (g.f < (m : Int)) with
        | false =>
          have HE := Lib.hid (show (if okE m g = true then [g] else []) = [] from by rw [show okE m g = false from by unfold okE; rw [g0, g1]; rfl]; rfl)
          go_wp2_with fail
          exact ⟨⟨j + 1, by omega, by go_num, Lib.hid ⟨by rw [HNX.out, HE.out, List.append_nil]; unfold OwE; have h := HOg.out; rw [HN1.out] at h; rw [HN1.out]; exact h, HBg.out⟩⟩, by simp only [intOf]; omega⟩
        | true =>
          cases g2 : decide (0 ≤ g.t) with
          | false =>
            have HE := Lib.hid (show (if okE m g = true then [g] else []) = [] from by rw [show okE m g = false from by unfold okE; rw [g0, g1, g2]; rfl]; rfl)
            go_wp2_with fail
            exact ⟨⟨j + 1, by omega, by go_num, Lib.hid ⟨by rw [HNX.out, HE.out, List.append_nil]; unfold OwE; have h := HOg.out; rw [HN1.out] at h; rw [HN1.out]; exact h, HBg.out⟩⟩, by simp only [intOf]; omega⟩
          | true =>
            cases g3 : decide (g.t < (m : Int)) with
            | false =>
              have HE := Lib.hid (show (if okE m g = true then [g] else []) = [] from by rw [show okE m g = false from by unfold okE; rw [g0, g1, g2, g3]; rfl]; rfl)
              go_wp2_with fail
              exact ⟨⟨j + 1, by omega, by go_num, Lib.hid ⟨by rw [HNX.out, HE.out, List.append_nil]; unfold OwE; have h := HOg.out; rw [HN1.out] at h; rw [HN1.out]; exact h, HBg.out⟩⟩, by simp only [intOf]; omega⟩
            | true =>
              cases g4 : decide (1 ≤ g.k) with
              | false =>
                have HE := Lib.hid (show (if okE m g = true then [g] else []) = [] from by rw [show okE m g = false from by unfold okE; rw [g0, g1, g2, g3, g4]; rfl]; rfl)
                go_wp2_with fail
                exact ⟨⟨j + 1, by omega, by go_num, Lib.hid ⟨by rw [HNX.out, HE.out, List.append_nil]; unfold OwE; have h := HOg.out; rw [HN1.out] at h; rw [HN1.out]; exact h, HBg.out⟩⟩, by simp only [intOf]; omega⟩
              | true =>
                cases g5 : decide (g.k ≤ 3) with
                | false =>
                  have HE := Lib.hid (show (if okE m g = true then [g] else []) = [] from by rw [show okE m g = false from by unfold okE; rw [g0, g1, g2, g3, g4, g5]; rfl]; rfl)
                  go_wp2_with fail
                  exact ⟨⟨j + 1, by omega, by go_num, Lib.hid ⟨by rw [HNX.out, HE.out, List.append_nil]; unfold OwE; have h := HOg.out; rw [HN1.out] at h; rw [HN1.out]; exact h, HBg.out⟩⟩, by simp only [intOf]; omega⟩
                | true =>
                  have HE := Lib.hid (show (if okE m g = true then [g] else []) = [g] from by rw [show okE m g = true from by unfold okE; rw [g0, g1, g2, g3, g4, g5]; rfl]; rfl)
                  go_wp2_with (at_builtin; refine wpList_append_src rfl _ _ 22 rfl eltEdge w.heap.size n1 _ (World.ownsRow.alloc HOg.out _) rfl 1 (edV g) (src_new (cs := #[vi g.f, vi g.t, vi g.k]) rfl rfl) rfl (edV_one _) (by omega) (by omega) (by have := HBg.out.size; simp; omega) ?_; intro v5 w5 ho5 hg5 _; have HO5 := Lib.hid ho5; have HB5 := Lib.hid ((HBg.out.alloc HBg.out.size _).grown hg5 (by have := HBg.out.size; simp; omega) (fun j hj => (World.ownsRow.lt HOg.out j hj).1)); clear ho5 hg5)
                  exact ⟨⟨j + 1, by omega, by go_num, Lib.hid ⟨by rw [HNX.out, HE.out]; unfold OwE; have h := HO5.out; rw [HN1.out] at h; simpa using h, HB5.out⟩⟩, by simp only [intOf]; omega⟩
    · have j1 : decide ((j : Int) < es.length) = false := decide_eq_false (by omega)
      obtain ⟨rt, hrt⟩ : ∃ rt, rt = (es.take j).filter (okE m) := ⟨_, rfl⟩
      have HRI := Lib.hid (show InN m rt from by rw [hrt]; exact right_in)
      have HRL := Lib.hid (show n1 = rt.length from by rw [hrt]; exact HN1.out)
      have HRD := Lib.hid (show RdEdges wq (.slice aq n1 cq) rt from by
        have h := HO.out
        rw [HN1.out] at h ⊢
        rw [hrt]
        exact OwE.rd h)
      have HLS := Lib.hid (show (liftL rt level).length ≤ 3660 from by
        have h := lift_short rt level
        have h2 : rt.length ≤ 60 := by rw [← HRL.out]; exact hlq
        have h3 := Nat.mul_le_mul h2 (show 1 + rt.length ≤ 61 by omega)
        omega)
      clear hrt
      go_wp2_with (first
        | (go_at_call 13; refine (lift_call _ rt level wq HRD.out (by rw [← HRL.out]; omega) (Nat.le_trans HLS.out (by omega))).mono ?_; rintro e6 w6 ⟨v6, rfl, ho6, hb6⟩; have HO6 := Lib.hid ho6.rd; have HB6 := Lib.hid (HBq.out.trans (hb6.mono HBq.out.size)); have HR6 := Lib.hid (HRD.out.later hb6); clear ho6 hb6)
        | (go_at_call 22; refine (order_callG (m : Int) (liftL rt level) v6 w6 HO6.out (Nat.le_trans HLS.out (by omega))).mono ?_; rintro e7 w7 ⟨v7, b7, rfl, hb7, hbw7⟩; rw [HSM.out, rounds_arcK level HRI.out, ← rounds_iff] at hb7; have HB7 := Lib.hid hb7; have HW7 := Lib.hid (HB6.out.trans (hbw7.mono HB6.out.size)); have HR7 := Lib.hid (HR6.out.later hbw7); clear hb7 hbw7)
        | (go_at_call 20; refine (bad_call m rt _ level w7 HR7.out HRI.out (by omega)).mono ?_; rintro e8 w8 ⟨b8, rfl, hb8, hbw8⟩; have h78 : b8 = !b7 := free_bad HB7.out hb8; subst h78; have HW8 := Lib.hid (HW7.out.trans (hbw8.mono HW7.out.size)); clear hb8 hbw8))
      go_ret
      exact ⟨by cases b7 <;> rfl, HW8.out⟩
end depsLevels
end Go.Proofs.Ytefpmcbpodlabaa
