/- From the row's own reading of arguments of the types mvcc.Ready, mvcc.End and []cruciblelaw19.Op to what they hold. -/
import Derived.Test.YtbadpfcjoobniaaMvData
import Derived.Deep.Strs
namespace Go.Proofs.Ytbadpfcjoobniaa
open Go.RowKit
open Go.ChangeShapes Go.WideShapes

/-- The numbers in a Ready lie in their bounds. -/
structure RdyI (r : Rdy) : Prop where
  txn : i64 r.txn
  home : i64 r.home
  start : i64 r.start
  ws : ∀ o ∈ r.writes, i64 o.kind ∧ i64 o.key ∧ i64 o.val
  rs : ∀ k ∈ r.reads, i64 k
structure EndI (e : EndM) : Prop where
  txn : i64 e.txn
  at_ : i64 e.at_
/-- A step of the law's script. -/
structure Op19 where
  k : Int
  r : Rdy
  e : EndM
def op19C (o : Op19) (wv rv : Value) : List Value := [vi o.k, vi o.r.txn, vi o.r.home, vi o.r.start, wv, rv, vi o.e.txn, .bool o.e.commit, vi o.e.at_]
def EOp19 (w : World) (cs : List Value) (o : Op19) : Prop := ∃ wv rv, cs = op19C o wv rv ∧ RdyS w ⟨wv, rv, o.r⟩ ∧ RdyI o.r ∧ EndI o.e
abbrev RdOps19 (w : World) (v : Value) (l : List Op19) : Prop := RdS 9 EOp19 w v l
theorem EOp19.later {A B : World} {cs : List Value} {o : Op19} (h : EOp19 A cs o) (hb : Below A.heap.size A B) : EOp19 B cs o := by
  obtain ⟨wv, rv, h1, h2, h3⟩ := h
  exact ⟨wv, rv, h1, h2.later hb, h3⟩
theorem RdOps19.later {A B : World} {v : Value} {l : List Op19} (h : RdOps19 A v l) (hb : Below A.heap.size A B) : RdOps19 B v l := RdS.below h hb fun _ _ h => h.later hb
theorem RdOps19.at {w : World} {v : Value} {xs : List Op19} (h : RdOps19 w v xs) : ∃ a len cap, v = .slice a len cap ∧ len = xs.length ∧ xs.length ≤ 9223372036854775807 ∧ ∀ j x, xs[j]? = some x → ∃ b off wv rv, a = some ⟨b, off, none⟩ ∧ RdyS w ⟨wv, rv, x.r⟩ ∧ RdyI x.r ∧ EndI x.e ∧
    (∀ i u, (op19C x wv rv)[i]? = some u → w.cell? ⟨b, off + (j * 9 + i), none⟩ = some u) := by
  obtain ⟨a, len, cap, h1, h2, h3, h4, h5, h6⟩ := h
  refine ⟨a, len, cap, h1, h2, h3, fun j x hj => ?_⟩
  obtain ⟨b, off, cs, ha, hl, hc, wv, rv, hcs, hr, hi, he⟩ := h6 j x hj
  exact ⟨b, off, wv, rv, ha, hr, hi, he, fun i u hu => hc i u (by rw [hcs]; exact hu)⟩

section
variable {H : Type} {enc : TypeId × Value → H} {w : World} {spare : Nat → Bool} {held : Bool}
theorem int_cell {m : Nat} {c : Value} {y : DataW H × List MemPlace} (h : DataW.trod enc Try.prog w 0 spare held m 3 [c] = some y) : ∃ n, c = vi n ∧ i64 n := by
  obtain ⟨n, hc, -, hw⟩ := DataW.trod_int Try.underlying3 h
  exact ⟨n, by simpa using hc, wf_i64 hw⟩
theorem bool_cell {m : Nat} {c : Value} {y : DataW H × List MemPlace} (h : DataW.trod enc Try.prog w 0 spare held m 4 [c] = some y) : ∃ b, c = .bool b := by
  obtain ⟨b, hc, -⟩ := DataW.trod_bool Try.underlying4 h
  exact ⟨b, by simpa using hc⟩
theorem cells_int : Try.prog.cellsOf 3 = 1 := by kernel_rfl
theorem cells_bool : Try.prog.cellsOf 4 = 1 := by kernel_rfl
theorem cells_op : Try.prog.cellsOf 55 = 3 := by kernel_rfl
theorem cells_ops : Try.prog.cellsOf 26 = 1 := by kernel_rfl
theorem cells_ints : Try.prog.cellsOf 27 = 1 := by kernel_rfl
theorem cells_rdy : Try.prog.cellsOf 29 = 5 := by kernel_rfl
theorem cells_end : Try.prog.cellsOf 31 = 3 := by kernel_rfl
theorem cells_op19 : Try.prog.cellsOf 33 = 9 := by kernel_rfl

def EOpI (_ : World) (cs : List Value) (o : GOp) : Prop := cs = opV o ∧ i64 o.kind ∧ i64 o.key ∧ i64 o.val
set_option maxRecDepth 100000 in
theorem op_cells {m : Nat} {cs : List Value} {y : DataW H × List MemPlace} (hl : cs.length = 3) (h : DataW.trod enc Try.prog w 0 spare held m 55 cs = some y) : ∃ o, EOpI w cs o := by
  obtain ⟨xs, n, _, _, _, hlen, hf⟩ := DataW.trod_struct Try.underlying55 h
  match cs, hl, xs, hlen with
  | [c0, c1, c2], _, [y0, y1, y2], _ =>
    have h0 : DataW.trod enc Try.prog w 0 spare held n 3 (([c0, c1, c2].drop 0).take (Try.prog.cellsOf 3)) = some y0 := hf 0 _ rfl
    have h1 : DataW.trod enc Try.prog w 0 spare held n 3 (([c0, c1, c2].drop 1).take (Try.prog.cellsOf 3)) = some y1 := hf 1 _ rfl
    have h2 : DataW.trod enc Try.prog w 0 spare held n 3 (([c0, c1, c2].drop 2).take (Try.prog.cellsOf 3)) = some y2 := hf 2 _ rfl
    rw [cells_int] at h0 h1 h2
    obtain ⟨a, rfl, ha⟩ := int_cell h0
    obtain ⟨b, rfl, hb⟩ := int_cell h1
    obtain ⟨c, rfl, hc⟩ := int_cell h2
    exact ⟨⟨a, b, c⟩, rfl, ha, hb, hc⟩
set_option maxRecDepth 100000 in
theorem ops_read {m : Nat} {v : Value} {y : DataW H × List MemPlace} (h : DataW.trod enc Try.prog w 0 spare held m 26 [v] = some y) : ∃ l, RdOps w v l ∧ ∀ o ∈ l, i64 o.kind ∧ i64 o.key ∧ i64 o.val := by
  obtain ⟨l, hl⟩ : ∃ l, RdS 3 EOpI w v l := rds_of_trod Try.underlying26 cells_op (by omega) h fun _ _ _ hl hy => op_cells hl hy
  obtain ⟨a, len, cap, h1, h2, h3, h4, h5, h6⟩ := hl
  refine ⟨l, ⟨a, len, cap, h1, h2, h3, h4, h5, fun j x hj => ?_⟩, fun o ho => ?_⟩
  · obtain ⟨b, off, cs, ha, hl, hc, he, _⟩ := h6 j x hj
    exact ⟨b, off, cs, ha, hl, hc, he⟩
  · obtain ⟨j, hj⟩ := List.mem_iff_getElem?.1 ho
    obtain ⟨b, off, cs, ha, hl, hc, he, hi⟩ := h6 j o hj
    exact hi
set_option maxRecDepth 100000 in
theorem ints_read {m : Nat} {v : Value} {y : DataW H × List MemPlace} (h : DataW.trod enc Try.prog w 0 spare held m 27 [v] = some y) : ∃ l, RdInts w v l ∧ ∀ k ∈ l, i64 k := by
  obtain ⟨l, hl⟩ : ∃ l, RdS 1 EInt w v l := rds_of_trod Try.underlying27 cells_int (by omega) h fun m cs y _ hy => by
    obtain ⟨n, rfl, _, hw⟩ := DataW.trod_int Try.underlying3 hy
    exact ⟨n, rfl, wf_i64 hw⟩
  refine ⟨l, hl, fun k hk => ?_⟩
  obtain ⟨a, len, cap, h1, h2, h3, h4, h5, h6⟩ := hl
  obtain ⟨j, hj⟩ := List.mem_iff_getElem?.1 hk
  obtain ⟨b, off, cs, ha, hl, hc, he, hi⟩ := h6 j k hj
  exact hi
set_option maxRecDepth 100000 in
theorem rdy_cells {m : Nat} {cs : List Value} {y : DataW H × List MemPlace} (hl : cs.length = 5) (h : DataW.trod enc Try.prog w 0 spare held m 29 cs = some y) : ∃ x : RV, cs = [vi x.r.txn, vi x.r.home, vi x.r.start, x.wv, x.rv] ∧ RdyS w x ∧ RdyI x.r := by
  obtain ⟨xs, n, _, _, _, hlen, hf⟩ := DataW.trod_struct Try.underlying29 h
  match cs, hl, xs, hlen with
  | [c0, c1, c2, c3, c4], _, [y0, y1, y2, y3, y4], _ =>
    have h0 : DataW.trod enc Try.prog w 0 spare held n 3 (([c0, c1, c2, c3, c4].drop 0).take (Try.prog.cellsOf 3)) = some y0 := hf 0 _ rfl
    have h1 : DataW.trod enc Try.prog w 0 spare held n 3 (([c0, c1, c2, c3, c4].drop 1).take (Try.prog.cellsOf 3)) = some y1 := hf 1 _ rfl
    have h2 : DataW.trod enc Try.prog w 0 spare held n 3 (([c0, c1, c2, c3, c4].drop 2).take (Try.prog.cellsOf 3)) = some y2 := hf 2 _ rfl
    have h3 : DataW.trod enc Try.prog w 0 spare held n 26 (([c0, c1, c2, c3, c4].drop 3).take (Try.prog.cellsOf 26)) = some y3 := hf 3 _ rfl
    have h4 : DataW.trod enc Try.prog w 0 spare held n 27 (([c0, c1, c2, c3, c4].drop 4).take (Try.prog.cellsOf 27)) = some y4 := hf 4 _ rfl
    rw [cells_int] at h0 h1 h2
    rw [cells_ops] at h3
    rw [cells_ints] at h4
    obtain ⟨a, rfl, ha⟩ := int_cell h0
    obtain ⟨b, rfl, hb⟩ := int_cell h1
    obtain ⟨c, rfl, hc⟩ := int_cell h2
    obtain ⟨ws, hw, hwi⟩ := ops_read h3
    obtain ⟨rs, hr, hri⟩ := ints_read h4
    exact ⟨⟨c3, c4, ⟨a, b, c, ws, rs⟩⟩, rfl, ⟨hw, hr⟩, ⟨ha, hb, hc, hwi, hri⟩⟩
set_option maxRecDepth 100000 in
theorem end_cells {m : Nat} {cs : List Value} {y : DataW H × List MemPlace} (hl : cs.length = 3) (h : DataW.trod enc Try.prog w 0 spare held m 31 cs = some y) : ∃ e : EndM, cs = [vi e.txn, .bool e.commit, vi e.at_] ∧ EndI e := by
  obtain ⟨xs, n, _, _, _, hlen, hf⟩ := DataW.trod_struct Try.underlying31 h
  match cs, hl, xs, hlen with
  | [c0, c1, c2], _, [y0, y1, y2], _ =>
    have h0 : DataW.trod enc Try.prog w 0 spare held n 3 (([c0, c1, c2].drop 0).take (Try.prog.cellsOf 3)) = some y0 := hf 0 _ rfl
    have h1 : DataW.trod enc Try.prog w 0 spare held n 4 (([c0, c1, c2].drop 1).take (Try.prog.cellsOf 4)) = some y1 := hf 1 _ rfl
    have h2 : DataW.trod enc Try.prog w 0 spare held n 3 (([c0, c1, c2].drop 2).take (Try.prog.cellsOf 3)) = some y2 := hf 2 _ rfl
    rw [cells_int] at h0 h2
    rw [cells_bool] at h1
    obtain ⟨a, rfl, ha⟩ := int_cell h0
    obtain ⟨b, rfl⟩ := bool_cell h1
    obtain ⟨c, rfl, hc⟩ := int_cell h2
    exact ⟨⟨a, b, c⟩, rfl, ⟨ha, hc⟩⟩
set_option maxRecDepth 100000 in
theorem op19_cells {m : Nat} {cs : List Value} {y : DataW H × List MemPlace} (hl : cs.length = 9) (h : DataW.trod enc Try.prog w 0 spare held m 33 cs = some y) : ∃ o, EOp19 w cs o := by
  obtain ⟨xs, n, _, _, _, hlen, hf⟩ := DataW.trod_struct Try.underlying33 h
  match cs, hl, xs, hlen with
  | [c0, c1, c2, c3, c4, c5, c6, c7, c8], _, [y0, y1, y2], _ =>
    have h0 : DataW.trod enc Try.prog w 0 spare held n 3 (([c0, c1, c2, c3, c4, c5, c6, c7, c8].drop 0).take (Try.prog.cellsOf 3)) = some y0 := hf 0 _ rfl
    have h1 : DataW.trod enc Try.prog w 0 spare held n 29 (([c0, c1, c2, c3, c4, c5, c6, c7, c8].drop 1).take (Try.prog.cellsOf 29)) = some y1 := hf 1 _ rfl
    have h2 : DataW.trod enc Try.prog w 0 spare held n 31 (([c0, c1, c2, c3, c4, c5, c6, c7, c8].drop 6).take (Try.prog.cellsOf 31)) = some y2 := hf 2 _ rfl
    rw [cells_int] at h0
    rw [cells_rdy] at h1
    rw [cells_end] at h2
    obtain ⟨a, rfl, ha⟩ := int_cell h0
    obtain ⟨x, hx, hs, hi⟩ := rdy_cells (by rfl) h1
    obtain ⟨e, he, hei⟩ := end_cells (by rfl) h2
    cases hx
    cases he
    exact ⟨⟨a, x.r, e⟩, x.wv, x.rv, rfl, hs, hi, hei⟩
end

set_option maxRecDepth 100000 in
theorem op19s_of_row {H : Type} {enc : TypeId × Value → H} {w : World} {spare : Nat → Bool} {held : Bool} {base : Nat} {v : Value} {d : DataW H} {ps : List MemPlace} (hk : Value.okWide Try.prog w .any base 22 v) (h : DataW.Trod enc Try.prog w 0 spare held 22 v d ps) : ∃ l, RdOps19 w v l := by
  obtain ⟨a, l, c, rfl⟩ := okWide_slice Try.underlying22 hk
  obtain ⟨fuel, hf⟩ := h
  exact rds_of_trod Try.underlying22 cells_op19 (by omega) hf fun _ _ _ hl hy => op19_cells hl hy
def RdyV (w : World) (v : Value) (x : RV) : Prop := v = rdyV x ∧ RdyS w x ∧ RdyI x.r
set_option maxRecDepth 100000 in
theorem rdy_of_row {H : Type} {enc : TypeId × Value → H} {w : World} {spare : Nat → Bool} {held : Bool} {base : Nat} {v : Value} {d : DataW H} {ps : List MemPlace} (hk : Value.okWide Try.prog w .any base 29 v) (h : DataW.Trod enc Try.prog w 0 spare held 29 v d ps) : ∃ x, RdyV w v x := by
  obtain ⟨cs, rfl, hsz⟩ := okWide_struct Try.underlying29 hk
  obtain ⟨fuel, hf⟩ := h
  obtain ⟨x, hx, h1, h2⟩ := rdy_cells (cs := cs.toList) (by simpa using hsz.trans cells_rdy) hf
  refine ⟨x, ?_, h1, h2⟩
  unfold rdyV rdyC
  rw [← hx]
def EndV (v : Value) (e : EndM) : Prop := v = endV e ∧ EndI e
set_option maxRecDepth 100000 in
theorem end_of_row {H : Type} {enc : TypeId × Value → H} {w : World} {spare : Nat → Bool} {held : Bool} {base : Nat} {v : Value} {d : DataW H} {ps : List MemPlace} (hk : Value.okWide Try.prog w .any base 31 v) (h : DataW.Trod enc Try.prog w 0 spare held 31 v d ps) : ∃ e, EndV v e := by
  obtain ⟨cs, rfl, hsz⟩ := okWide_struct Try.underlying31 hk
  obtain ⟨fuel, hf⟩ := h
  obtain ⟨e, he, h1⟩ := end_cells (cs := cs.toList) (by simpa using hsz.trans cells_end) hf
  refine ⟨e, ?_, h1⟩
  unfold endV
  rw [← he]
end Go.Proofs.Ytbadpfcjoobniaa
