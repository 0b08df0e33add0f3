/- Texts of one proof, one behind the other: ShRow, ShEnd, ShP, ShCmd, ShRead, ShSt, ShAp1, ShAp4, ShHead, ShHead2, ShT, ShAp5, ShAp0, ShLock, ShAp3, ShAp2, ShNow, ShStamps. -/
import Derived.Test.YtdkkpkgfiodlbaaMvData
import Derived.Deep.Strs
import Derived.Test.YtdkkpkgfiodlbaaMvRdR
import Derived.Test.YtdkkpkgfiodlbaaBtEnd
import Derived.Test.YtdkkpkgfiodlbaaBtBytes
import Derived.Test.YtdkkpkgfiodlbaaBtRead
import Derived.Test.YtdkkpkgfiodlbaaMvFinM
import Derived.Test.YtdkkpkgfiodlbaaMvRead
import Derived.Test.YtdkkpkgfiodlbaaMvEnded
import Derived.Test.YtdkkpkgfiodlbaaMvFin
import Derived.Test.YtdkkpkgfiodlbaaMvWaits
namespace Go.Proofs.Ytdkkpkgfiodlbaa
open Go.RowKit
open Go.ChangeShapes Go.WideShapes
/-- The numbers in a Ready lie in their bounds. -/
structure RdyI (r : Rdy) : Prop where
  txn : i64 r.txn
  home : i64 r.home
  start : i64 r.start
  ws : ∀ o ∈ r.writes, i64 o.kind ∧ i64 o.key ∧ i64 o.val
  rs : ∀ k ∈ r.reads, i64 k
structure EndI (e : EndM) : Prop where
  txn : i64 e.txn
  at_ : i64 e.at_
/-- A step of the law's script. -/
structure Cmd21 where
  k : Int
  r : Rdy
  e : EndM
def cmd21C (o : Cmd21) (wv rv : Value) : List Value := [vi o.k, vi o.r.txn, vi o.r.home, vi o.r.start, wv, rv, vi o.e.txn, .bool o.e.commit, vi o.e.at_]
def ECmd21 (w : World) (cs : List Value) (o : Cmd21) : Prop := ∃ wv rv, cs = cmd21C o wv rv ∧ RdyS w ⟨wv, rv, o.r⟩ ∧ RdyI o.r ∧ EndI o.e
abbrev RdCmds (w : World) (v : Value) (l : List Cmd21) : Prop := RdS 9 ECmd21 w v l
theorem ECmd21.later {A B : World} {cs : List Value} {o : Cmd21} (h : ECmd21 A cs o) (hb : Below A.heap.size A B) : ECmd21 B cs o := by
  obtain ⟨wv, rv, h1, h2, h3⟩ := h
  exact ⟨wv, rv, h1, h2.later hb, h3⟩
theorem RdCmds.later {A B : World} {v : Value} {l : List Cmd21} (h : RdCmds A v l) (hb : Below A.heap.size A B) : RdCmds B v l := RdS.below h hb fun _ _ h => h.later hb
theorem RdCmds.at {w : World} {v : Value} {xs : List Cmd21} (h : RdCmds w v xs) : ∃ a len cap, v = .slice a len cap ∧ len = xs.length ∧ xs.length ≤ 9223372036854775807 ∧ ∀ j x, xs[j]? = some x → ∃ b off wv rv, a = some ⟨b, off, none⟩ ∧ RdyS w ⟨wv, rv, x.r⟩ ∧ RdyI x.r ∧ EndI x.e ∧
    (∀ i u, (cmd21C x wv rv)[i]? = some u → w.cell? ⟨b, off + (j * 9 + i), none⟩ = some u) := by
  obtain ⟨a, len, cap, h1, h2, h3, h4, h5, h6⟩ := h
  refine ⟨a, len, cap, h1, h2, h3, fun j x hj => ?_⟩
  obtain ⟨b, off, cs, ha, hl, hc, wv, rv, hcs, hr, hi, he⟩ := h6 j x hj
  exact ⟨b, off, wv, rv, ha, hr, hi, he, fun i u hu => hc i u (by rw [hcs]; exact hu)⟩

section
variable {H : Type} {enc : TypeId × Value → H} {w : World} {spare : Nat → Bool} {held : Bool}
theorem int_cell {m : Nat} {c : Value} {y : DataW H × List MemPlace} (h : DataW.trod enc Try.prog w 0 spare held m 3 [c] = some y) : ∃ n, c = vi n ∧ i64 n := by
  obtain ⟨n, hc, -, hw⟩ := DataW.trod_int Try.underlying3 h
  exact ⟨n, by simpa using hc, wf_i64 hw⟩
theorem bool_cell {m : Nat} {c : Value} {y : DataW H × List MemPlace} (h : DataW.trod enc Try.prog w 0 spare held m 4 [c] = some y) : ∃ b, c = .bool b := by
  obtain ⟨b, hc, -⟩ := DataW.trod_bool Try.underlying4 h
  exact ⟨b, by simpa using hc⟩
theorem cells_int : Try.prog.cellsOf 3 = 1 := by kernel_rfl
theorem cells_bool : Try.prog.cellsOf 4 = 1 := by kernel_rfl
theorem cells_op : Try.prog.cellsOf 104 = 3 := by kernel_rfl
theorem cells_ops : Try.prog.cellsOf 26 = 1 := by kernel_rfl
theorem cells_ints : Try.prog.cellsOf 27 = 1 := by kernel_rfl
theorem cells_rdy : Try.prog.cellsOf 29 = 5 := by kernel_rfl
theorem cells_end : Try.prog.cellsOf 31 = 3 := by kernel_rfl
theorem cells_cmd21 : Try.prog.cellsOf 33 = 9 := by kernel_rfl

def EOpI (_ : World) (cs : List Value) (o : GOp) : Prop := cs = opV o ∧ i64 o.kind ∧ i64 o.key ∧ i64 o.val
set_option maxRecDepth 100000 in
theorem op_cells {m : Nat} {cs : List Value} {y : DataW H × List MemPlace} (hl : cs.length = 3) (h : DataW.trod enc Try.prog w 0 spare held m 104 cs = some y) : ∃ o, EOpI w cs o := by
  obtain ⟨xs, n, _, _, _, hlen, hf⟩ := DataW.trod_struct Try.underlying104 h
  match cs, hl, xs, hlen with
  | [c0, c1, c2], _, [y0, y1, y2], _ =>
    have h0 : DataW.trod enc Try.prog w 0 spare held n 3 (([c0, c1, c2].drop 0).take (Try.prog.cellsOf 3)) = some y0 := hf 0 _ rfl
    have h1 : DataW.trod enc Try.prog w 0 spare held n 3 (([c0, c1, c2].drop 1).take (Try.prog.cellsOf 3)) = some y1 := hf 1 _ rfl
    have h2 : DataW.trod enc Try.prog w 0 spare held n 3 (([c0, c1, c2].drop 2).take (Try.prog.cellsOf 3)) = some y2 := hf 2 _ rfl
    rw [cells_int] at h0 h1 h2
    obtain ⟨a, rfl, ha⟩ := int_cell h0
    obtain ⟨b, rfl, hb⟩ := int_cell h1
    obtain ⟨c, rfl, hc⟩ := int_cell h2
    exact ⟨⟨a, b, c⟩, rfl, ha, hb, hc⟩
set_option maxRecDepth 100000 in
theorem ops_read {m : Nat} {v : Value} {y : DataW H × List MemPlace} (h : DataW.trod enc Try.prog w 0 spare held m 26 [v] = some y) : ∃ l, RdOps w v l ∧ ∀ o ∈ l, i64 o.kind ∧ i64 o.key ∧ i64 o.val := by
  obtain ⟨l, hl⟩ : ∃ l, RdS 3 EOpI w v l := rds_of_trod Try.underlying26 cells_op (by omega) h fun _ _ _ hl hy => op_cells hl hy
  obtain ⟨a, len, cap, h1, h2, h3, h4, h5, h6⟩ := hl
  refine ⟨l, ⟨a, len, cap, h1, h2, h3, h4, h5, fun j x hj => ?_⟩, fun o ho => ?_⟩
  · obtain ⟨b, off, cs, ha, hl, hc, he, _⟩ := h6 j x hj
    exact ⟨b, off, cs, ha, hl, hc, he⟩
  · obtain ⟨j, hj⟩ := List.mem_iff_getElem?.1 ho
    obtain ⟨b, off, cs, ha, hl, hc, he, hi⟩ := h6 j o hj
    exact hi
set_option maxRecDepth 100000 in
theorem ints_read {m : Nat} {v : Value} {y : DataW H × List MemPlace} (h : DataW.trod enc Try.prog w 0 spare held m 27 [v] = some y) : ∃ l, RdInts w v l ∧ ∀ k ∈ l, i64 k := by
  obtain ⟨l, hl⟩ : ∃ l, RdS 1 EInt w v l := rds_of_trod Try.underlying27 cells_int (by omega) h fun m cs y _ hy => by
    obtain ⟨n, rfl, _, hw⟩ := DataW.trod_int Try.underlying3 hy
    exact ⟨n, rfl, wf_i64 hw⟩
  refine ⟨l, hl, fun k hk => ?_⟩
  obtain ⟨a, len, cap, h1, h2, h3, h4, h5, h6⟩ := hl
  obtain ⟨j, hj⟩ := List.mem_iff_getElem?.1 hk
  obtain ⟨b, off, cs, ha, hl, hc, he, hi⟩ := h6 j k hj
  exact hi
set_option maxRecDepth 100000 in
theorem rdy_cells {m : Nat} {cs : List Value} {y : DataW H × List MemPlace} (hl : cs.length = 5) (h : DataW.trod enc Try.prog w 0 spare held m 29 cs = some y) : ∃ x : RV, cs = [vi x.r.txn, vi x.r.home, vi x.r.start, x.wv, x.rv] ∧ RdyS w x ∧ RdyI x.r := by
  obtain ⟨xs, n, _, _, _, hlen, hf⟩ := DataW.trod_struct Try.underlying29 h
  match cs, hl, xs, hlen with
  | [c0, c1, c2, c3, c4], _, [y0, y1, y2, y3, y4], _ =>
    have h0 : DataW.trod enc Try.prog w 0 spare held n 3 (([c0, c1, c2, c3, c4].drop 0).take (Try.prog.cellsOf 3)) = some y0 := hf 0 _ rfl
    have h1 : DataW.trod enc Try.prog w 0 spare held n 3 (([c0, c1, c2, c3, c4].drop 1).take (Try.prog.cellsOf 3)) = some y1 := hf 1 _ rfl
    have h2 : DataW.trod enc Try.prog w 0 spare held n 3 (([c0, c1, c2, c3, c4].drop 2).take (Try.prog.cellsOf 3)) = some y2 := hf 2 _ rfl
    have h3 : DataW.trod enc Try.prog w 0 spare held n 26 (([c0, c1, c2, c3, c4].drop 3).take (Try.prog.cellsOf 26)) = some y3 := hf 3 _ rfl
    have h4 : DataW.trod enc Try.prog w 0 spare held n 27 (([c0, c1, c2, c3, c4].drop 4).take (Try.prog.cellsOf 27)) = some y4 := hf 4 _ rfl
    rw [cells_int] at h0 h1 h2
    rw [cells_ops] at h3
    rw [cells_ints] at h4
    obtain ⟨a, rfl, ha⟩ := int_cell h0
    obtain ⟨b, rfl, hb⟩ := int_cell h1
    obtain ⟨c, rfl, hc⟩ := int_cell h2
    obtain ⟨ws, hw, hwi⟩ := ops_read h3
    obtain ⟨rs, hr, hri⟩ := ints_read h4
    exact ⟨⟨c3, c4, ⟨a, b, c, ws, rs⟩⟩, rfl, ⟨hw, hr⟩, ⟨ha, hb, hc, hwi, hri⟩⟩
set_option maxRecDepth 100000 in
theorem end_cells {m : Nat} {cs : List Value} {y : DataW H × List MemPlace} (hl : cs.length = 3) (h : DataW.trod enc Try.prog w 0 spare held m 31 cs = some y) : ∃ e : EndM, cs = [vi e.txn, .bool e.commit, vi e.at_] ∧ EndI e := by
  obtain ⟨xs, n, _, _, _, hlen, hf⟩ := DataW.trod_struct Try.underlying31 h
  match cs, hl, xs, hlen with
  | [c0, c1, c2], _, [y0, y1, y2], _ =>
    have h0 : DataW.trod enc Try.prog w 0 spare held n 3 (([c0, c1, c2].drop 0).take (Try.prog.cellsOf 3)) = some y0 := hf 0 _ rfl
    have h1 : DataW.trod enc Try.prog w 0 spare held n 4 (([c0, c1, c2].drop 1).take (Try.prog.cellsOf 4)) = some y1 := hf 1 _ rfl
    have h2 : DataW.trod enc Try.prog w 0 spare held n 3 (([c0, c1, c2].drop 2).take (Try.prog.cellsOf 3)) = some y2 := hf 2 _ rfl
    rw [cells_int] at h0 h2
    rw [cells_bool] at h1
    obtain ⟨a, rfl, ha⟩ := int_cell h0
    obtain ⟨b, rfl⟩ := bool_cell h1
    obtain ⟨c, rfl, hc⟩ := int_cell h2
    exact ⟨⟨a, b, c⟩, rfl, ⟨ha, hc⟩⟩
set_option maxRecDepth 100000 in
theorem cmd21_cells {m : Nat} {cs : List Value} {y : DataW H × List MemPlace} (hl : cs.length = 9) (h : DataW.trod enc Try.prog w 0 spare held m 33 cs = some y) : ∃ o, ECmd21 w cs o := by
  obtain ⟨xs, n, _, _, _, hlen, hf⟩ := DataW.trod_struct Try.underlying33 h
  match cs, hl, xs, hlen with
  | [c0, c1, c2, c3, c4, c5, c6, c7, c8], _, [y0, y1, y2], _ =>
    have h0 : DataW.trod enc Try.prog w 0 spare held n 3 (([c0, c1, c2, c3, c4, c5, c6, c7, c8].drop 0).take (Try.prog.cellsOf 3)) = some y0 := hf 0 _ rfl
    have h1 : DataW.trod enc Try.prog w 0 spare held n 29 (([c0, c1, c2, c3, c4, c5, c6, c7, c8].drop 1).take (Try.prog.cellsOf 29)) = some y1 := hf 1 _ rfl
    have h2 : DataW.trod enc Try.prog w 0 spare held n 31 (([c0, c1, c2, c3, c4, c5, c6, c7, c8].drop 6).take (Try.prog.cellsOf 31)) = some y2 := hf 2 _ rfl
    rw [cells_int] at h0
    rw [cells_rdy] at h1
    rw [cells_end] at h2
    obtain ⟨a, rfl, ha⟩ := int_cell h0
    obtain ⟨x, hx, hs, hi⟩ := rdy_cells (by rfl) h1
    obtain ⟨e, he, hei⟩ := end_cells (by rfl) h2
    cases hx
    cases he
    exact ⟨⟨a, x.r, e⟩, x.wv, x.rv, rfl, hs, hi, hei⟩
end
set_option maxRecDepth 100000 in
theorem cmd21s_of_row {H : Type} {enc : TypeId × Value → H} {w : World} {spare : Nat → Bool} {held : Bool} {base : Nat} {v : Value} {d : DataW H} {ps : List MemPlace} (hk : Value.okWide Try.prog w .any base 22 v) (h : DataW.Trod enc Try.prog w 0 spare held 22 v d ps) : ∃ l, RdCmds w v l := by
  obtain ⟨a, l, c, rfl⟩ := okWide_slice Try.underlying22 hk
  obtain ⟨fuel, hf⟩ := h
  exact rds_of_trod Try.underlying22 cells_cmd21 (by omega) hf fun _ _ _ hl hy => cmd21_cells hl hy
def RdyV (w : World) (v : Value) (x : RV) : Prop := v = rdyV x ∧ RdyS w x ∧ RdyI x.r
set_option maxRecDepth 100000 in
theorem rdy_of_row {H : Type} {enc : TypeId × Value → H} {w : World} {spare : Nat → Bool} {held : Bool} {base : Nat} {v : Value} {d : DataW H} {ps : List MemPlace} (hk : Value.okWide Try.prog w .any base 29 v) (h : DataW.Trod enc Try.prog w 0 spare held 29 v d ps) : ∃ x, RdyV w v x := by
  obtain ⟨cs, rfl, hsz⟩ := okWide_struct Try.underlying29 hk
  obtain ⟨fuel, hf⟩ := h
  obtain ⟨x, hx, h1, h2⟩ := rdy_cells (cs := cs.toList) (by simpa using hsz.trans cells_rdy) hf
  refine ⟨x, ?_, h1, h2⟩
  unfold rdyV rdyC
  rw [← hx]
def EEnd (_ : World) (cs : List Value) (e : EndM) : Prop := cs = [vi e.txn, .bool e.commit, vi e.at_] ∧ EndI e
abbrev RdEnds (w : World) (v : Value) (l : List EndM) : Prop := RdS 3 EEnd w v l
theorem RdEnds.later {A B : World} {v : Value} {l : List EndM} (h : RdEnds A v l) (hb : Below A.heap.size A B) : RdEnds B v l := RdS.below h hb fun _ _ h => h
theorem RdEnds.at {w : World} {v : Value} {xs : List EndM} (h : RdEnds w v xs) : ∃ a len cap, v = .slice a len cap ∧ len = xs.length ∧ xs.length ≤ 9223372036854775807 ∧ ∀ j x, xs[j]? = some x → ∃ b off, a = some ⟨b, off, none⟩ ∧ EndI x ∧ w.cell? ⟨b, off + j * 3, none⟩ = some (vi x.txn) ∧ w.cell? ⟨b, off + j * 3 + 1, none⟩ = some (.bool x.commit) ∧ w.cell? ⟨b, off + j * 3 + 2, none⟩ = some (vi x.at_) := by
  obtain ⟨a, len, cap, h1, h2, h3, h4, h5, h6⟩ := h
  refine ⟨a, len, cap, h1, h2, h3, fun j x hj => ?_⟩
  obtain ⟨b, off, cs, ha, hl, hc, rfl, hx⟩ := h6 j x hj
  exact ⟨b, off, ha, hx, by simpa using hc 0 _ rfl, by simpa [Nat.add_assoc] using hc 1 _ rfl, by simpa [Nat.add_assoc] using hc 2 _ rfl⟩
set_option maxRecDepth 100000 in
theorem ends_of_row {H : Type} {enc : TypeId × Value → H} {w : World} {spare : Nat → Bool} {held : Bool} {base : Nat} {v : Value} {d : DataW H} {ps : List MemPlace} (hk : Value.okWide Try.prog w .any base 43 v) (h : DataW.Trod enc Try.prog w 0 spare held 43 v d ps) : ∃ l, RdEnds w v l := by
  obtain ⟨a, l, c, rfl⟩ := okWide_slice Try.underlying43 hk
  obtain ⟨fuel, hf⟩ := h
  refine rds_of_trod Try.underlying43 cells_end (by omega) hf fun _ _ _ hl hy => ?_
  obtain ⟨e, he, hi⟩ := end_cells hl hy
  exact ⟨e, he, hi⟩
def EndV (v : Value) (e : EndM) : Prop := v = endV e ∧ EndI e
set_option maxRecDepth 100000 in
theorem end_of_row {H : Type} {enc : TypeId × Value → H} {w : World} {spare : Nat → Bool} {held : Bool} {base : Nat} {v : Value} {d : DataW H} {ps : List MemPlace} (hk : Value.okWide Try.prog w .any base 31 v) (h : DataW.Trod enc Try.prog w 0 spare held 31 v d ps) : ∃ e, EndV v e := by
  obtain ⟨cs, rfl, hsz⟩ := okWide_struct Try.underlying31 hk
  obtain ⟨fuel, hf⟩ := h
  obtain ⟨e, he, h1⟩ := end_cells (cs := cs.toList) (by simpa using hsz.trans cells_end) hf
  refine ⟨e, ?_, h1⟩
  unfold endV
  rw [← he]
end Go.Proofs.Ytdkkpkgfiodlbaa

namespace Go.Proofs.Ytdkkpkgfiodlbaa
open Go.RowKit

def bitL (b : Bool) : List Bool := [b]
theorem bit_read {s : Rd} (h : s.bad = 0) {b : Bool} {r : List Bool} (hr : s.rest = b :: r) : RdOK bitL (fun _ => True) s ⟨r, 0⟩ b := by
  refine ⟨fun _ y t _ e => ?_, fun _ => ⟨h, trivial, hr⟩⟩
  rw [hr] at e
  simp only [bitL, List.cons_append, List.nil_append, List.cons.injEq] at e
  exact ⟨e.1, e.2, rfl⟩
theorem bit_stop {s s' : Rd} {b : Bool} (h : s.bad = 0 → s.rest = []) (hs : s'.bad ≠ 0) : RdOK bitL (fun _ => True) s s' b := by
  refine ⟨fun h0 y t _ e => ?_, fun h0 => absurd h0 hs⟩
  rw [h h0] at e; cases e
theorem getS_bit (s : Rd) : RdOK bitL (fun _ => True) s (getS s 1).2 ((getS s 1).1 == 1) ∧ (getS s 1).1 < 2 := by
  by_cases h : s.bad = 0
  · cases hr : s.rest with
    | nil =>
      have e : getS s 1 = (0, ⟨s.rest, 10⟩) := by rw [getS, if_neg (by simp [h]), if_pos (by rw [hr]; simp)]
      rw [e]
      exact ⟨bit_stop (fun _ => hr) (by simp), by show (0 : Nat) < 2; decide⟩
    | cons b r =>
      have e : getS s 1 = (valL [b], ⟨r, 0⟩) := by rw [getS, if_neg (by simp [h]), if_neg (by rw [hr]; simp), hr]; rfl
      rw [e]
      have hv : (valL [b] == 1) = b := by cases b <;> rfl
      have hv2 : valL [b] < 2 := by cases b <;> decide
      refine ⟨?_, hv2⟩
      show RdOK bitL _ s ⟨r, 0⟩ (valL [b] == 1)
      rw [hv]; exact bit_read h hr
  · have e : getS s 1 = (0, s) := by rw [getS, if_pos h]
    rw [e]
    exact ⟨bit_stop (fun h0 => absurd h0 h) h, by show (0 : Nat) < 2; decide⟩
/-- What became of a transaction, in bits. -/
def endBL (e : EndM) : List Bool := intL e.txn ++ [e.commit] ++ intL e.at_
abbrev EndOk (e : EndM) : Prop := IntOk e.txn ∧ IntOk e.at_
theorem putL_bit (b : Bool) : putL (if b then 1 else 0) 1 = [b] := by cases b <;> rfl
theorem endBL_length {e : EndM} (h : EndOk e) : (endBL e).length ≤ 259 := by
  have := intL_length h.1
  have := intL_length h.2
  simp [endBL]; omega
set_option maxRecDepth 100000 in
set_option maxHeartbeats 4000000 in
theorem shEnd_call {base p : Nat} {L : List Bool} (e : EndM) (w : World) (h : WrS base p L w) (hi : EndOk e) (hL : L.length ≤ 1000000) (hb : base ≤ w.heap.size) :
    Calls Try.prog 35 #[.pointer (some ⟨p, 0, none⟩), endV e] w (PutQ base p (L ++ endBL e) w) := by
  have hne := h.lt
  have HX := Lib.hid (Bt.alloc_at w (.cells #[vi e.txn, .bool e.commit, vi e.at_] 31))
  have HW := Lib.hid (h.alloc (.cells #[vi e.txn, .bool e.commit, vi e.at_] 31))
  have HF := Lib.hid ((FrW.refl base p w).alloc (.cells #[vi e.txn, .bool e.commit, vi e.at_] 31))
  have hl1 := intL_length hi.1
  have hl2 := intL_length hi.2
  have hba : base ≤ (w.alloc (.cells #[vi e.txn, .bool e.commit, vi e.at_] 31)).heap.size := by simp; omega
  clear h
  unfold endV
  go_enter Try.func35, Try.ntmps35
  go_upto_region 1 with fail
  generalize w.alloc (.cells #[vi e.txn, .bool e.commit, vi e.at_] 31) = w1 at *
  obtain ⟨X, hX⟩ : ∃ X, X = w.heap.size := ⟨_, rfl⟩
  rw [← hX] at HX hne ⊢
  have hnX : X ≠ p := by omega
  have HXE := Lib.hid hX
  clear hX hb
  have x0 : w1.cell? ⟨X, 0, none⟩ = some (vi e.txn) := by rw [Bt.cell_of HX.out]; rfl
  obtain ⟨txn, commit, at_⟩ := e
  simp only at *
  cases commit
  · have hlb : (L ++ intL txn).length ≤ 1000200 := by simp; omega
    have hlc : (L ++ intL txn ++ [false]).length ≤ 1048000 := by simp; omega
    go_upto_region 2 with (go_at_call 33; refine (int_call (L := L) txn w1 HW.out hi.1.1 hi.1.2 (by omega) hba).mono ?_; rintro e2 w2 ⟨rfl, hw2, hf2⟩; have HW2 := Lib.hid hw2; have HF2 := Lib.hid hf2; have hz2 := Nat.le_trans hba hf2.size; have HX2 := Lib.hid (hf2.cells HX.out hnX (by decide)); have x1 : w2.cell? ⟨X, 1, none⟩ = some (.bool false) := (by rw [Bt.cell_of HX2.out]; rfl); clear hw2 hf2)
    go_upto_region 6 with (go_at_call 72; refine (put_call (L := L ++ intL txn) 0 1 w2 HW2.out (by decide) (by decide) (by omega) hz2).mono ?_; rintro e3 w3 ⟨rfl, hw3, hf3⟩; have HW3 := Lib.hid (show WrS base p (L ++ intL txn ++ [false]) w3 from hw3); have HF3 := Lib.hid hf3; have hz3 := Nat.le_trans hz2 hf3.size; have x2 : w3.cell? ⟨X, 2, none⟩ = some (vi at_) := (by rw [Bt.cell_of (hf3.cells HX2.out hnX (by decide))]; rfl); clear hw3 hf3)
    go_wp2_with (go_at_call 33; refine (int_call (L := L ++ intL txn ++ [false]) at_ w3 HW3.out hi.2.1 hi.2.2 hlc hz3).mono ?_; rintro e4 w4 ⟨rfl, hw4, hf4⟩; have HW4 := Lib.hid hw4; have HF4 := Lib.hid hf4; clear hw4 hf4)
    go_end0
    refine ⟨rfl, ?_, ((HF.out.trans HF2.out).trans HF3.out).trans HF4.out⟩
    have := HW4.out
    simpa [endBL, List.append_assoc] using this
  · have hlb : (L ++ intL txn).length ≤ 1000200 := by simp; omega
    have hlc : (L ++ intL txn ++ [true]).length ≤ 1048000 := by simp; omega
    go_upto_region 2 with (go_at_call 33; refine (int_call (L := L) txn w1 HW.out hi.1.1 hi.1.2 (by omega) hba).mono ?_; rintro e2 w2 ⟨rfl, hw2, hf2⟩; have HW2 := Lib.hid hw2; have HF2 := Lib.hid hf2; have hz2 := Nat.le_trans hba hf2.size; have HX2 := Lib.hid (hf2.cells HX.out hnX (by decide)); have x1 : w2.cell? ⟨X, 1, none⟩ = some (.bool true) := (by rw [Bt.cell_of HX2.out]; rfl); clear hw2 hf2)
    go_upto_region 6 with (go_at_call 72; refine (put_call (L := L ++ intL txn) 1 1 w2 HW2.out (by decide) (by decide) (by omega) hz2).mono ?_; rintro e3 w3 ⟨rfl, hw3, hf3⟩; have HW3 := Lib.hid (show WrS base p (L ++ intL txn ++ [true]) w3 from hw3); have HF3 := Lib.hid hf3; have hz3 := Nat.le_trans hz2 hf3.size; have x2 : w3.cell? ⟨X, 2, none⟩ = some (vi at_) := (by rw [Bt.cell_of (hf3.cells HX2.out hnX (by decide))]; rfl); clear hw3 hf3)
    go_wp2_with (go_at_call 33; refine (int_call (L := L ++ intL txn ++ [true]) at_ w3 HW3.out hi.2.1 hi.2.2 hlc hz3).mono ?_; rintro e4 w4 ⟨rfl, hw4, hf4⟩; have HW4 := Lib.hid hw4; have HF4 := Lib.hid hf4; clear hw4 hf4)
    go_end0
    refine ⟨rfl, ?_, ((HF.out.trans HF2.out).trans HF3.out).trans HF4.out⟩
    have := HW4.out
    simpa [endBL, List.append_assoc] using this
theorem end_read {s s1 s2 s3 : Rd} {a c : Int} {b : Bool} (h1 : RdOK intL IntOk s s1 a) (h2 : RdOK bitL (fun _ => True) s1 s2 b) (h3 : RdOK intL IntOk s2 s3 c) : RdOK endBL EndOk s s3 ⟨a, b, c⟩ :=
  ((h1.seq h2).seq h3).map (fun z => (⟨z.1.1, z.1.2, z.2⟩ : EndM)) (fun e => ((e.txn, e.commit), e.at_)) (fun e he => ⟨⟨⟨he.1, trivial⟩, he.2⟩, by simp [endBL, bitL], rfl⟩) (fun z hz => ⟨⟨hz.1.1, hz.2⟩, by simp [endBL, bitL]⟩)
def EndRQ (base p : Nat) (s : Rd) (w : World) (e : Ending) (w' : World) : Prop := ∃ x s', e = .returned (endV x) ∧ EndOk x ∧ RdOK endBL EndOk s s' x ∧ RdrS base p s' w' ∧ w.grownBy w' (some p)
set_option maxRecDepth 100000 in
set_option maxHeartbeats 4000000 in
theorem readEnd_call {base p : Nat} {s : Rd} (w : World) (h : RdrS base p s w) :
    Calls Try.prog 52 #[.pointer (some ⟨p, 0, none⟩)] w (EndRQ base p s w) := by
  have hp := h.lt
  have HX := Lib.hid (Bt.alloc_at w (.cells #[vi 0, .bool false, vi 0] 31))
  have HW := Lib.hid (h.later ((Below.refl w.heap.size w).alloc (Nat.le_refl _) (.cells #[vi 0, .bool false, vi 0] 31)))
  have HG := Lib.hid (World.grownBy_alloc w (.cells #[vi 0, .bool false, vi 0] 31) (some p))
  have hsz : w.heap.size < (w.alloc (.cells #[vi 0, .bool false, vi 0] 31)).heap.size := by simp
  clear h
  go_enter Try.func52, Try.ntmps52
  go_upto_region 1 with fail
  generalize w.alloc (.cells #[vi 0, .bool false, vi 0] 31) = w1 at *
  obtain ⟨X, hX⟩ : ∃ X, X = w.heap.size := ⟨_, rfl⟩
  have hpX : p < X := by omega
  have hXw : X < w1.heap.size := by omega
  rw [← hX] at HX ⊢
  have HXE := Lib.hid hX
  clear hX hsz
  go_wp2_with (first
    | (go_at_call 50; refine (intR_call w3 HS3.out).mono ?_; rintro e4 w4 ⟨z2, s4, rfl, hz2, hr4, hs4, hg4⟩; have HR4 := Lib.hid hr4; have HS4 := Lib.hid hs4; have HG4 := Lib.hid (gro_trans HG3.out hg4); have hx4 := (hg4.block X (Nat.lt_of_lt_of_le hXw HG3.out.size) (fun e => by have := Option.some.inj e; omega)).trans HX3.out; have HX4 := Lib.hid hx4; have x0 : w4.cell? ⟨X, 0, none⟩ = some (vi 0) := (by rw [Bt.cell_of hx4]; rfl); have x1 : w4.cell? ⟨X, 1, none⟩ = some (.bool false) := (by rw [Bt.cell_of hx4]; rfl); have x2 : w4.cell? ⟨X, 2, none⟩ = some (vi 0) := (by rw [Bt.cell_of hx4]; rfl); have xf : ∀ o, w4.frozen? ⟨X, o, none⟩ = false := (fun o => Bt.free_of hx4 o); clear hr4 hs4 hg4 hx4)
    | (go_at_call 80; refine (get_call 1 w2 HS2.out (by decide)).mono ?_; rintro e3 w3 ⟨rfl, hs3, hg3⟩; obtain ⟨hb, hlt⟩ := getS_bit s2; have HRB := Lib.hid hb; have HS3 := Lib.hid hs3; have HG3 := Lib.hid (gro_trans HG2.out hg3); have HX3 := Lib.hid ((hg3.block X (Nat.lt_of_lt_of_le hXw HG2.out.size) (fun e => by have := Option.some.inj e; omega)).trans HX2.out); obtain ⟨g, hge⟩ : ∃ g, g = (getS s2 1).1 := ⟨_, rfl⟩; rw [← hge] at hlt HRB; rw [← hge]; have HGE := Lib.hid hge; clear hb hs3 hg3 hge)
    | (go_at_call 50; refine (intR_call w1 HW.out).mono ?_; rintro e2 w2 ⟨z1, s2, rfl, hz1, hr2, hs2, hg2⟩; have HR2 := Lib.hid hr2; have HS2 := Lib.hid hs2; have HG2 := Lib.hid hg2; have HX2 := Lib.hid ((hg2.block X hXw (fun e => by have := Option.some.inj e; omega)).trans HX.out); clear hr2 hs2 hg2))
  have HX4' := HX4
  have h0 := Bt.cells_set (o := 0) (vi z1) HX4.out
  have h1 := Bt.cells_set (o := 1) (.bool ((g : Int) == 1)) h0
  have h2 := Bt.cells_set (o := 2) (vi z2) h1
  have HSR := Lib.hid ((((HS4.out.setO HX4.out (by decide) (by decide) (vi z1) (o := 0)).setO h0 (by decide) (by decide) (.bool ((g : Int) == 1)) (o := 1)).setO h1 (by decide) (by decide) (vi z2) (o := 2)))
  have HGR := Lib.hid (gro_setNew (o := 2) (gro_setNew (o := 1) (gro_setNew (o := 0) (gro_trans HG.out HG4.out) (show w.heap.size ≤ X by rw [HXE.out]; exact Nat.le_refl _) (vi z1)) (show w.heap.size ≤ X by rw [HXE.out]; exact Nat.le_refl _) (.bool ((g : Int) == 1))) (show w.heap.size ≤ X by rw [HXE.out]; exact Nat.le_refl _) (vi z2))
  have H2 := Lib.hid h2
  clear x0 x1 x2 xf h0 h1 h2
  generalize (((w4.setCell ⟨X, 0, none⟩ (.int .i64 z1)).setCell ⟨X, 1, none⟩ (.bool ((g : Int) == 1))).setCell ⟨X, 2, none⟩ (.int .i64 z2)) = wz at *
  have r0 : wz.cell? ⟨X, 0, none⟩ = some (vi z1) := by rw [Bt.cell_of H2.out]; rfl
  have r1 : wz.cell? ⟨X, 1, none⟩ = some (.bool ((g : Int) == 1)) := by rw [Bt.cell_of H2.out]; rfl
  have r2 : wz.cell? ⟨X, 2, none⟩ = some (vi z2) := by rw [Bt.cell_of H2.out]; rfl
  have hg1 : ((g : Int) == 1) = (g == 1) := by rw [Bool.eq_iff_iff]; simp; omega
  refine bodyPost_ret (v := endV ⟨z1, ((g : Int) == 1), z2⟩) (by simp [results, Try.results52, go_sem, endV, r0, r1, r2]) rfl ⟨⟨z1, ((g : Int) == 1), z2⟩, s4, rfl, ⟨hz1, hz2⟩, ?_, HSR.out, HGR.out⟩
  rw [hg1]
  exact end_read HR2.out HRB.out HR4.out
end Go.Proofs.Ytdkkpkgfiodlbaa

namespace Go.Proofs.Ytdkkpkgfiodlbaa
/-- A command, in bits. -/
def cmdL (c : Cmd21) : List Bool := intL c.k ++ rdyBL c.r ++ endBL c.e
structure CmdBOk (c : Cmd21) : Prop where
  k : IntOk c.k
  r : RdyBOk c.r
  e : EndOk c.e
theorem cmd_read {s s1 s2 s3 : Rd} {a : Int} {r : Rdy} {e : EndM} (h1 : RdOK intL IntOk s s1 a) (h2 : RdOK rdyBL RdyBOk s1 s2 r) (h3 : RdOK endBL EndOk s2 s3 e) : RdOK cmdL CmdBOk s s3 ⟨a, r, e⟩ :=
  ((h1.seq h2).seq h3).map (fun z => (⟨z.1.1, z.1.2, z.2⟩ : Cmd21)) (fun c => ((c.k, c.r), c.e)) (fun c hc => ⟨⟨⟨hc.k, hc.r⟩, hc.e⟩, by simp [cmdL], rfl⟩) (fun z hz => ⟨⟨hz.1.1, hz.1.2, hz.2⟩, by simp [cmdL]⟩)
/-- The same transaction, each of its operations a write. -/
def killK (r : Rdy) : Rdy := ⟨r.txn, r.home, r.start, r.writes.map (fun o => ⟨2, o.key, o.val⟩), r.reads⟩
def killC (c : Cmd21) : Cmd21 := ⟨c.k, killK c.r, c.e⟩
theorem killK_len (r : Rdy) : (killK r).writes.length = r.writes.length := by simp [killK]
theorem killK_bits (r : Rdy) : rdyBL (killK r) = rdyBL r := by
  have : opsBL (r.writes.map (fun o => (⟨2, o.key, o.val⟩ : GOp))) = opsBL r.writes := by
    unfold opsBL; rw [List.flatMap_map]; rfl
  show intL r.txn ++ intL r.home ++ intL r.start ++ numL (r.writes.map _).length ++ opsBL (r.writes.map _) ++ numL r.reads.length ++ intsBL r.reads = _
  rw [this, List.length_map]; rfl
theorem killC_bits (c : Cmd21) : cmdL (killC c) = cmdL c := by unfold cmdL killC; rw [killK_bits]
theorem RdyI.ok {r : Rdy} (h : RdyI r) : RdyOk r := ⟨h.txn, h.home, h.start, fun o ho => (h.ws o ho).2, h.rs⟩
theorem killK_ok {r : Rdy} (h : RdyOk r) (hw : r.writes.length ≤ 1000) (hr : r.reads.length ≤ 1000) : RdyBOk (killK r) := by
  refine ⟨h.txn, h.home, h.start, ⟨by rw [killK_len]; omega, fun o ho => ?_⟩, ⟨by show r.reads.length < _; omega, h.rs⟩⟩
  obtain ⟨x, hx, rfl⟩ := List.mem_map.1 ho
  exact ⟨rfl, h.ws x hx⟩
theorem killK_at {r : Rdy} {k : Nat} {o : GOp} (h : r.writes[k]? = some o) : (killK r).writes[k]? = some ⟨2, o.key, o.val⟩ := by
  show (r.writes.map _)[k]? = _
  rw [List.getElem?_map, h]; rfl
theorem btBytes_lt (L : List Bool) : ∀ b ∈ btBytes L, b < 256 := by
  intro b hb
  obtain ⟨j, _, rfl⟩ := List.mem_map.1 hb
  exact btByte_lt _ _
theorem rdyBL_length {r : Rdy} (h : RdyOk r) (hw : r.writes.length ≤ 20) (hr : r.reads.length ≤ 20) : (rdyBL r).length ≤ 9000 := by
  have hl1 := intL_length h.txn
  have hl2 := intL_length h.home
  have hl3 := intL_length h.start
  have hl4 := numL_length r.writes.length (by omega)
  have hl5 := numL_length r.reads.length (by omega)
  have hl6 := opsBL_length r.writes h.ws
  have hl7 := intsBL_length r.reads h.rs
  simp only [rdyBL, List.length_append]; omega
end Go.Proofs.Ytdkkpkgfiodlbaa

namespace Go.Proofs.Ytdkkpkgfiodlbaa
open Go.RowKit

def cmdC (c : Cmd21) (wv rv : Value) : Array Value := #[vi c.k, vi c.r.txn, vi c.r.home, vi c.r.start, wv, rv, vi c.e.txn, .bool c.e.commit, vi c.e.at_]
def cmdV (c : Cmd21) (wv rv : Value) : Value := .agg (cmdC c wv rv)
/-- A command of the law's: its numbers lie in their bounds, its lists are short. -/
structure CmdI (c : Cmd21) : Prop where
  k : IntOk c.k
  r : RdyI c.r
  e : EndI c.e
  lw : c.r.writes.length ≤ 20
  lr : c.r.reads.length ≤ 20
theorem CmdI.endOk {c : Cmd21} (h : CmdI c) : EndOk c.e := ⟨h.e.txn, h.e.at_⟩
theorem CmdI.bok {c : Cmd21} (h : CmdI c) : CmdBOk (killC c) := ⟨h.k, killK_ok h.r.ok (by have := h.lw; omega) (by have := h.lr; omega), h.endOk⟩
theorem cmdL_length {c : Cmd21} (h : CmdI c) : (cmdL c).length ≤ 10000 := by
  have h1 := intL_length h.k
  have h2 := rdyBL_length h.r.ok h.lw h.lr
  have h3 := endBL_length h.endOk
  simp only [cmdL, List.length_append]; omega
set_option maxRecDepth 100000 in
set_option maxHeartbeats 8000000 in
theorem cmdBytes_call (c : Cmd21) (wv rv : Value) (w : World) (hx : RdyS w ⟨wv, rv, c.r⟩) (hi : CmdI c) :
    Calls Try.prog 12 #[cmdV c wv rv] w (BytesQ (cmdL c) w) := by
  obtain ⟨aw, nw, cw, hwv, rfl, hmw, -⟩ := (show RdOps w wv c.r.writes from hx.ws).at
  obtain ⟨ar, nr, cr, hrv, rfl, hmr, -⟩ := (show RdInts w rv c.r.reads from hx.rs).at
  subst hwv hrv
  have HRD := Lib.hid hx
  have HI := Lib.hid hi
  have hln := cmdL_length hi
  have hlk := intL_length hi.k
  have hlr := rdyBL_length hi.r.ok hi.lw hi.lr
  have hle := endBL_length hi.endOk
  have HX0 := Lib.hid (Bt.alloc_at w (.cells (cmdC c (.slice aw c.r.writes.length cw) (.slice ar c.r.reads.length cr)) 33))
  have HB0 := Lib.hid ((Below.refl w.heap.size w).alloc (Nat.le_refl _) (.cells (cmdC c (.slice aw c.r.writes.length cw) (.slice ar c.r.reads.length cr)) 33))
  clear hx hi
  unfold cmdV at *
  unfold cmdC at *
  go_enter Try.func12, Try.ntmps12
  go_upto_region 1 with fail
  generalize w.alloc (.cells #[vi c.k, vi c.r.txn, vi c.r.home, vi c.r.start, .slice aw c.r.writes.length cw, .slice ar c.r.reads.length cr, vi c.e.txn, .bool c.e.commit, vi c.e.at_] 33) = w1 at *
  have HW2 := Lib.hid (show WrS w.heap.size w1.heap.size [] (w1.alloc (.cells #[.slice none 0 0, vi 0] 93)) from ⟨HB0.out.size, .slice none 0 0, Bt.alloc_at w1 _, ⟨rfl, .inl ⟨rfl, rfl⟩⟩⟩)
  have HB2 := Lib.hid (HB0.out.alloc HB0.out.size (.cells #[.slice none 0 0, vi 0] 93))
  have HX2 := Lib.hid ((Below.heap_alloc w1 (.cells #[.slice none 0 0, vi 0] 93) w.heap.size (Array.getElem?_eq_some_iff.1 HX0.out).1).trans HX0.out)
  have hXP : w.heap.size < w1.heap.size := (Array.getElem?_eq_some_iff.1 HX0.out).1
  go_upto_region 2 with fail
  generalize w1.alloc (.cells #[.slice none 0 0, vi 0] 93) = w2 at *
  obtain ⟨X, hX⟩ : ∃ X, X = w.heap.size := ⟨_, rfl⟩
  obtain ⟨p, hp⟩ : ∃ p, p = w1.heap.size := ⟨_, rfl⟩
  rw [← hp] at HW2 hXP ⊢
  rw [← hX] at HX2 hXP ⊢
  have hnX : X ≠ p := by omega
  have HXE := Lib.hid hX
  have HPE := Lib.hid hp
  clear hX hp HX0 HB0
  have hb2 := HB2.out.size
  have c0 : w2.cell? ⟨X, 0, none⟩ = some (vi c.k) := by rw [Bt.cell_of HX2.out]; rfl
  go_upto_region 3 with (go_at_call 33; refine (int_call (L := []) c.k w2 HW2.out HI.out.k.1 HI.out.k.2 (by simp) hb2).mono ?_; rintro e3 w3 ⟨rfl, hw3, hf3⟩; have HW3 := Lib.hid (show WrS w.heap.size p (intL c.k) w3 from hw3); have HF3 := Lib.hid hf3; have hb3 := Nat.le_trans hb2 hf3.size; have HX3 := Lib.hid (hf3.cells HX2.out hnX (by decide)); clear hw3 hf3)
  have d1 : w3.cell? ⟨X, 1, none⟩ = some (vi c.r.txn) := by rw [Bt.cell_of HX3.out]; rfl
  have d2 : w3.cell? ⟨X, 2, none⟩ = some (vi c.r.home) := by rw [Bt.cell_of HX3.out]; rfl
  have d3 : w3.cell? ⟨X, 3, none⟩ = some (vi c.r.start) := by rw [Bt.cell_of HX3.out]; rfl
  have d4 : w3.cell? ⟨X, 4, none⟩ = some (.slice aw c.r.writes.length cw) := by rw [Bt.cell_of HX3.out]; rfl
  have d5 : w3.cell? ⟨X, 5, none⟩ = some (.slice ar c.r.reads.length cr) := by rw [Bt.cell_of HX3.out]; rfl
  have HB3 := Lib.hid (HB2.out.trans (HF3.out.toBelow hb2 HW2.out.1))
  clear c0
  go_upto_region 4 with (go_at_call 34; refine (rdyBits_call (base := w.heap.size) (p := p) (L := intL c.k) ⟨.slice aw c.r.writes.length cw, .slice ar c.r.reads.length cr, c.r⟩ w3 HW3.out hb3 (fun W hW => HRD.out.solid (Solid.below (HB3.out.trans hW))) HI.out.r.ok (by have := HI.out.lw; simp only; omega) (by have := HI.out.lr; simp only; omega) (by omega)).mono ?_; rintro e4 w4 ⟨rfl, hw4, hf4⟩; have HW4 := Lib.hid hw4; have HF4 := Lib.hid hf4; have hb4 := Nat.le_trans hb3 hf4.size; have HX4 := Lib.hid (hf4.cells HX3.out hnX (by decide)); clear hw4 hf4)
  have e6 : w4.cell? ⟨X, 6, none⟩ = some (vi c.e.txn) := by rw [Bt.cell_of HX4.out]; rfl
  have e7 : w4.cell? ⟨X, 7, none⟩ = some (.bool c.e.commit) := by rw [Bt.cell_of HX4.out]; rfl
  have e8 : w4.cell? ⟨X, 8, none⟩ = some (vi c.e.at_) := by rw [Bt.cell_of HX4.out]; rfl
  have hl4 : (intL c.k ++ rdyBL c.r).length ≤ 1000000 := by simp; omega
  clear d1 d2 d3 d4 d5
  go_upto_region 5 with (go_at_call 35; refine (shEnd_call (base := w.heap.size) (p := p) (L := intL c.k ++ rdyBL c.r) c.e w4 HW4.out HI.out.endOk hl4 hb4).mono ?_; rintro e5 w5 ⟨rfl, hw5, hf5⟩; have HW5 := Lib.hid (show WrS w.heap.size p (cmdL c) w5 from hw5); have HF5 := Lib.hid hf5; clear hw5 hf5)
  clear e6 e7 e8
  go_wp2_with (go_at_call 36; refine (bytes_call w5 HW5.out (by omega)).mono ?_; rintro e6 w6 ⟨v6, rfl, ho6, hb6⟩; have HO6 := Lib.hid ho6; have HB6 := Lib.hid hb6; clear ho6 hb6)
  go_ret
  have hB5 : Below w.heap.size w w5 := (HB3.out.trans (HF4.out.toBelow hb3 HW2.out.1)).trans (HF5.out.toBelow hb4 HW2.out.1)
  exact ⟨_, rfl, own_mono HO6.out hB5.size, hB5.trans (HB6.out.mono hB5.size)⟩
end Go.Proofs.Ytdkkpkgfiodlbaa

namespace Go.Proofs.Ytdkkpkgfiodlbaa
open Go.RowKit

def zeroC : Cmd21 := ⟨0, ⟨0, 0, 0, [], []⟩, ⟨0, false, 0⟩⟩
/-- What reading a command's bytes gives. -/
structure CmdRd (bs : List Nat) (w w' : World) (c : Cmd21) (wv rv : Value) (err : Int) : Prop where
  bel : Below w.heap.size w w'
  ws : OwOps w.heap.size w' wv c.r.writes
  rs : OwI w.heap.size w' rv c.r.reads
  yes : err = 0 → 1 ≤ c.k ∧ c.k ≤ 5 ∧ CmdBOk c ∧ ∃ z, z ≤ 7 ∧ bitsOf bs = cmdL c ++ List.replicate z false
  no : err ≠ 0 → c = zeroC
  all : ∀ c' z, CmdBOk c' → z ≤ 7 → bitsOf bs = cmdL c' ++ List.replicate z false → (1 ≤ c'.k ∧ c'.k ≤ 5 → err = 0 ∧ c = c') ∧ (¬ (1 ≤ c'.k ∧ c'.k ≤ 5) → err = 14)
def CmdRQ (bs : List Nat) (w : World) (e : Ending) (w' : World) : Prop := ∃ c wv rv err, e = .returned (.tuple #[cmdV c wv rv, vi err]) ∧ CmdRd bs w w' c wv rv err
theorem falses_end {l : List Bool} (h : l.length ≤ 7) (h0 : valL l = 0) : ∃ z, z ≤ 7 ∧ l = List.replicate z false := ⟨l.length, h, valL_zero l h0⟩

theorem gro_below {w w' : World} {B q : Nat} (h : w.grownBy w' (some q)) (hq : B ≤ q) (hB : B ≤ w.heap.size) : Below B w w' :=
  ⟨h.os, h.tape, h.output, h.size, fun j hj => h.block j (by omega) (fun e => by have := Option.some.inj e; omega)⟩
theorem own_gro {A B : World} {base e size n q : Nat} {v : Value} {xs : List Value} (h : A.ownsRow base e size v n xs) (hg : A.grownBy B (some q)) (hq : q < base) : B.ownsRow base e size v n xs := h.kept hg (own_ne h hq)
theorem setCells_below (b : Nat) (cs : List Value) (o : Nat) (w : World) {B : Nat} (hB : B ≤ b) (hw : B ≤ w.heap.size) : Below B w (w.setCells b o cs) := by
  have h := setCells_grown b cs o w
  exact ⟨h.os, h.tape, h.output, h.size, fun j hj => h.block j (by omega) (fun e => by have := Option.some.inj e; omega)⟩
/-- A whole block set anew. -/
theorem setCells_all {w : World} {b : Nat} {T : TypeId} {cur : Array Value} {cs : List Value} (h : w.heap[b]? = some (.cells cur T)) (hl : cs.length = cur.size) : (w.setCells b 0 cs).heap[b]? = some (.cells cs.toArray T) := by
  rw [setCells_block b T (0, 0) cs 0 w cur h (by omega)]
  congr 2
  simp [splice, hl]
theorem own_setAll {A : World} {b e size n Y : Nat} {v : Value} {xs : List Value} (h : A.ownsRow b e size v n xs) {cs : Array Value} {T : TypeId} (hY : A.heap[Y]? = some (.cells cs T)) (h1 : T ≠ e) (o : Nat) (us : List Value) : (A.setCells Y o us).ownsRow b e size v n xs :=
  Bt.own_frame h (fun g hg => setCells_other Y us o A g (fun e => by
    subst e
    rcases h.2 with ⟨hv, _⟩ | ⟨g', cap, cur, hv, _, hh, _⟩
    · rw [hv] at hg; cases hg
    · rw [hv] at hg; simp only [Value.ownBlock, Option.some.injEq] at hg; subst hg; rw [hY] at hh; cases hh; exact h1 rfl))
set_option maxRecDepth 100000 in
set_option maxHeartbeats 8000000 in
theorem shRead_call {bs : List Nat} {v : Value} (w : World) (h : Src w v 1 bs.length (bs.map u8)) (hb : ∀ b ∈ bs, b < 256) (hl : bs.length ≤ 1048576) :
    Calls Try.prog 23 #[v] w (CmdRQ bs w) := by
  have HSR := Lib.hid (fun o => h.below ((Below.refl w.heap.size w).alloc (Nat.le_refl _) o))
  have HB := Lib.hid hb
  have HZ0 := Lib.hid (Bt.alloc_at w (.cells #[vi 0, vi 0, vi 0, vi 0, .slice none 0 0, .slice none 0 0, vi 0, .bool false, vi 0] 33))
  have HB0 := Lib.hid ((Below.refl w.heap.size w).alloc (Nat.le_refl _) (.cells #[vi 0, vi 0, vi 0, vi 0, .slice none 0 0, .slice none 0 0, vi 0, .bool false, vi 0] 33))
  clear h hb
  go_enter Try.func23, Try.ntmps23
  go_upto_region 1 with fail
  have HSR1 := Lib.hid (HSR.out (.cells #[vi 0, vi 0, vi 0, vi 0, .slice none 0 0, .slice none 0 0, vi 0, .bool false, vi 0] 33))
  clear HSR
  generalize w.alloc (.cells #[vi 0, vi 0, vi 0, vi 0, .slice none 0 0, .slice none 0 0, vi 0, .bool false, vi 0] 33) = w1 at *
  have hX1 := (Array.getElem?_eq_some_iff.1 HZ0.out).1
  obtain ⟨X, hX⟩ : ∃ X, X = w.heap.size := ⟨_, rfl⟩
  rw [← hX] at HZ0 hX1 ⊢
  have HXE := Lib.hid hX
  clear hX
  go_upto_region 2 with (go_at_call 49; refine (readB_call (bs := bs) w1 HSR1.out HB.out hl).mono ?_; rintro e2 w2 ⟨q, rfl, hrd2, hbe2⟩; have HRD2 := Lib.hid hrd2; have HBE2 := Lib.hid hbe2; clear hrd2 hbe2)
  have hq1 := HRD2.out.1
  have hqX : X ≠ q := by omega
  have HZ2 := Lib.hid ((HBE2.out.block X hX1).trans HZ0.out)
  have HB2 := Lib.hid (HB0.out.trans (HBE2.out.mono HB0.out.size))
  have hX2 := Nat.lt_of_lt_of_le hX1 HBE2.out.size
  have hneq : some X ≠ some q := fun e => hqX (Option.some.inj e)
  clear HZ0 HB0 HBE2 HSR1
  go_wp2_with fail
  refine (intR_call w2 HRD2.out).mono ?_
  rintro e3 w3 ⟨ck, s3, rfl, hck, hr3, hs3, hg3⟩
  have HR3 := Lib.hid hr3
  have HS3 := Lib.hid hs3
  have HG3 := Lib.hid hg3
  clear hr3 hs3 hg3
  dsimp only
  go_wp2_with fail
  refine (rdyR_call w3 HS3.out).mono ?_
  rintro e4 w4 ⟨⟨yw, yr, ry⟩, s4, rfl, how, hor, hyok, hl1, hl2, hr4, hs4, hg4⟩
  obtain ⟨aY, cY, rfl⟩ := Bt.own_shape (show w4.ownsRow w3.heap.size 104 3 yw ry.writes.length (ry.writes.flatMap opV) from how)
  obtain ⟨aR, cR, rfl⟩ := Bt.own_shape (show w4.ownsRow w3.heap.size 3 1 yr ry.reads.length (ry.reads.flatMap viC) from hor)
  have HOW := Lib.hid how
  have HOR := Lib.hid hor
  have HOK := Lib.hid hyok
  have HR4 := Lib.hid hr4
  have HS4 := Lib.hid hs4
  have HG4 := Lib.hid hg4
  clear how hor hyok hl1 hl2 hr4 hs4 hg4
  unfold rdyV rdyC
  dsimp only
  go_wp2_with fail
  refine (readEnd_call w4 HS4.out).mono ?_
  rintro e5 w5 ⟨⟨etx, eco, eat⟩, s5, rfl, heok, hr5, hs5, hg5⟩
  have HR5 := Lib.hid hr5
  have HS5 := Lib.hid hs5
  have HG5 := Lib.hid hg5
  clear hr5 hs5 hg5
  unfold endV
  dsimp only
  go_upto_region 3 with fail
  have hG35 := gro_trans (gro_trans HG3.out HG4.out) HG5.out
  have hX5 := Nat.lt_of_lt_of_le hX2 hG35.size
  have HZ5 := Lib.hid ((hG35.block X hX2 hneq).trans HZ2.out)
  have HB5 := Lib.hid (HB2.out.trans (gro_below hG35 (by have := HXE.out; omega) HB2.out.size))
  have hq3 : q < w3.heap.size := Nat.lt_of_lt_of_le HRD2.out.lt HG3.out.size
  have HRC := Lib.hid (cmd_read HR3.out HR4.out HR5.out)
  have HOW5 := Lib.hid (show OwOps w3.heap.size w5 (.slice aY ry.writes.length cY) ry.writes from own_gro HOW.out HG5.out hq3)
  have HOR5 := Lib.hid (show OwI w3.heap.size w5 (.slice aR ry.reads.length cR) ry.reads from own_gro HOR.out HG5.out hq3)
  have hw3 : w.heap.size ≤ w3.heap.size := Nat.le_trans HB2.out.size HG3.out.size
  have hw5 : w.heap.size ≤ w5.heap.size := HB5.out.size
  have HS6 := Lib.hid (HS5.out.later ((Below.refl w5.heap.size w5).alloc (Nat.le_refl _) (.cells #[vi ck, vi ry.txn, vi ry.home, vi ry.start, .slice aY ry.writes.length cY, .slice aR ry.reads.length cR, vi etx, .bool eco, vi eat] 33)))
  have HZ6 := Lib.hid ((Below.heap_alloc w5 (.cells #[vi ck, vi ry.txn, vi ry.home, vi ry.start, .slice aY ry.writes.length cY, .slice aR ry.reads.length cR, vi etx, .bool eco, vi eat] 33) X hX5).trans HZ5.out)
  have HY6 := Lib.hid (Bt.alloc_at w5 (.cells #[vi ck, vi ry.txn, vi ry.home, vi ry.start, .slice aY ry.writes.length cY, .slice aR ry.reads.length cR, vi etx, .bool eco, vi eat] 33))
  have HB6 := Lib.hid (HB5.out.alloc hw5 (.cells #[vi ck, vi ry.txn, vi ry.home, vi ry.start, .slice aY ry.writes.length cY, .slice aR ry.reads.length cR, vi etx, .bool eco, vi eat] 33))
  have HOW6 := Lib.hid (own_below HOW5.out ((Below.refl w5.heap.size w5).alloc (Nat.le_refl _) (.cells #[vi ck, vi ry.txn, vi ry.home, vi ry.start, .slice aY ry.writes.length cY, .slice aR ry.reads.length cR, vi etx, .bool eco, vi eat] 33)))
  have HOR6 := Lib.hid (own_below HOR5.out ((Below.refl w5.heap.size w5).alloc (Nat.le_refl _) (.cells #[vi ck, vi ry.txn, vi ry.home, vi ry.start, .slice aY ry.writes.length cY, .slice aR ry.reads.length cR, vi etx, .bool eco, vi eat] 33)))
  clear HR3 HR4 HR5 HS3 HS4 HS5 HG3 HG4 HG5 HOW HOR HZ2 HZ5 HB5 HB2 HOW5 HOR5 hG35 HRD2
  generalize w5.alloc (.cells #[vi ck, vi ry.txn, vi ry.home, vi ry.start, .slice aY ry.writes.length cY, .slice aR ry.reads.length cR, vi etx, .bool eco, vi eat] 33) = w6 at *
  obtain ⟨Y, hY⟩ : ∃ Y, Y = w5.heap.size := ⟨_, rfl⟩
  rw [← hY] at HY6 ⊢
  have HYE := Lib.hid hY
  clear hY
  go_upto_region 4 with (go_at_call 53; refine (end_call w6 HS6.out).mono ?_; rintro e7 w7 ⟨x, rfl, hx1, hx2, hx3, n7, rfl⟩)
  have HX1 := Lib.hid hx1
  clear hx1 hx2 hx3
  have HZ7 := Lib.hid (show (w6.drewN n7).heap[X]? = _ from HZ6.out)
  have HY7 := Lib.hid (show (w6.drewN n7).heap[Y]? = _ from HY6.out)
  have HB7 := Lib.hid (show Below w.heap.size w (w6.drewN n7) from ⟨HB6.out.os, HB6.out.tape, HB6.out.output, HB6.out.size, HB6.out.block⟩)
  have HOW7 := Lib.hid (show OwOps w3.heap.size (w6.drewN n7) _ _ from HOW6.out)
  have HOR7 := Lib.hid (show OwI w3.heap.size (w6.drewN n7) _ _ from HOR6.out)
  have HALL := Lib.hid (show ∀ c' z, CmdBOk c' → z ≤ 7 → bitsOf bs = cmdL c' ++ List.replicate z false → (⟨ck, ry, ⟨etx, eco, eat⟩⟩ : Cmd21) = c' ∧ x = 0 from fun c' z h1 h2 h3 => by
    obtain ⟨a, b, d⟩ := HRC.out.1 rfl c' _ h1 h3
    exact ⟨a, HX1.out.2 ⟨d, by rw [b]; simpa using h2, by rw [b]; exact valL_falses z⟩⟩)
  clear HZ6 HY6 HB6 HOW6 HOR6 HS6
  generalize w6.drewN n7 = w7 at *
  have hXw : w.heap.size ≤ X := by rw [HXE.out]; exact Nat.le_refl _
  have hb7 := HB7.out.size
  have xf : ∀ o, w7.frozen? ⟨X, o, none⟩ = false := fun o => Bt.free_of HZ7.out o
  have x0 : w7.cell? ⟨X, 0, none⟩ = some (vi 0) := by rw [Bt.cell_of HZ7.out]; rfl
  have x1 : w7.cell? ⟨X, 1, none⟩ = some (vi 0) := by rw [Bt.cell_of HZ7.out]; rfl
  have x2 : w7.cell? ⟨X, 2, none⟩ = some (vi 0) := by rw [Bt.cell_of HZ7.out]; rfl
  have x3 : w7.cell? ⟨X, 3, none⟩ = some (vi 0) := by rw [Bt.cell_of HZ7.out]; rfl
  have x4 : w7.cell? ⟨X, 4, none⟩ = some (.slice none 0 0) := by rw [Bt.cell_of HZ7.out]; rfl
  have x5 : w7.cell? ⟨X, 5, none⟩ = some (.slice none 0 0) := by rw [Bt.cell_of HZ7.out]; rfl
  have x6 : w7.cell? ⟨X, 6, none⟩ = some (vi 0) := by rw [Bt.cell_of HZ7.out]; rfl
  have x7 : w7.cell? ⟨X, 7, none⟩ = some (.bool false) := by rw [Bt.cell_of HZ7.out]; rfl
  have x8 : w7.cell? ⟨X, 8, none⟩ = some (vi 0) := by rw [Bt.cell_of HZ7.out]; rfl
  have HZERO := Lib.hid (show ∀ err : Int, err ≠ 0 → (∀ c' z, CmdBOk c' → z ≤ 7 → bitsOf bs = cmdL c' ++ List.replicate z false → ¬ (1 ≤ c'.k ∧ c'.k ≤ 5) ∧ err = 14) → CmdRd bs w (w7.setCells X 0 [vi 0, vi 0, vi 0, vi 0, .slice none 0 0, .slice none 0 0, vi 0, .bool false, vi 0]) zeroC (.slice none 0 0) (.slice none 0 0) err from fun err h0 hA =>
    ⟨HB7.out.trans (setCells_below X _ 0 w7 hXw hb7), World.ownsRow_nil _ _ _ _, World.ownsRow_nil _ _ _ _, fun h => absurd h h0, fun _ => rfl, fun c' z h1 h2 h3 => ⟨fun hk => absurd hk (hA c' z h1 h2 h3).1, fun _ => (hA c' z h1 h2 h3).2⟩⟩)
  have HZS := Lib.hid (setCells_all (cs := [vi 0, vi 0, vi 0, vi 0, .slice none 0 0, .slice none 0 0, vi 0, .bool false, vi 0]) HZ7.out rfl)
  by_cases hx : x = 0
  · have hb1 : (x != 0) = false := by simp [hx]
    have HX0 := Lib.hid hx
    clear hx
    have y0 : w7.cell? ⟨Y, 0, none⟩ = some (vi ck) := by rw [Bt.cell_of HY7.out]; rfl
    by_cases hk : 1 ≤ ck ∧ ck ≤ 5
    · have k1 : decide (ck < 1) = false := decide_eq_false (by omega)
      have k2 : decide ((5 : Int) < ck) = false := decide_eq_false (by omega)
      have y1 : w7.cell? ⟨Y, 1, none⟩ = some (vi ry.txn) := by rw [Bt.cell_of HY7.out]; rfl
      have y2 : w7.cell? ⟨Y, 2, none⟩ = some (vi ry.home) := by rw [Bt.cell_of HY7.out]; rfl
      have y3 : w7.cell? ⟨Y, 3, none⟩ = some (vi ry.start) := by rw [Bt.cell_of HY7.out]; rfl
      have y4 : w7.cell? ⟨Y, 4, none⟩ = some (.slice aY ry.writes.length cY) := by rw [Bt.cell_of HY7.out]; rfl
      have y5 : w7.cell? ⟨Y, 5, none⟩ = some (.slice aR ry.reads.length cR) := by rw [Bt.cell_of HY7.out]; rfl
      have y6 : w7.cell? ⟨Y, 6, none⟩ = some (vi etx) := by rw [Bt.cell_of HY7.out]; rfl
      have y7 : w7.cell? ⟨Y, 7, none⟩ = some (.bool eco) := by rw [Bt.cell_of HY7.out]; rfl
      have y8 : w7.cell? ⟨Y, 8, none⟩ = some (vi eat) := by rw [Bt.cell_of HY7.out]; rfl
      go_wp2_with fail
      change bodyPost _ _ _ _ _ (w7.setCells X 0 [vi ck, vi ry.txn, vi ry.home, vi ry.start, .slice aY ry.writes.length cY, .slice aR ry.reads.length cR, vi etx, .bool eco, vi eat])
      have HZR := Lib.hid (show CmdRd bs w (w7.setCells X 0 [vi ck, vi ry.txn, vi ry.home, vi ry.start, .slice aY ry.writes.length cY, .slice aR ry.reads.length cR, vi etx, .bool eco, vi eat]) ⟨ck, ry, ⟨etx, eco, eat⟩⟩ (.slice aY ry.writes.length cY) (.slice aR ry.reads.length cR) 0 from ⟨HB7.out.trans (setCells_below X _ 0 w7 hXw hb7), own_mono (own_setAll HOW7.out HZ7.out (by decide) 0 _) hw3, own_mono (own_setAll HOR7.out HZ7.out (by decide) 0 _) hw3, fun _ => ⟨hk.1, hk.2, (HRC.out.2 (HX1.out.1 HX0.out).1).2.1, (by obtain ⟨z, hz, he⟩ := falses_end (HX1.out.1 HX0.out).2.1 (HX1.out.1 HX0.out).2.2; exact ⟨z, hz, by rw [← he]; exact (HRC.out.2 (HX1.out.1 HX0.out).1).2.2⟩)⟩, fun h => absurd rfl h, fun c' z h1 h2 h3 => ⟨fun _ => ⟨rfl, (HALL.out c' z h1 h2 h3).1⟩, fun hn => absurd (by rw [← (HALL.out c' z h1 h2 h3).1]; exact hk) hn⟩⟩)
      have HZC := Lib.hid (setCells_all (cs := [vi ck, vi ry.txn, vi ry.home, vi ry.start, .slice aY ry.writes.length cY, .slice aR ry.reads.length cR, vi etx, .bool eco, vi eat]) HZ7.out rfl)
      clear x0 x1 x2 x3 x4 x5 x6 x7 x8 xf HZS HZERO
      generalize w7.setCells X 0 [vi ck, vi ry.txn, vi ry.home, vi ry.start, .slice aY ry.writes.length cY, .slice aR ry.reads.length cR, vi etx, .bool eco, vi eat] = wz at *
      have r0 : wz.cell? ⟨X, 0, none⟩ = some (vi ck) := by rw [Bt.cell_of HZC.out]; rfl
      have r1 : wz.cell? ⟨X, 1, none⟩ = some (vi ry.txn) := by rw [Bt.cell_of HZC.out]; rfl
      have r2 : wz.cell? ⟨X, 2, none⟩ = some (vi ry.home) := by rw [Bt.cell_of HZC.out]; rfl
      have r3 : wz.cell? ⟨X, 3, none⟩ = some (vi ry.start) := by rw [Bt.cell_of HZC.out]; rfl
      have r4 : wz.cell? ⟨X, 4, none⟩ = some (.slice aY ry.writes.length cY) := by rw [Bt.cell_of HZC.out]; rfl
      have r5 : wz.cell? ⟨X, 5, none⟩ = some (.slice aR ry.reads.length cR) := by rw [Bt.cell_of HZC.out]; rfl
      have r6 : wz.cell? ⟨X, 6, none⟩ = some (vi etx) := by rw [Bt.cell_of HZC.out]; rfl
      have r7 : wz.cell? ⟨X, 7, none⟩ = some (.bool eco) := by rw [Bt.cell_of HZC.out]; rfl
      have r8 : wz.cell? ⟨X, 8, none⟩ = some (vi eat) := by rw [Bt.cell_of HZC.out]; rfl
      refine bodyPost_ret (v := .tuple #[cmdV ⟨ck, ry, ⟨etx, eco, eat⟩⟩ (.slice aY ry.writes.length cY) (.slice aR ry.reads.length cR), vi 0]) (by simp [results, Try.results23, go_sem, cmdV, cmdC, zeroC, r0, r1, r2, r3, r4, r5, r6, r7, r8]) rfl ⟨_, _, _, _, rfl, HZR.out⟩
    · have HK := Lib.hid hk
      by_cases hk1 : ck < 1
      · have k1 : decide (ck < 1) = true := decide_eq_true hk1
        go_wp2_with fail
        change bodyPost _ _ _ _ _ (w7.setCells X 0 [vi 0, vi 0, vi 0, vi 0, .slice none 0 0, .slice none 0 0, vi 0, .bool false, vi 0])
        have HZR := Lib.hid (HZERO.out 14 (by decide) (fun c' z h1 h2 h3 => ⟨by rw [← (HALL.out c' z h1 h2 h3).1]; exact HK.out, rfl⟩))
        have HZC := Lib.hid (setCells_all (cs := [vi 0, vi 0, vi 0, vi 0, .slice none 0 0, .slice none 0 0, vi 0, .bool false, vi 0]) HZ7.out rfl)
        clear x0 x1 x2 x3 x4 x5 x6 x7 x8 xf HZS HZERO
        generalize w7.setCells X 0 [vi 0, vi 0, vi 0, vi 0, .slice none 0 0, .slice none 0 0, vi 0, .bool false, vi 0] = wz at *
        have r0 : wz.cell? ⟨X, 0, none⟩ = some (vi 0) := by rw [Bt.cell_of HZC.out]; rfl
        have r1 : wz.cell? ⟨X, 1, none⟩ = some (vi 0) := by rw [Bt.cell_of HZC.out]; rfl
        have r2 : wz.cell? ⟨X, 2, none⟩ = some (vi 0) := by rw [Bt.cell_of HZC.out]; rfl
        have r3 : wz.cell? ⟨X, 3, none⟩ = some (vi 0) := by rw [Bt.cell_of HZC.out]; rfl
        have r4 : wz.cell? ⟨X, 4, none⟩ = some (.slice none 0 0) := by rw [Bt.cell_of HZC.out]; rfl
        have r5 : wz.cell? ⟨X, 5, none⟩ = some (.slice none 0 0) := by rw [Bt.cell_of HZC.out]; rfl
        have r6 : wz.cell? ⟨X, 6, none⟩ = some (vi 0) := by rw [Bt.cell_of HZC.out]; rfl
        have r7 : wz.cell? ⟨X, 7, none⟩ = some (.bool false) := by rw [Bt.cell_of HZC.out]; rfl
        have r8 : wz.cell? ⟨X, 8, none⟩ = some (vi 0) := by rw [Bt.cell_of HZC.out]; rfl
        refine bodyPost_ret (v := .tuple #[cmdV zeroC (.slice none 0 0) (.slice none 0 0), vi 14]) (by simp [results, Try.results23, go_sem, cmdV, cmdC, zeroC, r0, r1, r2, r3, r4, r5, r6, r7, r8]) rfl ⟨_, _, _, _, rfl, HZR.out⟩
      · have k1 : decide (ck < 1) = false := decide_eq_false hk1
        have k2 : decide ((5 : Int) < ck) = true := decide_eq_true (by omega)
        go_wp2_with fail
        change bodyPost _ _ _ _ _ (w7.setCells X 0 [vi 0, vi 0, vi 0, vi 0, .slice none 0 0, .slice none 0 0, vi 0, .bool false, vi 0])
        have HZR := Lib.hid (HZERO.out 14 (by decide) (fun c' z h1 h2 h3 => ⟨by rw [← (HALL.out c' z h1 h2 h3).1]; exact HK.out, rfl⟩))
        have HZC := Lib.hid (setCells_all (cs := [vi 0, vi 0, vi 0, vi 0, .slice none 0 0, .slice none 0 0, vi 0, .bool false, vi 0]) HZ7.out rfl)
        clear x0 x1 x2 x3 x4 x5 x6 x7 x8 xf HZS HZERO
        generalize w7.setCells X 0 [vi 0, vi 0, vi 0, vi 0, .slice none 0 0, .slice none 0 0, vi 0, .bool false, vi 0] = wz at *
        have r0 : wz.cell? ⟨X, 0, none⟩ = some (vi 0) := by rw [Bt.cell_of HZC.out]; rfl
        have r1 : wz.cell? ⟨X, 1, none⟩ = some (vi 0) := by rw [Bt.cell_of HZC.out]; rfl
        have r2 : wz.cell? ⟨X, 2, none⟩ = some (vi 0) := by rw [Bt.cell_of HZC.out]; rfl
        have r3 : wz.cell? ⟨X, 3, none⟩ = some (vi 0) := by rw [Bt.cell_of HZC.out]; rfl
        have r4 : wz.cell? ⟨X, 4, none⟩ = some (.slice none 0 0) := by rw [Bt.cell_of HZC.out]; rfl
        have r5 : wz.cell? ⟨X, 5, none⟩ = some (.slice none 0 0) := by rw [Bt.cell_of HZC.out]; rfl
        have r6 : wz.cell? ⟨X, 6, none⟩ = some (vi 0) := by rw [Bt.cell_of HZC.out]; rfl
        have r7 : wz.cell? ⟨X, 7, none⟩ = some (.bool false) := by rw [Bt.cell_of HZC.out]; rfl
        have r8 : wz.cell? ⟨X, 8, none⟩ = some (vi 0) := by rw [Bt.cell_of HZC.out]; rfl
        refine bodyPost_ret (v := .tuple #[cmdV zeroC (.slice none 0 0) (.slice none 0 0), vi 14]) (by simp [results, Try.results23, go_sem, cmdV, cmdC, zeroC, r0, r1, r2, r3, r4, r5, r6, r7, r8]) rfl ⟨_, _, _, _, rfl, HZR.out⟩
  · have hb1 : (x != 0) = true := by simp [hx]
    have HX0 := Lib.hid hx
    clear hx
    go_wp2_with fail
    change bodyPost _ _ _ _ _ (w7.setCells X 0 [vi 0, vi 0, vi 0, vi 0, .slice none 0 0, .slice none 0 0, vi 0, .bool false, vi 0])
    have HZR := Lib.hid (HZERO.out x HX0.out (fun c' z h1 h2 h3 => absurd (HALL.out c' z h1 h2 h3).2 HX0.out))
    have HZC := Lib.hid (setCells_all (cs := [vi 0, vi 0, vi 0, vi 0, .slice none 0 0, .slice none 0 0, vi 0, .bool false, vi 0]) HZ7.out rfl)
    clear x0 x1 x2 x3 x4 x5 x6 x7 x8 xf HZS HZERO
    generalize w7.setCells X 0 [vi 0, vi 0, vi 0, vi 0, .slice none 0 0, .slice none 0 0, vi 0, .bool false, vi 0] = wz at *
    have r0 : wz.cell? ⟨X, 0, none⟩ = some (vi 0) := by rw [Bt.cell_of HZC.out]; rfl
    have r1 : wz.cell? ⟨X, 1, none⟩ = some (vi 0) := by rw [Bt.cell_of HZC.out]; rfl
    have r2 : wz.cell? ⟨X, 2, none⟩ = some (vi 0) := by rw [Bt.cell_of HZC.out]; rfl
    have r3 : wz.cell? ⟨X, 3, none⟩ = some (vi 0) := by rw [Bt.cell_of HZC.out]; rfl
    have r4 : wz.cell? ⟨X, 4, none⟩ = some (.slice none 0 0) := by rw [Bt.cell_of HZC.out]; rfl
    have r5 : wz.cell? ⟨X, 5, none⟩ = some (.slice none 0 0) := by rw [Bt.cell_of HZC.out]; rfl
    have r6 : wz.cell? ⟨X, 6, none⟩ = some (vi 0) := by rw [Bt.cell_of HZC.out]; rfl
    have r7 : wz.cell? ⟨X, 7, none⟩ = some (.bool false) := by rw [Bt.cell_of HZC.out]; rfl
    have r8 : wz.cell? ⟨X, 8, none⟩ = some (vi 0) := by rw [Bt.cell_of HZC.out]; rfl
    refine bodyPost_ret (v := .tuple #[cmdV zeroC (.slice none 0 0) (.slice none 0 0), vi x]) (by simp [results, Try.results23, go_sem, cmdV, cmdC, zeroC, r0, r1, r2, r3, r4, r5, r6, r7, r8]) rfl ⟨_, _, _, _, rfl, HZR.out⟩
end Go.Proofs.Ytdkkpkgfiodlbaa

namespace Go.Proofs.Ytdkkpkgfiodlbaa
open Go.RowKit Go.Maps

theorem Turns.toBelow' {bs : List Nat} {base : Nat} {a b : World} (h : Turns bs a b) (hs : base ≤ a.heap.size) (hb : ∀ k ∈ bs, base ≤ k) : Below base a b :=
  ⟨h.os, h.tape, h.output, h.size, fun k hk => h.block k (by omega) (fun hm => by have := hb k hm; omega)⟩
structure ShS (base p ps mk mr me md : Nat) (serial : Bool) (bugs stamps now : Int) (K : KeysL) (R : RdyL) (E D : EndL) (W : World) : Prop where
  blk : W.heap[p]? = some (.cells #[.pointer (some ⟨ps, 0, none⟩), vi bugs, vi stamps, vi now, .map (some md)] 84)
  st : MvS base ps mk mr me serial bugs K R E W
  dm : MapE W md D
  bp : base ≤ p
  bd : base ≤ md
  dk : md ≠ mk
  dr : md ≠ mr
  de : md ≠ me
theorem ShS.later {base p ps mk mr me md : Nat} {serial : Bool} {bugs stamps now : Int} {K : KeysL} {R : RdyL} {E D : EndL} {A B : World} (h : ShS base p ps mk mr me md serial bugs stamps now K R E D A) (hb : Below A.heap.size A B) : ShS base p ps mk mr me md serial bugs stamps now K R E D B :=
  ⟨(hb.block p (Array.getElem?_eq_some_iff.1 h.blk).1).trans h.blk, h.st.later hb, h.dm.below hb h.dm.lt, h.bp, h.bd, h.dk, h.dr, h.de⟩
/-- An answer. -/
structure Ans where
  err : Int
  vals : List Int
  at_ : Int
  by_ : Int
  home : Int
  e : EndM
def ansC (a : Ans) (vv : Value) : Array Value := #[vi a.err, vv, vi a.at_, vi a.by_, vi a.home, vi a.e.txn, .bool a.e.commit, vi a.e.at_]
def ansV (a : Ans) (vv : Value) : Value := .agg (ansC a vv)
abbrev zeroE' : EndM := ⟨0, false, 0⟩
def AppQ (base p ps mk mr me md : Nat) (serial : Bool) (bugs stamps : Int) (P : Ans → Int → KeysL → RdyL → EndL → EndL → Prop) (w : World) (e : Ending) (w' : World) : Prop :=
  ∃ a vv now' K' R' E' D', e = .returned (ansV a vv) ∧ OwI w.heap.size w' vv a.vals ∧ ShS base p ps mk mr me md serial bugs stamps now' K' R' E' D' w' ∧ Turns [p, md, mk, mr, me] w w' ∧ P a now' K' R' E' D'
/-- The bytes of a command are read as it was. -/
theorem cmd_back {c : Cmd21} (hi : CmdI c) {w w' : World} {c' : Cmd21} {wv rv : Value} {err : Int} (h : CmdRd (btBytes (cmdL c)) w w' c' wv rv err) : (1 ≤ c.k ∧ c.k ≤ 5 → err = 0 ∧ c' = killC c) ∧ (¬ (1 ≤ c.k ∧ c.k ≤ 5) → err = 14) := by
  obtain ⟨z, hz, hb⟩ := bitsOf_btBytes (cmdL c)
  exact h.all (killC c) z hi.bok hz (by rw [killC_bits]; exact hb)
abbrev ansZ : Array Value := #[vi 0, .slice none 0 0, vi 0, vi 0, vi 0, vi 0, .bool false, vi 0]
theorem setCell_cong {A B : World} {j : Nat} (h : A.heap[j]? = B.heap[j]?) (a : Addr) (v : Value) : (A.setCell a v).heap[j]? = (B.setCell a v).heap[j]? := by
  simp only [World.setCell, Array.getElem?_modify, h]
theorem ShS.np {base p ps mk mr me md : Nat} {serial : Bool} {bugs stamps now : Int} {K : KeysL} {R : RdyL} {E D : EndL} {A : World} (h : ShS base p ps mk mr me md serial bugs stamps now K R E D A) : p ≠ md := by
  intro e
  obtain ⟨es, c, ho⟩ := h.dm.obj
  have := h.blk
  rw [e, ho] at this; cases this
theorem ShS.put {base p ps mk mr me md : Nat} {serial : Bool} {bugs stamps now : Int} {K : KeysL} {R : RdyL} {E D : EndL} {B : World} {y : EndM} (h : ShS base p ps mk mr me md serial bugs stamps now K R E D B) (ht : i64 y.txn) :
    ∃ w', (Instr.mapUpdate 44 (.map (some md)) (vi y.txn) (.agg #[vi y.txn, .bool y.commit, vi y.at_])).run Try.prog B = .ok () w' ∧ Hid (ShS base p ps mk mr me md serial bugs stamps now K R E (putM D y.txn y) w' ∧ B.grownBy w' (some md) ∧ Solid B w') := by
  obtain ⟨kl, hkl⟩ := intKey ht
  obtain ⟨w', hrun, hm, hg⟩ := h.dm.update (eV := endV) intKeyed vi_inj (t := 44) (e := 31) Try.underlying44 y.txn hkl y
  obtain ⟨es, c, ho⟩ := h.dm.obj
  have hs : Solid B w' := (Solid.refl B).map ho hg
  exact ⟨w', hrun, Lib.hid ⟨⟨hs _ _ _ _ h.blk, ⟨hs _ _ _ _ h.st.blk, h.st.keys.kept hg (fun e => h.dk (by cases e; rfl)), h.st.ready.kept hg (fun e => h.dr (by cases e; rfl)), h.st.ends.kept hg (fun e => h.de (by cases e; rfl)), fun x hx => (h.st.krow x hx).solid hs, fun x hx => (h.st.rrow x hx).solid hs, h.st.bp, h.st.bk, h.st.br, h.st.be, h.st.kr, h.st.ke, h.st.re⟩, hm, h.bp, h.bd, h.dk, h.dr, h.de⟩, hg, hs⟩⟩
/-- Another time. -/
theorem ShS.tick {base p ps mk mr me md : Nat} {serial : Bool} {bugs stamps now : Int} {K : KeysL} {R : RdyL} {E D : EndL} {A : World} (h : ShS base p ps mk mr me md serial bugs stamps now K R E D A) (x : Int) (hs : MvS base ps mk mr me serial bugs K R E (A.setCell ⟨p, 3, none⟩ (vi x))) : ShS base p ps mk mr me md serial bugs stamps x K R E D (A.setCell ⟨p, 3, none⟩ (vi x)) :=
  ⟨Bt.cells_set _ h.blk, hs, h.dm.kept (gro_setP (gro_refl A (some p)) _) (fun e => h.np (by cases e; rfl)), h.bp, h.bd, h.dk, h.dr, h.de⟩
/-- Behind a change of one block, and new ones. -/
theorem tick_below {w w3 W : World} {p A nq : Nat} {x : Int} {us : List Value} (hb : Below w.heap.size w w3) (hA : w.heap.size ≤ A) (hW : W = ((w3.drewN nq).setCell ⟨p, 3, none⟩ (vi x)).setCells A 0 us) : Below (w.setCell ⟨p, 3, none⟩ (vi x)).heap.size (w.setCell ⟨p, 3, none⟩ (vi x)) W := by
  subst hW
  have h := setCells_grown A us 0 ((w3.drewN nq).setCell ⟨p, 3, none⟩ (vi x))
  have hs : (w.setCell ⟨p, 3, none⟩ (vi x)).heap.size = w.heap.size := by simp [World.setCell]
  refine ⟨h.os.trans hb.os, h.tape.trans hb.tape, h.output.trans hb.output, by rw [hs]; exact Nat.le_trans hb.size (Nat.le_trans (by simp [World.setCell]) h.size), fun j hj => ?_⟩
  rw [hs] at hj
  rw [setCells_other A us 0 _ j (by omega)]
  exact setCell_cong (hb.block j hj) _ _
theorem tick_turns {w w3 W : World} {p A nq : Nat} {x : Int} {us : List Value} {bs : List Nat} (hb : Below w.heap.size w w3) (hA : w.heap.size ≤ A) (hp : p ∈ bs) (hW : W = ((w3.drewN nq).setCell ⟨p, 3, none⟩ (vi x)).setCells A 0 us) : Turns bs w W := by
  subst hW
  have h := setCells_grown A us 0 ((w3.drewN nq).setCell ⟨p, 3, none⟩ (vi x))
  refine ⟨h.os.trans hb.os, h.tape.trans hb.tape, h.output.trans hb.output, Nat.le_trans hb.size (Nat.le_trans (by simp [World.setCell]) h.size), fun j hj hn => ?_⟩
  rw [setCells_other A us 0 _ j (by omega)]
  exact (Below.heap_setCell _ _ _ j (fun e => hn (by rw [e]; exact hp))).trans (hb.block j hj)
theorem ans_below {w w3 : World} {A : Nat} {us : List Value} (hb : Below w.heap.size w w3) (hA : w.heap.size ≤ A) (nq : Nat) : Below w.heap.size w ((w3.drewN nq).setCells A 0 us) :=
  (show Below w.heap.size w (w3.drewN nq) from ⟨hb.os, hb.tape, hb.output, hb.size, hb.block⟩).trans (setCells_below A us 0 _ hA hb.size)
theorem ans_below0 {w w3 : World} {A : Nat} {us : List Value} (hb : Below w.heap.size w w3) (hA : w.heap.size ≤ A) : Below w.heap.size w (w3.setCells A 0 us) :=
  hb.trans (setCells_below A us 0 _ hA hb.size)
theorem endsNone {D : EndL} {k : Int} (h1 : (getM D k).isSome = false) : getM D k = none := by
  cases h : getM D k with
  | none => rfl
  | some x => rw [h] at h1; cases h1
theorem endsSome {D : EndL} {k : Int} {ex : EndM} (h1 : (getM D k).isSome = true) (h2 : (getM D k).getD ⟨0, false, 0⟩ = ex) : getM D k = some ex := by
  cases h : getM D k with
  | none => rw [h] at h1; cases h1
  | some x => rw [h] at h2; rw [← h2]; rfl
theorem ShS.dec {base p ps mk mr me md : Nat} {serial : Bool} {bugs stamps now : Int} {K : KeysL} {R : RdyL} {E D D' : EndL} {w W : World} (h : ShS base p ps mk mr me md serial bugs stamps now K R E D w) (hT : Turns [md] w W) (hd : MapE W md D') : ShS base p ps mk mr me md serial bugs stamps now K R E D' W := by
  have hs : Solid w W := hT.solid (fun k hk => by simp at hk; subst hk; exact h.dm.obj)
  exact ⟨hs _ _ _ _ h.blk, ⟨hs _ _ _ _ h.st.blk, h.st.keys.frame (hT.block mk h.st.keys.lt (by simp; exact fun e => h.dk e.symm)), h.st.ready.frame (hT.block mr h.st.ready.lt (by simp; exact fun e => h.dr e.symm)), h.st.ends.frame (hT.block me h.st.ends.lt (by simp; exact fun e => h.de e.symm)), fun x hx => (h.st.krow x hx).solid hs, fun x hx => (h.st.rrow x hx).solid hs, h.st.bp, h.st.bk, h.st.br, h.st.be, h.st.kr, h.st.ke, h.st.re⟩, hd, h.bp, h.bd, h.dk, h.dr, h.de⟩
theorem dec_turns {w w4 w5 : World} {A md : Nat} {us : List Value} (hb : Below w.heap.size w w4) (hg : w4.drew.grownBy w5 (some md)) (hA : w.heap.size ≤ A) : Turns [md] w (w5.setCells A 0 us) := by
  have h := setCells_grown A us 0 w5
  refine ⟨h.os.trans (hg.os.trans hb.os), h.tape.trans (hg.tape.trans hb.tape), h.output.trans (hg.output.trans hb.output), Nat.le_trans hb.size (Nat.le_trans hg.size h.size), fun j hj hn => ?_⟩
  rw [setCells_other A us 0 _ j (by omega)]
  exact (hg.block j (Nat.lt_of_lt_of_le hj hb.size) (fun e => hn (by simp; exact Option.some.inj e))).trans (hb.block j hj)
theorem ShS.aside {base p ps mk mr me md m : Nat} {serial : Bool} {bugs stamps now : Int} {K : KeysL} {R : RdyL} {E D : EndL} {A B : World} (h : ShS base p ps mk mr me md serial bugs stamps now K R E D A) (hT : A.grownBy B (some m)) (hm : ∃ es c, A.heap[m]? = some (.map es c)) (hd : m ≠ md) (hk : m ≠ mk) (hr : m ≠ mr) (he : m ≠ me) : ShS base p ps mk mr me md serial bugs stamps now K R E D B := by
  obtain ⟨es, c, ho⟩ := hm
  have hs : Solid A B := (Solid.refl A).map ho hT
  exact ⟨hs _ _ _ _ h.blk, ⟨hs _ _ _ _ h.st.blk, h.st.keys.kept hT (fun e => hk (by cases e; rfl)), h.st.ready.kept hT (fun e => hr (by cases e; rfl)), h.st.ends.kept hT (fun e => he (by cases e; rfl)), fun x hx => (h.st.krow x hx).solid hs, fun x hx => (h.st.rrow x hx).solid hs, h.st.bp, h.st.bk, h.st.br, h.st.be, h.st.kr, h.st.ke, h.st.re⟩, h.dm.kept hT (fun e => hd (by cases e; rfl)), h.bp, h.bd, h.dk, h.dr, h.de⟩
end Go.Proofs.Ytdkkpkgfiodlbaa

namespace Go.Proofs.Ytdkkpkgfiodlbaa
open Go.RowKit Go.Maps

def StampP (stamps now : Int) (K : KeysL) (R : RdyL) (E D : EndL) (a : Ans) (now' : Int) (K' : KeysL) (R' : RdyL) (E' D' : EndL) : Prop :=
  ((now < stamps ∧ a = ⟨0, [], now + 1, 0, 0, zeroE'⟩ ∧ now' = now + 1) ∨ (stamps ≤ now ∧ a = ⟨63, [], 0, 0, 0, zeroE'⟩ ∧ now' = now)) ∧ K' = K ∧ R' = R ∧ E' = E ∧ D' = D
set_option maxRecDepth 100000 in
set_option maxHeartbeats 8000000 in
theorem apply_stamp {base p ps mk mr me md : Nat} {serial : Bool} {bugs stamps now : Int} {K : KeysL} {R : RdyL} {E D : EndL} (c : Cmd21) {v : Value} (w : World) (h : ShS base p ps mk mr me md serial bugs stamps now K R E D w) (hi : CmdI c) (hk : c.k = 1)
    (hv : Src w v 1 (btBytes (cmdL c)).length ((btBytes (cmdL c)).map u8)) (hn : 0 ≤ now ∧ now ≤ 1000000) (hsep : ∀ x : Int, MvS base ps mk mr me serial bugs K R E (w.setCell ⟨p, 3, none⟩ (vi x))) :
    Calls Try.prog 11 #[.pointer (some ⟨p, 0, none⟩), v] w (AppQ base p ps mk mr me md serial bugs stamps (StampP stamps now K R E D) w) := by
  have HI := Lib.hid hi
  have HK := Lib.hid hk
  have HH := Lib.hid (h.later ((Below.refl w.heap.size w).alloc (Nat.le_refl _) (.cells ansZ 37)))
  have HV := Lib.hid (hv.below ((Below.refl w.heap.size w).alloc (Nat.le_refl _) (.cells ansZ 37)))
  have HA0 := Lib.hid (Bt.alloc_at w (.cells ansZ 37))
  have HB0 := Lib.hid ((Below.refl w.heap.size w).alloc (Nat.le_refl _) (.cells ansZ 37))
  have hcl : (btBytes (cmdL c)).length ≤ 1048576 := by rw [btBytes_length]; have := cmdL_length hi; omega
  obtain ⟨bs, hbs⟩ : ∃ bs, bs = btBytes (cmdL c) := ⟨_, rfl⟩
  rw [← hbs] at HV hcl
  have HBS := Lib.hid hbs
  have hpw : p < w.heap.size := (Array.getElem?_eq_some_iff.1 h.blk).1
  have H0 := Lib.hid h
  have HSEP := Lib.hid hsep
  clear h hi hk hv hbs hsep
  go_enter Try.func11, Try.ntmps11
  go_upto_region 1 with fail
  generalize w.alloc (.cells ansZ 37) = w1 at *
  obtain ⟨A, hA⟩ : ∃ A, A = w.heap.size := ⟨_, rfl⟩
  rw [← hA] at HA0 ⊢
  have HAE := Lib.hid hA
  have hAw : A < w1.heap.size := (Array.getElem?_eq_some_iff.1 HA0.out).1
  clear hA
  go_wp2_with fail
  refine (shRead_call (bs := bs) w1 HV.out (by rw [HBS.out]; exact btBytes_lt _) hcl).mono ?_
  rintro e2 w2 ⟨c', wv, rv, err, rfl, hrd⟩
  rw [HBS.out] at hrd
  obtain ⟨rfl, rfl⟩ := (cmd_back HI.out hrd).1 ⟨by rw [HK.out]; decide, by rw [HK.out]; decide⟩
  have hkl := killK_len c.r
  have hows : w2.ownsRow w1.heap.size 104 3 wv c.r.writes.length ((killK c.r).writes.flatMap opV) := by have := hrd.ws; unfold OwOps at this; rw [show (killC c).r.writes.length = c.r.writes.length from hkl] at this; exact this
  have hors : w2.ownsRow w1.heap.size 3 1 rv c.r.reads.length (c.r.reads.flatMap viC) := hrd.rs
  obtain ⟨aw, cw, rfl⟩ := Bt.own_shape hows
  obtain ⟨ar, cr, rfl⟩ := Bt.own_shape hors
  have HWS := Lib.hid hrd.ws
  have HRS := Lib.hid hrd.rs
  have HH2 := Lib.hid (HH.out.later hrd.bel)
  have HA2 := Lib.hid ((hrd.bel.block A hAw).trans HA0.out)
  have HB2 := Lib.hid (HB0.out.trans (hrd.bel.mono HB0.out.size))
  have hA2w : A < w2.heap.size := Nat.lt_of_lt_of_le hAw hrd.bel.size
  have hw12 := hrd.bel.size
  have HKL := Lib.hid hkl
  clear hrd hkl hows hors HH HA0 HB0 HV
  unfold cmdV cmdC
  dsimp only [killC, killK]
  have HC3 := Lib.hid (Bt.alloc_at w2 (.cells #[vi c.k, vi c.r.txn, vi c.r.home, vi c.r.start, .slice aw c.r.writes.length cw, .slice ar c.r.reads.length cr, vi c.e.txn, .bool c.e.commit, vi c.e.at_] 33))
  have HH3 := Lib.hid (HH2.out.later ((Below.refl w2.heap.size w2).alloc (Nat.le_refl _) (.cells #[vi c.k, vi c.r.txn, vi c.r.home, vi c.r.start, .slice aw c.r.writes.length cw, .slice ar c.r.reads.length cr, vi c.e.txn, .bool c.e.commit, vi c.e.at_] 33)))
  have HA3 := Lib.hid ((Below.heap_alloc w2 (.cells #[vi c.k, vi c.r.txn, vi c.r.home, vi c.r.start, .slice aw c.r.writes.length cw, .slice ar c.r.reads.length cr, vi c.e.txn, .bool c.e.commit, vi c.e.at_] 33) A hA2w).trans HA2.out)
  have HB3 := Lib.hid (HB2.out.alloc HB2.out.size (.cells #[vi c.k, vi c.r.txn, vi c.r.home, vi c.r.start, .slice aw c.r.writes.length cw, .slice ar c.r.reads.length cr, vi c.e.txn, .bool c.e.commit, vi c.e.at_] 33))
  have HWS3 := Lib.hid (own_below HWS.out ((Below.refl w2.heap.size w2).alloc (Nat.le_refl _) (.cells #[vi c.k, vi c.r.txn, vi c.r.home, vi c.r.start, .slice aw c.r.writes.length cw, .slice ar c.r.reads.length cr, vi c.e.txn, .bool c.e.commit, vi c.e.at_] 33)))
  have HRS3 := Lib.hid (own_below HRS.out ((Below.refl w2.heap.size w2).alloc (Nat.le_refl _) (.cells #[vi c.k, vi c.r.txn, vi c.r.home, vi c.r.start, .slice aw c.r.writes.length cw, .slice ar c.r.reads.length cr, vi c.e.txn, .bool c.e.commit, vi c.e.at_] 33)))
  go_upto_region 4 with fail
  clear HH2 HA2 HB2 HWS HRS
  generalize w2.alloc (.cells #[vi c.k, vi c.r.txn, vi c.r.home, vi c.r.start, .slice aw c.r.writes.length cw, .slice ar c.r.reads.length cr, vi c.e.txn, .bool c.e.commit, vi c.e.at_] 33) = w3 at *
  have hC3w : w2.heap.size < w3.heap.size := (Array.getElem?_eq_some_iff.1 HC3.out).1
  obtain ⟨C, hC⟩ : ∃ C, C = w2.heap.size := ⟨_, rfl⟩
  rw [← hC] at HC3 hC3w ⊢
  have HCE := Lib.hid hC
  have hAC : A ≠ C := by omega
  have hpA : p < A := by have := HAE.out; omega
  clear hC
  have k0 : w3.cell? ⟨C, 0, none⟩ = some (vi c.k) := by rw [Bt.cell_of HC3.out]; rfl
  have b1 : (c.k == 1) = true := by rw [HK.out]; rfl
  have b2 : (c.k == 2) = false := by rw [HK.out]; rfl
  have b3 : (c.k == 3) = false := by rw [HK.out]; rfl
  have b4 : (c.k == 4) = false := by rw [HK.out]; rfl
  go_upto_region 8 with fail
  have hBw : w.heap.size ≤ w3.heap.size := HB3.out.size
  have q2 : w3.cell? ⟨p, 2, none⟩ = some (vi stamps) := by rw [cell_of HH3.out.blk]; rfl
  have q3 : w3.cell? ⟨p, 3, none⟩ = some (vi now) := by rw [cell_of HH3.out.blk]; rfl
  have qf : ∀ o, w3.frozen? ⟨p, o, none⟩ = false := fun o => free_of HH3.out.blk o
  have xf : ∀ o, w3.frozen? ⟨A, o, none⟩ = false := fun o => free_of HA3.out o
  have x0 : w3.cell? ⟨A, 0, none⟩ = some (vi 0) := by rw [Bt.cell_of HA3.out]; rfl
  have x1 : w3.cell? ⟨A, 1, none⟩ = some (.slice none 0 0) := by rw [Bt.cell_of HA3.out]; rfl
  have x2 : w3.cell? ⟨A, 2, none⟩ = some (vi 0) := by rw [Bt.cell_of HA3.out]; rfl
  have x3 : w3.cell? ⟨A, 3, none⟩ = some (vi 0) := by rw [Bt.cell_of HA3.out]; rfl
  have x4 : w3.cell? ⟨A, 4, none⟩ = some (vi 0) := by rw [Bt.cell_of HA3.out]; rfl
  have x5 : w3.cell? ⟨A, 5, none⟩ = some (vi 0) := by rw [Bt.cell_of HA3.out]; rfl
  have x6 : w3.cell? ⟨A, 6, none⟩ = some (.bool false) := by rw [Bt.cell_of HA3.out]; rfl
  have x7 : w3.cell? ⟨A, 7, none⟩ = some (vi 0) := by rw [Bt.cell_of HA3.out]; rfl
  have hne : ¬ (A = p) := by omega
  have hne' : ¬ (p = A) := by omega
  by_cases hlt : now < stamps
  · have l1 : decide (stamps ≤ now) = false := decide_eq_false (by omega)
    have hw1 : IntKind.i64.wrap (now + 1) = now + 1 := IntWalk.i64_in _ (by omega)
    go_quiet (fail)
    go_wp2_with fail
    have HAQ : ((w3.drewN nq).setCell ⟨p, 3, none⟩ (vi (now + 1))).heap[A]? = some (.cells ansZ 37) := Bt.cells_other _ HA3.out hne
    change bodyPost _ _ _ _ _ (((w3.drewN nq).setCell ⟨p, 3, none⟩ (vi (now + 1))).setCells A 0 [vi 0, .slice none 0 0, vi (now + 1), vi 0, vi 0, vi 0, .bool false, vi 0])
    obtain ⟨wz, hwz⟩ : ∃ wz, wz = ((w3.drewN nq).setCell ⟨p, 3, none⟩ (vi (now + 1))).setCells A 0 [vi 0, .slice none 0 0, vi (now + 1), vi 0, vi 0, vi 0, .bool false, vi 0] := ⟨_, rfl⟩
    have HZC := Lib.hid (show wz.heap[A]? = some (.cells #[vi 0, .slice none 0 0, vi (now + 1), vi 0, vi 0, vi 0, .bool false, vi 0] 37) by rw [hwz]; exact setCells_all (cs := [vi 0, .slice none 0 0, vi (now + 1), vi 0, vi 0, vi 0, .bool false, vi 0]) HAQ rfl)
    rw [← hwz]
    have HWZ := Lib.hid hwz
    clear hwz x0 x1 x2 x3 x4 x5 x6 x7 xf q2 q3 qf
    have r0 : wz.cell? ⟨A, 0, none⟩ = some (vi 0) := by rw [Bt.cell_of HZC.out]; rfl
    have r1 : wz.cell? ⟨A, 1, none⟩ = some (.slice none 0 0) := by rw [Bt.cell_of HZC.out]; rfl
    have r2 : wz.cell? ⟨A, 2, none⟩ = some (vi (now + 1)) := by rw [Bt.cell_of HZC.out]; rfl
    have r3 : wz.cell? ⟨A, 3, none⟩ = some (vi 0) := by rw [Bt.cell_of HZC.out]; rfl
    have r4 : wz.cell? ⟨A, 4, none⟩ = some (vi 0) := by rw [Bt.cell_of HZC.out]; rfl
    have r5 : wz.cell? ⟨A, 5, none⟩ = some (vi 0) := by rw [Bt.cell_of HZC.out]; rfl
    have r6 : wz.cell? ⟨A, 6, none⟩ = some (.bool false) := by rw [Bt.cell_of HZC.out]; rfl
    have r7 : wz.cell? ⟨A, 7, none⟩ = some (vi 0) := by rw [Bt.cell_of HZC.out]; rfl
    refine bodyPost_ret (v := ansV ⟨0, [], now + 1, 0, 0, zeroE'⟩ (.slice none 0 0)) (by simp [results, Try.results11, go_sem, ansV, ansC, r0, r1, r2, r3, r4, r5, r6, r7]) rfl ⟨⟨0, [], now + 1, 0, 0, zeroE'⟩, .slice none 0 0, now + 1, K, R, E, D, rfl, World.ownsRow_nil _ _ _ _, (H0.out.tick (now + 1) (HSEP.out _)).later (tick_below HB3.out (by rw [HAE.out]; exact Nat.le_refl _) HWZ.out), tick_turns HB3.out (by rw [HAE.out]; exact Nat.le_refl _) (by simp) HWZ.out, .inl ⟨hlt, rfl, rfl⟩, rfl, rfl, rfl, rfl⟩
  · have l1 : decide (stamps ≤ now) = true := decide_eq_true (by omega)
    go_quiet (fail)
    go_wp2_with fail
    have HAQ : (w3.drewN nq).heap[A]? = some (.cells ansZ 37) := HA3.out
    change bodyPost _ _ _ _ _ ((w3.drewN nq).setCells A 0 [vi 63, .slice none 0 0, vi 0, vi 0, vi 0, vi 0, .bool false, vi 0])
    obtain ⟨wz, hwz⟩ : ∃ wz, wz = (w3.drewN nq).setCells A 0 [vi 63, .slice none 0 0, vi 0, vi 0, vi 0, vi 0, .bool false, vi 0] := ⟨_, rfl⟩
    have HZC := Lib.hid (show wz.heap[A]? = some (.cells #[vi 63, .slice none 0 0, vi 0, vi 0, vi 0, vi 0, .bool false, vi 0] 37) by rw [hwz]; exact setCells_all (cs := [vi 63, .slice none 0 0, vi 0, vi 0, vi 0, vi 0, .bool false, vi 0]) HAQ rfl)
    rw [← hwz]
    have HWZ := Lib.hid hwz
    clear hwz x0 x1 x2 x3 x4 x5 x6 x7 xf q2 q3 qf
    have r0 : wz.cell? ⟨A, 0, none⟩ = some (vi 63) := by rw [Bt.cell_of HZC.out]; rfl
    have r1 : wz.cell? ⟨A, 1, none⟩ = some (.slice none 0 0) := by rw [Bt.cell_of HZC.out]; rfl
    have r2 : wz.cell? ⟨A, 2, none⟩ = some (vi 0) := by rw [Bt.cell_of HZC.out]; rfl
    have r3 : wz.cell? ⟨A, 3, none⟩ = some (vi 0) := by rw [Bt.cell_of HZC.out]; rfl
    have r4 : wz.cell? ⟨A, 4, none⟩ = some (vi 0) := by rw [Bt.cell_of HZC.out]; rfl
    have r5 : wz.cell? ⟨A, 5, none⟩ = some (vi 0) := by rw [Bt.cell_of HZC.out]; rfl
    have r6 : wz.cell? ⟨A, 6, none⟩ = some (.bool false) := by rw [Bt.cell_of HZC.out]; rfl
    have r7 : wz.cell? ⟨A, 7, none⟩ = some (vi 0) := by rw [Bt.cell_of HZC.out]; rfl
    refine bodyPost_ret (v := ansV ⟨63, [], 0, 0, 0, zeroE'⟩ (.slice none 0 0)) (by simp [results, Try.results11, go_sem, ansV, ansC, r0, r1, r2, r3, r4, r5, r6, r7]) rfl ⟨⟨63, [], 0, 0, 0, zeroE'⟩, .slice none 0 0, now, K, R, E, D, rfl, World.ownsRow_nil _ _ _ _, H0.out.later (by rw [HWZ.out]; exact ans_below HB3.out (by rw [HAE.out]; exact Nat.le_refl _) nq), Turns.below (by rw [HWZ.out]; exact ans_below HB3.out (by rw [HAE.out]; exact Nat.le_refl _) nq), .inr ⟨by omega, rfl, rfl⟩, rfl, rfl, rfl, rfl⟩
end Go.Proofs.Ytdkkpkgfiodlbaa

namespace Go.Proofs.Ytdkkpkgfiodlbaa
open Go.RowKit Go.Maps

def DecideP (bugs now : Int) (K : KeysL) (R : RdyL) (E D : EndL) (e : EndM) (a : Ans) (now' : Int) (K' : KeysL) (R' : RdyL) (E' D' : EndL) : Prop :=
  ((∃ x, getM D e.txn = some x ∧ offB bugs 32 = true ∧ a = ⟨0, [], 0, 0, 0, x⟩ ∧ D' = D) ∨ ((getM D e.txn = none ∨ offB bugs 32 = false) ∧ a = ⟨0, [], 0, 0, 0, e⟩ ∧ D' = putM D e.txn e)) ∧ now' = now ∧ K' = K ∧ R' = R ∧ E' = E
set_option maxRecDepth 100000 in
set_option maxHeartbeats 8000000 in
theorem apply_decide {base p ps mk mr me md : Nat} {serial : Bool} {bugs stamps now : Int} {K : KeysL} {R : RdyL} {E D : EndL} (c : Cmd21) {v : Value} (w : World) (h : ShS base p ps mk mr me md serial bugs stamps now K R E D w) (hi : CmdI c) (hk : c.k = 4)
    (hv : Src w v 1 (btBytes (cmdL c)).length ((btBytes (cmdL c)).map u8)) :
    Calls Try.prog 11 #[.pointer (some ⟨p, 0, none⟩), v] w (AppQ base p ps mk mr me md serial bugs stamps (DecideP bugs now K R E D c.e) w) := by
  have HI := Lib.hid hi
  have HK := Lib.hid hk
  have HH := Lib.hid (h.later ((Below.refl w.heap.size w).alloc (Nat.le_refl _) (.cells ansZ 37)))
  have HV := Lib.hid (hv.below ((Below.refl w.heap.size w).alloc (Nat.le_refl _) (.cells ansZ 37)))
  have HA0 := Lib.hid (Bt.alloc_at w (.cells ansZ 37))
  have HB0 := Lib.hid ((Below.refl w.heap.size w).alloc (Nat.le_refl _) (.cells ansZ 37))
  have hcl : (btBytes (cmdL c)).length ≤ 1048576 := by rw [btBytes_length]; have := cmdL_length hi; omega
  obtain ⟨bs, hbs⟩ : ∃ bs, bs = btBytes (cmdL c) := ⟨_, rfl⟩
  rw [← hbs] at HV hcl
  have HBS := Lib.hid hbs
  have hpw : p < w.heap.size := (Array.getElem?_eq_some_iff.1 h.blk).1
  have H0 := Lib.hid h
  clear h hi hk hv hbs
  go_enter Try.func11, Try.ntmps11
  go_upto_region 1 with fail
  generalize w.alloc (.cells ansZ 37) = w1 at *
  obtain ⟨A, hA⟩ : ∃ A, A = w.heap.size := ⟨_, rfl⟩
  rw [← hA] at HA0 ⊢
  have HAE := Lib.hid hA
  have hAw : A < w1.heap.size := (Array.getElem?_eq_some_iff.1 HA0.out).1
  clear hA
  go_wp2_with fail
  refine (shRead_call (bs := bs) w1 HV.out (by rw [HBS.out]; exact btBytes_lt _) hcl).mono ?_
  rintro e2 w2 ⟨c', wv, rv, err, rfl, hrd⟩
  rw [HBS.out] at hrd
  obtain ⟨rfl, rfl⟩ := (cmd_back HI.out hrd).1 ⟨by rw [HK.out]; decide, by rw [HK.out]; decide⟩
  have hkl := killK_len c.r
  have hows : w2.ownsRow w1.heap.size 104 3 wv c.r.writes.length ((killK c.r).writes.flatMap opV) := by have := hrd.ws; unfold OwOps at this; rw [show (killC c).r.writes.length = c.r.writes.length from hkl] at this; exact this
  have hors : w2.ownsRow w1.heap.size 3 1 rv c.r.reads.length (c.r.reads.flatMap viC) := hrd.rs
  obtain ⟨aw, cw, rfl⟩ := Bt.own_shape hows
  obtain ⟨ar, cr, rfl⟩ := Bt.own_shape hors
  have HWS := Lib.hid hrd.ws
  have HRS := Lib.hid hrd.rs
  have HH2 := Lib.hid (HH.out.later hrd.bel)
  have HA2 := Lib.hid ((hrd.bel.block A hAw).trans HA0.out)
  have HB2 := Lib.hid (HB0.out.trans (hrd.bel.mono HB0.out.size))
  have hA2w : A < w2.heap.size := Nat.lt_of_lt_of_le hAw hrd.bel.size
  have hw12 := hrd.bel.size
  have HKL := Lib.hid hkl
  clear hrd hkl hows hors HH HA0 HB0 HV
  unfold cmdV cmdC
  dsimp only [killC, killK]
  have HC3 := Lib.hid (Bt.alloc_at w2 (.cells #[vi c.k, vi c.r.txn, vi c.r.home, vi c.r.start, .slice aw c.r.writes.length cw, .slice ar c.r.reads.length cr, vi c.e.txn, .bool c.e.commit, vi c.e.at_] 33))
  have HH3 := Lib.hid (HH2.out.later ((Below.refl w2.heap.size w2).alloc (Nat.le_refl _) (.cells #[vi c.k, vi c.r.txn, vi c.r.home, vi c.r.start, .slice aw c.r.writes.length cw, .slice ar c.r.reads.length cr, vi c.e.txn, .bool c.e.commit, vi c.e.at_] 33)))
  have HA3 := Lib.hid ((Below.heap_alloc w2 (.cells #[vi c.k, vi c.r.txn, vi c.r.home, vi c.r.start, .slice aw c.r.writes.length cw, .slice ar c.r.reads.length cr, vi c.e.txn, .bool c.e.commit, vi c.e.at_] 33) A hA2w).trans HA2.out)
  have HB3 := Lib.hid (HB2.out.alloc HB2.out.size (.cells #[vi c.k, vi c.r.txn, vi c.r.home, vi c.r.start, .slice aw c.r.writes.length cw, .slice ar c.r.reads.length cr, vi c.e.txn, .bool c.e.commit, vi c.e.at_] 33))
  have HWS3 := Lib.hid (own_below HWS.out ((Below.refl w2.heap.size w2).alloc (Nat.le_refl _) (.cells #[vi c.k, vi c.r.txn, vi c.r.home, vi c.r.start, .slice aw c.r.writes.length cw, .slice ar c.r.reads.length cr, vi c.e.txn, .bool c.e.commit, vi c.e.at_] 33)))
  have HRS3 := Lib.hid (own_below HRS.out ((Below.refl w2.heap.size w2).alloc (Nat.le_refl _) (.cells #[vi c.k, vi c.r.txn, vi c.r.home, vi c.r.start, .slice aw c.r.writes.length cw, .slice ar c.r.reads.length cr, vi c.e.txn, .bool c.e.commit, vi c.e.at_] 33)))
  go_upto_region 4 with fail
  clear HH2 HA2 HB2 HWS HRS
  generalize w2.alloc (.cells #[vi c.k, vi c.r.txn, vi c.r.home, vi c.r.start, .slice aw c.r.writes.length cw, .slice ar c.r.reads.length cr, vi c.e.txn, .bool c.e.commit, vi c.e.at_] 33) = w3 at *
  have hC3w : w2.heap.size < w3.heap.size := (Array.getElem?_eq_some_iff.1 HC3.out).1
  obtain ⟨C, hC⟩ : ∃ C, C = w2.heap.size := ⟨_, rfl⟩
  rw [← hC] at HC3 hC3w ⊢
  have HCE := Lib.hid hC
  have hAC : A ≠ C := by omega
  have hpA : p < A := by have := HAE.out; omega
  clear hC
  have k0 : w3.cell? ⟨C, 0, none⟩ = some (vi c.k) := by rw [Bt.cell_of HC3.out]; rfl
  have b1 : (c.k == 1) = false := by rw [HK.out]; rfl
  have b2 : (c.k == 2) = false := by rw [HK.out]; rfl
  have b3 : (c.k == 3) = false := by rw [HK.out]; rfl
  have b4 : (c.k == 4) = true := by rw [HK.out]; rfl
  have hBw : w.heap.size ≤ w3.heap.size := HB3.out.size
  have HT := Lib.hid (show i64 c.e.txn from HI.out.e.txn)
  have p4 : w3.cell? ⟨p, 4, none⟩ = some (.map (some md)) := by rw [cell_of HH3.out.blk]; rfl
  have y6 : w3.cell? ⟨C, 6, none⟩ = some (vi c.e.txn) := by rw [Bt.cell_of HC3.out]; rfl
  obtain ⟨b, hb⟩ : ∃ b, (getM D c.e.txn).isSome = b := ⟨_, rfl⟩
  have HBE := Lib.hid hb
  obtain ⟨ex, hex⟩ : ∃ ex, (getM D c.e.txn).getD ⟨0, false, 0⟩ = ex := ⟨_, rfl⟩
  have HEX := Lib.hid hex
  have hS : ∀ w' : World, Below w3.heap.size w3 w' → w'.cell? ⟨p, 4, none⟩ = some (.map (some md)) ∧ w'.cell? ⟨C, 6, none⟩ = some (vi c.e.txn) ∧ (Instr.lookup 44 (.map (some md)) (vi c.e.txn) true).run Try.prog w' = .ok (.tuple #[.agg #[vi ex.txn, .bool ex.commit, vi ex.at_], .bool b]) w' := fun w' hw => by
    have := lookup_ends (HH3.out.later hw).dm HT.out
    rw [hb, hex] at this
    exact ⟨cell_later hw p4, cell_later hw y6, this⟩
  have HS := Lib.hid hS
  clear hb hS hex
  go_upto_region 27 with fail
  go_cut [15, 16] (fun b15 u wx => b15 = .pointer (some ⟨w3.heap.size, 0, none⟩) ∧ u = .bool b ∧ wx.heap[w3.heap.size]? = some (.cells #[vi ex.txn, .bool ex.commit, vi ex.at_] 31) ∧ Below w3.heap.size w3 wx)
  case first =>
    go_region_held3 (fun w' : World => w'.cell? ⟨p, 4, none⟩ = some (.map (some md)) ∧ w'.cell? ⟨C, 6, none⟩ = some (vi c.e.txn) ∧ (Instr.lookup 44 (.map (some md)) (vi c.e.txn) true).run Try.prog w' = .ok (.tuple #[.agg #[vi ex.txn, .bool ex.commit, vi ex.at_], .bool b]) w')
      (first | exact HS.out _ (Below.refl _ _) | exact HS.out _ ((Below.refl _ _).drew) | exact HS.out _ (((Below.refl _ _).drew).alloc (Nat.le_refl _) _) | exact HS.out _ ((((Below.refl _ _).drew).alloc (Nat.le_refl _) _).setCell (Nat.le_refl _) _)) (fail)
    all_goals
      go_wp2_with fail
      go_meet
      exact ⟨rfl, rfl, alloc_at w3 _, by first | exact ((Below.refl _ _).alloc (Nat.le_refl _) _).drew | exact ((Below.refl _ _).drew).alloc (Nat.le_refl _) _⟩
  case rest =>
    obtain ⟨w4, rfl⟩ : ∃ w4 : World, w4 = wc := ⟨_, rfl⟩
    obtain ⟨rfl, rfl, hbx, hb4⟩ := hcut
    have HBX := Lib.hid hbx
    have HB4 := Lib.hid hb4
    have H4 := Lib.hid (HH3.out.later hb4)
    have hA3 := (Array.getElem?_eq_some_iff.1 HA3.out).1
    have HA4 := Lib.hid ((hb4.block A hA3).trans HA3.out)
    have HC4 := Lib.hid ((hb4.block C (Array.getElem?_eq_some_iff.1 HC3.out).1).trans HC3.out)
    have p1 : w4.cell? ⟨p, 1, none⟩ = some (vi bugs) := by rw [cell_of H4.out.blk]; rfl
    obtain ⟨off, hoff⟩ : ∃ off, (bits .and .i64 bugs 32 == 0) = off := ⟨_, rfl⟩
    have HOFF := Lib.hid (show offB bugs 32 = off from hoff)
    clear hbx hb4 p4 y6 k0
    cases b
    · obtain ⟨w5, hup, HUP⟩ := (H4.out.later ((Below.refl w4.heap.size w4).drew)).put (y := c.e) HT.out
      have p4' : w4.cell? ⟨p, 4, none⟩ = some (.map (some md)) := by rw [cell_of H4.out.blk]; rfl
      have z6 : w4.cell? ⟨C, 6, none⟩ = some (vi c.e.txn) := by rw [Bt.cell_of HC4.out]; rfl
      have z7 : w4.cell? ⟨C, 7, none⟩ = some (.bool c.e.commit) := by rw [Bt.cell_of HC4.out]; rfl
      have z8 : w4.cell? ⟨C, 8, none⟩ = some (vi c.e.at_) := by rw [Bt.cell_of HC4.out]; rfl
      have HA5 := Lib.hid (HUP.out.2.2 _ _ _ _ (show w4.drew.heap[A]? = _ from HA4.out))
      have HC5 := Lib.hid (HUP.out.2.2 _ _ _ _ (show w4.drew.heap[C]? = _ from HC4.out))
      have z6' : w5.cell? ⟨C, 6, none⟩ = some (vi c.e.txn) := by rw [Bt.cell_of HC5.out]; rfl
      have z7' : w5.cell? ⟨C, 7, none⟩ = some (.bool c.e.commit) := by rw [Bt.cell_of HC5.out]; rfl
      have z8' : w5.cell? ⟨C, 8, none⟩ = some (vi c.e.at_) := by rw [Bt.cell_of HC5.out]; rfl
      have hw45 : w.heap.size ≤ w5.heap.size := Nat.le_trans hBw (Nat.le_trans HB4.out.size HUP.out.2.1.size)
      go_upto_region 30 with fail
      go_region_held3 (fun w' : World => w'.cell? ⟨p, 4, none⟩ = some (.map (some md)) ∧ w'.cell? ⟨C, 6, none⟩ = some (vi c.e.txn) ∧ w'.cell? ⟨C, 7, none⟩ = some (.bool c.e.commit) ∧ w'.cell? ⟨C, 8, none⟩ = some (vi c.e.at_))
        (first | exact ⟨p4', z6, z7, z8⟩ | exact ⟨HUP.out.2.2.cell (show w4.drew.cell? _ = _ from p4'), z6', z7', z8'⟩) (fail)
      have xf : ∀ o, w5.frozen? ⟨A, o, none⟩ = false := fun o => free_of HA5.out o
      have x0 : w5.cell? ⟨A, 0, none⟩ = some (vi 0) := by rw [Bt.cell_of HA5.out]; rfl
      have x1 : w5.cell? ⟨A, 1, none⟩ = some (.slice none 0 0) := by rw [Bt.cell_of HA5.out]; rfl
      have x2 : w5.cell? ⟨A, 2, none⟩ = some (vi 0) := by rw [Bt.cell_of HA5.out]; rfl
      have x3 : w5.cell? ⟨A, 3, none⟩ = some (vi 0) := by rw [Bt.cell_of HA5.out]; rfl
      have x4 : w5.cell? ⟨A, 4, none⟩ = some (vi 0) := by rw [Bt.cell_of HA5.out]; rfl
      have x5 : w5.cell? ⟨A, 5, none⟩ = some (vi 0) := by rw [Bt.cell_of HA5.out]; rfl
      have x6 : w5.cell? ⟨A, 6, none⟩ = some (.bool false) := by rw [Bt.cell_of HA5.out]; rfl
      have x7 : w5.cell? ⟨A, 7, none⟩ = some (vi 0) := by rw [Bt.cell_of HA5.out]; rfl
      all_goals
        go_wp2_with fail
        have HAQ := HA5.out
        change bodyPost _ _ _ _ _ (w5.setCells A 0 [vi 0, .slice none 0 0, vi 0, vi 0, vi 0, vi c.e.txn, .bool c.e.commit, vi c.e.at_])
        obtain ⟨wz, hwz⟩ : ∃ wz, wz = w5.setCells A 0 [vi 0, .slice none 0 0, vi 0, vi 0, vi 0, vi c.e.txn, .bool c.e.commit, vi c.e.at_] := ⟨_, rfl⟩
        have HZC := Lib.hid (show wz.heap[A]? = some (.cells #[vi 0, .slice none 0 0, vi 0, vi 0, vi 0, vi c.e.txn, .bool c.e.commit, vi c.e.at_] 37) by rw [hwz]; exact setCells_all (cs := [vi 0, .slice none 0 0, vi 0, vi 0, vi 0, vi c.e.txn, .bool c.e.commit, vi c.e.at_]) HAQ rfl)
        rw [← hwz]
        have HWZ := Lib.hid hwz
        clear hwz x0 x1 x2 x3 x4 x5 x6 x7 xf
        have r0 : wz.cell? ⟨A, 0, none⟩ = some (vi 0) := by rw [Bt.cell_of HZC.out]; rfl
        have r1 : wz.cell? ⟨A, 1, none⟩ = some (.slice none 0 0) := by rw [Bt.cell_of HZC.out]; rfl
        have r2 : wz.cell? ⟨A, 2, none⟩ = some (vi 0) := by rw [Bt.cell_of HZC.out]; rfl
        have r3 : wz.cell? ⟨A, 3, none⟩ = some (vi 0) := by rw [Bt.cell_of HZC.out]; rfl
        have r4 : wz.cell? ⟨A, 4, none⟩ = some (vi 0) := by rw [Bt.cell_of HZC.out]; rfl
        have r5 : wz.cell? ⟨A, 5, none⟩ = some (vi c.e.txn) := by rw [Bt.cell_of HZC.out]; rfl
        have r6 : wz.cell? ⟨A, 6, none⟩ = some (.bool c.e.commit) := by rw [Bt.cell_of HZC.out]; rfl
        have r7 : wz.cell? ⟨A, 7, none⟩ = some (vi c.e.at_) := by rw [Bt.cell_of HZC.out]; rfl
        refine bodyPost_ret (v := ansV ⟨0, [], 0, 0, 0, c.e⟩ (.slice none 0 0)) (by simp [results, Try.results11, go_sem, ansV, ansC, r0, r1, r2, r3, r4, r5, r6, r7]) rfl ⟨⟨0, [], 0, 0, 0, c.e⟩, .slice none 0 0, now, K, R, E, putM D c.e.txn c.e, rfl, World.ownsRow_nil _ _ _ _, ?_, ?_, .inr ⟨.inl (endsNone HBE.out), rfl, rfl⟩, rfl, rfl, rfl, rfl⟩
        · refine H0.out.dec (by rw [HWZ.out]; exact dec_turns (HB3.out.trans (HB4.out.mono hBw)) HUP.out.2.1 (by rw [HAE.out]; exact Nat.le_refl _)) ?_
          rw [HWZ.out]
          exact HUP.out.1.dm.frame (setCells_other A _ 0 w5 md (fun e => by have := H0.out.dm.lt; have := HAE.out; omega))
        · refine Turns.mono (bs := [md]) ?_ (by simp)
          rw [HWZ.out]
          exact dec_turns (HB3.out.trans (HB4.out.mono hBw)) HUP.out.2.1 (by rw [HAE.out]; exact Nat.le_refl _)
    · cases off
      · obtain ⟨w5, hup, HUP⟩ := (H4.out.later ((Below.refl w4.heap.size w4).drew)).put (y := c.e) HT.out
        have p4' : w4.cell? ⟨p, 4, none⟩ = some (.map (some md)) := by rw [cell_of H4.out.blk]; rfl
        have z6 : w4.cell? ⟨C, 6, none⟩ = some (vi c.e.txn) := by rw [Bt.cell_of HC4.out]; rfl
        have z7 : w4.cell? ⟨C, 7, none⟩ = some (.bool c.e.commit) := by rw [Bt.cell_of HC4.out]; rfl
        have z8 : w4.cell? ⟨C, 8, none⟩ = some (vi c.e.at_) := by rw [Bt.cell_of HC4.out]; rfl
        have HA5 := Lib.hid (HUP.out.2.2 _ _ _ _ (show w4.drew.heap[A]? = _ from HA4.out))
        have HC5 := Lib.hid (HUP.out.2.2 _ _ _ _ (show w4.drew.heap[C]? = _ from HC4.out))
        have z6' : w5.cell? ⟨C, 6, none⟩ = some (vi c.e.txn) := by rw [Bt.cell_of HC5.out]; rfl
        have z7' : w5.cell? ⟨C, 7, none⟩ = some (.bool c.e.commit) := by rw [Bt.cell_of HC5.out]; rfl
        have z8' : w5.cell? ⟨C, 8, none⟩ = some (vi c.e.at_) := by rw [Bt.cell_of HC5.out]; rfl
        have hw45 : w.heap.size ≤ w5.heap.size := Nat.le_trans hBw (Nat.le_trans HB4.out.size HUP.out.2.1.size)
        go_upto_region 30 with fail
        go_region_held3 (fun w' : World => w'.cell? ⟨p, 4, none⟩ = some (.map (some md)) ∧ w'.cell? ⟨C, 6, none⟩ = some (vi c.e.txn) ∧ w'.cell? ⟨C, 7, none⟩ = some (.bool c.e.commit) ∧ w'.cell? ⟨C, 8, none⟩ = some (vi c.e.at_))
          (first | exact ⟨p4', z6, z7, z8⟩ | exact ⟨HUP.out.2.2.cell (show w4.drew.cell? _ = _ from p4'), z6', z7', z8'⟩) (fail)
        have xf : ∀ o, w5.frozen? ⟨A, o, none⟩ = false := fun o => free_of HA5.out o
        have x0 : w5.cell? ⟨A, 0, none⟩ = some (vi 0) := by rw [Bt.cell_of HA5.out]; rfl
        have x1 : w5.cell? ⟨A, 1, none⟩ = some (.slice none 0 0) := by rw [Bt.cell_of HA5.out]; rfl
        have x2 : w5.cell? ⟨A, 2, none⟩ = some (vi 0) := by rw [Bt.cell_of HA5.out]; rfl
        have x3 : w5.cell? ⟨A, 3, none⟩ = some (vi 0) := by rw [Bt.cell_of HA5.out]; rfl
        have x4 : w5.cell? ⟨A, 4, none⟩ = some (vi 0) := by rw [Bt.cell_of HA5.out]; rfl
        have x5 : w5.cell? ⟨A, 5, none⟩ = some (vi 0) := by rw [Bt.cell_of HA5.out]; rfl
        have x6 : w5.cell? ⟨A, 6, none⟩ = some (.bool false) := by rw [Bt.cell_of HA5.out]; rfl
        have x7 : w5.cell? ⟨A, 7, none⟩ = some (vi 0) := by rw [Bt.cell_of HA5.out]; rfl
        all_goals
          go_wp2_with fail
          have HAQ := HA5.out
          change bodyPost _ _ _ _ _ (w5.setCells A 0 [vi 0, .slice none 0 0, vi 0, vi 0, vi 0, vi c.e.txn, .bool c.e.commit, vi c.e.at_])
          obtain ⟨wz, hwz⟩ : ∃ wz, wz = w5.setCells A 0 [vi 0, .slice none 0 0, vi 0, vi 0, vi 0, vi c.e.txn, .bool c.e.commit, vi c.e.at_] := ⟨_, rfl⟩
          have HZC := Lib.hid (show wz.heap[A]? = some (.cells #[vi 0, .slice none 0 0, vi 0, vi 0, vi 0, vi c.e.txn, .bool c.e.commit, vi c.e.at_] 37) by rw [hwz]; exact setCells_all (cs := [vi 0, .slice none 0 0, vi 0, vi 0, vi 0, vi c.e.txn, .bool c.e.commit, vi c.e.at_]) HAQ rfl)
          rw [← hwz]
          have HWZ := Lib.hid hwz
          clear hwz x0 x1 x2 x3 x4 x5 x6 x7 xf
          have r0 : wz.cell? ⟨A, 0, none⟩ = some (vi 0) := by rw [Bt.cell_of HZC.out]; rfl
          have r1 : wz.cell? ⟨A, 1, none⟩ = some (.slice none 0 0) := by rw [Bt.cell_of HZC.out]; rfl
          have r2 : wz.cell? ⟨A, 2, none⟩ = some (vi 0) := by rw [Bt.cell_of HZC.out]; rfl
          have r3 : wz.cell? ⟨A, 3, none⟩ = some (vi 0) := by rw [Bt.cell_of HZC.out]; rfl
          have r4 : wz.cell? ⟨A, 4, none⟩ = some (vi 0) := by rw [Bt.cell_of HZC.out]; rfl
          have r5 : wz.cell? ⟨A, 5, none⟩ = some (vi c.e.txn) := by rw [Bt.cell_of HZC.out]; rfl
          have r6 : wz.cell? ⟨A, 6, none⟩ = some (.bool c.e.commit) := by rw [Bt.cell_of HZC.out]; rfl
          have r7 : wz.cell? ⟨A, 7, none⟩ = some (vi c.e.at_) := by rw [Bt.cell_of HZC.out]; rfl
          refine bodyPost_ret (v := ansV ⟨0, [], 0, 0, 0, c.e⟩ (.slice none 0 0)) (by simp [results, Try.results11, go_sem, ansV, ansC, r0, r1, r2, r3, r4, r5, r6, r7]) rfl ⟨⟨0, [], 0, 0, 0, c.e⟩, .slice none 0 0, now, K, R, E, putM D c.e.txn c.e, rfl, World.ownsRow_nil _ _ _ _, ?_, ?_, .inr ⟨.inr HOFF.out, rfl, rfl⟩, rfl, rfl, rfl, rfl⟩
          · refine H0.out.dec (by rw [HWZ.out]; exact dec_turns (HB3.out.trans (HB4.out.mono hBw)) HUP.out.2.1 (by rw [HAE.out]; exact Nat.le_refl _)) ?_
            rw [HWZ.out]
            exact HUP.out.1.dm.frame (setCells_other A _ 0 w5 md (fun e => by have := H0.out.dm.lt; have := HAE.out; omega))
          · refine Turns.mono (bs := [md]) ?_ (by simp)
            rw [HWZ.out]
            exact dec_turns (HB3.out.trans (HB4.out.mono hBw)) HUP.out.2.1 (by rw [HAE.out]; exact Nat.le_refl _)
      · have e0 : w4.cell? ⟨w3.heap.size, 0, none⟩ = some (vi ex.txn) := by rw [cell_of HBX.out]; rfl
        have e1 : w4.cell? ⟨w3.heap.size, 1, none⟩ = some (.bool ex.commit) := by rw [cell_of HBX.out]; rfl
        have e2 : w4.cell? ⟨w3.heap.size, 2, none⟩ = some (vi ex.at_) := by rw [cell_of HBX.out]; rfl
        have xf : ∀ o, w4.frozen? ⟨A, o, none⟩ = false := fun o => free_of HA4.out o
        have x0 : w4.cell? ⟨A, 0, none⟩ = some (vi 0) := by rw [Bt.cell_of HA4.out]; rfl
        have x1 : w4.cell? ⟨A, 1, none⟩ = some (.slice none 0 0) := by rw [Bt.cell_of HA4.out]; rfl
        have x2 : w4.cell? ⟨A, 2, none⟩ = some (vi 0) := by rw [Bt.cell_of HA4.out]; rfl
        have x3 : w4.cell? ⟨A, 3, none⟩ = some (vi 0) := by rw [Bt.cell_of HA4.out]; rfl
        have x4 : w4.cell? ⟨A, 4, none⟩ = some (vi 0) := by rw [Bt.cell_of HA4.out]; rfl
        have x5 : w4.cell? ⟨A, 5, none⟩ = some (vi 0) := by rw [Bt.cell_of HA4.out]; rfl
        have x6 : w4.cell? ⟨A, 6, none⟩ = some (.bool false) := by rw [Bt.cell_of HA4.out]; rfl
        have x7 : w4.cell? ⟨A, 7, none⟩ = some (vi 0) := by rw [Bt.cell_of HA4.out]; rfl
        go_wp2_with fail
        have HAQ := HA4.out
        change bodyPost _ _ _ _ _ (w4.setCells A 0 [vi 0, .slice none 0 0, vi 0, vi 0, vi 0, vi ex.txn, .bool ex.commit, vi ex.at_])
        obtain ⟨wz, hwz⟩ : ∃ wz, wz = w4.setCells A 0 [vi 0, .slice none 0 0, vi 0, vi 0, vi 0, vi ex.txn, .bool ex.commit, vi ex.at_] := ⟨_, rfl⟩
        have HZC := Lib.hid (show wz.heap[A]? = some (.cells #[vi 0, .slice none 0 0, vi 0, vi 0, vi 0, vi ex.txn, .bool ex.commit, vi ex.at_] 37) by rw [hwz]; exact setCells_all (cs := [vi 0, .slice none 0 0, vi 0, vi 0, vi 0, vi ex.txn, .bool ex.commit, vi ex.at_]) HAQ rfl)
        rw [← hwz]
        have HWZ := Lib.hid hwz
        clear hwz x0 x1 x2 x3 x4 x5 x6 x7 xf
        have r0 : wz.cell? ⟨A, 0, none⟩ = some (vi 0) := by rw [Bt.cell_of HZC.out]; rfl
        have r1 : wz.cell? ⟨A, 1, none⟩ = some (.slice none 0 0) := by rw [Bt.cell_of HZC.out]; rfl
        have r2 : wz.cell? ⟨A, 2, none⟩ = some (vi 0) := by rw [Bt.cell_of HZC.out]; rfl
        have r3 : wz.cell? ⟨A, 3, none⟩ = some (vi 0) := by rw [Bt.cell_of HZC.out]; rfl
        have r4 : wz.cell? ⟨A, 4, none⟩ = some (vi 0) := by rw [Bt.cell_of HZC.out]; rfl
        have r5 : wz.cell? ⟨A, 5, none⟩ = some (vi ex.txn) := by rw [Bt.cell_of HZC.out]; rfl
        have r6 : wz.cell? ⟨A, 6, none⟩ = some (.bool ex.commit) := by rw [Bt.cell_of HZC.out]; rfl
        have r7 : wz.cell? ⟨A, 7, none⟩ = some (vi ex.at_) := by rw [Bt.cell_of HZC.out]; rfl
        refine bodyPost_ret (v := ansV ⟨0, [], 0, 0, 0, ex⟩ (.slice none 0 0)) (by simp [results, Try.results11, go_sem, ansV, ansC, r0, r1, r2, r3, r4, r5, r6, r7]) rfl ⟨⟨0, [], 0, 0, 0, ex⟩, .slice none 0 0, now, K, R, E, D, rfl, World.ownsRow_nil _ _ _ _, H0.out.later (by rw [HWZ.out]; exact ans_below0 (HB3.out.trans (HB4.out.mono hBw)) (by rw [HAE.out]; exact Nat.le_refl _)), Turns.below (by rw [HWZ.out]; exact ans_below0 (HB3.out.trans (HB4.out.mono hBw)) (by rw [HAE.out]; exact Nat.le_refl _)), .inl ⟨ex, endsSome HBE.out HEX.out, HOFF.out, rfl, rfl⟩, rfl, rfl, rfl, rfl⟩
end Go.Proofs.Ytdkkpkgfiodlbaa

namespace Go.Proofs.Ytdkkpkgfiodlbaa
open Go.RowKit Go.Maps

def ShNewQ (w : World) (serial : Bool) (bugs stamps : Int) (e : Ending) (w' : World) : Prop := ∃ p ps mk mr me md, e = .returned (.pointer (some ⟨p, 0, none⟩)) ∧ ShS w.heap.size p ps mk mr me md serial bugs stamps 0 [] [] [] [] w' ∧ Below w.heap.size w w'
set_option maxRecDepth 100000 in
set_option maxHeartbeats 1000000 in
theorem shNew_call (serial : Bool) (bugs stamps : Int) (w : World) : Calls Try.prog 9 #[.bool serial, vi bugs, vi stamps] w (ShNewQ w serial bugs stamps) := by
  have hmm := @run_makeMap Try.prog
  go_enter Try.func9, Try.ntmps9
  go_wp2_with (go_at_call 28; refine (new_call serial bugs w).mono ?_; rintro e1 w1 ⟨ps, mk, mr, me, rfl, hm1, hb1⟩; have HM1 := Lib.hid hm1; have HB1 := Lib.hid hb1; clear hm1 hb1)
  go_ret
  have h2 : MapE (w1.alloc (.map #[] 0)) w1.heap.size [] := MapT.made w1
  have hb2 : Below w1.heap.size w1 (w1.alloc (.map #[] 0)) := (Below.refl _ _).alloc (Nat.le_refl _) _
  have hb3 : Below (w1.alloc (.map #[] 0)).heap.size (w1.alloc (.map #[] 0)) ((w1.alloc (.map #[] 0)).alloc (.cells #[.pointer (some ⟨ps, 0, none⟩), vi bugs, vi stamps, vi 0, .map (some w1.heap.size)] 84)) := (Below.refl _ _).alloc (Nat.le_refl _) _
  have hs := HB1.out.size
  have hs2 : (w1.alloc (.map #[] 0)).heap.size = w1.heap.size + 1 := by simp
  have ha := Bt.alloc_at (w1.alloc (.map #[] 0)) (.cells #[.pointer (some ⟨ps, 0, none⟩), vi bugs, vi stamps, vi 0, .map (some w1.heap.size)] 84)
  rw [hs2] at ha
  refine ⟨w1.heap.size + 1, ps, mk, mr, me, w1.heap.size, rfl, ⟨ha, (HM1.out.later hb2).later hb3, h2.below hb3 (by rw [hs2]; omega), by omega, hs, ?_, ?_, ?_⟩, (HB1.out.trans (hb2.mono hs)).trans (hb3.mono (by omega))⟩
  · have := HM1.out.keys.lt; omega
  · have := HM1.out.ready.lt; omega
  · have := HM1.out.ends.lt; omega
/-- Where nobody waits and no value is kept, the time may be another one. -/
theorem ShS.sep0 {base p ps mk mr me md : Nat} {serial : Bool} {bugs stamps now : Int} {E D : EndL} {w : World} (h : ShS base p ps mk mr me md serial bugs stamps now [] [] E D w) (x : Int) : MvS base ps mk mr me serial bugs [] [] E (w.setCell ⟨p, 3, none⟩ (vi x)) := by
  have hg := gro_setP (o := 3) (gro_refl w (some p)) (vi x)
  have hne : ∀ {m : Nat}, (∃ es c, w.heap[m]? = some (.map es c)) → some m ≠ some p := fun ⟨es, c, ho⟩ e => by
    have := h.blk
    rw [← Option.some.inj e, ho] at this; cases this
  have hps : ps ≠ p := fun e => by
    have h1 := h.st.blk
    rw [e, h.blk] at h1
    have h2 := Option.some.inj h1
    cases h2
  exact ⟨Bt.cells_other _ h.st.blk hps, h.st.keys.kept hg (hne h.st.keys.obj), h.st.ready.kept hg (hne h.st.ready.obj), h.st.ends.kept hg (hne h.st.ends.obj), (fun y hy => by cases hy), (fun y hy => by cases hy), h.st.bp, h.st.bk, h.st.br, h.st.be, h.st.kr, h.st.ke, h.st.re⟩
/-- The shard's own blocks lie ahead of a place. -/
structure ShB (N p mk mr me md : Nat) : Prop where
  hp : p < N
  hk : mk < N
  hr : mr < N
  he : me < N
  hd : md < N
theorem ShS.bnd {base p ps mk mr me md : Nat} {serial : Bool} {bugs stamps now : Int} {K : KeysL} {R : RdyL} {E D : EndL} {w : World} (h : ShS base p ps mk mr me md serial bugs stamps now K R E D w) : ShB w.heap.size p mk mr me md :=
  ⟨(Array.getElem?_eq_some_iff.1 h.blk).1, h.st.keys.lt, h.st.ready.lt, h.st.ends.lt, h.dm.lt⟩
theorem ShB.mono {N M p mk mr me md : Nat} (h : ShB N p mk mr me md) (hN : N ≤ M) : ShB M p mk mr me md := ⟨by have := h.hp; omega, by have := h.hk; omega, by have := h.hr; omega, by have := h.he; omega, by have := h.hd; omega⟩
theorem ShB.out {N p mk mr me md g : Nat} (h : ShB N p mk mr me md) (hg : N ≤ g) : g ∉ [p, md, mk, mr, me] := by
  have := h.hp; have := h.hk; have := h.hr; have := h.he; have := h.hd
  simp; omega
theorem own_turns {A B : World} {b e size n N p mk mr me md : Nat} {v : Value} {xs : List Value} (h : A.ownsRow b e size v n xs) (hT : Turns [p, md, mk, mr, me] A B) (hB : ShB N p mk mr me md) (hb : N ≤ b) : B.ownsRow b e size v n xs :=
  Bt.own_frame h (fun g hg => hT.block g (h.lt g hg).2 (hB.out (Nat.le_trans hb (h.lt g hg).1)))
theorem ShS.bases {base p ps mk mr me md : Nat} {serial : Bool} {bugs stamps now : Int} {K : KeysL} {R : RdyL} {E D : EndL} {w : World} (h : ShS base p ps mk mr me md serial bugs stamps now K R E D w) : ∀ k ∈ [p, md, mk, mr, me], base ≤ k := by
  intro k hk
  simp at hk
  rcases hk with rfl | rfl | rfl | rfl | rfl
  · exact h.bp
  · exact h.bd
  · exact h.st.bk
  · exact h.st.br
  · exact h.st.be
theorem rdOps_nil (w : World) : RdOps w (.slice none 0 0) [] := ⟨none, 0, 0, rfl, rfl, by simp, Nat.le_refl _, fun _ => ⟨rfl, rfl⟩, fun j x hj => by simp at hj⟩
theorem rdInts_nil (w : World) : RdInts w (.slice none 0 0) [] := ⟨none, 0, 0, rfl, rfl, by simp, Nat.le_refl _, fun _ => ⟨rfl, rfl⟩, fun j x hj => by simp at hj⟩
/-- A command without lists. -/
abbrev bareC (k : Int) (e : EndM) : Cmd21 := ⟨k, ⟨0, 0, 0, [], []⟩, e⟩
theorem bareI {k : Int} {e : EndM} (hk : IntOk k) (he : EndI e) : CmdI (bareC k e) :=
  ⟨hk, ⟨(by show i64 0; unfold i64; omega), (by show i64 0; unfold i64; omega), (by show i64 0; unfold i64; omega), (fun o h => by cases h), (fun o h => by cases h)⟩, he, by simp, by simp⟩
theorem bareBytes_call (k : Int) (e : EndM) (w : World) (hk : IntOk k) (he : EndI e) :
    Calls Try.prog 12 #[.agg #[vi k, vi 0, vi 0, vi 0, .slice none 0 0, .slice none 0 0, vi e.txn, .bool e.commit, vi e.at_]] w (BytesQ (cmdL (bareC k e)) w) :=
  cmdBytes_call (bareC k e) (.slice none 0 0) (.slice none 0 0) w ⟨rdOps_nil w, rdInts_nil w⟩ (bareI hk he)
end Go.Proofs.Ytdkkpkgfiodlbaa

namespace Go.Proofs.Ytdkkpkgfiodlbaa
open Go.RowKit Go.Maps
set_option maxRecDepth 100000 in
set_option maxHeartbeats 2000000 in
theorem decided_call {base p ps mk mr me md : Nat} {serial : Bool} {bugs stamps now : Int} {K : KeysL} {R : RdyL} {E D : EndL} (txn : Int) (w : World) (h : ShS base p ps mk mr me md serial bugs stamps now K R E D w) (hk : i64 txn) :
    Calls Try.prog 14 #[.pointer (some ⟨p, 0, none⟩), vi txn] w fun e w' => e = .returned (.tuple #[endV ((getM D txn).getD ⟨0, false, 0⟩), .bool (getM D txn).isSome]) ∧ Below w.heap.size w w' := by
  have HB := Lib.hid ((Below.refl w.heap.size w).alloc (Nat.le_refl _) (.cells #[vi 0, .bool false, vi 0] 31))
  have HM := Lib.hid (h.later HB.out)
  have HX := Lib.hid (alloc_at w (.cells #[vi 0, .bool false, vi 0] 31))
  clear h
  go_enter Try.func14, Try.ntmps14
  go_upto_region 1 with fail
  generalize w.alloc (.cells #[vi 0, .bool false, vi 0] 31) = w1 at *
  have hlk := lookup_ends HM.out.dm hk
  have p4 : w1.cell? ⟨p, 4, none⟩ = some (.map (some md)) := by rw [cell_of HM.out.blk]; rfl
  have z0 : ∀ o, w1.frozen? ⟨w.heap.size, o, none⟩ = false := fun o => free_of HX.out o
  obtain ⟨x, hx⟩ : ∃ x, (getM D txn).getD ⟨0, false, 0⟩ = x := ⟨_, rfl⟩
  obtain ⟨b, hb⟩ : ∃ b, (getM D txn).isSome = b := ⟨_, rfl⟩
  rw [hx, hb] at hlk
  have HXB := Lib.hid (show ((getM D txn).getD ⟨0, false, 0⟩ = x ∧ (getM D txn).isSome = b) from ⟨hx, hb⟩)
  clear hx hb
  have HX2 := Lib.hid (alloc_at w1 (.cells #[vi x.txn, .bool x.commit, vi x.at_] 31))
  have hlt := (Array.getElem?_eq_some_iff.1 HX.out).1
  have HB2 := Lib.hid (HB.out.alloc HB.out.size (.cells #[vi x.txn, .bool x.commit, vi x.at_] 31))
  have HX1 := Lib.hid ((((Below.refl w1.heap.size w1).alloc (Nat.le_refl _) (.cells #[vi x.txn, .bool x.commit, vi x.at_] 31)).block w.heap.size hlt).trans HX.out)
  go_upto_region 4 with fail
  clear hlk p4 z0
  generalize w1.alloc (.cells #[vi x.txn, .bool x.commit, vi x.at_] 31) = w2 at *
  have q0 : w2.cell? ⟨w1.heap.size, 0, none⟩ = some (vi x.txn) := by rw [cell_of HX2.out]; rfl
  have q1 : w2.cell? ⟨w1.heap.size, 1, none⟩ = some (.bool x.commit) := by rw [cell_of HX2.out]; rfl
  have q2 : w2.cell? ⟨w1.heap.size, 2, none⟩ = some (vi x.at_) := by rw [cell_of HX2.out]; rfl
  have r0 : w2.cell? ⟨w.heap.size, 0, none⟩ = some (vi 0) := by rw [cell_of HX1.out]; rfl
  have r1 : w2.cell? ⟨w.heap.size, 1, none⟩ = some (.bool false) := by rw [cell_of HX1.out]; rfl
  have r2 : w2.cell? ⟨w.heap.size, 2, none⟩ = some (vi 0) := by rw [cell_of HX1.out]; rfl
  have z0 : w2.frozen? ⟨w.heap.size, 0, none⟩ = false := free_of HX1.out 0
  have z1 : w2.frozen? ⟨w.heap.size, 1, none⟩ = false := free_of HX1.out 1
  have z2 : w2.frozen? ⟨w.heap.size, 2, none⟩ = false := free_of HX1.out 2
  go_wp2_with fail
  refine bodyPost_ret (v := .tuple #[endV x, .bool b]) (by simp [results, Try.results14, go_sem, q0, q1, q2, r0, r1, r2, endV]) rfl ⟨by rw [HXB.out.1, HXB.out.2], ((HB2.out.setCell (Nat.le_refl _) _).setCell (Nat.le_refl _) _).setCell (Nat.le_refl _) _⟩

theorem off32 : offB 0 32 = true := by decide
set_option maxRecDepth 100000 in
set_option maxHeartbeats 8000000 in
theorem head21_call (w : World) : Calls Try.prog 8 #[] w fun e w' => e = .returned (.bool true) ∧ Below w.heap.size w w' := by
  have i1 : IntOk 1 := by unfold IntOk; omega
  have i4 : IntOk 4 := by unfold IntOk; omega
  have ie0 : EndI ⟨0, false, 0⟩ := ⟨(by show i64 0; unfold i64; omega), (by show i64 0; unfold i64; omega)⟩
  have ie5 : EndI ⟨5, true, 9⟩ := ⟨(by show i64 5; unfold i64; omega), (by show i64 9; unfold i64; omega)⟩
  have ie6 : EndI ⟨5, false, 0⟩ := ⟨(by show i64 5; unfold i64; omega), (by show i64 0; unfold i64; omega)⟩
  go_enter Try.func8, Try.ntmps8
  go_upto_region 2 with (go_at_call 9; refine (shNew_call true 0 2 w).mono ?_; rintro e1 w1 ⟨p, ps, mk, mr, me, md, rfl, hs1, hb1⟩; have HS1 := Lib.hid hs1; have HB1 := Lib.hid hb1; clear hs1 hb1)
  go_upto_region 3 with (go_at_call 12; refine (bareBytes_call 1 ⟨0, false, 0⟩ w1 i1 ie0).mono ?_; rintro e2 w2 ⟨v2, rfl, ho2, hb2⟩; have HO2 := Lib.hid ho2; have HB2 := Lib.hid (HB1.out.trans (hb2.mono HB1.out.size)); have HS2 := Lib.hid (HS1.out.later hb2); have HN := Lib.hid (HS1.out.bnd); have hNw2 := hb2.size; clear ho2 hb2)
  have hNN := HB1.out.size
  have HS_w2 := HS2
  have HO_w2 := HO2
  have HB_w2 := HB2
  have hzz := HB_w2.out.size
  have hN2 : w1.heap.size ≤ w2.heap.size := hNw2
  go_wp2_with fail
  refine (apply_stamp (bareC 1 ⟨0, false, 0⟩) w2 HS_w2.out (bareI i1 ie0) rfl (own_src HO_w2.out) ⟨by omega, by omega⟩ HS_w2.out.sep0).mono ?_
  rintro e3 wA3 ⟨a3, vv3, n3, K3, R3, E3, D3, rfl, ho3, hs3, ht3, hp3, rfl, rfl, rfl, rfl⟩
  obtain ⟨_, rfl, rfl⟩ | ⟨hc, _⟩ := hp3
  rotate_left
  · omega
  have hN3' := hN2
  obtain ⟨qa3, qc3, rfl⟩ := Bt.own_shape (show World.ownsRow _ _ _ _ vv3 0 [] from ho3)
  unfold ansV ansC
  dsimp only
  have HT3 := Lib.hid ht3
  have HSA3 := Lib.hid hs3
  have hb3 := HT3.out.size
  have HOA3 := Lib.hid (own_turns HO_w2.out HT3.out HN.out (Nat.le_refl _))
  have HBA3 := Lib.hid (HB_w2.out.trans (HT3.out.toBelow' HB_w2.out.size HSA3.out.bases))
  have HE3 := Lib.hid ((Below.refl wA3.heap.size wA3).alloc (Nat.le_refl _) (.cells #[vi 0, .slice qa3 0 qc3, vi 1, vi 0, vi 0, vi 0, .bool false, vi 0] 37))
  have HXx3_wB30 := Lib.hid (Bt.alloc_at wA3 (.cells #[vi 0, .slice qa3 0 qc3, vi 1, vi 0, vi 0, vi 0, .bool false, vi 0] 37))
  clear hs3 ht3 ho3
  go_upto_region 4 with fail
  generalize wA3.alloc (.cells #[vi 0, .slice qa3 0 qc3, vi 1, vi 0, vi 0, vi 0, .bool false, vi 0] 37) = wB3 at *
  obtain ⟨x3, hx3⟩ : ∃ x3, x3 = wA3.heap.size := ⟨_, rfl⟩
  rw [← hx3] at HXx3_wB30 ⊢
  have hNx3 : w1.heap.size ≤ x3 := by omega
  have Hx3 := Lib.hid hx3
  clear hx3
  have HXx3_wB3 := HXx3_wB30
  have HS_wB3 := Lib.hid (HSA3.out.later HE3.out)
  have HO_wB3 := Lib.hid (own_below HOA3.out HE3.out)
  have HB_wB3 := Lib.hid (HBA3.out.trans (HE3.out.mono HBA3.out.size))
  have hz3 := HE3.out.size
  go_wp2_with fail
  refine (apply_stamp (bareC 1 ⟨0, false, 0⟩) wB3 HS_wB3.out (bareI i1 ie0) rfl (own_src HO_wB3.out) ⟨by omega, by omega⟩ HS_wB3.out.sep0).mono ?_
  rintro e4 wA4 ⟨a4, vv4, n4, K4, R4, E4, D4, rfl, ho4, hs4, ht4, hp4, rfl, rfl, rfl, rfl⟩
  obtain ⟨_, rfl, rfl⟩ | ⟨hc, _⟩ := hp4
  rotate_left
  · omega
  have hN4' := hN2
  obtain ⟨qa4, qc4, rfl⟩ := Bt.own_shape (show World.ownsRow _ _ _ _ vv4 0 [] from ho4)
  unfold ansV ansC
  dsimp only
  have HT4 := Lib.hid ht4
  have HSA4 := Lib.hid hs4
  have HXx3_wA4 := Lib.hid ((HT4.out.block x3 (Array.getElem?_eq_some_iff.1 HXx3_wB3.out).1 (HN.out.out hNx3)).trans HXx3_wB3.out)
  have hb4 := HT4.out.size
  have HOA4 := Lib.hid (own_turns HO_wB3.out HT4.out HN.out (Nat.le_refl _))
  have HBA4 := Lib.hid (HB_wB3.out.trans (HT4.out.toBelow' HB_wB3.out.size HSA4.out.bases))
  have HE4 := Lib.hid ((Below.refl wA4.heap.size wA4).alloc (Nat.le_refl _) (.cells #[vi 0, .slice qa4 0 qc4, vi 2, vi 0, vi 0, vi 0, .bool false, vi 0] 37))
  have HXx4_wB40 := Lib.hid (Bt.alloc_at wA4 (.cells #[vi 0, .slice qa4 0 qc4, vi 2, vi 0, vi 0, vi 0, .bool false, vi 0] 37))
  clear hs4 ht4 ho4
  go_upto_region 5 with fail
  generalize wA4.alloc (.cells #[vi 0, .slice qa4 0 qc4, vi 2, vi 0, vi 0, vi 0, .bool false, vi 0] 37) = wB4 at *
  obtain ⟨x4, hx4⟩ : ∃ x4, x4 = wA4.heap.size := ⟨_, rfl⟩
  rw [← hx4] at HXx4_wB40 ⊢
  have hNx4 : w1.heap.size ≤ x4 := by omega
  have Hx4 := Lib.hid hx4
  clear hx4
  have HXx4_wB4 := HXx4_wB40
  have HXx3_wB4 := Lib.hid ((HE4.out.block x3 (Array.getElem?_eq_some_iff.1 HXx3_wA4.out).1).trans HXx3_wA4.out)
  have HS_wB4 := Lib.hid (HSA4.out.later HE4.out)
  have HO_wB4 := Lib.hid (own_below HOA4.out HE4.out)
  have HB_wB4 := Lib.hid (HBA4.out.trans (HE4.out.mono HBA4.out.size))
  have hz4 := HE4.out.size
  go_wp2_with fail
  refine (apply_stamp (bareC 1 ⟨0, false, 0⟩) wB4 HS_wB4.out (bareI i1 ie0) rfl (own_src HO_wB4.out) ⟨by omega, by omega⟩ HS_wB4.out.sep0).mono ?_
  rintro e5 wA5 ⟨a5, vv5, n5, K5, R5, E5, D5, rfl, ho5, hs5, ht5, hp5, rfl, rfl, rfl, rfl⟩
  obtain ⟨hc, _⟩ | ⟨_, rfl, rfl⟩ := hp5
  · omega
  have hN5' := hN2
  obtain ⟨qa5, qc5, rfl⟩ := Bt.own_shape (show World.ownsRow _ _ _ _ vv5 0 [] from ho5)
  unfold ansV ansC
  dsimp only
  have HT5 := Lib.hid ht5
  have HSA5 := Lib.hid hs5
  have HXx3_wA5 := Lib.hid ((HT5.out.block x3 (Array.getElem?_eq_some_iff.1 HXx3_wB4.out).1 (HN.out.out hNx3)).trans HXx3_wB4.out)
  have HXx4_wA5 := Lib.hid ((HT5.out.block x4 (Array.getElem?_eq_some_iff.1 HXx4_wB4.out).1 (HN.out.out hNx4)).trans HXx4_wB4.out)
  have hb5 := HT5.out.size
  have HOA5 := Lib.hid (own_turns HO_wB4.out HT5.out HN.out (Nat.le_refl _))
  have HBA5 := Lib.hid (HB_wB4.out.trans (HT5.out.toBelow' HB_wB4.out.size HSA5.out.bases))
  have HE5 := Lib.hid ((Below.refl wA5.heap.size wA5).alloc (Nat.le_refl _) (.cells #[vi 63, .slice qa5 0 qc5, vi 0, vi 0, vi 0, vi 0, .bool false, vi 0] 37))
  have HXx5_wB50 := Lib.hid (Bt.alloc_at wA5 (.cells #[vi 63, .slice qa5 0 qc5, vi 0, vi 0, vi 0, vi 0, .bool false, vi 0] 37))
  clear hs5 ht5 ho5
  go_upto_region 6 with fail
  generalize wA5.alloc (.cells #[vi 63, .slice qa5 0 qc5, vi 0, vi 0, vi 0, vi 0, .bool false, vi 0] 37) = wB5 at *
  obtain ⟨x5, hx5⟩ : ∃ x5, x5 = wA5.heap.size := ⟨_, rfl⟩
  rw [← hx5] at HXx5_wB50 ⊢
  have hNx5 : w1.heap.size ≤ x5 := by omega
  have Hx5 := Lib.hid hx5
  clear hx5
  have HXx5_wB5 := HXx5_wB50
  have HXx3_wB5 := Lib.hid ((HE5.out.block x3 (Array.getElem?_eq_some_iff.1 HXx3_wA5.out).1).trans HXx3_wA5.out)
  have HXx4_wB5 := Lib.hid ((HE5.out.block x4 (Array.getElem?_eq_some_iff.1 HXx4_wA5.out).1).trans HXx4_wA5.out)
  have HS_wB5 := Lib.hid (HSA5.out.later HE5.out)
  have HO_wB5 := Lib.hid (own_below HOA5.out HE5.out)
  have HB_wB5 := Lib.hid (HBA5.out.trans (HE5.out.mono HBA5.out.size))
  have hz5 := HE5.out.size
  go_wp2_with fail
  refine (bareBytes_call 4 ⟨5, true, 9⟩ wB5 i4 ie5).mono ?_
  rintro f6 wC6 ⟨vb6, rfl, hob6, hbb6⟩
  have HBB6 := Lib.hid hbb6
  have HXx3_wC6 := Lib.hid ((HBB6.out.block x3 (Array.getElem?_eq_some_iff.1 HXx3_wB5.out).1).trans HXx3_wB5.out)
  have HXx4_wC6 := Lib.hid ((HBB6.out.block x4 (Array.getElem?_eq_some_iff.1 HXx4_wB5.out).1).trans HXx4_wB5.out)
  have HXx5_wC6 := Lib.hid ((HBB6.out.block x5 (Array.getElem?_eq_some_iff.1 HXx5_wB5.out).1).trans HXx5_wB5.out)
  have HS_wC6 := Lib.hid (HS_wB5.out.later hbb6)
  have HB_wC6 := Lib.hid (HB_wB5.out.trans (hbb6.mono HB_wB5.out.size))
  have HO_wC6 := Lib.hid (own_below HO_wB5.out hbb6)
  have HV_wC6 := Lib.hid hob6
  have hy6 := hbb6.size
  clear hob6 hbb6
  dsimp only
  go_wp2_with fail
  refine (apply_decide (bareC 4 ⟨5, true, 9⟩) wC6 HS_wC6.out (bareI i4 ie5) rfl (own_src HV_wC6.out)).mono ?_
  rintro e6 wA6 ⟨a6, vv6, n6, K6, R6, E6, D6, rfl, ho6, hs6, ht6, hp6, rfl, rfl, rfl, rfl⟩
  obtain ⟨x, hx, _⟩ | ⟨_, rfl, rfl⟩ := hp6
  · simp [getM] at hx
  obtain ⟨qa6, qc6, rfl⟩ := Bt.own_shape (show World.ownsRow _ _ _ _ vv6 0 [] from ho6)
  unfold ansV ansC
  dsimp only
  have HT6 := Lib.hid ht6
  have HSA6 := Lib.hid hs6
  have HXx3_wA6 := Lib.hid ((HT6.out.block x3 (Array.getElem?_eq_some_iff.1 HXx3_wC6.out).1 (HN.out.out hNx3)).trans HXx3_wC6.out)
  have HXx4_wA6 := Lib.hid ((HT6.out.block x4 (Array.getElem?_eq_some_iff.1 HXx4_wC6.out).1 (HN.out.out hNx4)).trans HXx4_wC6.out)
  have HXx5_wA6 := Lib.hid ((HT6.out.block x5 (Array.getElem?_eq_some_iff.1 HXx5_wC6.out).1 (HN.out.out hNx5)).trans HXx5_wC6.out)
  have hb6 := HT6.out.size
  have HOA6 := Lib.hid (own_turns HO_wC6.out HT6.out HN.out (Nat.le_refl _))
  have HBA6 := Lib.hid (HB_wC6.out.trans (HT6.out.toBelow' HB_wC6.out.size HSA6.out.bases))
  have HE6 := Lib.hid ((Below.refl wA6.heap.size wA6).alloc (Nat.le_refl _) (.cells #[vi 0, .slice qa6 0 qc6, vi 0, vi 0, vi 0, vi 5, .bool true, vi 9] 37))
  have HXx6_wB60 := Lib.hid (Bt.alloc_at wA6 (.cells #[vi 0, .slice qa6 0 qc6, vi 0, vi 0, vi 0, vi 5, .bool true, vi 9] 37))
  clear hs6 ht6 ho6
  go_upto_region 7 with fail
  generalize wA6.alloc (.cells #[vi 0, .slice qa6 0 qc6, vi 0, vi 0, vi 0, vi 5, .bool true, vi 9] 37) = wB6 at *
  obtain ⟨x6, hx6⟩ : ∃ x6, x6 = wA6.heap.size := ⟨_, rfl⟩
  rw [← hx6] at HXx6_wB60 ⊢
  have hNx6 : w1.heap.size ≤ x6 := by omega
  have Hx6 := Lib.hid hx6
  clear hx6
  have HXx6_wB6 := HXx6_wB60
  have HXx3_wB6 := Lib.hid ((HE6.out.block x3 (Array.getElem?_eq_some_iff.1 HXx3_wA6.out).1).trans HXx3_wA6.out)
  have HXx4_wB6 := Lib.hid ((HE6.out.block x4 (Array.getElem?_eq_some_iff.1 HXx4_wA6.out).1).trans HXx4_wA6.out)
  have HXx5_wB6 := Lib.hid ((HE6.out.block x5 (Array.getElem?_eq_some_iff.1 HXx5_wA6.out).1).trans HXx5_wA6.out)
  have HS_wB6 := Lib.hid (HSA6.out.later HE6.out)
  have HO_wB6 := Lib.hid (own_below HOA6.out HE6.out)
  have HB_wB6 := Lib.hid (HBA6.out.trans (HE6.out.mono HBA6.out.size))
  have hz6 := HE6.out.size
  go_wp2_with fail
  refine (bareBytes_call 4 ⟨5, false, 0⟩ wB6 i4 ie6).mono ?_
  rintro f7 wC7 ⟨vb7, rfl, hob7, hbb7⟩
  have HBB7 := Lib.hid hbb7
  have HXx3_wC7 := Lib.hid ((HBB7.out.block x3 (Array.getElem?_eq_some_iff.1 HXx3_wB6.out).1).trans HXx3_wB6.out)
  have HXx4_wC7 := Lib.hid ((HBB7.out.block x4 (Array.getElem?_eq_some_iff.1 HXx4_wB6.out).1).trans HXx4_wB6.out)
  have HXx5_wC7 := Lib.hid ((HBB7.out.block x5 (Array.getElem?_eq_some_iff.1 HXx5_wB6.out).1).trans HXx5_wB6.out)
  have HXx6_wC7 := Lib.hid ((HBB7.out.block x6 (Array.getElem?_eq_some_iff.1 HXx6_wB6.out).1).trans HXx6_wB6.out)
  have HS_wC7 := Lib.hid (HS_wB6.out.later hbb7)
  have HB_wC7 := Lib.hid (HB_wB6.out.trans (hbb7.mono HB_wB6.out.size))
  have HO_wC7 := Lib.hid (own_below HO_wB6.out hbb7)
  have HV_wC7 := Lib.hid hob7
  have hy7 := hbb7.size
  clear hob7 hbb7
  dsimp only
  go_wp2_with fail
  refine (apply_decide (bareC 4 ⟨5, false, 0⟩) wC7 HS_wC7.out (bareI i4 ie6) rfl (own_src HV_wC7.out)).mono ?_
  rintro e7 wA7 ⟨a7, vv7, n7, K7, R7, E7, D7, rfl, ho7, hs7, ht7, hp7, rfl, rfl, rfl, rfl⟩
  obtain ⟨x, hx, _, rfl, rfl⟩ | ⟨hx, _⟩ := hp7
  rotate_left
  · rcases hx with hx | hx
    · simp [getM, putM] at hx
    · simp [off32] at hx
  have hx5 : x = ⟨5, true, 9⟩ := by simpa [getM, putM] using hx.symm
  subst hx5
  obtain ⟨qa7, qc7, rfl⟩ := Bt.own_shape (show World.ownsRow _ _ _ _ vv7 0 [] from ho7)
  unfold ansV ansC
  dsimp only
  have HT7 := Lib.hid ht7
  have HSA7 := Lib.hid hs7
  have HXx3_wA7 := Lib.hid ((HT7.out.block x3 (Array.getElem?_eq_some_iff.1 HXx3_wC7.out).1 (HN.out.out hNx3)).trans HXx3_wC7.out)
  have HXx4_wA7 := Lib.hid ((HT7.out.block x4 (Array.getElem?_eq_some_iff.1 HXx4_wC7.out).1 (HN.out.out hNx4)).trans HXx4_wC7.out)
  have HXx5_wA7 := Lib.hid ((HT7.out.block x5 (Array.getElem?_eq_some_iff.1 HXx5_wC7.out).1 (HN.out.out hNx5)).trans HXx5_wC7.out)
  have HXx6_wA7 := Lib.hid ((HT7.out.block x6 (Array.getElem?_eq_some_iff.1 HXx6_wC7.out).1 (HN.out.out hNx6)).trans HXx6_wC7.out)
  have hb7 := HT7.out.size
  have HOA7 := Lib.hid (own_turns HO_wC7.out HT7.out HN.out (Nat.le_refl _))
  have HBA7 := Lib.hid (HB_wC7.out.trans (HT7.out.toBelow' HB_wC7.out.size HSA7.out.bases))
  have HE7 := Lib.hid ((Below.refl wA7.heap.size wA7).alloc (Nat.le_refl _) (.cells #[vi 0, .slice qa7 0 qc7, vi 0, vi 0, vi 0, vi 5, .bool true, vi 9] 37))
  have HXx7_wB70 := Lib.hid (Bt.alloc_at wA7 (.cells #[vi 0, .slice qa7 0 qc7, vi 0, vi 0, vi 0, vi 5, .bool true, vi 9] 37))
  clear hs7 ht7 ho7
  go_upto_region 8 with fail
  generalize wA7.alloc (.cells #[vi 0, .slice qa7 0 qc7, vi 0, vi 0, vi 0, vi 5, .bool true, vi 9] 37) = wB7 at *
  obtain ⟨x7, hx7⟩ : ∃ x7, x7 = wA7.heap.size := ⟨_, rfl⟩
  rw [← hx7] at HXx7_wB70 ⊢
  have hNx7 : w1.heap.size ≤ x7 := by omega
  have Hx7 := Lib.hid hx7
  clear hx7
  have HXx7_wB7 := HXx7_wB70
  have HXx3_wB7 := Lib.hid ((HE7.out.block x3 (Array.getElem?_eq_some_iff.1 HXx3_wA7.out).1).trans HXx3_wA7.out)
  have HXx4_wB7 := Lib.hid ((HE7.out.block x4 (Array.getElem?_eq_some_iff.1 HXx4_wA7.out).1).trans HXx4_wA7.out)
  have HXx5_wB7 := Lib.hid ((HE7.out.block x5 (Array.getElem?_eq_some_iff.1 HXx5_wA7.out).1).trans HXx5_wA7.out)
  have HXx6_wB7 := Lib.hid ((HE7.out.block x6 (Array.getElem?_eq_some_iff.1 HXx6_wA7.out).1).trans HXx6_wA7.out)
  have HS_wB7 := Lib.hid (HSA7.out.later HE7.out)
  have HO_wB7 := Lib.hid (own_below HOA7.out HE7.out)
  have HB_wB7 := Lib.hid (HBA7.out.trans (HE7.out.mono HBA7.out.size))
  have hz7 := HE7.out.size
  have c3 : wB7.cell? ⟨x3, 2, none⟩ = some (vi 1) := by rw [Bt.cell_of HXx3_wB7.out]; rfl
  have c4 : wB7.cell? ⟨x4, 2, none⟩ = some (vi 2) := by rw [Bt.cell_of HXx4_wB7.out]; rfl
  have c5 : wB7.cell? ⟨x5, 0, none⟩ = some (vi 63) := by rw [Bt.cell_of HXx5_wB7.out]; rfl
  have cx65 : wB7.cell? ⟨x6, 5, none⟩ = some (vi 5) := by rw [Bt.cell_of HXx6_wB7.out]; rfl
  have cx66 : wB7.cell? ⟨x6, 6, none⟩ = some (.bool true) := by rw [Bt.cell_of HXx6_wB7.out]; rfl
  have cx67 : wB7.cell? ⟨x6, 7, none⟩ = some (vi 9) := by rw [Bt.cell_of HXx6_wB7.out]; rfl
  have cx75 : wB7.cell? ⟨x7, 5, none⟩ = some (vi 5) := by rw [Bt.cell_of HXx7_wB7.out]; rfl
  have cx76 : wB7.cell? ⟨x7, 6, none⟩ = some (.bool true) := by rw [Bt.cell_of HXx7_wB7.out]; rfl
  have cx77 : wB7.cell? ⟨x7, 7, none⟩ = some (vi 9) := by rw [Bt.cell_of HXx7_wB7.out]; rfl
  go_wp2_with fail
  go_ret
  exact ⟨rfl, HB_wB7.out⟩
end Go.Proofs.Ytdkkpkgfiodlbaa

namespace Go.Proofs.Ytdkkpkgfiodlbaa
open Go.RowKit Go.Maps

structure ShT (N base p ps mk mr me md : Nat) (serial : Bool) (bugs stamps now : Int) (K : KeysL) (R : RdyL) (E D : EndL) (W : World) : Prop where
  s : ShS base p ps mk mr me md serial bugs stamps now K R E D W
  b : ShB N p mk mr me md
  kown : ∀ y ∈ K, OwV N W y.2.1 y.2.2
  rown : ∀ y ∈ R, OwnR N W y.2
  nw : N ≤ W.heap.size
theorem ShT.later {N base p ps mk mr me md : Nat} {serial : Bool} {bugs stamps now : Int} {K : KeysL} {R : RdyL} {E D : EndL} {A B : World} (h : ShT N base p ps mk mr me md serial bugs stamps now K R E D A) (hb : Below A.heap.size A B) : ShT N base p ps mk mr me md serial bugs stamps now K R E D B :=
  ⟨h.s.later hb, h.b, fun y hy => own_below (h.kown y hy) hb, fun y hy => ⟨own_below (h.rown y hy).1 hb, own_below (h.rown y hy).2 hb⟩, Nat.le_trans h.nw hb.size⟩
theorem ShT.sep {N base p ps mk mr me md : Nat} {serial : Bool} {bugs stamps now : Int} {K : KeysL} {R : RdyL} {E D : EndL} {w : World} (h : ShT N base p ps mk mr me md serial bugs stamps now K R E D w) (x : Int) : MvS base ps mk mr me serial bugs K R E (w.setCell ⟨p, 3, none⟩ (vi x)) := by
  have hg := gro_setP (o := 3) (gro_refl w (some p)) (vi x)
  have hne : ∀ {m : Nat}, (∃ es c, w.heap[m]? = some (.map es c)) → some m ≠ some p := fun ⟨es, c, ho⟩ e => by
    have := h.s.blk
    rw [← Option.some.inj e, ho] at this; cases this
  have hps : ps ≠ p := fun e => by
    have h1 := h.s.st.blk
    rw [e, h.s.blk] at h1
    have h2 := Option.some.inj h1
    cases h2
  have ho : ∀ {e size n : Nat} {v : Value} {xs : List Value}, w.ownsRow N e size v n xs → (w.setCell ⟨p, 3, none⟩ (vi x)).ownsRow N e size v n xs := fun h1 => own_gro h1 hg h.b.hp
  refine ⟨Bt.cells_other _ h.s.st.blk hps, h.s.st.keys.kept hg (hne h.s.st.keys.obj), h.s.st.ready.kept hg (hne h.s.st.ready.obj), h.s.st.ends.kept hg (hne h.s.st.ends.obj), fun y hy => ?_, fun y hy => ?_, h.s.st.bp, h.s.st.bk, h.s.st.br, h.s.st.be, h.s.st.kr, h.s.st.ke, h.s.st.re⟩
  · exact own_rdv (ho (h.kown y hy)) (rdv_i64 (h.s.st.krow y hy))
  · exact rdy_own (ho (h.rown y hy).1) (ho (h.rown y hy).2) (reads_i64 (h.s.st.rrow y hy).rs)
def AppT (N base p ps mk mr me md : Nat) (serial : Bool) (bugs stamps : Int) (P : Ans → Int → KeysL → RdyL → EndL → EndL → Prop) (w : World) (e : Ending) (w' : World) : Prop :=
  ∃ a vv now' K' R' E' D', e = .returned (ansV a vv) ∧ OwI w.heap.size w' vv a.vals ∧ ShT N base p ps mk mr me md serial bugs stamps now' K' R' E' D' w' ∧ Turns [p, md, mk, mr, me] w w' ∧ P a now' K' R' E' D'
/-- Where the rows stay. -/
theorem AppQ.typed {N base p ps mk mr me md : Nat} {serial : Bool} {bugs stamps now : Int} {K : KeysL} {R : RdyL} {E D : EndL} {w : World} {P : Ans → Int → KeysL → RdyL → EndL → EndL → Prop} (h : ShT N base p ps mk mr me md serial bugs stamps now K R E D w) (hP : ∀ a now' K' R' E' D', P a now' K' R' E' D' → K' = K ∧ R' = R) {e : Ending} {w' : World} (hq : AppQ base p ps mk mr me md serial bugs stamps P w e w') : AppT N base p ps mk mr me md serial bugs stamps P w e w' := by
  obtain ⟨a, vv, now', K', R', E', D', h1, h2, h3, h4, h5⟩ := hq
  obtain ⟨rfl, rfl⟩ := hP _ _ _ _ _ _ h5
  exact ⟨a, vv, now', _, _, E', D', h1, h2, ⟨h3, h.b, fun y hy => own_turns (h.kown y hy) h4 h.b (Nat.le_refl _), fun y hy => ⟨own_turns (h.rown y hy).1 h4 h.b (Nat.le_refl _), own_turns (h.rown y hy).2 h4 h.b (Nat.le_refl _)⟩, Nat.le_trans h.nw h4.size⟩, h4, h5⟩
/-- An answer is laid down. -/
theorem ShT.setA {N base p ps mk mr me md A : Nat} {serial : Bool} {bugs stamps now : Int} {K : KeysL} {R : RdyL} {E D : EndL} {W : World} (h : ShT N base p ps mk mr me md serial bugs stamps now K R E D W) {cs : Array Value} (hA : W.heap[A]? = some (.cells cs 37)) (us : List Value) : ShT N base p ps mk mr me md serial bugs stamps now K R E D (W.setCells A 0 us) := by
  have ho : ∀ {e size n : Nat} {v : Value} {xs : List Value}, W.ownsRow N e size v n xs → 37 ≠ e → (W.setCells A 0 us).ownsRow N e size v n xs := fun h1 h2 => own_setAll h1 hA h2 0 us
  have hc : ∀ {j : Nat} {cs : Array Value} {T : TypeId}, W.heap[j]? = some (.cells cs T) → T ≠ 37 → (W.setCells A 0 us).heap[j]? = some (.cells cs T) := fun {j cs T} h1 h2 => (setCells_other A us 0 W j (fun e => by rw [e, hA] at h1; cases h1; exact h2 rfl)).trans h1
  have hm : ∀ {j : Nat}, (∃ es c, W.heap[j]? = some (.map es c)) → (W.setCells A 0 us).heap[j]? = W.heap[j]? := fun {j} ⟨es, c, ho⟩ => setCells_other A us 0 W j (fun e => by rw [e, hA] at ho; cases ho)
  have hs := (setCells_grown A us 0 W).size
  exact ⟨⟨hc h.s.blk (by decide), ⟨hc h.s.st.blk (by decide), h.s.st.keys.frame (hm h.s.st.keys.obj), h.s.st.ready.frame (hm h.s.st.ready.obj), h.s.st.ends.frame (hm h.s.st.ends.obj), fun y hy => own_rdv (ho (h.kown y hy) (by decide)) (rdv_i64 (h.s.st.krow y hy)), fun y hy => rdy_own (ho (h.rown y hy).1 (by decide)) (ho (h.rown y hy).2 (by decide)) (reads_i64 (h.s.st.rrow y hy).rs), h.s.st.bp, h.s.st.bk, h.s.st.br, h.s.st.be, h.s.st.kr, h.s.st.ke, h.s.st.re⟩, h.s.dm.frame (hm h.s.dm.obj), h.s.bp, h.s.bd, h.s.dk, h.s.dr, h.s.de⟩, h.b, fun y hy => ho (h.kown y hy) (by decide), fun y hy => ⟨ho (h.rown y hy).1 (by decide), ho (h.rown y hy).2 (by decide)⟩, Nat.le_trans h.nw hs⟩
theorem fin_turns {w w3 w5 : World} {A : Nat} {us : List Value} {bs : List Nat} (hb : Below w.heap.size w w3) (ht : Turns bs w3 w5) (hA : w.heap.size ≤ A) : Turns bs w (w5.setCells A 0 us) := by
  have h := setCells_grown A us 0 w5
  refine ⟨h.os.trans (ht.os.trans hb.os), h.tape.trans (ht.tape.trans hb.tape), h.output.trans (ht.output.trans hb.output), Nat.le_trans hb.size (Nat.le_trans ht.size h.size), fun j hj hn => ?_⟩
  rw [setCells_other A us 0 _ j (by omega)]
  exact (ht.block j (Nat.lt_of_lt_of_le hj hb.size) hn).trans (hb.block j hj)
/-- Behind a change of the store. -/
theorem ShT.store {N base p ps mk mr me md : Nat} {serial : Bool} {bugs stamps now : Int} {K K' : KeysL} {R R' : RdyL} {E E' D : EndL} {A B : World} (h : ShT N base p ps mk mr me md serial bugs stamps now K R E D A) (hm : MvS base ps mk mr me serial bugs K' R' E' B) (ht : Turns [mk, mr, me] A B)
    (hk : ∀ y ∈ K', y ∈ K ∨ OwV N B y.2.1 y.2.2) (hr : ∀ y ∈ R', y ∈ R ∨ OwnR N B y.2) : ShT N base p ps mk mr me md serial bugs stamps now K' R' E' D B := by
  have hp : p ∉ [mk, mr, me] := by
    have hne : ∀ {m : Nat}, (∃ es c, A.heap[m]? = some (.map es c)) → p ≠ m := fun ⟨es, c, ho⟩ e => by
      have := h.s.blk
      rw [e, ho] at this; cases this
    simp; exact ⟨hne h.s.st.keys.obj, hne h.s.st.ready.obj, hne h.s.st.ends.obj⟩
  have ht' : Turns [p, md, mk, mr, me] A B := ht.mono (by intro k hk; simp at hk ⊢; rcases hk with rfl | rfl | rfl <;> simp)
  refine ⟨⟨(ht.block p (Array.getElem?_eq_some_iff.1 h.s.blk).1 hp).trans h.s.blk, hm, h.s.dm.frame (ht.block md h.s.dm.lt (by simp; exact ⟨h.s.dk, h.s.dr, h.s.de⟩)), h.s.bp, h.s.bd, h.s.dk, h.s.dr, h.s.de⟩, h.b, fun y hy => ?_, fun y hy => ?_, Nat.le_trans h.nw ht.size⟩
  · rcases hk y hy with h1 | h1
    · exact own_turns (h.kown y h1) ht' h.b (Nat.le_refl _)
    · exact h1
  · rcases hr y hy with h1 | h1
    · exact ⟨own_turns (h.rown y h1).1 ht' h.b (Nat.le_refl _), own_turns (h.rown y h1).2 ht' h.b (Nat.le_refl _)⟩
    · exact h1
/-- What holds behind n commands. -/
structure ShI (n : Nat) (K : KeysL) (R : RdyL) : Prop where
  srt : ∀ k, Srt (verOf K k)
  len : ∀ k, (verOf K k).length ≤ 20 * n
  rlen : R.length ≤ n
  small : ∀ y ∈ R, y.2.r.writes.length ≤ 20 ∧ y.2.r.reads.length ≤ 20 ∧ (∀ o ∈ y.2.r.writes, i64 o.key) ∧ y.1 = y.2.r.txn
theorem ShI.start : ShI 0 [] [] := ⟨fun _ => List.Pairwise.nil, fun _ => by simp [verOf, curK, getM, nilK], by simp, (fun y hy => by cases hy)⟩
theorem ShI.more {n : Nat} {K : KeysL} {R : RdyL} (h : ShI n K R) : ShI (n + 1) K R := ⟨h.srt, fun k => by have := h.len k; omega, by have := h.rlen; omega, h.small⟩
theorem ShI.prep {n : Nat} {serial : Bool} {bugs : Int} {K : KeysL} {R : RdyL} {E : EndL} (h : ShI n K R) {r : Rdy} (h1 : r.writes.length ≤ 20) (h2 : r.reads.length ≤ 20) (h3 : ∀ o ∈ r.writes, i64 o.key) {by_ err : Int} {R' : RdyL} (hp : PrepM serial bugs K R E r by_ err R') : ShI (n + 1) K R' := by
  rcases hp with ⟨_, _, _, rfl⟩ | ⟨_, _, _, _, rfl⟩ | ⟨_, _, _, _, _, rfl⟩ | ⟨_, _, _, _, id, ok, _, h4⟩
  · exact h.more
  · exact h.more
  · exact h.more
  · rcases h4 with ⟨_, _, _, _, rfl⟩ | ⟨_, _, _, wv, rv, rfl⟩
    · exact h.more
    · refine ⟨h.srt, fun k => by have := h.len k; omega, ?_, fun y hy => ?_⟩
      · rw [putM_length]; have := h.rlen; split <;> omega
      · rcases mem_putM hy with rfl | hy
        · exact ⟨h1, h2, h3, rfl⟩
        · exact h.small y hy
theorem ShI.fin {n : Nat} {K : KeysL} {R : RdyL} {E : EndL} (h : ShI n K R) {e : EndM} {K' : KeysL} {R' : RdyL} {E' : EndL} (hf : FinM K R E e K' R' E') : ShI (n + 1) K' R' := by
  rcases hf with ⟨_, rfl, rfl, _⟩ | ⟨_, rfl, _, hk⟩
  · exact h.more
  · have hw : (writesOf R e).length ≤ 20 := by
      unfold writesOf
      split
      · cases hg : getM R e.txn with
        | none => simp
        | some y => exact (h.small _ (getM_some hg)).1
      · simp
    refine ⟨fun k => by rw [hk k]; exact finV_srt _ _ _ _ (h.srt k), fun k => ?_, ?_, fun y hy => h.small y (mem_delM hy)⟩
    · rw [hk k]
      have := finV_len e.at_ k (writesOf R e) (verOf K k)
      have := h.len k
      omega
    · have : (delM R e.txn).length ≤ R.length := List.length_filter_le _ _
      have := h.rlen; omega
theorem finish_raw {base p mk mr me : Nat} {serial : Bool} {bugs : Int} {K : KeysL} {R : RdyL} {E : EndL} (x : EndM) (w : World) (h : MvS base p mk mr me serial bugs K R E w) (ht : i64 x.txn) (ha : i64 x.at_)
    (hS : ∀ key, Srt (verOf K key)) (hL : ∀ key, (verOf K key).length ≤ 524288) (hW : ∀ y ∈ R, y.2.r.writes.length ≤ 524288 ∧ ∀ o ∈ y.2.r.writes, i64 o.key) :
    Calls Try.prog 32 #[.pointer (some ⟨p, 0, none⟩), .agg #[vi x.txn, .bool x.commit, vi x.at_]] w (FinQ2 base p mk mr me serial bugs K R E x w) := finish_call2 x w h ht ha hS hL hW
theorem setCells_cell {W : World} {A j o : Nat} {us : List Value} {v : Value} (h : W.cell? ⟨j, o, none⟩ = some v) (hj : j ≠ A) : (W.setCells A 0 us).cell? ⟨j, o, none⟩ = some v := (World.cell?_of_block (a := ⟨j, o, none⟩) (setCells_other A us 0 W j hj)).trans h
theorem setCell_far {W : World} {A o' j o : Nat} {u v : Value} (h : W.cell? ⟨j, o, none⟩ = some v) (hj : j ≠ A) : (W.setCell ⟨A, o', none⟩ u).cell? ⟨j, o, none⟩ = some v := (World.cell?_of_block (a := ⟨j, o, none⟩) (Below.heap_setCell W ⟨A, o', none⟩ u j hj)).trans h
theorem chain8_cell {W : World} {A j o : Nat} {u0 u1 u2 u3 u4 u5 u6 u7 v : Value} (h : W.cell? ⟨j, o, none⟩ = some v) (hj : j ≠ A) : ((((((((W.setCell ⟨A, 0, none⟩ u0).setCell ⟨A, 1, none⟩ u1).setCell ⟨A, 2, none⟩ u2).setCell ⟨A, 3, none⟩ u3).setCell ⟨A, 4, none⟩ u4).setCell ⟨A, 5, none⟩ u5).setCell ⟨A, 6, none⟩ u6).setCell ⟨A, 7, none⟩ u7).cell? ⟨j, o, none⟩ = some v :=
  setCell_far (setCell_far (setCell_far (setCell_far (setCell_far (setCell_far (setCell_far (setCell_far h hj) hj) hj) hj) hj) hj) hj) hj
theorem fin_sub {K K' : KeysL} {R R' : RdyL} {E E' : EndL} {e : EndM} {P : Int × RV → Prop} (h : FinM K R E e K' R' E') : ∀ y ∈ R', y ∈ R ∨ P y := fun y hy => by
  rcases h with ⟨_, _, rfl, _⟩ | ⟨_, rfl, _⟩
  · exact .inl hy
  · exact .inl (mem_delM hy)
theorem ShT.stamp {N base p ps mk mr me md : Nat} {serial : Bool} {bugs stamps now : Int} {K : KeysL} {R : RdyL} {E D : EndL} (c : Cmd21) {v : Value} (w : World) (h : ShT N base p ps mk mr me md serial bugs stamps now K R E D w) (hi : CmdI c) (hk : c.k = 1)
    (hv : Src w v 1 (btBytes (cmdL c)).length ((btBytes (cmdL c)).map u8)) (hn : 0 ≤ now ∧ now ≤ 1000000) :
    Calls Try.prog 11 #[.pointer (some ⟨p, 0, none⟩), v] w (AppT N base p ps mk mr me md serial bugs stamps (StampP stamps now K R E D) w) :=
  (apply_stamp c w h.s hi hk hv hn h.sep).mono fun _ _ hq => AppQ.typed h (fun _ _ _ _ _ _ hp => ⟨hp.2.1, hp.2.2.1⟩) hq
theorem ShT.dec4 {N base p ps mk mr me md : Nat} {serial : Bool} {bugs stamps now : Int} {K : KeysL} {R : RdyL} {E D : EndL} (c : Cmd21) {v : Value} (w : World) (h : ShT N base p ps mk mr me md serial bugs stamps now K R E D w) (hi : CmdI c) (hk : c.k = 4)
    (hv : Src w v 1 (btBytes (cmdL c)).length ((btBytes (cmdL c)).map u8)) :
    Calls Try.prog 11 #[.pointer (some ⟨p, 0, none⟩), v] w (AppT N base p ps mk mr me md serial bugs stamps (DecideP bugs now K R E D c.e) w) :=
  (apply_decide c w h.s hi hk hv).mono fun _ _ hq => AppQ.typed h (fun _ _ _ _ _ _ hp => ⟨hp.2.2.1, hp.2.2.2.1⟩) hq
end Go.Proofs.Ytdkkpkgfiodlbaa

namespace Go.Proofs.Ytdkkpkgfiodlbaa
open Go.RowKit Go.Maps

def FinishP (now : Int) (K : KeysL) (R : RdyL) (E D : EndL) (e : EndM) (a : Ans) (now' : Int) (K' : KeysL) (R' : RdyL) (E' D' : EndL) : Prop :=
  a = ⟨0, [], 0, 0, 0, zeroE'⟩ ∧ now' = now ∧ FinM K R E e K' R' E' ∧ D' = D
set_option maxRecDepth 100000 in
set_option maxHeartbeats 8000000 in
theorem ShT.finish {N base p ps mk mr me md : Nat} {serial : Bool} {bugs stamps now : Int} {K : KeysL} {R : RdyL} {E D : EndL} (c : Cmd21) {v : Value} (w : World) (h : ShT N base p ps mk mr me md serial bugs stamps now K R E D w) (hi : CmdI c) (hk : c.k = 5)
    (hv : Src w v 1 (btBytes (cmdL c)).length ((btBytes (cmdL c)).map u8)) {n : Nat} (hn : n ≤ 1000) (hI : ShI n K R) :
    Calls Try.prog 11 #[.pointer (some ⟨p, 0, none⟩), v] w (AppT N base p ps mk mr me md serial bugs stamps (FinishP now K R E D c.e) w) := by
  have HI := Lib.hid hi
  have HK := Lib.hid hk
  have HH := Lib.hid (h.later ((Below.refl w.heap.size w).alloc (Nat.le_refl _) (.cells ansZ 37)))
  have HV := Lib.hid (hv.below ((Below.refl w.heap.size w).alloc (Nat.le_refl _) (.cells ansZ 37)))
  have HA0 := Lib.hid (Bt.alloc_at w (.cells ansZ 37))
  have HB0 := Lib.hid ((Below.refl w.heap.size w).alloc (Nat.le_refl _) (.cells ansZ 37))
  have hcl : (btBytes (cmdL c)).length ≤ 1048576 := by rw [btBytes_length]; have := cmdL_length hi; omega
  obtain ⟨bs, hbs⟩ : ∃ bs, bs = btBytes (cmdL c) := ⟨_, rfl⟩
  rw [← hbs] at HV hcl
  have HBS := Lib.hid hbs
  have hpw : p < w.heap.size := (Array.getElem?_eq_some_iff.1 h.s.blk).1
  have H0 := Lib.hid h
  have HII := Lib.hid hI
  clear h hi hk hv hbs hI
  go_enter Try.func11, Try.ntmps11
  go_upto_region 1 with fail
  generalize w.alloc (.cells ansZ 37) = w1 at *
  obtain ⟨A, hA⟩ : ∃ A, A = w.heap.size := ⟨_, rfl⟩
  rw [← hA] at HA0 ⊢
  have HAE := Lib.hid hA
  have hAw : A < w1.heap.size := (Array.getElem?_eq_some_iff.1 HA0.out).1
  clear hA
  go_wp2_with fail
  refine (shRead_call (bs := bs) w1 HV.out (by rw [HBS.out]; exact btBytes_lt _) hcl).mono ?_
  rintro e2 w2 ⟨c', wv, rv, err, rfl, hrd⟩
  rw [HBS.out] at hrd
  obtain ⟨rfl, rfl⟩ := (cmd_back HI.out hrd).1 ⟨by rw [HK.out]; decide, by rw [HK.out]; decide⟩
  have hkl := killK_len c.r
  have hows : w2.ownsRow w1.heap.size 104 3 wv c.r.writes.length ((killK c.r).writes.flatMap opV) := by have := hrd.ws; unfold OwOps at this; rw [show (killC c).r.writes.length = c.r.writes.length from hkl] at this; exact this
  have hors : w2.ownsRow w1.heap.size 3 1 rv c.r.reads.length (c.r.reads.flatMap viC) := hrd.rs
  obtain ⟨aw, cw, rfl⟩ := Bt.own_shape hows
  obtain ⟨ar, cr, rfl⟩ := Bt.own_shape hors
  have HWS := Lib.hid hrd.ws
  have HRS := Lib.hid hrd.rs
  have HH2 := Lib.hid (HH.out.later hrd.bel)
  have HA2 := Lib.hid ((hrd.bel.block A hAw).trans HA0.out)
  have HB2 := Lib.hid (HB0.out.trans (hrd.bel.mono HB0.out.size))
  have hA2w : A < w2.heap.size := Nat.lt_of_lt_of_le hAw hrd.bel.size
  have hw12 := hrd.bel.size
  have HKL := Lib.hid hkl
  clear hrd hkl hows hors HH HA0 HB0 HV
  unfold cmdV cmdC
  dsimp only [killC, killK]
  have HC3 := Lib.hid (Bt.alloc_at w2 (.cells #[vi c.k, vi c.r.txn, vi c.r.home, vi c.r.start, .slice aw c.r.writes.length cw, .slice ar c.r.reads.length cr, vi c.e.txn, .bool c.e.commit, vi c.e.at_] 33))
  have HH3 := Lib.hid (HH2.out.later ((Below.refl w2.heap.size w2).alloc (Nat.le_refl _) (.cells #[vi c.k, vi c.r.txn, vi c.r.home, vi c.r.start, .slice aw c.r.writes.length cw, .slice ar c.r.reads.length cr, vi c.e.txn, .bool c.e.commit, vi c.e.at_] 33)))
  have HA3 := Lib.hid ((Below.heap_alloc w2 (.cells #[vi c.k, vi c.r.txn, vi c.r.home, vi c.r.start, .slice aw c.r.writes.length cw, .slice ar c.r.reads.length cr, vi c.e.txn, .bool c.e.commit, vi c.e.at_] 33) A hA2w).trans HA2.out)
  have HB3 := Lib.hid (HB2.out.alloc HB2.out.size (.cells #[vi c.k, vi c.r.txn, vi c.r.home, vi c.r.start, .slice aw c.r.writes.length cw, .slice ar c.r.reads.length cr, vi c.e.txn, .bool c.e.commit, vi c.e.at_] 33))
  have HWS3 := Lib.hid (own_below HWS.out ((Below.refl w2.heap.size w2).alloc (Nat.le_refl _) (.cells #[vi c.k, vi c.r.txn, vi c.r.home, vi c.r.start, .slice aw c.r.writes.length cw, .slice ar c.r.reads.length cr, vi c.e.txn, .bool c.e.commit, vi c.e.at_] 33)))
  have HRS3 := Lib.hid (own_below HRS.out ((Below.refl w2.heap.size w2).alloc (Nat.le_refl _) (.cells #[vi c.k, vi c.r.txn, vi c.r.home, vi c.r.start, .slice aw c.r.writes.length cw, .slice ar c.r.reads.length cr, vi c.e.txn, .bool c.e.commit, vi c.e.at_] 33)))
  go_upto_region 4 with fail
  clear HH2 HA2 HB2 HWS HRS
  generalize w2.alloc (.cells #[vi c.k, vi c.r.txn, vi c.r.home, vi c.r.start, .slice aw c.r.writes.length cw, .slice ar c.r.reads.length cr, vi c.e.txn, .bool c.e.commit, vi c.e.at_] 33) = w3 at *
  have hC3w : w2.heap.size < w3.heap.size := (Array.getElem?_eq_some_iff.1 HC3.out).1
  obtain ⟨C, hC⟩ : ∃ C, C = w2.heap.size := ⟨_, rfl⟩
  rw [← hC] at HC3 hC3w ⊢
  have HCE := Lib.hid hC
  have hAC : A ≠ C := by omega
  have hpA : p < A := by have := HAE.out; omega
  clear hC
  have k0 : w3.cell? ⟨C, 0, none⟩ = some (vi c.k) := by rw [Bt.cell_of HC3.out]; rfl
  have b1 : (c.k == 1) = false := by rw [HK.out]; rfl
  have b2 : (c.k == 2) = false := by rw [HK.out]; rfl
  have b3 : (c.k == 3) = false := by rw [HK.out]; rfl
  have b4 : (c.k == 4) = false := by rw [HK.out]; rfl
  have hBw : w.heap.size ≤ w3.heap.size := HB3.out.size
  have q0 : w3.cell? ⟨p, 0, none⟩ = some (.pointer (some ⟨ps, 0, none⟩)) := by rw [cell_of HH3.out.s.blk]; rfl
  have z6 : w3.cell? ⟨C, 6, none⟩ = some (vi c.e.txn) := by rw [Bt.cell_of HC3.out]; rfl
  have z7 : w3.cell? ⟨C, 7, none⟩ = some (.bool c.e.commit) := by rw [Bt.cell_of HC3.out]; rfl
  have z8 : w3.cell? ⟨C, 8, none⟩ = some (vi c.e.at_) := by rw [Bt.cell_of HC3.out]; rfl
  have HH3d := Lib.hid (HH3.out.later ((Below.refl w3.heap.size w3).drew))
  go_upto_region 32 with fail
  have HLN := Lib.hid (show ∀ key, (verOf K key).length ≤ 524288 from fun k => by have := HII.out.len k; omega)
  have HWL := Lib.hid (show ∀ y ∈ R, y.2.r.writes.length ≤ 524288 ∧ ∀ o ∈ y.2.r.writes, i64 o.key from fun y hy => ⟨Nat.le_trans (HII.out.small y hy).1 (by decide), (HII.out.small y hy).2.2.1⟩)
  have HMO := Lib.hid (show ∀ k ∈ [mk, mr, me], ∃ es c, w3.drew.heap[k]? = some (.map es c) from fun k hk => by
    simp at hk
    rcases hk with rfl | rfl | rfl
    · exact HH3d.out.s.st.keys.obj
    · exact HH3d.out.s.st.ready.obj
    · exact HH3d.out.s.st.ends.obj)
  have HS3 := Lib.hid (show ∀ W, Solid w3 W → W.cell? ⟨p, 0, none⟩ = some (.pointer (some ⟨ps, 0, none⟩)) ∧ W.cell? ⟨C, 6, none⟩ = some (vi c.e.txn) ∧ W.cell? ⟨C, 7, none⟩ = some (.bool c.e.commit) ∧ W.cell? ⟨C, 8, none⟩ = some (vi c.e.at_) from fun W hW => ⟨hW.cell q0, hW.cell z6, hW.cell z7, hW.cell z8⟩)
  have HD := Lib.hid (show Solid w3 w3.drew from Solid.below ((Below.refl w3.heap.size w3).drew))
  have hpA' : p ≠ A := by omega
  have hCA : C ≠ A := by omega
  clear q0 z6 z7 z8 k0
  go_region_held3 (fun W : World => W.cell? ⟨p, 0, none⟩ = some (.pointer (some ⟨ps, 0, none⟩)) ∧ W.cell? ⟨C, 6, none⟩ = some (vi c.e.txn) ∧ W.cell? ⟨C, 7, none⟩ = some (.bool c.e.commit) ∧ W.cell? ⟨C, 8, none⟩ = some (vi c.e.at_))
    (first | with_reducible exact HS3.out _ HD.out | with_reducible exact HS3.out _ (Solid.refl w3) | with_reducible exact HS3.out _ HSO5.out | with_reducible exact HSZ.out)
    (first | (go_at_call 32; (with_reducible refine (finish_raw c.e w3.drew HH3d.out.s.st HI.out.e.txn HI.out.e.at_ HII.out.srt HLN.out HWL.out).mono ?_); rintro e5 w5 ⟨K', R', E', rfl, hfm, hm5, ht5, hk5⟩; have HFM := Lib.hid hfm; have HT5 := Lib.hid ht5; have hso := (ht5.solid HMO.out); have HSO5 := Lib.hid (HD.out.trans hso); have hA5 := hso _ _ _ _ (show w3.drew.heap[A]? = _ from HA3.out); have HA5 := Lib.hid hA5; have x0 : w5.cell? ⟨A, 0, none⟩ = some (vi 0) := (by rw [Bt.cell_of hA5]; rfl); have x1 : w5.cell? ⟨A, 1, none⟩ = some (.slice none 0 0) := (by rw [Bt.cell_of hA5]; rfl); have x2 : w5.cell? ⟨A, 2, none⟩ = some (vi 0) := (by rw [Bt.cell_of hA5]; rfl); have x3 : w5.cell? ⟨A, 3, none⟩ = some (vi 0) := (by rw [Bt.cell_of hA5]; rfl); have x4 : w5.cell? ⟨A, 4, none⟩ = some (vi 0) := (by rw [Bt.cell_of hA5]; rfl); have x5 : w5.cell? ⟨A, 5, none⟩ = some (vi 0) := (by rw [Bt.cell_of hA5]; rfl); have x6 : w5.cell? ⟨A, 6, none⟩ = some (.bool false) := (by rw [Bt.cell_of hA5]; rfl); have x7 : w5.cell? ⟨A, 7, none⟩ = some (vi 0) := (by rw [Bt.cell_of hA5]; rfl); have xf : ∀ o, w5.frozen? ⟨A, o, none⟩ = false := (fun o => free_of hA5 o); obtain ⟨k0', k6', k7', k8'⟩ := HS3.out _ HSO5.out; have HSZ := Lib.hid (show ((((((((w5.setCell ⟨A, 0, none⟩ (vi 0)).setCell ⟨A, 1, none⟩ (.slice none 0 0)).setCell ⟨A, 2, none⟩ (vi 0)).setCell ⟨A, 3, none⟩ (vi 0)).setCell ⟨A, 4, none⟩ (vi 0)).setCell ⟨A, 5, none⟩ (vi 0)).setCell ⟨A, 6, none⟩ (.bool false)).setCell ⟨A, 7, none⟩ (vi 0)).cell? ⟨p, 0, none⟩ = some (.pointer (some ⟨ps, 0, none⟩)) ∧ ((((((((w5.setCell ⟨A, 0, none⟩ (vi 0)).setCell ⟨A, 1, none⟩ (.slice none 0 0)).setCell ⟨A, 2, none⟩ (vi 0)).setCell ⟨A, 3, none⟩ (vi 0)).setCell ⟨A, 4, none⟩ (vi 0)).setCell ⟨A, 5, none⟩ (vi 0)).setCell ⟨A, 6, none⟩ (.bool false)).setCell ⟨A, 7, none⟩ (vi 0)).cell? ⟨C, 6, none⟩ = some (vi c.e.txn) ∧ ((((((((w5.setCell ⟨A, 0, none⟩ (vi 0)).setCell ⟨A, 1, none⟩ (.slice none 0 0)).setCell ⟨A, 2, none⟩ (vi 0)).setCell ⟨A, 3, none⟩ (vi 0)).setCell ⟨A, 4, none⟩ (vi 0)).setCell ⟨A, 5, none⟩ (vi 0)).setCell ⟨A, 6, none⟩ (.bool false)).setCell ⟨A, 7, none⟩ (vi 0)).cell? ⟨C, 7, none⟩ = some (.bool c.e.commit) ∧ ((((((((w5.setCell ⟨A, 0, none⟩ (vi 0)).setCell ⟨A, 1, none⟩ (.slice none 0 0)).setCell ⟨A, 2, none⟩ (vi 0)).setCell ⟨A, 3, none⟩ (vi 0)).setCell ⟨A, 4, none⟩ (vi 0)).setCell ⟨A, 5, none⟩ (vi 0)).setCell ⟨A, 6, none⟩ (.bool false)).setCell ⟨A, 7, none⟩ (vi 0)).cell? ⟨C, 8, none⟩ = some (vi c.e.at_) from ⟨chain8_cell k0' hpA', chain8_cell k6' hCA, chain8_cell k7' hCA, chain8_cell k8' hCA⟩); clear k0' k6' k7' k8'; have HST := Lib.hid (HH3d.out.store hm5 ht5 (fun y hy => (hk5 y hy).imp id (fun h1 => own_mono h1 HH3d.out.nw)) (fin_sub hfm)); clear hfm hm5 ht5 hk5 hso hA5))
  all_goals
    go_wp2
    change bodyPost _ _ _ _ _ (w5.setCells A 0 [vi 0, .slice none 0 0, vi 0, vi 0, vi 0, vi 0, .bool false, vi 0])
    have HSF := Lib.hid (HST.out.setA HA5.out [vi 0, .slice none 0 0, vi 0, vi 0, vi 0, vi 0, .bool false, vi 0])
    have HTF := Lib.hid (fin_turns (A := A) (us := [vi 0, .slice none 0 0, vi 0, vi 0, vi 0, vi 0, .bool false, vi 0]) (HB3.out.trans ((Below.refl w3.heap.size w3).drew.mono hBw)) HT5.out (by rw [HAE.out]; exact Nat.le_refl _))
    have HZC := Lib.hid (show (w5.setCells A 0 [vi 0, .slice none 0 0, vi 0, vi 0, vi 0, vi 0, .bool false, vi 0]).heap[A]? = some (.cells #[vi 0, .slice none 0 0, vi 0, vi 0, vi 0, vi 0, .bool false, vi 0] 37) from setCells_all (cs := [vi 0, .slice none 0 0, vi 0, vi 0, vi 0, vi 0, .bool false, vi 0]) HA5.out rfl)
    clear x0 x1 x2 x3 x4 x5 x6 x7 xf HSZ
    generalize w5.setCells A 0 [vi 0, .slice none 0 0, vi 0, vi 0, vi 0, vi 0, .bool false, vi 0] = wz at *
    have r0 : wz.cell? ⟨A, 0, none⟩ = some (vi 0) := by rw [Bt.cell_of HZC.out]; rfl
    have r1 : wz.cell? ⟨A, 1, none⟩ = some (.slice none 0 0) := by rw [Bt.cell_of HZC.out]; rfl
    have r2 : wz.cell? ⟨A, 2, none⟩ = some (vi 0) := by rw [Bt.cell_of HZC.out]; rfl
    have r3 : wz.cell? ⟨A, 3, none⟩ = some (vi 0) := by rw [Bt.cell_of HZC.out]; rfl
    have r4 : wz.cell? ⟨A, 4, none⟩ = some (vi 0) := by rw [Bt.cell_of HZC.out]; rfl
    have r5 : wz.cell? ⟨A, 5, none⟩ = some (vi 0) := by rw [Bt.cell_of HZC.out]; rfl
    have r6 : wz.cell? ⟨A, 6, none⟩ = some (.bool false) := by rw [Bt.cell_of HZC.out]; rfl
    have r7 : wz.cell? ⟨A, 7, none⟩ = some (vi 0) := by rw [Bt.cell_of HZC.out]; rfl
    refine bodyPost_ret (v := ansV ⟨0, [], 0, 0, 0, zeroE'⟩ (.slice none 0 0)) (by simp [results, Try.results11, go_sem, ansV, ansC, r0, r1, r2, r3, r4, r5, r6, r7]) rfl ⟨⟨0, [], 0, 0, 0, zeroE'⟩, .slice none 0 0, now, K', R', E', D, rfl, World.ownsRow_nil _ _ _ _, HSF.out, HTF.out.mono ?_, rfl, rfl, HFM.out, rfl⟩
    intro k hk
    simp at hk ⊢
    rcases hk with rfl | rfl | rfl <;> simp
end Go.Proofs.Ytdkkpkgfiodlbaa

namespace Go.Proofs.Ytdkkpkgfiodlbaa
open Go.RowKit Go.Maps

def BadP (now : Int) (K : KeysL) (R : RdyL) (E D : EndL) (a : Ans) (now' : Int) (K' : KeysL) (R' : RdyL) (E' D' : EndL) : Prop :=
  a = ⟨14, [], 0, 0, 0, zeroE'⟩ ∧ now' = now ∧ K' = K ∧ R' = R ∧ E' = E ∧ D' = D
set_option maxRecDepth 100000 in
set_option maxHeartbeats 8000000 in
theorem ShT.bad {N base p ps mk mr me md : Nat} {serial : Bool} {bugs stamps now : Int} {K : KeysL} {R : RdyL} {E D : EndL} (c : Cmd21) {v : Value} (w : World) (h : ShT N base p ps mk mr me md serial bugs stamps now K R E D w) (hi : CmdI c) (hk : ¬ (1 ≤ c.k ∧ c.k ≤ 5))
    (hv : Src w v 1 (btBytes (cmdL c)).length ((btBytes (cmdL c)).map u8)) :
    Calls Try.prog 11 #[.pointer (some ⟨p, 0, none⟩), v] w (AppT N base p ps mk mr me md serial bugs stamps (BadP now K R E D) w) := by
  have HI := Lib.hid hi
  have HK := Lib.hid hk
  have HH := Lib.hid (h.later ((Below.refl w.heap.size w).alloc (Nat.le_refl _) (.cells ansZ 37)))
  have HV := Lib.hid (hv.below ((Below.refl w.heap.size w).alloc (Nat.le_refl _) (.cells ansZ 37)))
  have HA0 := Lib.hid (Bt.alloc_at w (.cells ansZ 37))
  have HB0 := Lib.hid ((Below.refl w.heap.size w).alloc (Nat.le_refl _) (.cells ansZ 37))
  have hcl : (btBytes (cmdL c)).length ≤ 1048576 := by rw [btBytes_length]; have := cmdL_length hi; omega
  obtain ⟨bs, hbs⟩ : ∃ bs, bs = btBytes (cmdL c) := ⟨_, rfl⟩
  rw [← hbs] at HV hcl
  have HBS := Lib.hid hbs
  have hpw : p < w.heap.size := (Array.getElem?_eq_some_iff.1 h.s.blk).1
  have H0 := Lib.hid h
  clear h hi hk hv hbs
  go_enter Try.func11, Try.ntmps11
  go_upto_region 1 with fail
  generalize w.alloc (.cells ansZ 37) = w1 at *
  obtain ⟨A, hA⟩ : ∃ A, A = w.heap.size := ⟨_, rfl⟩
  rw [← hA] at HA0 ⊢
  have HAE := Lib.hid hA
  have hAw : A < w1.heap.size := (Array.getElem?_eq_some_iff.1 HA0.out).1
  clear hA
  go_wp2_with fail
  refine (shRead_call (bs := bs) w1 HV.out (by rw [HBS.out]; exact btBytes_lt _) hcl).mono ?_
  rintro e2 w2 ⟨c', wv, rv, err, rfl, hrd⟩
  rw [HBS.out] at hrd
  obtain rfl := (cmd_back HI.out hrd).2 HK.out
  obtain rfl := hrd.no (by decide)
  obtain ⟨aw, cw, rfl⟩ := Bt.own_shape (show w2.ownsRow w1.heap.size 104 3 wv 0 [] from hrd.ws)
  obtain ⟨ar, cr, rfl⟩ := Bt.own_shape (show w2.ownsRow w1.heap.size 3 1 rv 0 [] from hrd.rs)
  have HH2 := Lib.hid (HH.out.later hrd.bel)
  have HA2 := Lib.hid ((hrd.bel.block A hAw).trans HA0.out)
  have HB2 := Lib.hid (HB0.out.trans (hrd.bel.mono HB0.out.size))
  have hA2w : A < w2.heap.size := Nat.lt_of_lt_of_le hAw hrd.bel.size
  clear hrd HH HA0 HB0 HV
  unfold cmdV cmdC
  dsimp only [zeroC]
  have HH3 := Lib.hid (HH2.out.later ((Below.refl w2.heap.size w2).alloc (Nat.le_refl _) (.cells #[vi 0, vi 0, vi 0, vi 0, .slice aw 0 cw, .slice ar 0 cr, vi 0, .bool false, vi 0] 33)))
  have HA3 := Lib.hid ((Below.heap_alloc w2 (.cells #[vi 0, vi 0, vi 0, vi 0, .slice aw 0 cw, .slice ar 0 cr, vi 0, .bool false, vi 0] 33) A hA2w).trans HA2.out)
  have HB3 := Lib.hid (HB2.out.alloc HB2.out.size (.cells #[vi 0, vi 0, vi 0, vi 0, .slice aw 0 cw, .slice ar 0 cr, vi 0, .bool false, vi 0] 33))
  go_upto_region 4 with fail
  clear HH2 HA2 HB2
  generalize w2.alloc (.cells #[vi 0, vi 0, vi 0, vi 0, .slice aw 0 cw, .slice ar 0 cr, vi 0, .bool false, vi 0] 33) = w3 at *
  have hBw : w.heap.size ≤ w3.heap.size := HB3.out.size
  have xf : ∀ o, w3.frozen? ⟨A, o, none⟩ = false := fun o => free_of HA3.out o
  have x0 : w3.cell? ⟨A, 0, none⟩ = some (vi 0) := by rw [Bt.cell_of HA3.out]; rfl
  have x1 : w3.cell? ⟨A, 1, none⟩ = some (.slice none 0 0) := by rw [Bt.cell_of HA3.out]; rfl
  have x2 : w3.cell? ⟨A, 2, none⟩ = some (vi 0) := by rw [Bt.cell_of HA3.out]; rfl
  have x3 : w3.cell? ⟨A, 3, none⟩ = some (vi 0) := by rw [Bt.cell_of HA3.out]; rfl
  have x4 : w3.cell? ⟨A, 4, none⟩ = some (vi 0) := by rw [Bt.cell_of HA3.out]; rfl
  have x5 : w3.cell? ⟨A, 5, none⟩ = some (vi 0) := by rw [Bt.cell_of HA3.out]; rfl
  have x6 : w3.cell? ⟨A, 6, none⟩ = some (.bool false) := by rw [Bt.cell_of HA3.out]; rfl
  have x7 : w3.cell? ⟨A, 7, none⟩ = some (vi 0) := by rw [Bt.cell_of HA3.out]; rfl
  go_wp2_with fail
  change bodyPost _ _ _ _ _ (w3.setCells A 0 [vi 14, .slice none 0 0, vi 0, vi 0, vi 0, vi 0, .bool false, vi 0])
  have HSF := Lib.hid (HH3.out.setA HA3.out [vi 14, .slice none 0 0, vi 0, vi 0, vi 0, vi 0, .bool false, vi 0])
  have HTF := Lib.hid (fin_turns (A := A) (us := [vi 14, .slice none 0 0, vi 0, vi 0, vi 0, vi 0, .bool false, vi 0]) (bs := [p, md, mk, mr, me]) HB3.out (Turns.refl _ w3) (by rw [HAE.out]; exact Nat.le_refl _))
  have HZC := Lib.hid (show (w3.setCells A 0 [vi 14, .slice none 0 0, vi 0, vi 0, vi 0, vi 0, .bool false, vi 0]).heap[A]? = some (.cells #[vi 14, .slice none 0 0, vi 0, vi 0, vi 0, vi 0, .bool false, vi 0] 37) from setCells_all (cs := [vi 14, .slice none 0 0, vi 0, vi 0, vi 0, vi 0, .bool false, vi 0]) HA3.out rfl)
  clear x0 x1 x2 x3 x4 x5 x6 x7 xf
  generalize w3.setCells A 0 [vi 14, .slice none 0 0, vi 0, vi 0, vi 0, vi 0, .bool false, vi 0] = wz at *
  have r0 : wz.cell? ⟨A, 0, none⟩ = some (vi 14) := by rw [Bt.cell_of HZC.out]; rfl
  have r1 : wz.cell? ⟨A, 1, none⟩ = some (.slice none 0 0) := by rw [Bt.cell_of HZC.out]; rfl
  have r2 : wz.cell? ⟨A, 2, none⟩ = some (vi 0) := by rw [Bt.cell_of HZC.out]; rfl
  have r3 : wz.cell? ⟨A, 3, none⟩ = some (vi 0) := by rw [Bt.cell_of HZC.out]; rfl
  have r4 : wz.cell? ⟨A, 4, none⟩ = some (vi 0) := by rw [Bt.cell_of HZC.out]; rfl
  have r5 : wz.cell? ⟨A, 5, none⟩ = some (vi 0) := by rw [Bt.cell_of HZC.out]; rfl
  have r6 : wz.cell? ⟨A, 6, none⟩ = some (.bool false) := by rw [Bt.cell_of HZC.out]; rfl
  have r7 : wz.cell? ⟨A, 7, none⟩ = some (vi 0) := by rw [Bt.cell_of HZC.out]; rfl
  exact bodyPost_ret (v := ansV ⟨14, [], 0, 0, 0, zeroE'⟩ (.slice none 0 0)) (by simp [results, Try.results11, go_sem, ansV, ansC, r0, r1, r2, r3, r4, r5, r6, r7]) rfl ⟨⟨14, [], 0, 0, 0, zeroE'⟩, .slice none 0 0, now, K, R, E, D, rfl, World.ownsRow_nil _ _ _ _, HSF.out, HTF.out, rfl, rfl, rfl, rfl, rfl, rfl⟩
end Go.Proofs.Ytdkkpkgfiodlbaa

namespace Go.Proofs.Ytdkkpkgfiodlbaa
open Go.RowKit Go.Maps
/-- Where the end of one who waits is decided. -/
def homeL (L : List Rdy) (by_ : Int) : Int := L.foldl (fun h y => if y.txn = by_ then y.home else h) 0
theorem homeL_snoc (L : List Rdy) (y : Rdy) (by_ : Int) : homeL (L ++ [y]) by_ = if y.txn = by_ then y.home else homeL L by_ := by unfold homeL; rw [List.foldl_append]; rfl
def LockQ (R : RdyL) (by_ err : Int) (w : World) (e : Ending) (w' : World) : Prop :=
  ∃ home, e = .returned (ansV ⟨err, [], 0, by_, home, zeroE'⟩ (.slice none 0 0)) ∧ Below w.heap.size w w' ∧ (err ≠ 60 → home = 0) ∧ (err = 60 → ∃ L, WaitsM R L ∧ home = homeL L by_)
theorem OwR.cellsAt' {b : Nat} {w W : World} {a : Option Addr} {c : Nat} {L : List RV} (h : OwR b w (.slice a L.length c) L) {k : Nat} {y : RV} (hy : L[k]? = some y) (hW : ∀ g, b ≤ g → g < w.heap.size → W.heap[g]? = w.heap[g]?) :
    ∃ g, a = some ⟨g, 0, none⟩ ∧ ∀ i u, (rdyL y)[i]? = some u → W.cell? ⟨g, k * 5 + i, none⟩ = some u := by
  obtain ⟨g, c', e⟩ := own_some h.row (by have := (List.getElem?_eq_some_iff.1 hy).1; omega)
  cases e
  refine ⟨g, rfl, fun i u hu => ?_⟩
  have hlt := h.row.lt g rfl
  have h1 := World.ownsRow.cells h.row (g := g) rfl (k * 5 + i) u (flat_at rdyL 5 (fun _ => rfl) L k i y u hy hu)
  rw [addr_add, Nat.zero_add] at h1
  exact (World.cell?_of_block (a := ⟨g, k * 5 + i, none⟩) (hW g hlt.1 hlt.2)).trans h1
theorem OwR.shapes' {b : Nat} {w : World} {v : Value} {L : List RV} (h : OwR b w v L) {y : RV} (hy : y ∈ L) : ∃ a n c a' n' c', y.wv = .slice a n c ∧ y.rv = .slice a' n' c' := by
  obtain ⟨a, c, h1⟩ := own_shape (h.ws y hy)
  obtain ⟨a', c', h2⟩ := own_shape (h.rs y hy).1
  exact ⟨a, _, c, a', _, c', h1, h2⟩
set_option maxRecDepth 100000 in
set_option maxHeartbeats 8000000 in
theorem locked_call {N base p ps mk mr me md : Nat} {serial : Bool} {bugs stamps now : Int} {K : KeysL} {R : RdyL} {E D : EndL} (by_ err : Int) (w : World) (h : ShT N base p ps mk mr me md serial bugs stamps now K R E D w) {n : Nat} (hn : n ≤ 1000) (hI : ShI n K R) :
    Calls Try.prog 30 #[.pointer (some ⟨p, 0, none⟩), vi by_, vi err] w (LockQ R by_ err w) := by
  have HI := Lib.hid hI
  have HX := Lib.hid (alloc_at w (.cells ansZ 37))
  have HB := Lib.hid ((Below.refl w.heap.size w).alloc (Nat.le_refl _) (.cells ansZ 37))
  have HH := Lib.hid (h.later ((Below.refl w.heap.size w).alloc (Nat.le_refl _) (.cells ansZ 37)))
  clear h hI
  go_enter Try.func30, Try.ntmps30
  go_upto_region 1 with fail
  generalize w.alloc (.cells ansZ 37) = w1 at *
  have hX1 := (Array.getElem?_eq_some_iff.1 HX.out).1
  obtain ⟨X, hX⟩ : ∃ X, X = w.heap.size := ⟨_, rfl⟩
  rw [← hX] at HX hX1 ⊢
  have HXE := Lib.hid hX
  clear hX
  have HY := Lib.hid (alloc_at w1 (.cells #[vi err, .slice none 0 0, vi 0, vi by_, vi 0, vi 0, .bool false, vi 0] 37))
  have HX2 := Lib.hid ((Below.heap_alloc w1 (.cells #[vi err, .slice none 0 0, vi 0, vi by_, vi 0, vi 0, .bool false, vi 0] 37) X hX1).trans HX.out)
  have HB2 := Lib.hid (HB.out.alloc HB.out.size (.cells #[vi err, .slice none 0 0, vi 0, vi by_, vi 0, vi 0, .bool false, vi 0] 37))
  have HH2 := Lib.hid (HH.out.later ((Below.refl w1.heap.size w1).alloc (Nat.le_refl _) (.cells #[vi err, .slice none 0 0, vi 0, vi by_, vi 0, vi 0, .bool false, vi 0] 37)))
  go_upto_region 2 with fail
  clear HX HB HH
  generalize w1.alloc (.cells #[vi err, .slice none 0 0, vi 0, vi by_, vi 0, vi 0, .bool false, vi 0] 37) = w2 at *
  obtain ⟨Y, hY⟩ : ∃ Y, Y = w1.heap.size := ⟨_, rfl⟩
  rw [← hY] at HY ⊢
  have hXY : X ≠ Y := by omega
  have hwY : w.heap.size ≤ Y := by have := HXE.out; omega
  have HYE := Lib.hid hY
  clear hY
  by_cases h60 : err = 60
  · have e1 : (err != 60) = false := by simp [h60]
    have HE := Lib.hid h60
    clear h60
    have p0 : w2.cell? ⟨p, 0, none⟩ = some (.pointer (some ⟨ps, 0, none⟩)) := by rw [cell_of HH2.out.s.blk]; rfl
    have hRl : R.length ≤ 1048576 := by have := HI.out.rlen; omega
    go_wp2_with fail
    refine (waits_call w2 HH2.out.s.st hRl (fun y hy => ⟨Nat.le_trans (HI.out.small y hy).1 (by decide), Nat.le_trans (HI.out.small y hy).2.1 (by decide)⟩)).mono ?_
    rintro e3 w3 ⟨v3, L, rfl, how, hwm, hb3⟩
    obtain ⟨aL, cL, rfl⟩ := own_shape how.row
    have HOW := Lib.hid how
    have HWM := Lib.hid hwm
    have hY2 := (Array.getElem?_eq_some_iff.1 HY.out).1
    have hX2 := (Array.getElem?_eq_some_iff.1 HX2.out).1
    have HY3 := Lib.hid ((hb3.block Y hY2).trans HY.out)
    have HX3 := Lib.hid ((hb3.block X hX2).trans HX2.out)
    have HB3 := Lib.hid (HB2.out.trans (hb3.mono HB2.out.size))
    have hs3 := hb3.size
    have hw2s := HB2.out.size
    have hLl : L.length ≤ 1048576 := by
      obtain ⟨ks, hp, _, hL⟩ := hwm
      have h1 := congrArg List.length hL
      have h2 := hp.length_eq
      simp at h1 h2
      omega
    clear p0 how hwm hb3
    dsimp only
    go_wp2_with fail
    go_loopw [22] (fun i wr => ∃ k : Nat, k ≤ L.length ∧ i = vi k ∧ Hid (wr.heap[Y]? = some (.cells #[vi err, .slice none 0 0, vi 0, vi by_, vi (homeL ((L.take k).map (·.r)) by_), vi 0, .bool false, vi 0] 37) ∧ wr.heap[X]? = some (.cells ansZ 37) ∧ Below w.heap.size w wr ∧ w3.grownBy wr (some Y))) (fun i _ => L.length - (intOf i).toNat)
    case atStart => exact ⟨0, Nat.zero_le _, rfl, Lib.hid ⟨HY3.out, HX3.out, HB3.out, gro_refl _ _⟩⟩
    case round =>
      obtain ⟨wj, rfl⟩ : ∃ wj : World, wj = wr := ⟨_, rfl⟩
      obtain ⟨k, hk, rfl, HJ⟩ := hrel
      by_cases hlt : k < L.length
      · have k1 : decide ((k : Int) < L.length) = true := decide_eq_true (by omega)
        have hki : (k : Int) < L.length := by omega
        have hwk : IntKind.i64.wrap ((k : Int) + 1) = (k : Int) + 1 := IntWalk.i64_in _ (by omega)
        obtain ⟨y, hy⟩ := some_at hlt
        have HYK := Lib.hid (take_at hy)
        obtain ⟨a1, n1, c1, a2, n2, c2, hv1, hv2⟩ := HOW.out.shapes' (List.mem_of_getElem? hy)
        obtain ⟨g, rfl, hcl⟩ := HOW.out.cellsAt' hy (fun g hg hg2 => HJ.out.2.2.2.block g hg2 (fun e => by have := Option.some.inj e; omega))
        have m0 : wj.cell? ⟨g, k * 5, none⟩ = some (vi y.r.txn) := hcl 0 _ rfl
        have m1 : wj.cell? ⟨g, k * 5 + 1, none⟩ = some (vi y.r.home) := hcl 1 _ rfl
        have m2 : wj.cell? ⟨g, k * 5 + 2, none⟩ = some (vi y.r.start) := hcl 2 _ rfl
        have m3 : wj.cell? ⟨g, k * 5 + 3, none⟩ = some (.slice a1 n1 c1) := by rw [← hv1]; exact hcl 3 _ rfl
        have m4 : wj.cell? ⟨g, k * 5 + 4, none⟩ = some (.slice a2 n2 c2) := by rw [← hv2]; exact hcl 4 _ rfl
        clear hcl hy hv1 hv2
        have hYj := (Array.getElem?_eq_some_iff.1 HJ.out.1).1
        have hXj := (Array.getElem?_eq_some_iff.1 HJ.out.2.1).1
        have HZ := Lib.hid (alloc_at wj (.cells #[vi y.r.txn, vi y.r.home, vi y.r.start, .slice a1 n1 c1, .slice a2 n2 c2] 29))
        have HYA := Lib.hid ((Below.heap_alloc wj (.cells #[vi y.r.txn, vi y.r.home, vi y.r.start, .slice a1 n1 c1, .slice a2 n2 c2] 29) Y hYj).trans HJ.out.1)
        have HXA := Lib.hid ((Below.heap_alloc wj (.cells #[vi y.r.txn, vi y.r.home, vi y.r.start, .slice a1 n1 c1, .slice a2 n2 c2] 29) X hXj).trans HJ.out.2.1)
        have HBA := Lib.hid (HJ.out.2.2.1.alloc HJ.out.2.2.1.size (.cells #[vi y.r.txn, vi y.r.home, vi y.r.start, .slice a1 n1 c1, .slice a2 n2 c2] 29))
        have HGA := Lib.hid (gro_trans HJ.out.2.2.2 (World.grownBy_alloc wj (.cells #[vi y.r.txn, vi y.r.home, vi y.r.start, .slice a1 n1 c1, .slice a2 n2 c2] 29) (some Y)))
        go_upto_region 7 with fail
        clear m0 m1 m2 m3 m4 HJ
        generalize wj.alloc (.cells #[vi y.r.txn, vi y.r.home, vi y.r.start, .slice a1 n1 c1, .slice a2 n2 c2] 29) = wa at *
        obtain ⟨Z, hZ⟩ : ∃ Z, Z = wj.heap.size := ⟨_, rfl⟩
        rw [← hZ] at HZ ⊢
        have HZE := Lib.hid hZ
        clear hZ
        have z0 : wa.cell? ⟨Z, 0, none⟩ = some (vi y.r.txn) := by rw [cell_of HZ.out]; rfl
        by_cases hb : y.r.txn = by_
        · have b1 : (y.r.txn == by_) = true := by simp [hb]
          have HBB := Lib.hid hb
          clear hb
          have z1 : wa.cell? ⟨Z, 1, none⟩ = some (vi y.r.home) := by rw [cell_of HZ.out]; rfl
          have y4 : wa.cell? ⟨Y, 4, none⟩ = some (vi (homeL ((L.take k).map (·.r)) by_)) := by rw [cell_of HYA.out]; rfl
          have yf : wa.frozen? ⟨Y, 4, none⟩ = false := free_of HYA.out 4
          go_wp2_with fail
          refine ⟨⟨k + 1, by omega, by go_num, Lib.hid ⟨?_, Bt.cells_other _ HXA.out hXY, HBA.out.setCell hwY _, gro_setP HGA.out _⟩⟩, by simp only [intOf]; omega⟩
          have h1 := Bt.cells_set (o := 4) (vi y.r.home) HYA.out
          refine (show _ = _ from h1).trans ?_
          rw [HYK.out, List.map_append, List.map_cons, List.map_nil, homeL_snoc, if_pos HBB.out]
          rfl
        · have b1 : (y.r.txn == by_) = false := by simp [hb]
          have HBB := Lib.hid hb
          clear hb
          go_wp2_with fail
          refine ⟨⟨k + 1, by omega, by go_num, Lib.hid ⟨?_, HXA.out, HBA.out, HGA.out⟩⟩, by simp only [intOf]; omega⟩
          rw [HYK.out, List.map_append, List.map_cons, List.map_nil, homeL_snoc, if_neg HBB.out]
          exact HYA.out
      · have k1 : decide ((k : Int) < L.length) = false := decide_eq_false (by omega)
        have HKE := Lib.hid (show k = L.length by omega)
        have HXF := Lib.hid HJ.out.2.1
        obtain ⟨hm, hhm⟩ : ∃ hm, hm = homeL ((L.take k).map (·.r)) by_ := ⟨_, rfl⟩
        have HHM := Lib.hid hhm
        have HYF := Lib.hid (show wj.heap[Y]? = some (.cells #[vi err, .slice none 0 0, vi 0, vi by_, vi hm, vi 0, .bool false, vi 0] 37) by rw [hhm]; exact HJ.out.1)
        have HBW := Lib.hid HJ.out.2.2.1
        clear HJ hhm
        have xf : ∀ o, wj.frozen? ⟨X, o, none⟩ = false := fun o => free_of HXF.out o
        have x0 : wj.cell? ⟨X, 0, none⟩ = some (vi 0) := by rw [Bt.cell_of HXF.out]; rfl
        have x1 : wj.cell? ⟨X, 1, none⟩ = some (.slice none 0 0) := by rw [Bt.cell_of HXF.out]; rfl
        have x2 : wj.cell? ⟨X, 2, none⟩ = some (vi 0) := by rw [Bt.cell_of HXF.out]; rfl
        have x3 : wj.cell? ⟨X, 3, none⟩ = some (vi 0) := by rw [Bt.cell_of HXF.out]; rfl
        have x4 : wj.cell? ⟨X, 4, none⟩ = some (vi 0) := by rw [Bt.cell_of HXF.out]; rfl
        have x5 : wj.cell? ⟨X, 5, none⟩ = some (vi 0) := by rw [Bt.cell_of HXF.out]; rfl
        have x6 : wj.cell? ⟨X, 6, none⟩ = some (.bool false) := by rw [Bt.cell_of HXF.out]; rfl
        have x7 : wj.cell? ⟨X, 7, none⟩ = some (vi 0) := by rw [Bt.cell_of HXF.out]; rfl
        have y0 : wj.cell? ⟨Y, 0, none⟩ = some (vi err) := by rw [Bt.cell_of HYF.out]; rfl
        have y1 : wj.cell? ⟨Y, 1, none⟩ = some (.slice none 0 0) := by rw [Bt.cell_of HYF.out]; rfl
        have y2 : wj.cell? ⟨Y, 2, none⟩ = some (vi 0) := by rw [Bt.cell_of HYF.out]; rfl
        have y3 : wj.cell? ⟨Y, 3, none⟩ = some (vi by_) := by rw [Bt.cell_of HYF.out]; rfl
        have y4 : wj.cell? ⟨Y, 4, none⟩ = some (vi hm) := by rw [Bt.cell_of HYF.out]; rfl
        have y5 : wj.cell? ⟨Y, 5, none⟩ = some (vi 0) := by rw [Bt.cell_of HYF.out]; rfl
        have y6 : wj.cell? ⟨Y, 6, none⟩ = some (.bool false) := by rw [Bt.cell_of HYF.out]; rfl
        have y7 : wj.cell? ⟨Y, 7, none⟩ = some (vi 0) := by rw [Bt.cell_of HYF.out]; rfl
        go_wp2_with fail
        change bodyPost _ _ _ _ _ (wj.setCells X 0 [vi err, .slice none 0 0, vi 0, vi by_, vi hm, vi 0, .bool false, vi 0])
        have HZC := Lib.hid (show (wj.setCells X 0 [vi err, .slice none 0 0, vi 0, vi by_, vi hm, vi 0, .bool false, vi 0]).heap[X]? = some (.cells #[vi err, .slice none 0 0, vi 0, vi by_, vi hm, vi 0, .bool false, vi 0] 37) from setCells_all (cs := [vi err, .slice none 0 0, vi 0, vi by_, vi hm, vi 0, .bool false, vi 0]) HXF.out rfl)
        have HBF := Lib.hid (ans_below0 (us := [vi err, .slice none 0 0, vi 0, vi by_, vi hm, vi 0, .bool false, vi 0]) HBW.out (show w.heap.size ≤ X by rw [HXE.out]; exact Nat.le_refl _))
        clear x0 x1 x2 x3 x4 x5 x6 x7 y0 y1 y2 y3 y4 y5 y6 y7 xf
        generalize wj.setCells X 0 [vi err, .slice none 0 0, vi 0, vi by_, vi hm, vi 0, .bool false, vi 0] = wz at *
        have r0 : wz.cell? ⟨X, 0, none⟩ = some (vi err) := by rw [Bt.cell_of HZC.out]; rfl
        have r1 : wz.cell? ⟨X, 1, none⟩ = some (.slice none 0 0) := by rw [Bt.cell_of HZC.out]; rfl
        have r2 : wz.cell? ⟨X, 2, none⟩ = some (vi 0) := by rw [Bt.cell_of HZC.out]; rfl
        have r3 : wz.cell? ⟨X, 3, none⟩ = some (vi by_) := by rw [Bt.cell_of HZC.out]; rfl
        have r4 : wz.cell? ⟨X, 4, none⟩ = some (vi hm) := by rw [Bt.cell_of HZC.out]; rfl
        have r5 : wz.cell? ⟨X, 5, none⟩ = some (vi 0) := by rw [Bt.cell_of HZC.out]; rfl
        have r6 : wz.cell? ⟨X, 6, none⟩ = some (.bool false) := by rw [Bt.cell_of HZC.out]; rfl
        have r7 : wz.cell? ⟨X, 7, none⟩ = some (vi 0) := by rw [Bt.cell_of HZC.out]; rfl
        refine bodyPost_ret (v := ansV ⟨err, [], 0, by_, hm, zeroE'⟩ (.slice none 0 0)) (by simp [results, Try.results30, go_sem, ansV, ansC, r0, r1, r2, r3, r4, r5, r6, r7]) rfl ⟨hm, rfl, HBF.out, fun h => absurd HE.out h, fun _ => ⟨L.map (·.r), HWM.out, ?_⟩⟩
        rw [HHM.out, HKE.out, List.take_length]
  · have e1 : (err != 60) = true := by simp [h60]
    have HE := Lib.hid h60
    have HXF := HX2
    have HYF := HY
    have HBW := HB2
    clear h60
    have xf : ∀ o, w2.frozen? ⟨X, o, none⟩ = false := fun o => free_of HXF.out o
    have x0 : w2.cell? ⟨X, 0, none⟩ = some (vi 0) := by rw [Bt.cell_of HXF.out]; rfl
    have x1 : w2.cell? ⟨X, 1, none⟩ = some (.slice none 0 0) := by rw [Bt.cell_of HXF.out]; rfl
    have x2 : w2.cell? ⟨X, 2, none⟩ = some (vi 0) := by rw [Bt.cell_of HXF.out]; rfl
    have x3 : w2.cell? ⟨X, 3, none⟩ = some (vi 0) := by rw [Bt.cell_of HXF.out]; rfl
    have x4 : w2.cell? ⟨X, 4, none⟩ = some (vi 0) := by rw [Bt.cell_of HXF.out]; rfl
    have x5 : w2.cell? ⟨X, 5, none⟩ = some (vi 0) := by rw [Bt.cell_of HXF.out]; rfl
    have x6 : w2.cell? ⟨X, 6, none⟩ = some (.bool false) := by rw [Bt.cell_of HXF.out]; rfl
    have x7 : w2.cell? ⟨X, 7, none⟩ = some (vi 0) := by rw [Bt.cell_of HXF.out]; rfl
    have y0 : w2.cell? ⟨Y, 0, none⟩ = some (vi err) := by rw [Bt.cell_of HYF.out]; rfl
    have y1 : w2.cell? ⟨Y, 1, none⟩ = some (.slice none 0 0) := by rw [Bt.cell_of HYF.out]; rfl
    have y2 : w2.cell? ⟨Y, 2, none⟩ = some (vi 0) := by rw [Bt.cell_of HYF.out]; rfl
    have y3 : w2.cell? ⟨Y, 3, none⟩ = some (vi by_) := by rw [Bt.cell_of HYF.out]; rfl
    have y4 : w2.cell? ⟨Y, 4, none⟩ = some (vi 0) := by rw [Bt.cell_of HYF.out]; rfl
    have y5 : w2.cell? ⟨Y, 5, none⟩ = some (vi 0) := by rw [Bt.cell_of HYF.out]; rfl
    have y6 : w2.cell? ⟨Y, 6, none⟩ = some (.bool false) := by rw [Bt.cell_of HYF.out]; rfl
    have y7 : w2.cell? ⟨Y, 7, none⟩ = some (vi 0) := by rw [Bt.cell_of HYF.out]; rfl
    go_wp2_with fail
    change bodyPost _ _ _ _ _ (w2.setCells X 0 [vi err, .slice none 0 0, vi 0, vi by_, vi 0, vi 0, .bool false, vi 0])
    have HZC := Lib.hid (show (w2.setCells X 0 [vi err, .slice none 0 0, vi 0, vi by_, vi 0, vi 0, .bool false, vi 0]).heap[X]? = some (.cells #[vi err, .slice none 0 0, vi 0, vi by_, vi 0, vi 0, .bool false, vi 0] 37) from setCells_all (cs := [vi err, .slice none 0 0, vi 0, vi by_, vi 0, vi 0, .bool false, vi 0]) HXF.out rfl)
    have HBF := Lib.hid (ans_below0 (us := [vi err, .slice none 0 0, vi 0, vi by_, vi 0, vi 0, .bool false, vi 0]) HBW.out (show w.heap.size ≤ X by rw [HXE.out]; exact Nat.le_refl _))
    clear x0 x1 x2 x3 x4 x5 x6 x7 y0 y1 y2 y3 y4 y5 y6 y7 xf
    generalize w2.setCells X 0 [vi err, .slice none 0 0, vi 0, vi by_, vi 0, vi 0, .bool false, vi 0] = wz at *
    have r0 : wz.cell? ⟨X, 0, none⟩ = some (vi err) := by rw [Bt.cell_of HZC.out]; rfl
    have r1 : wz.cell? ⟨X, 1, none⟩ = some (.slice none 0 0) := by rw [Bt.cell_of HZC.out]; rfl
    have r2 : wz.cell? ⟨X, 2, none⟩ = some (vi 0) := by rw [Bt.cell_of HZC.out]; rfl
    have r3 : wz.cell? ⟨X, 3, none⟩ = some (vi by_) := by rw [Bt.cell_of HZC.out]; rfl
    have r4 : wz.cell? ⟨X, 4, none⟩ = some (vi 0) := by rw [Bt.cell_of HZC.out]; rfl
    have r5 : wz.cell? ⟨X, 5, none⟩ = some (vi 0) := by rw [Bt.cell_of HZC.out]; rfl
    have r6 : wz.cell? ⟨X, 6, none⟩ = some (.bool false) := by rw [Bt.cell_of HZC.out]; rfl
    have r7 : wz.cell? ⟨X, 7, none⟩ = some (vi 0) := by rw [Bt.cell_of HZC.out]; rfl
    exact bodyPost_ret (v := ansV ⟨err, [], 0, by_, 0, zeroE'⟩ (.slice none 0 0)) (by simp [results, Try.results30, go_sem, ansV, ansC, r0, r1, r2, r3, r4, r5, r6, r7]) rfl ⟨0, rfl, HBF.out, fun _ => rfl, fun h => absurd h HE.out⟩
end Go.Proofs.Ytdkkpkgfiodlbaa

namespace Go.Proofs.Ytdkkpkgfiodlbaa
open Go.RowKit Go.Maps

def LockP (R : RdyL) (by_ err home : Int) : Prop := (err ≠ 60 → home = 0) ∧ (err = 60 → ∃ L, WaitsM R L ∧ home = homeL L by_)
def PrepP (serial : Bool) (bugs now : Int) (K : KeysL) (R : RdyL) (E D : EndL) (r : Rdy) (a : Ans) (now' : Int) (K' : KeysL) (R' : RdyL) (E' D' : EndL) : Prop :=
  ∃ by_ err home, a = ⟨err, [], 0, by_, home, zeroE'⟩ ∧ PrepM serial bugs K R E (killK r) by_ err R' ∧ LockP R' by_ err home ∧ now' = now ∧ K' = K ∧ E' = E ∧ D' = D
theorem prep_raw {base p mk mr me : Nat} {serial : Bool} {bugs : Int} {K : KeysL} {R : RdyL} {E : EndL} (r : Rdy) (aw ar : Option Addr) (cw cr : Nat) (w : World) (h : MvS base p mk mr me serial bugs K R E w) (hR : R.length ≤ 1048576) (hx : RdyS w ⟨.slice aw r.writes.length cw, .slice ar r.reads.length cr, killK r⟩) (ht : i64 r.txn)
    (hok : ∀ o ∈ (killK r).writes, i64 o.key) (hlw : (killK r).writes.length ≤ 1048576) (hlr : r.reads.length ≤ 1048576) :
    Calls Try.prog 31 #[.pointer (some ⟨p, 0, none⟩), .agg #[vi r.txn, vi r.home, vi r.start, .slice aw r.writes.length cw, .slice ar r.reads.length cr]] w (PrepQ2 base p mk mr me serial bugs K R E (killK r) w) :=
  prep_call2 ⟨.slice aw r.writes.length cw, .slice ar r.reads.length cr, killK r⟩ w h hR hx ht hok hlw hlr
set_option maxRecDepth 100000 in
set_option maxHeartbeats 8000000 in
theorem ShT.prep {N base p ps mk mr me md : Nat} {serial : Bool} {bugs stamps now : Int} {K : KeysL} {R : RdyL} {E D : EndL} (c : Cmd21) {v : Value} (w : World) (h : ShT N base p ps mk mr me md serial bugs stamps now K R E D w) (hi : CmdI c) (hk : c.k = 3)
    (hv : Src w v 1 (btBytes (cmdL c)).length ((btBytes (cmdL c)).map u8)) {n : Nat} (hn : n ≤ 900) (hI : ShI n K R) :
    Calls Try.prog 11 #[.pointer (some ⟨p, 0, none⟩), v] w (AppT N base p ps mk mr me md serial bugs stamps (PrepP serial bugs now K R E D c.r) w) := by
  have HI := Lib.hid hi
  have HK := Lib.hid hk
  have HH := Lib.hid (h.later ((Below.refl w.heap.size w).alloc (Nat.le_refl _) (.cells ansZ 37)))
  have HV := Lib.hid (hv.below ((Below.refl w.heap.size w).alloc (Nat.le_refl _) (.cells ansZ 37)))
  have HA0 := Lib.hid (Bt.alloc_at w (.cells ansZ 37))
  have HB0 := Lib.hid ((Below.refl w.heap.size w).alloc (Nat.le_refl _) (.cells ansZ 37))
  have hcl : (btBytes (cmdL c)).length ≤ 1048576 := by rw [btBytes_length]; have := cmdL_length hi; omega
  obtain ⟨bs, hbs⟩ : ∃ bs, bs = btBytes (cmdL c) := ⟨_, rfl⟩
  rw [← hbs] at HV hcl
  have HBS := Lib.hid hbs
  have hpw : p < w.heap.size := (Array.getElem?_eq_some_iff.1 h.s.blk).1
  have H0 := Lib.hid h
  have HII := Lib.hid hI
  clear h hi hk hv hbs hI
  go_enter Try.func11, Try.ntmps11
  go_upto_region 1 with fail
  generalize w.alloc (.cells ansZ 37) = w1 at *
  obtain ⟨A, hA⟩ : ∃ A, A = w.heap.size := ⟨_, rfl⟩
  rw [← hA] at HA0 ⊢
  have HAE := Lib.hid hA
  have hAw : A < w1.heap.size := (Array.getElem?_eq_some_iff.1 HA0.out).1
  clear hA
  go_wp2_with fail
  refine (shRead_call (bs := bs) w1 HV.out (by rw [HBS.out]; exact btBytes_lt _) hcl).mono ?_
  rintro e2 w2 ⟨c', wv, rv, err, rfl, hrd⟩
  rw [HBS.out] at hrd
  obtain ⟨rfl, rfl⟩ := (cmd_back HI.out hrd).1 ⟨by rw [HK.out]; decide, by rw [HK.out]; decide⟩
  have hkl := killK_len c.r
  have hows : w2.ownsRow w1.heap.size 104 3 wv c.r.writes.length ((killK c.r).writes.flatMap opV) := by have := hrd.ws; unfold OwOps at this; rw [show (killC c).r.writes.length = c.r.writes.length from hkl] at this; exact this
  have hors : w2.ownsRow w1.heap.size 3 1 rv c.r.reads.length (c.r.reads.flatMap viC) := hrd.rs
  obtain ⟨aw, cw, rfl⟩ := Bt.own_shape hows
  obtain ⟨ar, cr, rfl⟩ := Bt.own_shape hors
  have HWS := Lib.hid hrd.ws
  have HRS := Lib.hid hrd.rs
  have HH2 := Lib.hid (HH.out.later hrd.bel)
  have HA2 := Lib.hid ((hrd.bel.block A hAw).trans HA0.out)
  have HB2 := Lib.hid (HB0.out.trans (hrd.bel.mono HB0.out.size))
  have hA2w : A < w2.heap.size := Nat.lt_of_lt_of_le hAw hrd.bel.size
  have hw12 := hrd.bel.size
  have HKL := Lib.hid hkl
  clear hrd hkl hows hors HH HA0 HB0 HV
  unfold cmdV cmdC
  dsimp only [killC, killK]
  have HC3 := Lib.hid (Bt.alloc_at w2 (.cells #[vi c.k, vi c.r.txn, vi c.r.home, vi c.r.start, .slice aw c.r.writes.length cw, .slice ar c.r.reads.length cr, vi c.e.txn, .bool c.e.commit, vi c.e.at_] 33))
  have HH3 := Lib.hid (HH2.out.later ((Below.refl w2.heap.size w2).alloc (Nat.le_refl _) (.cells #[vi c.k, vi c.r.txn, vi c.r.home, vi c.r.start, .slice aw c.r.writes.length cw, .slice ar c.r.reads.length cr, vi c.e.txn, .bool c.e.commit, vi c.e.at_] 33)))
  have HA3 := Lib.hid ((Below.heap_alloc w2 (.cells #[vi c.k, vi c.r.txn, vi c.r.home, vi c.r.start, .slice aw c.r.writes.length cw, .slice ar c.r.reads.length cr, vi c.e.txn, .bool c.e.commit, vi c.e.at_] 33) A hA2w).trans HA2.out)
  have HB3 := Lib.hid (HB2.out.alloc HB2.out.size (.cells #[vi c.k, vi c.r.txn, vi c.r.home, vi c.r.start, .slice aw c.r.writes.length cw, .slice ar c.r.reads.length cr, vi c.e.txn, .bool c.e.commit, vi c.e.at_] 33))
  have HWS3 := Lib.hid (own_below HWS.out ((Below.refl w2.heap.size w2).alloc (Nat.le_refl _) (.cells #[vi c.k, vi c.r.txn, vi c.r.home, vi c.r.start, .slice aw c.r.writes.length cw, .slice ar c.r.reads.length cr, vi c.e.txn, .bool c.e.commit, vi c.e.at_] 33)))
  have HRS3 := Lib.hid (own_below HRS.out ((Below.refl w2.heap.size w2).alloc (Nat.le_refl _) (.cells #[vi c.k, vi c.r.txn, vi c.r.home, vi c.r.start, .slice aw c.r.writes.length cw, .slice ar c.r.reads.length cr, vi c.e.txn, .bool c.e.commit, vi c.e.at_] 33)))
  go_upto_region 4 with fail
  clear HH2 HA2 HB2 HWS HRS
  generalize w2.alloc (.cells #[vi c.k, vi c.r.txn, vi c.r.home, vi c.r.start, .slice aw c.r.writes.length cw, .slice ar c.r.reads.length cr, vi c.e.txn, .bool c.e.commit, vi c.e.at_] 33) = w3 at *
  have hC3w : w2.heap.size < w3.heap.size := (Array.getElem?_eq_some_iff.1 HC3.out).1
  obtain ⟨C, hC⟩ : ∃ C, C = w2.heap.size := ⟨_, rfl⟩
  rw [← hC] at HC3 hC3w ⊢
  have HCE := Lib.hid hC
  have hAC : A ≠ C := by omega
  have hpA : p < A := by have := HAE.out; omega
  clear hC
  have k0 : w3.cell? ⟨C, 0, none⟩ = some (vi c.k) := by rw [Bt.cell_of HC3.out]; rfl
  have b1 : (c.k == 1) = false := by rw [HK.out]; rfl
  have b2 : (c.k == 2) = false := by rw [HK.out]; rfl
  have b3 : (c.k == 3) = true := by rw [HK.out]; rfl
  have b4 : (c.k == 4) = false := by rw [HK.out]; rfl
  have hBw : w.heap.size ≤ w3.heap.size := HB3.out.size
  have q0 : w3.cell? ⟨p, 0, none⟩ = some (.pointer (some ⟨ps, 0, none⟩)) := by rw [cell_of HH3.out.s.blk]; rfl
  have z1 : w3.cell? ⟨C, 1, none⟩ = some (vi c.r.txn) := by rw [Bt.cell_of HC3.out]; rfl
  have z2 : w3.cell? ⟨C, 2, none⟩ = some (vi c.r.home) := by rw [Bt.cell_of HC3.out]; rfl
  have z3 : w3.cell? ⟨C, 3, none⟩ = some (vi c.r.start) := by rw [Bt.cell_of HC3.out]; rfl
  have z4 : w3.cell? ⟨C, 4, none⟩ = some (.slice aw c.r.writes.length cw) := by rw [Bt.cell_of HC3.out]; rfl
  have z5 : w3.cell? ⟨C, 5, none⟩ = some (.slice ar c.r.reads.length cr) := by rw [Bt.cell_of HC3.out]; rfl
  have HH3d := Lib.hid (HH3.out.later ((Below.refl w3.heap.size w3).drew))
  have HS3 := Lib.hid (show ∀ W, Solid w3 W → W.cell? ⟨p, 0, none⟩ = some (.pointer (some ⟨ps, 0, none⟩)) ∧ W.cell? ⟨C, 1, none⟩ = some (vi c.r.txn) ∧ W.cell? ⟨C, 2, none⟩ = some (vi c.r.home) ∧ W.cell? ⟨C, 3, none⟩ = some (vi c.r.start) ∧ W.cell? ⟨C, 4, none⟩ = some (.slice aw c.r.writes.length cw) ∧ W.cell? ⟨C, 5, none⟩ = some (.slice ar c.r.reads.length cr) from fun W hW => ⟨hW.cell q0, hW.cell z1, hW.cell z2, hW.cell z3, hW.cell z4, hW.cell z5⟩)
  have HD := Lib.hid (show Solid w3 w3.drew from Solid.below ((Below.refl w3.heap.size w3).drew))
  have HRL := Lib.hid (show R.length ≤ 1048576 by have := HII.out.rlen; omega)
  have HRD := Lib.hid (show RdyS w3.drew ⟨.slice aw c.r.writes.length cw, .slice ar c.r.reads.length cr, killK c.r⟩ from ⟨(show RdOps w3.drew _ _ from (show OwOps w1.heap.size w3 (.slice aw c.r.writes.length cw) (killK c.r).writes from HWS3.out).rd), (show RdInts w3.drew _ _ from own_rds (enc := viC) (fun _ => rfl) HRS3.out (fun x hx => ⟨rfl, HI.out.r.rs x hx⟩))⟩)
  have HOK := Lib.hid (show ∀ o ∈ (killK c.r).writes, i64 o.key from fun o ho => by obtain ⟨x, hx, rfl⟩ := List.mem_map.1 ho; exact (HI.out.r.ws x hx).2.1)
  have HLW := Lib.hid (show (killK c.r).writes.length ≤ 1048576 by rw [HKL.out]; have := HI.out.lw; omega)
  have HLR := Lib.hid (show c.r.reads.length ≤ 1048576 by have := HI.out.lr; omega)
  clear q0 z1 z2 z3 z4 z5
  go_upto_region 24 with fail
  clear k0
  go_cut [13, 14] (fun b e wx => ∃ by_ err R', b = vi by_ ∧ e = vi err ∧ PrepM serial bugs K R E (killK c.r) by_ err R' ∧ ShT N base p ps mk mr me md serial bugs stamps now K R' E D wx ∧ Solid w3 wx ∧ Turns [mk, mr, me] w3 wx)
  case first =>
    go_region_held3 (fun W : World => W.cell? ⟨p, 0, none⟩ = some (.pointer (some ⟨ps, 0, none⟩)) ∧ W.cell? ⟨C, 1, none⟩ = some (vi c.r.txn) ∧ W.cell? ⟨C, 2, none⟩ = some (vi c.r.home) ∧ W.cell? ⟨C, 3, none⟩ = some (vi c.r.start) ∧ W.cell? ⟨C, 4, none⟩ = some (.slice aw c.r.writes.length cw) ∧ W.cell? ⟨C, 5, none⟩ = some (.slice ar c.r.reads.length cr))
      (first | with_reducible exact HS3.out _ HD.out | with_reducible exact HS3.out _ (Solid.refl w3) | with_reducible exact HS3.out _ HSO4.out)
      (first | (go_at_call 31; (with_reducible refine (prep_raw c.r aw ar cw cr w3.drew HH3d.out.s.st HRL.out HRD.out HI.out.r.txn HOK.out HLW.out HLR.out).mono ?_); rintro e4 w4 ⟨by_, err, R', rfl, hpm, hm4, hg4, hr4⟩; have HPM := Lib.hid hpm; have hso := (Solid.refl w3.drew).map (HH3d.out.s.st.ready.obj.choose_spec.choose_spec) hg4; have HSO4 := Lib.hid (HD.out.trans hso); have HT4 := Lib.hid (show Turns [mk, mr, me] w3 w4 from (Turns.below ((Below.refl w3.heap.size w3).drew)).trans (Turns.grown hg4 (by simp))); have HST := Lib.hid (HH3d.out.store hm4 (Turns.grown hg4 (by simp)) (fun y hy => .inl hy) (fun y hy => (hr4 y hy).imp id (fun h1 => ⟨own_mono h1.1 HH3d.out.nw, own_mono h1.2 HH3d.out.nw⟩))); clear hpm hm4 hg4 hr4 hso))
    all_goals
      go_wp2
      go_meet
      exact ⟨by_, err, R', rfl, rfl, HPM.out, HST.out, HSO4.out, HT4.out⟩
  case rest =>
    obtain ⟨w4, rfl⟩ : ∃ w4 : World, w4 = wc := ⟨_, rfl⟩
    obtain ⟨by_, err, R', rfl, rfl, hpm, hst, hso, htt⟩ := hcut
    have HPM := Lib.hid hpm
    have HST := Lib.hid hst
    have HA4 := Lib.hid (hso _ _ _ _ HA3.out)
    have HT4 := Lib.hid htt
    have HI4 := Lib.hid (HII.out.prep (r := killK c.r) (by rw [HKL.out]; exact HI.out.lw) HI.out.lr HOK.out hpm)
    clear hpm hst hso htt
    go_upto_region 25 with fail
    go_wp2_with fail
    refine (locked_call by_ err w4 HST.out (n := n + 1) (by omega) HI4.out).mono ?_
    rintro e5 w5 ⟨home, rfl, hb5, hl1, hl2⟩
    have HL5 := Lib.hid (show LockP R' by_ err home from ⟨hl1, hl2⟩)
    have HST5 := Lib.hid (HST.out.later hb5)
    have HA5 := Lib.hid ((hb5.block A (Array.getElem?_eq_some_iff.1 HA4.out).1).trans HA4.out)
    have HT5 := Lib.hid (HT4.out.later hb5)
    clear hb5 hl1 hl2
    unfold ansV ansC
    dsimp only
    have xf : ∀ o, w5.frozen? ⟨A, o, none⟩ = false := fun o => free_of HA5.out o
    have x0 : w5.cell? ⟨A, 0, none⟩ = some (vi 0) := by rw [Bt.cell_of HA5.out]; rfl
    have x1 : w5.cell? ⟨A, 1, none⟩ = some (.slice none 0 0) := by rw [Bt.cell_of HA5.out]; rfl
    have x2 : w5.cell? ⟨A, 2, none⟩ = some (vi 0) := by rw [Bt.cell_of HA5.out]; rfl
    have x3 : w5.cell? ⟨A, 3, none⟩ = some (vi 0) := by rw [Bt.cell_of HA5.out]; rfl
    have x4 : w5.cell? ⟨A, 4, none⟩ = some (vi 0) := by rw [Bt.cell_of HA5.out]; rfl
    have x5 : w5.cell? ⟨A, 5, none⟩ = some (vi 0) := by rw [Bt.cell_of HA5.out]; rfl
    have x6 : w5.cell? ⟨A, 6, none⟩ = some (.bool false) := by rw [Bt.cell_of HA5.out]; rfl
    have x7 : w5.cell? ⟨A, 7, none⟩ = some (vi 0) := by rw [Bt.cell_of HA5.out]; rfl
    go_wp2_with fail
    change bodyPost _ _ _ _ _ (w5.setCells A 0 [vi err, .slice none 0 0, vi 0, vi by_, vi home, vi 0, .bool false, vi 0])
    have HSF := Lib.hid (HST5.out.setA HA5.out [vi err, .slice none 0 0, vi 0, vi by_, vi home, vi 0, .bool false, vi 0])
    have HTF := Lib.hid (fin_turns (A := A) (us := [vi err, .slice none 0 0, vi 0, vi by_, vi home, vi 0, .bool false, vi 0]) HB3.out HT5.out (by rw [HAE.out]; exact Nat.le_refl _))
    have HZC := Lib.hid (show (w5.setCells A 0 [vi err, .slice none 0 0, vi 0, vi by_, vi home, vi 0, .bool false, vi 0]).heap[A]? = some (.cells #[vi err, .slice none 0 0, vi 0, vi by_, vi home, vi 0, .bool false, vi 0] 37) from setCells_all (cs := [vi err, .slice none 0 0, vi 0, vi by_, vi home, vi 0, .bool false, vi 0]) HA5.out rfl)
    clear x0 x1 x2 x3 x4 x5 x6 x7 xf
    generalize w5.setCells A 0 [vi err, .slice none 0 0, vi 0, vi by_, vi home, vi 0, .bool false, vi 0] = wz at *
    have r0 : wz.cell? ⟨A, 0, none⟩ = some (vi err) := by rw [Bt.cell_of HZC.out]; rfl
    have r1 : wz.cell? ⟨A, 1, none⟩ = some (.slice none 0 0) := by rw [Bt.cell_of HZC.out]; rfl
    have r2 : wz.cell? ⟨A, 2, none⟩ = some (vi 0) := by rw [Bt.cell_of HZC.out]; rfl
    have r3 : wz.cell? ⟨A, 3, none⟩ = some (vi by_) := by rw [Bt.cell_of HZC.out]; rfl
    have r4 : wz.cell? ⟨A, 4, none⟩ = some (vi home) := by rw [Bt.cell_of HZC.out]; rfl
    have r5 : wz.cell? ⟨A, 5, none⟩ = some (vi 0) := by rw [Bt.cell_of HZC.out]; rfl
    have r6 : wz.cell? ⟨A, 6, none⟩ = some (.bool false) := by rw [Bt.cell_of HZC.out]; rfl
    have r7 : wz.cell? ⟨A, 7, none⟩ = some (vi 0) := by rw [Bt.cell_of HZC.out]; rfl
    refine bodyPost_ret (v := ansV ⟨err, [], 0, by_, home, zeroE'⟩ (.slice none 0 0)) (by simp [results, Try.results11, go_sem, ansV, ansC, r0, r1, r2, r3, r4, r5, r6, r7]) rfl ⟨⟨err, [], 0, by_, home, zeroE'⟩, .slice none 0 0, now, K, R', E, D, rfl, World.ownsRow_nil _ _ _ _, HSF.out, HTF.out.mono ?_, ⟨by_, err, home, rfl, HPM.out, HL5.out, rfl, rfl, rfl, rfl⟩⟩
    intro k hk
    simp at hk ⊢
    rcases hk with rfl | rfl | rfl <;> simp
end Go.Proofs.Ytdkkpkgfiodlbaa

namespace Go.Proofs.Ytdkkpkgfiodlbaa
open Go.RowKit Go.Maps

def GetsM (K : KeysL) (R : RdyL) (bugs txn t : Int) (ks vals : List Int) : Prop := vals.length = ks.length ∧ ∀ (j : Nat) (k v : Int), ks[j]? = some k → vals[j]? = some v → ∃ by_, ReadM K R bugs txn k t v by_ 0
theorem GetsM.snoc {K : KeysL} {R : RdyL} {bugs txn t : Int} {ks vals : List Int} {k v by_ : Int} (h : GetsM K R bugs txn t ks vals) (hr : ReadM K R bugs txn k t v by_ 0) : GetsM K R bugs txn t (ks ++ [k]) (vals ++ [v]) := by
  refine ⟨by simp [h.1], fun j k' v' h1 h2 => ?_⟩
  by_cases hj : j < ks.length
  · rw [List.getElem?_append_left hj] at h1
    rw [List.getElem?_append_left (by rw [h.1]; exact hj)] at h2
    exact h.2 j k' v' h1 h2
  · rw [List.getElem?_append_right (by omega)] at h1
    rw [List.getElem?_append_right (by rw [h.1]; omega), h.1] at h2
    have h0 : j - ks.length = 0 := by have := (List.getElem?_eq_some_iff.1 h1).1; simp at this; omega
    rw [h0] at h1 h2
    simp at h1 h2
    subst h1 h2
    exact ⟨by_, hr⟩
def GetP (bugs now : Int) (K : KeysL) (R : RdyL) (E D : EndL) (r : Rdy) (a : Ans) (now' : Int) (K' : KeysL) (R' : RdyL) (E' D' : EndL) : Prop :=
  ((∃ vals, a = ⟨0, vals, 0, 0, 0, zeroE'⟩ ∧ GetsM K R bugs r.txn r.start r.reads vals) ∨ (∃ j k v by_ err home vals, GetsM K R bugs r.txn r.start (r.reads.take j) vals ∧ r.reads[j]? = some k ∧ ReadM K R bugs r.txn k r.start v by_ err ∧ err ≠ 0 ∧ a = ⟨err, [], 0, by_, home, zeroE'⟩ ∧ LockP R by_ err home)) ∧ now' = now ∧ K' = K ∧ R' = R ∧ E' = E ∧ D' = D
theorem viC_snoc (l : List Int) (x : Int) : (l ++ [x]).flatMap viC = l.flatMap viC ++ [vi x] := by simp [viC]
set_option maxRecDepth 100000 in
set_option maxHeartbeats 8000000 in
theorem ShT.get {N base p ps mk mr me md : Nat} {serial : Bool} {bugs stamps now : Int} {K : KeysL} {R : RdyL} {E D : EndL} (c : Cmd21) {v : Value} (w : World) (h : ShT N base p ps mk mr me md serial bugs stamps now K R E D w) (hi : CmdI c) (hk : c.k = 2)
    (hv : Src w v 1 (btBytes (cmdL c)).length ((btBytes (cmdL c)).map u8)) {n : Nat} (hn : n ≤ 900) (hI : ShI n K R) :
    Calls Try.prog 11 #[.pointer (some ⟨p, 0, none⟩), v] w (AppT N base p ps mk mr me md serial bugs stamps (GetP bugs now K R E D c.r) w) := by
  have HI := Lib.hid hi
  have HK := Lib.hid hk
  have HH := Lib.hid (h.later ((Below.refl w.heap.size w).alloc (Nat.le_refl _) (.cells ansZ 37)))
  have HV := Lib.hid (hv.below ((Below.refl w.heap.size w).alloc (Nat.le_refl _) (.cells ansZ 37)))
  have HA0 := Lib.hid (Bt.alloc_at w (.cells ansZ 37))
  have HB0 := Lib.hid ((Below.refl w.heap.size w).alloc (Nat.le_refl _) (.cells ansZ 37))
  have hcl : (btBytes (cmdL c)).length ≤ 1048576 := by rw [btBytes_length]; have := cmdL_length hi; omega
  obtain ⟨bs, hbs⟩ : ∃ bs, bs = btBytes (cmdL c) := ⟨_, rfl⟩
  rw [← hbs] at HV hcl
  have HBS := Lib.hid hbs
  have hpw : p < w.heap.size := (Array.getElem?_eq_some_iff.1 h.s.blk).1
  have H0 := Lib.hid h
  have HII := Lib.hid hI
  clear h hi hk hv hbs hI
  go_enter Try.func11, Try.ntmps11
  go_upto_region 1 with fail
  generalize w.alloc (.cells ansZ 37) = w1 at *
  obtain ⟨A, hA⟩ : ∃ A, A = w.heap.size := ⟨_, rfl⟩
  rw [← hA] at HA0 ⊢
  have HAE := Lib.hid hA
  have hAw : A < w1.heap.size := (Array.getElem?_eq_some_iff.1 HA0.out).1
  clear hA
  go_wp2_with fail
  refine (shRead_call (bs := bs) w1 HV.out (by rw [HBS.out]; exact btBytes_lt _) hcl).mono ?_
  rintro e2 w2 ⟨c', wv, rv, err, rfl, hrd⟩
  rw [HBS.out] at hrd
  obtain ⟨rfl, rfl⟩ := (cmd_back HI.out hrd).1 ⟨by rw [HK.out]; decide, by rw [HK.out]; decide⟩
  have hkl := killK_len c.r
  have hows : w2.ownsRow w1.heap.size 104 3 wv c.r.writes.length ((killK c.r).writes.flatMap opV) := by have := hrd.ws; unfold OwOps at this; rw [show (killC c).r.writes.length = c.r.writes.length from hkl] at this; exact this
  have hors : w2.ownsRow w1.heap.size 3 1 rv c.r.reads.length (c.r.reads.flatMap viC) := hrd.rs
  obtain ⟨aw, cw, rfl⟩ := Bt.own_shape hows
  obtain ⟨ar, cr, rfl⟩ := Bt.own_shape hors
  have HWS := Lib.hid hrd.ws
  have HRS := Lib.hid hrd.rs
  have HH2 := Lib.hid (HH.out.later hrd.bel)
  have HA2 := Lib.hid ((hrd.bel.block A hAw).trans HA0.out)
  have HB2 := Lib.hid (HB0.out.trans (hrd.bel.mono HB0.out.size))
  have hA2w : A < w2.heap.size := Nat.lt_of_lt_of_le hAw hrd.bel.size
  have hw12 := hrd.bel.size
  have HKL := Lib.hid hkl
  clear hrd hkl hows hors HH HA0 HB0 HV
  unfold cmdV cmdC
  dsimp only [killC, killK]
  have HC3 := Lib.hid (Bt.alloc_at w2 (.cells #[vi c.k, vi c.r.txn, vi c.r.home, vi c.r.start, .slice aw c.r.writes.length cw, .slice ar c.r.reads.length cr, vi c.e.txn, .bool c.e.commit, vi c.e.at_] 33))
  have HH3 := Lib.hid (HH2.out.later ((Below.refl w2.heap.size w2).alloc (Nat.le_refl _) (.cells #[vi c.k, vi c.r.txn, vi c.r.home, vi c.r.start, .slice aw c.r.writes.length cw, .slice ar c.r.reads.length cr, vi c.e.txn, .bool c.e.commit, vi c.e.at_] 33)))
  have HA3 := Lib.hid ((Below.heap_alloc w2 (.cells #[vi c.k, vi c.r.txn, vi c.r.home, vi c.r.start, .slice aw c.r.writes.length cw, .slice ar c.r.reads.length cr, vi c.e.txn, .bool c.e.commit, vi c.e.at_] 33) A hA2w).trans HA2.out)
  have HB3 := Lib.hid (HB2.out.alloc HB2.out.size (.cells #[vi c.k, vi c.r.txn, vi c.r.home, vi c.r.start, .slice aw c.r.writes.length cw, .slice ar c.r.reads.length cr, vi c.e.txn, .bool c.e.commit, vi c.e.at_] 33))
  have HWS3 := Lib.hid (own_below HWS.out ((Below.refl w2.heap.size w2).alloc (Nat.le_refl _) (.cells #[vi c.k, vi c.r.txn, vi c.r.home, vi c.r.start, .slice aw c.r.writes.length cw, .slice ar c.r.reads.length cr, vi c.e.txn, .bool c.e.commit, vi c.e.at_] 33)))
  have HRS3 := Lib.hid (own_below HRS.out ((Below.refl w2.heap.size w2).alloc (Nat.le_refl _) (.cells #[vi c.k, vi c.r.txn, vi c.r.home, vi c.r.start, .slice aw c.r.writes.length cw, .slice ar c.r.reads.length cr, vi c.e.txn, .bool c.e.commit, vi c.e.at_] 33)))
  go_upto_region 4 with fail
  clear HH2 HA2 HB2 HWS HRS
  generalize w2.alloc (.cells #[vi c.k, vi c.r.txn, vi c.r.home, vi c.r.start, .slice aw c.r.writes.length cw, .slice ar c.r.reads.length cr, vi c.e.txn, .bool c.e.commit, vi c.e.at_] 33) = w3 at *
  have hC3w : w2.heap.size < w3.heap.size := (Array.getElem?_eq_some_iff.1 HC3.out).1
  obtain ⟨C, hC⟩ : ∃ C, C = w2.heap.size := ⟨_, rfl⟩
  rw [← hC] at HC3 hC3w ⊢
  have HCE := Lib.hid hC
  have hAC : A ≠ C := by omega
  have hpA : p < A := by have := HAE.out; omega
  clear hC
  have k0 : w3.cell? ⟨C, 0, none⟩ = some (vi c.k) := by rw [Bt.cell_of HC3.out]; rfl
  have b1 : (c.k == 1) = false := by rw [HK.out]; rfl
  have b2 : (c.k == 2) = true := by rw [HK.out]; rfl
  have b3 : (c.k == 3) = false := by rw [HK.out]; rfl
  have b4 : (c.k == 4) = false := by rw [HK.out]; rfl
  have hBw : w.heap.size ≤ w3.heap.size := HB3.out.size
  have q0 : w3.cell? ⟨p, 0, none⟩ = some (.pointer (some ⟨ps, 0, none⟩)) := by rw [cell_of HH3.out.s.blk]; rfl
  have z1 : w3.cell? ⟨C, 1, none⟩ = some (vi c.r.txn) := by rw [Bt.cell_of HC3.out]; rfl
  have z3 : w3.cell? ⟨C, 3, none⟩ = some (vi c.r.start) := by rw [Bt.cell_of HC3.out]; rfl
  have z5 : w3.cell? ⟨C, 5, none⟩ = some (.slice ar c.r.reads.length cr) := by rw [Bt.cell_of HC3.out]; rfl
  have HS3 := Lib.hid (show ∀ W, Below w3.heap.size w3 W → W.cell? ⟨p, 0, none⟩ = some (.pointer (some ⟨ps, 0, none⟩)) ∧ W.cell? ⟨C, 1, none⟩ = some (vi c.r.txn) ∧ W.cell? ⟨C, 3, none⟩ = some (vi c.r.start) from fun W hW => ⟨cell_later hW q0, cell_later hW z1, cell_later hW z3⟩)
  have HRL := Lib.hid (show R.length ≤ 1048576 by have := HII.out.rlen; omega)
  have HRI := Lib.hid (show RdInts w3 (.slice ar c.r.reads.length cr) c.r.reads from own_rds (enc := viC) (fun _ => rfl) HRS3.out (fun x hx => ⟨rfl, HI.out.r.rs x hx⟩))
  have hrl := HI.out.lr
  clear q0 z1 z3
  go_wp2_with fail
  clear k0 z5
  go_loopw [7, 61] (fun vv i wr => ∃ (k : Nat) (vals : List Int), k ≤ c.r.reads.length ∧ i = vi k ∧ Hid (wr.ownsRow w3.heap.size 3 1 vv vals.length (vals.flatMap viC) ∧ Below w3.heap.size w3 wr ∧ vals.length = k ∧ GetsM K R bugs c.r.txn c.r.start (c.r.reads.take k) vals)) (fun _ i _ => c.r.reads.length - (intOf i).toNat)
  case atStart => exact ⟨0, [], Nat.zero_le _, rfl, Lib.hid ⟨World.ownsRow_nil _ _ _ _, Below.refl _ _, rfl, ⟨rfl, fun j k v h1 _ => by simp at h1⟩⟩⟩
  case round =>
    obtain ⟨wj, rfl⟩ : ∃ wj : World, wj = wr := ⟨_, rfl⟩
    obtain ⟨k, vals, hk, rfl, HJ⟩ := hrel
    have hjs := HJ.out.2.1.size
    obtain ⟨av, cv, rfl⟩ := own_shape HJ.out.1
    have hvl := HJ.out.2.2.1
    by_cases hlt : k < c.r.reads.length
    · have k1 : decide ((k : Int) < c.r.reads.length) = true := decide_eq_true (by omega)
      have hki : (k : Int) < c.r.reads.length := by omega
      have hwk : IntKind.i64.wrap ((k : Int) + 1) = (k : Int) + 1 := IntWalk.i64_in _ (by omega)
      have hs1 : vals.length + 1 ≤ 68719476736 := by omega
      have HVL := Lib.hid hvl
      clear hvl
      obtain ⟨key, hkey⟩ := some_at hlt
      have HKY := Lib.hid hkey
      have HTK := Lib.hid (take_at hkey)
      have hik := HI.out.r.rs key (List.mem_of_getElem? hkey)
      obtain ⟨_, _, _, he, _, _, hc⟩ := (HRI.out.later HJ.out.2.1).at
      obtain ⟨g, off, ha, c0, -⟩ := hc k key hkey
      simp only [Value.slice.injEq] at he
      obtain ⟨rfl, -, -⟩ := he
      subst ha
      have HHJ := Lib.hid ((HH3.out.later HJ.out.2.1).later ((Below.refl wj.heap.size wj).drew))
      have HBD := Lib.hid (HJ.out.2.1.trans ((Below.refl w3.heap.size wj).drew))
      clear hc hkey
      go_upto_region 17 with fail
      clear c0
      go_cut [10, 11, 12, 61] from 61 to 91 (fun x y z i wx => i = vi k ∧ ∃ v by_ err, x = vi v ∧ y = vi by_ ∧ z = vi err ∧ ReadM K R bugs c.r.txn key c.r.start v by_ err ∧ Below wj.heap.size wj wx)
      case first =>
        go_region_held3 (fun W : World => W.cell? ⟨p, 0, none⟩ = some (.pointer (some ⟨ps, 0, none⟩)) ∧ W.cell? ⟨C, 1, none⟩ = some (vi c.r.txn) ∧ W.cell? ⟨C, 3, none⟩ = some (vi c.r.start))
          (first | with_reducible exact HS3.out _ HBD.out | with_reducible exact HS3.out _ HJ.out.2.1 | with_reducible exact HS3.out _ HBR.out)
          (first | (go_at_call 29; (with_reducible refine (read_call c.r.txn key c.r.start wj.drew HHJ.out.s.st HRL.out hik).mono ?_); rintro e4 w4 ⟨v, by_, err, rfl, hrm, hb4⟩; have HRM := Lib.hid hrm; have HB4 := Lib.hid (show Below wj.heap.size wj w4 from ((Below.refl wj.heap.size wj).drew).trans hb4); have HBR := Lib.hid (HJ.out.2.1.trans (HB4.out.mono hjs)); clear hrm hb4))
        all_goals
          go_wp2
          go_meet
          exact ⟨rfl, v, by_, err, rfl, rfl, rfl, HRM.out, HB4.out⟩
      case rest =>
        obtain ⟨w4, rfl⟩ : ∃ w4 : World, w4 = wc := ⟨_, rfl⟩
        obtain ⟨rfl, v, by_, err, rfl, rfl, rfl, hrm, hb4⟩ := hcut
        have HRM := Lib.hid hrm
        have HB4 := Lib.hid hb4
        have HB34 := Lib.hid (HJ.out.2.1.trans (hb4.mono hjs))
        have hs4 := hb4.size
        clear hrm hb4
        by_cases h0 : err = 0
        · have e0 : (err != 0) = false := by simp [h0]
          have HE0 := Lib.hid h0
          have HOV := Lib.hid (own_below HJ.out.1 HB4.out)
          clear h0
          go_wp2_with (refine wpList_append_src rfl (.tmp 87) (.tmp 89) 27 rfl eltI w3.heap.size vals.length _ (HOV.out.alloc _) rfl 1 [vi v] (src_new (cs := #[vi v]) rfl rfl) rfl (by intro u hu; simp at hu; subst hu; rfl) hs1 (by omega) (by simp; omega) ?_; intro v5 w5 ho5 hg5 _; have HO5 := Lib.hid ho5; have HG5 := Lib.hid hg5; clear ho5 hg5)
          refine ⟨⟨k + 1, vals ++ [v], by omega, by go_num, Lib.hid ⟨?_, ?_, ?_, ?_⟩⟩, by simp only [intOf]; omega⟩
          · rw [viC_snoc, List.length_append]; exact HO5.out
          · exact HB34.out.trans (((Below.refl _ _).alloc HB34.out.size _).trans (below_grown HG5.out (by simp; omega) (fun j hj => (HOV.out.lt j hj).1)))
          · simp [HVL.out]
          · rw [HTK.out]
            have hr := HRM.out
            rw [HE0.out] at hr
            exact HJ.out.2.2.2.snoc hr
        · have e0 : (err != 0) = true := by simp [h0]
          have HE0 := Lib.hid h0
          have HH4 := Lib.hid (HH3.out.later HB34.out)
          clear h0
          go_upto_region 19 with fail
          go_wp2_with fail
          refine (locked_call by_ err w4 HH4.out (n := n) (by omega) HII.out).mono ?_
          rintro e5 w5 ⟨home, rfl, hb5, hl1, hl2⟩
          have HL5 := Lib.hid (show LockP R by_ err home from ⟨hl1, hl2⟩)
          have HST5 := Lib.hid (HH4.out.later hb5)
          have HB35 := Lib.hid (HB34.out.trans (hb5.mono HB34.out.size))
          have HA5 := Lib.hid ((HB35.out.block A (Array.getElem?_eq_some_iff.1 HA3.out).1).trans HA3.out)
          clear hb5 hl1 hl2
          unfold ansV ansC
          dsimp only
          have xf : ∀ o, w5.frozen? ⟨A, o, none⟩ = false := fun o => free_of HA5.out o
          have x0 : w5.cell? ⟨A, 0, none⟩ = some (vi 0) := by rw [Bt.cell_of HA5.out]; rfl
          have x1 : w5.cell? ⟨A, 1, none⟩ = some (.slice none 0 0) := by rw [Bt.cell_of HA5.out]; rfl
          have x2 : w5.cell? ⟨A, 2, none⟩ = some (vi 0) := by rw [Bt.cell_of HA5.out]; rfl
          have x3 : w5.cell? ⟨A, 3, none⟩ = some (vi 0) := by rw [Bt.cell_of HA5.out]; rfl
          have x4 : w5.cell? ⟨A, 4, none⟩ = some (vi 0) := by rw [Bt.cell_of HA5.out]; rfl
          have x5 : w5.cell? ⟨A, 5, none⟩ = some (vi 0) := by rw [Bt.cell_of HA5.out]; rfl
          have x6 : w5.cell? ⟨A, 6, none⟩ = some (.bool false) := by rw [Bt.cell_of HA5.out]; rfl
          have x7 : w5.cell? ⟨A, 7, none⟩ = some (vi 0) := by rw [Bt.cell_of HA5.out]; rfl
          go_wp2_with fail
          change bodyPost _ _ _ _ _ (w5.setCells A 0 [vi err, .slice none 0 0, vi 0, vi by_, vi home, vi 0, .bool false, vi 0])
          have HSF := Lib.hid (HST5.out.setA HA5.out [vi err, .slice none 0 0, vi 0, vi by_, vi home, vi 0, .bool false, vi 0])
          have HTF := Lib.hid (fin_turns (A := A) (us := [vi err, .slice none 0 0, vi 0, vi by_, vi home, vi 0, .bool false, vi 0]) (bs := [p, md, mk, mr, me]) HB3.out (Turns.below HB35.out) (by rw [HAE.out]; exact Nat.le_refl _))
          have HZC := Lib.hid (show (w5.setCells A 0 [vi err, .slice none 0 0, vi 0, vi by_, vi home, vi 0, .bool false, vi 0]).heap[A]? = some (.cells #[vi err, .slice none 0 0, vi 0, vi by_, vi home, vi 0, .bool false, vi 0] 37) from setCells_all (cs := [vi err, .slice none 0 0, vi 0, vi by_, vi home, vi 0, .bool false, vi 0]) HA5.out rfl)
          clear x0 x1 x2 x3 x4 x5 x6 x7 xf
          generalize w5.setCells A 0 [vi err, .slice none 0 0, vi 0, vi by_, vi home, vi 0, .bool false, vi 0] = wz at *
          have r0 : wz.cell? ⟨A, 0, none⟩ = some (vi err) := by rw [Bt.cell_of HZC.out]; rfl
          have r1 : wz.cell? ⟨A, 1, none⟩ = some (.slice none 0 0) := by rw [Bt.cell_of HZC.out]; rfl
          have r2 : wz.cell? ⟨A, 2, none⟩ = some (vi 0) := by rw [Bt.cell_of HZC.out]; rfl
          have r3 : wz.cell? ⟨A, 3, none⟩ = some (vi by_) := by rw [Bt.cell_of HZC.out]; rfl
          have r4 : wz.cell? ⟨A, 4, none⟩ = some (vi home) := by rw [Bt.cell_of HZC.out]; rfl
          have r5 : wz.cell? ⟨A, 5, none⟩ = some (vi 0) := by rw [Bt.cell_of HZC.out]; rfl
          have r6 : wz.cell? ⟨A, 6, none⟩ = some (.bool false) := by rw [Bt.cell_of HZC.out]; rfl
          have r7 : wz.cell? ⟨A, 7, none⟩ = some (vi 0) := by rw [Bt.cell_of HZC.out]; rfl
          exact bodyPost_ret (v := ansV ⟨err, [], 0, by_, home, zeroE'⟩ (.slice none 0 0)) (by simp [results, Try.results11, go_sem, ansV, ansC, r0, r1, r2, r3, r4, r5, r6, r7]) rfl ⟨⟨err, [], 0, by_, home, zeroE'⟩, .slice none 0 0, now, K, R, E, D, rfl, World.ownsRow_nil _ _ _ _, HSF.out, HTF.out, ⟨.inr ⟨k, key, v, by_, err, home, vals, HJ.out.2.2.2, HKY.out, HRM.out, HE0.out, rfl, HL5.out⟩, rfl, rfl, rfl, rfl, rfl⟩⟩
    · have k1 : decide ((k : Int) < c.r.reads.length) = false := decide_eq_false (by omega)
      have HKE := Lib.hid (show k = c.r.reads.length by omega)
      have HA5 := Lib.hid ((HJ.out.2.1.block A (Array.getElem?_eq_some_iff.1 HA3.out).1).trans HA3.out)
      have HST5 := Lib.hid (HH3.out.later HJ.out.2.1)
      clear hvl
      have xf : ∀ o, wj.frozen? ⟨A, o, none⟩ = false := fun o => free_of HA5.out o
      have x0 : wj.cell? ⟨A, 0, none⟩ = some (vi 0) := by rw [Bt.cell_of HA5.out]; rfl
      have x1 : wj.cell? ⟨A, 1, none⟩ = some (.slice none 0 0) := by rw [Bt.cell_of HA5.out]; rfl
      have x2 : wj.cell? ⟨A, 2, none⟩ = some (vi 0) := by rw [Bt.cell_of HA5.out]; rfl
      have x3 : wj.cell? ⟨A, 3, none⟩ = some (vi 0) := by rw [Bt.cell_of HA5.out]; rfl
      have x4 : wj.cell? ⟨A, 4, none⟩ = some (vi 0) := by rw [Bt.cell_of HA5.out]; rfl
      have x5 : wj.cell? ⟨A, 5, none⟩ = some (vi 0) := by rw [Bt.cell_of HA5.out]; rfl
      have x6 : wj.cell? ⟨A, 6, none⟩ = some (.bool false) := by rw [Bt.cell_of HA5.out]; rfl
      have x7 : wj.cell? ⟨A, 7, none⟩ = some (vi 0) := by rw [Bt.cell_of HA5.out]; rfl
      go_wp2_with fail
      change bodyPost _ _ _ _ _ (wj.setCells A 0 [vi 0, .slice av vals.length cv, vi 0, vi 0, vi 0, vi 0, .bool false, vi 0])
      have HSF := Lib.hid (HST5.out.setA HA5.out [vi 0, .slice av vals.length cv, vi 0, vi 0, vi 0, vi 0, .bool false, vi 0])
      have HTF := Lib.hid (fin_turns (A := A) (us := [vi 0, .slice av vals.length cv, vi 0, vi 0, vi 0, vi 0, .bool false, vi 0]) (bs := [p, md, mk, mr, me]) HB3.out (Turns.below HJ.out.2.1) (by rw [HAE.out]; exact Nat.le_refl _))
      have HOF := Lib.hid (own_setAll HJ.out.1 HA5.out (by decide) 0 [vi 0, .slice av vals.length cv, vi 0, vi 0, vi 0, vi 0, .bool false, vi 0])
      have HZC := Lib.hid (show (wj.setCells A 0 [vi 0, .slice av vals.length cv, vi 0, vi 0, vi 0, vi 0, .bool false, vi 0]).heap[A]? = some (.cells #[vi 0, .slice av vals.length cv, vi 0, vi 0, vi 0, vi 0, .bool false, vi 0] 37) from setCells_all (cs := [vi 0, .slice av vals.length cv, vi 0, vi 0, vi 0, vi 0, .bool false, vi 0]) HA5.out rfl)
      clear x0 x1 x2 x3 x4 x5 x6 x7 xf
      generalize wj.setCells A 0 [vi 0, .slice av vals.length cv, vi 0, vi 0, vi 0, vi 0, .bool false, vi 0] = wz at *
      have r0 : wz.cell? ⟨A, 0, none⟩ = some (vi 0) := by rw [Bt.cell_of HZC.out]; rfl
      have r1 : wz.cell? ⟨A, 1, none⟩ = some (.slice av vals.length cv) := by rw [Bt.cell_of HZC.out]; rfl
      have r2 : wz.cell? ⟨A, 2, none⟩ = some (vi 0) := by rw [Bt.cell_of HZC.out]; rfl
      have r3 : wz.cell? ⟨A, 3, none⟩ = some (vi 0) := by rw [Bt.cell_of HZC.out]; rfl
      have r4 : wz.cell? ⟨A, 4, none⟩ = some (vi 0) := by rw [Bt.cell_of HZC.out]; rfl
      have r5 : wz.cell? ⟨A, 5, none⟩ = some (vi 0) := by rw [Bt.cell_of HZC.out]; rfl
      have r6 : wz.cell? ⟨A, 6, none⟩ = some (.bool false) := by rw [Bt.cell_of HZC.out]; rfl
      have r7 : wz.cell? ⟨A, 7, none⟩ = some (vi 0) := by rw [Bt.cell_of HZC.out]; rfl
      exact bodyPost_ret (v := ansV ⟨0, vals, 0, 0, 0, zeroE'⟩ (.slice av vals.length cv)) (by simp [results, Try.results11, go_sem, ansV, ansC, r0, r1, r2, r3, r4, r5, r6, r7]) rfl ⟨⟨0, vals, 0, 0, 0, zeroE'⟩, .slice av vals.length cv, now, K, R, E, D, rfl, own_mono HOF.out hBw, HSF.out, HTF.out, ⟨.inl ⟨vals, rfl, (by have := HJ.out.2.2.2; rw [HKE.out, List.take_length] at this; exact this)⟩, rfl, rfl, rfl, rfl, rfl⟩⟩
end Go.Proofs.Ytdkkpkgfiodlbaa

namespace Go.Proofs.Ytdkkpkgfiodlbaa
open Go.RowKit Go.Maps
open Go.ChangeShapes Go.WideShapes

def ECmdI (w : World) (cs : List Value) (o : Cmd21) : Prop := ECmd21 w cs o ∧ i64 o.k
abbrev RdCmdI (w : World) (v : Value) (l : List Cmd21) : Prop := RdS 9 ECmdI w v l
theorem RdCmdI.later {A B : World} {v : Value} {l : List Cmd21} (h : RdCmdI A v l) (hb : Below A.heap.size A B) : RdCmdI B v l := RdS.below h hb fun _ _ h => ⟨h.1.later hb, h.2⟩
theorem RdCmdI.at {w : World} {v : Value} {xs : List Cmd21} (h : RdCmdI w v xs) : ∃ a len cap, v = .slice a len cap ∧ len = xs.length ∧ xs.length ≤ 9223372036854775807 ∧ ∀ j x, xs[j]? = some x → ∃ b off wv rv, a = some ⟨b, off, none⟩ ∧ RdyS w ⟨wv, rv, x.r⟩ ∧ RdyI x.r ∧ EndI x.e ∧ i64 x.k ∧
    (∀ i u, (cmd21C x wv rv)[i]? = some u → w.cell? ⟨b, off + (j * 9 + i), none⟩ = some u) := by
  obtain ⟨a, len, cap, h1, h2, h3, h4, h5, h6⟩ := h
  refine ⟨a, len, cap, h1, h2, h3, fun j x hj => ?_⟩
  obtain ⟨b, off, cs, ha, hl, hc, ⟨wv, rv, hcs, hr, hi, he⟩, hk⟩ := h6 j x hj
  exact ⟨b, off, wv, rv, ha, hr, hi, he, hk, fun i u hu => hc i u (by rw [hcs]; exact hu)⟩
set_option maxRecDepth 100000 in
theorem cmdI_cells {H : Type} {enc : TypeId × Value → H} {w : World} {spare : Nat → Bool} {held : Bool} {m : Nat} {cs : List Value} {y : DataW H × List MemPlace} (hl : cs.length = 9) (h : DataW.trod enc Try.prog w 0 spare held m 33 cs = some y) : ∃ o, ECmdI w cs o := by
  obtain ⟨xs, n, _, _, _, hlen, hf⟩ := DataW.trod_struct Try.underlying33 h
  match cs, hl, xs, hlen with
  | [c0, c1, c2, c3, c4, c5, c6, c7, c8], _, [y0, y1, y2], _ =>
    have h0 : DataW.trod enc Try.prog w 0 spare held n 3 (([c0, c1, c2, c3, c4, c5, c6, c7, c8].drop 0).take (Try.prog.cellsOf 3)) = some y0 := hf 0 _ rfl
    have h1 : DataW.trod enc Try.prog w 0 spare held n 29 (([c0, c1, c2, c3, c4, c5, c6, c7, c8].drop 1).take (Try.prog.cellsOf 29)) = some y1 := hf 1 _ rfl
    have h2 : DataW.trod enc Try.prog w 0 spare held n 31 (([c0, c1, c2, c3, c4, c5, c6, c7, c8].drop 6).take (Try.prog.cellsOf 31)) = some y2 := hf 2 _ rfl
    rw [cells_int] at h0
    rw [cells_rdy] at h1
    rw [cells_end] at h2
    obtain ⟨a, rfl, ha⟩ := int_cell h0
    obtain ⟨x, hx, hs, hi⟩ := rdy_cells (by rfl) h1
    obtain ⟨e, he, hei⟩ := end_cells (by rfl) h2
    cases hx
    cases he
    exact ⟨⟨a, x.r, e⟩, ⟨x.wv, x.rv, rfl, hs, hi, hei⟩, ha⟩
set_option maxRecDepth 100000 in
theorem cmdIs_of_row {H : Type} {enc : TypeId × Value → H} {w : World} {spare : Nat → Bool} {held : Bool} {base : Nat} {v : Value} {d : DataW H} {ps : List MemPlace} (hk : Value.okWide Try.prog w .any base 22 v) (h : DataW.Trod enc Try.prog w 0 spare held 22 v d ps) : ∃ l, RdCmdI w v l := by
  obtain ⟨a, l, c, rfl⟩ := okWide_slice Try.underlying22 hk
  obtain ⟨fuel, hf⟩ := h
  exact rds_of_trod Try.underlying22 cells_cmd21 (by omega) hf fun _ _ _ hl hy => cmdI_cells hl hy
theorem rdv_slices21 {W : World} {x : RV} (h : RdyS W x) : ∃ (a : Option Addr) (c : Nat) (a' : Option Addr) (c' : Nat), x.wv = .slice a x.r.writes.length c ∧ x.rv = .slice a' x.r.reads.length c' ∧ x.r.writes.length ≤ 9223372036854775807 ∧ x.r.reads.length ≤ 9223372036854775807 := by
  obtain ⟨a, n, c, h1, h2, h3, -⟩ := h.ws
  obtain ⟨a', n', c', h1', h2', h3', -⟩ := h.rs
  subst h2 h2'
  exact ⟨a, c, a', c', h1, h1', h3, h3'⟩
def bigC (r : Rdy) : Bool := decide (20 < r.writes.length) || decide (20 < r.reads.length)
theorem bigC_false {r : Rdy} (h : bigC r = false) : r.writes.length ≤ 20 ∧ r.reads.length ≤ 20 := by
  unfold bigC at h
  rw [Bool.or_eq_false_iff] at h
  simp at h; exact h
set_option maxRecDepth 100000 in
set_option maxHeartbeats 1000000 in
theorem big21_call (k t at_ : Int) (c : Bool) (aw ar : Option Addr) (cw cr : Nat) (r : Rdy) (w : World) (hw : r.writes.length ≤ 9223372036854775807) (hr : r.reads.length ≤ 9223372036854775807) :
    Calls Try.prog 10 #[.agg #[vi k, vi r.txn, vi r.home, vi r.start, .slice aw r.writes.length cw, .slice ar r.reads.length cr, vi t, .bool c, vi at_]] w fun e w' => e = .returned (.bool (bigC r)) ∧ Below w.heap.size w w' := by
  by_cases h1 : 20 < r.writes.length
  · have h1' : (20 : Int) < (r.writes.length : Int) := by omega
    have HB := Lib.hid (show bigC r = true by simp [bigC, h1])
    clear h1
    go_enter Try.func10, Try.ntmps10
    go_wp2_with fail
    go_ret
    exact ⟨by rw [HB.out]; rfl, (Below.refl _ _).alloc (Nat.le_refl _) _⟩
  · have h1' : ¬ (20 : Int) < (r.writes.length : Int) := by omega
    by_cases h2 : 20 < r.reads.length
    · have h2' : (20 : Int) < (r.reads.length : Int) := by omega
      have HB := Lib.hid (show bigC r = true by simp [bigC, h2])
      clear h1 h2
      go_enter Try.func10, Try.ntmps10
      go_wp2_with fail
      go_ret
      exact ⟨by rw [HB.out]; rfl, (Below.refl _ _).alloc (Nat.le_refl _) _⟩
    · have h2' : ¬ (20 : Int) < (r.reads.length : Int) := by omega
      have HB := Lib.hid (show bigC r = false by simp [bigC, h1, h2])
      clear h1 h2
      go_enter Try.func10, Try.ntmps10
      go_wp2_with fail
      go_ret
      exact ⟨by rw [HB.out]; rfl, (Below.refl _ _).alloc (Nat.le_refl _) _⟩
set_option maxRecDepth 100000 in
set_option maxHeartbeats 1000000 in
theorem now_call {base p ps mk mr me md : Nat} {serial : Bool} {bugs stamps now : Int} {K : KeysL} {R : RdyL} {E D : EndL} (w : World) (h : ShS base p ps mk mr me md serial bugs stamps now K R E D w) :
    Calls Try.prog 13 #[.pointer (some ⟨p, 0, none⟩)] w fun e w' => e = .returned (vi now) ∧ w' = w := by
  have c3 : w.cell? ⟨p, 3, none⟩ = some (vi now) := by rw [cell_of h.blk]; rfl
  clear h
  go_enter Try.func13, Try.ntmps13
  go_wp2_with fail
  go_ret
  exact ⟨rfl, rfl⟩
def AnyP (n : Nat) (k stamps now : Int) (a : Ans) (now' : Int) (K' : KeysL) (R' : RdyL) (_ _ : EndL) : Prop :=
  ShI (n + 1) K' R' ∧ (k = 1 → (now < stamps ∧ a.err = 0 ∧ a.at_ = now + 1 ∧ now' = now + 1) ∨ (stamps ≤ now ∧ a.err = 63 ∧ a.at_ = 0 ∧ now' = now)) ∧ (k ≠ 1 → now' = now)
theorem AppT.imp {N base p ps mk mr me md : Nat} {serial : Bool} {bugs stamps : Int} {P Q : Ans → Int → KeysL → RdyL → EndL → EndL → Prop} {w : World} (hPQ : ∀ a n K R E D, P a n K R E D → Q a n K R E D) {e : Ending} {w' : World} (h : AppT N base p ps mk mr me md serial bugs stamps P w e w') : AppT N base p ps mk mr me md serial bugs stamps Q w e w' := by
  obtain ⟨a, vv, n', K', R', E', D', h1, h2, h3, h4, h5⟩ := h
  exact ⟨a, vv, n', K', R', E', D', h1, h2, h3, h4, hPQ _ _ _ _ _ _ h5⟩
theorem killK_small {r : Rdy} (hi : RdyI r) : ∀ o ∈ (killK r).writes, i64 o.key := by
  intro o ho
  unfold killK at ho
  simp only [List.mem_map] at ho
  obtain ⟨o', h', rfl⟩ := ho
  exact (hi.ws o' h').2.1
theorem ShT.apply {N base p ps mk mr me md : Nat} {serial : Bool} {bugs stamps now : Int} {K : KeysL} {R : RdyL} {E D : EndL} (c : Cmd21) {v : Value} (w : World) (h : ShT N base p ps mk mr me md serial bugs stamps now K R E D w) (hi : CmdI c)
    (hv : Src w v 1 (btBytes (cmdL c)).length ((btBytes (cmdL c)).map u8)) {n : Nat} (hn : n ≤ 900) (hI : ShI n K R) (h0 : 0 ≤ now ∧ now ≤ 1000000) :
    Calls Try.prog 11 #[.pointer (some ⟨p, 0, none⟩), v] w (AppT N base p ps mk mr me md serial bugs stamps (AnyP n c.k stamps now) w) := by
  by_cases k1 : c.k = 1
  · refine (h.stamp c w hi k1 hv h0).mono fun _ _ hq => hq.imp fun a n' K' R' E' D' hp => ?_
    obtain ⟨hp, rfl, rfl, -, -⟩ := hp
    refine ⟨hI.more, fun _ => ?_, fun h => absurd k1 h⟩
    rcases hp with ⟨h1, rfl, h2⟩ | ⟨h1, rfl, h2⟩
    · exact .inl ⟨h1, rfl, rfl, h2⟩
    · exact .inr ⟨h1, rfl, rfl, h2⟩
  by_cases k2 : c.k = 2
  · refine (h.get c w hi k2 hv hn hI).mono fun _ _ hq => hq.imp fun a n' K' R' E' D' hp => ?_
    obtain ⟨-, rfl, rfl, rfl, -, -⟩ := hp
    exact ⟨hI.more, fun h => absurd h k1, fun _ => rfl⟩
  by_cases k3 : c.k = 3
  · refine (h.prep c w hi k3 hv hn hI).mono fun _ _ hq => hq.imp fun a n' K' R' E' D' hp => ?_
    obtain ⟨_, _, _, -, hp, -, rfl, rfl, -, -⟩ := hp
    exact ⟨hI.prep (r := killK c.r) (by rw [killK_len]; exact hi.lw) hi.lr (killK_small hi.r) hp, fun h => absurd h k1, fun _ => rfl⟩
  by_cases k4 : c.k = 4
  · refine (h.dec4 c w hi k4 hv).mono fun _ _ hq => hq.imp fun a n' K' R' E' D' hp => ?_
    obtain ⟨-, rfl, rfl, rfl, -⟩ := hp
    exact ⟨hI.more, fun h => absurd h k1, fun _ => rfl⟩
  by_cases k5 : c.k = 5
  · refine (h.finish c w hi k5 hv (by omega) hI).mono fun _ _ hq => hq.imp fun a n' K' R' E' D' hp => ?_
    obtain ⟨-, rfl, hf, -⟩ := hp
    exact ⟨hI.fin hf, fun h => absurd h k1, fun _ => rfl⟩
  · refine (h.bad c w hi (by omega) hv).mono fun _ _ hq => hq.imp fun a n' K' R' E' D' hp => ?_
    obtain ⟨-, rfl, rfl, rfl, -, -⟩ := hp
    exact ⟨hI.more, fun h => absurd h k1, fun _ => rfl⟩
theorem and31 (x : Int) : ∃ y, bits .and .i64 x 31 = y ∧ 0 ≤ y ∧ y ≤ 31 := by
  have : ∃ m : Nat, m ≤ 31 ∧ bits .and .i64 x 31 = IntKind.i64.wrap (m : Int) := ⟨(BitVec.ofInt 64 x &&& BitVec.ofInt 64 31).toNat, by rw [BitVec.toNat_and]; exact Nat.le_trans Nat.and_le_right (by decide), rfl⟩
  obtain ⟨m, h1, h2⟩ := this
  refine ⟨m, ?_, by omega, by omega⟩
  rw [h2, IntKind.wrap_i64]; omega
end Go.Proofs.Ytdkkpkgfiodlbaa

namespace Go.Proofs.Ytdkkpkgfiodlbaa
open Go.RowKit Go.Maps
set_option maxRecDepth 100000 in
set_option maxHeartbeats 16000000 in
theorem shardStamps.walk (x : Int) (v1 : Value) (cs : List Cmd21) (w : World) (r1 : RdCmdI w v1 cs) :
    Calls Try.prog 3 #[vi x, v1] w fun e w' => e = .returned (.bool true) ∧ Below w.heap.size w w' := by
  obtain ⟨av, nv, cv, hv, rfl, hm, -⟩ := r1.at
  subst hv
  have HR1 := Lib.hid r1
  clear r1
  obtain ⟨st, hst, hst0, hst1⟩ := and31 x
  go_enter Try.func3, Try.ntmps3
  go_wp2_with fail
  refine (head21_call w).mono ?_
  rintro e w1 ⟨rfl, hb1⟩
  have HB1 := Lib.hid hb1
  have hs1 := hb1.size
  clear hb1
  dsimp only
  by_cases h60 : 60 < cs.length
  · have g1 : decide ((60 : Int) < cs.length) = true := decide_eq_true (by omega)
    go_wp2_with fail
    go_ret
    exact ⟨rfl, HB1.out⟩
  have g1 : decide ((60 : Int) < cs.length) = false := decide_eq_false (by omega)
  go_upto_region 6 with fail
  go_wp2_with fail
  refine (shNew_call true 0 st w1).mono ?_
  rintro e1 w2 ⟨p, ps, mk, mr, me, md, rfl, hs2, hb2⟩
  have HS2 := Lib.hid (show ShT w2.heap.size w1.heap.size p ps mk mr me md true 0 st 0 [] [] [] [] w2 from ⟨hs2, hs2.bnd, (fun y hy => by cases hy), (fun y hy => by cases hy), Nat.le_refl _⟩)
  have HB2 := Lib.hid (HB1.out.trans (hb2.mono hs1))
  clear hs2 hb2
  dsimp only
  obtain ⟨N, hN⟩ : ∃ N, N = w2.heap.size := ⟨_, rfl⟩
  rw [← hN] at HS2
  clear hN
  go_wp2_with fail
  clear hst
  go_loopw [6, 21] (fun l i wr => ∃ (k : Nat) (last : Int), k ≤ cs.length ∧ i = vi k ∧ l = vi last ∧ Hid (∃ K R E D, ShT N w1.heap.size p ps mk mr me md true 0 st last K R E D wr ∧ ShI k K R ∧ Below w.heap.size w wr ∧ 0 ≤ last ∧ last ≤ st)) (fun _ i _ => cs.length - (intOf i).toNat)
  case atStart => exact ⟨0, 0, Nat.zero_le _, rfl, rfl, Lib.hid ⟨[], [], [], [], HS2.out, ShI.start, HB2.out, Int.le_refl _, hst0⟩⟩
  case round =>
    obtain ⟨wj, rfl⟩ : ∃ wj : World, wj = wr := ⟨_, rfl⟩
    obtain ⟨k, last, hk, rfl, rfl, HJ⟩ := hrel
    obtain ⟨K, R, E, D, hSj, hIj, hBj, hl0, hl1⟩ := HJ.out
    have HSJ := Lib.hid hSj
    have HIJ := Lib.hid hIj
    have HBJ := Lib.hid hBj
    clear HJ hSj hIj hBj
    by_cases hlt : k < cs.length
    · have k1 : decide ((k : Int) < cs.length) = true := decide_eq_true (by omega)
      have hki : (k : Int) < cs.length := by omega
      have hwk : IntKind.i64.wrap ((k : Int) + 1) = (k : Int) + 1 := IntWalk.i64_in _ (by omega)
      have hwl : IntKind.i64.wrap (last + 1) = last + 1 := IntWalk.i64_in _ (by omega)
      obtain ⟨o, ho⟩ := some_at hlt
      obtain ⟨a', n', c', hee, _, _, hcells⟩ := (HR1.out.later HBJ.out).at
      obtain ⟨bo, oo, wv, rv, ha, hrd, hri, hei, hki64, hc⟩ := hcells k o ho
      simp only [Value.slice.injEq] at hee
      obtain ⟨rfl, -, -⟩ := hee
      subst ha
      obtain ⟨aw, cw, ar, cr, hw0, hr0, lw0, lr0⟩ := rdv_slices21 hrd
      simp only at hw0 hr0 lw0 lr0
      subst hw0 hr0
      have y0 : wj.cell? ⟨bo, oo + k * 9, none⟩ = some (vi o.k) := hc 0 _ rfl
      have y1 : wj.cell? ⟨bo, oo + k * 9 + 1, none⟩ = some (vi o.r.txn) := by have := hc 1 _ rfl; rw [← Nat.add_assoc] at this; exact this
      have y2 : wj.cell? ⟨bo, oo + k * 9 + 2, none⟩ = some (vi o.r.home) := by have := hc 2 _ rfl; rw [← Nat.add_assoc] at this; exact this
      have y3 : wj.cell? ⟨bo, oo + k * 9 + 3, none⟩ = some (vi o.r.start) := by have := hc 3 _ rfl; rw [← Nat.add_assoc] at this; exact this
      have y4 : wj.cell? ⟨bo, oo + k * 9 + 4, none⟩ = some (.slice aw o.r.writes.length cw) := by have := hc 4 _ rfl; rw [← Nat.add_assoc] at this; exact this
      have y5 : wj.cell? ⟨bo, oo + k * 9 + 5, none⟩ = some (.slice ar o.r.reads.length cr) := by have := hc 5 _ rfl; rw [← Nat.add_assoc] at this; exact this
      have y6 : wj.cell? ⟨bo, oo + k * 9 + 6, none⟩ = some (vi o.e.txn) := by have := hc 6 _ rfl; rw [← Nat.add_assoc] at this; exact this
      have y7 : wj.cell? ⟨bo, oo + k * 9 + 7, none⟩ = some (.bool o.e.commit) := by have := hc 7 _ rfl; rw [← Nat.add_assoc] at this; exact this
      have y8 : wj.cell? ⟨bo, oo + k * 9 + 8, none⟩ = some (vi o.e.at_) := by have := hc 8 _ rfl; rw [← Nat.add_assoc] at this; exact this
      have hjs := HBJ.out.size
      have hE0 := (Below.refl wj.heap.size wj).alloc (Nat.le_refl _) (.cells #[vi o.k, vi o.r.txn, vi o.r.home, vi o.r.start, .slice aw o.r.writes.length cw, .slice ar o.r.reads.length cr, vi o.e.txn, .bool o.e.commit, vi o.e.at_] 33)
      have HSA := Lib.hid (HSJ.out.later hE0)
      have HBA := Lib.hid (HBJ.out.trans (hE0.mono hjs))
      have HXA := Lib.hid (alloc_at wj (.cells #[vi o.k, vi o.r.txn, vi o.r.home, vi o.r.start, .slice aw o.r.writes.length cw, .slice ar o.r.reads.length cr, vi o.e.txn, .bool o.e.commit, vi o.e.at_] 33))
      have HRDA := Lib.hid (hrd.later hE0)
      have HRI := Lib.hid hri
      have HEI := Lib.hid hei
      have HK64 := Lib.hid hki64
      clear hcells ho hrd hri hei hc hE0 hki64
      go_upto_region 11 with fail
      clear y0 y1 y2 y3 y4 y5 y6 y7 y8
      generalize wj.alloc (.cells #[vi o.k, vi o.r.txn, vi o.r.home, vi o.r.start, .slice aw o.r.writes.length cw, .slice ar o.r.reads.length cr, vi o.e.txn, .bool o.e.commit, vi o.e.at_] 33) = wA at *
      obtain ⟨b8, hb8⟩ : ∃ b8, b8 = wj.heap.size := ⟨_, rfl⟩
      rw [← hb8] at HXA ⊢
      have HB8 := Lib.hid (show N ≤ b8 from by rw [hb8]; exact HSJ.out.nw)
      clear hb8
      have x0 : wA.cell? ⟨b8, 0, none⟩ = some (vi o.k) := by rw [cell_of HXA.out]; rfl
      have x1 : wA.cell? ⟨b8, 1, none⟩ = some (vi o.r.txn) := by rw [cell_of HXA.out]; rfl
      have x2 : wA.cell? ⟨b8, 2, none⟩ = some (vi o.r.home) := by rw [cell_of HXA.out]; rfl
      have x3 : wA.cell? ⟨b8, 3, none⟩ = some (vi o.r.start) := by rw [cell_of HXA.out]; rfl
      have x4 : wA.cell? ⟨b8, 4, none⟩ = some (.slice aw o.r.writes.length cw) := by rw [cell_of HXA.out]; rfl
      have x5 : wA.cell? ⟨b8, 5, none⟩ = some (.slice ar o.r.reads.length cr) := by rw [cell_of HXA.out]; rfl
      have x6 : wA.cell? ⟨b8, 6, none⟩ = some (vi o.e.txn) := by rw [cell_of HXA.out]; rfl
      have x7 : wA.cell? ⟨b8, 7, none⟩ = some (.bool o.e.commit) := by rw [cell_of HXA.out]; rfl
      have x8 : wA.cell? ⟨b8, 8, none⟩ = some (vi o.e.at_) := by rw [cell_of HXA.out]; rfl
      go_wp2_with fail
      refine (big21_call o.k o.e.txn o.e.at_ o.e.commit aw ar cw cr o.r wA lw0 lr0).mono ?_
      rintro e3 wB ⟨rfl, hbb⟩
      have HSB := Lib.hid (HSA.out.later hbb)
      have HBB := Lib.hid (HBA.out.trans (hbb.mono HBA.out.size))
      have HXB := Lib.hid ((hbb.block b8 (Array.getElem?_eq_some_iff.1 HXA.out).1).trans HXA.out)
      have HRDB := Lib.hid (HRDA.out.later hbb)
      clear hbb x0 x1 x2 x3 x4 x5 x6 x7 x8 HSA HXA HRDA HBA
      dsimp only
      cases hbig : bigC o.r with
      | true =>
        go_wp2_with fail
        exact ⟨⟨k + 1, last, by omega, by go_num, rfl, Lib.hid ⟨_, _, _, _, HSB.out, HIJ.out.more, HBB.out, hl0, hl1⟩⟩, by simp only [intOf]; omega⟩
      | false =>
        have HCI := Lib.hid (show CmdI o from ⟨HK64.out, HRI.out, HEI.out, (bigC_false hbig).1, (bigC_false hbig).2⟩)
        clear hbig
        have x0 : wB.cell? ⟨b8, 0, none⟩ = some (vi o.k) := by rw [cell_of HXB.out]; rfl
        have x1 : wB.cell? ⟨b8, 1, none⟩ = some (vi o.r.txn) := by rw [cell_of HXB.out]; rfl
        have x2 : wB.cell? ⟨b8, 2, none⟩ = some (vi o.r.home) := by rw [cell_of HXB.out]; rfl
        have x3 : wB.cell? ⟨b8, 3, none⟩ = some (vi o.r.start) := by rw [cell_of HXB.out]; rfl
        have x4 : wB.cell? ⟨b8, 4, none⟩ = some (.slice aw o.r.writes.length cw) := by rw [cell_of HXB.out]; rfl
        have x5 : wB.cell? ⟨b8, 5, none⟩ = some (.slice ar o.r.reads.length cr) := by rw [cell_of HXB.out]; rfl
        have x6 : wB.cell? ⟨b8, 6, none⟩ = some (vi o.e.txn) := by rw [cell_of HXB.out]; rfl
        have x7 : wB.cell? ⟨b8, 7, none⟩ = some (.bool o.e.commit) := by rw [cell_of HXB.out]; rfl
        have x8 : wB.cell? ⟨b8, 8, none⟩ = some (vi o.e.at_) := by rw [cell_of HXB.out]; rfl
        go_wp2_with fail
        refine (cmdBytes_call o (.slice aw o.r.writes.length cw) (.slice ar o.r.reads.length cr) wB HRDB.out HCI.out).mono ?_
        rintro e4 wC ⟨vb, rfl, hob, hbb⟩
        have HOB := Lib.hid hob
        have HSC := Lib.hid (HSB.out.later hbb)
        have HBC := Lib.hid (HBB.out.trans (hbb.mono HBB.out.size))
        have HXC := Lib.hid ((hbb.block b8 (Array.getElem?_eq_some_iff.1 HXB.out).1).trans HXB.out)
        have hlc := HBC.out.size
        clear hob hbb x0 x1 x2 x3 x4 x5 x6 x7 x8 HSB HXB HRDB HBB
        dsimp only
        have hkn : k ≤ 900 := by omega
        have HLB := Lib.hid (show 0 ≤ last ∧ last ≤ 1000000 from ⟨hl0, by omega⟩)
        go_wp2_with fail
        refine (HSC.out.apply o wC HCI.out (own_src HOB.out) hkn HIJ.out HLB.out).mono ?_
        rintro e5 wd ⟨a, vv, now', K', R', E', D', rfl, ho2, hsd, htd, hp2⟩
        obtain ⟨qa, qc, rfl⟩ := Bt.own_shape ho2
        unfold ansV ansC
        dsimp only
        have HSD := Lib.hid hsd
        have HP := Lib.hid hp2
        have HBD := Lib.hid (HBC.out.trans (htd.toBelow' hlc (fun z hz => Nat.le_trans hs1 (hsd.s.bases z hz))))
        have HXD := Lib.hid ((htd.block b8 (Array.getElem?_eq_some_iff.1 HXC.out).1 (hsd.b.out HB8.out)).trans HXC.out)
        clear htd hsd ho2 hp2 HSC HXC HBC HOB
        have hE := (Below.refl wd.heap.size wd).alloc (Nat.le_refl _) (.cells #[vi a.err, .slice qa a.vals.length qc, vi a.at_, vi a.by_, vi a.home, vi a.e.txn, .bool a.e.commit, vi a.e.at_] 37)
        have HSE := Lib.hid (HSD.out.later hE)
        have HBE := Lib.hid (HBD.out.trans (hE.mono HBD.out.size))
        have HXE := Lib.hid ((hE.block b8 (Array.getElem?_eq_some_iff.1 HXD.out).1).trans HXD.out)
        have HX9 := Lib.hid (alloc_at wd (.cells #[vi a.err, .slice qa a.vals.length qc, vi a.at_, vi a.by_, vi a.home, vi a.e.txn, .bool a.e.commit, vi a.e.at_] 37))
        clear hE HSD HBD HXD
        go_upto_region 13 with fail
        generalize wd.alloc (.cells #[vi a.err, .slice qa a.vals.length qc, vi a.at_, vi a.by_, vi a.home, vi a.e.txn, .bool a.e.commit, vi a.e.at_] 37) = we at *
        obtain ⟨b9, hb9⟩ : ∃ b9, b9 = wd.heap.size := ⟨_, rfl⟩
        rw [← hb9] at HX9 ⊢
        clear hb9
        have x0 : we.cell? ⟨b8, 0, none⟩ = some (vi o.k) := by rw [cell_of HXE.out]; rfl
        by_cases hk1 : o.k = 1
        · have n1 : (o.k != 1) = false := by rw [hk1]; rfl
          by_cases hls : last = st
          · have l1 : (last == st) = true := by rw [hls]; exact beq_self_eq_true _
            have hz : a.err = 63 ∧ a.at_ = 0 ∧ now' = last := by
              rcases HP.out.2.1 hk1 with h | h
              · exact absurd h.1 (by omega)
              · exact h.2
            obtain ⟨ha1, ha2, rfl⟩ := hz
            have g0 : we.cell? ⟨b9, 0, none⟩ = some (vi 63) := by rw [cell_of HX9.out, ← ha1]; rfl
            have g2 : we.cell? ⟨b9, 2, none⟩ = some (vi 0) := by rw [cell_of HX9.out, ← ha2]; rfl
            go_wp2_with fail
            exact ⟨⟨k + 1, _, by omega, by go_num, rfl, Lib.hid ⟨_, _, _, _, HSE.out, HP.out.1, HBE.out, hl0, hl1⟩⟩, by simp only [intOf]; omega⟩
          · have l1 : (last == st) = false := by simp [hls]
            have hz : a.err = 0 ∧ a.at_ = last + 1 ∧ now' = last + 1 := by
              rcases HP.out.2.1 hk1 with h | h
              · exact h.2
              · exact absurd h.1 (by omega)
            obtain ⟨ha1, ha2, rfl⟩ := hz
            have g0 : we.cell? ⟨b9, 0, none⟩ = some (vi 0) := by rw [cell_of HX9.out, ← ha1]; rfl
            have g2 : we.cell? ⟨b9, 2, none⟩ = some (vi (last + 1)) := by rw [cell_of HX9.out, ← ha2]; rfl
            go_upto_region 20 with fail
            go_wp2_with (go_at_call 13; refine (now_call we HSE.out.s).mono ?_; rintro e6 w6 ⟨rfl, rfl⟩)
            exact ⟨⟨k + 1, last + 1, by omega, by go_num, rfl, Lib.hid ⟨_, _, _, _, HSE.out, HP.out.1, HBE.out, by omega, by omega⟩⟩, by simp only [intOf]; omega⟩
        · have n1 : (o.k != 1) = true := by simp [hk1]
          obtain rfl : now' = last := HP.out.2.2 hk1
          go_wp2_with (go_at_call 13; refine (now_call we HSE.out.s).mono ?_; rintro e6 w6 ⟨rfl, rfl⟩)
          exact ⟨⟨k + 1, _, by omega, by go_num, rfl, Lib.hid ⟨_, _, _, _, HSE.out, HP.out.1, HBE.out, hl0, hl1⟩⟩, by simp only [intOf]; omega⟩
    · have k1 : decide ((k : Int) < cs.length) = false := decide_eq_false (by omega)
      go_wp2_with fail
      go_ret
      exact ⟨rfl, HBJ.out⟩
end Go.Proofs.Ytdkkpkgfiodlbaa
