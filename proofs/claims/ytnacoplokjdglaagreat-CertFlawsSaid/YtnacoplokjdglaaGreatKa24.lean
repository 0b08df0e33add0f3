/- Texts of one proof, one behind the other: CkL0, RdEv, L11r, L11f. -/
import Derived.Deep.Strs
import Derived.RangeFuncNested
import Derived.RangeFuncBound
import Derived.RangeFuncCalls
import Derived.RangeFuncLeaves
import Derived.RangeFuncBox
import Derived.Shelf.Abstract
import Derived.Shelf.RegionOpen
import Derived.OwnWalkIn
import Derived.TacticsInMore
import Derived.LoopNIn
import Derived.LoopIn
import Derived.Test.YtnacoplokjdglaaGreatKa1
import Derived.Test.YtnacoplokjdglaaGreatKa2
import Derived.Test.YtnacoplokjdglaaGreatKa3
import Derived.Test.YtnacoplokjdglaaGreatKa4
import Derived.Test.YtnacoplokjdglaaGreatKa5
import Derived.Test.YtnacoplokjdglaaGreatKa6
import Derived.Test.YtnacoplokjdglaaGreatKa7
import Derived.Test.YtnacoplokjdglaaGreatKa8
import Derived.Test.YtnacoplokjdglaaGreatKa9
import Derived.Test.YtnacoplokjdglaaGreatKa10
import Derived.Test.YtnacoplokjdglaaGreatKa11
import Derived.Test.YtnacoplokjdglaaGreatKa12
import Derived.Test.YtnacoplokjdglaaGreatKa13
import Derived.Test.YtnacoplokjdglaaGreatKa14
import Derived.Test.YtnacoplokjdglaaGreatKa15
import Derived.Test.YtnacoplokjdglaaGreatKa16
import Derived.Test.YtnacoplokjdglaaGreatKa17
import Derived.Test.YtnacoplokjdglaaGreatKa18
import Derived.Test.YtnacoplokjdglaaGreatKa19
import Derived.Test.YtnacoplokjdglaaGreatKa20
import Derived.Test.YtnacoplokjdglaaGreatKa21
import Derived.Test.YtnacoplokjdglaaGreatKa22
import Derived.Test.YtnacoplokjdglaaGreatKa23
set_option linter.all false
namespace Go.Proofs.YtnacoplokjdglaaGreat
open Go.RowKit Go.Maps
attribute [local go_sem] Oper.semAt_some

theorem and1 (x : Int) : ∃ y, bits .and .i64 x 1 = y ∧ (y = 0 ∨ y = 1) := by
  have : ∃ m : Nat, m ≤ 1 ∧ bits .and .i64 x 1 = IntKind.i64.wrap (m : Int) := ⟨(BitVec.ofInt 64 x &&& BitVec.ofInt 64 1).toNat, by rw [BitVec.toNat_and]; exact Nat.le_trans Nat.and_le_right (by decide), rfl⟩
  obtain ⟨m, h1, h2⟩ := this
  refine ⟨m, ?_, by omega⟩
  rw [h2, IntKind.wrap_i64]; omega
theorem flaw_pos {ts : List GTxn} {f : Int × Int × Int} (h : f ∈ flawsM ts) : 0 < f.2.2 := by
  unfold flawsM at h
  obtain ⟨p, _, h⟩ := List.mem_flatMap.1 h
  unfold flawT at h
  obtain ⟨q, _, h⟩ := List.mem_flatMap.1 h
  unfold flaw1 at h
  split at h
  · rename_i hq; simp at h; subst h; exact hq
  · cases h
theorem end_res {t : WT} {s B : Int} (hb : endB t s B = false) (ho : endO t s B = false) : t.res = false ∧ endS t s B = s + t.size := by
  unfold endO at ho
  rw [decide_eq_false_iff_not] at ho
  unfold endB at hb
  rw [decide_eq_true (by omega), Bool.true_and] at hb
  exact ⟨hb, by unfold endS; rw [if_pos (by omega)]⟩
theorem end_yes {t : WT} {s B : Int} (hb : endB t s B = true) : t.res = true ∧ endS t s B = s + t.size ∧ s + t.size ≤ B := by
  unfold endB at hb
  rw [Bool.and_eq_true, decide_eq_true_eq] at hb
  exact ⟨hb.2, by unfold endS; rw [if_pos hb.1], hb.1⟩
theorem end_out {t : WT} {s B : Int} (ho : endO t s B = true) : endS t s B = max s B := by
  unfold endO at ho
  rw [decide_eq_true_eq] at ho
  unfold endS
  rw [if_neg (by omega)]
theorem len_nomap (w : World) (ty : TypeId) : (Builtin.len_ #[35] ty #[.map none]).run Tryz.prog w = .ok (.int .i64 0) w := by
  simp [Builtin.len_, run_underlying Tryz.underlying35, goInt, Result.andThen]

section
variable {v : Value} {es : List GEvent} {level B : Int} {w : World} {ts : List GTxn}
theorem check_no (hv : RdEvents w v es) (hes : es.length ≤ 60) (hB : i64 B) (hroom : B ≤ 34359738368 ∨ ∀ ts, histH es = some ts → ((tree0 ts level).size : Int) ≤ 34359738368) (hn : histH es = none ∨ ¬ (level = 1 ∨ level = 2)) :
    Calls Tryz.prog 18 #[v, vi level, vi B] w fun e w' => e = .returned (.agg #[vi 0, vi 0, vi 0, vi 0, vi 0, .slice none 0 0, .slice none 0 0, .map none]) ∧ Below w.heap.size w w' := by
  refine (check_call0 v es level B w hv hes hB hroom).mono ?_
  rintro e w' ⟨k, s, f, tr, dn, od, rfl, hc, hb⟩
  obtain ⟨rfl, rfl, rfl, rfl, rfl, rfl⟩ := hc.not_one hn
  exact ⟨rfl, hb⟩
theorem check_flaw (hv : RdEvents w v es) (hes : es.length ≤ 60) (hB : i64 B) (hroom : B ≤ 34359738368 ∨ ∀ ts, histH es = some ts → ((tree0 ts level).size : Int) ≤ 34359738368) (hh : histH es = some ts) (hl : level = 1 ∨ level = 2) {f : Int × Int × Int} {l : List (Int × Int × Int)} (hf : flawsM ts = f :: l) :
    Calls Tryz.prog 18 #[v, vi level, vi B] w fun e w' => e = .returned (.agg #[vi 2, vi 0, vi f.1, vi f.2.1, vi f.2.2, .slice none 0 0, .slice none 0 0, .map none]) ∧ Below w.heap.size w w' := by
  refine (check_call0 v es level B w hv hes hB hroom).mono ?_
  rintro e w' ⟨k, s, f, tr, dn, od, rfl, hc, hb⟩
  rw [hh] at hc
  obtain ⟨rfl, rfl, rfl, rfl, rfl, rfl⟩ := hc.flawed hl hf
  exact ⟨rfl, hb⟩
theorem check_over (hv : RdEvents w v es) (hes : es.length ≤ 60) (hB : i64 B) (hroom : B ≤ 34359738368 ∨ ∀ ts, histH es = some ts → ((tree0 ts level).size : Int) ≤ 34359738368) (hh : histH es = some ts) (hl : level = 1 ∨ level = 2) (hf : flawsM ts = []) (ho : endO (tree0 ts level) 0 B = true) :
    Calls Tryz.prog 18 #[v, vi level, vi B] w fun e w' => e = .returned (.agg #[vi 3, vi (max 0 B), vi 0, vi 0, vi 0, .slice none 0 0, .slice none 0 0, .map none]) ∧ Below w.heap.size w w' := by
  refine (check_call0 v es level B w hv hes hB hroom).mono ?_
  rintro e w' ⟨k, s, f, tr, dn, od, rfl, hc, hb⟩
  rw [hh] at hc
  obtain ⟨rfl, rfl, rfl, rfl, rfl, rfl⟩ := hc.overed hl hf ho
  exact ⟨by rw [end_out ho]; rfl, hb⟩
theorem check_pass (hv : RdEvents w v es) (hes : es.length ≤ 60) (hB : i64 B) (hroom : B ≤ 34359738368 ∨ ∀ ts, histH es = some ts → ((tree0 ts level).size : Int) ≤ 34359738368) (hh : histH es = some ts) (hl : level = 1 ∨ level = 2) (hf : flawsM ts = []) (hb0 : endB (tree0 ts level) 0 B = true) :
    Calls Tryz.prog 18 #[v, vi level, vi B] w fun e w' => ∃ (F : FaL) (db om : Nat) (O : OrdL), e = .returned (.agg #[vi 1, vi (tree0 ts level).size, vi 0, vi 0, vi 0, .slice none 0 0, .slice (some ⟨db, 0, none⟩) ts.length ts.length, .map (some om)]) ∧ (tree0 ts level).found = some F ∧ BoolB w' db ((List.range ts.length).map (dnM ts F)) ∧ MapO w' om O ∧ OrdC ts F 16 w.heap.size O w' ∧ Below w.heap.size w w' := by
  refine (check_call0 v es level B w hv hes hB hroom).mono ?_
  rintro e w' ⟨k, s, f, tr, dn, od, rfl, hc, hb⟩
  rw [hh] at hc
  obtain ⟨rfl, rfl, rfl, rfl, F, db, om, O, h1, h2, h3, h4, rfl, rfl⟩ := hc.passed hl hf hb0
  refine ⟨F, db, om, O, ?_, h1, h2, h3, h4, hb⟩
  rw [(end_yes hb0).2.1, Int.zero_add]; rfl
theorem check_fail (hv : RdEvents w v es) (hes : es.length ≤ 60) (hB : i64 B) (hroom : B ≤ 34359738368 ∨ ∀ ts, histH es = some ts → ((tree0 ts level).size : Int) ≤ 34359738368) (hh : histH es = some ts) (hl : level = 1 ∨ level = 2) (hf : flawsM ts = []) (hb0 : endB (tree0 ts level) 0 B = false) (ho : endO (tree0 ts level) 0 B = false) :
    Calls Tryz.prog 18 #[v, vi level, vi B] w fun e w' => ∃ (a : Option Addr) (c : Nat) (l : List (List Nat)), e = .returned (.agg #[vi 2, vi (tree0 ts level).size, vi 0, vi 0, vi 0, .slice a (tree0 ts level).size c, .slice none 0 0, .map none]) ∧ Nodes ts level (tree0 ts level) l ∧ l.length = (tree0 ts level).size ∧ TreeV w.heap.size w' (.slice a (tree0 ts level).size c) l ∧ Below w.heap.size w w' := by
  refine (check_call0 v es level B w hv hes hB hroom).mono ?_
  rintro e w' ⟨k, s, f, tr, dn, od, rfl, hc, hb⟩
  rw [hh] at hc
  obtain ⟨rfl, rfl, rfl, rfl, rfl, l, h1, T, h2, h3, h4⟩ := hc.failed hl hf hb0 ho
  have hr := end_res hb0 ho
  have hn := Nodes.len hr.1 h1
  have hTl : T.length = (tree0 ts level).size := by rw [← hn, ← h2, List.length_map]
  obtain ⟨a, c, rfl⟩ := Gr.own_shape h3
  refine ⟨a, c, l, ?_, h1, hn, ⟨T, h2, ?_, h4⟩, hb⟩
  · rw [hr.2, Int.zero_add, hTl]; rfl
  · rw [hTl] at h3 ⊢; exact h3
end
end Go.Proofs.YtnacoplokjdglaaGreat

namespace Go.Proofs.YtnacoplokjdglaaGreat
open Go.RowKit
open Go.ChangeShapes Go.WideShapes
section
variable {H : Type} {enc : TypeId × Value → H} {w : World} {spare : Nat → Bool} {held : Bool}

theorem int_cell {m : Nat} {c : Value} {y : DataW H × List MemPlace} (h : DataW.trod enc Tryz.prog w 0 spare held m 3 [c] = some y) : ∃ n, c = vi n := by
  obtain ⟨n, hc, -, -⟩ := DataW.trod_int Tryz.underlying3 h
  exact ⟨n, by simpa using hc⟩

theorem cells_int : Tryz.prog.cellsOf 3 = 1 := by kernel_rfl
theorem cells_op : Tryz.prog.cellsOf 51 = 3 := by kernel_rfl
theorem cells_ops : Tryz.prog.cellsOf 47 = 1 := by kernel_rfl
theorem cells_event : Tryz.prog.cellsOf 53 = 3 := by kernel_rfl

set_option maxRecDepth 100000 in
theorem op_cells {m : Nat} {cs : List Value} {y : DataW H × List MemPlace} (hl : cs.length = 3) (h : DataW.trod enc Tryz.prog w 0 spare held m 51 cs = some y) : ∃ o, EOp w cs o := by
  obtain ⟨y0, y1, y2, n, -, -, h0, h1, h2⟩ := Deep.trod_struct3 Tryz.underlying51 h
  match cs, hl with
  | [c0, c1, c2], _ =>
    dsimp only at h0 h1 h2
    rw [cells_int] at h0 h1 h2
    obtain ⟨a, rfl⟩ := int_cell h0
    obtain ⟨b, rfl⟩ := int_cell h1
    obtain ⟨c, rfl⟩ := int_cell h2
    exact ⟨⟨a, b, c⟩, rfl⟩

set_option maxRecDepth 100000 in
theorem ops_read {m : Nat} {v : Value} {y : DataW H × List MemPlace} (h : DataW.trod enc Tryz.prog w 0 spare held m 47 [v] = some y) : ∃ l, RdOps w v l :=
  rds_of_trod Tryz.underlying47 cells_op (by omega) h fun _ _ _ hl hy => op_cells hl hy

set_option maxRecDepth 100000 in
theorem event_cells {m : Nat} {cs : List Value} {y : DataW H × List MemPlace} (hl : cs.length = 3) (h : DataW.trod enc Tryz.prog w 0 spare held m 53 cs = some y) : ∃ e, EEvent w cs e := by
  obtain ⟨y0, y1, y2, n, -, -, h0, h1, h2⟩ := Deep.trod_struct3 Tryz.underlying53 h
  match cs, hl with
  | [c0, c1, c2], _ =>
    dsimp only at h0 h1 h2
    rw [cells_int] at h0 h1
    rw [cells_ops] at h2
    obtain ⟨a, rfl⟩ := int_cell h0
    obtain ⟨b, rfl⟩ := int_cell h1
    obtain ⟨l, hr⟩ := ops_read h2
    exact ⟨⟨a, b, l⟩, c2, rfl, hr⟩

set_option maxRecDepth 100000 in
theorem events_of_trod {v : Value} {d : DataW H} {ps : List MemPlace} (hv : ∃ a l c, v = .slice a l c) (h : DataW.Trod enc Tryz.prog w 0 spare held 22 v d ps) : ∃ es, RdEvents w v es := by
  obtain ⟨fuel, hf⟩ := h
  obtain ⟨a, l, c, rfl⟩ := hv
  exact rds_of_trod Tryz.underlying22 cells_event (by omega) hf fun _ _ _ hl hy => event_cells hl hy
end
set_option maxRecDepth 100000 in
theorem events_of_row {H : Type} {enc : TypeId × Value → H} {w : World} {spare : Nat → Bool} {held : Bool} {base : Nat} {v : Value} {d : DataW H} {ps : List MemPlace} (hk : Value.okWide Tryz.prog w .any base 22 v) (h : DataW.Trod enc Tryz.prog w 0 spare held 22 v d ps) : ∃ es, RdEvents w v es :=
  events_of_trod (okWide_slice Tryz.underlying22 hk) h
end Go.Proofs.YtnacoplokjdglaaGreat

namespace Go.Proofs.YtnacoplokjdglaaGreat.checkRoom
open Go.RowKit Go.Maps
attribute [local go_sem] Oper.semAt_some

set_option maxRecDepth 100000 in
set_option maxHeartbeats 8000000 in
theorem walk (v : Value) (level : Int) (es : List GEvent) (w : World) (hv : RdEvents w v es) :
    Calls Tryz.prog 6 #[v, vi level] w fun e w' => e = .returned (.bool true) ∧ Below w.heap.size w w' := by
  have HV := Lib.hid hv
  obtain ⟨a, n, c, rfl, rfl, hm, -⟩ := hv.at
  obtain ⟨y, hy, hy01⟩ := and1 level
  have hln := len_nomap
  clear hv
  go_enter Tryz.func6, Tryz.ntmps6
  go_upto_region 3 with (go_at_call 13; refine (head11_call w).mono ?_; rintro e1 w1 ⟨rfl, hb1⟩; have HB1 := Lib.hid hb1; clear hb1)
  by_cases h1 : (30 : Int) < es.length
  case pos =>
    have d1 : decide ((30 : Int) < es.length) = true := decide_eq_true h1
    clear h1
    go_wp2_with fail
    go_ret
    exact ⟨rfl, HB1.out⟩
  case neg =>
  have d1 : decide ((30 : Int) < es.length) = false := decide_eq_false h1
  have hes : es.length ≤ 30 := by omega
  clear h1
  have hl1 : IntKind.i64.wrap (1 + y) = 1 + y := IntWalk.i64_in _ (by omega)
  have HLV := Lib.hid (show 1 + y = 1 ∨ 1 + y = 2 from by omega)
  have HR1 := Lib.hid (HV.out.later HB1.out)
  cases hh : histH es with
  | none =>
    have HH := Lib.hid hh
    clear hh
    go_wp2_with (go_at_call 18; refine (check_no (level := 1 + y) (B := 800) HR1.out (by omega) (by unfold i64; omega) (.inl (by decide)) (.inl HH.out)).mono ?_; rintro e2 w2 ⟨rfl, hb2⟩; have HB2 := Lib.hid (HB1.out.trans (hb2.mono HB1.out.size)); clear hb2)
    go_ret
    exact ⟨rfl, HB2.out.alloc HB2.out.size _⟩
  | some ts =>
    have HH := Lib.hid hh
    clear hh
    cases hf : flawsM ts with
    | cons f l =>
      have hfp : 0 < f.2.2 := flaw_pos (ts := ts) (by rw [hf]; exact List.mem_cons_self)
      have HF := Lib.hid hf
      have e1 : (f.2.2 == 0) = false := by simp; omega
      clear hf
      go_wp2_with (go_at_call 18; refine (check_flaw (level := 1 + y) (B := 800) HR1.out (by omega) (by unfold i64; omega) (.inl (by decide)) HH.out HLV.out HF.out).mono ?_; rintro e2 w2 ⟨rfl, hb2⟩; have HB2 := Lib.hid (HB1.out.trans (hb2.mono HB1.out.size)); clear hb2)
      go_ret
      exact ⟨rfl, HB2.out.alloc HB2.out.size _⟩
    | nil =>
      have HF := Lib.hid hf
      have hsz := (tree0 ts (1 + y)).size_pos
      clear hf
      cases hb : endB (tree0 ts (1 + y)) 0 800 with
      | true =>
        have HE := Lib.hid hb
        have hszI : (0 : Int) < ((tree0 ts (1 + y)).size : Int) := by omega
        have hszN : 0 < (tree0 ts (1 + y)).size := by omega
        clear hb
        go_upto_region 11 with (go_at_call 18; refine (check_pass (level := 1 + y) (B := 800) HR1.out (by omega) (by unfold i64; omega) (.inl (by decide)) HH.out HLV.out HF.out HE.out).mono ?_; rintro e2 w2 ⟨F, db, om, O, rfl, -, -, -, -, hb2⟩; have HB2 := Lib.hid (HB1.out.trans (hb2.mono HB1.out.size)); clear hb2)
        have HB3 := Lib.hid (HB2.out.alloc HB2.out.size (.cells #[vi 1, vi (tree0 ts (1 + y)).size, vi 0, vi 0, vi 0, .slice none 0 0, .slice (some ⟨db, 0, none⟩) ts.length ts.length, .map (some om)] 39))
        have HX3 := Lib.hid (alloc_at w2 (.cells #[vi 1, vi (tree0 ts (1 + y)).size, vi 0, vi 0, vi 0, .slice none 0 0, .slice (some ⟨db, 0, none⟩) ts.length ts.length, .map (some om)] 39))
        have hw3 : (w2.alloc (.cells #[vi 1, vi (tree0 ts (1 + y)).size, vi 0, vi 0, vi 0, .slice none 0 0, .slice (some ⟨db, 0, none⟩) ts.length ts.length, .map (some om)] 39)).heap.size = w2.heap.size + 1 := by simp
        generalize w2.alloc (.cells #[vi 1, vi (tree0 ts (1 + y)).size, vi 0, vi 0, vi 0, .slice none 0 0, .slice (some ⟨db, 0, none⟩) ts.length ts.length, .map (some om)] 39) = w3 at *
        have HR3 := Lib.hid (HV.out.later HB3.out)
        obtain ⟨n, hn⟩ : ∃ n, n = (tree0 ts (1 + y)).size := ⟨_, rfl⟩
        rw [← hn] at HX3 hszI hszN
        clear hn
        go_upto_region 12 with (go_at_call 14; refine (of_callE _ es w3 HR3.out (by omega)).mono ?_; rintro e4 w4 ⟨v4, p4, err, rfl, hok4, hbad4, ⟨a4, n4, c4, rfl⟩, hb4⟩; have HOK4 := Lib.hid hok4; have HBAD4 := Lib.hid hbad4; have HB4 := Lib.hid (HB3.out.trans (hb4.mono HB3.out.size)); have HX4 := Lib.hid ((hb4.block _ (by omega)).trans HX3.out); clear hok4 hbad4 hb4)
        have herr : err = 0 := by
          apply Classical.byContradiction
          intro h
          have := HBAD4.out h
          rw [HH.out] at this; cases this
        obtain ⟨ts', h5, h6⟩ := HOK4.out herr
        rw [HH.out] at h5
        cases h5
        obtain ⟨_, _, _, e7, e8, -, -⟩ := h6
        cases e7
        have y4 := fun j => cell_of HX4.out j
        have HERR := Lib.hid herr
        subst e8
        clear herr
        go_wp2_with fail
        go_ret
        exact ⟨rfl, HB4.out⟩
      | false =>
        have HE := Lib.hid hb
        clear hb
        cases ho : endO (tree0 ts (1 + y)) 0 800 with
        | true =>
          have HO := Lib.hid ho
          clear ho
          go_wp2_with (go_at_call 18; refine (check_over (level := 1 + y) (B := 800) HR1.out (by omega) (by unfold i64; omega) (.inl (by decide)) HH.out HLV.out HF.out HO.out).mono ?_; rintro e2 w2 ⟨rfl, hb2⟩; have HB2 := Lib.hid (HB1.out.trans (hb2.mono HB1.out.size)); clear hb2)
          go_ret
          exact ⟨rfl, HB2.out.alloc HB2.out.size _⟩
        | false =>
          have HO := Lib.hid ho
          have hszI : (0 : Int) < ((tree0 ts (1 + y)).size : Int) := by omega
          have hszN : 0 < (tree0 ts (1 + y)).size := by omega
          clear ho
          go_wp2_with (go_at_call 18; refine (check_fail (level := 1 + y) (B := 800) HR1.out (by omega) (by unfold i64; omega) (.inl (by decide)) HH.out HLV.out HF.out HE.out HO.out).mono ?_; rintro e2 w2 ⟨a2, c2, l2, rfl, -, -, -, hb2⟩; have HB2 := Lib.hid (HB1.out.trans (hb2.mono HB1.out.size)); clear hb2)
          go_ret
          exact ⟨rfl, HB2.out.alloc HB2.out.size _⟩
end Go.Proofs.YtnacoplokjdglaaGreat.checkRoom

namespace Go.Proofs.YtnacoplokjdglaaGreat
open Go.RowKit Go.Maps
theorem eqInt0 (d : Nat) (a b : Int) (w : World) : (Op.equalIn (d + 1) 3 (vi a) (vi b)).run Tryz.prog w = .ok (a == b) w := by
  simp [Op.equalIn, run_underlying Tryz.underlying3]
set_option maxRecDepth 100000 in
theorem eqA3_in (d : Nat) (a b c : Int) (w : World) : (Op.equalIn (d + 1 + 1) 46 (.agg #[vi a, vi b, vi c]) (.agg #[vi a, vi b, vi c])).run Tryz.prog w = .ok true w := by
  have p0 : ∀ a b c w, (part 3 #[vi a, vi b, vi c] 0).run Tryz.prog w = .ok (vi a) w := fun _ _ _ _ => by kernel_rfl
  have p1 : ∀ a b c w, (part 3 #[vi a, vi b, vi c] 1).run Tryz.prog w = .ok (vi b) w := fun _ _ _ _ => by kernel_rfl
  have p2 : ∀ a b c w, (part 3 #[vi a, vi b, vi c] 2).run Tryz.prog w = .ok (vi c) w := fun _ _ _ _ => by kernel_rfl
  have hsz : ∀ w, (sizeOf 3).run Tryz.prog w = .ok 1 w := fun _ => by kernel_rfl
  unfold Op.equalIn
  simp [run_underlying Tryz.underlying46, hsz, eqInt0, p0, p1, p2, Result.andThen, List.range', List.forIn_cons, List.forIn_nil]
theorem eqA3 (a b c : Int) (w : World) : (binOp .eql 46 (.agg #[vi a, vi b, vi c]) (.agg #[vi a, vi b, vi c])).run Tryz.prog w = .ok (.bool true) w := by
  have h : (Op.equal 46 (.agg #[vi a, vi b, vi c]) (.agg #[vi a, vi b, vi c])).run Tryz.prog w = .ok true w := eqA3_in 9998 a b c w
  simp only [binOp]
  simp [h]
end Go.Proofs.YtnacoplokjdglaaGreat
namespace Go.Proofs.YtnacoplokjdglaaGreat.checkFlaws
open Go.RowKit Go.Maps
attribute [local go_sem] Oper.semAt_some

set_option maxRecDepth 100000 in
set_option maxHeartbeats 8000000 in
theorem walk (v : Value) (level : Int) (es : List GEvent) (w : World) (hv : RdEvents w v es) :
    Calls Tryz.prog 4 #[v, vi level] w fun e w' => e = .returned (.bool true) ∧ Below w.heap.size w w' := by
  have HV := Lib.hid hv
  obtain ⟨a, n, c, rfl, rfl, hm, -⟩ := hv.at
  obtain ⟨y, hy, hy01⟩ := and1 level
  clear hv
  go_enter Tryz.func4, Tryz.ntmps4
  go_upto_region 3 with (go_at_call 13; refine (head11_call w).mono ?_; rintro e1 w1 ⟨rfl, hb1⟩; have HB1 := Lib.hid hb1; clear hb1)
  have HR1 := Lib.hid (HV.out.later HB1.out)
  go_upto_region 4 with (go_at_call 14; refine (of_callA _ es w1 HR1.out).mono ?_; rintro e2 w2 ⟨v2, p2, err, rfl, hok2, hbad2, ⟨a2, n2, c2, rfl⟩, hb2⟩; have HOK2 := Lib.hid hok2; have HB2 := Lib.hid (HB1.out.trans (hb2.mono HB1.out.size)); clear hok2 hbad2 hb2)
  by_cases h0 : err = 0
  case neg =>
    have c0 := bne_t h0
    clear h0
    go_wp2_with fail
    go_ret
    exact ⟨rfl, HB2.out⟩
  obtain ⟨ts, hts, hrd⟩ := HOK2.out h0
  have HTS := Lib.hid hts
  have HRD := Lib.hid hrd
  obtain ⟨_, _, _, e5, e6, -, -⟩ := hrd.at
  cases e5
  subst e6
  subst h0
  clear hts hrd
  by_cases h1 : (60 : Int) < es.length
  case pos =>
    have d1 : decide ((60 : Int) < es.length) = true := decide_eq_true h1
    clear h1
    go_wp2_with fail
    go_ret
    exact ⟨rfl, HB2.out⟩
  have d1 : decide ((60 : Int) < es.length) = false := decide_eq_false h1
  have hes : es.length ≤ 60 := by omega
  clear h1
  have HG := Lib.hid (hist_good hes HTS.out).1
  have hl1 : IntKind.i64.wrap (1 + y) = 1 + y := IntWalk.i64_in _ (by omega)
  have HLV := Lib.hid (show 1 + y = 1 ∨ 1 + y = 2 from by omega)
  have hlen := HG.out.len
  cases hf : flawsM ts with
  | nil =>
    have HF := Lib.hid hf
    have HO := Lib.hid (show endO (tree0 ts (1 + y)) 0 0 = true from by
      have := (tree0 ts (1 + y)).size_pos
      unfold endO
      exact decide_eq_true (by omega))
    clear hf
    go_wp2_with (first
      | (go_at_call 18; refine (check_over (level := 1 + y) (B := 0) HR3.out hes (by unfold i64; omega) (.inl (by decide)) HTS.out HLV.out HF.out HO.out).mono ?_; rintro e4 w4 ⟨rfl, hb4⟩; have HB4 := Lib.hid (HB3.out.trans (hb4.mono HB3.out.size)); clear hb4)
      | (go_at_call 21; refine (flaws_call _ ts w2 HRD.out HG.out.ok (by omega)).mono ?_; rw [HF.out]; rintro e3 w3 ⟨v3, rfl, ho3, hb3⟩; have HB3 := Lib.hid (HB2.out.trans (hb3.mono HB2.out.size)); have HR3 := Lib.hid (HV.out.later HB3.out); obtain ⟨a3, c3, rfl⟩ := Gr.own_shape (show w3.ownsRow w2.heap.size 46 3 v3 0 [] from ho3); clear ho3 hb3))
    go_ret
    exact ⟨rfl, HB4.out.alloc HB4.out.size _⟩
  | cons f l =>
    have HF := Lib.hid hf
    clear hf
    have hq := eqA3 f.1 f.2.1 f.2.2
    have hll : ((l.length + 1 : Nat) : Int) ≠ 0 := by omega
    have hl0 : (((l.length + 1 : Nat) : Int) == 0) = false := by simp; omega
    go_upto_region 12 with (first
      | (go_at_call 18; refine (check_flaw (level := 1 + y) (B := 0) HR3.out hes (by unfold i64; omega) (.inl (by decide)) HTS.out HLV.out HF.out).mono ?_; rintro e4 w4 ⟨rfl, hb4⟩; have HB4 := Lib.hid (HB3.out.trans (hb4.mono HB3.out.size)); have HO4 := Lib.hid (own_below HO3.out hb4); clear hb4)
      | (go_at_call 21; refine (flaws_call _ ts w2 HRD.out HG.out.ok (by omega)).mono ?_; rw [HF.out]; rintro e3 w3 ⟨v3, rfl, ho3, hb3⟩; have HB3 := Lib.hid (HB2.out.trans (hb3.mono HB2.out.size)); have HR3 := Lib.hid (HV.out.later HB3.out); have HO3 := Lib.hid (show w3.ownsRow w2.heap.size 46 3 v3 (l.length + 1) ((f :: l).flatMap flV) from ho3); obtain ⟨a3, c3, rfl⟩ := Gr.own_shape HO3.out; clear ho3 hb3))
    obtain ⟨g3, rfl⟩ : ∃ g3, a3 = some ⟨g3, 0, none⟩ := by
      rcases HO4.out.2 with ⟨_, h2⟩ | ⟨g, cap, cur, h1, _⟩
      · omega
      · simp only [Value.slice.injEq] at h1
        exact ⟨_, h1.1⟩
    have HBX := Lib.hid (((Below.refl w4.heap.size w4).alloc (Nat.le_refl _) (.cells #[vi 2, vi 0, vi f.1, vi f.2.1, vi f.2.2, .slice none 0 0, .slice none 0 0, .map none] 39)).alloc (by simp) (.cells #[vi f.1, vi f.2.1, vi f.2.2] 32))
    have HX1 := Lib.hid ((Below.heap_alloc (w4.alloc (.cells #[vi 2, vi 0, vi f.1, vi f.2.1, vi f.2.2, .slice none 0 0, .slice none 0 0, .map none] 39)) (.cells #[vi f.1, vi f.2.1, vi f.2.2] 32) w4.heap.size (by simp)).trans (alloc_at w4 (.cells #[vi 2, vi 0, vi f.1, vi f.2.1, vi f.2.2, .slice none 0 0, .slice none 0 0, .map none] 39)))
    have HX2 := Lib.hid (show ((w4.alloc (.cells #[vi 2, vi 0, vi f.1, vi f.2.1, vi f.2.2, .slice none 0 0, .slice none 0 0, .map none] 39)).alloc (.cells #[vi f.1, vi f.2.1, vi f.2.2] 32)).heap[w4.heap.size + 1]? = some (.cells #[vi f.1, vi f.2.1, vi f.2.2] 32) from by
      have := alloc_at (w4.alloc (.cells #[vi 2, vi 0, vi f.1, vi f.2.1, vi f.2.2, .slice none 0 0, .slice none 0 0, .map none] 39)) (.cells #[vi f.1, vi f.2.1, vi f.2.2] 32)
      simpa using this)
    generalize (w4.alloc (.cells #[vi 2, vi 0, vi f.1, vi f.2.1, vi f.2.2, .slice none 0 0, .slice none 0 0, .map none] 39)).alloc (.cells #[vi f.1, vi f.2.1, vi f.2.2] 32) = w5 at *
    have HO5 := Lib.hid (own_below HO4.out HBX.out)
    have HBW := Lib.hid (HB4.out.trans (HBX.out.mono HB4.out.size))
    have k0 : w5.cell? ⟨g3, 0, none⟩ = some (vi f.1) := by have := World.ownsRow.cells HO5.out (g := g3) rfl 0 (vi f.1) (by simp [flV]); rwa [addr_add] at this
    have k1 : w5.cell? ⟨g3, 1, none⟩ = some (vi f.2.1) := by have := World.ownsRow.cells HO5.out (g := g3) rfl 1 (vi f.2.1) (by simp [flV]); rwa [addr_add] at this
    have k2 : w5.cell? ⟨g3, 2, none⟩ = some (vi f.2.2) := by have := World.ownsRow.cells HO5.out (g := g3) rfl 2 (vi f.2.2) (by simp [flV]); rwa [addr_add] at this
    have x0 : w5.cell? ⟨w4.heap.size, 0, none⟩ = some (vi 2) := by rw [cell_of HX1.out]; rfl
    have x1 : w5.cell? ⟨w4.heap.size, 1, none⟩ = some (vi 0) := by rw [cell_of HX1.out]; rfl
    have y0 : w5.cell? ⟨w4.heap.size + 1, 0, none⟩ = some (vi f.1) := by rw [cell_of HX2.out]; rfl
    have y1 : w5.cell? ⟨w4.heap.size + 1, 1, none⟩ = some (vi f.2.1) := by rw [cell_of HX2.out]; rfl
    have y2 : w5.cell? ⟨w4.heap.size + 1, 2, none⟩ = some (vi f.2.2) := by rw [cell_of HX2.out]; rfl
    have hlp : (0 : Int) < ((l.length + 1 : Nat) : Int) := by omega
    go_quiet (fail)
    go_wp2
    go_ret
    exact ⟨rfl, below_drewN HBW.out _⟩
end Go.Proofs.YtnacoplokjdglaaGreat.checkFlaws
