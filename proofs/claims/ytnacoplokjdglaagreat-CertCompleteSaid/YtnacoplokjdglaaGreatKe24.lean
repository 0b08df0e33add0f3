/- Texts of one proof, one behind the other: L12c. -/
import Derived.Test.YtnacoplokjdglaaGreatKe1
import Derived.Test.YtnacoplokjdglaaGreatKe2
import Derived.Test.YtnacoplokjdglaaGreatKe3
import Derived.Test.YtnacoplokjdglaaGreatKe4
import Derived.Test.YtnacoplokjdglaaGreatKe5
import Derived.Test.YtnacoplokjdglaaGreatKe6
import Derived.Test.YtnacoplokjdglaaGreatKe7
import Derived.Test.YtnacoplokjdglaaGreatKe8
import Derived.Test.YtnacoplokjdglaaGreatKe9
import Derived.Test.YtnacoplokjdglaaGreatKe10
import Derived.Test.YtnacoplokjdglaaGreatKe11
import Derived.Test.YtnacoplokjdglaaGreatKe12
import Derived.Test.YtnacoplokjdglaaGreatKe13
import Derived.Test.YtnacoplokjdglaaGreatKe14
import Derived.Test.YtnacoplokjdglaaGreatKe15
import Derived.Test.YtnacoplokjdglaaGreatKe16
import Derived.Test.YtnacoplokjdglaaGreatKe17
import Derived.Test.YtnacoplokjdglaaGreatKe18
import Derived.Test.YtnacoplokjdglaaGreatKe19
import Derived.Test.YtnacoplokjdglaaGreatKe20
import Derived.Test.YtnacoplokjdglaaGreatKe21
import Derived.Test.YtnacoplokjdglaaGreatKe22
import Derived.Test.YtnacoplokjdglaaGreatKe23
set_option linter.all false
namespace Go.Proofs.YtnacoplokjdglaaGreat
open Go.RowKit Go.Maps
theorem BoolB.rd {w : World} {b n : Nat} {L : List Bool} (h : BoolB w b L) (hn : L.length = n) (hl : n ≤ 4096) : RdB w (.slice (some ⟨b, 0, none⟩) n n) L := by
  subst hn
  refine ⟨_, _, _, rfl, rfl, by omega, Nat.le_refl _, (fun h => (by cases h)), fun j x hj => ⟨b, 0, [.bool x], rfl, rfl, fun i u hu => ?_, rfl⟩⟩
  match i, hu with
  | 0, hu => cases hu; simpa using h.at hj
namespace certComplete
attribute [local go_sem] Oper.semAt_some

set_option maxRecDepth 100000 in
set_option maxHeartbeats 8000000 in
theorem walk (v : Value) (level budget : Int) (es : List GEvent) (w : World) (hv : RdEvents w v es) (hbud : i64 budget) :
    Calls Tryz.prog 11 #[v, vi level, vi budget] w fun e w' => e = .returned (.bool true) ∧ Below w.heap.size w w' := by
  have HV := Lib.hid hv
  obtain ⟨a, n, c, rfl, rfl, hm, -⟩ := hv.at
  have hbu := hbud
  unfold i64 at hbu
  have HBI := Lib.hid (show i64 (min budget 800) from by unfold i64; omega)
  have HRM := Lib.hid (show min budget 800 ≤ 34359738368 from by omega)
  clear hv hbud
  go_enter Tryz.func11, Tryz.ntmps11
  go_upto_region 3 with (go_at_call 23; refine (head12_call w).mono ?_; rintro e1 w1 ⟨rfl, hb1⟩; have HB1 := Lib.hid hb1; clear hb1)
  by_cases h1 : (40 : Int) < es.length
  case pos =>
    have d1 : decide ((40 : Int) < es.length) = true := decide_eq_true h1
    clear h1
    go_wp2_with fail
    go_ret
    exact ⟨rfl, HB1.out⟩
  have d1 : decide ((40 : Int) < es.length) = false := decide_eq_false h1
  have hes : es.length ≤ 60 := by omega
  clear h1
  have HR1 := Lib.hid (HV.out.later HB1.out)
  by_cases hn : histH es = none ∨ ¬ (level = 1 ∨ level = 2)
  case pos =>
    have HNO := Lib.hid hn
    have HBD := Lib.hid (show histH es = none ∨ (level ≠ 1 ∧ level ≠ 2) from hn.imp_right (fun h => ⟨fun e => h (.inl e), fun e => h (.inr e)⟩))
    clear hn
    go_upto_region 6 with (go_at_call 18; refine (check_no (level := level) (B := min budget 800) HR1.out hes HBI.out (.inl HRM.out) HNO.out).mono ?_; rintro e2 w2 ⟨rfl, hb2⟩; have HB2 := Lib.hid (HB1.out.trans (hb2.mono HB1.out.size)); clear hb2)
    have HA3 := Lib.hid ((Below.refl w2.heap.size w2).alloc (Nat.le_refl _) (.cells #[vi 0, vi 0, vi 0, vi 0, vi 0, .slice none 0 0, .slice none 0 0, .map none] 39))
    have HX3 := Lib.hid (alloc_at w2 (.cells #[vi 0, vi 0, vi 0, vi 0, vi 0, .slice none 0 0, .slice none 0 0, .map none] 39))
    have hw3 : (w2.alloc (.cells #[vi 0, vi 0, vi 0, vi 0, vi 0, .slice none 0 0, .slice none 0 0, .map none] 39)).heap.size = w2.heap.size + 1 := by simp
    generalize w2.alloc (.cells #[vi 0, vi 0, vi 0, vi 0, vi 0, .slice none 0 0, .slice none 0 0, .map none] 39) = w3 at *
    have h23 : w2.heap.size < w3.heap.size := by omega
    clear hw3
    have x := fun j => cell_of HX3.out j
    go_upto_region 10 with (go_at_call 25; go_loud (refine (holds_bad _ es level 0 0 (0, 0, 0) none 0 0 none 0 0 none w3 (HV.out.later (HB2.out.trans (HA3.out.mono HB2.out.size))) hes HBD.out).mono ?_; rintro e4 w4 ⟨rfl, hb4⟩); have HB4 := Lib.hid (HA3.out.trans (hb4.mono HA3.out.size)); have HX4 := Lib.hid ((hb4.block _ (by omega)).trans HX3.out); have h34 := hb4.size; clear hb4)
    clear x
    have x := fun j => cell_of HX4.out j
    have HB5 := Lib.hid (HB4.out.alloc HB4.out.size (.cells #[vi 0, vi 0, vi 0, vi 0, vi 0, .slice none 0 0, .slice none 0 0, .map none] 39))
    have HY5 := Lib.hid (alloc_at w4 (.cells #[vi 0, vi 0, vi 0, vi 0, vi 0, .slice none 0 0, .slice none 0 0, .map none] 39))
    have HX5 := Lib.hid ((Below.heap_alloc w4 (.cells #[vi 0, vi 0, vi 0, vi 0, vi 0, .slice none 0 0, .slice none 0 0, .map none] 39) w2.heap.size (by omega)).trans HX4.out)
    have hw5 : (w4.alloc (.cells #[vi 0, vi 0, vi 0, vi 0, vi 0, .slice none 0 0, .slice none 0 0, .map none] 39)).heap.size = w4.heap.size + 1 := by simp
    go_upto_region 11 with fail
    clear x
    generalize w4.alloc (.cells #[vi 0, vi 0, vi 0, vi 0, vi 0, .slice none 0 0, .slice none 0 0, .map none] 39) = w5 at *
    have h45 : w4.heap.size < w5.heap.size := by omega
    clear hw5
    have x := fun j => cell_of HX5.out j
    have HB6 := Lib.hid (HB5.out.alloc HB5.out.size (.cells #[vi 0, vi 0, vi 0, vi 0, vi 0, .slice none 0 0, .slice none 0 0, .map none] 39))
    have HZ6 := Lib.hid (alloc_at w5 (.cells #[vi 0, vi 0, vi 0, vi 0, vi 0, .slice none 0 0, .slice none 0 0, .map none] 39))
    have HX6 := Lib.hid ((Below.heap_alloc w5 (.cells #[vi 0, vi 0, vi 0, vi 0, vi 0, .slice none 0 0, .slice none 0 0, .map none] 39) w2.heap.size (by omega)).trans HX5.out)
    have HY6 := Lib.hid ((Below.heap_alloc w5 (.cells #[vi 0, vi 0, vi 0, vi 0, vi 0, .slice none 0 0, .slice none 0 0, .map none] 39) w4.heap.size (by omega)).trans HY5.out)
    have hw6 : (w5.alloc (.cells #[vi 0, vi 0, vi 0, vi 0, vi 0, .slice none 0 0, .slice none 0 0, .map none] 39)).heap.size = w5.heap.size + 1 := by simp
    go_upto_region 12 with fail
    clear x
    generalize w5.alloc (.cells #[vi 0, vi 0, vi 0, vi 0, vi 0, .slice none 0 0, .slice none 0 0, .map none] 39) = w6 at *
    clear hw6
    have x := fun j => cell_of HX6.out j
    have z := free_of HZ6.out 0
    have zy := fun j => cell_of HZ6.out j
    have HB7 := Lib.hid (Below.setCell (p := ⟨w5.heap.size, 0, none⟩) HB6.out (by show w2.heap.size ≤ w5.heap.size; omega) (vi 3))
    have HX7 := Lib.hid ((Below.heap_setCell w6 ⟨w5.heap.size, 0, none⟩ (vi 3) w2.heap.size (by show w2.heap.size ≠ w5.heap.size; omega)).trans HX6.out)
    have HY7 := Lib.hid ((Below.heap_setCell w6 ⟨w5.heap.size, 0, none⟩ (vi 3) w4.heap.size (by show w4.heap.size ≠ w5.heap.size; omega)).trans HY6.out)
    have HZ7 := Lib.hid (show (w6.setCell ⟨w5.heap.size, 0, none⟩ (vi 3)).heap[w5.heap.size]? = some (.cells #[vi 3, vi 0, vi 0, vi 0, vi 0, .slice none 0 0, .slice none 0 0, .map none] 39) from by simp [World.setCell, Array.getElem?_modify, HZ6.out])
    go_upto_region 13 with fail
    clear x z zy
    generalize w6.setCell ⟨w5.heap.size, 0, none⟩ (vi 3) = w7 at *
    have x := fun j => cell_of HX7.out j
    have z := free_of HZ7.out 0
    have zy := fun j => cell_of HZ7.out j
    have HB8 := Lib.hid (Below.setCell (p := ⟨w5.heap.size, 0, none⟩) HB7.out (by show w2.heap.size ≤ w5.heap.size; omega) (vi 1))
    have HX8 := Lib.hid ((Below.heap_setCell w7 ⟨w5.heap.size, 0, none⟩ (vi 1) w2.heap.size (by show w2.heap.size ≠ w5.heap.size; omega)).trans HX7.out)
    have HZ8 := Lib.hid (show (w7.setCell ⟨w5.heap.size, 0, none⟩ (vi 1)).heap[w5.heap.size]? = some (.cells #[vi 1, vi 0, vi 0, vi 0, vi 0, .slice none 0 0, .slice none 0 0, .map none] 39) from by simp [World.setCell, Array.getElem?_modify, HZ7.out])
    go_upto_region 15 with fail
    clear x z zy
    generalize w7.setCell ⟨w5.heap.size, 0, none⟩ (vi 1) = w8 at *
    have x := fun j => cell_of HX8.out j
    have zc := fun j => cell_of HZ8.out j
    have HBW := Lib.hid (HB2.out.trans (HB8.out.mono HB2.out.size))
    have HRW := Lib.hid (HV.out.later HBW.out)
    go_wp2_with (first
      | (go_at_call 25; refine (holds_bad _ es level 1 0 (0, 0, 0) none 0 0 none 0 0 none w8 HRW.out hes HBD.out).mono ?_; rintro e9 w9 ⟨rfl, hb9⟩; have HB9 := Lib.hid (HBW.out.trans (hb9.mono HBW.out.size)); have HX9 := Lib.hid ((hb9.block _ (Array.getElem?_eq_some_iff.1 HX8.out).1).trans HX8.out); have x9 := fun j => cell_of HX9.out j; clear hb9))
    go_ret
    exact ⟨rfl, HB9.out⟩
  obtain ⟨ts, hts⟩ : ∃ ts, histH es = some ts := by
    cases h : histH es with
    | none => exact absurd (.inl h) hn
    | some ts => exact ⟨ts, rfl⟩
  have HLV := Lib.hid (show level = 1 ∨ level = 2 from Classical.byContradiction fun h => hn (.inr h))
  have HH := Lib.hid hts
  have HG := Lib.hid (hist_good hes hts).1
  clear hn hts
  cases hf : flawsM ts with
  | cons f l =>
    have HF := Lib.hid hf
    have HFF := Lib.hid (fail_first (level := level) hf)
    have HFZ := Lib.hid (fail_zero (ts := ts) (level := level))
    have HN0 := Lib.hid (flaws_some hf)
    clear hf
    go_upto_region 6 with (go_at_call 18; refine (check_flaw (level := level) (B := min budget 800) HR1.out hes HBI.out (.inl HRM.out) HH.out HLV.out HF.out).mono ?_; rintro e2 w2 ⟨rfl, hb2⟩; have HB2 := Lib.hid (HB1.out.trans (hb2.mono HB1.out.size)); clear hb2)
    have HA3 := Lib.hid ((Below.refl w2.heap.size w2).alloc (Nat.le_refl _) (.cells #[vi 2, vi 0, vi f.1, vi f.2.1, vi f.2.2, .slice none 0 0, .slice none 0 0, .map none] 39))
    have HX3 := Lib.hid (alloc_at w2 (.cells #[vi 2, vi 0, vi f.1, vi f.2.1, vi f.2.2, .slice none 0 0, .slice none 0 0, .map none] 39))
    have hw3 : (w2.alloc (.cells #[vi 2, vi 0, vi f.1, vi f.2.1, vi f.2.2, .slice none 0 0, .slice none 0 0, .map none] 39)).heap.size = w2.heap.size + 1 := by simp
    generalize w2.alloc (.cells #[vi 2, vi 0, vi f.1, vi f.2.1, vi f.2.2, .slice none 0 0, .slice none 0 0, .map none] 39) = w3 at *
    have h23 : w2.heap.size < w3.heap.size := by omega
    clear hw3
    have x := fun j => cell_of HX3.out j
    go_upto_region 10 with (go_at_call 25; go_loud (refine ((holds_fail _ es ts level 0 f none 0 0 none 0 0 none w3 (HV.out.later (HB2.out.trans (HA3.out.mono HB2.out.size))) hes HH.out HLV.out [] (nodes_none0 w3) (fun _ h => by cases h)).mono (fun e4 w4 h => (show e4 = .returned (.bool true) ∧ _ from HFF.out ▸ h))).mono ?_; rintro e4 w4 ⟨rfl, hb4⟩); have HB4 := Lib.hid (HA3.out.trans (hb4.mono HA3.out.size)); have HX4 := Lib.hid ((hb4.block _ (by omega)).trans HX3.out); have h34 := hb4.size; clear hb4)
    clear x
    have x := fun j => cell_of HX4.out j
    have HB5 := Lib.hid (HB4.out.alloc HB4.out.size (.cells #[vi 2, vi 0, vi 0, vi 0, vi 0, .slice none 0 0, .slice none 0 0, .map none] 39))
    have HY5 := Lib.hid (alloc_at w4 (.cells #[vi 2, vi 0, vi 0, vi 0, vi 0, .slice none 0 0, .slice none 0 0, .map none] 39))
    have HX5 := Lib.hid ((Below.heap_alloc w4 (.cells #[vi 2, vi 0, vi 0, vi 0, vi 0, .slice none 0 0, .slice none 0 0, .map none] 39) w2.heap.size (by omega)).trans HX4.out)
    have hw5 : (w4.alloc (.cells #[vi 2, vi 0, vi 0, vi 0, vi 0, .slice none 0 0, .slice none 0 0, .map none] 39)).heap.size = w4.heap.size + 1 := by simp
    go_upto_region 11 with fail
    clear x
    generalize w4.alloc (.cells #[vi 2, vi 0, vi 0, vi 0, vi 0, .slice none 0 0, .slice none 0 0, .map none] 39) = w5 at *
    have h45 : w4.heap.size < w5.heap.size := by omega
    clear hw5
    have x := fun j => cell_of HX5.out j
    have HB6 := Lib.hid (HB5.out.alloc HB5.out.size (.cells #[vi 2, vi 0, vi f.1, vi f.2.1, vi f.2.2, .slice none 0 0, .slice none 0 0, .map none] 39))
    have HZ6 := Lib.hid (alloc_at w5 (.cells #[vi 2, vi 0, vi f.1, vi f.2.1, vi f.2.2, .slice none 0 0, .slice none 0 0, .map none] 39))
    have HX6 := Lib.hid ((Below.heap_alloc w5 (.cells #[vi 2, vi 0, vi f.1, vi f.2.1, vi f.2.2, .slice none 0 0, .slice none 0 0, .map none] 39) w2.heap.size (by omega)).trans HX5.out)
    have HY6 := Lib.hid ((Below.heap_alloc w5 (.cells #[vi 2, vi 0, vi f.1, vi f.2.1, vi f.2.2, .slice none 0 0, .slice none 0 0, .map none] 39) w4.heap.size (by omega)).trans HY5.out)
    have hw6 : (w5.alloc (.cells #[vi 2, vi 0, vi f.1, vi f.2.1, vi f.2.2, .slice none 0 0, .slice none 0 0, .map none] 39)).heap.size = w5.heap.size + 1 := by simp
    go_upto_region 12 with fail
    clear x
    generalize w5.alloc (.cells #[vi 2, vi 0, vi f.1, vi f.2.1, vi f.2.2, .slice none 0 0, .slice none 0 0, .map none] 39) = w6 at *
    clear hw6
    have x := fun j => cell_of HX6.out j
    have z := free_of HZ6.out 0
    have zy := fun j => cell_of HZ6.out j
    have HB7 := Lib.hid (Below.setCell (p := ⟨w5.heap.size, 0, none⟩) HB6.out (by show w2.heap.size ≤ w5.heap.size; omega) (vi 1))
    have HX7 := Lib.hid ((Below.heap_setCell w6 ⟨w5.heap.size, 0, none⟩ (vi 1) w2.heap.size (by show w2.heap.size ≠ w5.heap.size; omega)).trans HX6.out)
    have HY7 := Lib.hid ((Below.heap_setCell w6 ⟨w5.heap.size, 0, none⟩ (vi 1) w4.heap.size (by show w4.heap.size ≠ w5.heap.size; omega)).trans HY6.out)
    have HZ7 := Lib.hid (show (w6.setCell ⟨w5.heap.size, 0, none⟩ (vi 1)).heap[w5.heap.size]? = some (.cells #[vi 1, vi 0, vi f.1, vi f.2.1, vi f.2.2, .slice none 0 0, .slice none 0 0, .map none] 39) from by simp [World.setCell, Array.getElem?_modify, HZ6.out])
    go_upto_region 13 with fail
    clear x z zy
    generalize w6.setCell ⟨w5.heap.size, 0, none⟩ (vi 1) = w7 at *
    have x := fun j => cell_of HX7.out j
    have y := fun j => cell_of HY7.out j
    have zc := fun j => cell_of HZ7.out j
    have HBW := Lib.hid (HB2.out.trans (HB7.out.mono HB2.out.size))
    have HRW := Lib.hid (HV.out.later HBW.out)
    go_wp2_with (first
      | (go_at_call 25; refine ((holds_fail _ es ts level 0 (0, 0, 0) none 0 0 none 0 0 none w9 (HV.out.later HB9.out) hes HH.out HLV.out [] (nodes_none0 w9) (fun _ h => by cases h)).mono (fun e4 w4 h => (show e4 = .returned (.bool false) ∧ _ from HFZ.out ▸ h))).mono ?_; rintro e10 w10 ⟨rfl, hb10⟩; have HB10 := Lib.hid (HB9.out.trans (hb10.mono HB9.out.size)); clear hb10)
      | (go_at_call 25; refine (holds_short _ es ts level 0 f none 0 0 none 0 0 none w7 HRW.out hes HH.out HLV.out HN0.out (by omega)).mono ?_; rintro e9 w9 ⟨rfl, hb9⟩; have HB9 := Lib.hid (HBW.out.trans (hb9.mono HBW.out.size)); have HX9 := Lib.hid ((hb9.block _ (Array.getElem?_eq_some_iff.1 HX7.out).1).trans HX7.out); have x9 := fun j => cell_of HX9.out j; have HY9 := Lib.hid ((hb9.block _ (Array.getElem?_eq_some_iff.1 HY7.out).1).trans HY7.out); have y9 := fun j => cell_of HY9.out j; clear hb9))
    go_ret
    exact ⟨rfl, HB10.out⟩
  | nil =>
    have HF := Lib.hid hf
    have HFN := Lib.hid (fail_none (ts := ts) (level := level) hf)
    clear hf
    have hsz := (tree0 ts level).size_pos
    cases hb : endB (tree0 ts level) 0 (min budget 800) with
    | true =>
      have HE := Lib.hid hb
      clear hb hsz
      go_upto_region 6 with (go_at_call 18; refine (check_pass (level := level) (B := min budget 800) HR1.out hes HBI.out (.inl HRM.out) HH.out HLV.out HF.out HE.out).mono ?_; rintro e2 w2 ⟨F, db, om, O, rfl, hf2, hd2, hm2, ho2, hb2⟩; have HD2 := Lib.hid (BoolB.rd (n := ts.length) hd2 (by simp) (by have := HG.out.len; omega)); have HPS := Lib.hid ((leaf_found hf2).pass HG.out (edges_ex ts F) HF.out ho2); have HLO := Lib.hid (LookO.of_map hm2 (ho2.ordG HG.out.len)); clear hf2 hd2 hm2 ho2; have HB2 := Lib.hid (HB1.out.trans (hb2.mono HB1.out.size)); clear hb2)
      have HA3 := Lib.hid ((Below.refl w2.heap.size w2).alloc (Nat.le_refl _) (.cells #[vi 1, vi (tree0 ts level).size, vi 0, vi 0, vi 0, .slice none 0 0, .slice (some ⟨db, 0, none⟩) ts.length ts.length, .map (some om)] 39))
      have HX3 := Lib.hid (alloc_at w2 (.cells #[vi 1, vi (tree0 ts level).size, vi 0, vi 0, vi 0, .slice none 0 0, .slice (some ⟨db, 0, none⟩) ts.length ts.length, .map (some om)] 39))
      have hw3 : (w2.alloc (.cells #[vi 1, vi (tree0 ts level).size, vi 0, vi 0, vi 0, .slice none 0 0, .slice (some ⟨db, 0, none⟩) ts.length ts.length, .map (some om)] 39)).heap.size = w2.heap.size + 1 := by simp
      generalize w2.alloc (.cells #[vi 1, vi (tree0 ts level).size, vi 0, vi 0, vi 0, .slice none 0 0, .slice (some ⟨db, 0, none⟩) ts.length ts.length, .map (some om)] 39) = w3 at *
      have h23 : w2.heap.size < w3.heap.size := by omega
      clear hw3
      have x := fun j => cell_of HX3.out j
      go_upto_region 10 with (go_at_call 25; go_loud (refine ((holds_pass _ es ts level (tree0 ts level).size (0, 0, 0) none 0 0 (some ⟨db, 0, none⟩) ts.length (some om) _ O w3 (HV.out.later (HB2.out.trans (HA3.out.mono HB2.out.size))) hes HH.out HLV.out (RdB.later HD2.out HA3.out) (by simp) (HLO.out.later HA3.out)).mono (fun e4 w4 h => (show e4 = .returned (.bool true) ∧ Go.RowKit.Below w3.heap.size w3 w4 from by obtain ⟨b, h1, h2, h3⟩ := h; rw [h1, h2.2 HPS.out]; exact ⟨rfl, h3⟩))).mono ?_; rintro e4 w4 ⟨rfl, hb4⟩); have HB4 := Lib.hid (HA3.out.trans (hb4.mono HA3.out.size)); have HX4 := Lib.hid ((hb4.block _ (by omega)).trans HX3.out); have h34 := hb4.size; clear hb4)
      clear x
      have x := fun j => cell_of HX4.out j
      have HB5 := Lib.hid (HB4.out.alloc HB4.out.size (.cells #[vi 1, vi 0, vi 0, vi 0, vi 0, .slice none 0 0, .slice none 0 0, .map none] 39))
      have HY5 := Lib.hid (alloc_at w4 (.cells #[vi 1, vi 0, vi 0, vi 0, vi 0, .slice none 0 0, .slice none 0 0, .map none] 39))
      have HX5 := Lib.hid ((Below.heap_alloc w4 (.cells #[vi 1, vi 0, vi 0, vi 0, vi 0, .slice none 0 0, .slice none 0 0, .map none] 39) w2.heap.size (by omega)).trans HX4.out)
      have hw5 : (w4.alloc (.cells #[vi 1, vi 0, vi 0, vi 0, vi 0, .slice none 0 0, .slice none 0 0, .map none] 39)).heap.size = w4.heap.size + 1 := by simp
      go_upto_region 11 with fail
      clear x
      generalize w4.alloc (.cells #[vi 1, vi 0, vi 0, vi 0, vi 0, .slice none 0 0, .slice none 0 0, .map none] 39) = w5 at *
      have h45 : w4.heap.size < w5.heap.size := by omega
      clear hw5
      have x := fun j => cell_of HX5.out j
      have HB6 := Lib.hid (HB5.out.alloc HB5.out.size (.cells #[vi 1, vi (tree0 ts level).size, vi 0, vi 0, vi 0, .slice none 0 0, .slice (some ⟨db, 0, none⟩) ts.length ts.length, .map (some om)] 39))
      have HZ6 := Lib.hid (alloc_at w5 (.cells #[vi 1, vi (tree0 ts level).size, vi 0, vi 0, vi 0, .slice none 0 0, .slice (some ⟨db, 0, none⟩) ts.length ts.length, .map (some om)] 39))
      have HX6 := Lib.hid ((Below.heap_alloc w5 (.cells #[vi 1, vi (tree0 ts level).size, vi 0, vi 0, vi 0, .slice none 0 0, .slice (some ⟨db, 0, none⟩) ts.length ts.length, .map (some om)] 39) w2.heap.size (by omega)).trans HX5.out)
      have HY6 := Lib.hid ((Below.heap_alloc w5 (.cells #[vi 1, vi (tree0 ts level).size, vi 0, vi 0, vi 0, .slice none 0 0, .slice (some ⟨db, 0, none⟩) ts.length ts.length, .map (some om)] 39) w4.heap.size (by omega)).trans HY5.out)
      have hw6 : (w5.alloc (.cells #[vi 1, vi (tree0 ts level).size, vi 0, vi 0, vi 0, .slice none 0 0, .slice (some ⟨db, 0, none⟩) ts.length ts.length, .map (some om)] 39)).heap.size = w5.heap.size + 1 := by simp
      go_upto_region 12 with fail
      clear x
      generalize w5.alloc (.cells #[vi 1, vi (tree0 ts level).size, vi 0, vi 0, vi 0, .slice none 0 0, .slice (some ⟨db, 0, none⟩) ts.length ts.length, .map (some om)] 39) = w6 at *
      clear hw6
      have x := fun j => cell_of HX6.out j
      have z := free_of HZ6.out 0
      have zy := fun j => cell_of HZ6.out j
      have HB7 := Lib.hid (Below.setCell (p := ⟨w5.heap.size, 0, none⟩) HB6.out (by show w2.heap.size ≤ w5.heap.size; omega) (vi 2))
      have HX7 := Lib.hid ((Below.heap_setCell w6 ⟨w5.heap.size, 0, none⟩ (vi 2) w2.heap.size (by show w2.heap.size ≠ w5.heap.size; omega)).trans HX6.out)
      have HY7 := Lib.hid ((Below.heap_setCell w6 ⟨w5.heap.size, 0, none⟩ (vi 2) w4.heap.size (by show w4.heap.size ≠ w5.heap.size; omega)).trans HY6.out)
      have HZ7 := Lib.hid (show (w6.setCell ⟨w5.heap.size, 0, none⟩ (vi 2)).heap[w5.heap.size]? = some (.cells #[vi 2, vi (tree0 ts level).size, vi 0, vi 0, vi 0, .slice none 0 0, .slice (some ⟨db, 0, none⟩) ts.length ts.length, .map (some om)] 39) from by simp [World.setCell, Array.getElem?_modify, HZ6.out])
      go_upto_region 13 with fail
      clear x z zy
      generalize w6.setCell ⟨w5.heap.size, 0, none⟩ (vi 2) = w7 at *
      have x := fun j => cell_of HX7.out j
      have y := fun j => cell_of HY7.out j
      have zc := fun j => cell_of HZ7.out j
      have HBW := Lib.hid (HB2.out.trans (HB7.out.mono HB2.out.size))
      have HRW := Lib.hid (HV.out.later HBW.out)
      go_wp2_with (first
        | (go_at_call 25; refine ((holds_fail _ es ts level (tree0 ts level).size (0, 0, 0) none 0 0 (some ⟨db, 0, none⟩) ts.length ts.length (some om) w7 HRW.out hes HH.out HLV.out [] (nodes_none0 w7) (fun _ h => by cases h)).mono (fun e4 w4 h => (show e4 = .returned (.bool false) ∧ _ from HFN.out (0, 0, 0) ▸ h))).mono ?_; rintro e9 w9 ⟨rfl, hb9⟩; have HB9 := Lib.hid (HBW.out.trans (hb9.mono HBW.out.size)); have HX9 := Lib.hid ((hb9.block _ (Array.getElem?_eq_some_iff.1 HX7.out).1).trans HX7.out); have x9 := fun j => cell_of HX9.out j; have HY9 := Lib.hid ((hb9.block _ (Array.getElem?_eq_some_iff.1 HY7.out).1).trans HY7.out); have y9 := fun j => cell_of HY9.out j; clear hb9))
      go_ret
      exact ⟨rfl, HB9.out⟩
    | false =>
      cases ho : endO (tree0 ts level) 0 (min budget 800) with
      | true =>
        have HO := Lib.hid ho
        clear ho hb hsz
        go_upto_region 6 with (go_at_call 18; refine (check_over (level := level) (B := min budget 800) HR1.out hes HBI.out (.inl HRM.out) HH.out HLV.out HF.out HO.out).mono ?_; rintro e2 w2 ⟨rfl, hb2⟩; have HB2 := Lib.hid (HB1.out.trans (hb2.mono HB1.out.size)); clear hb2)
        have HA3 := Lib.hid ((Below.refl w2.heap.size w2).alloc (Nat.le_refl _) (.cells #[vi 3, vi (max 0 (min budget 800)), vi 0, vi 0, vi 0, .slice none 0 0, .slice none 0 0, .map none] 39))
        have HX3 := Lib.hid (alloc_at w2 (.cells #[vi 3, vi (max 0 (min budget 800)), vi 0, vi 0, vi 0, .slice none 0 0, .slice none 0 0, .map none] 39))
        generalize w2.alloc (.cells #[vi 3, vi (max 0 (min budget 800)), vi 0, vi 0, vi 0, .slice none 0 0, .slice none 0 0, .map none] 39) = w3 at *
        have x := fun j => cell_of HX3.out j
        go_wp2_with (go_at_call 25; refine (holds_other _ es ts level 3 (max 0 (min budget 800)) (0, 0, 0) none 0 0 none 0 0 none w3 (HV.out.later (HB2.out.trans (HA3.out.mono HB2.out.size))) hes HH.out HLV.out (by decide) (by decide)).mono ?_; rintro e4 w4 ⟨rfl, hb4⟩)
        go_ret
        exact ⟨rfl, HB2.out.trans ((HA3.out.trans (hb4.mono HA3.out.size)).mono HB2.out.size)⟩
      | false =>
        have HE := Lib.hid hb
        have HO := Lib.hid ho
        have HRES := Lib.hid (end_res hb ho).1
        have HN0 := Lib.hid (res_some HRES.out)
        clear ho hb hsz
        go_upto_region 6 with (go_at_call 18; refine (check_fail (level := level) (B := min budget 800) HR1.out hes HBI.out (.inl HRM.out) HH.out HLV.out HF.out HE.out HO.out).mono ?_; rintro e2 w2 ⟨ta, tc, l, rfl, hn2, hl2, ht2, hb2⟩; have HFS := Lib.hid (fail_shown HF.out HRES.out hn2); have hns := nodes_small HG.out.len _ _ hn2; have HNW := Lib.hid (ht2.rd hns); have HSM := Lib.hid (nodesI_small hns); clear hn2 hl2 ht2 hns; have HB2 := Lib.hid (HB1.out.trans (hb2.mono HB1.out.size)); clear hb2)
        have HA3 := Lib.hid ((Below.refl w2.heap.size w2).alloc (Nat.le_refl _) (.cells #[vi 2, vi (tree0 ts level).size, vi 0, vi 0, vi 0, .slice ta (tree0 ts level).size tc, .slice none 0 0, .map none] 39))
        have HX3 := Lib.hid (alloc_at w2 (.cells #[vi 2, vi (tree0 ts level).size, vi 0, vi 0, vi 0, .slice ta (tree0 ts level).size tc, .slice none 0 0, .map none] 39))
        have hw3 : (w2.alloc (.cells #[vi 2, vi (tree0 ts level).size, vi 0, vi 0, vi 0, .slice ta (tree0 ts level).size tc, .slice none 0 0, .map none] 39)).heap.size = w2.heap.size + 1 := by simp
        generalize w2.alloc (.cells #[vi 2, vi (tree0 ts level).size, vi 0, vi 0, vi 0, .slice ta (tree0 ts level).size tc, .slice none 0 0, .map none] 39) = w3 at *
        have h23 : w2.heap.size < w3.heap.size := by omega
        clear hw3
        have x := fun j => cell_of HX3.out j
        go_upto_region 10 with (go_at_call 25; go_loud (refine ((holds_fail _ es ts level (tree0 ts level).size (0, 0, 0) ta (tree0 ts level).size tc none 0 0 none w3 (HV.out.later (HB2.out.trans (HA3.out.mono HB2.out.size))) hes HH.out HLV.out (nodesI l) (HNW.out.later HA3.out) HSM.out).mono (fun e4 w4 h => (show e4 = .returned (.bool true) ∧ _ from HFS.out ▸ h))).mono ?_; rintro e4 w4 ⟨rfl, hb4⟩); have HB4 := Lib.hid (HA3.out.trans (hb4.mono HA3.out.size)); have HX4 := Lib.hid ((hb4.block _ (by omega)).trans HX3.out); have h34 := hb4.size; clear hb4)
        clear x
        have x := fun j => cell_of HX4.out j
        have HB5 := Lib.hid (HB4.out.alloc HB4.out.size (.cells #[vi 2, vi 0, vi 0, vi 0, vi 0, .slice none 0 0, .slice none 0 0, .map none] 39))
        have HY5 := Lib.hid (alloc_at w4 (.cells #[vi 2, vi 0, vi 0, vi 0, vi 0, .slice none 0 0, .slice none 0 0, .map none] 39))
        have HX5 := Lib.hid ((Below.heap_alloc w4 (.cells #[vi 2, vi 0, vi 0, vi 0, vi 0, .slice none 0 0, .slice none 0 0, .map none] 39) w2.heap.size (by omega)).trans HX4.out)
        have hw5 : (w4.alloc (.cells #[vi 2, vi 0, vi 0, vi 0, vi 0, .slice none 0 0, .slice none 0 0, .map none] 39)).heap.size = w4.heap.size + 1 := by simp
        go_upto_region 11 with fail
        clear x
        generalize w4.alloc (.cells #[vi 2, vi 0, vi 0, vi 0, vi 0, .slice none 0 0, .slice none 0 0, .map none] 39) = w5 at *
        have h45 : w4.heap.size < w5.heap.size := by omega
        clear hw5
        have x := fun j => cell_of HX5.out j
        have HB6 := Lib.hid (HB5.out.alloc HB5.out.size (.cells #[vi 2, vi (tree0 ts level).size, vi 0, vi 0, vi 0, .slice ta (tree0 ts level).size tc, .slice none 0 0, .map none] 39))
        have HZ6 := Lib.hid (alloc_at w5 (.cells #[vi 2, vi (tree0 ts level).size, vi 0, vi 0, vi 0, .slice ta (tree0 ts level).size tc, .slice none 0 0, .map none] 39))
        have HX6 := Lib.hid ((Below.heap_alloc w5 (.cells #[vi 2, vi (tree0 ts level).size, vi 0, vi 0, vi 0, .slice ta (tree0 ts level).size tc, .slice none 0 0, .map none] 39) w2.heap.size (by omega)).trans HX5.out)
        have HY6 := Lib.hid ((Below.heap_alloc w5 (.cells #[vi 2, vi (tree0 ts level).size, vi 0, vi 0, vi 0, .slice ta (tree0 ts level).size tc, .slice none 0 0, .map none] 39) w4.heap.size (by omega)).trans HY5.out)
        have hw6 : (w5.alloc (.cells #[vi 2, vi (tree0 ts level).size, vi 0, vi 0, vi 0, .slice ta (tree0 ts level).size tc, .slice none 0 0, .map none] 39)).heap.size = w5.heap.size + 1 := by simp
        go_upto_region 12 with fail
        clear x
        generalize w5.alloc (.cells #[vi 2, vi (tree0 ts level).size, vi 0, vi 0, vi 0, .slice ta (tree0 ts level).size tc, .slice none 0 0, .map none] 39) = w6 at *
        clear hw6
        have x := fun j => cell_of HX6.out j
        have z := free_of HZ6.out 0
        have zy := fun j => cell_of HZ6.out j
        have HB7 := Lib.hid (Below.setCell (p := ⟨w5.heap.size, 0, none⟩) HB6.out (by show w2.heap.size ≤ w5.heap.size; omega) (vi 1))
        have HX7 := Lib.hid ((Below.heap_setCell w6 ⟨w5.heap.size, 0, none⟩ (vi 1) w2.heap.size (by show w2.heap.size ≠ w5.heap.size; omega)).trans HX6.out)
        have HY7 := Lib.hid ((Below.heap_setCell w6 ⟨w5.heap.size, 0, none⟩ (vi 1) w4.heap.size (by show w4.heap.size ≠ w5.heap.size; omega)).trans HY6.out)
        have HZ7 := Lib.hid (show (w6.setCell ⟨w5.heap.size, 0, none⟩ (vi 1)).heap[w5.heap.size]? = some (.cells #[vi 1, vi (tree0 ts level).size, vi 0, vi 0, vi 0, .slice ta (tree0 ts level).size tc, .slice none 0 0, .map none] 39) from by simp [World.setCell, Array.getElem?_modify, HZ6.out])
        go_upto_region 13 with fail
        clear x z zy
        generalize w6.setCell ⟨w5.heap.size, 0, none⟩ (vi 1) = w7 at *
        have x := fun j => cell_of HX7.out j
        have y := fun j => cell_of HY7.out j
        have zc := fun j => cell_of HZ7.out j
        have HBW := Lib.hid (HB2.out.trans (HB7.out.mono HB2.out.size))
        have HRW := Lib.hid (HV.out.later HBW.out)
        go_wp2_with (first
          | (go_at_call 25; refine ((holds_fail _ es ts level 0 (0, 0, 0) none 0 0 none 0 0 none w9 (HV.out.later HB9.out) hes HH.out HLV.out [] (nodes_none0 w9) (fun _ h => by cases h)).mono (fun e4 w4 h => (show e4 = .returned (.bool false) ∧ _ from HFN.out (0, 0, 0) ▸ h))).mono ?_; rintro e10 w10 ⟨rfl, hb10⟩; have HB10 := Lib.hid (HB9.out.trans (hb10.mono HB9.out.size)); clear hb10)
          | (go_at_call 25; refine (holds_short _ es ts level (tree0 ts level).size (0, 0, 0) ta (tree0 ts level).size tc none 0 0 none w7 HRW.out hes HH.out HLV.out HN0.out (by omega)).mono ?_; rintro e9 w9 ⟨rfl, hb9⟩; have HB9 := Lib.hid (HBW.out.trans (hb9.mono HBW.out.size)); have HX9 := Lib.hid ((hb9.block _ (Array.getElem?_eq_some_iff.1 HX7.out).1).trans HX7.out); have x9 := fun j => cell_of HX9.out j; have HY9 := Lib.hid ((hb9.block _ (Array.getElem?_eq_some_iff.1 HY7.out).1).trans HY7.out); have y9 := fun j => cell_of HY9.out j; clear hb9))
        go_ret
        exact ⟨rfl, HB10.out⟩
end certComplete
end Go.Proofs.YtnacoplokjdglaaGreat
