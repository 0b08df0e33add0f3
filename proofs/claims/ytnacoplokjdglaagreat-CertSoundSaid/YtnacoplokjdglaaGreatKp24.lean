/- Texts of one proof, one behind the other: DpBad, RdEv. -/
import Derived.Deep.Strs
import Derived.Test.YtnacoplokjdglaaGreatKp1
import Derived.Test.YtnacoplokjdglaaGreatKp2
import Derived.Test.YtnacoplokjdglaaGreatKp3
import Derived.Test.YtnacoplokjdglaaGreatKp4
import Derived.Test.YtnacoplokjdglaaGreatKp5
import Derived.Test.YtnacoplokjdglaaGreatKp6
import Derived.Test.YtnacoplokjdglaaGreatKp8
import Derived.Test.YtnacoplokjdglaaGreatKp9
import Derived.Test.YtnacoplokjdglaaGreatKp10
import Derived.Test.YtnacoplokjdglaaGreatKp11
import Derived.Test.YtnacoplokjdglaaGreatKp12
import Derived.Test.YtnacoplokjdglaaGreatKp13
import Derived.Test.YtnacoplokjdglaaGreatKp14
import Derived.Test.YtnacoplokjdglaaGreatKp15
import Derived.Test.YtnacoplokjdglaaGreatKp16
import Derived.Test.YtnacoplokjdglaaGreatKp23
set_option linter.all false
namespace Go.Proofs.YtnacoplokjdglaaGreat
open Go.RowKit Go.Maps
attribute [local go_sem] Oper.semAt_some

def stM (es : List GEdge) (level : Int) (e : GEdge) (k l : Nat) (a b : Nat) : Bool := stS (es.take k) level a b || ((decide (0 < l) && st1 level e 0 a b) || (decide (1 < l) && st1 level e 1 a b))
theorem stM_zero (es : List GEdge) (level : Int) (e : GEdge) (k a b : Nat) : stS (es.take k) level a b = stM es level e k 0 a b := by simp [stM]
theorem stM_two {es : List GEdge} {level : Int} {e : GEdge} {k : Nat} (he : es[k]? = some e) (a b : Nat) : stM es level e k 2 a b = stS (es.take (k + 1)) level a b := by
  unfold stM stS
  rw [take_at he, List.any_append]
  simp [stE]
theorem stM_next {es : List GEdge} {level : Int} {e : GEdge} {k l a b f t : Nat} (hl : l < 2) (hf : e.f = f) (ht : e.t = t) (x y : Nat) (ha : a = 2 * f + l) (hb : b = 2 * t + nowK e) (hc : (level == 1 && ((l : Int) == 1 && ((nowK e : Nat) : Int) == 1)) = false) : (if x = a ∧ y = b then true else stM es level e k l x y) = stM es level e k (l + 1) x y := by
  have hi : ∀ q : Nat, ((q : Int) == 1) = (q == 1) := fun q => by
    rw [Bool.eq_iff_iff, beq_iff_eq, beq_iff_eq]; omega
  rw [hi, hi] at hc
  have h1 : ∀ z : Nat, z = l → st1 level e z x y = decide (x = a ∧ y = b) := fun z hz => by
    subst hz
    unfold st1
    rw [hc, Bool.not_false, Bool.and_true, Bool.eq_iff_iff, decide_eq_true_eq, decide_eq_true_eq, hf, ht]
    constructor
    · rintro ⟨h1, h2⟩; constructor <;> omega
    · rintro ⟨h1, h2⟩; constructor <;> omega
  have : l = 0 ∨ l = 1 := by omega
  rcases this with rfl | rfl
  · unfold stM
    rw [h1 0 rfl]
    by_cases hxy : x = a ∧ y = b <;> simp [hxy]
  · unfold stM
    rw [h1 1 rfl]
    by_cases hxy : x = a ∧ y = b <;> simp [hxy]
theorem stM_skip {es : List GEdge} {level : Int} {e : GEdge} {k l : Nat} (hl : l < 2) (hc : (level == 1 && ((l : Int) == 1 && ((nowK e : Nat) : Int) == 1)) = true) (x y : Nat) : stM es level e k l x y = stM es level e k (l + 1) x y := by
  simp only [Bool.and_eq_true, beq_iff_eq] at hc
  obtain ⟨rfl, h2, h3⟩ := hc
  have h4 : l = 1 := by omega
  have h5 : nowK e = 1 := by omega
  subst h4
  simp [stM, st1, h5]

set_option maxRecDepth 100000 in
set_option maxHeartbeats 16000000 in
theorem bad_call (n : Nat) (es : List GEdge) (v : Value) (level : Int) (w : World) (hv : RdEdges w v es) (hin : InN n es) (hn : n ≤ 400) :
    Calls Tryz.prog 28 #[vi n, v, vi level] w fun e w' => ∃ b, e = .returned (.bool b) ∧ (b = true ↔ Rounds (StepK es (level == 1))) ∧ Below w.heap.size w w' := by
  obtain ⟨av, nv, cv, rfl, rfl, hmv, -⟩ := hv.at
  have HV := Lib.hid hv
  have HIN := Lib.hid hin
  clear hv hin
  obtain ⟨m, hm⟩ : ∃ m : Nat, m = 2 * n := ⟨_, rfl⟩
  have HM := Lib.hid hm
  have hw0 : IntKind.i64.wrap (2 * (n : Int)) = (m : Int) := by rw [IntWalk.i64_in _ (by omega)]; omega
  have hmk := run_makeTab w m (by omega)
  have hmb := fun w => run_makeBoolR w m (by omega)
  have hm8 : m ≤ 800 := by omega
  have HP0 := Lib.hid (MatP.start w m)
  have HB0 := Lib.hid ((Below.refl w.heap.size w).alloc (Nat.le_refl _) (.cells (Array.replicate m (.slice none 0 0)) 34))
  clear hm
  go_enter Tryz.func28, Tryz.ntmps28
  go_upto_region 2 with fail
  generalize w.alloc (.cells (Array.replicate m (.slice none 0 0)) 34) = w1 at *
  obtain ⟨tb, htb⟩ : ∃ tb, tb = w.heap.size := ⟨_, rfl⟩
  rw [← htb] at HP0 HB0 ⊢
  have HTB := Lib.hid htb
  clear htb hmk
  go_wp2_with fail
  go_loopw [22] (fun i wr => ∃ k : Nat, k ≤ m ∧ i = vi k ∧ Hid (MatP tb m k wr ∧ Below tb w wr)) (fun i _ => m - (intOf i).toNat)
  case atStart => exact ⟨0, Nat.zero_le _, rfl, Lib.hid ⟨HP0.out, HB0.out⟩⟩
  case round =>
    obtain ⟨wj, rfl⟩ : ∃ wj : World, wj = wr := ⟨_, rfl⟩
    obtain ⟨k, hk, rfl, HJ⟩ := hrel
    by_cases hlt : k < m
    · have k1 : decide ((k : Int) < m) = true := decide_eq_true (by omega)
      have k2 : (k : Int) < m := by omega
      have hwk : IntKind.i64.wrap ((k : Int) + 1) = (k : Int) + 1 := IntWalk.i64_in _ (by omega)
      have f0 := HJ.out.1.free
      have f1 := fun o => HJ.out.1.cell hlt o
      have HSZ := Lib.hid (show tb ≤ wj.heap.size from by rw [HTB.out]; exact HJ.out.2.size)
      go_wp2_with fail
      exact ⟨⟨k + 1, by omega, by go_num, Lib.hid ⟨HJ.out.1.next hlt, (HJ.out.2.alloc HSZ.out _).setCell (Nat.le_refl _) _⟩⟩, by simp only [intOf]; omega⟩
    · have k1 : decide ((k : Int) < m) = false := decide_eq_false (by omega)
      obtain rfl : m = k := by omega
      have HT0 := Lib.hid (HJ.out.1.full)
      have HB1 := Lib.hid (HJ.out.2)
      clear HJ hmb HP0 HB0
      go_wp2_with fail
      go_loopw [34] (fun i wr => ∃ k : Nat, k ≤ es.length ∧ i = vi k ∧ Hid (MatB tb m (stS (es.take k) level) wr ∧ Below tb w wr)) (fun i _ => es.length - (intOf i).toNat)
      case atStart => exact ⟨0, Nat.zero_le _, rfl, Lib.hid ⟨HT0.out, HB1.out⟩⟩
      case round =>
        obtain ⟨wq, rfl⟩ : ∃ wq : World, wq = wr := ⟨_, rfl⟩
        obtain ⟨q, hq, rfl, HQ⟩ := hrel
        by_cases hlq : q < es.length
        · have j1 : decide ((q : Int) < es.length) = true := decide_eq_true (by omega)
          have j2 : (q : Int) < es.length := by omega
          have hwq : IntKind.i64.wrap ((q : Int) + 1) = (q : Int) + 1 := IntWalk.i64_in _ (by omega)
          obtain ⟨e, he⟩ := some_at hlq
          obtain ⟨_, _, _, e5, -, -, hcl⟩ := (HV.out.later (HTB.out ▸ HQ.out.2)).at
          cases e5
          obtain ⟨b, off, rfl, y0, y1, y2⟩ := hcl q e he
          have HE := Lib.hid he
          have hI := HIN.out e (List.mem_of_getElem? he)
          obtain ⟨f, hf⟩ : ∃ f : Nat, e.f = f := ⟨e.f.toNat, by omega⟩
          obtain ⟨t, ht⟩ : ∃ t : Nat, e.t = t := ⟨e.t.toNat, by omega⟩
          have hfn : f < n := by omega
          have htn : t < n := by omega
          have HF := Lib.hid hf
          have HTT := Lib.hid ht
          have hbe := (Below.refl wq.heap.size wq).alloc (Nat.le_refl _) (.cells #[vi e.f, vi e.t, vi e.k] 113)
          have HX := Lib.hid (alloc_at wq (.cells #[vi e.f, vi e.t, vi e.k] 113))
          have HBA := Lib.hid (HQ.out.2.trans (hbe.mono (by rw [HTB.out]; exact HQ.out.2.size)))
          have HMA := Lib.hid (HQ.out.1.later hbe)
          have HLT := Lib.hid (fun i (hi : i < m) => (Array.getElem?_eq_some_iff.1 (HQ.out.1.row i hi)).1)
          clear hcl he hbe hI hf ht
          go_upto_region 10 with fail
          clear y0 y1 y2
          generalize wq.alloc (.cells #[vi e.f, vi e.t, vi e.k] 113) = wa at *
          obtain ⟨eb, heb⟩ : ∃ eb, eb = wq.heap.size := ⟨_, rfl⟩
          rw [← heb] at HX HLT ⊢
          clear heb
          go_wp2_with fail
          go_loopw [11] (fun i wr => ∃ l : Nat, l ≤ 2 ∧ i = vi l ∧ Hid (MatB tb m (stM es level e q l) wr ∧ Below tb w wr ∧ wr.heap[eb]? = some (.cells #[vi e.f, vi e.t, vi e.k] 113))) (fun i _ => 2 - (intOf i).toNat)
          case atStart => exact ⟨0, Nat.zero_le _, rfl, Lib.hid ⟨HMA.out.congr (fun a b _ _ => stM_zero es level e q a b), HBA.out, HX.out⟩⟩
          case round =>
            obtain ⟨wl, rfl⟩ : ∃ wl : World, wl = wr := ⟨_, rfl⟩
            obtain ⟨l, hl, rfl, HL⟩ := hrel
            by_cases hll : l < 2
            · have l1 : decide ((l : Int) < 2) = true := decide_eq_true (by omega)
              have hwl : IntKind.i64.wrap ((l : Int) + 1) = (l : Int) + 1 := IntWalk.i64_in _ (by omega)
              have x0 : wl.cell? ⟨eb, 0, none⟩ = some (vi f) := by rw [cell_of HL.out.2.2, ← HF.out]; rfl
              have x1 : wl.cell? ⟨eb, 1, none⟩ = some (vi t) := by rw [cell_of HL.out.2.2, ← HTT.out]; rfl
              have x2 : wl.cell? ⟨eb, 2, none⟩ = some (vi e.k) := by rw [cell_of HL.out.2.2]; rfl
              cases h3 : (e.k == 3) with
              | true =>
                have hz : nowK e = 1 := by unfold nowK; simp only [beq_iff_eq] at h3; exact if_pos h3
                have HZ := Lib.hid hz
                clear hz
                obtain ⟨a, ha⟩ : ∃ a : Nat, a = 2 * f + l := ⟨_, rfl⟩
                obtain ⟨b, hb⟩ : ∃ b : Nat, b = 2 * t + 1 := ⟨_, rfl⟩
                have HA := Lib.hid ha
                have HBB := Lib.hid (show b = 2 * t + nowK e from by rw [HZ.out]; exact hb)
                obtain ⟨f2, hf2⟩ : ∃ f2 : Nat, f2 = 2 * f := ⟨_, rfl⟩
                obtain ⟨t2, ht2⟩ : ∃ t2 : Nat, t2 = 2 * t := ⟨_, rfl⟩
                have hm := HM.out
                have g1 : IntKind.i64.wrap (2 * (f : Int)) = (f2 : Int) := by rw [IntWalk.i64_in _ (by omega)]; omega
                have g2 : IntKind.i64.wrap ((f2 : Int) + (l : Int)) = (a : Int) := by rw [IntWalk.i64_in _ (by omega)]; omega
                have g3 : IntKind.i64.wrap (2 * (t : Int)) = (t2 : Int) := by rw [IntWalk.i64_in _ (by omega)]; omega
                have g4 : IntKind.i64.wrap ((t2 : Int) + 1) = (b : Int) := by rw [IntWalk.i64_in _ (by omega)]; omega
                have g5 : (a : Int) < m := by omega
                have g6 : (b : Int) < m := by omega
                have ham : a < m := by omega
                have hbm : b < m := by omega
                have g7 := HL.out.1.tcell ham
                have g8 := HL.out.1.free ham
                have g9 := HL.out.1.rcell ham hbm
                have HAE := Lib.hid (show tb + 1 + a ≠ eb from by have := HLT.out a ham; omega)
                clear hm ha hb hf2 ht2
                cases c1 : (level == 1) with
                | false =>
                  have HC := Lib.hid (show (level == 1 && ((l : Int) == 1 && ((nowK e : Nat) : Int) == 1)) = false from by rw [c1]; rfl)
                  have HS := Lib.hid (HL.out.1.set ham hbm)
                  have HBS := Lib.hid (below_row HL.out.2.1 (Nat.le_refl _) a b (.bool true))
                  have HES := Lib.hid (show (wl.setCell ⟨tb + 1 + a, b, none⟩ (.bool true)).heap[eb]? = some (.cells #[vi e.f, vi e.t, vi e.k] 113) from by rw [Below.heap_setCell _ _ _ eb (by simp only; exact HAE.out.symm)]; exact HL.out.2.2)
                  go_upto_region 17 with fail
                  go_region
                  go_wp2_with fail
                  have HSN := Lib.hid (HS.out.congr (fun x y _ _ => stM_next hll HF.out HTT.out x y HA.out HBB.out HC.out))
                  first
                    | exact ⟨⟨l + 1, by omega, by go_num, Lib.hid ⟨HSN.out, HBS.out, HES.out⟩⟩, by simp only [intOf]; omega⟩
                    | exact ⟨⟨l + 1, by omega, by go_num, Lib.hid ⟨⟨HSN.out.tab, HSN.out.row⟩, HBS.out.drew, HES.out⟩⟩, by simp only [intOf]; omega⟩
                | true =>
                  cases c2 : ((l : Int) == 1) with
                  | false =>
                    have HC := Lib.hid (show (level == 1 && ((l : Int) == 1 && ((nowK e : Nat) : Int) == 1)) = false from by rw [c2]; simp)
                    have HS := Lib.hid (HL.out.1.set ham hbm)
                    have HBS := Lib.hid (below_row HL.out.2.1 (Nat.le_refl _) a b (.bool true))
                    have HES := Lib.hid (show (wl.setCell ⟨tb + 1 + a, b, none⟩ (.bool true)).heap[eb]? = some (.cells #[vi e.f, vi e.t, vi e.k] 113) from by rw [Below.heap_setCell _ _ _ eb (by simp only; exact HAE.out.symm)]; exact HL.out.2.2)
                    go_upto_region 17 with fail
                    go_region
                    go_wp2_with fail
                    have HSN := Lib.hid (HS.out.congr (fun x y _ _ => stM_next hll HF.out HTT.out x y HA.out HBB.out HC.out))
                    first
                      | exact ⟨⟨l + 1, by omega, by go_num, Lib.hid ⟨HSN.out, HBS.out, HES.out⟩⟩, by simp only [intOf]; omega⟩
                      | exact ⟨⟨l + 1, by omega, by go_num, Lib.hid ⟨⟨HSN.out.tab, HSN.out.row⟩, HBS.out.drew, HES.out⟩⟩, by simp only [intOf]; omega⟩
                  | true =>
                    have HC := Lib.hid (show (level == 1 && ((l : Int) == 1 && ((nowK e : Nat) : Int) == 1)) = true from by rw [HZ.out, c1, c2]; rfl)
                    clear g7 g8 g9 x0 x1
                    go_wp2_with fail
                    exact ⟨⟨l + 1, by omega, by go_num, Lib.hid ⟨HL.out.1.congr (fun x y _ _ => stM_skip hll HC.out x y), HL.out.2⟩⟩, by simp only [intOf]; omega⟩
              | false =>
                have hz : nowK e = 0 := by unfold nowK; simp only [beq_eq_false_iff_ne] at h3; exact if_neg h3
                have HZ := Lib.hid hz
                clear hz
                obtain ⟨a, ha⟩ : ∃ a : Nat, a = 2 * f + l := ⟨_, rfl⟩
                obtain ⟨b, hb⟩ : ∃ b : Nat, b = 2 * t + 0 := ⟨_, rfl⟩
                have HA := Lib.hid ha
                have HBB := Lib.hid (show b = 2 * t + nowK e from by rw [HZ.out]; exact hb)
                obtain ⟨f2, hf2⟩ : ∃ f2 : Nat, f2 = 2 * f := ⟨_, rfl⟩
                obtain ⟨t2, ht2⟩ : ∃ t2 : Nat, t2 = 2 * t := ⟨_, rfl⟩
                have hm := HM.out
                have g1 : IntKind.i64.wrap (2 * (f : Int)) = (f2 : Int) := by rw [IntWalk.i64_in _ (by omega)]; omega
                have g2 : IntKind.i64.wrap ((f2 : Int) + (l : Int)) = (a : Int) := by rw [IntWalk.i64_in _ (by omega)]; omega
                have g3 : IntKind.i64.wrap (2 * (t : Int)) = (t2 : Int) := by rw [IntWalk.i64_in _ (by omega)]; omega
                have g4 : IntKind.i64.wrap (t2 : Int) = (b : Int) := by rw [IntWalk.i64_in _ (by omega)]; omega
                have g5 : (a : Int) < m := by omega
                have g6 : (b : Int) < m := by omega
                have ham : a < m := by omega
                have hbm : b < m := by omega
                have g7 := HL.out.1.tcell ham
                have g8 := HL.out.1.free ham
                have g9 := HL.out.1.rcell ham hbm
                have HAE := Lib.hid (show tb + 1 + a ≠ eb from by have := HLT.out a ham; omega)
                clear hm ha hb hf2 ht2
                cases c1 : (level == 1) with
                | false =>
                  have HC := Lib.hid (show (level == 1 && ((l : Int) == 1 && ((nowK e : Nat) : Int) == 1)) = false from by rw [c1]; rfl)
                  have HS := Lib.hid (HL.out.1.set ham hbm)
                  have HBS := Lib.hid (below_row HL.out.2.1 (Nat.le_refl _) a b (.bool true))
                  have HES := Lib.hid (show (wl.setCell ⟨tb + 1 + a, b, none⟩ (.bool true)).heap[eb]? = some (.cells #[vi e.f, vi e.t, vi e.k] 113) from by rw [Below.heap_setCell _ _ _ eb (by simp only; exact HAE.out.symm)]; exact HL.out.2.2)
                  go_upto_region 17 with fail
                  go_region
                  go_wp2_with fail
                  have HSN := Lib.hid (HS.out.congr (fun x y _ _ => stM_next hll HF.out HTT.out x y HA.out HBB.out HC.out))
                  first
                    | exact ⟨⟨l + 1, by omega, by go_num, Lib.hid ⟨HSN.out, HBS.out, HES.out⟩⟩, by simp only [intOf]; omega⟩
                    | exact ⟨⟨l + 1, by omega, by go_num, Lib.hid ⟨⟨HSN.out.tab, HSN.out.row⟩, HBS.out.drew, HES.out⟩⟩, by simp only [intOf]; omega⟩
                | true =>
                  cases c2 : ((l : Int) == 1) with
                  | false =>
                    have HC := Lib.hid (show (level == 1 && ((l : Int) == 1 && ((nowK e : Nat) : Int) == 1)) = false from by rw [c2]; simp)
                    have HS := Lib.hid (HL.out.1.set ham hbm)
                    have HBS := Lib.hid (below_row HL.out.2.1 (Nat.le_refl _) a b (.bool true))
                    have HES := Lib.hid (show (wl.setCell ⟨tb + 1 + a, b, none⟩ (.bool true)).heap[eb]? = some (.cells #[vi e.f, vi e.t, vi e.k] 113) from by rw [Below.heap_setCell _ _ _ eb (by simp only; exact HAE.out.symm)]; exact HL.out.2.2)
                    go_upto_region 17 with fail
                    go_region
                    go_wp2_with fail
                    have HSN := Lib.hid (HS.out.congr (fun x y _ _ => stM_next hll HF.out HTT.out x y HA.out HBB.out HC.out))
                    first
                      | exact ⟨⟨l + 1, by omega, by go_num, Lib.hid ⟨HSN.out, HBS.out, HES.out⟩⟩, by simp only [intOf]; omega⟩
                      | exact ⟨⟨l + 1, by omega, by go_num, Lib.hid ⟨⟨HSN.out.tab, HSN.out.row⟩, HBS.out.drew, HES.out⟩⟩, by simp only [intOf]; omega⟩
                  | true =>
                    have HC := Lib.hid (show (level == 1 && ((l : Int) == 1 && ((nowK e : Nat) : Int) == 1)) = false from by rw [HZ.out]; simp)
                    have HS := Lib.hid (HL.out.1.set ham hbm)
                    have HBS := Lib.hid (below_row HL.out.2.1 (Nat.le_refl _) a b (.bool true))
                    have HES := Lib.hid (show (wl.setCell ⟨tb + 1 + a, b, none⟩ (.bool true)).heap[eb]? = some (.cells #[vi e.f, vi e.t, vi e.k] 113) from by rw [Below.heap_setCell _ _ _ eb (by simp only; exact HAE.out.symm)]; exact HL.out.2.2)
                    go_upto_region 17 with fail
                    go_region
                    go_wp2_with fail
                    have HSN := Lib.hid (HS.out.congr (fun x y _ _ => stM_next hll HF.out HTT.out x y HA.out HBB.out HC.out))
                    first
                      | exact ⟨⟨l + 1, by omega, by go_num, Lib.hid ⟨HSN.out, HBS.out, HES.out⟩⟩, by simp only [intOf]; omega⟩
                      | exact ⟨⟨l + 1, by omega, by go_num, Lib.hid ⟨⟨HSN.out.tab, HSN.out.row⟩, HBS.out.drew, HES.out⟩⟩, by simp only [intOf]; omega⟩
            · have l1 : decide ((l : Int) < 2) = false := decide_eq_false (by omega)
              obtain rfl : l = 2 := by omega
              have HN := Lib.hid (HL.out.1.congr (fun a b _ _ => stM_two HE.out a b))
              go_wp2_with fail
              exact ⟨⟨q + 1, by omega, by go_num, Lib.hid ⟨HN.out, HL.out.2.1⟩⟩, by simp only [intOf]; omega⟩
        · have j1 : decide ((q : Int) < es.length) = false := decide_eq_false (by omega)
          have HFU := Lib.hid (show FullI (StS es level) m 0 (stS es level) from full_start (fun a b _ _ => Iff.rfl))
          have HMB := Lib.hid (show MatB tb m (stS es level) wq from by have h := HQ.out.1; rw [List.take_of_length_le (by omega)] at h; exact h)
          have HB2 := Lib.hid HQ.out.2
          clear HQ HT0 HB1
          go_wp2_with fail
          go_loopw [72] (fun i wr => ∃ k : Nat, k ≤ m ∧ i = vi k ∧ Hid (∃ M, FullI (StS es level) m k M ∧ MatB tb m M wr ∧ Below tb w wr)) (fun i _ => m - (intOf i).toNat)
          case atStart => exact ⟨0, Nat.zero_le _, rfl, Lib.hid ⟨_, HFU.out, HMB.out, HB2.out⟩⟩
          case round =>
            clear HFU HMB HB2
            obtain ⟨wk, rfl⟩ : ∃ wk : World, wk = wr := ⟨_, rfl⟩
            obtain ⟨k, hk, rfl, HK⟩ := hrel
            obtain ⟨M, hK1, hK2, hK3⟩ := HK.out
            have HK1 := Lib.hid hK1
            have HK2 := Lib.hid hK2
            have HK3 := Lib.hid hK3
            clear HK hK1 hK2 hK3
            by_cases hkm : k < m
            · have k1 : decide ((k : Int) < m) = true := decide_eq_true (by omega)
              have k2 : (k : Int) < m := by omega
              have hwk : IntKind.i64.wrap ((k : Int) + 1) = (k : Int) + 1 := IntWalk.i64_in _ (by omega)
              go_wp2_with fail
              go_loopw [77] (fun i wr => ∃ i' : Nat, i' ≤ m ∧ i = vi i' ∧ Hid (∃ M, PassI (StS es level) m k i' 0 M ∧ MatB tb m M wr ∧ Below tb w wr)) (fun i _ => m - (intOf i).toNat)
              case atStart => exact ⟨0, Nat.zero_le _, rfl, Lib.hid ⟨_, HK1.out.start, HK2.out, HK3.out⟩⟩
              case round =>
                obtain ⟨wi, rfl⟩ : ∃ wi : World, wi = wr := ⟨_, rfl⟩
                obtain ⟨i, hi, rfl, HI⟩ := hrel
                obtain ⟨M2, hI1, hI2, hI3⟩ := HI.out
                have HI1 := Lib.hid hI1
                have HI2 := Lib.hid hI2
                have HI3 := Lib.hid hI3
                clear HI hI1 hI2 hI3
                by_cases him : i < m
                · have i1 : decide ((i : Int) < m) = true := decide_eq_true (by omega)
                  have i2 : (i : Int) < m := by omega
                  have hwi : IntKind.i64.wrap ((i : Int) + 1) = (i : Int) + 1 := IntWalk.i64_in _ (by omega)
                  go_wp2_with fail
                  go_loopw [82] (fun j wr => ∃ j' : Nat, j' ≤ m ∧ j = vi j' ∧ Hid (∃ M, PassI (StS es level) m k i j' M ∧ MatB tb m M wr ∧ Below tb w wr)) (fun j _ => m - (intOf j).toNat)
                  case atStart => exact ⟨0, Nat.zero_le _, rfl, Lib.hid ⟨_, HI1.out, HI2.out, HI3.out⟩⟩
                  case round =>
                    obtain ⟨wo, rfl⟩ : ∃ wo : World, wo = wr := ⟨_, rfl⟩
                    obtain ⟨j, hj, rfl, HO⟩ := hrel
                    obtain ⟨M3, hO1, hO2, hO3⟩ := HO.out
                    have HO1 := Lib.hid hO1
                    have HO2 := Lib.hid hO2
                    have HO3 := Lib.hid hO3
                    clear HO hO1 hO2 hO3
                    by_cases hjm : j < m
                    · have j1 : decide ((j : Int) < m) = true := decide_eq_true (by omega)
                      have j2 : (j : Int) < m := by omega
                      have hwj : IntKind.i64.wrap ((j : Int) + 1) = (j : Int) + 1 := IntWalk.i64_in _ (by omega)
                      have c1 := HO2.out.tcell him
                      have c2 := HO2.out.tcell hkm
                      have c3 := HO2.out.rcell him hkm
                      have c4 := HO2.out.rcell hkm hjm
                      have c5 := HO2.out.free him
                      have c6 := HO2.out.rcell him hjm
                      cases d1 : M3 i k with
                      | false =>
                        rw [d1] at c3
                        have HN := Lib.hid (HO1.out.skip him hjm hkm (fun h => by rw [d1] at h; cases h.1))
                        go_wp2_with fail
                        exact ⟨⟨j + 1, by omega, by go_num, Lib.hid ⟨_, HN.out, HO2.out, HO3.out⟩⟩, by simp only [intOf]; omega⟩
                      | true =>
                        rw [d1] at c3
                        cases d2 : M3 k j with
                        | false =>
                          rw [d2] at c4
                          have HN := Lib.hid (HO1.out.skip him hjm hkm (fun h => by rw [d2] at h; cases h.2))
                          go_wp2_with fail
                          exact ⟨⟨j + 1, by omega, by go_num, Lib.hid ⟨_, HN.out, HO2.out, HO3.out⟩⟩, by simp only [intOf]; omega⟩
                        | true =>
                          rw [d2] at c4
                          have HN := Lib.hid (HO1.out.put him hjm hkm d1 d2)
                          have HW := Lib.hid (HO2.out.set him hjm)
                          have HB3 := Lib.hid (below_row HO3.out (Nat.le_refl _) i j (.bool true))
                          go_wp2_with fail
                          exact ⟨⟨j + 1, by omega, by go_num, Lib.hid ⟨_, HN.out, HW.out, HB3.out⟩⟩, by simp only [intOf]; omega⟩
                    · have j1 : decide ((j : Int) < m) = false := decide_eq_false (by omega)
                      obtain rfl : m = j := by omega
                      have HN := Lib.hid HO1.out.row
                      go_wp2_with fail
                      exact ⟨⟨i + 1, by omega, by go_num, Lib.hid ⟨_, HN.out, HO2.out, HO3.out⟩⟩, by simp only [intOf]; omega⟩
                · have i1 : decide ((i : Int) < m) = false := decide_eq_false (by omega)
                  obtain rfl : m = i := by omega
                  have HN := Lib.hid HI1.out.full
                  go_wp2_with fail
                  exact ⟨⟨k + 1, by omega, by go_num, Lib.hid ⟨_, HN.out, HI2.out, HI3.out⟩⟩, by simp only [intOf]; omega⟩
            · have k1 : decide ((k : Int) < m) = false := decide_eq_false (by omega)
              obtain rfl : m = k := by omega
              have HR := Lib.hid (show (∃ i, i < m ∧ M i i = true) ↔ Rounds (StepK es (level == 1)) from by
                rw [← rounds_states HIN.out, rounds_closed HIN.out, ← HM.out]
                constructor
                · rintro ⟨i, hi, h⟩; exact ⟨i, hi, (HK1.out i i hi hi).1 h⟩
                · rintro ⟨i, hi, h⟩; exact ⟨i, hi, (HK1.out i i hi hi).2 h⟩)
              go_wp2_with fail
              go_loopw [112] (fun i wr => ∃ i' : Nat, i' ≤ m ∧ i = vi i' ∧ Hid ((∀ x, x < i' → M x x = false) ∧ wr = wk)) (fun i _ => m - (intOf i).toNat)
              case atStart => exact ⟨0, Nat.zero_le _, rfl, Lib.hid ⟨fun x h => absurd h (Nat.not_lt_zero _), rfl⟩⟩
              case round =>
                obtain ⟨i, hi, rfl, HI⟩ := hrel
                obtain ⟨hI1, rfl⟩ := HI.out
                clear HI
                have HI1 := Lib.hid hI1
                clear hI1
                by_cases him : i < m
                · have i1 : decide ((i : Int) < m) = true := decide_eq_true (by omega)
                  have i2 : (i : Int) < m := by omega
                  have hwi : IntKind.i64.wrap ((i : Int) + 1) = (i : Int) + 1 := IntWalk.i64_in _ (by omega)
                  have c1 := HK2.out.tcell him
                  have c3 := HK2.out.rcell him him
                  cases d1 : M i i with
                  | false =>
                    rw [d1] at c3
                    have HN := Lib.hid (show ∀ x, x < i + 1 → M x x = false from fun x hx => by
                      by_cases h : x < i
                      · exact HI1.out x h
                      · obtain rfl : x = i := by omega
                        exact d1)
                    go_wp2_with fail
                    exact ⟨⟨i + 1, by omega, by go_num, Lib.hid ⟨HN.out, by trivial⟩⟩, by simp only [intOf]; omega⟩
                  | true =>
                    rw [d1] at c3
                    have HN := Lib.hid (HR.out.1 ⟨i, him, d1⟩)
                    go_wp2_with fail
                    go_ret
                    exact ⟨true, rfl, ⟨fun _ => HN.out, fun _ => rfl⟩, HTB.out ▸ HK3.out⟩
                · have i1 : decide ((i : Int) < m) = false := decide_eq_false (by omega)
                  have HN := Lib.hid (show ¬ Rounds (StepK es (level == 1)) from fun h => by
                    obtain ⟨x, hx, hxx⟩ := HR.out.2 h
                    have := HI1.out x (by omega)
                    rw [hxx] at this; cases this)
                  go_wp2_with fail
                  go_ret
                  exact ⟨false, rfl, ⟨fun h => (by cases h), fun h => absurd h HN.out⟩, HTB.out ▸ HK3.out⟩
end Go.Proofs.YtnacoplokjdglaaGreat

namespace Go.Proofs.YtnacoplokjdglaaGreat
open Go.RowKit
open Go.ChangeShapes Go.WideShapes
section
variable {H : Type} {enc : TypeId × Value → H} {w : World} {spare : Nat → Bool} {held : Bool}

theorem int_cell {m : Nat} {c : Value} {y : DataW H × List MemPlace} (h : DataW.trod enc Tryz.prog w 0 spare held m 3 [c] = some y) : ∃ n, c = vi n := by
  obtain ⟨n, hc, -, -⟩ := DataW.trod_int Tryz.underlying3 h
  exact ⟨n, by simpa using hc⟩

theorem cells_int : Tryz.prog.cellsOf 3 = 1 := by kernel_rfl
theorem cells_op : Tryz.prog.cellsOf 51 = 3 := by kernel_rfl
theorem cells_ops : Tryz.prog.cellsOf 47 = 1 := by kernel_rfl
theorem cells_event : Tryz.prog.cellsOf 53 = 3 := by kernel_rfl

set_option maxRecDepth 100000 in
theorem op_cells {m : Nat} {cs : List Value} {y : DataW H × List MemPlace} (hl : cs.length = 3) (h : DataW.trod enc Tryz.prog w 0 spare held m 51 cs = some y) : ∃ o, EOp w cs o := by
  obtain ⟨y0, y1, y2, n, -, -, h0, h1, h2⟩ := Deep.trod_struct3 Tryz.underlying51 h
  match cs, hl with
  | [c0, c1, c2], _ =>
    dsimp only at h0 h1 h2
    rw [cells_int] at h0 h1 h2
    obtain ⟨a, rfl⟩ := int_cell h0
    obtain ⟨b, rfl⟩ := int_cell h1
    obtain ⟨c, rfl⟩ := int_cell h2
    exact ⟨⟨a, b, c⟩, rfl⟩

set_option maxRecDepth 100000 in
theorem ops_read {m : Nat} {v : Value} {y : DataW H × List MemPlace} (h : DataW.trod enc Tryz.prog w 0 spare held m 47 [v] = some y) : ∃ l, RdOps w v l :=
  rds_of_trod Tryz.underlying47 cells_op (by omega) h fun _ _ _ hl hy => op_cells hl hy

set_option maxRecDepth 100000 in
theorem event_cells {m : Nat} {cs : List Value} {y : DataW H × List MemPlace} (hl : cs.length = 3) (h : DataW.trod enc Tryz.prog w 0 spare held m 53 cs = some y) : ∃ e, EEvent w cs e := by
  obtain ⟨y0, y1, y2, n, -, -, h0, h1, h2⟩ := Deep.trod_struct3 Tryz.underlying53 h
  match cs, hl with
  | [c0, c1, c2], _ =>
    dsimp only at h0 h1 h2
    rw [cells_int] at h0 h1
    rw [cells_ops] at h2
    obtain ⟨a, rfl⟩ := int_cell h0
    obtain ⟨b, rfl⟩ := int_cell h1
    obtain ⟨l, hr⟩ := ops_read h2
    exact ⟨⟨a, b, l⟩, c2, rfl, hr⟩

set_option maxRecDepth 100000 in
theorem events_of_trod {v : Value} {d : DataW H} {ps : List MemPlace} (hv : ∃ a l c, v = .slice a l c) (h : DataW.Trod enc Tryz.prog w 0 spare held 22 v d ps) : ∃ es, RdEvents w v es := by
  obtain ⟨fuel, hf⟩ := h
  obtain ⟨a, l, c, rfl⟩ := hv
  exact rds_of_trod Tryz.underlying22 cells_event (by omega) hf fun _ _ _ hl hy => event_cells hl hy
end
set_option maxRecDepth 100000 in
theorem events_of_row {H : Type} {enc : TypeId × Value → H} {w : World} {spare : Nat → Bool} {held : Bool} {base : Nat} {v : Value} {d : DataW H} {ps : List MemPlace} (hk : Value.okWide Tryz.prog w .any base 22 v) (h : DataW.Trod enc Tryz.prog w 0 spare held 22 v d ps) : ∃ es, RdEvents w v es :=
  events_of_trod (okWide_slice Tryz.underlying22 hk) h
end Go.Proofs.YtnacoplokjdglaaGreat
