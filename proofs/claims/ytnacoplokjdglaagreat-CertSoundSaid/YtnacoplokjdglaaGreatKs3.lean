/- Texts of one proof, one behind the other: CkEnd, DpEx, CkKe, CkSm. -/
import Derived.Sort.WalkB2
import Derived.Sort.WalkB12
import Derived.Shelf.SlSortCmp.Insertion
import Derived.Shelf.SlSortCmp.BreakPatterns1
import Derived.Sort.Walk13a
import Derived.Sort.AssemblyPlain
import Derived.Sort.WalkB3
import Derived.Shelf.SlGeneric
import Derived.Shelf.SlLaysF
import Derived.Test.YtnacoplokjdglaaGreatProg
import Derived.Sort.Walk13
import Derived.BigQuiet
import Derived.Shelf.SlSortCmp.Kit1
import Derived.Sort.WalkA
import Derived.Sort.Lot0
import Derived.Sort.LotD1
import Derived.Test.YtnacoplokjdglaaGreatKp1
import Derived.Test.YtnacoplokjdglaaGreatKp2
import Derived.Test.YtnacoplokjdglaaGreatKp3
import Derived.Test.YtnacoplokjdglaaGreatKp4
import Derived.Test.YtnacoplokjdglaaGreatKp5
import Derived.Test.YtnacoplokjdglaaGreatKp6
import Derived.Test.YtnacoplokjdglaaGreatKp7
import Derived.Test.YtnacoplokjdglaaGreatKp8
import Derived.Test.YtnacoplokjdglaaGreatKp9
import Derived.Test.YtnacoplokjdglaaGreatKp10
import Derived.Test.YtnacoplokjdglaaGreatKp11
import Derived.Test.YtnacoplokjdglaaGreatKp12
import Derived.Test.YtnacoplokjdglaaGreatKp13
import Derived.Test.YtnacoplokjdglaaGreatKp14
import Derived.Test.YtnacoplokjdglaaGreatKp15
import Derived.Test.YtnacoplokjdglaaGreatKp16
import Derived.Test.YtnacoplokjdglaaGreatKp17
import Derived.Test.YtnacoplokjdglaaGreatKp18
import Derived.Test.YtnacoplokjdglaaGreatKp19
import Derived.Test.YtnacoplokjdglaaGreatKp20
import Derived.Test.YtnacoplokjdglaaGreatKp21
import Derived.Test.YtnacoplokjdglaaGreatKp22
import Derived.Test.YtnacoplokjdglaaGreatKp23
import Derived.Test.YtnacoplokjdglaaGreatKp24
import Derived.Test.YtnacoplokjdglaaGreatKs1
import Derived.Test.YtnacoplokjdglaaGreatKs2
set_option linter.all false
namespace Go.Proofs.YtnacoplokjdglaaGreat
open Go.RowKit Go.Maps
attribute [local go_sem] Oper.semAt_some

def EndsQ (ts : List GTxn) (level : Int) (n at_ : Nat) (F : FaL) (w : World) (e : Ending) (w' : World) : Prop := ∃ b : Bool, e = .returned (.bool b) ∧ (b = true ↔ endsP ts level n at_ F) ∧ Below w.heap.size w w'
/-- The first m choices are ends, the one behind them isn't. -/
structure Opens (ts : List GTxn) (m : Nat) : Prop where
  le : m ≤ (choicesM ts).length
  one : ∀ (i : Nat) (c : GChoice), i < m → (choicesM ts)[i]? = some c → c.kind = 1
  two : ∀ c : GChoice, (choicesM ts)[m]? = some c → c.kind ≠ 1
theorem own_shapeC {e base : Nat} {w : World} {v : Value} {C : List GChoice} (h : OwCh e base w v C) : ∃ a c, v = .slice a C.length c := by
  rcases h.2 with ⟨hv, h0⟩ | ⟨g, cap, cur, hv, _⟩
  · rw [h0]; exact ⟨none, 0, hv⟩
  · exact ⟨_, _, hv⟩
theorem src_oneS {W : World} {g : Nat} {cs : Array Value} (h : W.heap[g]? = some (.cells cs 109)) (hn : cs.size = 5) : Src W (.slice (some ⟨g, 0, none⟩) 1 1) 5 1 cs.toList := by
  refine ⟨_, 1, rfl, by simp [hn], (fun h => by cases h), fun ad had j u hu => ?_⟩
  cases had
  rw [addr_add, Nat.zero_add, cell_of h]
  simpa using hu

set_option maxRecDepth 100000 in
set_option maxHeartbeats 16000000 in
theorem ends_call (ts : List GTxn) (level : Int) (hg : GoodTs ts) (h10 : ts.length ≤ 10) (m : Nat) (hop : Opens ts m) (hm20 : m ≤ 60) : ∀ (n at_ : Nat) (F : FaL) (v g : Value) (w : World), at_ + n = m → F.length ≤ at_ → RdTxns w v ts → RdSaid w g F →
    Calls Tryz.prog 44 #[v, g, vi at_, vi level] w (EndsQ ts level n at_ F w) := by
  intro n
  induction n with
  | zero =>
    intro at_ F v g w hk hF hv hf
    obtain rfl : at_ = m := by omega
    have HV := Lib.hid hv
    have HF := Lib.hid hf
    have HG := Lib.hid hg
    have HO := Lib.hid hop
    obtain ⟨a, n, c, rfl, rfl, hmm, -⟩ := hv.at
    have HCE := Lib.hid (choices_eq hg.uniq)
    have HRC := Lib.hid (show Calls Tryz.prog 16 #[.slice a ts.length c] w (fun e w' => ∃ v', e = .returned v' ∧ OwCh 76 w.heap.size w' v' (choicesM ts) ∧ Below w.heap.size w w') from by rw [choices_eq hg.uniq]; exact refChoices_call _ ts w hv hg.ok (by have := hg.len; omega))
    obtain ⟨C, hC⟩ : ∃ C, choicesM ts = C := ⟨_, rfl⟩
    have HKK := Lib.hid (fun (W : World) (hb : Below w.heap.size w W) => keys_call ts level hg h10 16 0 F (.slice a ts.length c) g W (by omega) (by omega) (hv.later hb) (hf.later hb))
    have hle := hop.le
    have HTW := Lib.hid hop.two
    have hcl := choicesM_le ts (by have := hg.len; omega)
    rw [hC] at HRC hle HTW hcl
    clear hv hf hop hC
    go_enter Tryz.func44, Tryz.ntmps44
    go_upto_region 2 with (go_at_call 16; refine HRC.out.mono ?_; rintro e2 w2 ⟨v2, rfl, ho2, hb2⟩; have HO2 := Lib.hid ho2; have HB2 := Lib.hid hb2; obtain ⟨a2, c2, rfl⟩ := own_shapeC ho2; clear ho2 hb2)
    by_cases he : at_ = C.length
    · have e0 : ((at_ : Int) == (C.length : Int)) = true := beq_iff_eq.2 (by omega)
      clear he
      go_wp2_with (go_at_call 70; refine (HKK.out w2 HB2.out).mono ?_; rintro e3 w3 ⟨b3, rfl, hi3, hb3⟩; have HI3 := Lib.hid hi3; have HB3 := Lib.hid (HB2.out.trans (hb3.mono HB2.out.size)); clear hi3 hb3)
      go_ret
      exact ⟨b3, rfl, by rw [HI3.out, endsP], HB3.out⟩
    · have e0 : ((at_ : Int) == (C.length : Int)) = false := beq_eq_false_iff_ne.2 (by omega)
      have hlt : (at_ : Int) < (C.length : Int) := by omega
      obtain ⟨x, hx⟩ := some_at (l := C) (k := at_) (by omega)
      have hk1 : (x.kind != 1) = true := by have := HTW.out x hx; simpa using this
      obtain ⟨_, _, _, e5, -, -, hcl2⟩ := HO2.out.rd.at
      cases e5
      obtain ⟨b, off, rfl, k0, -, -, -⟩ := hcl2 at_ x hx
      clear he hx hcl2
      go_wp2_with (go_at_call 70; refine (HKK.out w2 HB2.out).mono ?_; rintro e3 w3 ⟨b3, rfl, hi3, hb3⟩; have HI3 := Lib.hid hi3; have HB3 := Lib.hid (HB2.out.trans (hb3.mono HB2.out.size)); clear hi3 hb3)
      go_ret
      exact ⟨b3, rfl, by rw [HI3.out, endsP], HB3.out⟩
  | succ n ih =>
    intro at_ F v g w hk hF hv hf
    have IH := Lib.hid ih
    have HV := Lib.hid hv
    have HF := Lib.hid hf
    have HG := Lib.hid hg
    obtain ⟨a, na, ca, rfl, rfl, hmm, -⟩ := hv.at
    obtain ⟨fa, fn, fc, rfl, rfl, hfm, -⟩ := RdSaid.at hf
    have HSF := Lib.hid (RdSaid.src hf)
    have HRC := Lib.hid (show Calls Tryz.prog 16 #[.slice a ts.length ca] w (fun e w' => ∃ v', e = .returned v' ∧ OwCh 76 w.heap.size w' v' (choicesM ts) ∧ Below w.heap.size w w') from by rw [choices_eq hg.uniq]; exact refChoices_call _ ts w hv hg.ok (by have := hg.len; omega))
    obtain ⟨c, hc⟩ := some_at (l := choicesM ts) (k := at_) (by have := hop.le; omega)
    have hone := hop.one at_ c (by omega) hc
    have hcl := choicesM_le ts (by have := hg.len; omega)
    have HEP := Lib.hid (show endsP ts level (n + 1) at_ F ↔ ∃ so, endsP ts level n (at_ + 1) (F ++ [(c, so)]) from by
      rw [endsP]
      constructor
      · rintro ⟨so, c', h1, h2⟩
        rw [hc] at h1; cases h1
        exact ⟨so, h2⟩
      · rintro ⟨so, h2⟩
        exact ⟨so, c, hc, h2⟩)
    have hatl := (List.getElem?_eq_some_iff.1 hc).1
    obtain ⟨C, hC⟩ : ∃ C, choicesM ts = C := ⟨_, rfl⟩
    rw [hC] at HRC hc hcl hatl
    have HCC := Lib.hid hc
    have e0 : ((at_ : Int) == (C.length : Int)) = false := beq_eq_false_iff_ne.2 (by omega)
    have hlt : (at_ : Int) < (C.length : Int) := by omega
    have hk1 : (c.kind != 1) = false := by rw [hone]; rfl
    have wka : IntKind.i64.wrap ((at_ : Int) + 1) = ((at_ + 1 : Nat) : Int) := by rw [IntWalk.i64_in _ (by omega)]; omega
    clear hv hf ih hC hc
    go_enter Tryz.func44, Tryz.ntmps44
    go_upto_region 2 with (go_at_call 16; refine HRC.out.mono ?_; rintro e2 w2 ⟨v2, rfl, ho2, hb2⟩; have HO2 := Lib.hid ho2; have HB2 := Lib.hid hb2; obtain ⟨a2, c2, rfl⟩ := own_shapeC ho2; clear ho2 hb2)
    obtain ⟨_, _, _, e5, -, -, hcl2⟩ := HO2.out.rd.at
    cases e5
    obtain ⟨b, off, rfl, k0, k1, k2, k3⟩ := hcl2 at_ c HCC.out
    have HA3 := Lib.hid ((Below.refl w2.heap.size w2).alloc (Nat.le_refl _) (.cells #[.bool true, .bool false] 4))
    have HX3 := Lib.hid (alloc_at w2 (.cells #[.bool true, .bool false] 4))
    have hlt3 : w2.heap.size < (w2.alloc (.cells #[.bool true, .bool false] 4)).heap.size := by simp
    have HB3 := Lib.hid (HB2.out.alloc HB2.out.size (.cells #[.bool true, .bool false] 4))
    clear hcl2 HRC
    go_upto_region 5 with fail
    have HK0 := Lib.hid (cell_later HA3.out k0)
    have HK1 := Lib.hid (cell_later HA3.out k1)
    have HK2 := Lib.hid (cell_later HA3.out k2)
    have HK3 := Lib.hid (cell_later HA3.out k3)
    clear k0 k1 k2 k3 hone hk1 e0
    generalize w2.alloc (.cells #[.bool true, .bool false] 4) = w3 at *
    go_loopw [11, 12, 33] (fun _ _ i wr => ∃ k : Nat, k ≤ 2 ∧ i = .int .i64 k ∧ Hid ((1 ≤ k → ¬ endsP ts level n (at_ + 1) (F ++ [(c, true)])) ∧ (2 ≤ k → ¬ endsP ts level n (at_ + 1) (F ++ [(c, false)]))) ∧ Below w3.heap.size w3 wr) (fun _ _ i _ => 2 - (intOf i).toNat)
    case atStart => exact ⟨0, by omega, rfl, Lib.hid ⟨fun h => (by omega), fun h => (by omega)⟩, Below.refl _ _⟩
    case round =>
      obtain ⟨w7, rfl⟩ : ∃ wk : World, wk = wr := ⟨_, rfl⟩
      obtain ⟨k, hk2, rfl, HNO, hb⟩ := hrel
      have HB7 := Lib.hid hb
      have HBz := Lib.hid (HB3.out.trans (hb.mono HB3.out.size))
      clear hb
      by_cases hltk : k < 2
      · have hkI : (k : Int) < 2 := by omega
        have wk1 : IntKind.i64.wrap ((k : Int) + 1) = ((k + 1 : Nat) : Int) := by rw [IntWalk.i64_in _ (by omega)]; omega
        obtain ⟨so, hso⟩ : ∃ so : Bool, (k == 0) = so := ⟨_, rfl⟩
        have HSO := Lib.hid hso
        have s0 : w7.cell? ⟨w2.heap.size, k, none⟩ = some (.bool so) := by
          rw [cell_of ((HB7.out.block _ hlt3).trans HX3.out), ← hso]
          match k, hltk with
          | 0, _ => rfl
          | 1, _ => rfl
        have k0 := cell_later HB7.out HK0.out
        have k1 := cell_later HB7.out HK1.out
        have k2 := cell_later HB7.out HK2.out
        have k3 := cell_later HB7.out HK3.out
        clear hso
        go_upto_region 7 with fail
        clear s0
        have HSF7 := Lib.hid (HSF.out.below HBz.out)
        have HONE := Lib.hid (show ∀ u ∈ F.flatMap saidV, u.oneCell' = true from fun u hu => by
          obtain ⟨p, _, hp⟩ := List.mem_flatMap.1 hu
          exact saidV_one p u hp)
        have HBA1 := Lib.hid (((Below.refl w7.heap.size w7).alloc (Nat.le_refl _) (.cells #[] 109)).drew)
        have HBB1 := Lib.hid ((((Below.refl w7.heap.size w7).alloc (Nat.le_refl _) (.cells #[] 109)).alloc (by simp) (.cells #[vi c.kind, vi c.key, vi c.a, vi c.b, .bool so] 109)).drew)
        have HBC1 := Lib.hid ((((Below.refl w7.heap.size w7).alloc (Nat.le_refl _) (.cells #[vi c.kind, vi c.key, vi c.a, vi c.b, .bool so] 109)).alloc (by simp) (.cells #[] 109)).drew)
        have ka0 := cell_later ((Below.refl w7.heap.size w7).alloc (Nat.le_refl _) (.cells #[] 109)) k0
        have ka1 := cell_later ((Below.refl w7.heap.size w7).alloc (Nat.le_refl _) (.cells #[] 109)) k1
        have ka2 := cell_later ((Below.refl w7.heap.size w7).alloc (Nat.le_refl _) (.cells #[] 109)) k2
        have ka3 := cell_later ((Below.refl w7.heap.size w7).alloc (Nat.le_refl _) (.cells #[] 109)) k3
        have kb0 := cell_later (((Below.refl w7.heap.size w7).alloc (Nat.le_refl _) (.cells #[] 109)).alloc (by simp) (.cells #[vi c.kind, vi c.key, vi c.a, vi c.b, .bool so] 109)) k0
        have kb1 := cell_later (((Below.refl w7.heap.size w7).alloc (Nat.le_refl _) (.cells #[] 109)).alloc (by simp) (.cells #[vi c.kind, vi c.key, vi c.a, vi c.b, .bool so] 109)) k1
        have kb2 := cell_later (((Below.refl w7.heap.size w7).alloc (Nat.le_refl _) (.cells #[] 109)).alloc (by simp) (.cells #[vi c.kind, vi c.key, vi c.a, vi c.b, .bool so] 109)) k2
        have kb3 := cell_later (((Below.refl w7.heap.size w7).alloc (Nat.le_refl _) (.cells #[] 109)).alloc (by simp) (.cells #[vi c.kind, vi c.key, vi c.a, vi c.b, .bool so] 109)) k3
        have kd0 := cell_later ((Below.refl w7.heap.size w7).alloc (Nat.le_refl _) (.cells #[vi c.kind, vi c.key, vi c.a, vi c.b, .bool so] 109)) k0
        have kd1 := cell_later ((Below.refl w7.heap.size w7).alloc (Nat.le_refl _) (.cells #[vi c.kind, vi c.key, vi c.a, vi c.b, .bool so] 109)) k1
        have kd2 := cell_later ((Below.refl w7.heap.size w7).alloc (Nat.le_refl _) (.cells #[vi c.kind, vi c.key, vi c.a, vi c.b, .bool so] 109)) k2
        have kd3 := cell_later ((Below.refl w7.heap.size w7).alloc (Nat.le_refl _) (.cells #[vi c.kind, vi c.key, vi c.a, vi c.b, .bool so] 109)) k3
        have ke0 := cell_later (((Below.refl w7.heap.size w7).alloc (Nat.le_refl _) (.cells #[vi c.kind, vi c.key, vi c.a, vi c.b, .bool so] 109)).alloc (by simp) (.cells #[] 109)) k0
        have ke1 := cell_later (((Below.refl w7.heap.size w7).alloc (Nat.le_refl _) (.cells #[vi c.kind, vi c.key, vi c.a, vi c.b, .bool so] 109)).alloc (by simp) (.cells #[] 109)) k1
        have ke2 := cell_later (((Below.refl w7.heap.size w7).alloc (Nat.le_refl _) (.cells #[vi c.kind, vi c.key, vi c.a, vi c.b, .bool so] 109)).alloc (by simp) (.cells #[] 109)) k2
        have ke3 := cell_later (((Below.refl w7.heap.size w7).alloc (Nat.le_refl _) (.cells #[vi c.kind, vi c.key, vi c.a, vi c.b, .bool so] 109)).alloc (by simp) (.cells #[] 109)) k3
        have HOA0 := (World.ownsRow_lit (base := w7.heap.size) (e := 109) (size := 5) w7 #[] 0 (Nat.le_refl _) (by simp [maxLen]) rfl)
        have HOA := Lib.hid (show (w7.alloc (.cells #[] 109)).drew.ownsRow w7.heap.size 109 5 (.slice (some ⟨w7.heap.size, 0, none⟩) 0 0) 0 [] from HOA0)
        have HOB := Lib.hid (show ((w7.alloc (.cells #[] 109)).alloc (.cells #[vi c.kind, vi c.key, vi c.a, vi c.b, .bool so] 109)).drew.ownsRow w7.heap.size 109 5 (.slice (some ⟨w7.heap.size, 0, none⟩) 0 0) 0 [] from World.ownsRow.alloc HOA0 (.cells #[vi c.kind, vi c.key, vi c.a, vi c.b, .bool so] 109))
        clear HOA0
        have HOC := Lib.hid (show ((w7.alloc (.cells #[vi c.kind, vi c.key, vi c.a, vi c.b, .bool so] 109)).alloc (.cells #[] 109)).drew.ownsRow w7.heap.size 109 5 (.slice (some ⟨w7.heap.size + 1, 0, none⟩) 0 0) 0 [] from by
          have h := World.ownsRow_lit (base := w7.heap.size) (e := 109) (size := 5) (w7.alloc (.cells #[vi c.kind, vi c.key, vi c.a, vi c.b, .bool so] 109)) #[] 0 (by simp) (by simp [maxLen]) rfl
          rw [show (w7.alloc (.cells #[vi c.kind, vi c.key, vi c.a, vi c.b, .bool so] 109)).heap.size = w7.heap.size + 1 by simp] at h
          exact h)
        have HSA := Lib.hid (HSF7.out.below HBA1.out)
        have HSB := Lib.hid (HSF7.out.below HBB1.out)
        have HSC := Lib.hid (HSF7.out.below HBC1.out)
        have HIB := Lib.hid (show ((w7.alloc (.cells #[] 109)).alloc (.cells #[vi c.kind, vi c.key, vi c.a, vi c.b, .bool so] 109)).drew.heap[w7.heap.size + 1]? = some (.cells #[vi c.kind, vi c.key, vi c.a, vi c.b, .bool so] 109) from by
          have h := alloc_at (w7.alloc (.cells #[] 109)) (.cells #[vi c.kind, vi c.key, vi c.a, vi c.b, .bool so] 109)
          rw [show (w7.alloc (.cells #[] 109)).heap.size = w7.heap.size + 1 by simp] at h
          exact h)
        have HIC := Lib.hid (show ((w7.alloc (.cells #[vi c.kind, vi c.key, vi c.a, vi c.b, .bool so] 109)).alloc (.cells #[] 109)).drew.heap[w7.heap.size]? = some (.cells #[vi c.kind, vi c.key, vi c.a, vi c.b, .bool so] 109) from (Below.heap_alloc _ _ _ (by simp)).trans (alloc_at w7 _))
        have HEXT := Lib.hid (fun (hn : ¬ endsP ts level n (at_ + 1) (F ++ [(c, so)])) => (show (1 ≤ k + 1 → ¬ endsP ts level n (at_ + 1) (F ++ [(c, true)])) ∧ (2 ≤ k + 1 → ¬ endsP ts level n (at_ + 1) (F ++ [(c, false)])) from by
          have h1 := HSO.out
          have h2 := HNO.out
          match k, hltk with
          | 0, _ => subst h1; exact ⟨fun _ => hn, fun h => by omega⟩
          | 1, _ => subst h1; exact ⟨fun _ => h2.1 (by omega), fun _ => hn⟩))
        have HYES := Lib.hid (fun (h : endsP ts level n (at_ + 1) (F ++ [(c, so)])) => HEP.out.2 ⟨so, h⟩)
        go_cut [12] (fun gv wy => ∃ (ga : Option Addr) (gc : Nat), gv = .slice ga (F ++ [(c, so)]).length gc ∧ Hid (RdSaid wy gv (F ++ [(c, so)])) ∧ Below w7.heap.size w7 wy)
        case first =>
          go_region_law (first
            | (refine step_append_src rfl _ _ 60 rfl eltSaid w7.heap.size (0 + F.length) _ HRA.out rfl 1 (saidV (c, so)) HSX.out rfl (saidV_one _) (by omega) (by omega) HBA.out.size ?_; intro vB wB hrB hgB _; have HRB := Lib.hid hrB; have HBB := Lib.hid (HBA.out.grown hgB HBA.out.size (fun z hz => (World.ownsRow.lt HRA.out z hz).1)); clear hrB hgB)
            | (refine step_append_src rfl _ _ 60 rfl eltSaid w7.heap.size (0 + F.length) _ (World.ownsRow.alloc HRA.out _) rfl 1 (saidV (c, so)) (src_new (cs := #[vi c.kind, vi c.key, vi c.a, vi c.b, .bool so]) rfl rfl) rfl (saidV_one _) (by omega) (by omega) (by have := HBA.out.size; simp; omega) ?_; intro vB wB hrB hgB _; have HRB := Lib.hid hrB; have HBB := Lib.hid ((HBA.out.alloc HBA.out.size _).grown hgB (by have := HBA.out.size; simp; omega) (fun z hz => (World.ownsRow.lt HRA.out z hz).1)); clear hrB hgB)
            | (refine step_append_src rfl _ _ 60 rfl eltSaid w7.heap.size 0 [] HOA.out rfl F.length (F.flatMap saidV) HSA.out rfl HONE.out (by omega) (by omega) (by first | (simp; done) | (simp; omega)) ?_; intro vA wA hrA hgA _; have HRA := Lib.hid hrA; have HBA := Lib.hid (HBA1.out.grown hgA (by first | (simp; done) | (simp; omega)) (fun z hz => (World.ownsRow.lt HOA.out z hz).1)); have jA0 := cell_later HBA.out k0; have jA1 := cell_later HBA.out k1; have jA2 := cell_later HBA.out k2; have jA3 := cell_later HBA.out k3; clear hrA hgA)
            | (refine step_append_src rfl _ _ 60 rfl eltSaid w7.heap.size 0 [] HOB.out rfl F.length (F.flatMap saidV) HSB.out rfl HONE.out (by omega) (by omega) (by first | (simp; done) | (simp; omega)) ?_; intro vA wA hrA hgA _; have HRA := Lib.hid hrA; have HBA := Lib.hid (HBB1.out.grown hgA (by first | (simp; done) | (simp; omega)) (fun z hz => (World.ownsRow.lt HOB.out z hz).1)); have HSX := Lib.hid (show Src wA (.slice (some ⟨w7.heap.size + 1, 0, none⟩) 1 1) 5 1 (saidV (c, so)) from src_oneS ((hgA.block _ (Array.getElem?_eq_some_iff.1 HIB.out).1 (fun e => by simp [Value.ownBlock] at e)).trans HIB.out) rfl); have jA0 := cell_later HBA.out k0; have jA1 := cell_later HBA.out k1; have jA2 := cell_later HBA.out k2; have jA3 := cell_later HBA.out k3; clear hrA hgA)
            | (refine step_append_src rfl _ _ 60 rfl eltSaid w7.heap.size 0 [] HOC.out rfl F.length (F.flatMap saidV) HSC.out rfl HONE.out (by omega) (by omega) (by first | (simp; done) | (simp; omega)) ?_; intro vA wA hrA hgA _; have HRA := Lib.hid hrA; have HBA := Lib.hid (HBC1.out.grown hgA (by first | (simp; done) | (simp; omega)) (fun z hz => (World.ownsRow.lt HOC.out z hz).1)); have HSX := Lib.hid (show Src wA (.slice (some ⟨w7.heap.size, 0, none⟩) 1 1) 5 1 (saidV (c, so)) from src_oneS ((hgA.block _ (Array.getElem?_eq_some_iff.1 HIC.out).1 (fun e => by simp [Value.ownBlock] at e)).trans HIC.out) rfl); have jA0 := cell_later HBA.out k0; have jA1 := cell_later HBA.out k1; have jA2 := cell_later HBA.out k2; have jA3 := cell_later HBA.out k3; clear hrA hgA))
          all_goals
            have HOW := Lib.hid (show OwSaid w7.heap.size wB vB (F ++ [(c, so)]) from by
              have h := HRB.out
              unfold OwSaid
              rw [List.length_append, List.length_singleton, List.flatMap_append]
              simpa using h)
            obtain ⟨gA, gC, rfl⟩ := own_shapeF HOW.out
            go_wp2
            go_meet
            exact ⟨gA, gC, rfl, Lib.hid HOW.out.rd, HBB.out⟩
        case rest =>
          obtain ⟨w8, rfl⟩ : ∃ w8 : World, w8 = wc := ⟨_, rfl⟩
          obtain ⟨ga, gc, rfl, HGR, hb8⟩ := hcut
          have HB8 := Lib.hid hb8
          have HB8z := Lib.hid (HBz.out.trans (hb8.mono HBz.out.size))
          have HIC2 := Lib.hid (IH.out (at_ + 1) (F ++ [(c, so)]) (.slice a ts.length ca) _ w8 (by omega) (by rw [List.length_append, List.length_singleton]; omega) (HV.out.later HB8z.out) HGR.out)
          have HB8k := Lib.hid (HB7.out.trans (hb8.mono HB7.out.size))
          obtain ⟨G, hG⟩ : ∃ G, F ++ [(c, so)] = G := ⟨_, rfl⟩
          rw [hG] at HIC2 HEXT HYES
          rw [hG]
          clear hb8 HGR hG
          go_wp2_with (go_at_call 44; refine HIC2.out.mono ?_; rintro e9 w9 ⟨b9, rfl, hi9, hb9⟩; have HB9 := Lib.hid (HB8z.out.trans (hb9.mono HB8z.out.size)); have HB9k := Lib.hid (HB8k.out.trans (hb9.mono HB8k.out.size)); have HI9 := Lib.hid hi9; clear hi9 hb9; cases b9)
          · have HN9 := Lib.hid (HEXT.out (fun hp => by have := HI9.out.2 hp; cases this))
            exact ⟨⟨k + 1, by omega, by go_num, Lib.hid HN9.out, HB9k.out⟩, by simp only [intOf]; omega⟩
          · go_ret
            exact ⟨true, rfl, ⟨fun _ => HYES.out (HI9.out.1 (by first | rfl | trivial)), fun _ => rfl⟩, HB9.out⟩
      · obtain rfl : k = 2 := by omega
        go_wp2_with fail
        go_ret
        refine ⟨false, rfl, ⟨fun h => (by cases h), fun h => ?_⟩, HBz.out⟩
        obtain ⟨so, hp⟩ := HEP.out.1 h
        cases so with
        | true => exact absurd hp (HNO.out.1 (by omega))
        | false => exact absurd hp (HNO.out.2 (by omega))
end Go.Proofs.YtnacoplokjdglaaGreat

namespace Go.Proofs.YtnacoplokjdglaaGreat
open Go.RowKit Go.Maps

theorem ltE_tri {a b : GEdge} (h : a ≠ b) : ltE a b ∨ ltE b a := by
  obtain ⟨f, t, k⟩ := a
  obtain ⟨f', t', k'⟩ := b
  unfold ltE
  simp only
  have : ¬ (f = f' ∧ t = t' ∧ k = k') := fun ⟨h1, h2, h3⟩ => h (by rw [h1, h2, h3])
  omega
open Classical in
theorem row_ex : ∀ xs : List GEdge, ∃ l : List GEdge, l.Pairwise ltE ∧ ∀ e, e ∈ l ↔ e ∈ xs
  | [] => ⟨[], List.Pairwise.nil, fun _ => Iff.rfl⟩
  | x :: xs => by
    obtain ⟨l, h1, h2⟩ := row_ex xs
    by_cases hx : x ∈ l
    · exact ⟨l, h1, fun e => by
        rw [List.mem_cons, h2]
        exact ⟨.inr, fun h => h.elim (fun e1 => by rw [e1]; exact (h2 x).1 hx) id⟩⟩
    · refine ⟨l.filter (fun y => decide (ltE y x)) ++ x :: l.filter (fun y => decide (ltE x y)), ?_, fun e => ?_⟩
      · rw [List.pairwise_append, List.pairwise_cons]
        refine ⟨h1.filter _, ⟨fun y hy => ?_, h1.filter _⟩, fun a ha b hb => ?_⟩
        · rw [List.mem_filter, decide_eq_true_eq] at hy; exact hy.2
        · rw [List.mem_filter, decide_eq_true_eq] at ha
          rcases List.mem_cons.1 hb with rfl | hb
          · exact ha.2
          · rw [List.mem_filter, decide_eq_true_eq] at hb
            exact ltE_trans ha.2 hb.2
      · rw [List.mem_append, List.mem_cons, List.mem_filter, List.mem_filter, List.mem_cons, ← h2, decide_eq_true_eq, decide_eq_true_eq]
        constructor
        · rintro (h | h | h)
          · exact .inr h.1
          · exact .inl h
          · exact .inr h.1
        · rintro (h | h)
          · exact .inr (.inl h)
          · by_cases he : e = x
            · exact .inr (.inl he)
            · rcases ltE_tri he with h3 | h3
              · exact .inl ⟨h, h3⟩
              · exact .inr (.inr ⟨h, h3⟩)
theorem edges_ex (ts : List GTxn) (L : FaL) : ∃ l, EdgesOf ts L l := row_ex (edgeL ts L)
end Go.Proofs.YtnacoplokjdglaaGreat

namespace Go.Proofs.YtnacoplokjdglaaGreat
open Go.RowKit Go.Maps

theorem brk_refK {ts : List GTxn} {L : FaL} {level : Int} {l : List GEdge} (he : EdgesOf ts L l) : Brk ts L level ↔ Rounds (StepK l (level == 1)) := by
  rw [rounds_iff]
  constructor
  · rintro ⟨l', he', hr⟩
    have : l' = l := edges_ext he'.1 he.1 (fun p => (he'.2 p).trans (he.2 p).symm)
    subst this
    exact hr
  · exact fun hr => ⟨l, he, hr⟩
theorem flatMap_sameK {α β : Type} {l : List α} {f g : α → List β} (h : ∀ x ∈ l, f x = g x) : l.flatMap f = l.flatMap g := by
  induction l with
  | nil => rfl
  | cons x l ih => rw [List.flatMap_cons, List.flatMap_cons, h x List.mem_cons_self, ih (fun y hy => h y (List.mem_cons_of_mem _ hy))]
/-- How many choices are ends. -/
def openN (ts : List GTxn) : Nat := (cmS (sureM ts) ts ts.length).length
theorem openN_le (ts : List GTxn) : openN ts ≤ ts.length := by
  have := List.length_filterMap_le (fun i => ts[i]?.bind (fun t => if openB (sureM ts) i t then some (⟨1, 0, i, 0⟩ : GChoice) else none)) (List.range ts.length)
  simpa [openN, cmS] using this
theorem opens_openN (ts : List GTxn) : Opens ts (openN ts) := by
  refine ⟨by unfold choicesM openN; rw [List.length_append]; omega, fun i c hi hc => ?_, fun c hc => ?_⟩
  · unfold choicesM at hc
    rw [List.getElem?_append_left hi] at hc
    obtain ⟨j, _, _, rfl⟩ := cmS_mem (List.mem_of_getElem? hc)
    rfl
  · unfold choicesM openN at hc
    rw [List.getElem?_append_right (Nat.le_refl _)] at hc
    obtain ⟨k, a, b, _, _, _, rfl⟩ := befK_mem (List.mem_of_getElem? hc)
    intro h; cases h
section
variable {ts : List GTxn} {level : Int}
theorem getM_kind2 {F S : FaL} (hS : ∀ p ∈ S, p.1.kind ≠ 1) {c : GChoice} (hc : c.kind = 1) : getM (F ++ S) c = getM F c := by
  rw [getM_append, getM_none.2 (fun p hp e => hS p hp (by rw [e]; exact hc)), Option.or_none]
theorem wrl_more {F S : FaL} (hS : ∀ p ∈ S, p.1.kind ≠ 1) (key : Int) : wrl ts (F ++ S) key = wrl ts F key := by
  unfold wrl wrlK
  have : inW ts (F ++ S) key = inW ts F key := by
    funext i
    unfold inW isM
    rw [getM_kind2 hS rfl]
  rw [this]
theorem sdB_kind {key : Int} {o : List Int} : ∀ p ∈ sdB key o o.length, p.1.kind ≠ 1 := fun p hp => by
  obtain ⟨j, k, x, y, _, _, _, rfl⟩ := sdB_mem.1 hp
  unfold pairS; simp
def sdD (O : OrdL) (key n : Nat) : FaL := (List.range n).flatMap (fun (i : Nat) => sdB ((key + i : Nat) : Int) (ordL O ((key + i : Nat) : Int)) (ordL O ((key + i : Nat) : Int)).length)
theorem sdD_succ (O : OrdL) (key n : Nat) : sdD O key (n + 1) = sdB (key : Int) (ordL O key) (ordL O key).length ++ sdD O (key + 1) n := by
  unfold sdD
  rw [List.range_succ_eq_map, List.flatMap_cons, List.flatMap_map]
  congr 1
  refine flatMap_sameK (fun i _ => ?_)
  simp only [Nat.succ_eq_add_one]
  rw [show key + (i + 1) = key + 1 + i by omega]
theorem keysP_iff : ∀ {n key : Nat} {F : FaL}, key + n = 16 → (keysP ts level n key F ↔ ∃ O : OrdL, (∀ k : Nat, key ≤ k → k < 16 → (ordL O k).Perm (wrl ts F k)) ∧ ¬ Rounds (StepK (refE ts (F ++ sdD O key n)) (level == 1)))
  | 0, key, F, hk => by
    rw [keysP]
    constructor
    · intro h
      exact ⟨[], fun k h1 h2 => by omega, by simpa [sdD] using h⟩
    · rintro ⟨O, _, h⟩
      simpa [sdD] using h
  | n + 1, key, F, hk => by
    rw [keysP]
    constructor
    · rintro ⟨o, ho, h⟩
      have hp := (ords_perm rfl).1 ho
      obtain ⟨O, h1, h2⟩ := (keysP_iff (by omega)).1 h
      have hat : ordL (((key : Int), ((.slice none 0 0 : Value), o)) :: O) key = o := by unfold ordL; rw [getM_cons, if_pos rfl]; rfl
      have hne : ∀ k : Nat, key + 1 ≤ k → ordL (((key : Int), ((.slice none 0 0 : Value), o)) :: O) k = ordL O k := fun k hk => by
        unfold ordL; rw [getM_cons, if_neg (by simp only; omega)]
      refine ⟨((key : Int), (.slice none 0 0, o)) :: O, fun k hk1 hk2 => ?_, ?_⟩
      · rcases Nat.eq_or_lt_of_le hk1 with h3 | h3
        · subst h3; rw [hat]; exact hp
        · rw [hne k h3]
          have := h1 k h3 hk2
          rwa [wrl_more sdB_kind] at this
      · rw [sdD_succ, hat, ← List.append_assoc]
        have : sdD (((key : Int), ((.slice none 0 0 : Value), o)) :: O) (key + 1) n = sdD O (key + 1) n := by
          unfold sdD
          refine flatMap_sameK (fun i _ => ?_)
          rw [hne _ (by omega)]
        rw [this]; exact h2
    · rintro ⟨O, h1, h2⟩
      refine ⟨ordL O key, (ords_perm rfl).2 (h1 key (Nat.le_refl _) (by omega)), (keysP_iff (by omega)).2 ⟨O, fun k hk1 hk2 => ?_, ?_⟩⟩
      · rw [wrl_more sdB_kind]; exact h1 k (by omega) hk2
      · rw [List.append_assoc, ← sdD_succ]; exact h2
theorem endsP_iff : ∀ {n at_ : Nat} {F : FaL}, endsP ts level n at_ F ↔ ∃ S : FaL, S.map (·.1) = ((choicesM ts).drop at_).take n ∧ S.length = n ∧ keysP ts level 16 0 (F ++ S)
  | 0, at_, F => by
    rw [endsP]
    constructor
    · intro h; exact ⟨[], by simp, rfl, by simpa using h⟩
    · rintro ⟨S, _, h2, h3⟩
      rw [List.length_eq_zero_iff.1 h2, List.append_nil] at h3; exact h3
  | n + 1, at_, F => by
    rw [endsP]
    constructor
    · rintro ⟨so, c, hc, h⟩
      obtain ⟨S, h1, h2, h3⟩ := endsP_iff.1 h
      obtain ⟨hl, rfl⟩ := List.getElem?_eq_some_iff.1 hc
      refine ⟨((choicesM ts)[at_], so) :: S, ?_, by simp [h2], by rw [List.append_assoc] at h3; exact h3⟩
      rw [List.drop_eq_getElem_cons hl, List.take_succ_cons, List.map_cons, h1]
    · rintro ⟨S, h1, h2, h3⟩
      match S, h2 with
      | p :: S, h2 =>
        have hl : at_ < (choicesM ts).length := by
          apply Classical.byContradiction
          intro h
          rw [List.drop_eq_nil_of_le (by omega)] at h1
          simp at h1
        rw [List.drop_eq_getElem_cons hl, List.take_succ_cons, List.map_cons] at h1
        injection h1 with h4 h5
        refine ⟨p.2, p.1, by rw [h4]; exact List.getElem?_eq_getElem hl, endsP_iff.2 ⟨S, h5, by simpa using h2, ?_⟩⟩
        rw [List.append_assoc]; exact h3
theorem ends_kind1 {c : GChoice} : c ∈ (choicesM ts).take (openN ts) ↔ c ∈ choicesM ts ∧ c.kind = 1 := by
  unfold choicesM openN
  rw [List.take_append_of_le_length (Nat.le_refl _), List.take_length, List.mem_append]
  constructor
  · intro h
    obtain ⟨i, _, _, rfl⟩ := cmS_mem h
    exact ⟨.inl h, rfl⟩
  · rintro ⟨h | h, hk⟩
    · exact h
    · obtain ⟨k, a, b, _, _, _, rfl⟩ := befK_mem h
      cases hk
theorem filter_kind1 : (choicesM ts).filter (fun c => decide (c.kind = 1)) = (choicesM ts).take (openN ts) := by
  unfold choicesM openN
  rw [List.take_append_of_le_length (Nat.le_refl _), List.take_length, List.filter_append]
  have h1 : (cmS (sureM ts) ts ts.length).filter (fun c => decide (c.kind = 1)) = cmS (sureM ts) ts ts.length := by
    rw [List.filter_eq_self]
    intro c hc
    obtain ⟨i, _, _, rfl⟩ := cmS_mem hc
    rfl
  have h2 : (befK ts 16).filter (fun c => decide (c.kind = 1)) = [] := by
    rw [List.filter_eq_nil_iff]
    intro c hc
    obtain ⟨k, a, b, _, _, _, rfl⟩ := befK_mem hc
    simp
  rw [h1, h2, List.append_nil]
theorem sd0_map (C : List GChoice) (dn : List Bool) : sd0 C dn = (C.filter (fun c => decide (c.kind = 1))).map (fun c => (c, dn[c.a.toNat]?.getD false)) := by
  unfold sd0
  induction C with
  | nil => rfl
  | cons c C ih => by_cases h : c.kind = 1 <;> simp [h, ih]
/-- What is said of the open ones is of who is done by it. -/
theorem said_is {S : FaL} (hS : S.map (·.1) = (choicesM ts).take (openN ts)) : sd0 (choicesM ts) (dnL ts S) = S := by
  have hn : S.Pairwise (fun p q => p.1 ≠ q.1) := by
    have h1 : (S.map (·.1)).Nodup := by rw [hS]; exact (choicesM_nodup ts).sublist (List.take_sublist _ _)
    rw [List.nodup_iff_pairwise_ne, List.pairwise_map] at h1
    exact h1
  rw [sd0_map, filter_kind1, ← hS, List.map_map]
  have : ∀ p ∈ S, ((fun c : GChoice => (c, (dnL ts S)[c.a.toNat]?.getD false)) ∘ fun x : GChoice × Bool => x.1) p = p := fun p hp => by
    have hm : p.1 ∈ choicesM ts ∧ p.1.kind = 1 := ends_kind1.1 (by rw [← hS]; exact List.mem_map.2 ⟨p, hp, rfl⟩)
    have hg := get_mem hp hn
    obtain ⟨⟨c, so⟩, rfl⟩ : ∃ q, q = p := ⟨p, rfl⟩
    simp only at hm hg
    have hc0 := hm.1
    unfold choicesM at hc0
    rw [List.mem_append] at hc0
    rcases hc0 with h1 | h1
    · unfold cmS at h1
      rw [List.mem_filterMap] at h1
      obtain ⟨i, hi, h1⟩ := h1
      rw [List.mem_range] at hi
      cases ht : ts[i]? with
      | none => rw [ht] at h1; cases h1
      | some t =>
        rw [ht] at h1
        simp only [Option.bind_some] at h1
        split at h1
        · rename_i ho
          cases h1
          unfold openB at ho
          simp only [Bool.and_eq_true, Bool.not_eq_true', decide_eq_true_eq, beq_iff_eq] at ho
          show ((⟨1, 0, (i : Int), 0⟩ : GChoice), (dnL ts S)[((i : Int)).toNat]?.getD false) = _
          rw [Int.toNat_natCast, dnL_at hi]
          unfold dnM isM
          rw [if_neg (by rw [ho.1.2]; simp), if_neg ?_, hg]
          · rfl
          · unfold deadB stOf
            rw [ht]
            simp only [Option.map_some, Option.getD_some, Bool.or_eq_true, beq_iff_eq, not_or]
            omega
        · cases h1
    · obtain ⟨k, a, b, _, _, _, rfl⟩ := befK_mem h1
      cases hm.2
  exact (List.map_congr_left this).trans (List.map_id' S)
theorem sdD_zero (O : OrdL) : sdD O 0 16 = sdC O 16 := by
  unfold sdD sdC
  refine flatMap_sameK (fun i _ => ?_)
  rw [Nat.zero_add]
/-- Some way through all ends and orders says no cycle, just where the search finds an answer. -/
theorem keeps_iff (hg : GoodTs ts) (hf : flawsM ts = []) : endsP ts level (openN ts) 0 [] ↔ (tree0 ts level).res = true := by
  have hE := fun L (_ : FaOk ts L) => edges_ex ts L
  rw [endsP_iff]
  constructor
  · rintro ⟨S, h1, h2, h3⟩
    rw [List.drop_zero] at h1
    rw [List.nil_append] at h3
    obtain ⟨O, h4, h5⟩ := (keysP_iff (by omega)).1 h3
    rw [sdD_zero] at h5
    have hsd := said_is h1
    have hfit : Fits ts (dnL ts S) (sd0 (choicesM ts) (dnL ts S)) := fun i hi => by rw [hsd, dnL_at hi]; rfl
    obtain ⟨k1, k2⟩ := saidL_fix (O := O) hfit (fun key hk => by rw [hsd]; exact h4 key (Nat.zero_le _) hk)
    have hfa := k1.faOk hg.uniq k2
    have hsl : saidL ts (dnL ts S) O = S ++ sdC O 16 := by unfold saidL; rw [hsd]
    refine pass_res hg.uniq hE (dn := dnL ts S) (O := O) ⟨_, k1, k2, hf, fun hb => ?_⟩
    have := (brk_refK (refE_edges hg hfa)).1 hb
    rw [hsl] at this
    exact h5 this
  · intro h
    have hx := WT.found_res (tree0 ts level)
    rw [h] at hx
    obtain ⟨F, hF⟩ := Option.isSome_iff_exists.1 hx
    have hl := leaf_found hF
    have hrow : ∀ key : Nat, ∃ E : List Int, key < 16 → (wrl ts F key).Perm E ∧ E.Pairwise (fun x y => aheadOf F key x y = true) := fun key => by
      by_cases hk : key < 16
      · obtain ⟨E, hE1⟩ := hl.rows hg (edges_ex ts F) hk
        exact ⟨E, fun _ => hE1⟩
      · exact ⟨[], fun h => absurd h hk⟩
    obtain ⟨E, hEk⟩ := Classical.axiomOfChoice hrow
    obtain ⟨O, hO⟩ : ∃ O : OrdL, ∀ key : Nat, key < 16 → ordL O key = E key := by
      have : ∀ n : Nat, ∃ O : OrdL, ∀ key : Nat, key < n → ordL O key = E key := by
        intro n
        induction n with
        | zero => exact ⟨[], fun k h => absurd h (Nat.not_lt_zero _)⟩
        | succ n ih =>
          obtain ⟨O, hO⟩ := ih
          refine ⟨((n : Int), (.slice none 0 0, E n)) :: O, fun key hk => ?_⟩
          unfold ordL
          rw [getM_cons]
          by_cases he : key = n
          · subst he; rw [if_pos rfl]; rfl
          · rw [if_neg (by simp only; omega)]; exact hO key (by omega)
      exact this 16
    have hfx := hl.fixO (O := O) (fun key hk => by rw [hO key hk]; exact hEk key hk)
    obtain ⟨hfit, hper⟩ := hfx.said
    obtain ⟨k1, k2⟩ := saidL_fix hfit hper
    refine ⟨sd0 (choicesM ts) (dnL ts F), ?_, ?_, (keysP_iff (by omega)).2 ⟨O, fun k _ hk => hper k hk, ?_⟩⟩
    · rw [List.drop_zero, sd0_map, filter_kind1, List.map_map]
      exact List.map_id' _
    · rw [sd0_map, filter_kind1, List.length_map, List.length_take]
      have := (opens_openN ts).le
      omega
    · rw [List.nil_append, sdD_zero]
      intro hr
      have hb : Brk ts (saidL ts (dnL ts F) O) level := (brk_refK (refE_edges hg (k1.faOk hg.uniq k2))).2 hr
      exact hl.nb ((brk_same hl.ok.pw k2 (fun c => hfx.same k1 c)).2 hb)
end
attribute [local go_sem] Oper.semAt_some
def KeepQ (ts : List GTxn) (level : Int) (w : World) (e : Ending) (w' : World) : Prop := ∃ b : Bool, e = .returned (.bool b) ∧ (b = true ↔ flawsM ts = [] ∧ (tree0 ts level).res = true) ∧ Below w.heap.size w w'
theorem rdSaid_nil (w : World) : RdSaid w (.slice none 0 0) [] := ⟨none, 0, 0, rfl, rfl, by simp, Nat.le_refl _, fun _ => ⟨rfl, rfl⟩, fun j x hj => by simp at hj⟩

set_option maxRecDepth 100000 in
set_option maxHeartbeats 4000000 in
theorem keeps_call (ts : List GTxn) (level : Int) (v : Value) (w : World) (hg : GoodTs ts) (h10 : ts.length ≤ 10) (hv : RdTxns w v ts) :
    Calls Tryz.prog 20 #[v, vi level] w (KeepQ ts level w) := by
  have HV := Lib.hid hv
  have HG := Lib.hid hg
  obtain ⟨a, n, c, rfl, rfl, hm, -⟩ := hv.at
  have HFC := Lib.hid (flaws_call (.slice a ts.length c) ts w hv hg.ok (by omega))
  have HEN := Lib.hid (fun (W : World) (hb : Below w.heap.size w W) => ends_call ts level hg h10 (openN ts) (opens_openN ts) (by have := openN_le ts; omega) (openN ts) 0 [] (.slice a ts.length c) (.slice none 0 0) W (by omega) (by simp) (hv.later hb) (rdSaid_nil W))
  clear hv
  go_enter Tryz.func20, Tryz.ntmps20
  by_cases hF : flawsM ts = []
  · have HK := Lib.hid (keeps_iff (level := level) hg hF)
    have HFF := Lib.hid hF
    rw [hF] at HFC
    clear hF
    go_wp2_with (first
      | (go_at_call 44; refine (HEN.out w3 HB3.out).mono ?_; rintro e4 w4 ⟨b4, rfl, hi4, hb4⟩; have HI4 := Lib.hid hi4; have HB4 := Lib.hid (HB3.out.trans (hb4.mono HB3.out.size)); clear hi4 hb4)
      | (go_at_call 21; refine HFC.out.mono ?_; rintro e3 w3 ⟨v3, rfl, ho3, hb3⟩; have HB3 := Lib.hid hb3; obtain ⟨a3, c3, rfl⟩ := Gr.own_shape (show World.ownsRow _ _ _ _ v3 0 _ from ho3); clear ho3 hb3))
    go_ret
    exact ⟨b4, rfl, by rw [HI4.out, HK.out]; exact ⟨fun h => ⟨HFF.out, h⟩, fun h => h.2⟩, HB4.out⟩
  · have HNF := Lib.hid hF
    have hl1 : (flawsM ts).length ≠ 0 := fun h => hF (List.length_eq_zero_iff.1 h)
    have c0 : (((flawsM ts).length : Int) == 0) = false := beq_eq_false_iff_ne.2 (by omega)
    have c0n : ((flawsM ts).length == 0) = false := beq_eq_false_iff_ne.2 hl1
    clear hF hl1
    go_wp2_with (go_at_call 21; refine HFC.out.mono ?_; rintro e3 w3 ⟨v3, rfl, ho3, hb3⟩; have HB3 := Lib.hid hb3; obtain ⟨a3, c3, rfl⟩ := Gr.own_shape (show World.ownsRow _ _ _ _ v3 (flawsM ts).length _ from ho3); clear ho3 hb3)
    go_ret
    exact ⟨false, rfl, ⟨fun h => (by cases h), fun h => absurd h.1 HNF.out⟩, HB3.out⟩
end Go.Proofs.YtnacoplokjdglaaGreat

namespace Go.Proofs.YtnacoplokjdglaaGreat
open Go.RowKit Go.Maps
attribute [local go_sem] Oper.semAt_some

def SmallQ (ts : List GTxn) (w : World) (e : Ending) (w' : World) : Prop := ∃ b : Bool, e = .returned (.bool b) ∧ (b = true → ts.length ≤ 10) ∧ Below w.heap.size w w'
set_option maxRecDepth 100000 in
set_option maxHeartbeats 8000000 in
theorem small_call (ts : List GTxn) (v : Value) (w : World) (hg : GoodTs ts) (hv : RdTxns w v ts) : Calls Tryz.prog 15 #[v] w (SmallQ ts w) := by
  have HV := Lib.hid hv
  have HG := Lib.hid hg
  have htl : ts.length ≤ 60 := hg.len
  obtain ⟨a, n, c, rfl, rfl, hm, -⟩ := hv.at
  have HRC := Lib.hid (refChoices_call (.slice a ts.length c) ts w hv hg.ok (by omega))
  obtain ⟨C, hC⟩ : ∃ C, refChoicesM ts = C := ⟨_, rfl⟩
  rw [hC] at HRC
  have hcl : C.length ≤ 4294967296 := by rw [← hC, ← choices_eq hg.uniq]; exact choicesM_le ts (by omega)
  clear hv hC
  go_enter Tryz.func15, Tryz.ntmps15
  go_wp2_with (go_at_call 16; refine HRC.out.mono ?_; rintro e2 w2 ⟨v2, rfl, ho2, hb2⟩; have HO2 := Lib.hid ho2; have HB2 := Lib.hid hb2; obtain ⟨a2, c2, rfl⟩ := own_shapeC ho2; clear ho2 hb2)
  go_loopw [3, 15] (fun z i wr => ∃ (k : Nat) (zi : Int), k ≤ C.length ∧ i = .int .i64 k ∧ z = .int .i64 zi ∧ Below w2.heap.size w2 wr) (fun _ i _ => C.length - (intOf i).toNat)
  case atStart => exact ⟨0, 1, Nat.zero_le _, rfl, rfl, Below.refl _ _⟩
  case round =>
    obtain ⟨wk, rfl⟩ : ∃ wk : World, wk = wr := ⟨_, rfl⟩
    obtain ⟨k, zi, hk, rfl, rfl, hb⟩ := hrel
    have HBk := Lib.hid hb
    clear hb
    by_cases hlt : k < C.length
    · have hkI : (k : Int) < (C.length : Int) := by omega
      have wk1 : IntKind.i64.wrap ((k : Int) + 1) = ((k + 1 : Nat) : Int) := by rw [IntWalk.i64_in _ (by omega)]; omega
      obtain ⟨x, hx⟩ := some_at hlt
      obtain ⟨_, _, _, e5, -, -, hcl2⟩ := (RdCh.later HO2.out.rd HBk.out).at
      cases e5
      obtain ⟨b, off, rfl, k0, k1, k2, k3⟩ := hcl2 k x hx
      have HX := Lib.hid (alloc_at wk (.cells #[vi x.kind, vi x.key, vi x.a, vi x.b] 76))
      have HBo := Lib.hid (HBk.out.alloc HBk.out.size (.cells #[vi x.kind, vi x.key, vi x.a, vi x.b] 76))
      clear hcl2 hx
      go_upto_region 5 with fail
      clear k0 k1 k2 k3
      generalize wk.alloc (.cells #[vi x.kind, vi x.key, vi x.a, vi x.b] 76) = wo at *
      have q0 : wo.cell? ⟨wk.heap.size, 0, none⟩ = some (vi x.kind) := by rw [cell_of HX.out]; rfl
      by_cases h1 : x.kind = 1
      · have e1 := beq_t h1
        clear h1
        go_wp2_with fail
        exact ⟨⟨k + 1, _, by omega, by go_num, rfl, HBo.out⟩, by simp only [intOf]; omega⟩
      · have e1 := beq_f h1
        clear h1
        go_wp2_with fail
        exact ⟨⟨k + 1, zi, by omega, by go_num, rfl, HBo.out⟩, by simp only [intOf]; omega⟩
    · obtain rfl : k = C.length := by omega
      have HBz := Lib.hid (HB2.out.trans (HBk.out.mono HB2.out.size))
      go_wp2_with fail
      go_loopw [3, 6, 7, 8, 11, 31, 40] (fun z key _ _ _ _ _ wr => ∃ (ky : Nat) (zi : Int), ky ≤ 16 ∧ key = .int .i64 ky ∧ z = .int .i64 zi ∧ Below wk.heap.size wk wr) (fun _ key _ _ _ _ _ _ => 16 - (intOf key).toNat)
      case atStart => exact ⟨0, zi, by omega, rfl, rfl, Below.refl _ _⟩
      case round =>
        obtain ⟨wq, rfl⟩ : ∃ wk : World, wk = wr := ⟨_, rfl⟩
        obtain ⟨ky, zq, hky, rfl, rfl, hb⟩ := hrel
        have HBq := Lib.hid hb
        have HBqz := Lib.hid (HBz.out.trans (hb.mono HBz.out.size))
        clear hb
        by_cases h16 : ky < 16
        · have k16 : (ky : Int) < 16 := by omega
          have wky : IntKind.i64.wrap ((ky : Int) + 1) = ((ky + 1 : Nat) : Int) := by rw [IntWalk.i64_in _ (by omega)]; omega
          go_wp2_with fail
          go_loopw [7, 8, 31, 40] (fun kv _ i _ wr => ∃ (j kk : Nat), j ≤ ts.length ∧ kk ≤ 16 * j ∧ i = .int .i64 j ∧ kv = .int .i64 kk ∧ Below wq.heap.size wq wr) (fun _ _ i _ _ => ts.length - (intOf i).toNat)
          case atStart => exact ⟨0, 0, Nat.zero_le _, by omega, rfl, rfl, Below.refl _ _⟩
          case round =>
            obtain ⟨wj, rfl⟩ : ∃ wk : World, wk = wr := ⟨_, rfl⟩
            obtain ⟨j, kk, hj, hkk, rfl, rfl, hb⟩ := hrel
            have HBj := Lib.hid hb
            have HBjz := Lib.hid (HBqz.out.trans (hb.mono HBqz.out.size))
            clear hb
            by_cases hltj : j < ts.length
            · have hjI : (j : Int) < (ts.length : Int) := by omega
              have wj1 : IntKind.i64.wrap ((j : Int) + 1) = ((j + 1 : Nat) : Int) := by rw [IntWalk.i64_in _ (by omega)]; omega
              obtain ⟨t, ht⟩ := some_at hltj
              have hol := (HG.out.txn t (List.mem_of_getElem? ht)).2.2
              obtain ⟨_, _, _, e5, -, -, hct⟩ := HV.out.at
              cases e5
              obtain ⟨tb, tof, oa, oc, rfl, hro0, t0', t1', t2'⟩ := hct j t ht
              have t0 := cell_later HBjz.out t0'
              have t1 := cell_later HBjz.out t1'
              have t2 := cell_later HBjz.out t2'
              have HT1 := Lib.hid t1'
              have HRO := Lib.hid (hro0.later HBjz.out)
              have hwl : (writesM t.ops).length ≤ 16 := writesTo_le _ _
              clear hct ht hro0 t0' t1' t2'
              go_wp2_with (go_at_call 35; refine (refWrites_call t.client t.state _ t.ops _ HRO.out (by omega)).mono ?_; rintro e6 w6 ⟨v6, rfl, ho6, hb6⟩; have HW6 := Lib.hid ho6.rd; have HB6 := Lib.hid (HBj.out.trans (hb6.mono HBj.out.size)); obtain ⟨wa, wn, wc6, rfl, rfl, hwm, -⟩ := HW6.out.at; clear ho6 hb6)
              clear t0 t1 t2
              obtain ⟨W, hW⟩ : ∃ W, writesM t.ops = W := ⟨_, rfl⟩
              rw [hW] at HW6 hwl
              rw [hW]
              clear hW
              go_loopw [7, 40] (fun kv i wr => ∃ (i2 k2 : Nat), i2 ≤ W.length ∧ k2 ≤ kk + i2 ∧ i = .int .i64 i2 ∧ kv = .int .i64 k2 ∧ Below w6.heap.size w6 wr) (fun _ i _ => W.length - (intOf i).toNat)
              case atStart => exact ⟨0, kk, Nat.zero_le _, by omega, rfl, rfl, Below.refl _ _⟩
              case round =>
                obtain ⟨wp, rfl⟩ : ∃ wk : World, wk = wr := ⟨_, rfl⟩
                obtain ⟨i2, k2, hi2, hk2, rfl, rfl, hb⟩ := hrel
                have HBp := Lib.hid hb
                have HBpq := Lib.hid (HB6.out.trans (hb.mono HB6.out.size))
                clear hb
                by_cases hlti : i2 < W.length
                · have hiI : (i2 : Int) < (W.length : Int) := by omega
                  have wi1 : IntKind.i64.wrap ((i2 : Int) + 1) = ((i2 + 1 : Nat) : Int) := by rw [IntWalk.i64_in _ (by omega)]; omega
                  have wk2 : IntKind.i64.wrap ((k2 : Int) + 1) = ((k2 + 1 : Nat) : Int) := by rw [IntWalk.i64_in _ (by omega)]; omega
                  obtain ⟨o, ho⟩ := some_at hlti
                  obtain ⟨_, _, _, e6, -, -, hco⟩ := (HW6.out.later HBp.out).at
                  cases e6
                  obtain ⟨ob, oo, rfl, y0, y1, y2⟩ := hco i2 o ho
                  have HX := Lib.hid (alloc_at wp (.cells #[vi o.kind, vi o.key, vi o.val] 51))
                  have HBo := Lib.hid (HBp.out.alloc HBp.out.size (.cells #[vi o.kind, vi o.key, vi o.val] 51))
                  have HBoq := Lib.hid (HBpq.out.alloc HBpq.out.size (.cells #[vi o.kind, vi o.key, vi o.val] 51))
                  have HBow := Lib.hid (HBqz.out.trans (HBoq.out.mono HBqz.out.size))
                  clear hco ho
                  go_upto_region 18 with fail
                  clear y0 y1 y2
                  generalize wp.alloc (.cells #[vi o.kind, vi o.key, vi o.val] 51) = wo at *
                  have q1 : wo.cell? ⟨wp.heap.size, 1, none⟩ = some (vi o.key) := by rw [cell_of HX.out]; rfl
                  have t1 := cell_later HBow.out HT1.out
                  by_cases h1 : o.key = (ky : Int)
                  · have e1 := beq_t h1
                    by_cases h2 : t.state = 2
                    · have e2 := bne_f h2
                      clear h1 h2
                      go_wp2_with fail
                      exact ⟨⟨i2 + 1, k2, by omega, by omega, by go_num, rfl, HBo.out⟩, by simp only [intOf]; omega⟩
                    · have e2 := bne_t h2
                      clear h1 h2
                      go_wp2_with fail
                      exact ⟨⟨i2 + 1, k2 + 1, by omega, by omega, by go_num, by go_num, HBo.out⟩, by simp only [intOf]; omega⟩
                  · have e1 := beq_f h1
                    clear h1
                    go_wp2_with fail
                    exact ⟨⟨i2 + 1, k2, by omega, by omega, by go_num, rfl, HBo.out⟩, by simp only [intOf]; omega⟩
                · obtain rfl : i2 = W.length := by omega
                  go_wp2_with fail
                  exact ⟨⟨j + 1, k2, by omega, by omega, by go_num, rfl, HBpq.out⟩, by simp only [intOf]; omega⟩
            · obtain rfl : j = ts.length := by omega
              have HBqj := Lib.hid (HBq.out.trans (HBj.out.mono HBq.out.size))
              go_wp2_with fail
              go_loopw [3, 11] (fun z jv wr => ∃ (jj : Nat) (zi : Int), 2 ≤ jj ∧ jj ≤ kk + 2 ∧ jv = .int .i64 jj ∧ z = .int .i64 zi ∧ wr = wj) (fun _ jv _ => kk + 2 - (intOf jv).toNat)
              case atStart => exact ⟨2, zq, by omega, by omega, rfl, rfl, rfl⟩
              case round =>
                obtain ⟨jj, zi2, hj2, hjk, rfl, rfl, hwr⟩ := hrel
                replace hwr := hwr.symm
                subst hwr
                by_cases hle : jj ≤ kk
                · have hleI : (jj : Int) ≤ (kk : Int) := by omega
                  have hleD : decide ((jj : Int) ≤ (kk : Int)) = true := decide_eq_true hleI
                  have wjj : IntKind.i64.wrap ((jj : Int) + 1) = ((jj + 1 : Nat) : Int) := by rw [IntWalk.i64_in _ (by omega)]; omega
                  go_upto_region 26 with fail
                  generalize wrap64 (zi2 * (jj : Int)) = zn at *
                  by_cases h400 : (400 : Int) < zn
                  · have d4 := decide_eq_true h400
                    clear h400
                    go_wp2_with fail
                    go_ret
                    exact ⟨false, rfl, fun h => (by cases h), HBjz.out⟩
                  · have d4 := decide_eq_false h400
                    clear h400
                    go_wp2_with fail
                    exact ⟨⟨jj + 1, zn, by omega, by omega, by go_num, rfl, by first | rfl | trivial⟩, by simp only [intOf]; omega⟩
                · have hleI : ¬ (jj : Int) ≤ (kk : Int) := by omega
                  have hleD : decide ((jj : Int) ≤ (kk : Int)) = false := decide_eq_false hleI
                  go_wp2_with fail
                  exact ⟨⟨ky + 1, zi2, by omega, by go_num, rfl, HBqj.out⟩, by simp only [intOf]; omega⟩
        · obtain rfl : ky = 16 := by omega
          obtain ⟨b1, hb1⟩ : ∃ b1 : Bool, decide (zq ≤ 400) = b1 := ⟨_, rfl⟩
          cases b1 with
          | false =>
            go_wp2_with fail
            go_ret
            exact ⟨false, rfl, fun h => (by cases h), HBqz.out⟩
          | true =>
            by_cases h10 : (ts.length : Int) ≤ 10
            · have d10 := decide_eq_true h10
              go_wp2_with fail
              go_ret
              exact ⟨true, rfl, fun _ => by omega, HBqz.out⟩
            · have d10 := decide_eq_false h10
              go_wp2_with fail
              go_ret
              exact ⟨false, rfl, fun h => (by cases h), HBqz.out⟩
end Go.Proofs.YtnacoplokjdglaaGreat
