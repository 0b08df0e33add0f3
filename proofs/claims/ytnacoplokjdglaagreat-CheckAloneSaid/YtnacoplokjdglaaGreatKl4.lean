/- Texts of one proof, one behind the other: L11a. -/
import Derived.Test.YtnacoplokjdglaaGreatKe1
import Derived.Test.YtnacoplokjdglaaGreatKe2
import Derived.Test.YtnacoplokjdglaaGreatKe3
import Derived.Test.YtnacoplokjdglaaGreatKe4
import Derived.Test.YtnacoplokjdglaaGreatKe5
import Derived.Test.YtnacoplokjdglaaGreatKe6
import Derived.Test.YtnacoplokjdglaaGreatKe7
import Derived.Test.YtnacoplokjdglaaGreatKe8
import Derived.Test.YtnacoplokjdglaaGreatKe9
import Derived.Test.YtnacoplokjdglaaGreatKe10
import Derived.Test.YtnacoplokjdglaaGreatKe11
import Derived.Test.YtnacoplokjdglaaGreatKe12
import Derived.Test.YtnacoplokjdglaaGreatKe13
import Derived.Test.YtnacoplokjdglaaGreatKe14
import Derived.Test.YtnacoplokjdglaaGreatKe15
import Derived.Test.YtnacoplokjdglaaGreatKe16
import Derived.Test.YtnacoplokjdglaaGreatKe17
import Derived.Test.YtnacoplokjdglaaGreatKe18
import Derived.Test.YtnacoplokjdglaaGreatKe19
import Derived.Test.YtnacoplokjdglaaGreatKe20
import Derived.Test.YtnacoplokjdglaaGreatKe21
import Derived.Test.YtnacoplokjdglaaGreatKe22
import Derived.Test.YtnacoplokjdglaaGreatKe23
import Derived.Test.YtnacoplokjdglaaGreatKl1
import Derived.Test.YtnacoplokjdglaaGreatKl2
import Derived.Test.YtnacoplokjdglaaGreatKl3
set_option linter.all false
namespace Go.Proofs.YtnacoplokjdglaaGreat
open Go.RowKit Go.Maps
theorem and3 (x : Int) : ∃ y, bits .and .i64 x 3 = y ∧ (y = 0 ∨ y = 1 ∨ y = 2 ∨ y = 3) := by
  have : ∃ m : Nat, m ≤ 3 ∧ bits .and .i64 x 3 = IntKind.i64.wrap (m : Int) := ⟨(BitVec.ofInt 64 x &&& BitVec.ofInt 64 3).toNat, by rw [BitVec.toNat_and]; exact Nat.le_trans Nat.and_le_right (by decide), rfl⟩
  obtain ⟨m, h1, h2⟩ := this
  refine ⟨m, ?_, by omega⟩
  rw [h2, IntKind.wrap_i64]; omega
theorem km_same {ts us : List GTxn} {level B C : Int} (hf : flawsM us = flawsM ts) (hr : (tree0 us level).res = (tree0 ts level).res) (h1 : kM ts level B ≠ 3) (h2 : kM us level C ≠ 3) : kM ts level B = kM us level C := by
  have key : ∀ {ts : List GTxn} {B : Int}, flawsM ts = [] → kM ts level B ≠ 3 → kM ts level B = if (tree0 ts level).res then 1 else 2 := by
    intro ts B hf h
    unfold kM at h ⊢
    rw [if_neg (by simp [hf])] at h ⊢
    cases hb : endB (tree0 ts level) 0 B with
    | true => rw [(end_yes hb).1]; rfl
    | false =>
      rw [hb] at h
      cases ho : endO (tree0 ts level) 0 B with
      | true => rw [ho] at h; exact absurd rfl h
      | false => rw [(end_res hb ho).1]; rfl
  by_cases h0 : flawsM ts = []
  · rw [key h0 h1, key (by rw [hf]; exact h0) h2, hr]
  · unfold kM
    rw [if_pos h0, if_pos (by rw [hf]; exact h0)]
theorem ownNil (N : Nat) (w : World) : OwOps N w (.slice none 0 0) [] := ⟨rfl, .inl ⟨rfl, rfl⟩⟩
namespace checkAlone
attribute [local go_sem] Oper.semAt_some

set_option maxRecDepth 100000 in
set_option maxHeartbeats 8000000 in
theorem walk (v : Value) (level end_ : Int) (es : List GEvent) (w : World) (hv : RdEvents w v es) :
    Calls Tryz.prog 5 #[v, vi level, vi end_] w fun e w' => e = .returned (.bool true) ∧ Below w.heap.size w w' := by
  have HV := Lib.hid hv
  obtain ⟨a, n, c, rfl, rfl, hm, -⟩ := hv.at
  obtain ⟨y, hy, hy01⟩ := and1 level
  obtain ⟨z, hz, hz03⟩ := and3 end_
  have HZ := Lib.hid hz03
  clear hv hz03
  go_enter Tryz.func5, Tryz.ntmps5
  go_upto_region 3 with (go_at_call 13; refine (head11_call w).mono ?_; rintro e1 w1 ⟨rfl, hb1⟩; have HB1 := Lib.hid hb1; clear hb1)
  by_cases h1 : (30 : Int) < es.length
  case pos =>
    have d1 : decide ((30 : Int) < es.length) = true := decide_eq_true h1
    clear h1
    go_wp2_with fail
    go_ret
    exact ⟨rfl, HB1.out⟩
  case neg =>
  have d1 : decide ((30 : Int) < es.length) = false := decide_eq_false h1
  have hes : es.length ≤ 30 := by omega
  clear h1
  have hl1 : IntKind.i64.wrap (1 + y) = 1 + y := IntWalk.i64_in _ (by omega)
  have HLV := Lib.hid (show 1 + y = 1 ∨ 1 + y = 2 from by omega)
  have HR1 := Lib.hid (HV.out.later HB1.out)
  go_upto_region 7 with (go_at_call 14; refine (of_callA _ es w1 HR1.out).mono ?_; rintro e2 w2 ⟨v2, p2, err, rfl, hok2, hbad2, ⟨a2, n2, c2, rfl⟩, hb2⟩; have HOK2 := Lib.hid hok2; have HB2 := Lib.hid (HB1.out.trans (hb2.mono HB1.out.size)); clear hok2 hbad2 hb2)
  by_cases h0 : err = 0
  case neg =>
    have c0 := bne_t h0
    clear h0
    go_wp2_with fail
    go_ret
    exact ⟨rfl, HB2.out⟩
  obtain ⟨ts, hts, hrd⟩ := HOK2.out h0
  have HTS := Lib.hid hts
  have HRD := Lib.hid hrd
  obtain ⟨_, _, _, e5, e6, -, -⟩ := hrd.at
  cases e5
  subst e6
  subst h0
  clear hts hrd
  have HG := Lib.hid (hist_good (by omega) HTS.out).1
  have hlen := HG.out.len
  go_wp2_with fail
  go_loopw [36] (fun i wr => ∃ k : Nat, k ≤ ts.length ∧ i = .int .i64 k ∧ Hid (FreeOf (ts.take k)) ∧ Below w2.heap.size w2 wr) (fun i _ => ts.length - (intOf i).toNat)
  case atStart => exact ⟨0, Nat.zero_le _, rfl, Lib.hid (fun t ht => by simp at ht), Below.refl _ _⟩
  case round =>
    obtain ⟨wk, rfl⟩ : ∃ wk : World, wk = wr := ⟨_, rfl⟩
    obtain ⟨k, hk, rfl, HFR, hb⟩ := hrel
    have HBk := Lib.hid hb
    clear hb
    by_cases hlt : k < ts.length
    · have hltI : (k : Int) < (ts.length : Int) := by omega
      have wk1 : IntKind.i64.wrap ((k : Int) + 1) = ((k + 1 : Nat) : Int) := by rw [IntWalk.i64_in _ (by omega)]; omega
      obtain ⟨t, ht⟩ := some_at hlt
      have htm := HG.out.txn t (List.mem_of_getElem? ht)
      have hol := htm.2.2
      obtain ⟨_, _, _, e5, -, -, hcl⟩ := (HRD.out.later HBk.out).at
      cases e5
      obtain ⟨b, off, oa, oc, rfl, hro, k0, k1, k2⟩ := hcl k t ht
      have HTK := Lib.hid (take_at ht)
      have HX := Lib.hid (alloc_at wk (.cells #[vi t.client, vi t.state, .slice oa t.ops.length oc] 49))
      have HA := Lib.hid ((Below.refl wk.heap.size wk).alloc (Nat.le_refl _) (.cells #[vi t.client, vi t.state, .slice oa t.ops.length oc] 49))
      have HRO := Lib.hid (hro.later HA.out)
      have hwa : (wk.alloc (.cells #[vi t.client, vi t.state, .slice oa t.ops.length oc] 49)).heap.size = wk.heap.size + 1 := by simp
      clear hcl hro ht htm
      go_upto_region 12 with fail
      clear k0 k1 k2
      generalize wk.alloc (.cells #[vi t.client, vi t.state, .slice oa t.ops.length oc] 49) = wa at *
      have x2 : wa.cell? ⟨wk.heap.size, 2, none⟩ = some (.slice oa t.ops.length oc) := by rw [cell_of HX.out]; rfl
      have hwlt : wk.heap.size < wa.heap.size := by omega
      clear hwa
      go_wp2_with fail
      clear x2
      go_loopw [43] (fun i wr => ∃ j : Nat, j ≤ t.ops.length ∧ i = .int .i64 j ∧ Hid (∀ o ∈ t.ops.take j, o.key ≠ 15 ∧ o.val ≠ 549755813888 ∧ t.client ≠ 16) ∧ Below wa.heap.size wa wr) (fun i _ => t.ops.length - (intOf i).toNat)
      case atStart => exact ⟨0, Nat.zero_le _, rfl, Lib.hid (fun o ho => by simp at ho), Below.refl _ _⟩
      case round =>
        obtain ⟨wj, rfl⟩ : ∃ wj : World, wj = wr := ⟨_, rfl⟩
        obtain ⟨j, hj, rfl, HFO, hb⟩ := hrel
        have HBj := Lib.hid hb
        have HBq := Lib.hid (HBk.out.trans ((HA.out.trans (hb.mono HA.out.size)).mono HBk.out.size))
        clear hb
        by_cases hlt2 : j < t.ops.length
        · have hjI : (j : Int) < (t.ops.length : Int) := by omega
          have wj1 : IntKind.i64.wrap ((j : Int) + 1) = ((j + 1 : Nat) : Int) := by rw [IntWalk.i64_in _ (by omega)]; omega
          obtain ⟨o, ho⟩ := some_at hlt2
          obtain ⟨_, _, _, e5, -, -, hcl⟩ := (HRO.out.later HBj.out).at
          cases e5
          obtain ⟨ob, ooff, rfl, z0, z1, z2⟩ := hcl j o ho
          have HOK := Lib.hid (take_at ho)
          have HXj := Lib.hid ((HBj.out.block _ hwlt).trans HX.out)
          have HXo := Lib.hid (alloc_at wj (.cells #[vi o.kind, vi o.key, vi o.val] 51))
          have HAo := Lib.hid ((Below.refl wj.heap.size wj).alloc (Nat.le_refl _) (.cells #[vi o.kind, vi o.key, vi o.val] 51))
          have HXk := Lib.hid ((HAo.out.block _ (by have := HBj.out.size; omega)).trans HXj.out)
          have HBo := Lib.hid (HBq.out.trans (HAo.out.mono HBq.out.size))
          have HBjo := Lib.hid (HBj.out.trans (HAo.out.mono HBj.out.size))
          clear hcl ho
          go_upto_region 15 with fail
          clear z0 z1 z2
          generalize wj.alloc (.cells #[vi o.kind, vi o.key, vi o.val] 51) = wo at *
          have y1 : wo.cell? ⟨wj.heap.size, 1, none⟩ = some (vi o.key) := by rw [cell_of HXo.out]; rfl
          have y2 : wo.cell? ⟨wj.heap.size, 2, none⟩ = some (vi o.val) := by rw [cell_of HXo.out]; rfl
          have y3 : wo.cell? ⟨wk.heap.size, 0, none⟩ = some (vi t.client) := by rw [cell_of HXk.out]; rfl
          by_cases h3 : o.key = 15
          · have c3 := beq_t h3
            clear h3
            go_wp2_with fail
            go_ret
            exact ⟨rfl, HB2.out.trans (HBo.out.mono HB2.out.size)⟩
          · by_cases h4 : o.val = 549755813888
            · have c3 := beq_f h3
              have c4 := beq_t h4
              clear h3 h4
              go_wp2_with fail
              go_ret
              exact ⟨rfl, HB2.out.trans (HBo.out.mono HB2.out.size)⟩
            · by_cases h5 : t.client = 16
              · have c3 := beq_f h3
                have c4 := beq_f h4
                have c5 := beq_t h5
                clear h3 h4 h5
                go_wp2_with fail
                go_ret
                exact ⟨rfl, HB2.out.trans (HBo.out.mono HB2.out.size)⟩
              · have c3 := beq_f h3
                have c4 := beq_f h4
                have c5 := beq_f h5
                have HFN := Lib.hid (show ∀ o' ∈ t.ops.take (j + 1), o'.key ≠ 15 ∧ o'.val ≠ 549755813888 ∧ t.client ≠ 16 from fun o' ho' => by
                  rw [HOK.out, List.mem_append] at ho'
                  rcases ho' with ho' | ho'
                  · exact HFO.out o' ho'
                  · rw [List.mem_singleton.1 ho']; exact ⟨h3, h4, h5⟩)
                clear h3 h4 h5
                go_wp2_with fail
                exact ⟨⟨j + 1, by omega, by go_num, Lib.hid HFN.out, HBjo.out⟩, by simp only [intOf]; omega⟩
        · obtain rfl : j = t.ops.length := by omega
          have HFN := Lib.hid (show FreeOf (ts.take (k + 1)) from fun t' ht' => by
            rw [HTK.out, List.mem_append] at ht'
            rcases ht' with ht' | ht'
            · exact HFR.out t' ht'
            · rw [List.mem_singleton.1 ht']
              have h := HFO.out
              rw [List.take_length] at h
              exact h)
          go_wp2_with fail
          exact ⟨⟨k + 1, by omega, by go_num, Lib.hid HFN.out, HBq.out⟩, by simp only [intOf]; omega⟩
    · obtain rfl : k = ts.length := by omega
      have HFF := Lib.hid (show FreeOf ts from by have h := HFR.out; rwa [List.take_length] at h)
      have HBK := Lib.hid (HB2.out.trans (HBk.out.mono HB2.out.size))
      have HEK := Lib.hid (HV.out.later HBK.out)
      have hkr := kM_range ts (1 + y) 600
      have HEO := Lib.hid (show ∀ e ∈ es, e.ops.length ≤ 1000000 from fun e he => Nat.le_trans ((hist_ops HTS.out) e he) (by decide))
      go_upto_region 20 with (go_at_call 18; refine (check_any (level := 1 + y) (B := 600) HEK.out (by omega) (by unfold i64; omega) (.inl (by decide)) HTS.out HLV.out).mono ?_; rintro e3 w3 ⟨f0, f1, f2, ta, tn, tc, da, dn, dc, om, rfl, -, hb3⟩; have HB3 := Lib.hid (HBK.out.trans (hb3.mono HBK.out.size)); clear hb3)
      have HX4 := Lib.hid (alloc_at w3 (.cells #[vi (kM ts (1 + y) 600), vi (sM ts (1 + y) 600), vi f0, vi f1, vi f2, .slice ta tn tc, .slice da dn dc, .map om] 39))
      have HB4 := Lib.hid (HB3.out.alloc HB3.out.size (.cells #[vi (kM ts (1 + y) 600), vi (sM ts (1 + y) 600), vi f0, vi f1, vi f2, .slice ta tn tc, .slice da dn dc, .map om] 39))
      have hw4 : (w3.alloc (.cells #[vi (kM ts (1 + y) 600), vi (sM ts (1 + y) 600), vi f0, vi f1, vi f2, .slice ta tn tc, .slice da dn dc, .map om] 39)).heap.size = w3.heap.size + 1 := by simp
      generalize w3.alloc (.cells #[vi (kM ts (1 + y) 600), vi (sM ts (1 + y) 600), vi f0, vi f1, vi f2, .slice ta tn tc, .slice da dn dc, .map om] 39) = w4 at *
      have h34 : w3.heap.size < w4.heap.size := by omega
      clear hw4
      have HLO := Lib.hid (show OwOps w4.heap.size (w4.alloc (.cells #[vi 2, vi 15, vi 549755813888] 51)) (.slice (some ⟨w4.heap.size, 0, none⟩) 1 1) [loneOp] from World.ownsRow_lit (base := w4.heap.size) (e := 51) (size := 3) w4 #[vi 2, vi 15, vi 549755813888] 1 (Nat.le_refl _) (by simp [maxLen]) rfl)
      have HA5 := Lib.hid ((Below.refl w4.heap.size w4).alloc (Nat.le_refl _) (.cells #[vi 2, vi 15, vi 549755813888] 51))
      have hw5 : (w4.alloc (.cells #[vi 2, vi 15, vi 549755813888] 51)).heap.size = w4.heap.size + 1 := by simp
      go_upto_region 21 with fail
      generalize w4.alloc (.cells #[vi 2, vi 15, vi 549755813888] 51) = w5 at *
      have h45 : w4.heap.size ≤ w5.heap.size := by omega
      clear hw5
      have HB5 := Lib.hid (HB4.out.trans (HA5.out.mono HB4.out.size))
      have HE5 := Lib.hid (HV.out.later HB5.out)
      go_upto_region 22 with (first
        | (go_at_call 17; refine (copyEv_call _ es w5 HE5.out (by omega) HEO.out).mono ?_; rintro e6 w6 ⟨v6, P, rfl, hc6, hp6, hb6⟩; have HC6 := Lib.hid (hc6.mono h45); have HP6 := Lib.hid hp6; have HPL := Lib.hid (show P.length + 1 ≤ 68719476736 from by have := congrArg List.length hp6; simp at this; omega); have HB6 := Lib.hid hb6; obtain ⟨a6, c6, rfl⟩ := own_shapeE hc6.row; have HOP6 := Lib.hid (HLO.out.laterE hb6); clear hc6 hp6 hb6)
        | (at_builtin; go_loud (refine wpList_append_src rfl _ _ 22 rfl eltEv w4.heap.size P.length _ ((HC6.out.later ((Below.refl w6.heap.size w6).alloc (Nat.le_refl _) (.cells #[vi 1, vi 16, .slice (some ⟨w4.heap.size, 0, none⟩) 1 1] 53))).row) rfl 1 (evC (.slice (some ⟨w4.heap.size, 0, none⟩) 1 1, ⟨1, 16, [loneOp]⟩)) (src_new (cs := #[vi 1, vi 16, .slice (some ⟨w4.heap.size, 0, none⟩) 1 1]) rfl rfl) rfl (by intro u hu; simp [evC] at hu; rcases hu with rfl | rfl | rfl <;> rfl) HPL.out (by omega) (by have := HB6.out.size; simp; omega) ?_; intro v7 w7 hr7 hg7 _); have HR7 := Lib.hid hr7; have HG7 := Lib.hid hg7; clear hr7 hg7))
      have hPl := HPL.out
      have HA7 := Lib.hid ((Below.refl w6.heap.size w6).alloc (Nat.le_refl _) (.cells #[vi 1, vi 16, .slice (some ⟨w4.heap.size, 0, none⟩) 1 1] 53))
      have HB46 := Lib.hid (HA5.out.trans (HB6.out.mono HA5.out.size))
      have HC7 := Lib.hid ((HC6.out.later HA7.out).push (p := (.slice (some ⟨w4.heap.size, 0, none⟩) 1 1, ⟨1, 16, [loneOp]⟩)) HG7.out HR7.out (HOP6.out.laterE HA7.out))
      have HB7 := Lib.hid ((HB46.out.trans (HA7.out.mono HB46.out.size)).grown HG7.out (Nat.le_trans HB46.out.size HA7.out.size) (fun z hz => (World.ownsRow.lt HC6.out.row z hz).1))
      have HX7 := Lib.hid ((HB7.out.block _ h34).trans HX4.out)
      obtain ⟨P7, hP7⟩ : ∃ P7, P ++ [((.slice (some ⟨w4.heap.size, 0, none⟩) 1 1 : Value), (⟨1, 16, [loneOp]⟩ : GEvent))] = P7 := ⟨_, rfl⟩
      have HMAP := Lib.hid (show P7.map (·.2) = es ++ [⟨1, 16, [loneOp]⟩] from by rw [← hP7, List.map_append, HP6.out]; rfl)
      have HIN := Lib.hid (show ((.slice (some ⟨w4.heap.size, 0, none⟩) 1 1 : Value), (⟨1, 16, [loneOp]⟩ : GEvent)) ∈ P7 from by rw [← hP7]; simp)
      have hP7l : P7.length ≤ 1000 := by have h := congrArg List.length HMAP.out; simp at h; omega
      rw [hP7] at HC7
      clear hP7
      obtain ⟨a7, c7, rfl⟩ := own_shapeE HC7.out.row
      clear HR7 HG7 HA7 HOP6 HB46
      have hz := HZ.out
      rcases hz with rfl | rfl | rfl | rfl
      case inl =>
        go_upto_region 29 with fail
        have HUS := Lib.hid (hist_lone HTS.out HFF.out (st := 0) (fs := []) (.inl ⟨rfl, rfl⟩))
        have HGU := Lib.hid (hist_good (by simp; omega) HUS.out).1
        have HLN := Lib.hid (lone_is (st := 0) HFF.out ⟨by decide, by decide⟩)
        have HRE := Lib.hid (show RdEvents w7 _ (es ++ ⟨1, 16, [loneOp]⟩ :: []) from by have h := HC7.out.rd; rw [HMAP.out] at h; simpa using h)
        have HSAME := Lib.hid (fun h1 h2 => km_same (level := 1 + y) (B := 600) (C := 1500) HLN.out.flaws (HLN.out.res HG.out HGU.out) h1 h2)
        have hes9 : (es ++ (⟨1, 16, [loneOp]⟩ : GEvent) :: []).length ≤ 60 := by simp; omega
        go_upto_region 30 with (go_at_call 18; refine (check_any (level := 1 + y) (B := 1500) HRE.out hes9 (by unfold i64; omega) (.inl (by decide)) HUS.out HLV.out).mono ?_; rintro e9 w9 ⟨g0, g1, g2, ta9, tn9, tc9, da9, dn9, dc9, om9, rfl, -, hb9⟩; have HB9 := Lib.hid (HB7.out.trans (hb9.mono HB7.out.size)); have HX9 := Lib.hid ((hb9.block _ (Array.getElem?_eq_some_iff.1 HX7.out).1).trans HX7.out); clear hb9)
        generalize kM ts (1 + y) 600 = K1 at *
        generalize kM (ts ++ [loneT 0]) (1 + y) 1500 = K2 at *
        have hbs9 := HB9.out.size
        have h39 : w3.heap.size < w9.heap.size := by omega
        have HA10 := Lib.hid (HB9.out.alloc HB9.out.size (.cells #[vi K2, vi (sM (ts ++ [loneT 0]) (1 + y) 1500), vi g0, vi g1, vi g2, .slice ta9 tn9 tc9, .slice da9 dn9 dc9, .map om9] 39))
        have HY10 := Lib.hid (alloc_at w9 (.cells #[vi K2, vi (sM (ts ++ [loneT 0]) (1 + y) 1500), vi g0, vi g1, vi g2, .slice ta9 tn9 tc9, .slice da9 dn9 dc9, .map om9] 39))
        have HX10 := Lib.hid ((Below.heap_alloc w9 (.cells #[vi K2, vi (sM (ts ++ [loneT 0]) (1 + y) 1500), vi g0, vi g1, vi g2, .slice ta9 tn9 tc9, .slice da9 dn9 dc9, .map om9] 39) w3.heap.size h39).trans HX9.out)
        generalize w9.alloc (.cells #[vi K2, vi (sM (ts ++ [loneT 0]) (1 + y) 1500), vi g0, vi g1, vi g2, .slice ta9 tn9 tc9, .slice da9 dn9 dc9, .map om9] 39) = w10 at *
        have x0 : w10.cell? ⟨w3.heap.size, 0, none⟩ = some (vi K1) := by rw [cell_of HX10.out]; rfl
        have y0 : w10.cell? ⟨w9.heap.size, 0, none⟩ = some (vi K2) := by rw [cell_of HY10.out]; rfl
        have HBF := Lib.hid (HB4.out.trans (HA10.out.mono HB4.out.size))
        clear hbs9 h39
        by_cases h3 : K1 = 3
        · have c3 := beq_t h3
          clear h3
          go_wp2_with fail
          go_ret
          exact ⟨rfl, HBF.out⟩
        · by_cases h4 : K2 = 3
          · have c3 := beq_f h3
            have c4 := beq_t h4
            clear h3 h4
            go_wp2_with fail
            go_ret
            exact ⟨rfl, HBF.out⟩
          · have c3 := beq_f h3
            have c4 := beq_f h4
            have c5 := beq_t (HSAME.out h3 h4)
            clear h3 h4
            go_wp2_with fail
            go_ret
            exact ⟨rfl, HBF.out⟩
      case inr.inl =>
        have HA8 := Lib.hid ((Below.refl w7.heap.size w7).alloc (Nat.le_refl _) (.cells #[vi 2, vi 16, .slice (some ⟨w4.heap.size, 0, none⟩) 1 1] 53))
        have HCA := Lib.hid (HC7.out.later HA8.out)
        have HOPA := Lib.hid (show OwOps w4.heap.size (w7.alloc (.cells #[vi 2, vi 16, .slice (some ⟨w4.heap.size, 0, none⟩) 1 1] 53)) (.slice (some ⟨w4.heap.size, 0, none⟩) 1 1) [loneOp] from (HCA.out.ops (.slice (some ⟨w4.heap.size, 0, none⟩) 1 1, ⟨1, 16, [loneOp]⟩) HIN.out))
        go_upto_region 29 with (at_builtin; go_loud (refine wpList_append_src rfl _ _ 22 rfl eltEv w4.heap.size P7.length _ HCA.out.row rfl 1 (evC (.slice (some ⟨w4.heap.size, 0, none⟩) 1 1, ⟨2, 16, [loneOp]⟩)) (src_new (cs := #[vi 2, vi 16, .slice (some ⟨w4.heap.size, 0, none⟩) 1 1]) rfl rfl) rfl (by intro u hu; simp [evC] at hu; rcases hu with rfl | rfl | rfl <;> rfl) (by omega) (by omega) (by have := HB7.out.size; simp; omega) ?_; intro v8 w8 hr8 hg8 _); have HR8 := Lib.hid hr8; have HG8 := Lib.hid hg8; clear hr8 hg8)
        have HC8 := Lib.hid (HCA.out.push (p := (.slice (some ⟨w4.heap.size, 0, none⟩) 1 1, ⟨2, 16, [loneOp]⟩)) HG8.out HR8.out HOPA.out)
        have HB8 := Lib.hid ((HB7.out.trans (HA8.out.mono HB7.out.size)).grown HG8.out (Nat.le_trans HB7.out.size HA8.out.size) (fun z hz => (World.ownsRow.lt HCA.out.row z hz).1))
        have HX8 := Lib.hid ((HB8.out.block _ h34).trans HX4.out)
        obtain ⟨a8, c8, rfl⟩ := own_shapeE HC8.out.row
        clear HR8 HG8 HCA HOPA HA8 HC7 HX7
        have HUS := Lib.hid (hist_lone HTS.out HFF.out (st := 1) (fs := [⟨2, 16, [loneOp]⟩]) (.inr (.inl ⟨rfl, rfl⟩)))
        have HGU := Lib.hid (hist_good (by simp; omega) HUS.out).1
        have HLN := Lib.hid (lone_is (st := 1) HFF.out ⟨by decide, by decide⟩)
        have HRE := Lib.hid (show RdEvents w8 _ (es ++ ⟨1, 16, [loneOp]⟩ :: [⟨2, 16, [loneOp]⟩]) from by have h := HC8.out.rd; rw [List.map_append, HMAP.out] at h; simpa using h)
        have HSAME := Lib.hid (fun h1 h2 => km_same (level := 1 + y) (B := 600) (C := 1500) HLN.out.flaws (HLN.out.res HG.out HGU.out) h1 h2)
        have hes9 : (es ++ (⟨1, 16, [loneOp]⟩ : GEvent) :: [⟨2, 16, [loneOp]⟩]).length ≤ 60 := by simp; omega
        go_upto_region 30 with (go_at_call 18; refine (check_any (level := 1 + y) (B := 1500) HRE.out hes9 (by unfold i64; omega) (.inl (by decide)) HUS.out HLV.out).mono ?_; rintro e9 w9 ⟨g0, g1, g2, ta9, tn9, tc9, da9, dn9, dc9, om9, rfl, -, hb9⟩; have HB9 := Lib.hid (HB8.out.trans (hb9.mono HB8.out.size)); have HX9 := Lib.hid ((hb9.block _ (Array.getElem?_eq_some_iff.1 HX8.out).1).trans HX8.out); clear hb9)
        generalize kM ts (1 + y) 600 = K1 at *
        generalize kM (ts ++ [loneT 1]) (1 + y) 1500 = K2 at *
        have hbs9 := HB9.out.size
        have h39 : w3.heap.size < w9.heap.size := by omega
        have HA10 := Lib.hid (HB9.out.alloc HB9.out.size (.cells #[vi K2, vi (sM (ts ++ [loneT 1]) (1 + y) 1500), vi g0, vi g1, vi g2, .slice ta9 tn9 tc9, .slice da9 dn9 dc9, .map om9] 39))
        have HY10 := Lib.hid (alloc_at w9 (.cells #[vi K2, vi (sM (ts ++ [loneT 1]) (1 + y) 1500), vi g0, vi g1, vi g2, .slice ta9 tn9 tc9, .slice da9 dn9 dc9, .map om9] 39))
        have HX10 := Lib.hid ((Below.heap_alloc w9 (.cells #[vi K2, vi (sM (ts ++ [loneT 1]) (1 + y) 1500), vi g0, vi g1, vi g2, .slice ta9 tn9 tc9, .slice da9 dn9 dc9, .map om9] 39) w3.heap.size h39).trans HX9.out)
        generalize w9.alloc (.cells #[vi K2, vi (sM (ts ++ [loneT 1]) (1 + y) 1500), vi g0, vi g1, vi g2, .slice ta9 tn9 tc9, .slice da9 dn9 dc9, .map om9] 39) = w10 at *
        have x0 : w10.cell? ⟨w3.heap.size, 0, none⟩ = some (vi K1) := by rw [cell_of HX10.out]; rfl
        have y0 : w10.cell? ⟨w9.heap.size, 0, none⟩ = some (vi K2) := by rw [cell_of HY10.out]; rfl
        have HBF := Lib.hid (HB4.out.trans (HA10.out.mono HB4.out.size))
        clear hbs9 h39
        by_cases h3 : K1 = 3
        · have c3 := beq_t h3
          clear h3
          go_wp2_with fail
          go_ret
          exact ⟨rfl, HBF.out⟩
        · by_cases h4 : K2 = 3
          · have c3 := beq_f h3
            have c4 := beq_t h4
            clear h3 h4
            go_wp2_with fail
            go_ret
            exact ⟨rfl, HBF.out⟩
          · have c3 := beq_f h3
            have c4 := beq_f h4
            have c5 := beq_t (HSAME.out h3 h4)
            clear h3 h4
            go_wp2_with fail
            go_ret
            exact ⟨rfl, HBF.out⟩
      case inr.inr.inl =>
        have HA8 := Lib.hid ((Below.refl w7.heap.size w7).alloc (Nat.le_refl _) (.cells #[vi 3, vi 16, .slice none 0 0] 53))
        have HCA := Lib.hid (HC7.out.later HA8.out)
        have HOPA := Lib.hid (show OwOps w4.heap.size (w7.alloc (.cells #[vi 3, vi 16, .slice none 0 0] 53)) (.slice none 0 0) [] from ownNil _ _)
        go_upto_region 29 with (at_builtin; go_loud (refine wpList_append_src rfl _ _ 22 rfl eltEv w4.heap.size P7.length _ HCA.out.row rfl 1 (evC (.slice none 0 0, ⟨3, 16, []⟩)) (src_new (cs := #[vi 3, vi 16, .slice none 0 0]) rfl rfl) rfl (by intro u hu; simp [evC] at hu; rcases hu with rfl | rfl | rfl <;> rfl) (by omega) (by omega) (by have := HB7.out.size; simp; omega) ?_; intro v8 w8 hr8 hg8 _); have HR8 := Lib.hid hr8; have HG8 := Lib.hid hg8; clear hr8 hg8)
        have HC8 := Lib.hid (HCA.out.push (p := (.slice none 0 0, ⟨3, 16, []⟩)) HG8.out HR8.out HOPA.out)
        have HB8 := Lib.hid ((HB7.out.trans (HA8.out.mono HB7.out.size)).grown HG8.out (Nat.le_trans HB7.out.size HA8.out.size) (fun z hz => (World.ownsRow.lt HCA.out.row z hz).1))
        have HX8 := Lib.hid ((HB8.out.block _ h34).trans HX4.out)
        obtain ⟨a8, c8, rfl⟩ := own_shapeE HC8.out.row
        clear HR8 HG8 HCA HOPA HA8 HC7 HX7
        have HUS := Lib.hid (hist_lone HTS.out HFF.out (st := 2) (fs := [⟨3, 16, []⟩]) (.inr (.inr (.inl ⟨rfl, rfl⟩))))
        have HGU := Lib.hid (hist_good (by simp; omega) HUS.out).1
        have HLN := Lib.hid (lone_is (st := 2) HFF.out ⟨by decide, by decide⟩)
        have HRE := Lib.hid (show RdEvents w8 _ (es ++ ⟨1, 16, [loneOp]⟩ :: [⟨3, 16, []⟩]) from by have h := HC8.out.rd; rw [List.map_append, HMAP.out] at h; simpa using h)
        have HSAME := Lib.hid (fun h1 h2 => km_same (level := 1 + y) (B := 600) (C := 1500) HLN.out.flaws (HLN.out.res HG.out HGU.out) h1 h2)
        have hes9 : (es ++ (⟨1, 16, [loneOp]⟩ : GEvent) :: [⟨3, 16, []⟩]).length ≤ 60 := by simp; omega
        go_upto_region 30 with (go_at_call 18; refine (check_any (level := 1 + y) (B := 1500) HRE.out hes9 (by unfold i64; omega) (.inl (by decide)) HUS.out HLV.out).mono ?_; rintro e9 w9 ⟨g0, g1, g2, ta9, tn9, tc9, da9, dn9, dc9, om9, rfl, -, hb9⟩; have HB9 := Lib.hid (HB8.out.trans (hb9.mono HB8.out.size)); have HX9 := Lib.hid ((hb9.block _ (Array.getElem?_eq_some_iff.1 HX8.out).1).trans HX8.out); clear hb9)
        generalize kM ts (1 + y) 600 = K1 at *
        generalize kM (ts ++ [loneT 2]) (1 + y) 1500 = K2 at *
        have hbs9 := HB9.out.size
        have h39 : w3.heap.size < w9.heap.size := by omega
        have HA10 := Lib.hid (HB9.out.alloc HB9.out.size (.cells #[vi K2, vi (sM (ts ++ [loneT 2]) (1 + y) 1500), vi g0, vi g1, vi g2, .slice ta9 tn9 tc9, .slice da9 dn9 dc9, .map om9] 39))
        have HY10 := Lib.hid (alloc_at w9 (.cells #[vi K2, vi (sM (ts ++ [loneT 2]) (1 + y) 1500), vi g0, vi g1, vi g2, .slice ta9 tn9 tc9, .slice da9 dn9 dc9, .map om9] 39))
        have HX10 := Lib.hid ((Below.heap_alloc w9 (.cells #[vi K2, vi (sM (ts ++ [loneT 2]) (1 + y) 1500), vi g0, vi g1, vi g2, .slice ta9 tn9 tc9, .slice da9 dn9 dc9, .map om9] 39) w3.heap.size h39).trans HX9.out)
        generalize w9.alloc (.cells #[vi K2, vi (sM (ts ++ [loneT 2]) (1 + y) 1500), vi g0, vi g1, vi g2, .slice ta9 tn9 tc9, .slice da9 dn9 dc9, .map om9] 39) = w10 at *
        have x0 : w10.cell? ⟨w3.heap.size, 0, none⟩ = some (vi K1) := by rw [cell_of HX10.out]; rfl
        have y0 : w10.cell? ⟨w9.heap.size, 0, none⟩ = some (vi K2) := by rw [cell_of HY10.out]; rfl
        have HBF := Lib.hid (HB4.out.trans (HA10.out.mono HB4.out.size))
        clear hbs9 h39
        by_cases h3 : K1 = 3
        · have c3 := beq_t h3
          clear h3
          go_wp2_with fail
          go_ret
          exact ⟨rfl, HBF.out⟩
        · by_cases h4 : K2 = 3
          · have c3 := beq_f h3
            have c4 := beq_t h4
            clear h3 h4
            go_wp2_with fail
            go_ret
            exact ⟨rfl, HBF.out⟩
          · have c3 := beq_f h3
            have c4 := beq_f h4
            have c5 := beq_t (HSAME.out h3 h4)
            clear h3 h4
            go_wp2_with fail
            go_ret
            exact ⟨rfl, HBF.out⟩
      case inr.inr.inr =>
        have HA8 := Lib.hid ((Below.refl w7.heap.size w7).alloc (Nat.le_refl _) (.cells #[vi 4, vi 16, .slice none 0 0] 53))
        have HCA := Lib.hid (HC7.out.later HA8.out)
        have HOPA := Lib.hid (show OwOps w4.heap.size (w7.alloc (.cells #[vi 4, vi 16, .slice none 0 0] 53)) (.slice none 0 0) [] from ownNil _ _)
        go_upto_region 29 with (at_builtin; go_loud (refine wpList_append_src rfl _ _ 22 rfl eltEv w4.heap.size P7.length _ HCA.out.row rfl 1 (evC (.slice none 0 0, ⟨4, 16, []⟩)) (src_new (cs := #[vi 4, vi 16, .slice none 0 0]) rfl rfl) rfl (by intro u hu; simp [evC] at hu; rcases hu with rfl | rfl | rfl <;> rfl) (by omega) (by omega) (by have := HB7.out.size; simp; omega) ?_; intro v8 w8 hr8 hg8 _); have HR8 := Lib.hid hr8; have HG8 := Lib.hid hg8; clear hr8 hg8)
        have HC8 := Lib.hid (HCA.out.push (p := (.slice none 0 0, ⟨4, 16, []⟩)) HG8.out HR8.out HOPA.out)
        have HB8 := Lib.hid ((HB7.out.trans (HA8.out.mono HB7.out.size)).grown HG8.out (Nat.le_trans HB7.out.size HA8.out.size) (fun z hz => (World.ownsRow.lt HCA.out.row z hz).1))
        have HX8 := Lib.hid ((HB8.out.block _ h34).trans HX4.out)
        obtain ⟨a8, c8, rfl⟩ := own_shapeE HC8.out.row
        clear HR8 HG8 HCA HOPA HA8 HC7 HX7
        have HUS := Lib.hid (hist_lone HTS.out HFF.out (st := 0) (fs := [⟨4, 16, []⟩]) (.inr (.inr (.inr ⟨rfl, rfl⟩))))
        have HGU := Lib.hid (hist_good (by simp; omega) HUS.out).1
        have HLN := Lib.hid (lone_is (st := 0) HFF.out ⟨by decide, by decide⟩)
        have HRE := Lib.hid (show RdEvents w8 _ (es ++ ⟨1, 16, [loneOp]⟩ :: [⟨4, 16, []⟩]) from by have h := HC8.out.rd; rw [List.map_append, HMAP.out] at h; simpa using h)
        have HSAME := Lib.hid (fun h1 h2 => km_same (level := 1 + y) (B := 600) (C := 1500) HLN.out.flaws (HLN.out.res HG.out HGU.out) h1 h2)
        have hes9 : (es ++ (⟨1, 16, [loneOp]⟩ : GEvent) :: [⟨4, 16, []⟩]).length ≤ 60 := by simp; omega
        go_upto_region 30 with (go_at_call 18; refine (check_any (level := 1 + y) (B := 1500) HRE.out hes9 (by unfold i64; omega) (.inl (by decide)) HUS.out HLV.out).mono ?_; rintro e9 w9 ⟨g0, g1, g2, ta9, tn9, tc9, da9, dn9, dc9, om9, rfl, -, hb9⟩; have HB9 := Lib.hid (HB8.out.trans (hb9.mono HB8.out.size)); have HX9 := Lib.hid ((hb9.block _ (Array.getElem?_eq_some_iff.1 HX8.out).1).trans HX8.out); clear hb9)
        generalize kM ts (1 + y) 600 = K1 at *
        generalize kM (ts ++ [loneT 0]) (1 + y) 1500 = K2 at *
        have hbs9 := HB9.out.size
        have h39 : w3.heap.size < w9.heap.size := by omega
        have HA10 := Lib.hid (HB9.out.alloc HB9.out.size (.cells #[vi K2, vi (sM (ts ++ [loneT 0]) (1 + y) 1500), vi g0, vi g1, vi g2, .slice ta9 tn9 tc9, .slice da9 dn9 dc9, .map om9] 39))
        have HY10 := Lib.hid (alloc_at w9 (.cells #[vi K2, vi (sM (ts ++ [loneT 0]) (1 + y) 1500), vi g0, vi g1, vi g2, .slice ta9 tn9 tc9, .slice da9 dn9 dc9, .map om9] 39))
        have HX10 := Lib.hid ((Below.heap_alloc w9 (.cells #[vi K2, vi (sM (ts ++ [loneT 0]) (1 + y) 1500), vi g0, vi g1, vi g2, .slice ta9 tn9 tc9, .slice da9 dn9 dc9, .map om9] 39) w3.heap.size h39).trans HX9.out)
        generalize w9.alloc (.cells #[vi K2, vi (sM (ts ++ [loneT 0]) (1 + y) 1500), vi g0, vi g1, vi g2, .slice ta9 tn9 tc9, .slice da9 dn9 dc9, .map om9] 39) = w10 at *
        have x0 : w10.cell? ⟨w3.heap.size, 0, none⟩ = some (vi K1) := by rw [cell_of HX10.out]; rfl
        have y0 : w10.cell? ⟨w9.heap.size, 0, none⟩ = some (vi K2) := by rw [cell_of HY10.out]; rfl
        have HBF := Lib.hid (HB4.out.trans (HA10.out.mono HB4.out.size))
        clear hbs9 h39
        by_cases h3 : K1 = 3
        · have c3 := beq_t h3
          clear h3
          go_wp2_with fail
          go_ret
          exact ⟨rfl, HBF.out⟩
        · by_cases h4 : K2 = 3
          · have c3 := beq_f h3
            have c4 := beq_t h4
            clear h3 h4
            go_wp2_with fail
            go_ret
            exact ⟨rfl, HBF.out⟩
          · have c3 := beq_f h3
            have c4 := beq_f h4
            have c5 := beq_t (HSAME.out h3 h4)
            clear h3 h4
            go_wp2_with fail
            go_ret
            exact ⟨rfl, HBF.out⟩
end checkAlone
end Go.Proofs.YtnacoplokjdglaaGreat
