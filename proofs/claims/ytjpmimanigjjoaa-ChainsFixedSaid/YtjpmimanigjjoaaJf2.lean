/- Texts of one proof, one behind the other: L9e. -/
import Derived.Test.YtjpmimanigjjoaaJo5
import Derived.Test.YtjpmimanigjjoaaJf1
import Derived.Test.YtjpmimanigjjoaaJo13
set_option linter.all false
/- The law ChainsFixed: its walk. -/
namespace Go.Proofs.Ytjpmimanigjjoaa.chainsFixed
open Go.RowKit Go.Maps

theorem mine_set {ts : List GTxn} {L : List Bool} {k : Nat} {b : Bool} (h : MineOK ts L k) (hk : k < L.length) (hb : (isM ts [] k).2 = true → b = (isM ts [] k).1) : MineOK ts (L.set k b) (k + 1) := fun i hi hki => by
  rw [List.getElem?_set]
  by_cases he : k = i
  · subst he; simp [hk]; exact hb hki
  · rw [if_neg he]; exact h i (by omega) hki

/-- The orders that the law lays: lists in some turn. -/
def OrdP (ts : List GTxn) (L : List Bool) (O : OrdL) (k : Nat) (w : World) : Prop := ∀ key : Nat, key < k → ∃ v l, getM O (key : Int) = some (v, l) ∧ OwI 0 w v l ∧ l.Perm (wantL ts L key ts.length)
theorem and1023 (x : Int) : ∃ m : Nat, bits .and .i64 x 1023 = (m : Int) ∧ m ≤ 1023 := by
  have : ∃ m : Nat, m ≤ 1023 ∧ bits .and .i64 x 1023 = IntKind.i64.wrap (m : Int) := ⟨(BitVec.ofInt 64 x &&& BitVec.ofInt 64 1023).toNat, by rw [BitVec.toNat_and]; exact Nat.le_trans Nat.and_le_right (by decide), rfl⟩
  obtain ⟨m, h1, h2⟩ := this
  refine ⟨m, ?_, h1⟩
  rw [h2, IntKind.wrap_i64]; omega
theorem and15 (x : Int) : ∃ m : Nat, bits .and .i64 x 15 = (m : Int) ∧ m ≤ 15 := by
  have : ∃ m : Nat, m ≤ 15 ∧ bits .and .i64 x 15 = IntKind.i64.wrap (m : Int) := ⟨(BitVec.ofInt 64 x &&& BitVec.ofInt 64 15).toNat, by rw [BitVec.toNat_and]; exact Nat.le_trans Nat.and_le_right (by decide), rfl⟩
  obtain ⟨m, h1, h2⟩ := this
  refine ⟨m, ?_, h1⟩
  rw [h2, IntKind.wrap_i64]; omega
theorem and7 (x : Int) : ∃ m : Nat, bits .and .i64 x 7 = (m : Int) ∧ m ≤ 7 := by
  have : ∃ m : Nat, m ≤ 7 ∧ bits .and .i64 x 7 = IntKind.i64.wrap (m : Int) := ⟨(BitVec.ofInt 64 x &&& BitVec.ofInt 64 7).toNat, by rw [BitVec.toNat_and]; exact Nat.le_trans Nat.and_le_right (by decide), rfl⟩
  obtain ⟨m, h1, h2⟩ := this
  refine ⟨m, ?_, h1⟩
  rw [h2, IntKind.wrap_i64]; omega
theorem map_apartO {w : World} {b n m g : Nat} {e : TypeId} {v : Value} {xs : List Value} {O : OrdL} (h : w.ownsRow b e n v m xs) (hM : MapO w g O) : some g ≠ v.ownBlock := by
  obtain ⟨es, clock, hb, _⟩ := hM
  rcases h.2 with ⟨hv, _⟩ | ⟨g', cap, cur, hv, _, hh, _⟩
  · rw [hv]; simp [Value.ownBlock]
  · rw [hv]
    intro e1
    have : g = g' := by simpa [Value.ownBlock] using e1
    subst this
    rw [hb] at hh
    simp at hh
theorem wantL_sorted (ts : List GTxn) (dn : List Bool) (key : Int) : ∀ n, (wantL ts dn key n).Pairwise (fun x y => x ≤ y) := by
  intro n
  induction n with
  | zero => simp [wantL]
  | succ n ih =>
    rw [wantL_succ, List.pairwise_append]
    refine ⟨ih, by split <;> simp, fun x hx y hy => ?_⟩
    obtain ⟨i, h1, rfl, _⟩ := wantL_mem.1 hx
    split at hy
    · simp at hy; subst hy; omega
    · simp at hy
theorem srt_want {ts : List GTxn} {dn : List Bool} {key : Int} {n : Nat} {l : List Int} (h : l.Perm (wantL ts dn key n)) : srt l = wantL ts dn key n :=
  ((srt_perm l).trans h).eq_of_pairwise (fun a b _ _ h1 h2 => by omega) (srt_sorted l) (wantL_sorted ts dn key n)
theorem OrdP.next {ts : List GTxn} {L : List Bool} {O : OrdL} {k om base : Nat} {A B : World} {v : Value} {l : List Int} (h : OrdP ts L O k A) (hM : MapO A om O) (hg : A.grownBy B (some om)) (hr : OwI base A v l) (hp : l.Perm (wantL ts L k ts.length)) : OrdP ts L (putM O (k : Int) (v, l)) (k + 1) B := fun key hk => by
  by_cases he : key = k
  · subst he
    exact ⟨v, l, by rw [getM_put, if_pos rfl], World.ownsRow.kept (own_mono hr (Nat.zero_le _)) hg (.inr (fun e => map_apartO hr hM e.symm)), hp⟩
  · obtain ⟨v', l', h1, h2, h3⟩ := h key (by omega)
    exact ⟨v', l', by rw [getM_put, if_neg (by omega)]; exact h1, World.ownsRow.kept h2 hg (.inr (fun e => map_apartO h2 hM e.symm)), h3⟩
theorem OrdP.below {ts : List GTxn} {L : List Bool} {O : OrdL} {k : Nat} {A B : World} (h : OrdP ts L O k A) (hb : Below A.heap.size A B) : OrdP ts L O k B := fun key hk => by
  obtain ⟨v', l', h1, h2, h3⟩ := h key hk
  exact ⟨v', l', h1, own_below h2 hb, h3⟩
theorem OrdP.at {ts : List GTxn} {L : List Bool} {O : OrdL} {A : World} (h : OrdP ts L O 16 A) (htl : ts.length ≤ 60) : OrdAt A O := fun key hk => by
  obtain ⟨v', l', h1, h2, h3⟩ := h key hk
  refine ⟨v', l', h1, OwI.rdY h2 (fun x hx => ?_), by rw [h3.length_eq]; exact Nat.le_trans (wantL_le _ _ _ _) (by omega)⟩
  obtain ⟨i, h4, rfl, _⟩ := wantL_mem.1 (h3.mem_iff.1 hx)
  unfold i64; omega
theorem OrdP.good {ts : List GTxn} {L : List Bool} {O : OrdL} {A : World} (h : OrdP ts L O 16 A) : GoodK ts L O 16 := fun key hk => by
  obtain ⟨v', l', h1, h2, h3⟩ := h key hk
  rw [ordL_of h1]
  exact srt_want h3
theorem no_true {b : Bool} {P : Prop} (h : b = true ↔ P) (hn : P → False) : b = false := by
  cases b with
  | false => rfl
  | true => exact (hn (h.1 rfl)).elim
theorem src_oneY {W : World} {g : Nat} {x : Int} (h : W.heap[g]? = some (.cells #[vi x] 3)) : Src W (.slice (some ⟨g, 0, none⟩) 1 1) 1 1 (viC x) := by
  refine ⟨some ⟨g, 0, none⟩, 1, rfl, rfl, fun h => (by cases h), fun ad had j u hu => ?_⟩
  cases had
  rw [addr_add, cell_of h]
  cases j with
  | zero => simpa [viC] using hu
  | succ j => simp [viC] at hu
theorem viC_oneY (k : Int) : ∀ u ∈ viC k, u.oneCell' = true := by intro u hu; simp [viC] at hu; subst hu; rfl
theorem any_hit {l : List GOp} {k : Nat} {o : GOp} (key : Int) (h : l[k]? = some o) : (l.take (k + 1)).any (hitK key) = ((l.take k).any (hitK key) || hitK key o) := by
  rw [List.take_add_one, h, List.any_append]; simp

set_option maxRecDepth 100000 in
set_option maxHeartbeats 16000000 in
theorem walk (v u tv : Value) (es : List GEvent) (dn : List Bool) (turns : List Int) (spoil : Int) (w : World) (hv : RdEvents w v es) (hu : RdB w u dn) (ht : RdInts w tv turns) (hs : i64 spoil) :
    Calls Try.prog 5 #[v, u, tv, vi spoil] w fun e w' => e = .returned (.bool true) ∧ Below w.heap.size w w' := by
  have HV := Lib.hid hv
  have HU := Lib.hid hu
  have HT := Lib.hid ht
  have HSP := Lib.hid hs
  obtain ⟨ua, ul, uc, rfl, rfl, hum, -⟩ := hu.at
  clear hu
  obtain ⟨va, vl, vc, rfl, rfl, hvm, -⟩ := ht.at
  clear hv ht hs
  go_enter Try.func5, Try.ntmps5
  go_upto_region 4 with (first
    | (go_at_call 8; refine (head_call _).mono ?_; rintro e w1 ⟨rfl, hb1⟩; have HB1 := Lib.hid hb1; have HV1 := Lib.hid (HV.out.later hb1); clear hb1)
    | (go_at_call 9; refine (made_call _ es _ HV1.out).mono ?_; rintro e w2 ⟨v2, b, rfl, hg, hb2⟩))
  have HB2 := Lib.hid (HB1.out.trans (hb2.mono HB1.out.size))
  clear hb2
  cases b with
  | false =>
    go_wp2_with fail
    go_ret
    exact ⟨by rfl, HB2.out⟩
  | true =>
    obtain ⟨ts, hr, hgood⟩ := hg rfl
    have HR := Lib.hid hr
    have HG := Lib.hid hgood
    have HOK := Lib.hid hgood.ok
    have htl : ts.length ≤ 60 := hgood.len
    obtain ⟨ta, tl, tc, rfl, rfl, htm, -⟩ := hr.at
    clear hg hr hgood
    have hmb := fun w => run_makeBools w ts.length (by omega)
    have HBL := Lib.hid (show BoolB (w2.alloc (.cells ((List.replicate ts.length false).map Value.bool).toArray 4)) w2.heap.size (List.replicate ts.length false) from alloc_at w2 _)
    have HBm := Lib.hid ((Below.refl w2.heap.size w2).alloc (Nat.le_refl _) (.cells ((List.replicate ts.length false).map Value.bool).toArray 4))
    go_upto_region 7 with fail
    clear hmb
    rw [show ((List.replicate ts.length false).map Value.bool).toArray = Array.replicate ts.length (.bool false) by simp] at HBL HBm
    generalize w2.alloc (.cells (Array.replicate ts.length (.bool false)) 4) = wm at *
    have HRm := Lib.hid (HR.out.later HBm.out)
    go_wp2_with fail
    go_loopw [12, 13, 14, 51] (fun _ _ _ n wr => ∃ (k : Nat) (L : List Bool), k ≤ ts.length ∧ n = .int .i64 k ∧ Hid (L.length = ts.length ∧ MineOK ts L k ∧ BoolB wr w2.heap.size L ∧ Below w2.heap.size w2 wr)) (fun _ _ _ n _ => ts.length - (intOf n).toNat)
    case atStart => exact ⟨0, _, Nat.zero_le _, rfl, Lib.hid ⟨by simp, fun i h => absurd h (Nat.not_lt_zero _), HBL.out, HBm.out⟩⟩
    case round =>
      clear HBL HBm
      obtain ⟨wk, rfl⟩ : ∃ wk : World, wk = wr := ⟨_, rfl⟩
      obtain ⟨k, L, hk, rfl, HJ⟩ := hrel
      have hLl := HJ.out.1
      have HMO := Lib.hid HJ.out.2.1
      have HBL := Lib.hid HJ.out.2.2.1
      have HBk := Lib.hid HJ.out.2.2.2
      clear HJ
      have hbk := HBk.out.size
      have HLL := Lib.hid hLl
      by_cases hlt : k < ts.length
      · have hkL : k < L.length := by omega
        have hkI : (k : Int) < (ts.length : Int) := by omega
        have wk1 : IntKind.i64.wrap ((k : Int) + 1) = ((k + 1 : Nat) : Int) := by rw [IntWalk.i64_in _ (by omega)]; omega
        have HI := Lib.hid (IsNil_call _ ts k wk (HR.out.later HBk.out) HOK.out (by omega) hlt)
        obtain ⟨so, hso⟩ : ∃ b, (isM ts [] k).1 = b := ⟨_, rfl⟩
        obtain ⟨kn, hkn⟩ : ∃ b, (isM ts [] k).2 = b := ⟨_, rfl⟩
        have HSO := Lib.hid hso
        have HKN := Lib.hid hkn
        rw [hso, hkn] at HI
        clear hso hkn hLl
        go_upto_region 11 with (go_at_call 18; refine HI.out.mono ?_; rintro e w5 ⟨rfl, hb5⟩)
        have HB5 := Lib.hid (HBk.out.trans (hb5.mono hbk))
        have HL5 := Lib.hid (show BoolB w5 w2.heap.size L from HBL.out.frame (hb5.block _ HBL.out.lt))
        obtain ⟨x0, hx0⟩ := some_at hkL
        have c0 := HL5.out.at hx0
        have f0 := HL5.out.free k
        have HS5 := Lib.hid (HL5.out.set k so).1
        have HBs := Lib.hid (HB5.out.setCell (p := ⟨w2.heap.size, k, none⟩) (Nat.le_refl _) (.bool so))
        clear hb5 hx0
        go_upto_region 12 with fail
        clear c0 f0
        generalize w5.setCell ⟨w2.heap.size, k, none⟩ (.bool so) = w6 at *
        cases kn with
        | true =>
          have hmo := mine_set HMO.out hkL (b := so) (fun _ => HSO.out.symm)
          have HMO2 := Lib.hid hmo
          clear hmo
          go_wp2_with fail
          refine ⟨⟨k + 1, L.set k so, by omega, rfl, Lib.hid ?_⟩, ?_⟩
          · exact ⟨by rw [List.length_set]; exact HLL.out, HMO2.out, HS5.out, HBs.out⟩
          · simp only [intOf]; omega
        | false =>
          by_cases hd : k < dn.length
          · obtain ⟨y, hy⟩ := some_at hd
            obtain ⟨_, _, _, e5, -, -, hul⟩ := (RdB.at (RdS.below HU.out (HB2.out.trans (HBs.out.mono HB2.out.size)) (fun _ _ h => h)))
            cases e5
            obtain ⟨ub, uo, rfl, y0⟩ := hul k y hy
            have hdI : (k : Int) < (dn.length : Int) := by omega
            obtain ⟨x1, hx1⟩ := some_at (l := L.set k so) (k := k) (by rw [List.length_set]; exact hkL)
            have c1 := HS5.out.at hx1
            have f1 := HS5.out.free k
            have HS6 := Lib.hid (HS5.out.set k y).1
            have hmo := mine_set (L := L.set k so) (k := k) (b := y) (fun i hi h => by rw [List.getElem?_set_ne (by omega)]; exact HMO.out i hi h) (by rw [List.length_set]; exact hkL) (fun h => by rw [HKN.out] at h; cases h)
            have HMO2 := Lib.hid hmo
            clear hul hy hx1 hmo
            go_wp2_with fail
            refine ⟨⟨k + 1, (L.set k so).set k y, by omega, rfl, Lib.hid ?_⟩, ?_⟩
            · exact ⟨by rw [List.length_set, List.length_set]; exact HLL.out, HMO2.out, HS6.out, HBs.out.setCell (Nat.le_refl _) _⟩
            · simp only [intOf]; omega
          · have hdI : ¬ (k : Int) < (dn.length : Int) := by omega
            have hmo := mine_set HMO.out hkL (b := so) (fun _ => HSO.out.symm)
            have HMO2 := Lib.hid hmo
            clear hmo
            go_wp2_with fail
            refine ⟨⟨k + 1, L.set k so, by omega, rfl, Lib.hid ?_⟩, ?_⟩
            · exact ⟨by rw [List.length_set]; exact HLL.out, HMO2.out, HS5.out, HBs.out⟩
            · simp only [intOf]; omega
      · obtain rfl : k = ts.length := by omega
        have HMO2 := Lib.hid (show MineOK ts L ts.length from HMO.out)
        have HRk := Lib.hid (HR.out.later HBk.out)
        have HTk := Lib.hid (HT.out.later (HB2.out.trans (HBk.out.mono HB2.out.size)))
        have HBw := Lib.hid (HB2.out.trans (HBk.out.mono HB2.out.size))
        have hdb := HBL.out.lt
        clear HRm HMO HBk
        have hmkm := @run_makeMap Try.prog
        have HM0 := Lib.hid (show MapO (wk.alloc (.map #[] 0)) wk.heap.size [] from MapT.made wk)
        have HB0 := Lib.hid ((Below.refl wk.heap.size wk).alloc (Nat.le_refl _) (.map #[] 0))
        go_upto_region 16 with fail
        clear hmkm
        generalize wk.alloc (.map #[] 0) = w0 at *
        go_wp2_with fail
        go_loopw [16, 17, 18, 19, 21, 22, 88, 97] (fun n _ _ _ _ _ _ _ wr => ∃ (k : Nat) (O : OrdL), k ≤ 16 ∧ n = .int .i64 k ∧ Hid (MapO wr wk.heap.size O ∧ OrdP ts L O k wr ∧ Below wk.heap.size wk wr)) (fun n _ _ _ _ _ _ _ _ => 16 - (intOf n).toNat)
        case atStart => exact ⟨0, [], Nat.zero_le _, rfl, Lib.hid ⟨HM0.out, fun key h => absurd h (Nat.not_lt_zero _), HB0.out⟩⟩
        case round =>
          clear HM0 HB0
          obtain ⟨wq, rfl⟩ : ∃ wk : World, wk = wr := ⟨_, rfl⟩
          obtain ⟨key, O, hkey, rfl, HJ⟩ := hrel
          have HMq := Lib.hid HJ.out.1
          have HOP := Lib.hid HJ.out.2.1
          have HBq := Lib.hid HJ.out.2.2
          clear HJ
          have hbq := HBq.out.size
          have hmq := HMq.out.lt
          by_cases h16 : key < 16
          · have k16 : (key : Int) < 16 := by omega
            have wky1 : IntKind.i64.wrap ((key : Int) + 1) = ((key + 1 : Nat) : Int) := by rw [IntWalk.i64_in _ (by omega)]; omega
            have HO0 := Lib.hid (World.ownsRow_lit (base := wq.heap.size) (e := 3) (size := 1) wq #[] 0 (Nat.le_refl _) (by simp [maxLen]) rfl)
            have HBl := Lib.hid ((Below.refl wq.heap.size wq).alloc (Nat.le_refl _) (.cells #[] 3))
            have HLq := Lib.hid (show BoolB wq w2.heap.size L from HBL.out.frame (HBq.out.block _ hdb))
            have HRq := Lib.hid (HRk.out.later HBq.out)
            have HTq := Lib.hid (HTk.out.later HBq.out)
            go_upto_region 20 with fail
            have HS0 := Lib.hid (show OwI wq.heap.size (wq.alloc (.cells #[] 3)) (.slice (some ⟨wq.heap.size, 0, none⟩) 0 0) [] from by simpa [OwI] using HO0.out)
            generalize wq.alloc (.cells #[] 3) = wl0 at *
            go_wp2_with fail
            go_loopw [17, 18, 19, 21, 22, 88, 97] (fun lv _ _ _ _ n _ wr => ∃ (i : Nat) (l : List Int) (lg lc : Nat), i ≤ ts.length ∧ n = .int .i64 i ∧ lv = .slice (some ⟨lg, 0, none⟩) l.length lc ∧ Hid (OwI wq.heap.size wr (.slice (some ⟨lg, 0, none⟩) l.length lc) l ∧ l.Perm (wantL ts L key i) ∧ Below wq.heap.size wq wr)) (fun _ _ _ _ _ n _ _ => ts.length - (intOf n).toNat)
            case atStart => exact ⟨0, [], wq.heap.size, 0, Nat.zero_le _, rfl, rfl, Lib.hid ⟨HS0.out, List.Perm.nil, HBl.out⟩⟩
            case round =>
              clear HO0 HS0 HBl
              obtain ⟨wi, rfl⟩ : ∃ wk : World, wk = wr := ⟨_, rfl⟩
              obtain ⟨i, l, lg, lc, hi, rfl, rfl, HJ⟩ := hrel
              have HLO := Lib.hid HJ.out.1
              have HLP := Lib.hid HJ.out.2.1
              have HBi := Lib.hid HJ.out.2.2
              clear HJ
              have hbi := HBi.out.size
              have hll : l.length ≤ i := by rw [HLP.out.length_eq]; exact wantL_le _ _ _ _
              by_cases hil : i < ts.length
              · obtain ⟨t, ht⟩ := some_at hil
                obtain ⟨_, _, _, e5, -, -, hcl⟩ := (HRq.out.later HBi.out).at
                cases e5
                obtain ⟨b, off, oa, oc, rfl, hr, k0, k1, k2⟩ := hcl i t ht
                have hiI : (i : Int) < (ts.length : Int) := by omega
                have wi1 : IntKind.i64.wrap ((i : Int) + 1) = ((i + 1 : Nat) : Int) := by rw [IntWalk.i64_in _ (by omega)]; omega
                obtain ⟨x, hx⟩ := some_at (l := L) (k := i) (by rw [HLL.out]; exact hil)
                have HX := Lib.hid (show BoolB wi w2.heap.size L from HLq.out.frame (HBi.out.block _ (by omega)))
                have HXX := Lib.hid hx
                have HN := Lib.hid (wantL_succ ts L key i)
                rw [hx, wrOf_at ht] at HN
                have HRO := Lib.hid hr
                have hopl := ((HG.out.txn t (List.mem_of_getElem? ht)).2.2)
                obtain ⟨oal, ol2, ocl, e8, _, hom, -⟩ := hr.at
                cases e8
                clear hcl hr ht hx
                go_upto_region 25 with fail
                clear k0 k1 k2
                go_wp2_with fail
                go_loopw [19, 21, 97] (fun fv _ n wr => ∃ (j : Nat) (fb : Bool), j ≤ t.ops.length ∧ n = .int .i64 j ∧ fv = .bool fb ∧ Hid ((t.ops.take j).any (hitK key) = fb ∧ Below wi.heap.size wi wr)) (fun _ _ n _ => t.ops.length - (intOf n).toNat)
                case atStart => exact ⟨0, false, Nat.zero_le _, rfl, rfl, Lib.hid ⟨rfl, Below.refl _ _⟩⟩
                case round =>
                  obtain ⟨wj, rfl⟩ : ∃ wk : World, wk = wr := ⟨_, rfl⟩
                  obtain ⟨j, fb, hj, rfl, rfl, HJ⟩ := hrel
                  have HFB := Lib.hid HJ.out.1
                  have HBj := Lib.hid HJ.out.2
                  clear HJ
                  by_cases hjl : j < t.ops.length
                  · obtain ⟨o, ho⟩ := some_at hjl
                    obtain ⟨_, _, _, e5, -, -, hcl⟩ := (HRO.out.later HBj.out).at
                    cases e5
                    obtain ⟨ob, oo, rfl, o0, o1, o2⟩ := hcl j o ho
                    have hjI : (j : Int) < (t.ops.length : Int) := by omega
                    have wj1 : IntKind.i64.wrap ((j : Int) + 1) = ((j + 1 : Nat) : Int) := by rw [IntWalk.i64_in _ (by omega)]; omega
                    have HA := Lib.hid (any_hit (key : Int) ho)
                    rw [HFB.out] at HA
                    have HXo := Lib.hid (alloc_at wj (.cells #[vi o.kind, vi o.key, vi o.val] 56))
                    have HBo := Lib.hid (HBj.out.alloc HBj.out.size (.cells #[vi o.kind, vi o.key, vi o.val] 56))
                    have hwo : (wj.alloc (.cells #[vi o.kind, vi o.key, vi o.val] 56)).heap.size = wj.heap.size + 1 := by simp
                    clear hcl ho
                    go_upto_region 27 with fail
                    clear o0 o1 o2
                    generalize wj.alloc (.cells #[vi o.kind, vi o.key, vi o.val] 56) = wo at *
                    have q0 : wo.cell? ⟨wj.heap.size, 0, none⟩ = some (vi o.kind) := by rw [cell_of HXo.out]; rfl
                    have q1 : wo.cell? ⟨wj.heap.size, 1, none⟩ = some (vi o.key) := by rw [cell_of HXo.out]; rfl
                    cases fb with
                    | true =>
                      go_wp2_with fail
                      exact ⟨⟨j + 1, true, by omega, rfl, rfl, Lib.hid ⟨by rw [HA.out]; rfl, HBo.out⟩⟩, by simp only [intOf]; omega⟩
                    | false =>
                      cases hk2 : (o.kind == 2) with
                      | false =>
                        have HH := Lib.hid (show hitK key o = false by unfold hitK; rw [hk2]; rfl)
                        go_wp2_with fail
                        exact ⟨⟨j + 1, false, by omega, rfl, rfl, Lib.hid ⟨by rw [HA.out, HH.out]; rfl, HBo.out⟩⟩, by simp only [intOf]; omega⟩
                      | true =>
                        cases hky : (o.key == (key : Int)) with
                        | false =>
                          have HH := Lib.hid (show hitK key o = false by unfold hitK; rw [hky]; simp)
                          go_wp2_with fail
                          exact ⟨⟨j + 1, false, by omega, rfl, rfl, Lib.hid ⟨by rw [HA.out, HH.out]; rfl, HBo.out⟩⟩, by simp only [intOf]; omega⟩
                        | true =>
                          have HH := Lib.hid (show hitK key o = true by unfold hitK; rw [hk2, hky]; rfl)
                          go_wp2_with fail
                          exact ⟨⟨j + 1, true, by omega, rfl, rfl, Lib.hid ⟨by rw [HA.out, HH.out]; rfl, HBo.out⟩⟩, by simp only [intOf]; omega⟩
                  · obtain rfl : j = t.ops.length := by omega
                    have HWK := Lib.hid (show writesK t key = fb by unfold writesK; rw [← HFB.out, List.take_length])
                    rw [HWK.out] at HN
                    have HBij := Lib.hid (HBi.out.trans (HBj.out.mono hbi))
                    have c0 := (show BoolB wj w2.heap.size L from HX.out.frame (HBj.out.block _ (by omega))).at HXX.out
                    have HLj := Lib.hid (own_below HLO.out HBj.out)
                    clear HRO HFB
                    cases x with
                    | false =>
                      have HIF := Lib.hid (show wantL ts L key (i + 1) = wantL ts L key i by rw [HN.out]; simp)
                      go_wp2_with fail
                      exact ⟨⟨i + 1, l, lg, lc, by omega, rfl, rfl, Lib.hid ⟨HLj.out, by rw [HIF.out]; exact HLP.out, HBij.out⟩⟩, by simp only [intOf]; omega⟩
                    | true =>
                      cases fb with
                      | false =>
                        have HIF := Lib.hid (show wantL ts L key (i + 1) = wantL ts L key i by rw [HN.out]; simp)
                        go_wp2_with fail
                        exact ⟨⟨i + 1, l, lg, lc, by omega, rfl, rfl, Lib.hid ⟨HLj.out, by rw [HIF.out]; exact HLP.out, HBij.out⟩⟩, by simp only [intOf]; omega⟩
                      | true =>
                        have HIF := Lib.hid (show wantL ts L key (i + 1) = wantL ts L key i ++ [(i : Int)] by rw [HN.out]; simp)
                        have HTj := Lib.hid (HTq.out.later HBij.out)
                        clear HN
                        go_upto_if 123 with fail
                        clear c0
                        go_cut [22] (fun pv wx => (∃ p : Nat, p ≤ l.length ∧ pv = vi p) ∧ wx = wj)
                        case first =>
                          by_cases ht0 : 0 < turns.length
                          · have htI : (0 : Int) < (turns.length : Int) := by omega
                            obtain ⟨q, hqq⟩ : ∃ q, (i + key) % turns.length = q := ⟨_, rfl⟩
                            have hq : q < turns.length := by rw [← hqq]; exact Nat.mod_lt _ ht0
                            have wik : IntKind.i64.wrap ((i : Int) + (key : Int)) = (i : Int) + (key : Int) := IntWalk.i64_in _ (by omega)
                            have ftm : Int.tmod ((i : Int) + (key : Int)) (turns.length : Int) = (q : Int) := by
                              rw [← hqq, Int.tmod_eq_emod_of_nonneg (by omega)]
                              first | exact_mod_cast rfl | simp | (rw [Int.natCast_emod, Int.natCast_add])
                            obtain ⟨z, hz⟩ := some_at hq
                            obtain ⟨_, _, _, e5, -, -, htl2⟩ := HTj.out.at
                            cases e5
                            obtain ⟨tb, tof, rfl, z0, hzi⟩ := htl2 q z hz
                            have hqI : (q : Int) < (turns.length : Int) := by omega
                            have hne0 : ¬ (turns.length : Int) = 0 := by omega
                            have wl1 : IntKind.i64.wrap ((l.length : Int) + 1) = (l.length : Int) + 1 := IntWalk.i64_in _ (by omega)
                            clear htl2 hz hqq
                            obtain ⟨m, hm, hm2⟩ := and1023 z
                            have hp1 : (bits BinOp.and IntKind.i64 z 1023).tmod ((l.length : Int) + 1) = ((m % (l.length + 1) : Nat) : Int) := by
                              rw [hm, Int.tmod_eq_emod_of_nonneg (by omega)]
                              first | exact_mod_cast rfl | simp
                            have HP1 := Lib.hid hp1
                            clear hp1 hm hm2
                            go_wp2_with fail
                            go_meet
                            exact ⟨⟨m % (l.length + 1), by have := Nat.mod_lt m (show 0 < l.length + 1 by omega); omega, by rw [HP1.out]⟩, rfl⟩
                          · have htI : ¬ (0 : Int) < (turns.length : Int) := by omega
                            go_wp2_with fail
                            go_meet
                            exact ⟨⟨0, Nat.zero_le _, rfl⟩, rfl⟩
                        case rest =>
                          obtain ⟨⟨p, hp, rfl⟩, hwx⟩ := hcut
                          replace hwx := hwx.symm
                          subst hwx
                          have hli : ∀ x ∈ l, i64 x := fun x hx => by
                            obtain ⟨i', h1, rfl, _⟩ := wantL_mem.1 (HLP.out.mem_iff.1 hx)
                            unfold i64; omega
                          have HLR := Lib.hid (OwI.rdY HLj.out hli)
                          have HLI := Lib.hid hli
                          clear hli
                          go_upto_region 33 with fail
                          have hlc : l.length ≤ lc := by
                            obtain ⟨_, _, _, h1, _, _, hlc, _⟩ := HLR.out
                            cases h1
                            exact hlc
                          obtain ⟨a2, n2, c2, hsl⟩ := slicedY (some ⟨lg, 0, none⟩) p l.length lc 1
                          have hn2 : n2 = l.length - p := by unfold sliced at hsl; cases hsl; rfl
                          have hdr : ∀ W, (Instr.slice 23 (.slice (some ⟨lg, 0, none⟩) l.length lc) (some (.int .i64 p)) none none).run Try.prog W = .ok (.slice a2 n2 c2) W := fun W => by
                            have h1 := run_dropY (b := lg) (off := 0) (n := l.length) (c := lc) (k := p) hp W
                            rw [hsl] at h1
                            exact h1
                          have htk : ∀ W, (Instr.slice 23 (.slice (some ⟨lg, 0, none⟩) l.length lc) none (some (.int .i64 p)) none).run Try.prog W = .ok (.slice (some ⟨lg, 0, none⟩) p lc) W := run_takeY (by omega)
                          have hs1 := (HLR.out.takeY p hp).src
                          have hs2 := (HLR.out.dropY p hp).src
                          rw [hsl] at hs2
                          have hl1 : (l.take p).length = p := by simp; omega
                          have hl2 : (l.drop p).length = n2 := by rw [hn2]; simp
                          rw [hl1] at hs1
                          rw [hl2] at hs2
                          have HL1 := Lib.hid hl1
                          have HL2 := Lib.hid hl2
                          have hwd : wj.drew.heap.size = wj.heap.size := rfl
                          have HBD := Lib.hid ((Below.refl wj.heap.size wj).drew)
                          have HBA1 := Lib.hid (HBD.out.alloc (Nat.le_refl _) (.cells #[] 3))
                          have HBB1 := Lib.hid (HBA1.out.alloc (by simp) (.cells #[vi i] 3))
                          have HBC0 := Lib.hid (HBD.out.alloc (Nat.le_refl _) (.cells #[vi i] 3))
                          have HBC1 := Lib.hid (HBC0.out.alloc (by simp) (.cells #[] 3))
                          have HOA := Lib.hid (World.ownsRow_lit (base := wj.heap.size) (e := 3) (size := 1) wj.drew #[] 0 (Nat.le_refl _) (by simp [maxLen]) rfl)
                          have HOB := Lib.hid (World.ownsRow.alloc HOA.out (.cells #[vi i] 3))
                          have HOC := Lib.hid (show ((wj.drew.alloc (.cells #[vi i] 3)).alloc (.cells #[] 3)).ownsRow wj.heap.size 3 1 (.slice (some ⟨wj.heap.size + 1, 0, none⟩) 0 0) 0 [] from by
                            have h := World.ownsRow_lit (base := wj.heap.size) (e := 3) (size := 1) (wj.drew.alloc (.cells #[vi i] 3)) #[] 0 (by simp) (by simp [maxLen]) rfl
                            rw [show (wj.drew.alloc (.cells #[vi i] 3)).heap.size = wj.heap.size + 1 by simp] at h
                            exact h)
                          have HSA := Lib.hid (hs1.below HBA1.out)
                          have HSB := Lib.hid (hs1.below HBB1.out)
                          have HSC := Lib.hid (hs1.below HBC1.out)
                          have HS2 := Lib.hid hs2
                          have HIB := Lib.hid (show ((wj.drew.alloc (.cells #[] 3)).alloc (.cells #[vi i] 3)).heap[wj.heap.size + 1]? = some (.cells #[vi i] 3) from by
                            have h := alloc_at (wj.drew.alloc (.cells #[] 3)) (.cells #[vi i] 3)
                            rw [show (wj.drew.alloc (.cells #[] 3)).heap.size = wj.heap.size + 1 by simp] at h
                            exact h)
                          have HIC := Lib.hid (show ((wj.drew.alloc (.cells #[vi i] 3)).alloc (.cells #[] 3)).heap[wj.heap.size]? = some (.cells #[vi i] 3) from (Below.heap_alloc _ _ _ (by simp)).trans (alloc_at wj.drew _))
                          have hp60 : p ≤ 60 := by omega
                          have hn60 : n2 ≤ 60 := by omega
                          have HN2 := Lib.hid hn2
                          clear hsl hs1 hs2 hl1 hl2 hn2
                          go_region_law (first
                            | (refine step_append_src rfl _ _ 23 rfl eltI wj.heap.size (0 + p + 1) _ HRB.out rfl n2 ((l.drop p).flatMap viC) (HS2.out.below HBB.out) rfl (viY_one _) (by omega) (by omega) HBB.out.size ?_; intro v7 w7 hr7 hg7 _; have HR7 := Lib.hid hr7; have HB7 := Lib.hid (HBB.out.grown hg7 HBB.out.size (fun z hz => (World.ownsRow.lt HRB.out z hz).1)); clear hr7 hg7)
                            | (refine step_append_src rfl _ _ 23 rfl eltI wj.heap.size (0 + p) _ HRA.out rfl 1 (viC i) (src_oneY HSX.out) rfl (viC_oneY _) (by omega) (by omega) HBA.out.size ?_; intro vB wB hrB hgB _; have HRB := Lib.hid hrB; have HBB := Lib.hid (HBA.out.grown hgB HBA.out.size (fun z hz => (World.ownsRow.lt HRA.out z hz).1)); clear hrB hgB)
                            | (refine step_append_src rfl _ _ 23 rfl eltI wj.heap.size (0 + p) _ (World.ownsRow.alloc HRA.out _) rfl 1 (viC i) (src_new (cs := #[vi i]) rfl rfl) rfl (viC_oneY _) (by omega) (by omega) (by have := HBA.out.size; simp; omega) ?_; intro vB wB hrB hgB _; have HRB := Lib.hid hrB; have HBB := Lib.hid ((HBA.out.alloc HBA.out.size _).grown hgB (by have := HBA.out.size; simp; omega) (fun z hz => (World.ownsRow.lt HRA.out z hz).1)); clear hrB hgB)
                            | (refine step_append_src rfl _ _ 23 rfl eltI wj.heap.size 0 [] HOA.out rfl p ((l.take p).flatMap viC) HSA.out rfl (viY_one _) (by omega) (by omega) (by first | (simp; done) | (simp; omega)) ?_; intro vA wA hrA hgA _; have HRA := Lib.hid hrA; have HBA := Lib.hid (HBA1.out.grown hgA (by first | (simp; done) | (simp; omega)) (fun z hz => (World.ownsRow.lt HOA.out z hz).1)); clear hrA hgA)
                            | (refine step_append_src rfl _ _ 23 rfl eltI wj.heap.size 0 [] HOB.out rfl p ((l.take p).flatMap viC) HSB.out rfl (viY_one _) (by omega) (by omega) (by first | (simp; done) | (simp; omega)) ?_; intro vA wA hrA hgA _; have HRA := Lib.hid hrA; have HBA := Lib.hid (HBB1.out.grown hgA (by first | (simp; done) | (simp; omega)) (fun z hz => (World.ownsRow.lt HOB.out z hz).1)); have HSX := Lib.hid ((hgA.block _ (Array.getElem?_eq_some_iff.1 HIB.out).1 (fun e => by simp [Value.ownBlock] at e)).trans HIB.out); clear hrA hgA)
                            | (refine step_append_src rfl _ _ 23 rfl eltI wj.heap.size 0 [] HOC.out rfl p ((l.take p).flatMap viC) HSC.out rfl (viY_one _) (by omega) (by omega) (by first | (simp; done) | (simp; omega)) ?_; intro vA wA hrA hgA _; have HRA := Lib.hid hrA; have HBA := Lib.hid (HBC1.out.grown hgA (by first | (simp; done) | (simp; omega)) (fun z hz => (World.ownsRow.lt HOC.out z hz).1)); have HSX := Lib.hid ((hgA.block _ (Array.getElem?_eq_some_iff.1 HIC.out).1 (fun e => by simp [Value.ownBlock] at e)).trans HIC.out); clear hrA hgA))
                          all_goals
                            have HRR := Lib.hid (show OwI wj.heap.size w7 v7 (l.take p ++ (i : Int) :: l.drop p) from by
                              have h1 := HR7.out
                              unfold OwI
                              have h2 : (l.take p ++ (i : Int) :: l.drop p).length = 0 + p + 1 + n2 := by rw [List.length_append, List.length_cons, HL1.out, HL2.out]; omega
                              rw [h2]
                              simpa [viC] using h1)
                            obtain ⟨a7, c7, rfl, h7⟩ := own_shapeY HR7.out
                            obtain ⟨g7, rfl, hg7⟩ := h7 (by omega)
                            have hpm : (l.take p ++ (i : Int) :: l.drop p).Perm (wantL ts L key (i + 1)) := by
                              rw [HIF.out]
                              refine List.Perm.trans ?_ (HLP.out.append_right [(i : Int)])
                              have h1 : l ++ [(i : Int)] = l.take p ++ (l.drop p ++ [(i : Int)]) := by rw [← List.append_assoc, List.take_append_drop]
                              rw [h1]
                              exact List.Perm.append_left _ (List.perm_append_comm (l₁ := [(i : Int)]))
                            have hlen : 0 + p + 1 + n2 = (l.take p ++ (i : Int) :: l.drop p).length := by rw [List.length_append, List.length_cons, HL1.out, HL2.out]; omega
                            have HPM := Lib.hid hpm
                            have HLEN := Lib.hid hlen
                            clear hpm hlen
                            go_wp2_with fail
                            refine ⟨⟨i + 1, l.take p ++ (i : Int) :: l.drop p, g7, c7, by omega, rfl, by rw [← HLEN.out, Nat.zero_add], Lib.hid ?_⟩, ?_⟩
                            · refine ⟨?_, HPM.out, HBij.out.trans (HB7.out.mono HBij.out.size)⟩
                              have h3 := own_mono HRR.out (b' := wq.heap.size) HBij.out.size
                              rw [HLEN.out] at h3
                              exact h3
                            · simp only [intOf]; omega
              · obtain rfl : i = ts.length := by omega
                have HMi := Lib.hid (HMq.out.below HBi.out (by omega))
                have HOPi := Lib.hid (HOP.out.below HBi.out)
                go_wp2_with (at_mapUpdate; refine wpList_mapUpdate_T (b := wk.heap.size) (eK := vi) (eV := fun x : Value × List Int => x.1) rfl _ _ _ rfl intKeyed vi_inj Try.underlying51 HMi.out rfl (key : Int) (intKey (by unfold i64; omega)) rfl ((.slice (some ⟨lg, 0, none⟩) l.length lc, l) : Value × List Int) rfl ?_; intro w9 hM9 hg9)
                have hb9 : Below wk.heap.size wk w9 := (HBq.out.trans (HBi.out.mono hbq)).grown hg9 (HBq.out.trans (HBi.out.mono hbq)).size (fun j hj => by cases hj; exact Nat.le_refl _)
                have hop := HOPi.out.next HMi.out hg9 HLO.out HLP.out
                refine ⟨⟨key + 1, putM O (key : Int) (.slice (some ⟨lg, 0, none⟩) l.length lc, l), by omega, rfl, Lib.hid ?_⟩, ?_⟩
                · exact ⟨hM9, hop, hb9⟩
                · simp only [intOf]; omega
          · obtain rfl : key = 16 := by omega
            have HLq := Lib.hid (show BoolB wq w2.heap.size L from HBL.out.frame (HBq.out.block _ hdb))
            have HRq := Lib.hid (HRk.out.later HBq.out)
            have HBz := Lib.hid (HBw.out.trans (HBq.out.mono HBw.out.size))
            have HGK := Lib.hid HOP.out.good
            have HOA := Lib.hid (HOP.out.at htl)
            have HFX := Lib.hid (fix_call _ ts w2.heap.size wk.heap.size L O wq HRq.out HOK.out (by omega) HLq.out HLL.out HMq.out HOA.out (fun F hF i hi => by rw [isM_mine HG.out HMO2.out hF hi]))
            have hwk0 : w.heap.size ≤ wk.heap.size := HBw.out.size
            clear HTk HBw
            go_upto_region 37 with (go_at_call 19; refine HFX.out.mono ?_; rintro e w5 ⟨r, b, rfl, hbi, hbt, hb5⟩; obtain rfl : b = true := hbi.2 HGK.out; obtain ⟨m, F, rfl, hM, hF, hP⟩ := hbt rfl; have HMF := Lib.hid hM; have HF := Lib.hid hF; have HP := Lib.hid hP; have HB5 := Lib.hid hb5; clear hbi hbt hM hF hP hb5)
            have HR5 := Lib.hid (HRq.out.later HB5.out)
            have HL5 := Lib.hid (show BoolB w5 w2.heap.size L from HLq.out.frame (HB5.out.block _ (by omega)))
            have HM5 := Lib.hid (HMq.out.below HB5.out hmq)
            have HOP5 := Lib.hid (HOP.out.below HB5.out)
            have HBz5 := Lib.hid (HBz.out.trans (HB5.out.mono HBz.out.size))
            have hdb5 : w2.heap.size < w5.heap.size := by have := HB5.out.size; omega
            clear HFX
            go_wp2_with fail
            go_loopw [24, 25, 26, 165] (fun _ _ _ n wr => ∃ i : Nat, i ≤ ts.length ∧ n = .int .i64 i ∧ Below w5.heap.size w5 wr) (fun _ _ _ n _ => ts.length - (intOf n).toNat)
            case atStart => exact ⟨0, Nat.zero_le _, rfl, Below.refl _ _⟩
            case round =>
              obtain ⟨wi, rfl⟩ : ∃ wk : World, wk = wr := ⟨_, rfl⟩
              obtain ⟨i, hi, rfl, hb⟩ := hrel
              have HBi := Lib.hid hb
              clear hb
              by_cases hil : i < ts.length
              · obtain ⟨x, hx⟩ := some_at (l := L) (k := i) (by rw [HLL.out]; exact hil)
                have HX := Lib.hid hx
                have hiI : (i : Int) < (ts.length : Int) := by omega
                have wi1 : IntKind.i64.wrap ((i : Int) + 1) = ((i + 1 : Nat) : Int) := by rw [IntWalk.i64_in _ (by omega)]; omega
                have him := isM_mine HG.out HMO2.out HF.out hil
                rw [hx] at him
                have HI := Lib.hid (Is_call _ ts m F i wi (HR5.out.later HBi.out) HOK.out (by omega) (HMF.out.below HBi.out HMF.out.lt) hil)
                rw [him] at HI
                clear hx him
                go_upto_region 43 with (go_at_call 18; refine HI.out.mono ?_; rintro e w6 ⟨rfl, hb6⟩)
                have HB6 := Lib.hid (HBi.out.trans (hb6.mono HBi.out.size))
                have c0 := (show BoolB w6 w2.heap.size L from HL5.out.frame (HB6.out.block _ hdb5)).at HX.out
                clear hb6
                simp only [Option.getD_some] at *
                cases x with
                | false =>
                  go_wp2_with fail
                  exact ⟨⟨i + 1, by omega, rfl, HB6.out⟩, by simp only [intOf]; omega⟩
                | true =>
                  go_wp2_with fail
                  exact ⟨⟨i + 1, by omega, rfl, HB6.out⟩, by simp only [intOf]; omega⟩
              · obtain rfl : i = ts.length := by omega
                have HRi := Lib.hid (HR5.out.later HBi.out)
                have HMi := Lib.hid (HM5.out.below HBi.out (by have := HB5.out.size; omega))
                have HMFi := Lib.hid (HMF.out.below HBi.out HMF.out.lt)
                have HOPi := Lib.hid (HOP5.out.below HBi.out)
                have HLi := Lib.hid (show BoolB wi w2.heap.size L from HL5.out.frame (HBi.out.block _ hdb5))
                have HBzi := Lib.hid (HBz5.out.trans (HBi.out.mono HBz5.out.size))
                have hbi2 := HBi.out.size
                have HBki := Lib.hid (HBq.out.trans ((HB5.out.trans (HBi.out.mono HB5.out.size)).mono hbq))
                clear HBi HR5 HM5 HMF HOP5 HL5 HBz5
                go_wp2_with fail
                go_loopw [27, 28, 29] (fun kv _ _ wr => ∃ k : Nat, k ≤ 16 ∧ kv = .int .i64 k ∧ Below wi.heap.size wi wr) (fun kv _ _ _ => 16 - (intOf kv).toNat)
                case atStart => exact ⟨0, by omega, rfl, Below.refl _ _⟩
                case round =>
                  obtain ⟨wy, rfl⟩ : ∃ wk : World, wk = wr := ⟨_, rfl⟩
                  obtain ⟨k, hk6, rfl, hb⟩ := hrel
                  have HBy := Lib.hid hb
                  have HRy := Lib.hid (HRi.out.later hb)
                  have HMFy := Lib.hid (HMFi.out.below hb HMFi.out.lt)
                  clear hb
                  by_cases hk16 : k < 16
                  · have k16 : (k : Int) < 16 := by omega
                    have wk1 : IntKind.i64.wrap ((k : Int) + 1) = ((k + 1 : Nat) : Int) := by rw [IntWalk.i64_in _ (by omega)]; omega
                    obtain ⟨v', l', h1, h2, h3⟩ := HOPi.out k hk16
                    have hP := HP.out k hk16
                    rw [ordL_of h1] at hP
                    obtain ⟨ho1, ho2⟩ := chain_fixed HG.out HMO2.out HF.out h3 hP
                    have HCC := Lib.hid (chain_call _ ts m F k wy HRy.out HOK.out (by omega) HMFy.out (by unfold i64; omega))
                    have HUQ := Lib.hid ho2
                    have HH1 := Lib.hid h1
                    have HIL := Lib.hid (show ∀ x ∈ l', i64 x from fun x hx => by
                      obtain ⟨i, h4, rfl, _⟩ := wantL_mem.1 (h3.mem_iff.1 hx)
                      unfold i64; omega)
                    have HRV := Lib.hid (OwI.rdY h2 HIL.out)
                    obtain ⟨va', vc', rfl, -⟩ := own_shapeY h2
                    unfold ChainQ at HCC
                    rw [ho1] at HCC
                    clear h1 h2 h3 hP ho1 ho2
                    go_upto_region 50 with (go_at_call 11; refine HCC.out.mono ?_; rintro e w7 ⟨v7, E, rfl, ho7, hb7, hE, -⟩; obtain rfl := HUQ.out E (hE rfl).1 (hE rfl).2; have HB7 := Lib.hid (HBy.out.trans (hb7.mono HBy.out.size)); have HO7 := Lib.hid ho7; clear hb7 ho7 hE)
                    have hlk := lookup_ord (HMi.out.below HB7.out (by have := HB5.out.size; omega)) k hk16 HH1.out
                    have HSC := Lib.hid (same07_call _ _ _ _ w7 (OwI.rdY HO7.out HIL.out) (HRV.out.later HB7.out))
                    simp only [decide_true] at HSC
                    go_wp2_with (go_at_call 20; refine HSC.out.mono ?_; rintro e w8 ⟨rfl, hb8⟩)
                    exact ⟨⟨k + 1, by omega, rfl, HB7.out.trans (hb8.mono HB7.out.size)⟩, by simp only [intOf]; omega⟩
                  · obtain rfl : k = 16 := by omega
                    have hnx := next_fixed HG.out HMO2.out HF.out (ord := ordL O) (fun key hk => by
                      obtain ⟨v', l', h1, h2, h3⟩ := HOPi.out key hk
                      rw [ordL_of h1]; exact h3) HP.out
                    obtain ⟨c, hcz⟩ : ∃ c, c = zeroC := ⟨_, rfl⟩
                    have HCV := Lib.hid (show ∀ (W : World) (e : Ending) (W' : World), NextQ (nextM ts F) W e W' → e = .returned (.tuple #[chK c, .bool false]) ∧ Below W.heap.size W W' from fun W e W' h => by rw [hnx] at h; rw [hcz]; exact h)
                    clear hnx hcz
                    go_upto_region 55 with (go_at_call 16; refine (next_call _ ts m F _ HRy.out HOK.out (by omega) HMFy.out).mono ?_; intro e w9 hq; obtain ⟨rfl, hb9⟩ := HCV.out _ _ _ hq; have HB9 := Lib.hid hb9; clear hq hb9)
                    have HBo := Lib.hid ((HBy.out.trans (HB9.out.mono HBy.out.size)).alloc (HBy.out.trans (HB9.out.mono HBy.out.size)).size (.cells #[vi c.kind, vi c.key, vi c.a, vi c.b] 43))
                    generalize w9.alloc (.cells #[vi c.kind, vi c.key, vi c.a, vi c.b] 43) = wo at *
                    clear HB9 HCV HBy HRy HMFy
                    have hbo := HBo.out.size
                    obtain ⟨kk, hkk, hk15⟩ := and15 spoil
                    have hwkl : wk.heap.size < wi.heap.size := by have := HB5.out.size; omega
                    have HMo := Lib.hid (HMi.out.below HBo.out hwkl)
                    have HOPo := Lib.hid (HOPi.out.below HBo.out)
                    have HRo := Lib.hid (HRi.out.later HBo.out)
                    have HLo := Lib.hid (show BoolB wo w2.heap.size L from HLi.out.frame (HBo.out.block _ HLi.out.lt))
                    have HBzo := Lib.hid (HBzi.out.trans (HBo.out.mono HBzi.out.size))
                    obtain ⟨v', l', h1, h2, h3⟩ := HOPo.out kk (by omega)
                    have HIL := Lib.hid (show ∀ x ∈ l', i64 x from fun x hx => by
                      obtain ⟨i, h4, rfl, _⟩ := wantL_mem.1 (h3.mem_iff.1 hx)
                      unfold i64; omega)
                    have hl60 : l'.length ≤ 60 := by rw [h3.length_eq]; exact Nat.le_trans (wantL_le _ _ _ _) htl
                    have HRV := Lib.hid (OwI.rdY h2 HIL.out)
                    obtain ⟨va', vc', rfl, -⟩ := own_shapeY h2
                    have HPM := Lib.hid h3
                    have hlk := fun (o : Obj) => lookup_ord (HMo.out.frame (Below.heap_alloc wo o _ HMo.out.lt)) kk (by omega) h1
                    have HOe := Lib.hid (World.ownsRow_lit (base := wo.heap.size) (e := 3) (size := 1) wo #[] 0 (Nat.le_refl _) (by simp [maxLen]) rfl)
                    have HBe := Lib.hid ((Below.refl wo.heap.size wo).alloc (Nat.le_refl _) (.cells #[] 3))
                    have HSe := Lib.hid ((HRV.out.later HBe.out).src)
                    clear h1 h2 h3
                    go_upto_region 56 with fail
                    obtain ⟨x7, hx7, h7⟩ := and7 (spoil / 16)
                    have HM1 := Lib.hid (fun (W : World) (hb : Below wo.heap.size wo W) => show MapO W wk.heap.size O from HMo.out.below hb HMo.out.lt)
                    have hmo := HMo.out.lt
                    go_upto_region 57 with (first
                      | (at_mapUpdate; refine wpList_mapUpdate_T (b := wk.heap.size) (eK := vi) (eV := fun x : Value × List Int => x.1) rfl _ _ _ rfl intKeyed vi_inj Try.underlying51 (HM1.out _ HBB.out) rfl (kk : Int) (intKey (by unfold i64; omega)) rfl ((.slice aB (0 + l'.length + 1) cB, l' ++ [(x7 : Int)]) : Value × List Int) rfl ?_; intro wM hMM hgM; have HMM := Lib.hid hMM; have HGM := Lib.hid hgM; clear hMM hgM)
                      | (at_builtin; refine wpList_append_src rfl _ _ 23 rfl eltI wo.heap.size (0 + l'.length) ([] ++ l'.flatMap viC) (World.ownsRow.alloc HRA.out _) rfl 1 (viC (x7 : Int)) (src_new (cs := #[vi x7]) rfl rfl) rfl (viC_oneY _) (by omega) (by omega) (by have := HBA.out.size; simp; omega) ?_; intro vB wB hrB hgB _; have HRB := Lib.hid hrB; have HBB := Lib.hid ((HBA.out.alloc HBA.out.size _).grown hgB (by have := HBA.out.size; simp; omega) (fun z hz => (World.ownsRow.lt HRA.out z hz).1)); obtain ⟨aB, cB, rfl, -⟩ := own_shapeY hrB; clear hrB hgB)
                      | (at_builtin; refine wpList_append_src rfl _ _ 23 rfl eltI wo.heap.size 0 [] HOe.out rfl l'.length (l'.flatMap viC) HSe.out rfl (viY_one _) (by omega) (by omega) (by simp) ?_; intro vA wA hrA hgA _; have HRA := Lib.hid hrA; have HBA := Lib.hid (HBe.out.grown hgA (by simp) (fun z hz => (World.ownsRow.lt HOe.out z hz).1)); clear hrA hgA))
                    have HBkB := Lib.hid ((HBki.out.trans (HBo.out.mono HBki.out.size)).trans (HBB.out.mono (HBki.out.trans (HBo.out.mono HBki.out.size)).size))
                    have HBkM := Lib.hid (HBkB.out.grown HGM.out HBkB.out.size (fun j hj => by cases hj; exact Nat.le_refl _))
                    have HRM := Lib.hid (HRk.out.later HBkM.out)
                    have HLM := Lib.hid (show BoolB wM w2.heap.size L from HBL.out.frame (HBkM.out.block _ hdb))
                    have HBwM := Lib.hid ((HBzo.out.trans (HBB.out.mono HBzo.out.size)).grown HGM.out (HBzo.out.trans (HBB.out.mono HBzo.out.size)).size (fun j hj => by cases hj; exact hwk0))
                    have HRZ := Lib.hid (World.ownsRow.kept HRB.out HGM.out (.inr (fun e => map_apartO HRB.out (HM1.out _ HBB.out) e.symm)))
                    have hOA2 : OrdAt wM (putM O (kk : Int) (.slice aB (0 + l'.length + 1) cB, l' ++ [(x7 : Int)])) := fun key hk => by
                      by_cases he : key = kk
                      · subst he
                        refine ⟨_, _, by rw [getM_put, if_pos rfl], OwI.rdY (base := wo.heap.size) (by
                          have h := HRZ.out
                          unfold OwI
                          have e1 : (l' ++ [(x7 : Int)]).length = 0 + l'.length + 1 := by simp
                          rw [e1]
                          simpa [viC] using h) (fun x hx => ?_), by simp; omega⟩
                        rcases List.mem_append.1 hx with h | h
                        · exact HIL.out x h
                        · simp at h; subst h; unfold i64; omega
                      · obtain ⟨v3, l3, g1, g2, g3⟩ := HOPo.out key hk
                        have g4 := own_below g2 HBB.out
                        refine ⟨v3, l3, by rw [getM_put, if_neg (by omega)]; exact g1, OwI.rdY (World.ownsRow.kept g4 HGM.out (.inr (fun e => map_apartO g4 (HM1.out _ HBB.out) e.symm))) (fun x hx => ?_), by rw [g3.length_eq]; exact Nat.le_trans (wantL_le _ _ _ _) (by omega)⟩
                        obtain ⟨i, h4, rfl, _⟩ := wantL_mem.1 (g3.mem_iff.1 hx)
                        unfold i64; omega
                    have HNG := Lib.hid (show ¬ GoodK ts L (putM O (kk : Int) (.slice aB (0 + l'.length + 1) cB, l' ++ [(x7 : Int)])) 16 from fun h => by
                      have h1 := h kk (by omega)
                      rw [ordL_of (p := (.slice aB (0 + l'.length + 1) cB, l' ++ [(x7 : Int)])) (by rw [getM_put, if_pos rfl])] at h1
                      have h2 := congrArg List.length h1
                      rw [(srt_perm _).length_eq, ← HPM.out.length_eq] at h2
                      simp at h2)
                    have HFX := Lib.hid (fix_call _ ts w2.heap.size wk.heap.size L _ wM HRM.out HOK.out (by omega) HLM.out HLL.out HMM.out hOA2 (fun F hF i hi => by rw [isM_mine HG.out HMO2.out hF hi]))
                    clear hOA2
                    go_upto_region 58 with (go_at_call 19; refine HFX.out.mono ?_; rintro e wX ⟨r, b, rfl, hbi, -, hbX⟩; obtain rfl := no_true hbi HNG.out; have HBX := Lib.hid hbX; clear hbi hbX)
                    have HLX := Lib.hid (show BoolB wX w2.heap.size L from HLM.out.frame (HBX.out.block _ HLM.out.lt))
                    have HOt := Lib.hid (World.ownsRow_lit (base := wX.heap.size) (e := 4) (size := 1) wX #[.bool true] 1 (Nat.le_refl _) (by simp [maxLen]) rfl)
                    have HBt := Lib.hid ((Below.refl wX.heap.size wX).alloc (Nat.le_refl _) (.cells #[.bool true] 4))
                    have hst := (own_src (BoolB.own HLX.out (by rw [HLL.out]; omega))).below HBt.out
                    rw [HLL.out] at hst
                    have HSt := Lib.hid hst
                    clear hst
                    go_wp2_with (first
                      | (go_at_call 19; refine (fix_short _ _ ts.length aT cT (1 + ts.length) _ _ (by omega) (by omega) (by omega)).mono ?_; rintro e wY ⟨rfl, hwY⟩; replace hwY := hwY.symm; subst hwY)
                      | (at_builtin; refine wpList_append_src rfl _ _ 50 rfl eltBool wX.heap.size 1 [.bool true] HOt.out rfl ts.length (L.flatMap bV) HSt.out rfl (by intro q hq; obtain ⟨x, _, hx⟩ := List.mem_flatMap.1 hq; simp [bV] at hx; subst hx; rfl) (by omega) (by omega) (by simp) ?_; intro vT wT hrT hgT _; have HBT := Lib.hid (HBt.out.grown hgT (by simp) (fun z hz => (World.ownsRow.lt HOt.out z hz).1)); obtain ⟨aT, cT, rfl, -⟩ := own_shapeY hrT; clear hrT hgT))
                    go_ret
                    exact ⟨by rfl, HBwM.out.trans ((HBX.out.trans (HBT.out.mono HBX.out.size)).mono HBwM.out.size)⟩
end Go.Proofs.Ytjpmimanigjjoaa.chainsFixed
