/- Texts of one proof, one behind the other: FlAll, ChAhead, SoKit, ChCmp, SoPdqP, SoIns. -/
import Derived.BigQuiet
import Derived.Shelf.SlSortCmp.Insertion
import Derived.Shelf.SlSortCmp.Kit1
import Derived.Sort.WalkA
import Derived.Sort.Lot0
import Derived.Sort.Walk13a
import Derived.Sort.AssemblyPlain
import Derived.Sort.WalkB2
import Derived.Sort.WalkB12
import Derived.Test.YtnacoplokjdglaaGreatKe1
import Derived.Test.YtnacoplokjdglaaGreatKe2
import Derived.Test.YtnacoplokjdglaaGreatKe3
import Derived.Test.YtnacoplokjdglaaGreatKe4
import Derived.Test.YtnacoplokjdglaaGreatKe5
import Derived.Test.YtnacoplokjdglaaGreatKe6
import Derived.Test.YtnacoplokjdglaaGreatKe7
import Derived.Test.YtnacoplokjdglaaGreatKe8
import Derived.Test.YtnacoplokjdglaaGreatKe9
import Derived.Test.YtnacoplokjdglaaGreatKe10
import Derived.Test.YtnacoplokjdglaaGreatKe11
import Derived.Test.YtnacoplokjdglaaGreatKe12
import Derived.Test.YtnacoplokjdglaaGreatKe13
set_option linter.all false
namespace Go.Proofs.YtnacoplokjdglaaGreat
open Go.RowKit Go.Maps
attribute [local go_sem] Oper.semAt_some

theorem foldLa_get (key val : Int) : ∀ (l : List GOp) (L : LaL), (getM (l.foldl stepLa L) (key, val)).getD false = ((getM L (key, val)).getD false || l.any (finB key val)) := by
  intro l
  induction l with
  | nil => intro L; simp
  | cons o l ih =>
    intro L
    rw [List.foldl_cons, ih, List.any_cons]
    unfold stepLa
    rw [getM_put]
    by_cases h : (o.key, o.val) = (key, val)
    · have hf : finB key val o = true := by simp only [Prod.mk.injEq] at h; simp [finB, h.1, h.2]
      rw [if_pos h, hf]; simp
    · have hf : finB key val o = false := by
        simp only [Prod.mk.injEq] at h
        cases hq : finB key val o with
        | false => rfl
        | true => unfold finB at hq; rw [Bool.and_eq_true, beq_iff_eq, beq_iff_eq] at hq; exact absurd hq h
      rw [if_neg h, hf]; simp
theorem laN_get {ts : List GTxn} {key val : Int} : ∀ n, n ≤ ts.length → ((getM (laN ts n) (key, val)).getD false = true ↔ ∃ (j : Nat) (t : GTxn), j < n ∧ ts[j]? = some t ∧ finalB t key val = true) := by
  intro n
  induction n with
  | zero => intro _; simp [laN, getM_nil]
  | succ n ih =>
    intro hn
    obtain ⟨t, ht⟩ := some_at hn
    rw [laN_succ ht, foldLa_get, Bool.or_eq_true, ih (by omega)]
    constructor
    · rintro (⟨j, u, h1, h2, h3⟩ | h)
      · exact ⟨j, u, by omega, h2, h3⟩
      · exact ⟨n, t, by omega, ht, h⟩
    · rintro ⟨j, u, h1, h2, h3⟩
      rcases Nat.lt_or_ge j n with h4 | h4
      · exact .inl ⟨j, u, h4, h2, h3⟩
      · obtain rfl : j = n := by omega
        rw [ht] at h2; cases h2
        exact .inr h3
theorem writesM_two {l : List GOp} {o : GOp} (h : o ∈ writesM l) : o.kind = 2 := by
  unfold writesM writesTo at h
  rw [List.mem_filterMap] at h
  obtain ⟨k, _, hk⟩ := h
  have := (lastW_mem hk).2
  unfold hitB at this
  simp at this
  exact this.1
/-- Who wrote a value last: the one who wrote it. -/
theorem la_final {ts : List GTxn} (hu : Uniq ts) {key val : Int} {n : Nat} {t : GTxn} (ht : ts[n]? = some t) (hw : t.ops.any (wroteB key val) = true) : (getM (laN ts ts.length) (key, val)).getD false = finalB t key val := by
  rw [Bool.eq_iff_iff, laN_get _ (Nat.le_refl _)]
  constructor
  · rintro ⟨j, u, _, hj, hf⟩
    have hfu := hf
    unfold finalB at hf
    rw [List.any_eq_true] at hf
    obtain ⟨o, ho, h1⟩ := hf
    unfold finB at h1
    rw [Bool.and_eq_true, beq_iff_eq, beq_iff_eq] at h1
    obtain ⟨p, hp, h2, h3⟩ := wrote_val hw
    have := hu j n u t hj ht o (writesM_mem ho) p hp (writesM_two ho) h2 (by rw [h1.2, h3])
    subst this
    rw [ht] at hj; cases hj
    exact hfu
  · intro h
    exact ⟨n, t, (List.getElem?_eq_some_iff.1 ht).1, ht, h⟩
theorem by_writer2 {ts : List GTxn} (hu : Uniq ts) (key val : Int) : (getM (byN ts ts.length) (key, val) = none ∧ writerM ts key val = -1) ∨ ∃ (i : Nat) (t : GTxn), ts[i]? = some t ∧ getM (byN ts ts.length) (key, val) = some (i : Int) ∧ writerM ts key val = i ∧ (getM (laN ts ts.length) (key, val)).getD false = finalB t key val := by
  by_cases h : ∃ (i : Nat) (t : GTxn), ts[i]? = some t ∧ t.ops.any (wroteB key val) = true
  · obtain ⟨i, t, ht, hh⟩ := h
    rcases by_writer hu key val with ⟨h1, h2⟩ | ⟨j, u, hj, h1, h2⟩
    · exact .inl ⟨h1, h2⟩
    · have hno : ∀ (j : Nat) (u : GTxn), j ≠ i → ts[j]? = some u → u.ops.any (wroteB key val) = false := by
        intro j u hj hju
        cases hc : u.ops.any (wroteB key val) with
        | false => rfl
        | true =>
          obtain ⟨o, ho, hk, hv⟩ := wrote_val hh
          obtain ⟨p, hp, hk', hv'⟩ := wrote_val hc
          exact absurd (hu j i u t hju ht p hp o ho hk' hk (by rw [hv, hv'])) hj
      have hlt := (List.getElem?_eq_some_iff.1 ht).1
      have hb := byN_one ht hh _ (Nat.le_refl _) hlt hno
      rw [hb] at h1
      have hij : i = j := by simp at h1; omega
      subst hij
      exact .inr ⟨i, t, ht, hb, h2, la_final hu ht hh⟩
  · rcases by_writer hu key val with ⟨h1, h2⟩ | ⟨j, u, hj, h1, h2⟩
    · exact .inl ⟨h1, h2⟩
    · have hno : ∀ (j : Nat) (u : GTxn), ts[j]? = some u → u.ops.any (wroteB key val) = false := by
        intro j u hju
        cases hc : u.ops.any (wroteB key val) with
        | false => rfl
        | true => exact absurd ⟨j, u, hju, hc⟩ h
      rw [byN_none _ (Nat.le_refl _) (fun j u _ hju => hno j u hju)] at h1
      cases h1

theorem Tryz.infoFw : (Tryz.prog.info? 32).map (fun i => (i.zero, i.size, i.bytes)) = some (some (.agg #[vi 0, vi 0, vi 0]), 3, 24) := by kernel_rfl
theorem eltFw : Elt Tryz.prog 83 32 3 24 (.agg #[vi 0, vi 0, vi 0]) := by
  obtain ⟨i0, hi, hz0, hz1, hz2⟩ := info_parts Tryz.infoFw
  exact ⟨Tryz.underlying83, by decide, rfl, i0, hi, hz0, hz1, hz2⟩
def OwFw (base : Nat) (w : World) (v : Value) (l : List (Int × Int × Int)) : Prop := w.ownsRow base 32 3 v l.length (l.flatMap flV)

set_option maxRecDepth 100000 in
set_option maxHeartbeats 8000000 in
theorem all_call (v : Value) (ts : List GTxn) (w : World) (hv : RdTxns w v ts) (hok : OkTxns ts) (htl : ts.length ≤ 4096) (hun : Uniq ts) :
    Calls Tryz.prog 39 #[v] w fun e w' => ∃ v', e = .returned v' ∧ OwFw w.heap.size w' v' (flawsM ts) ∧ Below w.heap.size w w' := by
  have HV := Lib.hid hv
  have HOK := Lib.hid hok
  have HUN := Lib.hid hun
  obtain ⟨ta, nt, tc, rfl, rfl, hm, -⟩ := hv.at
  clear hv hok hun
  go_enter Tryz.func39, Tryz.ntmps39
  go_wp2_with (go_at_call 60; refine (writers_call _ ts w HV.out HOK.out).mono ?_; rintro e0 w1 ⟨rfl, hby, hla, hb1⟩; have HBY := Lib.hid hby; have HLA := Lib.hid hla; have HB1 := Lib.hid hb1; clear hby hla hb1)
  have hm0 : w.heap.size < w1.heap.size := HBY.out.lt
  have hm1 : w.heap.size + 1 < w1.heap.size := HLA.out.lt
  go_loopw [5, 20] (fun x i wr => ∃ k : Nat, k ≤ ts.length ∧ i = .int .i64 k ∧ Hid (OwFw w1.heap.size wr x ((ts.take k).zipIdx.flatMap (flawT ts)) ∧ Below w1.heap.size w1 wr ∧ ((ts.take k).zipIdx.flatMap (flawT ts)).length ≤ k * 1048576)) (fun _ i _ => ts.length - (intOf i).toNat)
  case atStart => exact ⟨0, Nat.zero_le _, rfl, Lib.hid ⟨World.ownsRow_nil _ _ _ _, Below.refl _ _, by simp⟩⟩
  case round =>
    obtain ⟨wj, rfl⟩ : ∃ wj : World, wj = wr := ⟨_, rfl⟩
    obtain ⟨k, hk, rfl, HJ⟩ := hrel
    obtain ⟨F0, hF0⟩ : ∃ F0, F0 = (ts.take k).zipIdx.flatMap (flawT ts) := ⟨_, rfl⟩
    have HF0 := Lib.hid hF0
    rw [← hF0] at HJ
    obtain ⟨ax, cx, rfl⟩ := Gr.own_shape (show World.ownsRow _ _ _ _ _ F0.length _ from HJ.out.1)
    by_cases hlt : k < ts.length
    · have k1 : decide ((k : Int) < ts.length) = true := decide_eq_true (by omega)
      have k2 : (k : Int) < ts.length := by omega
      have k3 : (0 : Int) ≤ (k : Int) := by omega
      have hwk : IntKind.i64.wrap ((k : Int) + 1) = (k : Int) + 1 := IntWalk.i64_in _ (by omega)
      obtain ⟨t, ht⟩ := some_at hlt
      obtain ⟨_, _, _, e5, -, -, hcl⟩ := (HV.out.later (HB1.out.trans (HJ.out.2.1.mono HB1.out.size))).at
      cases e5
      obtain ⟨gb, off, oa, oc, rfl, hr, c0, c1, c2⟩ := hcl k t ht
      have HRO := Lib.hid hr
      have hok2 := (HOK.out.2 t (List.mem_of_getElem? ht)).2
      have HOKT := Lib.hid (HOK.out.2 t (List.mem_of_getElem? ht)).1
      have HNX := Lib.hid (show (ts.take (k + 1)).zipIdx.flatMap (flawT ts) = F0 ++ (readsM t).zipIdx.flatMap (flaw1 ts k) from by rw [zip_take ht, List.flatMap_append, hF0]; simp [flawT])
      have HRL := Lib.hid (show (readsM t).length ≤ 1048576 from by
        have h1 : (readsM t).length ≤ t.ops.length := by
          unfold readsM; split
          · exact readsS_le _
          · simp
        omega)
      have HF0L := Lib.hid (show F0.length ≤ 4294967296 from by
        have h1 := HJ.out.2.2
        have h2 := Nat.mul_le_mul_right 1048576 (show k ≤ 4096 by omega)
        omega)
      have HLK := Lib.hid HJ.out.2.2
      have HOF := Lib.hid HJ.out.1
      have HBJ := Lib.hid HJ.out.2.1
      have hBt := (Below.refl wj.heap.size wj).alloc (Nat.le_refl _) (.cells #[vi t.client, vi t.state, .slice oa t.ops.length oc] 49)
      have HRT := Lib.hid (HRO.out.later hBt)
      have HOT := Lib.hid (own_below HOF.out hBt)
      have HBT := Lib.hid (HBJ.out.trans (hBt.mono HBJ.out.size))
      clear hcl ht hr hF0 HJ hBt
      go_wp2_with (go_at_call 61; refine (reads_call t.client t.state _ t.ops _ HRT.out HOKT.out hok2).mono ?_; rintro e2 w2 ⟨v2, rfl, ho2, hb2⟩; have HR2 := Lib.hid (own_mono ho2 HBT.out.size); obtain ⟨a1, n1, c1', rfl, e9, -, -⟩ := ho2.rd.at; subst e9; have HB2 := Lib.hid (HBT.out.trans (hb2.mono HBT.out.size)); have HO2 := Lib.hid (own_below HOT.out hb2); clear ho2 hb2)
      have HOKR := Lib.hid (show ∀ o ∈ readsM t, i64 o.key ∧ i64 o.val from fun o ho => by
        have := HOKT.out o (readsM_mem ho)
        exact ⟨this.2.1, this.2.2⟩)
      obtain ⟨rs, hrs⟩ : ∃ rs, rs = readsM t := ⟨_, rfl⟩
      have hrl : rs.length ≤ 1048576 := by rw [hrs]; exact HRL.out
      have HR3 := Lib.hid (show OwOps w1.heap.size w2 (.slice a1 rs.length c1') rs from by rw [hrs]; exact HR2.out)
      rw [show (readsM ⟨t.client, t.state, t.ops⟩).length = rs.length from by rw [hrs]]
      rw [← hrs] at HNX HOKR
      clear hrs c0 c1 c2 HR2
      go_loopw [5, 28] (fun x i wr => ∃ j : Nat, j ≤ rs.length ∧ i = .int .i64 j ∧ Hid (OwFw w1.heap.size wr x (F0 ++ (rs.take j).zipIdx.flatMap (flaw1 ts k)) ∧ OwOps w1.heap.size wr (.slice a1 rs.length c1') rs ∧ Below w1.heap.size w1 wr)) (fun _ i _ => rs.length - (intOf i).toNat)
      case atStart => exact ⟨0, Nat.zero_le _, rfl, Lib.hid ⟨by have h := HO2.out; unfold OwFw; simpa using h, HR3.out, HB2.out⟩⟩
      case round =>
        obtain ⟨wq, rfl⟩ : ∃ wq : World, wq = wr := ⟨_, rfl⟩
        obtain ⟨j, hj, rfl, HQ⟩ := hrel
        obtain ⟨F1, hF1⟩ : ∃ F1, F1 = F0 ++ (rs.take j).zipIdx.flatMap (flaw1 ts k) := ⟨_, rfl⟩
        have HF1 := Lib.hid hF1
        rw [← hF1] at HQ
        have hf1l : F1.length ≤ 4294967296 + 1048576 := by
          have h1 := flatMap_le 1 (flaw1_len ts k) (rs.take j).zipIdx
          have h2 : (rs.take j).zipIdx.length ≤ rs.length := by simp; omega
          have h3 := HF0L.out
          rw [hF1, List.length_append]; omega
        obtain ⟨aq, cq, rfl⟩ := Gr.own_shape (show World.ownsRow _ _ _ _ _ F1.length _ from HQ.out.1)
        have HO := Lib.hid (show wq.ownsRow w1.heap.size 32 3 _ F1.length (F1.flatMap flV) from HQ.out.1)
        have HRq := Lib.hid HQ.out.2.1
        have HBq := Lib.hid HQ.out.2.2
        clear HQ hF1
        by_cases hltq : j < rs.length
        · have j1 : decide ((j : Int) < rs.length) = true := decide_eq_true (by omega)
          have j2 : (j : Int) < rs.length := by omega
          have hwj : IntKind.i64.wrap ((j : Int) + 1) = (j : Int) + 1 := IntWalk.i64_in _ (by omega)
          obtain ⟨o, ho⟩ := some_at hltq
          obtain ⟨_, _, _, e5, -, -, hcl⟩ := HRq.out.rd.at
          cases e5
          obtain ⟨b, off', rfl, y0, y1, y2⟩ := hcl j o ho
          have HNY := Lib.hid (show (rs.take (j + 1)).zipIdx.flatMap (flaw1 ts k) = (rs.take j).zipIdx.flatMap (flaw1 ts k) ++ flaw1 ts k (o, j) from by rw [zip_take ho, List.flatMap_append]; simp)
          obtain ⟨kl, hkl⟩ := placeKey (HOKR.out o (List.mem_of_getElem? ho)).1 (HOKR.out o (List.mem_of_getElem? ho)).2
          have HKL := Lib.hid hkl
          have hBo := (Below.refl wq.heap.size wq).alloc (Nat.le_refl _) (.cells #[vi o.kind, vi o.key, vi o.val] 51)
          have HX := Lib.hid (alloc_at wq (.cells #[vi o.kind, vi o.key, vi o.val] 51))
          have HOa := Lib.hid (own_below HO.out hBo)
          have HRa := Lib.hid (HRq.out.laterD hBo)
          have HBa := Lib.hid (HBq.out.trans (hBo.mono HBq.out.size))
          clear hcl ho hBo hkl
          go_upto_region 9 with fail
          clear y0 y1 y2
          generalize wq.alloc (.cells #[vi o.kind, vi o.key, vi o.val] 51) = wa at *
          obtain ⟨ob, hob⟩ : ∃ ob, ob = wq.heap.size := ⟨_, rfl⟩
          rw [← hob] at HX ⊢
          clear hob
          have x1 : wa.cell? ⟨ob, 1, none⟩ = some (vi o.key) := by rw [cell_of HX.out]; rfl
          have x2 : wa.cell? ⟨ob, 2, none⟩ = some (vi o.val) := by rw [cell_of HX.out]; rfl
          by_cases hv0 : o.val = 0
          · have d0 : (o.val == 0) = true := by simp [hv0]
            have HE := Lib.hid (show flawK ts k o = 0 from by unfold flawK; rw [if_pos hv0])
            have HO6 := HOa
            have HR6 := HRa
            have HB6 := HBa
            clear hv0
            have HN1 := Lib.hid (show flaw1 ts k (o, j) = [] from by unfold flaw1; simp only [HE.out]; rw [if_neg (by decide)])
            go_wp2_with fail
            exact ⟨⟨j + 1, by omega, by go_num, Lib.hid ⟨by rw [HNY.out, HN1.out, List.append_nil, ← HF1.out]; exact HO6.out, HR6.out, HB6.out⟩⟩, by simp only [intOf]; omega⟩
          · have d0 : (o.val == 0) = false := by simp [hv0]
            have HV0 := Lib.hid hv0
            clear hv0
            have hBp := (Below.refl wa.heap.size wa).alloc (Nat.le_refl _) (.cells #[vi o.key, vi o.val] 127)
            have HXp := Lib.hid (alloc_at wa (.cells #[vi o.key, vi o.val] 127))
            have HO6 := Lib.hid (own_below HOa.out hBp)
            have HR6 := Lib.hid (HRa.out.laterD hBp)
            have HB6 := Lib.hid (HBa.out.trans (hBp.mono HBa.out.size))
            clear hBp
            go_upto_region 11 with fail
            clear x1 x2
            generalize wa.alloc (.cells #[vi o.key, vi o.val] 127) = wb at *
            obtain ⟨pb, hpb⟩ : ∃ pb, pb = wa.heap.size := ⟨_, rfl⟩
            rw [← hpb] at HXp ⊢
            clear hpb
            have x0 : wb.cell? ⟨pb, 0, none⟩ = some (vi o.key) := by rw [cell_of HXp.out]; rfl
            have x1 : wb.cell? ⟨pb, 1, none⟩ = some (vi o.val) := by rw [cell_of HXp.out]; rfl
            have hlk := (MapT.lookup placeKeyed vp_inj (t := 122) (e := 3) Tryz.underlying122 (HBY.out.below HB6.out hm0) (o.key, o.val) HKL.out (zeroI wb)).2
            have hll : (Instr.lookup 123 (.map (some (w.heap.size + 1))) (vp (o.key, o.val)) false).run Tryz.prog wb = .ok (.bool ((getM (laN ts ts.length) (o.key, o.val)).getD false)) wb := by
              rw [(MapT.lookup placeKeyed vp_inj (t := 123) (e := 4) Tryz.underlying123 (HLA.out.below HB6.out hm1) (o.key, o.val) HKL.out (zeroB wb)).1]
              cases getM (laN ts ts.length) (o.key, o.val) <;> rfl
            rcases by_writer2 HUN.out o.key o.val with ⟨g1, g2⟩ | ⟨n, u, hu, g1, g2, g3⟩
            · have HE := Lib.hid (show flawK ts k o = 1 from by unfold flawK; rw [if_neg HV0.out, g2, if_pos (.inl (by omega))])
              rw [g1] at hlk
              simp only [Option.map_none, Option.getD_none, Option.isSome_none] at hlk
              clear g1 g2 hll
              have HN1 := Lib.hid (show flaw1 ts k (o, j) = [((k : Int), (j : Int), 1)] from by unfold flaw1; simp only [HE.out]; rw [if_pos (by decide)])
              go_wp2_with (at_builtin; refine wpList_append_src rfl _ _ 83 rfl eltFw w1.heap.size F1.length _ (World.ownsRow.alloc HO6.out _) rfl 1 (flV ((k : Int), (j : Int), 1)) (src_new (cs := #[vi k, vi j, vi 1]) rfl rfl) rfl (flV_one _) (by omega) (by omega) (by have := HB6.out.size; simp; omega) ?_; intro v7 w7 ho7 hg7 _; have HO7 := Lib.hid ho7; have HR7 := Lib.hid (rows_kept (World.ownsRow.alloc HR6.out _) (World.ownsRow.alloc HO6.out _) (by decide) hg7); have HB7 := Lib.hid ((HB6.out.alloc HB6.out.size _).grown hg7 (by have := HB6.out.size; simp; omega) (fun j hj => (World.ownsRow.lt HO6.out j hj).1)); clear ho7 hg7)
              exact ⟨⟨j + 1, by omega, by go_num, Lib.hid ⟨by rw [HNY.out, HN1.out, ← List.append_assoc, ← HF1.out]; unfold OwFw; have h := HO7.out; simpa using h, HR7.out, HB7.out⟩⟩, by simp only [intOf]; omega⟩
            · have hn : n < ts.length := (List.getElem?_eq_some_iff.1 hu).1
              rw [g1] at hlk
              rw [g3] at hll
              simp only [Option.map_some, Option.getD_some, Option.isSome_some] at hlk
              have n1 : (n : Int) < ts.length := by omega
              by_cases hnk : n = k
              · have d2 : ((n : Int) == (k : Int)) = true := by simp [hnk]
                have HE := Lib.hid (show flawK ts k o = 1 from by unfold flawK; rw [if_neg HV0.out, g2, if_pos (.inr (by omega))])
                clear hnk g1 g2 g3 hll hu
                have HN1 := Lib.hid (show flaw1 ts k (o, j) = [((k : Int), (j : Int), 1)] from by unfold flaw1; simp only [HE.out]; rw [if_pos (by decide)])
                go_wp2_with (at_builtin; refine wpList_append_src rfl _ _ 83 rfl eltFw w1.heap.size F1.length _ (World.ownsRow.alloc HO6.out _) rfl 1 (flV ((k : Int), (j : Int), 1)) (src_new (cs := #[vi k, vi j, vi 1]) rfl rfl) rfl (flV_one _) (by omega) (by omega) (by have := HB6.out.size; simp; omega) ?_; intro v7 w7 ho7 hg7 _; have HO7 := Lib.hid ho7; have HR7 := Lib.hid (rows_kept (World.ownsRow.alloc HR6.out _) (World.ownsRow.alloc HO6.out _) (by decide) hg7); have HB7 := Lib.hid ((HB6.out.alloc HB6.out.size _).grown hg7 (by have := HB6.out.size; simp; omega) (fun j hj => (World.ownsRow.lt HO6.out j hj).1)); clear ho7 hg7)
                exact ⟨⟨j + 1, by omega, by go_num, Lib.hid ⟨by rw [HNY.out, HN1.out, ← List.append_assoc, ← HF1.out]; unfold OwFw; have h := HO7.out; simpa using h, HR7.out, HB7.out⟩⟩, by simp only [intOf]; omega⟩
              · have d2 : ((n : Int) == (k : Int)) = false := by simp; omega
                have HFK := Lib.hid (show flawK ts k o = if u.state = 2 then 2 else if finalB u o.key o.val then 0 else 3 from by
                  unfold flawK
                  rw [if_neg HV0.out, g2, if_neg (by omega), Int.toNat_natCast, hu])
                obtain ⟨_, _, _, e7, -, -, hcl⟩ := (HV.out.later (HB1.out.trans (HB6.out.mono HB1.out.size))).at
                cases e7
                obtain ⟨gb', off2, oa', oc', e8, -, z0, z1, z2⟩ := hcl n u hu
                cases e8
                clear hnk g1 g2 g3 hu hcl
                by_cases hs2 : u.state = 2
                · have d3 : (u.state == 2) = true := by simp [hs2]
                  have HE := Lib.hid (show flawK ts k o = 2 from by rw [HFK.out, if_pos hs2])
                  clear hs2 hll
                  have HN1 := Lib.hid (show flaw1 ts k (o, j) = [((k : Int), (j : Int), 2)] from by unfold flaw1; simp only [HE.out]; rw [if_pos (by decide)])
                  go_wp2_with (at_builtin; refine wpList_append_src rfl _ _ 83 rfl eltFw w1.heap.size F1.length _ (World.ownsRow.alloc HO6.out _) rfl 1 (flV ((k : Int), (j : Int), 2)) (src_new (cs := #[vi k, vi j, vi 2]) rfl rfl) rfl (flV_one _) (by omega) (by omega) (by have := HB6.out.size; simp; omega) ?_; intro v7 w7 ho7 hg7 _; have HO7 := Lib.hid ho7; have HR7 := Lib.hid (rows_kept (World.ownsRow.alloc HR6.out _) (World.ownsRow.alloc HO6.out _) (by decide) hg7); have HB7 := Lib.hid ((HB6.out.alloc HB6.out.size _).grown hg7 (by have := HB6.out.size; simp; omega) (fun j hj => (World.ownsRow.lt HO6.out j hj).1)); clear ho7 hg7)
                  exact ⟨⟨j + 1, by omega, by go_num, Lib.hid ⟨by rw [HNY.out, HN1.out, ← List.append_assoc, ← HF1.out]; unfold OwFw; have h := HO7.out; simpa using h, HR7.out, HB7.out⟩⟩, by simp only [intOf]; omega⟩
                · have d3 : (u.state == 2) = false := by simp [hs2]
                  have HF2 := Lib.hid (show flawK ts k o = if finalB u o.key o.val then 0 else 3 from by rw [HFK.out, if_neg hs2])
                  clear hs2
                  cases hfb : finalB u o.key o.val with
                  | true =>
                    rw [hfb] at hll
                    have HE := Lib.hid (show flawK ts k o = 0 from by rw [HF2.out, hfb]; rfl)
                    clear hfb
                    have HN1 := Lib.hid (show flaw1 ts k (o, j) = [] from by unfold flaw1; simp only [HE.out]; rw [if_neg (by decide)])
                    go_wp2_with fail
                    exact ⟨⟨j + 1, by omega, by go_num, Lib.hid ⟨by rw [HNY.out, HN1.out, List.append_nil, ← HF1.out]; exact HO6.out, HR6.out, HB6.out⟩⟩, by simp only [intOf]; omega⟩
                  | false =>
                    rw [hfb] at hll
                    have HE := Lib.hid (show flawK ts k o = 3 from by rw [HF2.out, hfb]; rfl)
                    clear hfb
                    have HN1 := Lib.hid (show flaw1 ts k (o, j) = [((k : Int), (j : Int), 3)] from by unfold flaw1; simp only [HE.out]; rw [if_pos (by decide)])
                    go_wp2_with (at_builtin; refine wpList_append_src rfl _ _ 83 rfl eltFw w1.heap.size F1.length _ (World.ownsRow.alloc HO6.out _) rfl 1 (flV ((k : Int), (j : Int), 3)) (src_new (cs := #[vi k, vi j, vi 3]) rfl rfl) rfl (flV_one _) (by omega) (by omega) (by have := HB6.out.size; simp; omega) ?_; intro v7 w7 ho7 hg7 _; have HO7 := Lib.hid ho7; have HR7 := Lib.hid (rows_kept (World.ownsRow.alloc HR6.out _) (World.ownsRow.alloc HO6.out _) (by decide) hg7); have HB7 := Lib.hid ((HB6.out.alloc HB6.out.size _).grown hg7 (by have := HB6.out.size; simp; omega) (fun j hj => (World.ownsRow.lt HO6.out j hj).1)); clear ho7 hg7)
                    exact ⟨⟨j + 1, by omega, by go_num, Lib.hid ⟨by rw [HNY.out, HN1.out, ← List.append_assoc, ← HF1.out]; unfold OwFw; have h := HO7.out; simpa using h, HR7.out, HB7.out⟩⟩, by simp only [intOf]; omega⟩
        · have j1 : decide ((j : Int) < rs.length) = false := decide_eq_false (by omega)
          have HFN := Lib.hid (show OwFw w1.heap.size wq (.slice aq F1.length cq) ((ts.take (k + 1)).zipIdx.flatMap (flawT ts)) from by
            have hje : j = rs.length := by omega
            have h2 : (ts.take (k + 1)).zipIdx.flatMap (flawT ts) = F1 := by rw [HNX.out, HF1.out, hje, List.take_length]
            rw [h2]; exact HO.out)
          have HLN := Lib.hid (show ((ts.take (k + 1)).zipIdx.flatMap (flawT ts)).length ≤ (k + 1) * 1048576 from by
            have h1 := flatMap_le 1 (flaw1_len ts k) rs.zipIdx
            have h2 : rs.zipIdx.length = rs.length := by simp
            have h3 := HLK.out
            rw [HNX.out, List.length_append, Nat.add_mul, Nat.one_mul]; omega)
          go_wp2_with fail
          exact ⟨⟨k + 1, by omega, by go_num, Lib.hid ⟨HFN.out, HBq.out, HLN.out⟩⟩, by simp only [intOf]; omega⟩
    · have k1 : decide ((k : Int) < ts.length) = false := decide_eq_false (by omega)
      have HFN := Lib.hid (show OwFw w1.heap.size wj (.slice ax F0.length cx) (flawsM ts) from by
        have hke : k = ts.length := by omega
        have h2 : F0 = flawsM ts := by rw [HF0.out, hke, List.take_length]; rfl
        rw [← h2]; exact HJ.out.1)
      have HBF := Lib.hid HJ.out.2.1
      clear HJ
      go_wp2_with fail
      go_ret
      exact ⟨_, rfl, own_mono HFN.out HB1.out.size, HB1.out.trans (HBF.out.mono HB1.out.size)⟩
end Go.Proofs.YtnacoplokjdglaaGreat

namespace Go.Proofs.YtnacoplokjdglaaGreat
open Go.RowKit Go.Maps
/-- What the closure reads: the row, the facts, the key. -/
structure AheadW (w : World) (po pf pk blk off cap m : Nat) (D : List Int) (L : FaL) (key : Int) : Prop where
  o : w.cell? ⟨po, 0, none⟩ = some (.slice (some ⟨blk, off, none⟩) D.length cap)
  f : w.cell? ⟨pf, 0, none⟩ = some (.map (some m))
  k : w.cell? ⟨pk, 0, none⟩ = some (vi key)
  row : ∀ j x, D[j]? = some x → w.cell? ⟨blk, off + j, none⟩ = some (vi x) ∧ i64 x
  map : MapF w m L
  key : i64 key
  len : D.length ≤ 4096

theorem aheadN_take {L : FaL} {key a x : Int} {D : List Int} {k : Nat} (hx : D[k]? = some x) : (D.take (k + 1)).countP (aheadOf L key a) = (D.take k).countP (aheadOf L key a) + (if aheadOf L key a x then 1 else 0) := by
  rw [List.take_add_one, hx, List.countP_append]
  simp [List.countP_cons]

set_option maxHeartbeats 4000000 in
set_option maxRecDepth 100000 in
theorem ahead_call (po pf pk blk off cap m : Nat) (D : List Int) (L : FaL) (key a : Int) (w : World) (h : AheadW w po pf pk blk off cap m D L key) (ha : i64 a) :
    Calls Tryz.prog 67 #[vi a, vi 0, .pointer (some ⟨po, 0, none⟩), .pointer (some ⟨pf, 0, none⟩), .pointer (some ⟨pk, 0, none⟩)] w fun e w' => e = .returned (vi (aheadN L key D a)) ∧ w' = w := by
  have HA := Lib.hid h
  have co := h.o
  have cf := h.f
  have ck := h.k
  have hlen := h.len
  have hkey := h.key
  clear h
  go_enter Tryz.func67, Tryz.ntmps67
  go_wp2_with fail
  go_loopw [8, 10, 11, 12, 15] (fun n _ _ _ u wr => ∃ k c : Nat, k ≤ D.length ∧ c ≤ k ∧ u = vi k ∧ n = vi c ∧ Hid ((D.take k).countP (aheadOf L key a) = c) ∧ wr = w) (fun _ _ _ _ u _ => D.length - (intOf u).toNat)
  case atStart => exact ⟨0, 0, Nat.zero_le _, Nat.le_refl _, rfl, rfl, Lib.hid rfl, rfl⟩
  case round =>
    obtain ⟨k, c, hk, hck, rfl, rfl, HN, hwr⟩ := hrel
    subst hwr
    by_cases hlt : k < D.length
    · obtain ⟨x, hx⟩ := some_at hlt
      have hxc := (HA.out.row k x hx).1
      have hxi := (HA.out.row k x hx).2
      have HT := Lib.hid (aheadN_take (L := L) (key := key) (a := a) hx)
      have hkI : (k : Int) < (D.length : Int) := by omega
      have wk : IntKind.i64.wrap ((k : Int) + 1) = ((k + 1 : Nat) : Int) := by rw [IntWalk.i64_in _ (by omega)]; omega
      have wc : IntKind.i64.wrap ((c : Int) + 1) = ((c + 1 : Nat) : Int) := by rw [IntWalk.i64_in _ (by omega)]; omega
      have hlk := (lookup_fact HA.out.map (c := ⟨2, key, min a x, max a x⟩) (by unfold SmallCh i64 at *; simp only; omega)).1
      have HO := Lib.hid (show aheadOf L key a x = (match getM L ⟨2, key, min a x, max a x⟩ with | some so => (x != a) && (so == decide (a < x)) | none => false) from rfl)
      clear hx
      rcases Int.lt_trichotomy a x with hc | hc | hc
      · have hdum : True := trivial
        have hne : (x == a) = false := beq_eq_false_iff_ne.2 (by omega)
        have hlt0 : decide (a < x) = true := decide_eq_true hc
        cases hg : getM L ⟨2, key, min a x, max a x⟩ with
        | none =>
          rw [hg] at hlk HO
          clear hg
          have HE := Lib.hid (show aheadOf L key a x = false from HO.out)
          simp only [Option.getD_none, Option.isSome_none] at hlk
          go_wp2_with fail
          go_roundw
          case rel => exact ⟨k + 1, c, by omega, by omega, rfl, rfl, Lib.hid (by rw [HT.out, HE.out, HN.out]; rfl), by trivial⟩
          case measure => simp [intOf]; omega
        | some so =>
          rw [hg] at hlk HO
          clear hg
          simp only [Option.getD_some, Option.isSome_some] at hlk
          cases so with
          | true =>
            have HE := Lib.hid (show aheadOf L key a x = true from by rw [HO.out]; simp only [hlt0, bne, hne]; rfl)
            go_wp2_with fail
            go_roundw
            case rel => exact ⟨k + 1, c + 1, by omega, by omega, rfl, rfl, Lib.hid (by rw [HT.out, HE.out, HN.out]; rfl), by trivial⟩
            case measure => simp [intOf]; omega
          | false =>
            have HE := Lib.hid (show aheadOf L key a x = false from by rw [HO.out]; simp only [hlt0, bne, hne]; rfl)
            go_wp2_with fail
            go_roundw
            case rel => exact ⟨k + 1, c, by omega, by omega, rfl, rfl, Lib.hid (by rw [HT.out, HE.out, HN.out]; rfl), by trivial⟩
            case measure => simp [intOf]; omega
      · have m1 : min a x = x := by omega
        have m2 : max a x = x := by omega
        rw [m1, m2] at hlk HO
        subst hc
        have hne : (a == a) = true := by simp
        have hlt0 : decide (a < a) = false := by simp
        clear m1 m2
        cases hg : getM L ⟨2, key, a, a⟩ with
        | none =>
          rw [hg] at hlk HO
          clear hg
          have HE := Lib.hid (show aheadOf L key a a = false from HO.out)
          simp only [Option.getD_none, Option.isSome_none] at hlk
          go_wp2_with fail
          go_roundw
          case rel => exact ⟨k + 1, c, by omega, by omega, rfl, rfl, Lib.hid (by rw [HT.out, HE.out, HN.out]; rfl), by trivial⟩
          case measure => simp [intOf]; omega
        | some so =>
          rw [hg] at hlk HO
          clear hg
          simp only [Option.getD_some, Option.isSome_some] at hlk
          cases so with
          | true =>
            have HE := Lib.hid (show aheadOf L key a a = false from by rw [HO.out]; simp only [hlt0, bne, hne]; rfl)
            go_wp2_with fail
            go_roundw
            case rel => exact ⟨k + 1, c, by omega, by omega, rfl, rfl, Lib.hid (by rw [HT.out, HE.out, HN.out]; rfl), by trivial⟩
            case measure => simp [intOf]; omega
          | false =>
            have HE := Lib.hid (show aheadOf L key a a = false from by rw [HO.out]; simp only [hlt0, bne, hne]; rfl)
            go_wp2_with fail
            go_roundw
            case rel => exact ⟨k + 1, c, by omega, by omega, rfl, rfl, Lib.hid (by rw [HT.out, HE.out, HN.out]; rfl), by trivial⟩
            case measure => simp [intOf]; omega
      · have hdum : True := trivial
        have hne : (x == a) = false := beq_eq_false_iff_ne.2 (by omega)
        have hlt0 : decide (a < x) = false := decide_eq_false (by omega)
        cases hg : getM L ⟨2, key, min a x, max a x⟩ with
        | none =>
          rw [hg] at hlk HO
          clear hg
          have HE := Lib.hid (show aheadOf L key a x = false from HO.out)
          simp only [Option.getD_none, Option.isSome_none] at hlk
          go_wp2_with fail
          go_roundw
          case rel => exact ⟨k + 1, c, by omega, by omega, rfl, rfl, Lib.hid (by rw [HT.out, HE.out, HN.out]; rfl), by trivial⟩
          case measure => simp [intOf]; omega
        | some so =>
          rw [hg] at hlk HO
          clear hg
          simp only [Option.getD_some, Option.isSome_some] at hlk
          cases so with
          | true =>
            have HE := Lib.hid (show aheadOf L key a x = false from by rw [HO.out]; simp only [hlt0, bne, hne]; rfl)
            go_wp2_with fail
            go_roundw
            case rel => exact ⟨k + 1, c, by omega, by omega, rfl, rfl, Lib.hid (by rw [HT.out, HE.out, HN.out]; rfl), by trivial⟩
            case measure => simp [intOf]; omega
          | false =>
            have HE := Lib.hid (show aheadOf L key a x = true from by rw [HO.out]; simp only [hlt0, bne, hne]; rfl)
            go_wp2_with fail
            go_roundw
            case rel => exact ⟨k + 1, c + 1, by omega, by omega, rfl, rfl, Lib.hid (by rw [HT.out, HE.out, HN.out]; rfl), by trivial⟩
            case measure => simp [intOf]; omega
    · obtain rfl : k = D.length := by omega
      have HE := Lib.hid (show aheadN L key D a = c from by rw [← HN.out, List.take_length]; rfl)
      go_wp2_with fail
      go_ret
      exact ⟨by rw [HE.out]; rfl, rfl⟩
end Go.Proofs.YtnacoplokjdglaaGreat

namespace Go.Proofs.YtnacoplokjdglaaGreat
open Go.RowKit Go.Maps Go.Sort

/-- The row at blk holds dk, a permutation of what it held at first. -/
structure SoW (w0 : World) (blk off : Nat) (d0 dk : Array Int) (W : World) : Prop where
  sw : SW vi w0 blk off dk W
  pm : PermIn 0 d0.size d0 dk
theorem SoW.sz {w0 W : World} {blk off : Nat} {d0 dk : Array Int} (h : SoW w0 blk off d0 dk W) : dk.size = d0.size := h.pm.1
/-- The comparison, wherever the row is a permutation. -/
def CmpP (g : FuncId) (cb : Array Value) (cf : Int → Int → Int) (blk off : Nat) (d0 : Array Int) (w0 : World) : Prop :=
  ∀ (dk : Array Int) (W : World), SoW w0 blk off d0 dk W → ∀ x y : Int, x ∈ d0.toList → y ∈ d0.toList → Calls Tryz.prog g (#[vi x, vi y] ++ cb) W fun e w' => e = .returned (vi (cf x y)) ∧ ∃ q os', w' = grow (W.drewN q) os'
section
variable {w0 W : World} {blk off : Nat} {d0 dk : Array Int} {g : FuncId} {cb : Array Value} {cf : Int → Int → Int}
theorem SoW.perm (h : SoW w0 blk off d0 dk W) : dk.toList.Perm d0.toList := by
  have h3 := h.pm.2.2
  have e1 : dk.extract 0 d0.size = dk := by rw [← h.sz]; simp
  have e2 : d0.extract 0 d0.size = d0 := by simp
  rw [e1, e2] at h3
  exact h3
theorem SoW.mem (h : SoW w0 blk off d0 dk W) {i : Nat} (hi : i < d0.size) : dk[i]! ∈ d0.toList := by
  have hi' : i < dk.size := by rw [h.sz]; exact hi
  rw [← h.perm.mem_iff, getElem!_pos dk i hi']
  exact Array.getElem_mem_toList hi'
theorem SoW.grown (h : SoW w0 blk off d0 dk W) (n : Nat) (os : Array Obj) : SoW w0 blk off d0 dk (grow (W.drewN n) os) := ⟨h.sw.grown n os, h.pm⟩
theorem SoW.drew (h : SoW w0 blk off d0 dk W) : SoW w0 blk off d0 dk W.drew := ⟨h.sw.drew, h.pm⟩
theorem SoW.cl (h : SoW w0 blk off d0 dk W) (R : Row1 vi w0 blk off d0) {i : Nat} (hi : i < d0.size) (n : Nat) (os : Array Obj) : (grow (W.drewN n) os).cell? ⟨blk, off + i, none⟩ = some (vi dk[i]!) := h.sw.cl R h.sz i (by rw [h.sz]; exact hi) n os
theorem SoW.c1 (h : SoW w0 blk off d0 dk W) (R : Row1 vi w0 blk off d0) {i : Nat} (hi : i < d0.size) : W.cell? ⟨blk, off + i, none⟩ = some (vi dk[i]!) := h.sw.c1 R h.sz i (by rw [h.sz]; exact hi)
theorem SoW.f1 (h : SoW w0 blk off d0 dk W) (R : Row1 vi w0 blk off d0) {i : Nat} (hi : i < d0.size) : W.frozen? ⟨blk, off + i, none⟩ = false := h.sw.f1 R h.sz i (by rw [h.sz]; exact hi)
theorem SoW.c2 (h : SoW w0 blk off d0 dk W) (R : Row1 vi w0 blk off d0) {i j : Nat} (hi : i < d0.size) (hj : j < d0.size) (v : Value) : ∃ u, (W.setCell ⟨blk, off + i, none⟩ v).cell? ⟨blk, off + j, none⟩ = some u := h.sw.c2 R h.sz i j (by rw [h.sz]; exact hi) (by rw [h.sz]; exact hj) v
theorem SoW.cmp (h : SoW w0 blk off d0 dk W) (hC : CmpP g cb cf blk off d0 w0) (x y : Int) (hx : x ∈ d0.toList) (hy : y ∈ d0.toList) (n : Nat) (os : Array Obj) :
    Calls Tryz.prog g (#[vi x, vi y] ++ cb) (grow (W.drewN n) os) fun e w' => e = .returned (vi (cf x y)) ∧ ∃ q os', w' = grow ((grow (W.drewN n) os).drewN q) os' := hC dk _ (h.grown n os) x y hx hy
theorem SoW.swp (h : SoW w0 blk off d0 dk W) (R : Row1 vi w0 blk off d0) {i j : Nat} (hi : i < d0.size) (hj : j < d0.size) :
    SoW w0 blk off d0 (Sort.swp dk i j) ((W.setCell ⟨blk, off + i, none⟩ (vi dk[j]!)).setCell ⟨blk, off + j, none⟩ (vi dk[i]!)).drew :=
  ⟨h.sw.swapped R i j (by rw [h.sz]; exact hi) (by rw [h.sz]; exact hj), permIn_trans _ _ _ _ _ h.pm (swp_permIn dk 0 d0.size i j (Nat.zero_le _) hi (Nat.zero_le _) hj (by rw [h.sz]; exact Nat.le_refl _))⟩
theorem SoW.start (R : Row1 vi w0 blk off d0) : SoW w0 blk off d0 d0 w0 := ⟨SW.start R.hH, permIn_refl _ _ _⟩
end
end Go.Proofs.YtnacoplokjdglaaGreat

namespace Go.Proofs.YtnacoplokjdglaaGreat
open Go.RowKit Go.Maps Go.Sort
attribute [local go_sem] Oper.semAt_some

theorem SW.grownBy {w0 W : World} {blk off : Nat} {dk : Array Int} (h : SW vi w0 blk off dk W) : w0.grownBy W (some blk) := by
  obtain ⟨m, os, rfl⟩ := h
  unfold sortWorld
  refine ⟨rfl, rfl, rfl, by simp, fun k hk hne => ?_⟩
  have hgk : blk ≠ k := fun e => hne (by rw [e])
  rw [heap_grow_old _ _ (by simpa using hk)]
  simp [putRow, mapBlock, Sort.ahead, Array.getElem?_modify, hgk]
theorem cell_sameC {A B : World} {b o : Nat} (h : B.heap[b]? = A.heap[b]?) : B.cell? ⟨b, o, none⟩ = A.cell? ⟨b, o, none⟩ := by
  simp [World.cell?, h]
theorem AheadW.sorted {w0 W : World} {po pf pk blk off cap m : Nat} {D : List Int} {L : FaL} {key : Int} {dk : Array Int} (h : AheadW w0 po pf pk blk off cap m D L key) (hpo : po ≠ blk) (hpf : pf ≠ blk) (hpk : pk ≠ blk) (hm : m ≠ blk)
    (R : Row1 vi w0 blk off D.toArray) (hs : SoW w0 blk off D.toArray dk W) : AheadW W po pf pk blk off cap m dk.toList L key := by
  have hg := SW.grownBy hs.sw
  have hsz := hs.sz
  have hlt : ∀ {b o : Nat} {v : Value}, w0.cell? ⟨b, o, none⟩ = some v → b ≠ blk → W.cell? ⟨b, o, none⟩ = some v := fun {b o v} hc hb => by
    rw [cell_sameC (hg.block b (World.block_lt_of_cell? w0 _ hc) (fun e => hb (by simpa using e)))]; exact hc
  have hl : dk.toList.length = D.length := by simpa using hsz
  refine ⟨by rw [hl]; exact hlt h.o hpo, hlt h.f hpf, hlt h.k hpk, fun j x hj => ?_, h.map.kept hg (fun e => hm (by simpa using e)), h.key, by rw [hl]; exact h.len⟩
  have hjl := (List.getElem?_eq_some_iff.1 hj).1
  have hjd : j < dk.size := by simpa using hjl
  have hx : x = dk[j]! := by
    rw [getElem!_pos dk j hjd]
    have := (List.getElem?_eq_some_iff.1 hj).2
    simpa using this.symm
  have hjD : j < D.toArray.size := by rw [← hsz]; exact hjd
  refine ⟨by rw [hx]; exact hs.c1 R hjD, ?_⟩
  have hmem : x ∈ D := by
    have := hs.mem hjD
    rw [← hx] at this
    simpa using this
  obtain ⟨i, hi⟩ := List.mem_iff_getElem?.1 hmem
  exact (h.row i x hi).2

theorem AheadW.drewN {w : World} {po pf pk blk off cap m : Nat} {D : List Int} {L : FaL} {key : Int} (h : AheadW w po pf pk blk off cap m D L key) (n : Nat) : AheadW (w.drewN n) po pf pk blk off cap m D L key :=
  ⟨h.o, h.f, h.k, h.row, h.map.frame rfl, h.key, h.len⟩

set_option maxHeartbeats 4000000 in
set_option maxRecDepth 100000 in
theorem cmpA_call (pa po pf pk blk off cap m : Nat) (D : List Int) (L : FaL) (key x y : Int) (w : World) (h : AheadW w po pf pk blk off cap m D L key) (hx : i64 x) (hy : i64 y)
    (hp : w.cell? ⟨pa, 0, none⟩ = some (.func (.func 67) #[] #[.pointer (some ⟨po, 0, none⟩), .pointer (some ⟨pf, 0, none⟩), .pointer (some ⟨pk, 0, none⟩)])) :
    Calls Tryz.prog 69 #[vi x, vi y, .pointer (some ⟨pa, 0, none⟩)] w fun e w' => e = .returned (vi (cmpA L key D x y)) ∧ ∃ q, w' = w.drewN q := by
  have H := Lib.hid h
  have bx := aheadN_le L key D x
  have bY := aheadN_le L key D y
  have hl := h.len
  have HE := Lib.hid (show cmpA L key D x y = (aheadN L key D y : Int) - (aheadN L key D x : Int) from rfl)
  have HX := Lib.hid (fun n => ahead_call po pf pk blk off cap m D L key x (w.drewN n) (h.drewN n) hx)
  have HY := Lib.hid (fun n => ahead_call po pf pk blk off cap m D L key y (w.drewN n) (h.drewN n) hy)
  have mixed : Tryz.prog.follows .mixedOrders = true := by kernel_rfl
  generalize aheadN L key D x = nx at *
  generalize aheadN L key D y = ny at *
  have wr : IntKind.i64.wrap ((ny : Int) - (nx : Int)) = (ny : Int) - (nx : Int) := by rw [IntWalk.i64_in _ (by omega)]
  clear h hx hy
  go_enter Tryz.func69, Tryz.ntmps69
  go_wp2_with fail
  go_quiet (first
    | (go_at_call 67; with_reducible exact Calls.quiet_of_same (HY.out _))
    | (go_at_call 67; with_reducible exact Calls.quiet_of_same (HX.out _)))
  go_wp2_with fail
  go_ret
  exact ⟨by rw [HE.out]; rfl, _, rfl⟩

theorem cmpP_ok {w0 : World} {pa po pf pk blk off cap m : Nat} {D : List Int} {L : FaL} {key : Int} (h : AheadW w0 po pf pk blk off cap m D L key) (hpo : po ≠ blk) (hpf : pf ≠ blk) (hpk : pk ≠ blk) (hm : m ≠ blk) (hpa : pa ≠ blk)
    (R : Row1 vi w0 blk off D.toArray)
    (hp : w0.cell? ⟨pa, 0, none⟩ = some (.func (.func 67) #[] #[.pointer (some ⟨po, 0, none⟩), .pointer (some ⟨pf, 0, none⟩), .pointer (some ⟨pk, 0, none⟩)])) :
    CmpP 69 #[.pointer (some ⟨pa, 0, none⟩)] (cmpA L key D) blk off D.toArray w0 := by
  intro dk W hs x y hx hy
  have hA := h.sorted hpo hpf hpk hm R hs
  have hg := SW.grownBy hs.sw
  have hp2 : W.cell? ⟨pa, 0, none⟩ = some (.func (.func 67) #[] #[.pointer (some ⟨po, 0, none⟩), .pointer (some ⟨pf, 0, none⟩), .pointer (some ⟨pk, 0, none⟩)]) := by
    rw [cell_sameC (hg.block pa (World.block_lt_of_cell? w0 _ hp) (fun e => hpa (by simpa using e)))]; exact hp
  have hi : ∀ z, z ∈ D.toArray.toList → i64 z := fun z hz => by
    obtain ⟨i, hi⟩ := List.mem_iff_getElem?.1 (show z ∈ D by simpa using hz)
    exact (h.row i z hi).2
  have hc := cmpA_call pa po pf pk blk off cap m dk.toList L key x y W hA (hi x hx) (hi y hy) hp2
  have hperm : dk.toList.Perm D := by simpa using hs.perm
  have he : cmpA L key dk.toList x y = cmpA L key D x y := by unfold cmpA; rw [aheadN_perm hperm, aheadN_perm hperm]
  rw [he] at hc
  refine Calls.mono hc ?_
  rintro e w' ⟨h1, q, h2⟩
  exact ⟨h1, q, #[], by rw [h2]; simp [grow]; rfl⟩
end Go.Proofs.YtnacoplokjdglaaGreat

namespace Go.Proofs.YtnacoplokjdglaaGreat
open Go.Sort

structure RdF (lt : Int → Int → Bool) (dk : Array Int) (a b lim : Nat) (wb wp : Bool) (RR : Array Int) (Q : Rd Int) : Prop where
  brk : wb = false → Q.d1 = breakPatterns dk a b ∧ Q.lim = lim - 1
  same : wb = true → Q.d1 = dk ∧ Q.lim = lim
  le : Q.lim ≤ lim
  c : Q.c = choosePivot lt Q.d1 a b
  c1 : a ≤ Q.c.1 ∧ Q.c.1 < b
  dec : Q.c.2 = .decreasing → Q.d2 = reverseRange Q.d1 a b ∧ Q.pivot = (b - 1) - (Q.c.1 - a) ∧ Q.hint = .increasing
  nodec : Q.c.2 ≠ .decreasing → Q.d2 = Q.d1 ∧ Q.pivot = Q.c.1 ∧ Q.hint = Q.c.2
  yes : (wb && wp && decide (Q.hint = .increasing)) = true → Q.pi = partialInsertionSort lt Q.d2 a b
  no : (wb && wp && decide (Q.hint = .increasing)) = false → Q.pi = (Q.d2, false)
  pv : a ≤ Q.pivot ∧ Q.pivot < b
  done : Q.pi.2 = true → Q.pi.1 = RR
  eq : Q.pi.2 = false → 0 < a → lt Q.pi.1[a - 1]! Q.pi.1[Q.pivot]! = false → ∀ mid d4, partitionEqual lt Q.pi.1 a b Q.pivot = (mid, d4) → a < mid ∧ mid ≤ b ∧ Below lt mid b d4 ∧ pdq lt d4 mid b Q.lim wb wp = RR
  part : Q.pi.2 = false → (a = 0 ∨ lt Q.pi.1[a - 1]! Q.pi.1[Q.pivot]! = true) → ∀ mid ap d4, Sort.partition lt Q.pi.1 a b Q.pivot = (mid, ap, d4) → a ≤ mid ∧ mid < b ∧ Below lt a mid d4 ∧ Below lt (mid + 1) b d4 ∧
    (mid - a < b - mid → Below lt (mid + 1) b (pdq lt d4 a mid Q.lim true true) ∧ pdq lt (pdq lt d4 a mid Q.lim true true) (mid + 1) b Q.lim (decide (mid - a ≥ (b - a) / 8)) ap = RR) ∧
    (¬ mid - a < b - mid → Below lt a mid (pdq lt d4 (mid + 1) b Q.lim true true) ∧ pdq lt (pdq lt d4 (mid + 1) b Q.lim true true) a mid Q.lim (decide (b - mid ≥ (b - a) / 8)) ap = RR)

theorem rdF {lt : Int → Int → Bool} (hO : SWO lt) {dk : Array Int} {a b lim : Nat} {wb wp : Bool} (hab : a < b) (hb : b ≤ dk.size) (hB : Below lt a b dk) (h12 : ¬ b - a ≤ 12) (h0 : ¬ lim = 0) :
    ∃ Q, RdF lt dk a b lim wb wp (pdq lt dk a b lim wb wp) Q := by
  obtain ⟨s1, B1, hc1, s2, B2, hpv, s3, B3⟩ := rd_facts (lt := lt) (limit := lim) (wb := wb) (wp := wp) hO partialInsertionSort_holds reverseRange_holds hab hb hB
  refine ⟨rd lt dk a b lim wb wp, ?_, ?_, rd_lim_le, rfl, hc1, rd_dec, rd_not, rd_pi_yes, rd_pi_no, hpv, fun h => (pdq_done h12 h0 h).symm, ?_, ?_⟩
  · rintro rfl; exact rd_false
  · rintro rfl; exact rd_true
  · intro hp ha hl mid d4 hx
    obtain ⟨r1, r2, r3, r4, _⟩ := round_eq hO (partitionEqual_holds lt) ha hpv.1 hpv.2 (by omega) B3 hl hx
    refine ⟨r1, r2, r4, ?_⟩
    rw [pdq_eq h12 h0 hp (by simp [ha, hl]) (by rw [hx]; exact ⟨r1, r2⟩), hx]
  · intro hp hl mid ap d4 hx
    obtain ⟨r1, r2, r3, r4, r5, r6, r7⟩ := round_part hO (partition_holds lt) hpv.1 hpv.2 (by omega) B3 hx
    have h87 : (decide (a > 0) && !lt (rd lt dk a b lim wb wp).pi.1[a - 1]! (rd lt dk a b lim wb wp).pi.1[(rd lt dk a b lim wb wp).pivot]!) = false := by
      rcases hl with h | h
      · simp [h]
      · simp [h]
    refine ⟨r1, r2, r4, r5, fun h4 => ?_, fun h4 => ?_⟩
    · obtain ⟨pL, sL⟩ := pdq_sorts lt hO d4 a mid (rd lt dk a b lim wb wp).lim true true (by omega) (by omega) r4
      exact ⟨(r6 _ pL sL).1, by rw [pdq_left h12 h0 hp h87 (by rw [hx]; exact ⟨r1, r2⟩) (by rw [hx]; exact h4), hx]⟩
    · obtain ⟨pL, sL⟩ := pdq_sorts lt hO d4 (mid + 1) b (rd lt dk a b lim wb wp).lim true true (by omega) (by omega) r5
      exact ⟨(r7 _ pL sL).1, by rw [pdq_right h12 h0 hp h87 (by rw [hx]; exact ⟨r1, r2⟩) (by rw [hx]; exact h4), hx]⟩
end Go.Proofs.YtnacoplokjdglaaGreat

namespace Go.Proofs.YtnacoplokjdglaaGreat
open Go.RowKit Go.Maps Go.Sort
attribute [local go_sem] Oper.semAt_some

set_option maxHeartbeats 16000000 in
set_option maxRecDepth 100000 in
theorem soIns_call (cf : Int → Int → Int) (g : FuncId) (cb : Array Value) (blk off cap a b : Nat) (d0 d : Array Int) (w0 w : World)
    (eg : ∀ args w, (callFunc g args).run Tryz.prog w = .ok (.enter g args) w) (hC : CmpP g cb cf blk off d0 w0) (R : Row1 vi w0 blk off d0) (hS : SoW w0 blk off d0 d w) (hab : a ≤ b) (hb : b ≤ d0.size) (hsz : d0.size < 4611686018427387904) :
    Calls Tryz.prog 105 #[.slice (some ⟨blk, off, none⟩) d0.size cap, vi a, vi b, .func (.func g) #[] cb] w fun e w' => e = .returned (.tuple #[]) ∧ SoW w0 blk off d0 (Sort.insertionSort (ltOf cf) d a b) w' := by
  have HC := Lib.hid hC
  have HS := Lib.hid hS
  have mixed : Tryz.prog.follows .mixedOrders = true := by kernel_rfl
  clear hC hS
  have ha1 : IntKind.i64.wrap ((a : Int) + 1) = ((a + 1 : Nat) : Int) := by rw [IntWalk.i64_in _ (by omega)]; omega
  go_enter Tryz.func105, Tryz.ntmps105
  go_wp2_with fail
  go_loopw [8] (fun vi' wr => ∃ (i : Nat) (dk : Array Int), a < i ∧ i ≤ b + 1 ∧ vi' = vi (i : Nat) ∧ Hid (SoW w0 blk off d0 dk wr ∧ insOuter (ltOf cf) a b i dk = insOuter (ltOf cf) a b (a + 1) d)) (fun i _ => b + 1 - (intOf i).toNat)
  case atStart => exact ⟨a + 1, d, by omega, by omega, by first | rfl | go_num, Lib.hid ⟨HS.out, rfl⟩⟩
  case round =>
    obtain ⟨wj, rfl⟩ : ∃ wj : World, wj = wr := ⟨_, rfl⟩
    obtain ⟨i, dk, hai, hib, rfl, HJ⟩ := hrel
    have HO := Lib.hid HJ.out.2
    have S0 := Lib.hid HJ.out.1
    clear HJ
    by_cases hlt : i < b
    · have k1 : decide ((i : Int) < (b : Int)) = true := decide_eq_true (by omega)
      have k2 : (i : Int) < (b : Int) := by omega
      have hwi : IntKind.i64.wrap ((i : Int) + 1) = ((i + 1 : Nat) : Int) := by rw [IntWalk.i64_in _ (by omega)]; omega
      go_wp2_with fail
      go_loopw [9] (fun vj wr => ∃ (j : Nat) (dj : Array Int), a ≤ j ∧ j ≤ i ∧ vj = vi (j : Nat) ∧ Hid (SoW w0 blk off d0 dj wr ∧ insInner (ltOf cf) a j dj = insInner (ltOf cf) a i dk)) (fun j _ => (intOf j).toNat)
      case atStart => exact ⟨i, dk, by omega, Nat.le_refl _, rfl, Lib.hid ⟨S0.out, rfl⟩⟩
      case round =>
        clear S0
        obtain ⟨wq, rfl⟩ : ∃ wq : World, wq = wr := ⟨_, rfl⟩
        obtain ⟨j, dj, haj, hji, rfl, HJ⟩ := hrel
        have HI := Lib.hid HJ.out.2
        have SJ := Lib.hid HJ.out.1
        clear HJ
        have OUT := Lib.hid (show (j ≤ a ∨ (ltOf cf) dj[j]! dj[j - 1]! = false) → insOuter (ltOf cf) a b (i + 1) dj = insOuter (ltOf cf) a b (a + 1) d from fun hs => by
          rw [← HO.out, insOuter_go _ _ _ _ _ hlt, ← HI.out, insInner_stop _ _ _ _ hs])
        by_cases hja : a < j
        · obtain ⟨jp, hjp⟩ : ∃ q, q + 1 = j := ⟨j - 1, by omega⟩
          have ejp : j - 1 = jp := by omega
          have q1 : decide ((a : Int) < (j : Int)) = true := decide_eq_true (by omega)
          have q2 : (a : Int) < (j : Int) := by omega
          have q3 : (j : Int) < (d0.size : Int) := by omega
          have q4 : (jp : Int) < (d0.size : Int) := by omega
          have hwp : IntKind.i64.wrap ((j : Int) - 1) = (jp : Int) := by rw [IntWalk.i64_in _ (by omega)]; omega
          rw [ejp] at OUT
          cases hlv : (ltOf cf) dj[j]! dj[jp]! with
          | true =>
            obtain ⟨x, hx⟩ : ∃ x, x = dj[j]! := ⟨_, rfl⟩
            obtain ⟨y, hy⟩ : ∃ y, y = dj[jp]! := ⟨_, rfl⟩
            have la := SJ.out.cl R (i := j) (by omega)
            have lb := SJ.out.cl R (i := jp) (by omega)
            rw [← hx] at la
            rw [← hy] at lb
            have hc := SJ.out.cmp HC.out x y (by rw [hx]; exact SJ.out.mem (by omega)) (by rw [hy]; exact SJ.out.mem (by omega))
            have hd : decide (cf x y < 0) = true := by rw [hx, hy]; exact hlv
            have hv : cf x y < 0 := of_decide_eq_true hd
            clear hx hy
            go_wp2_with fail
            go_quiet_grown (first | (go_at_fn g; refine Calls.grown_of (hc _ _)))
            have SJ2 := Lib.hid (SJ.out.grown nq osq)
            clear la lb hc hd hv
            generalize grow (wq.drewN nq) osq = w2 at SJ2 ⊢
            clear nq osq
            have SJ23 := Lib.hid (SJ2.out.swp R (i := j) (j := jp) (by omega) (by omega))
            have ca := SJ2.out.c1 R (i := j) (by omega)
            have cb2 := SJ2.out.c1 R (i := jp) (by omega)
            have fa := SJ2.out.f1 R (i := j) (by omega)
            have fb := SJ2.out.f1 R (i := jp) (by omega)
            obtain ⟨ux, hux⟩ : ∃ x, x = dj[j]! := ⟨_, rfl⟩
            obtain ⟨uy, huy⟩ : ∃ y, y = dj[jp]! := ⟨_, rfl⟩
            obtain ⟨u2, cc⟩ := SJ2.out.c2 R (i := j) (j := jp) (by omega) (by omega) (vi uy)
            rw [← hux] at ca SJ23
            rw [← huy] at cb2 SJ23
            clear hux huy
            go_wp2_with fail
            go_big_region_o
            clear ca cb2 fa fb cc
            generalize ((w2.setCell ⟨blk, off + j, none⟩ (vi uy)).setCell ⟨blk, off + jp, none⟩ (vi ux)).drew = w3 at SJ23 ⊢
            go_wp2_with fail
            exact ⟨⟨jp, Sort.swp dj j jp, by omega, by omega, by first | rfl | go_num, Lib.hid ⟨SJ23.out, by rw [← HI.out, insInner_go (ltOf cf) a j dj hja (by rw [ejp]; exact hlv), ejp]⟩⟩, by simp only [intOf]; omega⟩
          | false =>
            have HN := Lib.hid (OUT.out (Or.inr hlv))
            obtain ⟨x, hx⟩ : ∃ x, x = dj[j]! := ⟨_, rfl⟩
            obtain ⟨y, hy⟩ : ∃ y, y = dj[jp]! := ⟨_, rfl⟩
            have la := SJ.out.cl R (i := j) (by omega)
            have lb := SJ.out.cl R (i := jp) (by omega)
            rw [← hx] at la
            rw [← hy] at lb
            have hc := SJ.out.cmp HC.out x y (by rw [hx]; exact SJ.out.mem (by omega)) (by rw [hy]; exact SJ.out.mem (by omega))
            have hd : decide (cf x y < 0) = false := by rw [hx, hy]; exact hlv
            have hv : ¬ cf x y < 0 := of_decide_eq_false hd
            clear hx hy
            go_wp2_with fail
            go_quiet_grown (first | (go_at_fn g; refine Calls.grown_of (hc _ _)))
            have SJ2 := Lib.hid (SJ.out.grown nq osq)
            clear la lb hc hd hv
            generalize grow (wq.drewN nq) osq = w2 at SJ2 ⊢
            clear nq osq
            go_wp2_with fail
            exact ⟨⟨i + 1, dj, by omega, by omega, by first | rfl | go_num, Lib.hid ⟨SJ2.out, HN.out⟩⟩, by simp only [intOf]; omega⟩
        · have q1 : decide ((a : Int) < (j : Int)) = false := decide_eq_false (by omega)
          have q2 : ¬ (a : Int) < (j : Int) := by omega
          have HN := Lib.hid (OUT.out (Or.inl (by omega)))
          go_wp2_with fail
          go_big_region_o
          have SJ2 := Lib.hid SJ.out.drew
          clear SJ
          generalize wq.drew = w2 at SJ2 ⊢
          go_wp2_with fail
          exact ⟨⟨i + 1, dj, by omega, by omega, by first | rfl | go_num, Lib.hid ⟨SJ2.out, HN.out⟩⟩, by simp only [intOf]; omega⟩
    · have k1 : decide ((i : Int) < (b : Int)) = false := decide_eq_false (by omega)
      have k2 : ¬ (i : Int) < (b : Int) := by omega
      go_wp2_with fail
      go_end0
      exact ⟨rfl, by unfold Sort.insertionSort; rw [← HO.out, insOuter_stop _ _ _ _ _ hlt]; exact S0.out⟩
end Go.Proofs.YtnacoplokjdglaaGreat
