/- Texts of one proof, one behind the other: ChOrd. -/
import Derived.Test.YtjpmimanigjjoaaJo7
set_option linter.all false
/- crucibleref09.Writers and Orders: what they lay in memory. -/
namespace Go.Proofs.Ytjpmimanigjjoaa
open Go.RowKit Go.Maps

set_option maxRecDepth 100000 in
set_option maxHeartbeats 4000000 in
theorem refWriters_call (v g : Value) (ts : List GTxn) (G : FaL) (key : Int) (w : World) (hv : RdTxns w v ts) (hgood : GoodTs ts) (hg : RdSaid w g G) :
    Calls Try.prog 13 #[v, g, vi key] w fun e w' => ∃ v', e = .returned v' ∧ OwI w.heap.size w' v' (wrl ts G key) ∧ Below w.heap.size w w' := by
  have HV := Lib.hid hv
  have HG := Lib.hid hg
  have HGD := Lib.hid hgood
  have HOK := Lib.hid hgood.ok
  have htl : ts.length ≤ 60 := hgood.len
  obtain ⟨a, len, cap, rfl, rfl, hmm, -⟩ := hv.at
  have HO0 := Lib.hid (World.ownsRow_lit (base := w.heap.size) (e := 3) (size := 1) w #[] 0 (Nat.le_refl _) (by simp [maxLen]) rfl)
  have HB0 := Lib.hid ((Below.refl w.heap.size w).alloc (Nat.le_refl _) (.cells #[] 3))
  clear hv hgood hg
  go_enter Try.func13, Try.ntmps13
  go_wp2_with fail
  have HS0 := Lib.hid (show OwI w.heap.size (w.alloc (.cells #[] 3)) (.slice (some ⟨w.heap.size, 0, none⟩) 0 0) (wrlK ts G key 0) from by simpa [OwI, wrlK] using HO0.out)
  generalize w.alloc (.cells #[] 3) = w0 at *
  go_loopw [7, 8, 12] (fun ov _ kv wr => ∃ k : Nat, k ≤ ts.length ∧ kv = .int .i64 k ∧ OwI w.heap.size wr ov (wrlK ts G key k) ∧ Below w.heap.size w wr) (fun _ _ kv _ => ts.length - (intOf kv).toNat)
  case atStart => exact ⟨0, Nat.zero_le _, rfl, HS0.out, HB0.out⟩
  case round =>
    obtain ⟨wk, rfl⟩ : ∃ wk : World, wk = wr := ⟨_, rfl⟩
    obtain ⟨k, hk, rfl, ho, hb⟩ := hrel
    have HBk := Lib.hid hb
    have HO := Lib.hid ho
    have hbs := hb.size
    obtain ⟨ao, co, rfl⟩ : ∃ a c, u7 = .slice a (wrlK ts G key k).length c := by
      rcases ho.2 with ⟨hv, h0⟩ | ⟨g, cap, cur, hv, _⟩
      · exact ⟨none, 0, by rw [hv, h0]⟩
      · exact ⟨_, _, hv⟩
    clear ho hb
    by_cases hlt : k < ts.length
    · obtain ⟨t, ht⟩ := some_at hlt
      obtain ⟨_, _, _, e5, -, -, hcl⟩ := HV.out.at
      cases e5
      obtain ⟨b, off, oa, oc, rfl, hr, k0', k1', k2'⟩ := hcl k t ht
      have hkI : (k : Int) < (ts.length : Int) := by omega
      have wk1 : IntKind.i64.wrap ((k : Int) + 1) = ((k + 1 : Nat) : Int) := by rw [IntWalk.i64_in _ (by omega)]; omega
      have HN := Lib.hid (wrlK_succ ts G key k)
      have hwl := wrlK_le ts G key k
      have HWK := Lib.hid (refWk_good HGD.out ht key)
      have HI := Lib.hid (refIs_call _ _ ts G k wk (HV.out.later HBk.out) HOK.out (HG.out.later HBk.out) hlt)
      have HI1 := Lib.hid (isI_one HGD.out.uniq G k)
      have HINW := Lib.hid (show inW ts G key k = ((isM ts G k).1 && wrOf ts k key) from rfl)
      have hopl := ((HGD.out.txn t (List.mem_of_getElem? ht)).2.2)
      have HR := Lib.hid hr
      have HK0 := Lib.hid k0'
      have HK1 := Lib.hid k1'
      have HK2 := Lib.hid k2'
      clear hcl ht hr k0' k1' k2'
      have SKIP := Lib.hid (fun (h : inW ts G key k = false) => show wrlK ts G key (k + 1) = wrlK ts G key k from by rw [HN.out, h]; simp)
      have PUT := Lib.hid (fun (h : inW ts G key k = true) => show wrlK ts G key (k + 1) = wrlK ts G key k ++ [(k : Int)] from by rw [HN.out, h]; rfl)
      clear HN
      generalize isI ts G k = q at *
      cases h1 : (q == 1) with
      | false =>
        rw [h1] at HI1
        have HS := Lib.hid (SKIP.out (by rw [HINW.out, ← HI1.out]; rfl))
        go_wp2_with (go_at_call 33; refine HI.out.mono ?_; rintro e w3 ⟨rfl, hb3⟩)
        exact ⟨⟨k + 1, by omega, rfl, by rw [HS.out]; exact own_below HO.out hb3, HBk.out.trans (hb3.mono HBk.out.size)⟩, by simp only [intOf]; omega⟩
      | true =>
        rw [h1] at HI1
        obtain ⟨wb, hwb⟩ : ∃ b, wrOf ts k key = b := ⟨_, rfl⟩
        rw [hwb] at HWK HINW
        clear hwb
        cases wb with
        | false =>
          have HS := Lib.hid (SKIP.out (by rw [HINW.out]; simp))
          go_wp2_with (first
            | (go_at_call 33; refine HI.out.mono ?_; rintro e w3 ⟨rfl, hb3⟩; have HB3 := Lib.hid (HBk.out.trans (hb3.mono HBk.out.size)); have HO3 := Lib.hid (own_below HO.out hb3); have k0 := cell_later HB3.out HK0.out; have k1 := cell_later HB3.out HK1.out; have k2 := cell_later HB3.out HK2.out; clear hb3)
            | (go_at_call 34; refine (refWk_call t.client t.state _ t.ops key _ (HR.out.later HB3.out) (by omega)).mono ?_; rw [HWK.out]; rintro e w4 ⟨rfl, hb4⟩))
          exact ⟨⟨k + 1, by omega, rfl, by rw [HS.out]; exact own_below HO3.out hb4, HB3.out.trans (hb4.mono HB3.out.size)⟩, by simp only [intOf]; omega⟩
        | true =>
          have HS := Lib.hid (PUT.out (by rw [HINW.out, ← HI1.out]; rfl))
          clear HI1 HINW SKIP PUT
          generalize wrlK ts G key k = acc at *
          go_upto_region 6 with (first
            | (go_at_call 33; refine HI.out.mono ?_; rintro e w3 ⟨rfl, hb3⟩; have HB3 := Lib.hid (HBk.out.trans (hb3.mono HBk.out.size)); have HO3 := Lib.hid (own_below HO.out hb3); have k0 := cell_later HB3.out HK0.out; have k1 := cell_later HB3.out HK1.out; have k2 := cell_later HB3.out HK2.out; clear hb3)
            | (go_at_call 34; refine (refWk_call t.client t.state _ t.ops key _ (HR.out.later HB3.out) (by omega)).mono ?_; rw [HWK.out]; rintro e w4 ⟨rfl, hb4⟩))
          have HB4 := Lib.hid (HB3.out.trans (hb4.mono HB3.out.size))
          have HO4 := Lib.hid (own_below HO3.out hb4)
          have h4s := HB4.out.size
          clear hb4 k0 k1 k2
          go_wp2_with (at_builtin; refine wpList_append_src rfl _ _ 23 rfl eltI w.heap.size acc.length _ (HO4.out.alloc _) rfl 1 (viC k) (src_new (cs := #[vi k]) rfl rfl) rfl (by intro u hu; simp [viC] at hu; subst hu; rfl) (by omega) (by omega) (by simp; omega) ?_; intro v5 w5 ho5 hg5 _)
          exact ⟨⟨k + 1, by omega, rfl, by rw [HS.out]; simpa [OwI] using ho5, (HB4.out.alloc h4s _).grown hg5 (by simp; omega) (fun j hj => (World.ownsRow.lt HO4.out j hj).1)⟩, by simp only [intOf]; omega⟩
    · obtain rfl : k = ts.length := by omega
      go_wp2_with fail
      go_ret
      exact ⟨_, rfl, HO.out, HBk.out⟩

theorem Try.infoII : (Try.prog.info? 23).map (fun i => (i.zero, i.size, i.bytes)) = some (some (.slice none 0 0), 1, 24) := by kernel_rfl
theorem eltII : Elt Try.prog 37 23 1 24 (.slice none 0 0) := by
  obtain ⟨i0, hi, hz0, hz1, hz2⟩ := info_parts Try.infoII
  exact ⟨Try.underlying37, by decide, rfl, i0, hi, hz0, hz1, hz2⟩
/-- Rows of ints of one's own, all short. -/
def Els (n : Nat) (w : World) (us : List Value) : Prop := ∀ u ∈ us, ∃ xs, OwI 0 w u xs ∧ (∀ x ∈ xs, i64 x) ∧ xs.length ≤ n
theorem Els.below {n : Nat} {A B : World} {us : List Value} (h : Els n A us) (hb : Below A.heap.size A B) : Els n B us := fun u hu => by
  obtain ⟨xs, h1, h2, h3⟩ := h u hu
  exact ⟨xs, own_below h1 hb, h2, h3⟩
theorem Els.kept {n m b : Nat} {A B : World} {us xs : List Value} {v : Value} (h : Els n A us) (hr : A.ownsRow b 23 1 v m xs) (hg : A.grownBy B v.ownBlock) : Els n B us := fun u hu => by
  obtain ⟨ys, h1, h2, h3⟩ := h u hu
  exact ⟨ys, World.ownsRow.kept h1 hg (own_apart hr h1 (by decide)), h2, h3⟩
theorem Els.alloc {n : Nat} {A : World} {us : List Value} (h : Els n A us) (o : Obj) : Els n (A.alloc o) us := h.below ((Below.refl _ _).alloc (Nat.le_refl _) o)
def OrdersQ (n : Nat) (w : World) (e : Ending) (w' : World) : Prop := ∃ v us, e = .returned v ∧ w'.ownsRow w.heap.size 23 1 v us.length us ∧ us.length ≤ 10 ^ n ∧ Els n w' us ∧ Below w.heap.size w w'

set_option maxRecDepth 100000 in
set_option maxHeartbeats 8000000 in
theorem orders_call : ∀ (n : Nat) (l : List Int) (v : Value) (w : World), n ≤ 6 → l.length = n → RdInts w v l → Calls Try.prog 14 #[v] w (OrdersQ n w) := by
  intro n
  induction n with
  | zero =>
    intro l v w _ hl hv
    obtain ⟨a, len, cap, rfl, rfl, hm, -⟩ := hv.at
    rw [hl]
    have HO1 := Lib.hid (World.ownsRow_lit (base := 0) (e := 3) (size := 1) w #[] 0 (Nat.zero_le _) (by simp [maxLen]) rfl)
    have HO2 := Lib.hid (World.ownsRow_lit (base := w.heap.size) (e := 23) (size := 1) (w.alloc (.cells #[] 3)) #[.slice (some ⟨w.heap.size, 0, none⟩) 0 0] 1 (by simp) (by simp [maxLen]) rfl)
    clear hv hl
    go_enter Try.func14, Try.ntmps14
    go_wp2_with fail
    go_ret
    refine ⟨_, [.slice (some ⟨w.heap.size, 0, none⟩) 0 0], rfl, by simpa using HO2.out, by simp, fun u hu => ?_, ((Below.refl _ _).alloc (Nat.le_refl _) _).alloc (by simp) _⟩
    simp at hu
    subst hu
    exact ⟨[], World.ownsRow.alloc (by simpa [OwI] using HO1.out) _, by simp, by simp⟩
  | succ n ih =>
    intro l v w hn6 hl hv
    have IH := Lib.hid ih
    have HV := Lib.hid hv
    have hc : 10 ^ n ≤ 100000 := Nat.le_trans (Nat.pow_le_pow_right (by omega) (show n ≤ 5 by omega)) (by decide)
    have HP := Lib.hid (show 10 ^ (n + 1) = 10 * 10 ^ n by rw [Nat.pow_succ]; omega)
    obtain ⟨c, hcc⟩ : ∃ c, 10 ^ n = c := ⟨_, rfl⟩
    rw [hcc] at hc HP
    have HCC := Lib.hid hcc
    obtain ⟨a, len, cap, rfl, rfl, hm, -⟩ := hv.at
    obtain ⟨ad, rfl⟩ : ∃ ad, a = some ad := by
      obtain ⟨x, hx⟩ := some_at (l := l) (k := 0) (by omega)
      obtain ⟨_, _, _, e5, -, -, hul⟩ := hv.at
      cases e5
      obtain ⟨b, off, hb, _⟩ := hul 0 x hx
      exact ⟨_, hb⟩
    have HO0 := Lib.hid (World.ownsRow_lit (base := w.heap.size) (e := 23) (size := 1) w #[] 0 (Nat.le_refl _) (by simp [maxLen]) rfl)
    have HB0 := Lib.hid ((Below.refl w.heap.size w).alloc (Nat.le_refl _) (.cells #[] 23))
    have e0 : ((l.length : Int) == 0) = false := beq_eq_false_iff_ne.2 (by omega)
    have HL := Lib.hid hl
    have hl7 : l.length ≤ 6 := by omega
    clear ih hv hcc hl
    go_enter Try.func14, Try.ntmps14
    go_wp2_with fail
    have HS0 := Lib.hid (show (w.alloc (.cells #[] 23)).ownsRow w.heap.size 23 1 (.slice (some ⟨w.heap.size, 0, none⟩) 0 0) ([] : List Value).length [] from by simpa using HO0.out)
    generalize w.alloc (.cells #[] 23) = w0 at *
    go_loopw [3, 4, 5, 7, 16, 30, 31, 32] (fun ov _ _ _ kv _ _ _ wr => ∃ (k : Nat) (us : List Value), k ≤ l.length ∧ kv = .int .i64 k ∧ us.length ≤ k * c ∧ Hid (wr.ownsRow w.heap.size 23 1 ov us.length us ∧ Els (n + 1) wr us ∧ Below w.heap.size w wr)) (fun _ _ _ _ kv _ _ _ _ => l.length - (intOf kv).toNat)
    case atStart => exact ⟨0, [], Nat.zero_le _, rfl, by simp, Lib.hid ⟨HS0.out, fun u hu => by simp at hu, HB0.out⟩⟩
    case round =>
      obtain ⟨wk, rfl⟩ : ∃ wk : World, wk = wr := ⟨_, rfl⟩
      obtain ⟨k, us, hk, rfl, hus, HJ⟩ := hrel
      have HO := Lib.hid HJ.out.1
      have HE := Lib.hid HJ.out.2.1
      have HBk := Lib.hid HJ.out.2.2
      clear HJ
      have hkc : k * c ≤ 6 * 100000 := Nat.mul_le_mul (by omega) hc
      have hbs := HBk.out.size
      obtain ⟨ao, co, rfl⟩ : ∃ a c, u3 = .slice a us.length c := by
        rcases HO.out.2 with ⟨hv, h0⟩ | ⟨g, cap, cur, hv, _⟩
        · exact ⟨none, 0, by rw [hv, h0]⟩
        · exact ⟨_, _, hv⟩
      by_cases hlt : k < l.length
      · obtain ⟨x, hx⟩ := some_at hlt
        have HVk := Lib.hid (HV.out.later HBk.out)
        obtain ⟨_, _, _, e5, -, -, hul⟩ := HVk.out.at
        cases e5
        obtain ⟨b, off, hadr, x0, hxi⟩ := hul k x hx
        cases hadr
        have hcap : l.length ≤ cap := by
          obtain ⟨_, _, _, h1, _, _, hlc, _⟩ := HV.out
          cases h1
          exact hlc
        have hkI : (k : Int) < (l.length : Int) := by omega
        have wk1 : IntKind.i64.wrap ((k : Int) + 1) = (k : Int) + 1 := IntWalk.i64_in _ (by omega)
        obtain ⟨a2, n2, c2, hsl⟩ := slicedY (some ⟨b, off, none⟩) (k + 1) l.length cap 1
        have hn2 : n2 = l.length - (k + 1) := by unfold sliced at hsl; cases hsl; rfl
        have hdr : ∀ W, (Instr.slice 23 (.slice (some ⟨b, off, none⟩) l.length cap) (some (.int .i64 ((k : Int) + 1))) none none).run Try.prog W = .ok (.slice a2 n2 c2) W := fun W => by
          have h1 := run_dropY (b := b) (off := off) (n := l.length) (c := cap) (k := k + 1) (by omega) W
          rw [hsl] at h1
          exact h1
        have htk : ∀ W, (Instr.slice 23 (.slice (some ⟨b, off, none⟩) l.length cap) none (some (.int .i64 k)) none).run Try.prog W = .ok (.slice (some ⟨b, off, none⟩) k cap) W := run_takeY (by omega)
        have hs1 := (HVk.out.takeY k (by omega)).src
        have hs2 := (HVk.out.dropY (k + 1) (by omega)).src
        rw [hsl] at hs2
        have hl1 : (l.take k).length = k := by simp; omega
        have hl2 : (l.drop (k + 1)).length = n2 := by rw [hn2]; simp
        rw [hl1] at hs1
        rw [hl2] at hs2
        have HSR1 := Lib.hid (hs1.below (((Below.refl wk.heap.size wk).drew).alloc (Nat.le_refl _) (.cells #[] 3)))
        have HSR2 := Lib.hid hs2
        have HOe := Lib.hid (World.ownsRow_lit (base := wk.heap.size) (e := 3) (size := 1) wk.drew #[] 0 (Nat.le_refl _) (by simp [maxLen]) rfl)
        have HBe := Lib.hid (((Below.refl wk.heap.size wk).drew).alloc (Nat.le_refl _) (.cells #[] 3))
        have hrl : (l.take k ++ l.drop (k + 1)).length = n := by rw [List.length_append, hl1, hl2]; have := HL.out; omega
        have HRL := Lib.hid hrl
        have HRI := Lib.hid (show ∀ y ∈ l.take k ++ l.drop (k + 1), i64 y from fun y hy => HV.out.i64s y (by
          rcases List.mem_append.1 hy with h | h
          · exact List.mem_of_mem_take h
          · exact List.mem_of_mem_drop h))
        have HL1 := Lib.hid hl1
        have HL2 := Lib.hid hl2
        have hn2b : n2 ≤ 6 := by omega
        have HN2 := Lib.hid hn2
        have hwd : wk.drew.heap.size = wk.heap.size := rfl
        have HXK := Lib.hid hx
        clear hxi
        clear hul hx hsl hs1 hs2 hl1 hl2 hrl hn2
        go_upto_region 7 with fail
        go_region_law (first
          | (refine step_append_src rfl _ _ 23 rfl eltI wk.heap.size 0 [] HOe.out rfl k ((l.take k).flatMap viC) HSR1.out rfl (viY_one _) (by omega) (by omega) (by simp) ?_; intro vA wA hrA hgA _; have HRA := Lib.hid hrA; have HBA := Lib.hid (HBe.out.grown hgA (by simp) (fun z hz => by simp [Value.ownBlock] at hz; omega)); clear hrA hgA)
          | (refine step_append_src rfl _ _ 23 rfl eltI wk.heap.size (0 + k) ([] ++ (l.take k).flatMap viC) HRA.out rfl n2 ((l.drop (k + 1)).flatMap viC) (HSR2.out.below HBA.out) rfl (viY_one _) (by omega) (by omega) HBA.out.size ?_; intro v7 w7 hr7 hg7 _; have HR7 := Lib.hid hr7; have HB7 := Lib.hid (HBA.out.grown hg7 HBA.out.size (fun z hz => (World.ownsRow.lt HRA.out z hz).1)); clear hr7 hg7))
        all_goals
          have HRR := Lib.hid (show RdInts w7 v7 (l.take k ++ l.drop (k + 1)) from OwI.rdY (base := wk.heap.size) (by
            have h1 := HR7.out
            rw [List.nil_append, ← List.flatMap_append, Nat.zero_add] at h1
            unfold OwI
            rw [List.length_append, HL1.out, HL2.out]
            exact h1) HRI.out)
          have HOC := Lib.hid (IH.out _ v7 w7 (by omega) HRL.out HRR.out)
          go_wp2_with (go_at_call 14; refine HOC.out.mono ?_; rintro e w8 ⟨v8, us8, rfl, ho8, hl8, he8, hb8⟩; obtain ⟨a8, c8, rfl, h8g⟩ := own_shapeY ho8)
          rw [HCC.out] at hl8
          have HB8 := Lib.hid (HB7.out.trans (hb8.mono HB7.out.size))
          have HBz := Lib.hid (HBk.out.trans (HB8.out.mono HBk.out.size))
          have HOo := Lib.hid (own_below HO.out HB8.out)
          have HEo := Lib.hid (HE.out.below HB8.out)
          have HAP := Lib.hid (show ApartV (.slice a8 us8.length c8) (.slice ao us.length co) from fun g hg e => by
            have h1 := (World.ownsRow.lt ho8 g hg).1
            have h2 := (World.ownsRow.lt HO.out g e).2
            have := HB7.out.size
            omega)
          have HO8 := Lib.hid ho8
          have HE8 := Lib.hid he8
          have hw8 : w.heap.size ≤ w8.heap.size := HBz.out.size
          clear hb8 ho8 he8 HRR HOC HR7 HRA HBA HB7 HSR1 HSR2 HOe HBe HO HE htk hdr HL1 HL2 HN2 HRI HRL
          go_loopw [3, 7, 32] (fun ov _ jv wr => ∃ (j : Nat) (us' : List Value), j ≤ us8.length ∧ jv = .int .i64 j ∧ us'.length ≤ k * c + j ∧ Hid (wr.ownsRow w.heap.size 23 1 ov us'.length us' ∧ Els (n + 1) wr us' ∧ wr.ownsRow w7.heap.size 23 1 (.slice a8 us8.length c8) us8.length us8 ∧ Els n wr us8 ∧ ApartV (.slice a8 us8.length c8) ov ∧ Below w.heap.size w wr)) (fun _ _ jv _ => us8.length - (intOf jv).toNat)
          case atStart => exact ⟨0, us, Nat.zero_le _, rfl, by omega, Lib.hid ⟨HOo.out, HEo.out, HO8.out, HE8.out, HAP.out, HBz.out⟩⟩
          case round =>
            clear HOo HEo HO8 HE8 HAP HBz
            obtain ⟨wj, rfl⟩ : ∃ wk : World, wk = wr := ⟨_, rfl⟩
            obtain ⟨j, us2, hj, rfl, hu2, HJ⟩ := hrel
            have HO2 := Lib.hid HJ.out.1
            have HE2 := Lib.hid HJ.out.2.1
            have HO8 := Lib.hid HJ.out.2.2.1
            have HE8 := Lib.hid HJ.out.2.2.2.1
            have HAP := Lib.hid HJ.out.2.2.2.2.1
            have HBj := Lib.hid HJ.out.2.2.2.2.2
            clear HJ
            have hbj := HBj.out.size
            obtain ⟨ao2, co2, rfl, -⟩ := own_shapeY HO2.out
            by_cases hjl : j < us8.length
            · obtain ⟨u, hu⟩ := some_at hjl
              obtain ⟨g8, rfl, hg8⟩ := h8g (by omega)
              have hjI : (j : Int) < (us8.length : Int) := by omega
              have wj1 : IntKind.i64.wrap ((j : Int) + 1) = ((j + 1 : Nat) : Int) := by rw [IntWalk.i64_in _ (by omega)]; omega
              have hcu := World.ownsRow.cells HO8.out (g := g8) rfl j u (by simpa using hu)
              rw [addr_add, Nat.zero_add] at hcu
              obtain ⟨xs, hx1, hx2, hx3⟩ := HE8.out u (List.mem_of_getElem? hu)
              obtain ⟨ax, cx, rfl, -⟩ := own_shapeY hx1
              have x0' := cell_later HBj.out (show w.cell? ⟨b, off + k, none⟩ = some (vi x) from by
                obtain ⟨_, _, _, e5, -, -, hul⟩ := HV.out.at
                cases e5
                obtain ⟨_, _, hb, hx, _⟩ := hul k x HXK.out
                cases hb
                exact hx)
              have HX1 := Lib.hid hx1
              have HX2 := Lib.hid (And.intro hx2 hx3)
              have hxl : xs.length ≤ n := hx3
              have HOn := Lib.hid (World.ownsRow_lit (base := wj.heap.size) (e := 3) (size := 1) wj #[vi x] 1 (Nat.le_refl _) (by simp [maxLen]) rfl)
              have HBn := Lib.hid ((Below.refl wj.heap.size wj).alloc (Nat.le_refl _) (.cells #[vi x] 3))
              clear hx1 hx2 hx3 hu
              go_wp2_with (first
                | (at_builtin; refine wpList_append_src rfl _ _ 23 rfl eltI wj.heap.size 1 [vi x] HOn.out rfl xs.length (xs.flatMap viC) (own_src (own_below HX1.out HBn.out)) rfl (viY_one _) (by omega) (by omega) (by simp) ?_; intro vA wA hrA hgA _; have HRA := Lib.hid hrA; have HBA := Lib.hid (HBn.out.grown hgA (by simp) (fun z hz => by simp [Value.ownBlock] at hz; omega)); obtain ⟨aA, cA, rfl, -⟩ := own_shapeY hrA; clear hrA hgA)
                | (at_builtin; refine wpListAt rfl _ _ 37 rfl eltII w.heap.size us2.length _ ((own_below HO2.out HBA.out).alloc _) rfl 1 [.slice aA (1 + xs.length) cA] (src_new (cs := #[.slice aA (1 + xs.length) cA]) rfl rfl) rfl (by intro q hq; simp at hq; subst hq; rfl) (by omega) (by omega) (by have := HBA.out.size; simp; omega) ?_; intro vB wB hrB hgB hat; have HRB := Lib.hid hrB; have HGB := Lib.hid hgB; have HAT := Lib.hid hat; clear hrB hgB hat))
              have HO2a := Lib.hid (World.ownsRow.alloc (own_below HO2.out HBA.out) (.cells #[.slice aA (1 + xs.length) cA] 23))
              have hA8 := (World.ownsRow.lt HO8.out g8 rfl).2
              have hAs := HBA.out.size
              have HEU := Lib.hid (show Els (n + 1) wB (us2 ++ [.slice aA (1 + xs.length) cA]) from fun q hq => by
                rcases List.mem_append.1 hq with hq | hq
                · exact (((HE2.out.below HBA.out).alloc _).kept HO2a.out HGB.out) q hq
                · simp at hq
                  subst hq
                  refine ⟨x :: xs, World.ownsRow.kept (World.ownsRow.alloc (own_mono (b := wj.heap.size) (b' := 0) ?_ (Nat.zero_le _)) _) HGB.out (own_apart HO2a.out (World.ownsRow.alloc (own_mono (b' := 0) HRA.out (Nat.zero_le _)) _) (by decide)), fun y hy => ?_, by simp; omega⟩
                  · have h1 := HRA.out
                    simpa [viC, Nat.add_comm] using h1
                  · rcases List.mem_cons.1 hy with rfl | hy
                    · exact HV.out.i64s _ (List.mem_of_getElem? HXK.out)
                    · exact HX2.out.1 y hy)
              have HAP2 := Lib.hid (show ApartV (.slice (some ⟨g8, 0, none⟩) us8.length c8) vB from fun g hg e => by
                rcases HAT.out with h | h
                · exact HAP.out g hg (h.symm.trans e)
                · rw [h] at e
                  have e1 := Option.some.inj e
                  have e2 : g8 = g := Option.some.inj hg
                  simp at e1
                  omega)
              have HO8b := Lib.hid (World.ownsRow.kept (World.ownsRow.alloc (own_below HO8.out HBA.out) (.cells #[.slice aA (1 + xs.length) cA] 23)) HGB.out (.inr (fun e => HAP.out g8 rfl e.symm)))
              have HE8b := Lib.hid (((HE8.out.below HBA.out).alloc (.cells #[.slice aA (1 + xs.length) cA] 23)).kept HO2a.out HGB.out)
              have HBf := Lib.hid (((HBj.out.trans (HBA.out.mono hbj)).alloc (Nat.le_trans hbj hAs) (.cells #[.slice aA (1 + xs.length) cA] 23)).grown HGB.out (by simp; omega) (fun z hz => (World.ownsRow.lt HO2.out z hz).1))
              exact ⟨⟨j + 1, us2 ++ [.slice aA (1 + xs.length) cA], by omega, rfl, by simp; omega, Lib.hid ⟨by simpa using HRB.out, HEU.out, HO8b.out, HE8b.out, HAP2.out, HBf.out⟩⟩, by simp only [intOf]; omega⟩
            · obtain rfl : j = us8.length := by omega
              go_wp2_with fail
              refine ⟨⟨k + 1, us2, by omega, rfl, ?_, Lib.hid ⟨HO2.out, HE2.out, HBj.out⟩⟩, by simp only [intOf]; omega⟩
              rw [Nat.succ_mul]
              omega
      · obtain rfl : k = l.length := by omega
        go_wp2_with fail
        go_ret
        refine ⟨_, us, rfl, HO.out, ?_, HE.out, HBk.out⟩
        rw [HP.out]
        exact Nat.le_trans hus (Nat.mul_le_mul (by omega) (Nat.le_refl _))
end Go.Proofs.Ytjpmimanigjjoaa
