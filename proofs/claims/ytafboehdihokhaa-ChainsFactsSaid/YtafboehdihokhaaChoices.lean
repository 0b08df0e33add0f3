import Derived.Test.YtafboehdihokhaaChs
namespace Go.Proofs.Ytafboehdihokhaa
open Go.RowKit Go.Maps

def stOf (ts : List GTxn) (i : Nat) : Int := (ts[i]?.map (·.state)).getD 0
def wrOf (ts : List GTxn) (i : Nat) (key : Int) : Bool := (ts[i]?.map (fun t => writesK t key)).getD false
/-- Is it open whether a transaction was done? -/
def openB (S : List Bool) (i : Nat) (t : GTxn) : Bool := t.state == 0 && !(S[i]?.getD false) && decide (0 < (writesM t.ops).length)
def cmS (S : List Bool) (ts : List GTxn) (n : Nat) : List GChoice := (List.range n).filterMap (fun i => ts[i]?.bind (fun t => if openB S i t then some ⟨1, 0, i, 0⟩ else none))
def condB (ts : List GTxn) (key a b : Nat) : Bool := stOf ts a != 2 && stOf ts b != 2 && wrOf ts a key && wrOf ts b key
def befA (ts : List GTxn) (key b n : Nat) : List GChoice := (List.range n).filterMap (fun a => if condB ts key a b then some ⟨2, key, a, b⟩ else none)
def befB (ts : List GTxn) (key n : Nat) : List GChoice := (List.range n).flatMap (fun b => befA ts key b b)
def befK (ts : List GTxn) (n : Nat) : List GChoice := (List.range n).flatMap (fun key => befB ts key ts.length)
/-- chains.Choices. -/
def choicesM (ts : List GTxn) : List GChoice := cmS (sureM ts) ts ts.length ++ befK ts 16

theorem cmS_succ {S : List Bool} {ts : List GTxn} {n : Nat} {t : GTxn} (h : ts[n]? = some t) : cmS S ts (n + 1) = cmS S ts n ++ (if openB S n t then [⟨1, 0, n, 0⟩] else []) := by
  by_cases hc : openB S n t <;> simp [cmS, List.range_succ, h, hc]
theorem befA_succ (ts : List GTxn) (key b n : Nat) : befA ts key b (n + 1) = befA ts key b n ++ (if condB ts key n b then [⟨2, key, n, b⟩] else []) := by
  by_cases hc : condB ts key n b <;> simp [befA, List.range_succ, hc]
theorem befB_succ (ts : List GTxn) (key n : Nat) : befB ts key (n + 1) = befB ts key n ++ befA ts key n n := by
  unfold befB; rw [List.range_succ, List.flatMap_append]; simp
theorem befK_succ (ts : List GTxn) (n : Nat) : befK ts (n + 1) = befK ts n ++ befB ts n ts.length := by
  unfold befK; rw [List.range_succ, List.flatMap_append]; simp
theorem cmS_le (S : List Bool) (ts : List GTxn) (n : Nat) : (cmS S ts n).length ≤ n := by
  unfold cmS; exact Nat.le_trans (List.length_filterMap_le _ _) (by simp)
theorem befA_le (ts : List GTxn) (key b n : Nat) : (befA ts key b n).length ≤ n := by
  unfold befA; exact Nat.le_trans (List.length_filterMap_le _ _) (by simp)
theorem befB_le (ts : List GTxn) (key : Nat) : ∀ n, n ≤ 4096 → (befB ts key n).length ≤ n * 4096 := by
  intro n
  induction n with
  | zero => intro _; simp [befB]
  | succ n ih =>
    intro hn
    rw [befB_succ, List.length_append]
    have := ih (by omega)
    have := befA_le ts key n n
    omega
theorem befK_le (ts : List GTxn) (h : ts.length ≤ 4096) : ∀ n, (befK ts n).length ≤ n * 16777216 := by
  intro n
  induction n with
  | zero => simp [befK]
  | succ n ih =>
    rw [befK_succ, List.length_append]
    have := befB_le ts n ts.length h
    omega

set_option maxRecDepth 100000 in
set_option maxHeartbeats 2000000 in
theorem choices_call (v : Value) (ts : List GTxn) (w : World) (hv : RdTxns w v ts) (hok : OkTxns ts) (htl : ts.length ≤ 4096) :
    Calls Try.prog 10 #[v] w fun e w' => ∃ v', e = .returned v' ∧ OwCh 32 w.heap.size w' v' (choicesM ts) ∧ Below w.heap.size w w' := by
  have HV := Lib.hid hv
  have HOK := Lib.hid hok
  obtain ⟨a, len, cap, rfl, rfl, hm, -⟩ := hv.at
  clear hv hok
  go_enter Try.func10, Try.ntmps10
  go_wp2_with (go_at_call 26; refine (sure_call _ _ _ HV.out HOK.out).mono ?_; rintro e w1 ⟨sb, rfl, hsb, hS, hb1⟩)
  have hs1 := hb1.size
  have HB1 := Lib.hid hb1
  have HS := Lib.hid hS
  have hsl := hS.lt
  clear hb1 hS
  go_loopw [3, 5, 6, 14] (fun v _ _ i wr => ∃ k : Nat, k ≤ ts.length ∧ i = .int .i64 k ∧ OwCh 32 w1.heap.size wr v (cmS (sureM ts) ts k) ∧ Below w1.heap.size w1 wr) (fun _ _ _ i _ => ts.length - (intOf i).toNat)
  case atStart => exact ⟨0, Nat.zero_le _, rfl, World.ownsRow_nil _ _ _ _, Below.refl _ _⟩
  case round =>
    obtain ⟨wo, rfl⟩ : ∃ wo : World, wo = wr := ⟨_, rfl⟩
    obtain ⟨k, hk, rfl, ho, hb⟩ := hrel
    have HO := Lib.hid ho
    have HB := Lib.hid hb
    have HW := Lib.hid (HB1.out.trans (hb.mono hs1))
    clear ho hb
    by_cases hlt : k < ts.length
    · obtain ⟨t, ht⟩ := some_at hlt
      obtain ⟨_, _, _, e5, -, -, hcl⟩ := HV.out.at
      cases e5
      obtain ⟨b, off, oa, oc, rfl, hr, k0', k1', k2'⟩ := hcl k t ht
      have k0 := cell_later HW.out k0'
      have k1 := cell_later HW.out k1'
      have k2 := cell_later HW.out k2'
      obtain ⟨x, hx⟩ := some_at (l := sureM ts) (k := k) (by rw [sureM_length ts]; exact hlt)
      have x0 := fun o' => cell_later (HB.out.alloc HB.out.size o') (HS.out.at hx)
      have HE := Lib.hid (show openB (sureM ts) k t = (t.state == 0 && !x && decide (0 < (writesM t.ops).length)) by unfold openB; rw [hx]; rfl)
      have HN := Lib.hid (cmS_succ (S := sureM ts) ht)
      have HR := Lib.hid hr
      obtain ⟨hok1, hok2⟩ := HOK.out.2 t (List.mem_of_getElem? ht)
      clear hcl ht hr hok1 k0' k1' k2' hx
      go_upto_region 6 with fail
      go_cut [34] (fun r wx => r = .bool (openB (sureM ts) k t) ∧ OwCh 32 w1.heap.size wx u3 (cmS (sureM ts) ts k) ∧ Below w1.heap.size w1 wx)
      case first =>
        have hr1 := (HR.out.later HW.out)
        by_cases hs0 : t.state = 0
        · have h0 : (t.state == 0) = true := by simp [hs0]
          have hb1 := HB.out.alloc HB.out.size (.cells #[vi t.client, vi t.state, .slice oa t.ops.length oc] 62)
          have HR2 := Lib.hid (HR.out.later (HW.out.alloc (by have := HW.out.size; omega) (.cells #[vi t.client, vi t.state, .slice oa t.ops.length oc] 62)))
          rw [h0] at HE
          clear hs0
          cases x
          · go_wp2_with (go_at_call 27; refine (writes_call t.client t.state _ t.ops _ HR2.out hok2).mono ?_; rintro e w2 ⟨v2, rfl, ho2, hb2⟩; have hr2 := ho2.rd; obtain ⟨a2, len2, cap2, rfl, rfl, hm2, -⟩ := hr2.at)
            go_meet
            exact ⟨by rw [HE.out]; rfl, own_below (HO.out.alloc _) hb2, hb1.trans (hb2.mono hb1.size)⟩
          · go_wp2_with fail
            go_meet
            exact ⟨by rw [HE.out]; rfl, HO.out.alloc _, hb1⟩
        · have h0 : (t.state == 0) = false := by simp [hs0]
          have hb1 := HB.out.alloc HB.out.size (.cells #[vi t.client, vi t.state, .slice oa t.ops.length oc] 62)
          rw [h0] at HE
          clear hs0
          go_wp2_with fail
          go_meet
          exact ⟨by rw [HE.out]; rfl, HO.out.alloc _, hb1⟩
      case rest =>
        obtain ⟨rfl, ho, hb⟩ := hcut
        have hsz := hb.size
        have HO2 := Lib.hid ho
        have HB2 := Lib.hid hb
        have hle := cmS_le (sureM ts) ts k
        clear ho hb k0 k1 k2 x0
        cases hc : openB (sureM ts) k t with
        | true =>
          rw [hc] at HN
          clear hc
          go_wp2_with (at_builtin; refine wpList_append_src rfl _ _ 27 rfl eltCh w1.heap.size (cmS (sureM ts) ts k).length _ (HO2.out.alloc _) rfl 1 (chV ⟨1, 0, k, 0⟩) (src_new (cs := #[vi 1, vi 0, vi k, vi 0]) rfl rfl) rfl (chV_one _) (by omega) (by omega) (by simp; omega) ?_; intro v1 w2 ho1 hg1 _)
          have hbl : ∀ j, u3.ownBlock = some j → w1.heap.size ≤ j := fun j hj => (HO2.out.lt j hj).1
          go_roundw
          case rel =>
            refine ⟨k + 1, by omega, by go_num, ?_, ?_⟩
            · rw [HN.out]; simpa [OwCh] using ho1
            · exact (HB2.out.alloc hsz _).grown hg1 (by simp; omega) hbl
          case measure => simp [intOf]; omega
        | false =>
          rw [hc] at HN
          clear hc
          go_wp2_with fail
          go_roundw
          case rel =>
            refine ⟨k + 1, by omega, by go_num, ?_, HB2.out⟩
            rw [HN.out]; simpa [OwCh] using HO2.out
          case measure => simp [intOf]; omega
    · obtain rfl : k = ts.length := by omega
      go_wp2_with fail
      have hcl0 := cmS_le (sureM ts) ts ts.length
      have HCM := Lib.hid (show choicesM ts = cmS (sureM ts) ts ts.length ++ befK ts 16 from rfl)
      generalize cmS (sureM ts) ts ts.length = c0 at *
      go_loopw [3, 7, 41] (fun v _ i wr => ∃ k : Nat, k ≤ 16 ∧ i = .int .i64 k ∧ OwCh 32 w1.heap.size wr v (c0 ++ befK ts k) ∧ Below w1.heap.size w1 wr) (fun _ _ i _ => 16 - (intOf i).toNat)
      case atStart => exact ⟨0, Nat.zero_le _, rfl, by simpa [befK] using HO.out, HB.out⟩
      case round =>
        obtain ⟨wk, rfl⟩ : ∃ wk : World, wk = wr := ⟨_, rfl⟩
        obtain ⟨k, hk, rfl, ho, hb⟩ := hrel
        by_cases hlt : k < 16
        · have hck := befK_le ts htl k
          have hk16 : (k : Int) < 16 := by omega
          have HN := Lib.hid (befK_succ ts k)
          have HOk := Lib.hid ho
          have HBk := Lib.hid hb
          clear ho hb
          generalize befK ts k = ck at *
          go_wp2_with fail
          go_loopw [3, 8, 46] (fun v _ i wr => ∃ q : Nat, q ≤ ts.length ∧ i = .int .i64 q ∧ OwCh 32 w1.heap.size wr v (c0 ++ ck ++ befB ts k q) ∧ Below w1.heap.size w1 wr) (fun _ _ i _ => ts.length - (intOf i).toNat)
          case atStart => exact ⟨0, Nat.zero_le _, rfl, by simpa [befB] using HOk.out, HBk.out⟩
          case round =>
            obtain ⟨wq, rfl⟩ : ∃ wq : World, wq = wr := ⟨_, rfl⟩
            obtain ⟨q, hq, rfl, ho, hb⟩ := hrel
            by_cases hlt2 : q < ts.length
            · have hcq := befB_le ts k q (by omega)
              have HNq := Lib.hid (befB_succ ts k q)
              have HOq := Lib.hid ho
              have HBq := Lib.hid hb
              clear ho hb
              generalize befB ts k q = cq at *
              go_wp2_with fail
              go_loopw [3, 9, 50] (fun v _ i wr => ∃ p : Nat, p ≤ q ∧ i = .int .i64 p ∧ OwCh 32 w1.heap.size wr v (c0 ++ ck ++ cq ++ befA ts k q p) ∧ Below w1.heap.size w1 wr) (fun _ _ i _ => q - (intOf i).toNat)
              case atStart => exact ⟨0, Nat.zero_le _, rfl, by simpa [befA] using HOq.out, HBq.out⟩
              case round =>
                obtain ⟨wp, rfl⟩ : ∃ wp : World, wp = wr := ⟨_, rfl⟩
                obtain ⟨p, hp, rfl, ho, hb⟩ := hrel
                by_cases hlt3 : p < q
                · have hcp := befA_le ts k q p
                  have HNp := Lib.hid (befA_succ ts k q p)
                  have HOp := Lib.hid ho
                  have HBp := Lib.hid hb
                  have HW := Lib.hid (HB1.out.trans (hb.mono hs1))
                  have hwp := hb.size
                  clear ho hb
                  obtain ⟨ta, hta⟩ := some_at (l := ts) (k := p) (by omega)
                  obtain ⟨tb, htb⟩ := some_at (l := ts) (k := q) (by omega)
                  obtain ⟨_, _, _, e5, -, -, hcl⟩ := HV.out.at
                  cases e5
                  obtain ⟨b, off, oa, oc, rfl, hra, a0', a1', a2'⟩ := hcl p ta hta
                  obtain ⟨_, _, ob, oc2, e6, hrb, b0', b1', b2'⟩ := hcl q tb htb
                  cases e6
                  have k0 := cell_later HW.out a0'
                  have k1 := cell_later HW.out a1'
                  have k2 := cell_later HW.out a2'
                  have m0 := cell_later HW.out b0'
                  have m1 := cell_later HW.out b1'
                  have m2 := cell_later HW.out b2'
                  have HRA := Lib.hid (hra.later HW.out)
                  have HRB := Lib.hid (hrb.later HW.out)
                  have HC := Lib.hid (show condB ts k p q = (ta.state != 2 && tb.state != 2 && writesK ta k && writesK tb k) by simp [condB, stOf, wrOf, hta, htb])
                  clear hcl hta htb hra hrb a0' a1' a2' b0' b1' b2'
                  go_upto_region 18 with fail
                  go_cut [82] (fun r wx => r = .bool (condB ts k p q) ∧ OwCh 32 w1.heap.size wx u3 (c0 ++ ck ++ cq ++ befA ts k q p) ∧ Below w1.heap.size w1 wx)
                  case first =>
                    by_cases hs0 : ta.state = 2
                    · have h0 : (ta.state != 2) = false := by simp [hs0]
                      rw [h0] at HC
                      clear hs0
                      go_wp2_with fail
                      go_meet
                      exact ⟨by rw [HC.out]; rfl, HOp.out, HBp.out⟩
                    · have h0 : (ta.state != 2) = true := by simp [hs0]
                      rw [h0] at HC
                      clear hs0
                      by_cases hs2 : tb.state = 2
                      · have h2 : (tb.state != 2) = false := by simp [hs2]
                        rw [h2] at HC
                        clear hs2
                        go_wp2_with fail
                        go_meet
                        exact ⟨by rw [HC.out]; rfl, HOp.out, HBp.out⟩
                      · have h2 : (tb.state != 2) = true := by simp [hs2]
                        rw [h2] at HC
                        clear hs2
                        cases hwa : writesK ta k with
                        | false =>
                          have HWA := Lib.hid hwa
                          rw [hwa] at HC
                          clear hwa
                          go_wp2_with (go_at_call 28; refine (writesK_call ta.client ta.state _ ta k _ HRA.out).mono ?_; rintro e w2 ⟨rfl, hb2⟩; rw [HWA.out])
                          go_meet
                          exact ⟨by rw [HC.out]; rfl, own_below HOp.out hb2, HBp.out.trans (hb2.mono hwp)⟩
                        | true =>
                          have HWA := Lib.hid hwa
                          rw [hwa] at HC
                          clear hwa
                          go_wp2_with (first
                            | (go_at_call 28; refine (writesK_call ta.client ta.state _ ta k _ HRA.out).mono ?_; rintro e w2 ⟨rfl, hb2⟩; rw [HWA.out]; replace m0 := cell_later hb2 m0; replace m1 := cell_later hb2 m1; replace m2 := cell_later hb2 m2; replace HRB := Lib.hid (HRB.out.later hb2))
                            | (go_at_call 28; refine (writesK_call tb.client tb.state _ tb k _ HRB.out).mono ?_; rintro e w3 ⟨rfl, hb3⟩))
                          go_meet
                          exact ⟨by rw [HC.out]; rfl, own_below (own_below HOp.out hb2) hb3, (HBp.out.trans (hb2.mono hwp)).trans (hb3.mono (by have := hb2.size; omega))⟩
                  case rest =>
                    obtain ⟨rfl, ho, hb⟩ := hcut
                    have hsz := hb.size
                    have HO2 := Lib.hid ho
                    have HB2 := Lib.hid hb
                    clear ho hb k0 k1 k2 m0 m1 m2
                    cases hc : condB ts k p q with
                    | true =>
                      rw [hc] at HNp
                      clear hc
                      go_wp2_with (at_builtin; refine wpList_append_src rfl _ _ 27 rfl eltCh w1.heap.size (c0 ++ ck ++ cq ++ befA ts k q p).length _ (HO2.out.alloc _) rfl 1 (chV ⟨2, k, p, q⟩) (src_new (cs := #[vi 2, vi k, vi p, vi q]) rfl rfl) rfl (chV_one _) (by simp only [List.length_append]; omega) (by omega) (by simp; omega) ?_; intro v1 w2 ho1 hg1 _)
                      have hbl : ∀ j, u3.ownBlock = some j → w1.heap.size ≤ j := fun j hj => (HO2.out.lt j hj).1
                      go_roundw
                      case rel =>
                        refine ⟨p + 1, by omega, by go_num, ?_, ?_⟩
                        · rw [HNp.out]; simpa [OwCh, List.append_assoc, Nat.add_assoc] using ho1
                        · exact (HB2.out.alloc hsz _).grown hg1 (by simp; omega) hbl
                      case measure => simp [intOf]; omega
                    | false =>
                      rw [hc] at HNp
                      clear hc
                      go_wp2_with fail
                      go_roundw
                      case rel =>
                        refine ⟨p + 1, by omega, by go_num, ?_, HB2.out⟩
                        rw [HNp.out]; simpa [OwCh] using HO2.out
                      case measure => simp [intOf]; omega
                · obtain rfl : p = q := by omega
                  have HOp := Lib.hid ho
                  have HBp := Lib.hid hb
                  clear ho hb
                  go_wp2_with fail
                  go_roundw
                  case rel =>
                    refine ⟨p + 1, by omega, by go_num, ?_, HBp.out⟩
                    rw [HNq.out, ← List.append_assoc]; exact HOp.out
                  case measure => simp [intOf]; omega
            · obtain rfl : q = ts.length := by omega
              have HOq := Lib.hid ho
              have HBq := Lib.hid hb
              clear ho hb
              go_wp2_with fail
              go_roundw
              case rel =>
                refine ⟨k + 1, by omega, by go_num, ?_, HBq.out⟩
                rw [HN.out, ← List.append_assoc]; exact HOq.out
              case measure => simp [intOf]; omega
        · obtain rfl : k = 16 := by omega
          go_wp2_with fail
          go_ret
          refine ⟨_, rfl, ?_, HB1.out.trans (hb.mono hs1)⟩
          unfold OwCh; rw [HCM.out]; exact own_mono ho hs1
end Go.Proofs.Ytafboehdihokhaa
