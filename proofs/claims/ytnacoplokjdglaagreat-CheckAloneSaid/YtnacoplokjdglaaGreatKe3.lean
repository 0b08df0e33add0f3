/- Texts of one proof, one behind the other: Chs, Choices, Bound, Range, Writer, RefS, RefC, Right, Last, Answer, OfMem, SureEq, Fact. -/
import Derived.Maps.Range
import Derived.Test.YtnacoplokjdglaaGreatKe1
import Derived.Test.YtnacoplokjdglaaGreatKe2
set_option linter.all false
namespace Go.Proofs.YtnacoplokjdglaaGreat
open Go.RowKit Go.Maps
section rows
variable {α : Type} {V : α → List Value} {m : Nat}
theorem flat_at (hm : ∀ x, (V x).length = m) (l : List α) (j i : Nat) (x : α) (u : Value) (hj : l[j]? = some x) (hu : (V x)[i]? = some u) : (l.flatMap V)[j * m + i]? = some u := by
  induction l generalizing j with
  | nil => simp at hj
  | cons y l ih =>
    have hi : i < m := by have := (List.getElem?_eq_some_iff.1 hu).1; rw [hm] at this; exact this
    rw [List.flatMap_cons]
    cases j with
    | zero =>
      simp at hj; subst hj
      rw [List.getElem?_append_left (by rw [hm]; simpa using hi)]
      simpa using hu
    | succ j =>
      have e : (j + 1) * m + i = m + (j * m + i) := by rw [Nat.add_mul]; omega
      rw [List.getElem?_append_right (by rw [hm]; omega), hm]
      have : (j + 1) * m + i - m = j * m + i := by omega
      rw [this]
      exact ih j (by simpa using hj)

theorem rds_of_own (hm : ∀ x, (V x).length = m) {base : Nat} {w : World} {e : TypeId} {v : Value} {l : List α} (h : w.ownsRow base e m v l.length (l.flatMap V)) : RdS m (fun _ cs x => cs = V x) w v l := by
  obtain ⟨h1, h2⟩ := id h
  rcases h2 with ⟨hv, h0⟩ | ⟨g, cap, cur, hv, hg, hh, hn, hcm, hs, ht⟩
  · have : l = [] := List.length_eq_zero_iff.1 h0
    subst this
    exact ⟨none, 0, 0, hv, rfl, by simp, Nat.le_refl _, fun _ => ⟨rfl, rfl⟩, fun j x hj => by simp at hj⟩
  · refine ⟨some ⟨g, 0, none⟩, l.length, cap, hv, rfl, by simp only [maxLen] at hcm; omega, hn, fun h => (by cases h), fun j x hj => ⟨g, 0, V x, rfl, hm x, fun i u hu => ?_, rfl⟩⟩
    have := World.ownsRow.cells h (g := g) (by rw [hv]; rfl) (j * m + i) u (flat_at hm l j i x u hj hu)
    rwa [addr_add] at this
end rows
/-- A choice. -/
structure GChoice where
  kind : Int
  key : Int
  a : Int
  b : Int
deriving DecidableEq

def chV (c : GChoice) : List Value := [vi c.kind, vi c.key, vi c.a, vi c.b]
theorem chV_length (c : GChoice) : (chV c).length = 4 := rfl
def OwCh (e : TypeId) (base : Nat) (w : World) (v : Value) (l : List GChoice) : Prop := w.ownsRow base e 4 v l.length (l.flatMap chV)
def RdCh (w : World) (v : Value) (l : List GChoice) : Prop := RdS 4 (fun _ cs c => cs = chV c) w v l
theorem OwCh.rd {e : TypeId} {base : Nat} {w : World} {v : Value} {l : List GChoice} (h : OwCh e base w v l) : RdCh w v l := rds_of_own chV_length h
theorem RdCh.at {w : World} {v : Value} {l : List GChoice} (h : RdCh w v l) : ∃ a len cap, v = .slice a len cap ∧ len = l.length ∧ l.length ≤ 9223372036854775807 ∧
    ∀ j x, l[j]? = some x → ∃ b off, a = some ⟨b, off, none⟩ ∧ w.cell? ⟨b, off + j * 4, none⟩ = some (vi x.kind) ∧ w.cell? ⟨b, off + j * 4 + 1, none⟩ = some (vi x.key) ∧ w.cell? ⟨b, off + j * 4 + 2, none⟩ = some (vi x.a) ∧ w.cell? ⟨b, off + j * 4 + 3, none⟩ = some (vi x.b) := by
  obtain ⟨a, len, cap, h1, h2, h3, h4, h5, h6⟩ := h
  refine ⟨a, len, cap, h1, h2, h3, fun j x hj => ?_⟩
  obtain ⟨b, off, cs, ha, hl, hc, rfl⟩ := h6 j x hj
  exact ⟨b, off, ha, by simpa using hc 0 _ rfl, by simpa [Nat.add_assoc] using hc 1 _ rfl, by simpa [Nat.add_assoc] using hc 2 _ rfl, by simpa [Nat.add_assoc] using hc 3 _ rfl⟩

theorem Tryz.infoCh : (Tryz.prog.info? 128).map (fun i => (i.zero, i.size, i.bytes)) = some (some (.agg #[vi 0, vi 0, vi 0, vi 0]), 4, 32) := by kernel_rfl
theorem eltCh : Elt Tryz.prog 99 128 4 32 (.agg #[vi 0, vi 0, vi 0, vi 0]) := by
  obtain ⟨i0, hi, hz0, hz1, hz2⟩ := info_parts Tryz.infoCh
  exact ⟨Tryz.underlying99, by decide, rfl, i0, hi, hz0, hz1, hz2⟩
theorem chV_one (c : GChoice) : ∀ u ∈ chV c, u.oneCell' = true := by
  intro u hu; simp [chV] at hu; rcases hu with rfl | rfl | rfl | rfl <;> rfl
end Go.Proofs.YtnacoplokjdglaaGreat

namespace Go.Proofs.YtnacoplokjdglaaGreat
open Go.RowKit Go.Maps

def stOf (ts : List GTxn) (i : Nat) : Int := (ts[i]?.map (·.state)).getD 0
def wrOf (ts : List GTxn) (i : Nat) (key : Int) : Bool := (ts[i]?.map (fun t => writesK t key)).getD false
/-- Is it open whether a transaction was done? -/
def openB (S : List Bool) (i : Nat) (t : GTxn) : Bool := t.state == 0 && !(S[i]?.getD false) && decide (0 < (writesM t.ops).length)
def cmS (S : List Bool) (ts : List GTxn) (n : Nat) : List GChoice := (List.range n).filterMap (fun i => ts[i]?.bind (fun t => if openB S i t then some ⟨1, 0, i, 0⟩ else none))
def condB (ts : List GTxn) (key a b : Nat) : Bool := stOf ts a != 2 && stOf ts b != 2 && wrOf ts a key && wrOf ts b key
def befA (ts : List GTxn) (key b n : Nat) : List GChoice := (List.range n).filterMap (fun a => if condB ts key a b then some ⟨2, key, a, b⟩ else none)
def befB (ts : List GTxn) (key n : Nat) : List GChoice := (List.range n).flatMap (fun b => befA ts key b b)
def befK (ts : List GTxn) (n : Nat) : List GChoice := (List.range n).flatMap (fun key => befB ts key ts.length)
/-- chains.Choices. -/
def choicesM (ts : List GTxn) : List GChoice := cmS (sureM ts) ts ts.length ++ befK ts 16

theorem cmS_succ {S : List Bool} {ts : List GTxn} {n : Nat} {t : GTxn} (h : ts[n]? = some t) : cmS S ts (n + 1) = cmS S ts n ++ (if openB S n t then [⟨1, 0, n, 0⟩] else []) := by
  by_cases hc : openB S n t <;> simp [cmS, List.range_succ, h, hc]
theorem befA_succ (ts : List GTxn) (key b n : Nat) : befA ts key b (n + 1) = befA ts key b n ++ (if condB ts key n b then [⟨2, key, n, b⟩] else []) := by
  by_cases hc : condB ts key n b <;> simp [befA, List.range_succ, hc]
theorem befB_succ (ts : List GTxn) (key n : Nat) : befB ts key (n + 1) = befB ts key n ++ befA ts key n n := by
  unfold befB; rw [List.range_succ, List.flatMap_append]; simp
theorem befK_succ (ts : List GTxn) (n : Nat) : befK ts (n + 1) = befK ts n ++ befB ts n ts.length := by
  unfold befK; rw [List.range_succ, List.flatMap_append]; simp
theorem cmS_le (S : List Bool) (ts : List GTxn) (n : Nat) : (cmS S ts n).length ≤ n := by
  unfold cmS; exact Nat.le_trans (List.length_filterMap_le _ _) (by simp)
theorem befA_le (ts : List GTxn) (key b n : Nat) : (befA ts key b n).length ≤ n := by
  unfold befA; exact Nat.le_trans (List.length_filterMap_le _ _) (by simp)
theorem befB_le (ts : List GTxn) (key : Nat) : ∀ n, n ≤ 4096 → (befB ts key n).length ≤ n * 4096 := by
  intro n
  induction n with
  | zero => intro _; simp [befB]
  | succ n ih =>
    intro hn
    rw [befB_succ, List.length_append]
    have := ih (by omega)
    have := befA_le ts key n n
    omega
theorem befK_le (ts : List GTxn) (h : ts.length ≤ 4096) : ∀ n, (befK ts n).length ≤ n * 16777216 := by
  intro n
  induction n with
  | zero => simp [befK]
  | succ n ih =>
    rw [befK_succ, List.length_append]
    have := befB_le ts n ts.length h
    omega

set_option maxRecDepth 100000 in
set_option maxHeartbeats 2000000 in
theorem choices_call (v : Value) (ts : List GTxn) (w : World) (hv : RdTxns w v ts) (hok : OkTxns ts) (htl : ts.length ≤ 4096) :
    Calls Tryz.prog 48 #[v] w fun e w' => ∃ v', e = .returned v' ∧ OwCh 128 w.heap.size w' v' (choicesM ts) ∧ Below w.heap.size w w' := by
  have HV := Lib.hid hv
  have HOK := Lib.hid hok
  obtain ⟨a, len, cap, rfl, rfl, hm, -⟩ := hv.at
  clear hv hok
  go_enter Tryz.func48, Tryz.ntmps48
  go_wp2_with (go_at_call 65; refine (sure_call _ _ _ HV.out HOK.out).mono ?_; rintro e w1 ⟨sb, rfl, hsb, hS, hb1⟩)
  have hs1 := hb1.size
  have HB1 := Lib.hid hb1
  have HS := Lib.hid hS
  have hsl := hS.lt
  clear hb1 hS
  go_loopw [3, 5, 6, 14] (fun v _ _ i wr => ∃ k : Nat, k ≤ ts.length ∧ i = .int .i64 k ∧ OwCh 128 w1.heap.size wr v (cmS (sureM ts) ts k) ∧ Below w1.heap.size w1 wr) (fun _ _ _ i _ => ts.length - (intOf i).toNat)
  case atStart => exact ⟨0, Nat.zero_le _, rfl, World.ownsRow_nil _ _ _ _, Below.refl _ _⟩
  case round =>
    obtain ⟨wo, rfl⟩ : ∃ wo : World, wo = wr := ⟨_, rfl⟩
    obtain ⟨k, hk, rfl, ho, hb⟩ := hrel
    have HO := Lib.hid ho
    have HB := Lib.hid hb
    have HW := Lib.hid (HB1.out.trans (hb.mono hs1))
    clear ho hb
    by_cases hlt : k < ts.length
    · obtain ⟨t, ht⟩ := some_at hlt
      obtain ⟨_, _, _, e5, -, -, hcl⟩ := HV.out.at
      cases e5
      obtain ⟨b, off, oa, oc, rfl, hr, k0', k1', k2'⟩ := hcl k t ht
      have k0 := cell_later HW.out k0'
      have k1 := cell_later HW.out k1'
      have k2 := cell_later HW.out k2'
      obtain ⟨x, hx⟩ := some_at (l := sureM ts) (k := k) (by rw [sureM_length ts]; exact hlt)
      have x0 := fun o' => cell_later (HB.out.alloc HB.out.size o') (HS.out.at hx)
      have HE := Lib.hid (show openB (sureM ts) k t = (t.state == 0 && !x && decide (0 < (writesM t.ops).length)) by unfold openB; rw [hx]; rfl)
      have HN := Lib.hid (cmS_succ (S := sureM ts) ht)
      have HR := Lib.hid hr
      obtain ⟨hok1, hok2⟩ := HOK.out.2 t (List.mem_of_getElem? ht)
      clear hcl ht hr hok1 k0' k1' k2' hx
      go_upto_region 6 with fail
      go_cut [34] (fun r wx => r = .bool (openB (sureM ts) k t) ∧ OwCh 128 w1.heap.size wx u3 (cmS (sureM ts) ts k) ∧ Below w1.heap.size w1 wx)
      case first =>
        have hr1 := (HR.out.later HW.out)
        by_cases hs0 : t.state = 0
        · have h0 : (t.state == 0) = true := by simp [hs0]
          have hb1 := HB.out.alloc HB.out.size (.cells #[vi t.client, vi t.state, .slice oa t.ops.length oc] 49)
          have HR2 := Lib.hid (HR.out.later (HW.out.alloc (by have := HW.out.size; omega) (.cells #[vi t.client, vi t.state, .slice oa t.ops.length oc] 49)))
          rw [h0] at HE
          clear hs0
          cases x
          · go_wp2_with (go_at_call 71; refine (writes_call t.client t.state _ t.ops _ HR2.out hok2).mono ?_; rintro e w2 ⟨v2, rfl, ho2, hb2⟩; have hr2 := ho2.rd; obtain ⟨a2, len2, cap2, rfl, rfl, hm2, -⟩ := hr2.at)
            go_meet
            exact ⟨by rw [HE.out]; rfl, own_below (HO.out.alloc _) hb2, hb1.trans (hb2.mono hb1.size)⟩
          · go_wp2_with fail
            go_meet
            exact ⟨by rw [HE.out]; rfl, HO.out.alloc _, hb1⟩
        · have h0 : (t.state == 0) = false := by simp [hs0]
          have hb1 := HB.out.alloc HB.out.size (.cells #[vi t.client, vi t.state, .slice oa t.ops.length oc] 49)
          rw [h0] at HE
          clear hs0
          go_wp2_with fail
          go_meet
          exact ⟨by rw [HE.out]; rfl, HO.out.alloc _, hb1⟩
      case rest =>
        obtain ⟨rfl, ho, hb⟩ := hcut
        have hsz := hb.size
        have HO2 := Lib.hid ho
        have HB2 := Lib.hid hb
        have hle := cmS_le (sureM ts) ts k
        clear ho hb k0 k1 k2 x0
        cases hc : openB (sureM ts) k t with
        | true =>
          rw [hc] at HN
          clear hc
          go_wp2_with (at_builtin; refine wpList_append_src rfl _ _ 99 rfl eltCh w1.heap.size (cmS (sureM ts) ts k).length _ (HO2.out.alloc _) rfl 1 (chV ⟨1, 0, k, 0⟩) (src_new (cs := #[vi 1, vi 0, vi k, vi 0]) rfl rfl) rfl (chV_one _) (by omega) (by omega) (by simp; omega) ?_; intro v1 w2 ho1 hg1 _)
          have hbl : ∀ j, u3.ownBlock = some j → w1.heap.size ≤ j := fun j hj => (HO2.out.lt j hj).1
          go_roundw
          case rel =>
            refine ⟨k + 1, by omega, by go_num, ?_, ?_⟩
            · rw [HN.out]; simpa [OwCh] using ho1
            · exact (HB2.out.alloc hsz _).grown hg1 (by simp; omega) hbl
          case measure => simp [intOf]; omega
        | false =>
          rw [hc] at HN
          clear hc
          go_wp2_with fail
          go_roundw
          case rel =>
            refine ⟨k + 1, by omega, by go_num, ?_, HB2.out⟩
            rw [HN.out]; simpa [OwCh] using HO2.out
          case measure => simp [intOf]; omega
    · obtain rfl : k = ts.length := by omega
      go_wp2_with fail
      have hcl0 := cmS_le (sureM ts) ts ts.length
      have HCM := Lib.hid (show choicesM ts = cmS (sureM ts) ts ts.length ++ befK ts 16 from rfl)
      generalize cmS (sureM ts) ts ts.length = c0 at *
      go_loopw [3, 7, 41] (fun v _ i wr => ∃ k : Nat, k ≤ 16 ∧ i = .int .i64 k ∧ OwCh 128 w1.heap.size wr v (c0 ++ befK ts k) ∧ Below w1.heap.size w1 wr) (fun _ _ i _ => 16 - (intOf i).toNat)
      case atStart => exact ⟨0, Nat.zero_le _, rfl, by simpa [befK] using HO.out, HB.out⟩
      case round =>
        obtain ⟨wk, rfl⟩ : ∃ wk : World, wk = wr := ⟨_, rfl⟩
        obtain ⟨k, hk, rfl, ho, hb⟩ := hrel
        by_cases hlt : k < 16
        · have hck := befK_le ts htl k
          have hk16 : (k : Int) < 16 := by omega
          have HN := Lib.hid (befK_succ ts k)
          have HOk := Lib.hid ho
          have HBk := Lib.hid hb
          clear ho hb
          generalize befK ts k = ck at *
          go_wp2_with fail
          go_loopw [3, 8, 46] (fun v _ i wr => ∃ q : Nat, q ≤ ts.length ∧ i = .int .i64 q ∧ OwCh 128 w1.heap.size wr v (c0 ++ ck ++ befB ts k q) ∧ Below w1.heap.size w1 wr) (fun _ _ i _ => ts.length - (intOf i).toNat)
          case atStart => exact ⟨0, Nat.zero_le _, rfl, by simpa [befB] using HOk.out, HBk.out⟩
          case round =>
            obtain ⟨wq, rfl⟩ : ∃ wq : World, wq = wr := ⟨_, rfl⟩
            obtain ⟨q, hq, rfl, ho, hb⟩ := hrel
            by_cases hlt2 : q < ts.length
            · have hcq := befB_le ts k q (by omega)
              have HNq := Lib.hid (befB_succ ts k q)
              have HOq := Lib.hid ho
              have HBq := Lib.hid hb
              clear ho hb
              generalize befB ts k q = cq at *
              go_wp2_with fail
              go_loopw [3, 9, 50] (fun v _ i wr => ∃ p : Nat, p ≤ q ∧ i = .int .i64 p ∧ OwCh 128 w1.heap.size wr v (c0 ++ ck ++ cq ++ befA ts k q p) ∧ Below w1.heap.size w1 wr) (fun _ _ i _ => q - (intOf i).toNat)
              case atStart => exact ⟨0, Nat.zero_le _, rfl, by simpa [befA] using HOq.out, HBq.out⟩
              case round =>
                obtain ⟨wp, rfl⟩ : ∃ wp : World, wp = wr := ⟨_, rfl⟩
                obtain ⟨p, hp, rfl, ho, hb⟩ := hrel
                by_cases hlt3 : p < q
                · have hcp := befA_le ts k q p
                  have HNp := Lib.hid (befA_succ ts k q p)
                  have HOp := Lib.hid ho
                  have HBp := Lib.hid hb
                  have HW := Lib.hid (HB1.out.trans (hb.mono hs1))
                  have hwp := hb.size
                  clear ho hb
                  obtain ⟨ta, hta⟩ := some_at (l := ts) (k := p) (by omega)
                  obtain ⟨tb, htb⟩ := some_at (l := ts) (k := q) (by omega)
                  obtain ⟨_, _, _, e5, -, -, hcl⟩ := HV.out.at
                  cases e5
                  obtain ⟨b, off, oa, oc, rfl, hra, a0', a1', a2'⟩ := hcl p ta hta
                  obtain ⟨_, _, ob, oc2, e6, hrb, b0', b1', b2'⟩ := hcl q tb htb
                  cases e6
                  have k0 := cell_later HW.out a0'
                  have k1 := cell_later HW.out a1'
                  have k2 := cell_later HW.out a2'
                  have m0 := cell_later HW.out b0'
                  have m1 := cell_later HW.out b1'
                  have m2 := cell_later HW.out b2'
                  have HRA := Lib.hid (hra.later HW.out)
                  have HRB := Lib.hid (hrb.later HW.out)
                  have HC := Lib.hid (show condB ts k p q = (ta.state != 2 && tb.state != 2 && writesK ta k && writesK tb k) by simp [condB, stOf, wrOf, hta, htb])
                  clear hcl hta htb hra hrb a0' a1' a2' b0' b1' b2'
                  go_upto_region 18 with fail
                  go_cut [82] (fun r wx => r = .bool (condB ts k p q) ∧ OwCh 128 w1.heap.size wx u3 (c0 ++ ck ++ cq ++ befA ts k q p) ∧ Below w1.heap.size w1 wx)
                  case first =>
                    by_cases hs0 : ta.state = 2
                    · have h0 : (ta.state != 2) = false := by simp [hs0]
                      rw [h0] at HC
                      clear hs0
                      go_wp2_with fail
                      go_meet
                      exact ⟨by rw [HC.out]; rfl, HOp.out, HBp.out⟩
                    · have h0 : (ta.state != 2) = true := by simp [hs0]
                      rw [h0] at HC
                      clear hs0
                      by_cases hs2 : tb.state = 2
                      · have h2 : (tb.state != 2) = false := by simp [hs2]
                        rw [h2] at HC
                        clear hs2
                        go_wp2_with fail
                        go_meet
                        exact ⟨by rw [HC.out]; rfl, HOp.out, HBp.out⟩
                      · have h2 : (tb.state != 2) = true := by simp [hs2]
                        rw [h2] at HC
                        clear hs2
                        cases hwa : writesK ta k with
                        | false =>
                          have HWA := Lib.hid hwa
                          rw [hwa] at HC
                          clear hwa
                          go_wp2_with (go_at_call 66; refine (writesK_call ta.client ta.state _ ta k _ HRA.out).mono ?_; rintro e w2 ⟨rfl, hb2⟩; rw [HWA.out])
                          go_meet
                          exact ⟨by rw [HC.out]; rfl, own_below HOp.out hb2, HBp.out.trans (hb2.mono hwp)⟩
                        | true =>
                          have HWA := Lib.hid hwa
                          rw [hwa] at HC
                          clear hwa
                          go_wp2_with (first
                            | (go_at_call 66; refine (writesK_call ta.client ta.state _ ta k _ HRA.out).mono ?_; rintro e w2 ⟨rfl, hb2⟩; rw [HWA.out]; replace m0 := cell_later hb2 m0; replace m1 := cell_later hb2 m1; replace m2 := cell_later hb2 m2; replace HRB := Lib.hid (HRB.out.later hb2))
                            | (go_at_call 66; refine (writesK_call tb.client tb.state _ tb k _ HRB.out).mono ?_; rintro e w3 ⟨rfl, hb3⟩))
                          go_meet
                          exact ⟨by rw [HC.out]; rfl, own_below (own_below HOp.out hb2) hb3, (HBp.out.trans (hb2.mono hwp)).trans (hb3.mono (by have := hb2.size; omega))⟩
                  case rest =>
                    obtain ⟨rfl, ho, hb⟩ := hcut
                    have hsz := hb.size
                    have HO2 := Lib.hid ho
                    have HB2 := Lib.hid hb
                    clear ho hb k0 k1 k2 m0 m1 m2
                    cases hc : condB ts k p q with
                    | true =>
                      rw [hc] at HNp
                      clear hc
                      go_wp2_with (at_builtin; refine wpList_append_src rfl _ _ 99 rfl eltCh w1.heap.size (c0 ++ ck ++ cq ++ befA ts k q p).length _ (HO2.out.alloc _) rfl 1 (chV ⟨2, k, p, q⟩) (src_new (cs := #[vi 2, vi k, vi p, vi q]) rfl rfl) rfl (chV_one _) (by simp only [List.length_append]; omega) (by omega) (by simp; omega) ?_; intro v1 w2 ho1 hg1 _)
                      have hbl : ∀ j, u3.ownBlock = some j → w1.heap.size ≤ j := fun j hj => (HO2.out.lt j hj).1
                      go_roundw
                      case rel =>
                        refine ⟨p + 1, by omega, by go_num, ?_, ?_⟩
                        · rw [HNp.out]; simpa [OwCh, List.append_assoc, Nat.add_assoc] using ho1
                        · exact (HB2.out.alloc hsz _).grown hg1 (by simp; omega) hbl
                      case measure => simp [intOf]; omega
                    | false =>
                      rw [hc] at HNp
                      clear hc
                      go_wp2_with fail
                      go_roundw
                      case rel =>
                        refine ⟨p + 1, by omega, by go_num, ?_, HB2.out⟩
                        rw [HNp.out]; simpa [OwCh] using HO2.out
                      case measure => simp [intOf]; omega
                · obtain rfl : p = q := by omega
                  have HOp := Lib.hid ho
                  have HBp := Lib.hid hb
                  clear ho hb
                  go_wp2_with fail
                  go_roundw
                  case rel =>
                    refine ⟨p + 1, by omega, by go_num, ?_, HBp.out⟩
                    rw [HNq.out, ← List.append_assoc]; exact HOp.out
                  case measure => simp [intOf]; omega
            · obtain rfl : q = ts.length := by omega
              have HOq := Lib.hid ho
              have HBq := Lib.hid hb
              clear ho hb
              go_wp2_with fail
              go_roundw
              case rel =>
                refine ⟨k + 1, by omega, by go_num, ?_, HBq.out⟩
                rw [HN.out, ← List.append_assoc]; exact HOq.out
              case measure => simp [intOf]; omega
        · obtain rfl : k = 16 := by omega
          go_wp2_with fail
          go_ret
          refine ⟨_, rfl, ?_, HB1.out.trans (hb.mono hs1)⟩
          unfold OwCh; rw [HCM.out]; exact own_mono ho hs1
end Go.Proofs.YtnacoplokjdglaaGreat

namespace Go.Proofs.YtnacoplokjdglaaGreat
open Go.RowKit Go.Maps

theorem choicesM_le (ts : List GTxn) (h : ts.length ≤ 4096) : (choicesM ts).length ≤ 4294967296 := by
  unfold choicesM
  rw [List.length_append]
  have h1 := cmS_le (sureM ts) ts ts.length
  have h2 := befK_le ts h 16
  omega

end Go.Proofs.YtnacoplokjdglaaGreat

namespace Go.Proofs.YtnacoplokjdglaaGreat
open Go.RowKit Go.MapKept
open Go.Maps (Keyed)
open Go.ChangeMaps (setBlock)
/-- Block b is a map that holds L, block r an iterator over it, and the pairs of V have come out, in this order. -/
def RangeT {κ ν : Type} (P : Program) (k : TypeId) (eK : κ → Value) (eV : ν → Value) (w : World) (b r : Nat) (L V : List (κ × ν)) : Prop :=
  ∃ es clock since seen c0, w.heap[b]? = some (.map es clock) ∧ Stamped es clock ∧ (∀ x ∈ es.toList, ∃ kl, keyOf P k x.key = some kl) ∧ es.toList.map (fun x => (x.key, x.val)) = L.map (fun x => (eK x.1, eV x.2)) ∧
    w.heap[r]? = some (.mapIter (some b) since seen c0) ∧ (∀ x ∈ es.toList, x.born < since) ∧ since ≤ c0 ∧ since ≤ clock ∧
    (∀ (i : Nat) (x : MapEntry) (p : κ × ν), es.toList[i]? = some x → L[i]? = some p → (seen.contains x.born = true ↔ p ∈ V)) ∧ (∀ p ∈ V, p ∈ L) ∧ V.Pairwise (fun p q => p.1 ≠ q.1)

section laws
variable {κ ν : Type} {P : Program} {k e t : TypeId} {eK : κ → Value} {eV : ν → Value} {w : World} {b r : Nat} {L V : List (κ × ν)}

theorem RangeT.map (h : RangeT P k eK eV w b r L V) : MapT P k eK eV w b L := by
  obtain ⟨es, clock, _, _, _, h1, h2, h3, h4, _⟩ := h; exact ⟨es, clock, h1, h2, h3, h4⟩
theorem RangeT.lt (h : RangeT P k eK eV w b r L V) : r < w.heap.size := by
  obtain ⟨es, clock, since, seen, c0, _, _, _, _, hr, _⟩ := h
  exact (Array.getElem?_eq_some_iff.1 hr).1
theorem RangeT.ne (h : RangeT P k eK eV w b r L V) : r ≠ b := by
  obtain ⟨es, clock, since, seen, c0, hb, _, _, _, hr, _⟩ := h
  intro e
  rw [e, hb] at hr
  cases hr
theorem RangeT.frame {w' : World} (h : RangeT P k eK eV w b r L V) (hb : w'.heap[b]? = w.heap[b]?) (hr : w'.heap[r]? = w.heap[r]?) : RangeT P k eK eV w' b r L V := by
  obtain ⟨es, clock, since, seen, c0, h1, h2, h3, h4, h5, rest⟩ := h
  exact ⟨es, clock, since, seen, c0, hb.trans h1, h2, h3, h4, hr.trans h5, rest⟩

theorem rangeLeft_frame {w' : World} (hb : w'.heap[b]? = w.heap[b]?) (hr : w'.heap[r]? = w.heap[r]?) : w'.rangeLeft b r = w.rangeLeft b r := by unfold World.rangeLeft; rw [hb, hr]
theorem MapT.keyed (h : MapT P k eK eV w b L) {p : κ × ν} (hp : p ∈ L) : ∃ kl, keyOf P k (eK p.1) = some kl := by
  obtain ⟨es, clock, hb, hs, hk, hL⟩ := h
  have : (eK p.1, eV p.2) ∈ L.map (fun x => (eK x.1, eV x.2)) := List.mem_map.2 ⟨p, hp, rfl⟩
  rw [← hL, List.mem_map] at this
  obtain ⟨x, hx, hxe⟩ := this
  simp only [Prod.mk.injEq] at hxe
  rw [← hxe.1]
  exact hk x hx
theorem MapT.pairwise (h : MapT P k eK eV w b L) : L.Pairwise (fun p q => p.1 ≠ q.1) := by
  obtain ⟨es, clock, hb, hs, hk, hL⟩ := h
  have hlen : es.toList.length = L.length := by simpa using congrArg List.length hL
  have hn := List.pairwise_iff_getElem.1 ((stamped_iff es clock).1 hs).2.2
  rw [List.pairwise_iff_getElem]
  intro i j hi hj hlt he
  have key : ∀ (n : Nat) (h1 : n < L.length), (es.toList[n]'(by omega)).key = eK (L[n]).1 := by
    intro n h1
    have h2 : (es.toList.map (fun y => (y.key, y.val)))[n]? = some ((es.toList[n]'(by omega)).key, (es.toList[n]'(by omega)).val) := by simp [List.getElem?_eq_getElem (by omega : n < es.toList.length)]
    rw [hL, List.getElem?_map, List.getElem?_eq_getElem h1] at h2
    simp only [Option.map_some, Option.some.injEq, Prod.mk.injEq] at h2
    exact h2.1.symm
  exact hn i j (by omega) (by omega) hlt (by rw [key i hi, key j hj, he])

/-- 'range m'. -/
theorem MapT.range (h : MapT P k eK eV w b L) (ht : P.underlying t = some (.map k e)) :
    ∃ w', (Instr.range t (.map (some b))).run P w = .ok (.pointer (some ⟨w.heap.size, 0, none⟩)) w' ∧ RangeT P k eK eV w' b w.heap.size L [] ∧ w.grownBy w' none ∧ w'.heap.size = w.heap.size + 1 := by
  have hlt := h.lt
  obtain ⟨es, clock, hb, hs, hk, hL⟩ := h
  refine ⟨_, run_range_map w t k e b es clock ht hb, ⟨es, clock, clock, #[], clock, ((MapKept.heap_alloc w _).2 b hlt).trans hb, hs, hk, hL, (MapKept.heap_alloc w _).1, hs.1, Nat.le_refl _, Nat.le_refl _, ?_, (fun p hp => by cases hp), List.Pairwise.nil⟩, World.grownBy_alloc w _ none, by simp⟩
  intro i x p _ _
  simp

theorem RangeT.key_uniq (h : MapT P k eK eV w b L) {p q : κ × ν} (hp : p ∈ L) (hq : q ∈ L) (hpq : p.1 = q.1) : p = q := by
  obtain ⟨es, clock, hb, hs, hk, hL⟩ := h
  obtain ⟨i, hi⟩ := List.mem_iff_getElem?.1 hp
  obtain ⟨j, hj⟩ := List.mem_iff_getElem?.1 hq
  have hlen : es.toList.length = L.length := by simpa using congrArg List.length hL
  have hi1 := (List.getElem?_eq_some_iff.1 hi).1
  have hj1 := (List.getElem?_eq_some_iff.1 hj).1
  have ei : (es.toList[i]'(by omega)).key = eK p.1 := by
    have h1 : (L.map (fun y => (eK y.1, eV y.2)))[i]? = some (eK p.1, eV p.2) := by simp [hi]
    rw [← hL, List.getElem?_map, List.getElem?_eq_getElem (by omega : i < es.toList.length)] at h1
    simpa using congrArg (fun o => o.map (·.1)) h1
  have ej : (es.toList[j]'(by omega)).key = eK q.1 := by
    have h1 : (L.map (fun y => (eK y.1, eV y.2)))[j]? = some (eK q.1, eV q.2) := by simp [hj]
    rw [← hL, List.getElem?_map, List.getElem?_eq_getElem (by omega : j < es.toList.length)] at h1
    simpa using congrArg (fun o => o.map (·.1)) h1
  have hn := List.pairwise_iff_getElem.1 ((stamped_iff es clock).1 hs).2.2
  rcases Nat.lt_trichotomy i j with hlt | rfl | hlt
  · exact absurd (by rw [ei, ej, hpq]) (hn i j (by omega) (by omega) hlt)
  · rw [hi] at hj; cases hj; rfl
  · exact absurd (by rw [ei, ej, hpq]) (hn j i (by omega) (by omega) hlt)

/-- The step. -/
theorem RangeT.next (hinj : ∀ x y, eK x = eK y → x = y) (h : RangeT P k eK eV w b r L V) (ty : TypeId) :
    ((∀ p ∈ L, p ∈ V) ∧ (Instr.next (.pointer (some ⟨r, 0, none⟩)) false ty).run P w = .ok (.tuple #[.bool false]) w) ∨
    ∃ p w', p ∈ L ∧ (∀ q ∈ V, q.1 ≠ p.1) ∧ (Instr.next (.pointer (some ⟨r, 0, none⟩)) false ty).run P w = .ok (.tuple #[.bool true, eK p.1, eV p.2]) w' ∧
      RangeT P k eK eV w' b r L (V ++ [p]) ∧ w'.rangeLeft b r < w.rangeLeft b r ∧ w.grownBy w' (some r) ∧ w'.heap.size = w.heap.size ∧ (Instr.entry (.pointer (some ⟨r, 0, none⟩))).run P w' = .ok (.tuple #[eK p.1, eV p.2]) w' := by
  have hne := h.ne
  have hmap := h.map
  obtain ⟨es, clock, since, seen, c0, hb, hs, hk, hL, hr, hold, hsc, hsk, hseen, hsub, hpw⟩ := h
  have hlen : es.toList.length = L.length := by simpa using congrArg List.length hL
  have entry : ∀ (i : Nat) (x : MapEntry) (p : κ × ν), es.toList[i]? = some x → L[i]? = some p → x.key = eK p.1 ∧ x.val = eV p.2 := by
    intro i x p hx hp
    have h1 : (es.toList.map (fun y => (y.key, y.val)))[i]? = some (x.key, x.val) := by simp [hx]
    rw [hL] at h1
    simp [hp] at h1
    exact ⟨h1.1.symm, h1.2.symm⟩
  rcases run_next_at (P := P) w ty r b since c0 seen es clock hr hb hold hsc with ⟨h0, hrun⟩ | ⟨x, hx, w1, hal, hrun⟩
  · refine .inl ⟨fun p hp => ?_, hrun⟩
    obtain ⟨i, hi⟩ := List.mem_iff_getElem?.1 hp
    have hi1 := (List.getElem?_eq_some_iff.1 hi).1
    obtain ⟨x, hx⟩ : ∃ x, es.toList[i]? = some x := ⟨_, List.getElem?_eq_getElem (by omega)⟩
    exact (hseen i x p hx hi).1 (all_seen es seen h0 x (List.mem_of_getElem? hx))
  · obtain ⟨hem, hes⟩ := mem_left hx
    obtain ⟨i, hi⟩ := List.mem_iff_getElem?.1 hem
    have hi1 := (List.getElem?_eq_some_iff.1 hi).1
    obtain ⟨p, hp⟩ : ∃ p, L[i]? = some p := ⟨_, List.getElem?_eq_getElem (by omega)⟩
    obtain ⟨ek, ev⟩ := entry i x p hi hp
    have hpV : p ∉ V := fun h => by
      have := (hseen i x p hi hp).2 h
      rw [hes] at this; cases this
    have hr1 : w1.heap[r]? = some (.mapIter (some b) since seen c0) := by rcases hal with rfl | rfl <;> exact hr
    have hb1 : w1.heap[b]? = some (.map es clock) := by rcases hal with rfl | rfl <;> exact hb
    have hset := heap_set (o' := .mapIter (some b) since (seen.push x.born) clock) hr1
    have hb' : (setBlock w1 r (.mapIter (some b) since (seen.push x.born) clock)).heap[b]? = some (.map es clock) := (hset.2 b (fun e1 => hne e1.symm)).trans hb1
    have hfresh : ∀ q ∈ V, q.1 ≠ p.1 := fun q hq hqp => hpV (RangeT.key_uniq hmap (hsub q hq) (List.mem_of_getElem? hp) hqp ▸ hq)
    have hbi := ((stamped_iff es clock).1 hs).2.1
    refine .inr ⟨p, _, List.mem_of_getElem? hp, hfresh, by rw [← ek, ← ev]; exact hrun,
      ⟨es, clock, since, seen.push x.born, clock, hb', hs, hk, hL, hset.1, hold, hsk, hsk, ?_, ?_, ?_⟩, ?_, ?_, ?_, by rw [← ek, ← ev]; exact run_entry_at _ r b since seen es clock x hset.1 hb' hem hbi⟩
    · intro j y q hy hq
      rw [contains_push, List.mem_append, List.mem_singleton, Bool.or_eq_true, hseen j y q hy hq]
      constructor
      · rintro (h | h)
        · exact .inl h
        · have hyx : y = x := born_inj hbi (List.mem_of_getElem? hy) hem (by simpa using h)
          right
          have e1 := (entry j y q hy hq).1
          have : q.1 = p.1 := hinj _ _ (by rw [← e1, ← ek, hyx])
          exact RangeT.key_uniq hmap (List.mem_of_getElem? hq) (List.mem_of_getElem? hp) this
      · rintro (h | h)
        · exact .inl h
        · right
          subst h
          have hji : y.key = x.key := by rw [(entry j y q hy hq).1, ek]
          have := entry_eq_of_key ((stamped_iff es clock).1 hs).2.2 (List.mem_of_getElem? hy) hem hji
          simp [this]
    · intro q hq
      rw [List.mem_append, List.mem_singleton] at hq
      rcases hq with hq | rfl
      · exact hsub q hq
      · exact List.mem_of_getElem? hp
    · rw [List.pairwise_append]
      exact ⟨hpw, List.pairwise_singleton _ _, fun q hq q' hq' => by simp at hq'; subst hq'; exact hfresh q hq⟩
    · unfold World.rangeLeft
      rw [hb', hb, hr, show (setBlock w1 r (.mapIter (some b) since (seen.push x.born) clock)).heap[r]? = _ from hset.1]
      exact left_shrinks es seen x hx
    · rcases hal with rfl | rfl <;> exact ⟨rfl, rfl, rfl, by simp [setBlock], fun i _ hi => hset.2 i (fun e1 => hi (by rw [e1]))⟩
    · rcases hal with rfl | rfl <;> simp [setBlock]
end laws
end Go.Proofs.YtnacoplokjdglaaGreat

namespace Go.Proofs.YtnacoplokjdglaaGreat
open Go.RowKit Go.Maps

def wroteB (key val : Int) (o : GOp) : Bool := o.kind == 2 && o.key == key && o.val == val
/-- crucibleref08.Writer. -/
def writerM (ts : List GTxn) (key val : Int) : Int := match ts.findIdx? (fun t => t.ops.any (wroteB key val)) with
  | some i => (i : Int)
  | none => -1

theorem writerM_at {ts : List GTxn} {key val : Int} {k : Nat} {t : GTxn} (ht : ts[k]? = some t) (hh : t.ops.any (wroteB key val) = true)
    (hno : ∀ (j : Nat) (u : GTxn), j < k → ts[j]? = some u → u.ops.any (wroteB key val) = false) : writerM ts key val = k := by
  have : ts.findIdx? (fun t => t.ops.any (wroteB key val)) = some k := by
    rw [List.findIdx?_eq_some_iff_getElem]
    have hg := List.getElem?_eq_some_iff.1 ht
    refine ⟨hg.1, by rw [hg.2]; exact hh, fun j hj => ?_⟩
    have := hno j (ts[j]'(Nat.lt_trans hj hg.1)) hj (List.getElem?_eq_getElem _)
    simp [this]
  unfold writerM; rw [this]
theorem writerM_none {ts : List GTxn} {key val : Int} (hno : ∀ (j : Nat) (u : GTxn), ts[j]? = some u → u.ops.any (wroteB key val) = false) : writerM ts key val = -1 := by
  have : ts.findIdx? (fun t => t.ops.any (wroteB key val)) = none := by
    rw [List.findIdx?_eq_none_iff]
    intro x hx
    obtain ⟨j, hj, rfl⟩ := List.mem_iff_getElem.1 hx
    exact hno j _ (List.getElem?_eq_getElem hj)
  unfold writerM; rw [this]

end Go.Proofs.YtnacoplokjdglaaGreat

namespace Go.Proofs.YtnacoplokjdglaaGreat
open Go.RowKit Go.Maps

def bV (b : Bool) : List Value := [.bool b]
def OwBs (base : Nat) (w : World) (v : Value) (L : List Bool) : Prop := w.ownsRow base 4 1 v L.length (L.flatMap bV)
def hitS (ts : List GTxn) (st : Int) (i : Nat) (o : GOp) : Bool := o.val != 0 && st == 0 && writerM ts o.key o.val == (i : Int)
def hitT (ts : List GTxn) (st : Int) (i : Nat) (t : GTxn) : Bool := (readsM t).any (hitS ts st i)
end Go.Proofs.YtnacoplokjdglaaGreat

namespace Go.Proofs.YtnacoplokjdglaaGreat
open Go.RowKit Go.Maps

theorem OwBs.at {base : Nat} {w : World} {v : Value} {L : List Bool} (h : OwBs base w v L) : ∃ a cap, v = .slice a L.length cap ∧ ∀ j x, L[j]? = some x → ∃ b off, a = some ⟨b, off, none⟩ ∧ w.cell? ⟨b, off + j, none⟩ = some (.bool x) := by
  obtain ⟨a, len, cap, h1, h2, h3, h4, h5, h6⟩ := rds_of_own (V := bV) (fun _ => rfl) h
  subst h2
  refine ⟨a, cap, h1, fun j x hj => ?_⟩
  obtain ⟨b, off, cs, ha, hl, hc, rfl⟩ := h6 j x hj
  exact ⟨b, off, ha, by simpa using hc 0 _ rfl⟩

end Go.Proofs.YtnacoplokjdglaaGreat

namespace Go.Proofs.YtnacoplokjdglaaGreat
open Go.RowKit Go.Maps
/-- An operation that may be. -/
structure GoodOp (o : GOp) : Prop where
  kind : o.kind = 1 ∨ o.kind = 2
  key0 : 0 ≤ o.key
  key1 : o.key ≤ 15
  val0 : 0 ≤ o.val
  val1 : o.val < 1099511627776
/-- An event that may be. -/
structure GoodEv (e : GEvent) : Prop where
  kind0 : 1 ≤ e.kind
  kind1 : e.kind ≤ 4
  cl0 : 1 ≤ e.client
  cl1 : e.client ≤ 16
  len : e.ops.length ≤ 12
  ops : ∀ o ∈ e.ops, GoodOp o

theorem beq_t {a b : Int} (h : a = b) : (a == b) = true := by simp [h]
theorem beq_f {a b : Int} (h : a ≠ b) : (a == b) = false := by simp [h]
theorem bne_t {a b : Int} (h : a ≠ b) : (a != b) = true := by simp [h]
theorem bne_f {a b : Int} (h : a = b) : (a != b) = false := by simp [h]

end Go.Proofs.YtnacoplokjdglaaGreat

namespace Go.Proofs.YtnacoplokjdglaaGreat
open Go.RowKit Go.Maps
/-- What a walk wants of an event in a readable slice. -/
theorem RdEvents.at {w : World} {v : Value} {l : List GEvent} (h : RdEvents w v l) : ∃ a len cap, v = .slice a len cap ∧ len = l.length ∧ l.length ≤ 9223372036854775807 ∧
    ∀ j x, l[j]? = some x → ∃ b off oa oc, a = some ⟨b, off, none⟩ ∧ RdOps w (.slice oa x.ops.length oc) x.ops ∧ w.cell? ⟨b, off + j * 3, none⟩ = some (vi x.kind) ∧ w.cell? ⟨b, off + j * 3 + 1, none⟩ = some (vi x.client) ∧ w.cell? ⟨b, off + j * 3 + 2, none⟩ = some (.slice oa x.ops.length oc) := by
  obtain ⟨a, len, cap, h1, h2, h3, h6⟩ := RdS.at3 h
  refine ⟨a, len, cap, h1, h2, h3, fun j x hj => ?_⟩
  obtain ⟨b, off, c0, c1, c2, ha, ⟨ov, he, hr⟩, k0, k1, k2⟩ := h6 j x hj
  obtain ⟨oa, ol, oc, rfl, rfl, _⟩ := hr.at
  simp only [List.cons.injEq, and_true] at he
  obtain ⟨rfl, rfl, rfl⟩ := he
  exact ⟨b, off, oa, oc, ha, hr, k0, k1, k2⟩

end Go.Proofs.YtnacoplokjdglaaGreat

namespace Go.Proofs.YtnacoplokjdglaaGreat
open Go.RowKit Go.Maps
/-- An operation told is of the same kind and key as the one asked, and a write writes the same. -/
def SameShape (o p : GOp) : Prop := o.kind = p.kind ∧ o.key = p.key ∧ (o.kind = 2 → o.val = p.val)
def ShapeN (l m : List GOp) (n : Nat) : Prop := ∀ (i : Nat) (o p : GOp), i < n → m[i]? = some o → l[i]? = some p → SameShape o p
theorem ShapeN.next {l m : List GOp} {n : Nat} {o p : GOp} (h : ShapeN l m n) (ho : m[n]? = some o) (hp : l[n]? = some p) (hs : SameShape o p) : ShapeN l m (n + 1) := by
  intro i o' p' hlt ho' hp'
  rcases Nat.lt_or_ge i n with h' | h'
  · exact h i o' p' h' ho' hp'
  · obtain rfl : i = n := by omega
    rw [ho] at ho'; cases ho'
    rw [hp] at hp'; cases hp'
    exact hs

end Go.Proofs.YtnacoplokjdglaaGreat

namespace Go.Proofs.YtnacoplokjdglaaGreat
open Go.RowKit Go.Maps

abbrev TxL := List (GTxn × Value)
def txV (p : GTxn × Value) : List Value := [vi p.1.client, vi p.1.state, p.2]
theorem txV_length (p : GTxn × Value) : (txV p).length = 3 := rfl
theorem Tryz.infoTxn : (Tryz.prog.info? 49).map (fun i => (i.zero, i.size, i.bytes)) = some (some (.agg #[vi 0, vi 0, .slice none 0 0]), 3, 40) := by kernel_rfl
theorem eltTxn : Elt Tryz.prog 24 49 3 40 (.agg #[vi 0, vi 0, .slice none 0 0]) := by
  obtain ⟨i0, hi, hz0, hz1, hz2⟩ := info_parts Tryz.infoTxn
  exact ⟨Tryz.underlying24, by decide, rfl, i0, hi, hz0, hz1, hz2⟩
/-- Rows of two kinds lie in two blocks. -/
theorem rows_apart {w : World} {b b' e e' m m' n n' : Nat} {v v' : Value} {xs xs' : List Value} (h : w.ownsRow b e m v n xs) (h' : w.ownsRow b' e' m' v' n' xs') (he : e ≠ e') : v'.ownBlock = none ∨ v'.ownBlock ≠ v.ownBlock := by
  rcases h'.2 with ⟨hv', _⟩ | ⟨g', cap', cur', hv', _, hh', _⟩
  · left; rw [hv']; rfl
  · right
    rcases h.2 with ⟨hv, _⟩ | ⟨g, cap, cur, hv, _, hh, _⟩
    · rw [hv, hv']; simp [Value.ownBlock]
    · rw [hv, hv']
      intro e1
      have : g' = g := by simpa [Value.ownBlock] using e1
      subst this
      rw [hh] at hh'
      simp at hh'
      exact he hh'.2

/-- A block of another kind stays while an owned row is written. -/
theorem own_box {A B : World} {b n m bx : Nat} {e T : TypeId} {v : Value} {xs : List Value} {cs : Array Value} (h : A.ownsRow b e n v m xs) (hbx : A.heap[bx]? = some (.cells cs T)) (hT : T ≠ e) (hg : A.grownBy B v.ownBlock) : B.heap[bx]? = some (.cells cs T) := by
  rw [hg.block bx (Array.getElem?_eq_some_iff.1 hbx).1, hbx]
  intro hc
  rcases h.2 with ⟨hv, _⟩ | ⟨g, cap, cur, hv, _, hh, _⟩
  · rw [hv] at hc; simp [Value.ownBlock] at hc
  · rw [hv] at hc
    have : bx = g := by simpa [Value.ownBlock] using hc
    subst this
    rw [hbx] at hh
    simp at hh
    exact hT hh.2

structure OfS (w : World) (vo vf : Value) (L : TxL) (F : List Nat) (W : World) : Prop where
  out : W.ownsRow w.heap.size 49 3 vo L.length (L.flatMap txV)
  ops : ∀ p ∈ L, OwOps w.heap.size W p.2 p.1.ops
  frm : W.ownsRow w.heap.size 3 1 vf F.length (F.map (fun n : Nat => vi (n : Int)))
  below : Below w.heap.size w W
theorem OfS.later {w A B : World} {vo vf : Value} {L : TxL} {F : List Nat} (h : OfS w vo vf L F A) (hb : Below A.heap.size A B) : OfS w vo vf L F B :=
  ⟨own_below h.out hb, fun p hp => own_below (h.ops p hp) hb, own_below h.frm hb, h.below.trans (hb.mono h.below.size)⟩
/-- The transactions are written; those that stand there now have their operations in memory that was there. -/
theorem OfS.wrote {w A B : World} {vo vo' vf : Value} {L L' : TxL} {F : List Nat} (h : OfS w vo vf L F A) (hg : A.grownBy B vo.ownBlock) (ho : B.ownsRow w.heap.size 49 3 vo' L'.length (L'.flatMap txV)) (hops : ∀ p ∈ L', OwOps w.heap.size A p.2 p.1.ops) : OfS w vo' vf L' F B :=
  ⟨ho, fun p hp => World.ownsRow.kept (hops p hp) hg (rows_apart h.out (hops p hp) (by decide)), World.ownsRow.kept h.frm hg (rows_apart h.out h.frm (by decide)), h.below.grown hg h.below.size (fun j hj => (World.ownsRow.lt h.out j hj).1)⟩
theorem OfS.rd {w A : World} {vo vf : Value} {L : TxL} {F : List Nat} (h : OfS w vo vf L F A) : RdTxns A vo (L.map (·.1)) := by
  obtain ⟨a, len, cap, h1, h2, h3, h4, h5, h6⟩ := rds_of_own (V := txV) txV_length h.out
  refine ⟨a, len, cap, h1, by simpa using h2, by simpa using h3, h4, h5, fun j x hj => ?_⟩
  rw [List.getElem?_map, Option.map_eq_some_iff] at hj
  obtain ⟨p, hp, rfl⟩ := hj
  obtain ⟨b, off, cs, ha, hl, hc, rfl⟩ := h6 j p hp
  exact ⟨b, off, _, ha, hl, hc, p.2, rfl, (h.ops p (List.mem_of_getElem? hp)).rd⟩

theorem shapeN_refl (l : List GOp) (n : Nat) : ShapeN l l n := fun i o p _ ho hp => by rw [ho] at hp; cases hp; exact ⟨rfl, rfl, fun _ => rfl⟩

/-- Each written value belongs to one transaction. -/
def Uniq (ts : List GTxn) : Prop := ∀ (i j : Nat) (t u : GTxn), ts[i]? = some t → ts[j]? = some u → ∀ o ∈ t.ops, ∀ p ∈ u.ops, o.kind = 2 → p.kind = 2 → o.val = p.val → i = j
/-- What is known of a history's transactions. -/
structure GoodTs (ts : List GTxn) : Prop where
  len : ts.length ≤ 60
  txn : ∀ t ∈ ts, (0 ≤ t.state ∧ t.state ≤ 2) ∧ (∀ o ∈ t.ops, GoodOp o) ∧ t.ops.length ≤ 12
  uniq : Uniq ts
theorem GoodTs.ok {ts : List GTxn} (h : GoodTs ts) : OkTxns ts := by
  refine ⟨by have := h.len; omega, fun t ht => ?_⟩
  obtain ⟨-, h2, h3⟩ := h.txn t ht
  refine ⟨fun o ho => ?_, by omega⟩
  have g := h2 o ho
  have := g.kind; have := g.key0; have := g.key1; have := g.val0; have := g.val1
  unfold i64
  omega
end Go.Proofs.YtnacoplokjdglaaGreat

namespace Go.Proofs.YtnacoplokjdglaaGreat
open Go.RowKit Go.Maps

theorem foldBy_any (n : Nat) (key val : Int) : ∀ (l : List GOp) (L : ByL), getM (l.foldl (stepBy n) L) (key, val) = if l.any (wroteB key val) then some (n : Int) else getM L (key, val) := by
  intro l
  induction l with
  | nil => intro L; rfl
  | cons o l ih =>
    intro L
    rw [List.foldl_cons, ih, List.any_cons]
    cases h1 : l.any (wroteB key val)
    · simp only [Bool.or_false, Bool.false_eq_true, if_false]
      unfold stepBy wroteB
      by_cases hk : o.kind = 2
      · rw [if_pos hk, getM_put]
        by_cases h2 : o.key = key <;> by_cases h3 : o.val = val <;> simp [hk, h2, h3]
      · simp [hk]
    · simp

theorem byN_none {ts : List GTxn} {key val : Int} : ∀ n, n ≤ ts.length → (∀ (j : Nat) (u : GTxn), j < n → ts[j]? = some u → u.ops.any (wroteB key val) = false) → getM (byN ts n) (key, val) = none := by
  intro n
  induction n with
  | zero => intro _ _; rfl
  | succ n ih =>
    intro hn h
    obtain ⟨t, ht⟩ := some_at hn
    rw [byN_succ ht, foldBy_any, h n t (by omega) ht]
    exact ih (by omega) fun j u hj hu => h j u (by omega) hu
theorem byN_one {ts : List GTxn} {key val : Int} {i : Nat} {t : GTxn} (ht : ts[i]? = some t) (hh : t.ops.any (wroteB key val) = true) :
    ∀ n, n ≤ ts.length → i < n → (∀ (j : Nat) (u : GTxn), j ≠ i → ts[j]? = some u → u.ops.any (wroteB key val) = false) → getM (byN ts n) (key, val) = some (i : Int) := by
  intro n
  induction n with
  | zero => intro _ h; omega
  | succ n ih =>
    intro hn hi h
    obtain ⟨u, hu⟩ := some_at hn
    rw [byN_succ hu, foldBy_any]
    by_cases he : n = i
    · subst he
      rw [ht] at hu; cases hu
      rw [hh]; rfl
    · rw [h n u he hu]
      exact ih (by omega) (by omega) h

theorem wrote_val {key val : Int} {l : List GOp} (h : l.any (wroteB key val) = true) : ∃ o ∈ l, o.kind = 2 ∧ o.val = val := by
  rw [List.any_eq_true] at h
  obtain ⟨o, ho, hh⟩ := h
  simp [wroteB] at hh
  exact ⟨o, ho, hh.1.1, hh.2⟩

/-- Both ways to name who wrote a value to a key. -/
theorem by_writer {ts : List GTxn} (hu : Uniq ts) (key val : Int) : (getM (byN ts ts.length) (key, val) = none ∧ writerM ts key val = -1) ∨ ∃ (i : Nat) (t : GTxn), ts[i]? = some t ∧ getM (byN ts ts.length) (key, val) = some (i : Int) ∧ writerM ts key val = i := by
  by_cases h : ∃ (i : Nat) (t : GTxn), ts[i]? = some t ∧ t.ops.any (wroteB key val) = true
  · obtain ⟨i, t, ht, hh⟩ := h
    have hno : ∀ (j : Nat) (u : GTxn), j ≠ i → ts[j]? = some u → u.ops.any (wroteB key val) = false := by
      intro j u hj hju
      cases hc : u.ops.any (wroteB key val) with
      | false => rfl
      | true =>
        obtain ⟨o, ho, hk, hv⟩ := wrote_val hh
        obtain ⟨p, hp, hk', hv'⟩ := wrote_val hc
        exact absurd (hu j i u t hju ht p hp o ho hk' hk (by rw [hv, hv'])) hj
    have hlt := (List.getElem?_eq_some_iff.1 ht).1
    exact .inr ⟨i, t, ht, byN_one ht hh _ (Nat.le_refl _) hlt hno, writerM_at ht hh fun j u hj hju => hno j u (by omega) hju⟩
  · have hno : ∀ (j : Nat) (u : GTxn), ts[j]? = some u → u.ops.any (wroteB key val) = false := by
      intro j u hju
      cases hc : u.ops.any (wroteB key val) with
      | false => rfl
      | true => exact absurd ⟨j, u, hju, hc⟩ h
    exact .inl ⟨byN_none _ (Nat.le_refl _) fun j u _ hju => hno j u hju, writerM_none hno⟩

theorem getB_set (L : List Bool) (j i : Nat) (b : Bool) (hi : i < L.length) : ((L.set j b)[i]?).getD false = if j = i then b else (L[i]?).getD false := by
  rw [List.getElem?_set]
  by_cases h : j = i
  · subst h; simp [hi]
  · simp [h]

theorem sureR_at {ts : List GTxn} (hu : Uniq ts) (L : List Bool) (o : GOp) (i : Nat) (hi : i < L.length) (_hl : L.length = ts.length) :
    ((sureR (byN ts ts.length) ts L o)[i]?).getD false = ((L[i]?).getD false || hitS ts (stOf ts i) i o) := by
  unfold sureR hitS
  rcases by_writer hu o.key o.val with ⟨h1, h2⟩ | ⟨j, t, hj, h1, h2⟩
  · rw [h1, h2]
    have : ((-1 : Int) == (i : Int)) = false := by rw [beq_eq_false_iff_ne]; omega
    simp [this]
  · rw [h1, h2]
    simp only [Int.toNat_natCast, hj, Option.map_some]
    by_cases hji : j = i
    · subst hji
      have hst : stOf ts j = t.state := by simp [stOf, hj]
      rw [hst]
      by_cases hv : o.val = 0 <;> by_cases hs : t.state = 0
      · simp [hv]
      · simp [hv]
      · rw [if_pos ⟨hv, by rw [hs]⟩, getB_set _ _ _ _ hi]; simp [hv, hs]
      · rw [if_neg (fun h => hs (by simpa using h.2))]; simp [hs]
    · have : ((j : Int) == (i : Int)) = false := by rw [beq_eq_false_iff_ne]; omega
      rw [this, Bool.and_false, Bool.or_false]
      split
      · rw [getB_set _ _ _ _ hi, if_neg hji]
      · rfl

theorem foldR_at {ts : List GTxn} (hu : Uniq ts) (i : Nat) : ∀ (l : List GOp) (L : List Bool), i < L.length → L.length = ts.length →
    ((l.foldl (sureR (byN ts ts.length) ts) L)[i]?).getD false = ((L[i]?).getD false || l.any (hitS ts (stOf ts i) i)) := by
  intro l
  induction l with
  | nil => intro L _ _; simp
  | cons o l ih =>
    intro L hi hl
    rw [List.foldl_cons, ih _ (by rw [sureR_length]; exact hi) (by rw [sureR_length]; exact hl), sureR_at hu L o i hi hl, List.any_cons, Bool.or_assoc]

theorem sureN_at {ts : List GTxn} (hu : Uniq ts) (i : Nat) (hi : i < ts.length) : ∀ n, n ≤ ts.length →
    ((sureN ts n)[i]?).getD false = ((decide (i < n) && stOf ts i == 1) || (ts.take n).any (hitT ts (stOf ts i) i)) := by
  intro n
  induction n with
  | zero => intro _; simp [sureN, hi]
  | succ n ih =>
    intro hn
    obtain ⟨t, ht⟩ := some_at hn
    have hl := sureN_length ts n (by omega)
    rw [sureN_succ ht]; unfold sureT
    rw [foldR_at hu i _ _ (by rw [List.length_set, hl]; exact hi) (by rw [List.length_set, hl]), getB_set _ _ _ _ (by rw [hl]; exact hi), take_at ht, List.any_append]
    simp only [List.any_cons, List.any_nil, Bool.or_false]
    rw [show (readsM t).any (hitS ts (stOf ts i) i) = hitT ts (stOf ts i) i t from rfl, ← Bool.or_assoc]
    congr 1
    by_cases h : n = i
    · subst h
      rw [if_pos rfl, ih (by omega)]
      have hst : stOf ts n = t.state := by simp [stOf, ht]
      simp only [hst, Nat.lt_irrefl, decide_false, Bool.false_and, Bool.false_or, Nat.lt_succ_self, decide_true, Bool.true_and]
      exact Bool.or_comm _ _
    · rw [if_neg h, ih (by omega)]
      have : decide (i < n) = decide (i < n + 1) := by rw [decide_eq_decide]; omega
      rw [this]

end Go.Proofs.YtnacoplokjdglaaGreat

namespace Go.Proofs.YtnacoplokjdglaaGreat
open Go.RowKit Go.Maps

deriving instance DecidableEq for GChoice

theorem choiceKeyed : Keyed Tryz.prog 128 := Keyed.of_law (deep_law_laid laidOutP (m := 2) (by omega) (of_decide_eq_true (by kernel_rfl)) (by kernel_rfl) (by rw [Tryz.underlying128]))

abbrev chK (c : GChoice) : Value := .agg #[vi c.kind, vi c.key, vi c.a, vi c.b]
theorem chK_inj (x y : GChoice) (h : chK x = chK y) : x = y := by
  obtain ⟨a, b, c, d⟩ := x; obtain ⟨a', b', c', d'⟩ := y
  simp [chK] at h; obtain ⟨rfl, rfl, rfl, rfl⟩ := h; rfl
def SmallCh (c : GChoice) : Prop := i64 c.kind ∧ i64 c.key ∧ i64 c.a ∧ i64 c.b

theorem choiceLits {c : GChoice} (h : SmallCh c) (d : Nat) : Tryz.prog.keyLits (d + 1 + 1) 128 [vi c.kind, vi c.key, vi c.a, vi c.b] = some [.int .i64 c.kind, .int .i64 c.key, .int .i64 c.a, .int .i64 c.b] := by
  have hc : Tryz.prog.cellsOf 128 = 4 := by kernel_rfl
  have hi : Tryz.prog.cellsOf 3 = 1 := by kernel_rfl
  obtain ⟨h1, h2, h3, h4⟩ := h
  unfold Program.keyLits
  rw [Tryz.underlying128]
  simp [hc, hi, lit_int h1, lit_int h2, lit_int h3, lit_int h4]
theorem choiceKey {c : GChoice} (h : SmallCh c) : ∃ kl, keyOf Tryz.prog 128 (chK c) = some kl := by
  have hk : Tryz.prog.keyType 128 = true := by kernel_rfl
  have hc : Tryz.prog.cellsOf 128 = 4 := by kernel_rfl
  obtain ⟨d, hd⟩ : ∃ d, Tryz.prog.types.size = d + 1 := ⟨Tryz.prog.types.size - 1, by have : 0 < Tryz.prog.types.size := of_decide_eq_true (by kernel_rfl); omega⟩
  have hf : (chK c).formed Tryz.prog 128 = true := by simp [Value.formed, Tryz.underlying128, hc]
  have hl := choiceLits h d
  unfold keyOf
  rw [Tryz.underlying128, hd]
  simp [hk, hf, Value.cells, hl]

abbrev FaL := List (GChoice × Bool)
abbrev MapF (w : World) (b : Nat) (L : FaL) : Prop := MapT Tryz.prog 128 chK Value.bool w b L
/-- What a choice of a history looks like. -/
structure OkCh (n : Nat) (c : GChoice) : Prop where
  key : 0 ≤ c.key ∧ c.key < 16
  a : 0 ≤ c.a ∧ c.a < n
  b : 0 ≤ c.b ∧ c.b < n
  kind : c.kind = 1 ∧ c.key = 0 ∧ c.b = 0 ∨ c.kind = 2 ∧ c.a < c.b
theorem OkCh.small {n : Nat} {c : GChoice} (h : OkCh n c) (hn : n ≤ 4096) : SmallCh c := by
  have := h.key; have := h.a; have := h.b; have := h.kind
  unfold SmallCh i64; omega

theorem cmS_mem {S : List Bool} {ts : List GTxn} {c : GChoice} {n : Nat} (h : c ∈ cmS S ts n) : ∃ i : Nat, i < n ∧ i < ts.length ∧ c = ⟨1, 0, i, 0⟩ := by
  unfold cmS at h
  rw [List.mem_filterMap] at h
  obtain ⟨i, hi, h⟩ := h
  rw [List.mem_range] at hi
  cases ht : ts[i]? with
  | none => simp [ht] at h
  | some t =>
    have := (List.getElem?_eq_some_iff.1 ht).1
    simp only [ht, Option.bind_some] at h
    split at h
    · simp at h; exact ⟨i, hi, this, h.symm⟩
    · simp at h
theorem befA_mem {ts : List GTxn} {key b n : Nat} {c : GChoice} (h : c ∈ befA ts key b n) : ∃ a : Nat, a < n ∧ c = ⟨2, key, a, b⟩ := by
  unfold befA at h
  rw [List.mem_filterMap] at h
  obtain ⟨a, ha, h⟩ := h
  rw [List.mem_range] at ha
  split at h
  · simp at h; exact ⟨a, ha, h.symm⟩
  · simp at h
theorem befB_mem {ts : List GTxn} {key n : Nat} {c : GChoice} (h : c ∈ befB ts key n) : ∃ a b : Nat, a < b ∧ b < n ∧ c = ⟨2, key, a, b⟩ := by
  unfold befB at h
  rw [List.mem_flatMap] at h
  obtain ⟨b, hb, h⟩ := h
  rw [List.mem_range] at hb
  obtain ⟨a, ha, rfl⟩ := befA_mem h
  exact ⟨a, b, ha, hb, rfl⟩
theorem befK_mem {ts : List GTxn} {n : Nat} {c : GChoice} (h : c ∈ befK ts n) : ∃ key a b : Nat, key < n ∧ a < b ∧ b < ts.length ∧ c = ⟨2, key, a, b⟩ := by
  unfold befK at h
  rw [List.mem_flatMap] at h
  obtain ⟨k, hk, h⟩ := h
  rw [List.mem_range] at hk
  obtain ⟨a, b, ha, hb, rfl⟩ := befB_mem h
  exact ⟨k, a, b, hk, ha, hb, rfl⟩
theorem choicesM_ok {ts : List GTxn} {c : GChoice} (h : c ∈ choicesM ts) : OkCh ts.length c := by
  unfold choicesM at h
  rw [List.mem_append] at h
  rcases h with h | h
  · obtain ⟨i, h1, h2, rfl⟩ := cmS_mem h
    exact ⟨⟨by simp, by simp⟩, ⟨by simp, by simpa using h2⟩, ⟨by simp, by simp; omega⟩, .inl ⟨rfl, rfl, rfl⟩⟩
  · obtain ⟨k, a, b, h1, h2, h3, rfl⟩ := befK_mem h
    exact ⟨⟨by simp, by simp; omega⟩, ⟨by simp, by simp; omega⟩, ⟨by simp, by simp; omega⟩, .inr ⟨rfl, by simp; omega⟩⟩

theorem cmS_nodup (S : List Bool) (ts : List GTxn) : ∀ n, (cmS S ts n).Nodup := by
  intro n
  induction n with
  | zero => simp [cmS]
  | succ n ih =>
    cases ht : ts[n]? with
    | none =>
      have : cmS S ts (n + 1) = cmS S ts n := by simp [cmS, List.range_succ, ht]
      rw [this]; exact ih
    | some t =>
      rw [cmS_succ ht, List.nodup_append]
      refine ⟨ih, by split <;> simp, fun c hc d hd => ?_⟩
      obtain ⟨i, h1, _, rfl⟩ := cmS_mem hc
      split at hd
      · simp at hd; subst hd; simp; omega
      · simp at hd
theorem befA_nodup (ts : List GTxn) (key b : Nat) : ∀ n, (befA ts key b n).Nodup := by
  intro n
  induction n with
  | zero => simp [befA]
  | succ n ih =>
    rw [befA_succ, List.nodup_append]
    refine ⟨ih, by split <;> simp, fun c hc d hd => ?_⟩
    obtain ⟨i, h1, rfl⟩ := befA_mem hc
    split at hd
    · simp at hd; subst hd; simp; omega
    · simp at hd
theorem befB_nodup (ts : List GTxn) (key : Nat) : ∀ n, (befB ts key n).Nodup := by
  intro n
  induction n with
  | zero => simp [befB]
  | succ n ih =>
    rw [befB_succ, List.nodup_append]
    refine ⟨ih, befA_nodup _ _ _ _, fun c hc d hd => ?_⟩
    obtain ⟨a, b, h1, h2, rfl⟩ := befB_mem hc
    obtain ⟨a', h3, rfl⟩ := befA_mem hd
    simp; omega
theorem befK_nodup (ts : List GTxn) : ∀ n, (befK ts n).Nodup := by
  intro n
  induction n with
  | zero => simp [befK]
  | succ n ih =>
    rw [befK_succ, List.nodup_append]
    refine ⟨ih, befB_nodup _ _ _, fun c hc d hd => ?_⟩
    obtain ⟨k, a, b, h1, _, _, rfl⟩ := befK_mem hc
    obtain ⟨a', b', _, _, rfl⟩ := befB_mem hd
    simp; omega
theorem choicesM_nodup (ts : List GTxn) : (choicesM ts).Nodup := by
  unfold choicesM
  rw [List.nodup_append]
  refine ⟨cmS_nodup _ _ _, befK_nodup _ _, fun c hc d hd => ?_⟩
  obtain ⟨i, _, _, rfl⟩ := cmS_mem hc
  obtain ⟨k, a, b, _, _, _, rfl⟩ := befK_mem hd
  simp

/-- Who is done, and whether that is known. -/
def deadB (ts : List GTxn) (i : Nat) : Bool := stOf ts i == 2 || (ts[i]?.map (fun t => (writesM t.ops).length == 0)).getD false
def isM (ts : List GTxn) (L : FaL) (i : Nat) : Bool × Bool :=
  if (sureM ts)[i]?.getD false then (true, true) else if deadB ts i then (false, true) else ((getM L ⟨1, 0, i, 0⟩).getD false, (getM L ⟨1, 0, i, 0⟩).isSome)
/-- Is a choice open, and does it count? -/
def openC (ts : List GTxn) (L : FaL) (c : GChoice) : Bool := (getM L c).isNone && (c.kind != 2 || (isM ts L c.a.toNat).1 && (isM ts L c.b.toNat).1)
/-- chains.Next. -/
def nextM (ts : List GTxn) (L : FaL) : Option GChoice := (choicesM ts).find? (openC ts L)
end Go.Proofs.YtnacoplokjdglaaGreat
