/- Texts of one proof, one behind the other: Chs, Choices, Bound, Range, RefW, Writer, RefR. -/
import Derived.Maps.Range
import Derived.Test.YtnacoplokjdglaaGreatKp1
import Derived.Test.YtnacoplokjdglaaGreatKp2
set_option linter.all false
namespace Go.Proofs.YtnacoplokjdglaaGreat
open Go.RowKit Go.Maps
section rows
variable {α : Type} {V : α → List Value} {m : Nat}
theorem flat_at (hm : ∀ x, (V x).length = m) (l : List α) (j i : Nat) (x : α) (u : Value) (hj : l[j]? = some x) (hu : (V x)[i]? = some u) : (l.flatMap V)[j * m + i]? = some u := by
  induction l generalizing j with
  | nil => simp at hj
  | cons y l ih =>
    have hi : i < m := by have := (List.getElem?_eq_some_iff.1 hu).1; rw [hm] at this; exact this
    rw [List.flatMap_cons]
    cases j with
    | zero =>
      simp at hj; subst hj
      rw [List.getElem?_append_left (by rw [hm]; simpa using hi)]
      simpa using hu
    | succ j =>
      have e : (j + 1) * m + i = m + (j * m + i) := by rw [Nat.add_mul]; omega
      rw [List.getElem?_append_right (by rw [hm]; omega), hm]
      have : (j + 1) * m + i - m = j * m + i := by omega
      rw [this]
      exact ih j (by simpa using hj)

theorem rds_of_own (hm : ∀ x, (V x).length = m) {base : Nat} {w : World} {e : TypeId} {v : Value} {l : List α} (h : w.ownsRow base e m v l.length (l.flatMap V)) : RdS m (fun _ cs x => cs = V x) w v l := by
  obtain ⟨h1, h2⟩ := id h
  rcases h2 with ⟨hv, h0⟩ | ⟨g, cap, cur, hv, hg, hh, hn, hcm, hs, ht⟩
  · have : l = [] := List.length_eq_zero_iff.1 h0
    subst this
    exact ⟨none, 0, 0, hv, rfl, by simp, Nat.le_refl _, fun _ => ⟨rfl, rfl⟩, fun j x hj => by simp at hj⟩
  · refine ⟨some ⟨g, 0, none⟩, l.length, cap, hv, rfl, by simp only [maxLen] at hcm; omega, hn, fun h => (by cases h), fun j x hj => ⟨g, 0, V x, rfl, hm x, fun i u hu => ?_, rfl⟩⟩
    have := World.ownsRow.cells h (g := g) (by rw [hv]; rfl) (j * m + i) u (flat_at hm l j i x u hj hu)
    rwa [addr_add] at this
end rows
/-- A choice. -/
structure GChoice where
  kind : Int
  key : Int
  a : Int
  b : Int
deriving DecidableEq

def chV (c : GChoice) : List Value := [vi c.kind, vi c.key, vi c.a, vi c.b]
theorem chV_length (c : GChoice) : (chV c).length = 4 := rfl
def OwCh (e : TypeId) (base : Nat) (w : World) (v : Value) (l : List GChoice) : Prop := w.ownsRow base e 4 v l.length (l.flatMap chV)
def RdCh (w : World) (v : Value) (l : List GChoice) : Prop := RdS 4 (fun _ cs c => cs = chV c) w v l
theorem OwCh.rd {e : TypeId} {base : Nat} {w : World} {v : Value} {l : List GChoice} (h : OwCh e base w v l) : RdCh w v l := rds_of_own chV_length h
theorem RdCh.at {w : World} {v : Value} {l : List GChoice} (h : RdCh w v l) : ∃ a len cap, v = .slice a len cap ∧ len = l.length ∧ l.length ≤ 9223372036854775807 ∧
    ∀ j x, l[j]? = some x → ∃ b off, a = some ⟨b, off, none⟩ ∧ w.cell? ⟨b, off + j * 4, none⟩ = some (vi x.kind) ∧ w.cell? ⟨b, off + j * 4 + 1, none⟩ = some (vi x.key) ∧ w.cell? ⟨b, off + j * 4 + 2, none⟩ = some (vi x.a) ∧ w.cell? ⟨b, off + j * 4 + 3, none⟩ = some (vi x.b) := by
  obtain ⟨a, len, cap, h1, h2, h3, h4, h5, h6⟩ := h
  refine ⟨a, len, cap, h1, h2, h3, fun j x hj => ?_⟩
  obtain ⟨b, off, cs, ha, hl, hc, rfl⟩ := h6 j x hj
  exact ⟨b, off, ha, by simpa using hc 0 _ rfl, by simpa [Nat.add_assoc] using hc 1 _ rfl, by simpa [Nat.add_assoc] using hc 2 _ rfl, by simpa [Nat.add_assoc] using hc 3 _ rfl⟩

theorem Tryz.infoCh : (Tryz.prog.info? 128).map (fun i => (i.zero, i.size, i.bytes)) = some (some (.agg #[vi 0, vi 0, vi 0, vi 0]), 4, 32) := by kernel_rfl
theorem eltCh : Elt Tryz.prog 99 128 4 32 (.agg #[vi 0, vi 0, vi 0, vi 0]) := by
  obtain ⟨i0, hi, hz0, hz1, hz2⟩ := info_parts Tryz.infoCh
  exact ⟨Tryz.underlying99, by decide, rfl, i0, hi, hz0, hz1, hz2⟩
theorem chV_one (c : GChoice) : ∀ u ∈ chV c, u.oneCell' = true := by
  intro u hu; simp [chV] at hu; rcases hu with rfl | rfl | rfl | rfl <;> rfl
end Go.Proofs.YtnacoplokjdglaaGreat

namespace Go.Proofs.YtnacoplokjdglaaGreat
open Go.RowKit Go.Maps

def stOf (ts : List GTxn) (i : Nat) : Int := (ts[i]?.map (·.state)).getD 0
def wrOf (ts : List GTxn) (i : Nat) (key : Int) : Bool := (ts[i]?.map (fun t => writesK t key)).getD false
/-- Is it open whether a transaction was done? -/
def openB (S : List Bool) (i : Nat) (t : GTxn) : Bool := t.state == 0 && !(S[i]?.getD false) && decide (0 < (writesM t.ops).length)
def cmS (S : List Bool) (ts : List GTxn) (n : Nat) : List GChoice := (List.range n).filterMap (fun i => ts[i]?.bind (fun t => if openB S i t then some ⟨1, 0, i, 0⟩ else none))
def condB (ts : List GTxn) (key a b : Nat) : Bool := stOf ts a != 2 && stOf ts b != 2 && wrOf ts a key && wrOf ts b key
def befA (ts : List GTxn) (key b n : Nat) : List GChoice := (List.range n).filterMap (fun a => if condB ts key a b then some ⟨2, key, a, b⟩ else none)
def befB (ts : List GTxn) (key n : Nat) : List GChoice := (List.range n).flatMap (fun b => befA ts key b b)
def befK (ts : List GTxn) (n : Nat) : List GChoice := (List.range n).flatMap (fun key => befB ts key ts.length)
/-- chains.Choices. -/
def choicesM (ts : List GTxn) : List GChoice := cmS (sureM ts) ts ts.length ++ befK ts 16

theorem cmS_succ {S : List Bool} {ts : List GTxn} {n : Nat} {t : GTxn} (h : ts[n]? = some t) : cmS S ts (n + 1) = cmS S ts n ++ (if openB S n t then [⟨1, 0, n, 0⟩] else []) := by
  by_cases hc : openB S n t <;> simp [cmS, List.range_succ, h, hc]
theorem befA_succ (ts : List GTxn) (key b n : Nat) : befA ts key b (n + 1) = befA ts key b n ++ (if condB ts key n b then [⟨2, key, n, b⟩] else []) := by
  by_cases hc : condB ts key n b <;> simp [befA, List.range_succ, hc]
theorem befB_succ (ts : List GTxn) (key n : Nat) : befB ts key (n + 1) = befB ts key n ++ befA ts key n n := by
  unfold befB; rw [List.range_succ, List.flatMap_append]; simp
theorem befK_succ (ts : List GTxn) (n : Nat) : befK ts (n + 1) = befK ts n ++ befB ts n ts.length := by
  unfold befK; rw [List.range_succ, List.flatMap_append]; simp
theorem cmS_le (S : List Bool) (ts : List GTxn) (n : Nat) : (cmS S ts n).length ≤ n := by
  unfold cmS; exact Nat.le_trans (List.length_filterMap_le _ _) (by simp)
theorem befA_le (ts : List GTxn) (key b n : Nat) : (befA ts key b n).length ≤ n := by
  unfold befA; exact Nat.le_trans (List.length_filterMap_le _ _) (by simp)
theorem befB_le (ts : List GTxn) (key : Nat) : ∀ n, n ≤ 4096 → (befB ts key n).length ≤ n * 4096 := by
  intro n
  induction n with
  | zero => intro _; simp [befB]
  | succ n ih =>
    intro hn
    rw [befB_succ, List.length_append]
    have := ih (by omega)
    have := befA_le ts key n n
    omega
theorem befK_le (ts : List GTxn) (h : ts.length ≤ 4096) : ∀ n, (befK ts n).length ≤ n * 16777216 := by
  intro n
  induction n with
  | zero => simp [befK]
  | succ n ih =>
    rw [befK_succ, List.length_append]
    have := befB_le ts n ts.length h
    omega

set_option maxRecDepth 100000 in
set_option maxHeartbeats 2000000 in
theorem choices_call (v : Value) (ts : List GTxn) (w : World) (hv : RdTxns w v ts) (hok : OkTxns ts) (htl : ts.length ≤ 4096) :
    Calls Tryz.prog 48 #[v] w fun e w' => ∃ v', e = .returned v' ∧ OwCh 128 w.heap.size w' v' (choicesM ts) ∧ Below w.heap.size w w' := by
  have HV := Lib.hid hv
  have HOK := Lib.hid hok
  obtain ⟨a, len, cap, rfl, rfl, hm, -⟩ := hv.at
  clear hv hok
  go_enter Tryz.func48, Tryz.ntmps48
  go_wp2_with (go_at_call 65; refine (sure_call _ _ _ HV.out HOK.out).mono ?_; rintro e w1 ⟨sb, rfl, hsb, hS, hb1⟩)
  have hs1 := hb1.size
  have HB1 := Lib.hid hb1
  have HS := Lib.hid hS
  have hsl := hS.lt
  clear hb1 hS
  go_loopw [3, 5, 6, 14] (fun v _ _ i wr => ∃ k : Nat, k ≤ ts.length ∧ i = .int .i64 k ∧ OwCh 128 w1.heap.size wr v (cmS (sureM ts) ts k) ∧ Below w1.heap.size w1 wr) (fun _ _ _ i _ => ts.length - (intOf i).toNat)
  case atStart => exact ⟨0, Nat.zero_le _, rfl, World.ownsRow_nil _ _ _ _, Below.refl _ _⟩
  case round =>
    obtain ⟨wo, rfl⟩ : ∃ wo : World, wo = wr := ⟨_, rfl⟩
    obtain ⟨k, hk, rfl, ho, hb⟩ := hrel
    have HO := Lib.hid ho
    have HB := Lib.hid hb
    have HW := Lib.hid (HB1.out.trans (hb.mono hs1))
    clear ho hb
    by_cases hlt : k < ts.length
    · obtain ⟨t, ht⟩ := some_at hlt
      obtain ⟨_, _, _, e5, -, -, hcl⟩ := HV.out.at
      cases e5
      obtain ⟨b, off, oa, oc, rfl, hr, k0', k1', k2'⟩ := hcl k t ht
      have k0 := cell_later HW.out k0'
      have k1 := cell_later HW.out k1'
      have k2 := cell_later HW.out k2'
      obtain ⟨x, hx⟩ := some_at (l := sureM ts) (k := k) (by rw [sureM_length ts]; exact hlt)
      have x0 := fun o' => cell_later (HB.out.alloc HB.out.size o') (HS.out.at hx)
      have HE := Lib.hid (show openB (sureM ts) k t = (t.state == 0 && !x && decide (0 < (writesM t.ops).length)) by unfold openB; rw [hx]; rfl)
      have HN := Lib.hid (cmS_succ (S := sureM ts) ht)
      have HR := Lib.hid hr
      obtain ⟨hok1, hok2⟩ := HOK.out.2 t (List.mem_of_getElem? ht)
      clear hcl ht hr hok1 k0' k1' k2' hx
      go_upto_region 6 with fail
      go_cut [34] (fun r wx => r = .bool (openB (sureM ts) k t) ∧ OwCh 128 w1.heap.size wx u3 (cmS (sureM ts) ts k) ∧ Below w1.heap.size w1 wx)
      case first =>
        have hr1 := (HR.out.later HW.out)
        by_cases hs0 : t.state = 0
        · have h0 : (t.state == 0) = true := by simp [hs0]
          have hb1 := HB.out.alloc HB.out.size (.cells #[vi t.client, vi t.state, .slice oa t.ops.length oc] 49)
          have HR2 := Lib.hid (HR.out.later (HW.out.alloc (by have := HW.out.size; omega) (.cells #[vi t.client, vi t.state, .slice oa t.ops.length oc] 49)))
          rw [h0] at HE
          clear hs0
          cases x
          · go_wp2_with (go_at_call 71; refine (writes_call t.client t.state _ t.ops _ HR2.out hok2).mono ?_; rintro e w2 ⟨v2, rfl, ho2, hb2⟩; have hr2 := ho2.rd; obtain ⟨a2, len2, cap2, rfl, rfl, hm2, -⟩ := hr2.at)
            go_meet
            exact ⟨by rw [HE.out]; rfl, own_below (HO.out.alloc _) hb2, hb1.trans (hb2.mono hb1.size)⟩
          · go_wp2_with fail
            go_meet
            exact ⟨by rw [HE.out]; rfl, HO.out.alloc _, hb1⟩
        · have h0 : (t.state == 0) = false := by simp [hs0]
          have hb1 := HB.out.alloc HB.out.size (.cells #[vi t.client, vi t.state, .slice oa t.ops.length oc] 49)
          rw [h0] at HE
          clear hs0
          go_wp2_with fail
          go_meet
          exact ⟨by rw [HE.out]; rfl, HO.out.alloc _, hb1⟩
      case rest =>
        obtain ⟨rfl, ho, hb⟩ := hcut
        have hsz := hb.size
        have HO2 := Lib.hid ho
        have HB2 := Lib.hid hb
        have hle := cmS_le (sureM ts) ts k
        clear ho hb k0 k1 k2 x0
        cases hc : openB (sureM ts) k t with
        | true =>
          rw [hc] at HN
          clear hc
          go_wp2_with (at_builtin; refine wpList_append_src rfl _ _ 99 rfl eltCh w1.heap.size (cmS (sureM ts) ts k).length _ (HO2.out.alloc _) rfl 1 (chV ⟨1, 0, k, 0⟩) (src_new (cs := #[vi 1, vi 0, vi k, vi 0]) rfl rfl) rfl (chV_one _) (by omega) (by omega) (by simp; omega) ?_; intro v1 w2 ho1 hg1 _)
          have hbl : ∀ j, u3.ownBlock = some j → w1.heap.size ≤ j := fun j hj => (HO2.out.lt j hj).1
          go_roundw
          case rel =>
            refine ⟨k + 1, by omega, by go_num, ?_, ?_⟩
            · rw [HN.out]; simpa [OwCh] using ho1
            · exact (HB2.out.alloc hsz _).grown hg1 (by simp; omega) hbl
          case measure => simp [intOf]; omega
        | false =>
          rw [hc] at HN
          clear hc
          go_wp2_with fail
          go_roundw
          case rel =>
            refine ⟨k + 1, by omega, by go_num, ?_, HB2.out⟩
            rw [HN.out]; simpa [OwCh] using HO2.out
          case measure => simp [intOf]; omega
    · obtain rfl : k = ts.length := by omega
      go_wp2_with fail
      have hcl0 := cmS_le (sureM ts) ts ts.length
      have HCM := Lib.hid (show choicesM ts = cmS (sureM ts) ts ts.length ++ befK ts 16 from rfl)
      generalize cmS (sureM ts) ts ts.length = c0 at *
      go_loopw [3, 7, 41] (fun v _ i wr => ∃ k : Nat, k ≤ 16 ∧ i = .int .i64 k ∧ OwCh 128 w1.heap.size wr v (c0 ++ befK ts k) ∧ Below w1.heap.size w1 wr) (fun _ _ i _ => 16 - (intOf i).toNat)
      case atStart => exact ⟨0, Nat.zero_le _, rfl, by simpa [befK] using HO.out, HB.out⟩
      case round =>
        obtain ⟨wk, rfl⟩ : ∃ wk : World, wk = wr := ⟨_, rfl⟩
        obtain ⟨k, hk, rfl, ho, hb⟩ := hrel
        by_cases hlt : k < 16
        · have hck := befK_le ts htl k
          have hk16 : (k : Int) < 16 := by omega
          have HN := Lib.hid (befK_succ ts k)
          have HOk := Lib.hid ho
          have HBk := Lib.hid hb
          clear ho hb
          generalize befK ts k = ck at *
          go_wp2_with fail
          go_loopw [3, 8, 46] (fun v _ i wr => ∃ q : Nat, q ≤ ts.length ∧ i = .int .i64 q ∧ OwCh 128 w1.heap.size wr v (c0 ++ ck ++ befB ts k q) ∧ Below w1.heap.size w1 wr) (fun _ _ i _ => ts.length - (intOf i).toNat)
          case atStart => exact ⟨0, Nat.zero_le _, rfl, by simpa [befB] using HOk.out, HBk.out⟩
          case round =>
            obtain ⟨wq, rfl⟩ : ∃ wq : World, wq = wr := ⟨_, rfl⟩
            obtain ⟨q, hq, rfl, ho, hb⟩ := hrel
            by_cases hlt2 : q < ts.length
            · have hcq := befB_le ts k q (by omega)
              have HNq := Lib.hid (befB_succ ts k q)
              have HOq := Lib.hid ho
              have HBq := Lib.hid hb
              clear ho hb
              generalize befB ts k q = cq at *
              go_wp2_with fail
              go_loopw [3, 9, 50] (fun v _ i wr => ∃ p : Nat, p ≤ q ∧ i = .int .i64 p ∧ OwCh 128 w1.heap.size wr v (c0 ++ ck ++ cq ++ befA ts k q p) ∧ Below w1.heap.size w1 wr) (fun _ _ i _ => q - (intOf i).toNat)
              case atStart => exact ⟨0, Nat.zero_le _, rfl, by simpa [befA] using HOq.out, HBq.out⟩
              case round =>
                obtain ⟨wp, rfl⟩ : ∃ wp : World, wp = wr := ⟨_, rfl⟩
                obtain ⟨p, hp, rfl, ho, hb⟩ := hrel
                by_cases hlt3 : p < q
                · have hcp := befA_le ts k q p
                  have HNp := Lib.hid (befA_succ ts k q p)
                  have HOp := Lib.hid ho
                  have HBp := Lib.hid hb
                  have HW := Lib.hid (HB1.out.trans (hb.mono hs1))
                  have hwp := hb.size
                  clear ho hb
                  obtain ⟨ta, hta⟩ := some_at (l := ts) (k := p) (by omega)
                  obtain ⟨tb, htb⟩ := some_at (l := ts) (k := q) (by omega)
                  obtain ⟨_, _, _, e5, -, -, hcl⟩ := HV.out.at
                  cases e5
                  obtain ⟨b, off, oa, oc, rfl, hra, a0', a1', a2'⟩ := hcl p ta hta
                  obtain ⟨_, _, ob, oc2, e6, hrb, b0', b1', b2'⟩ := hcl q tb htb
                  cases e6
                  have k0 := cell_later HW.out a0'
                  have k1 := cell_later HW.out a1'
                  have k2 := cell_later HW.out a2'
                  have m0 := cell_later HW.out b0'
                  have m1 := cell_later HW.out b1'
                  have m2 := cell_later HW.out b2'
                  have HRA := Lib.hid (hra.later HW.out)
                  have HRB := Lib.hid (hrb.later HW.out)
                  have HC := Lib.hid (show condB ts k p q = (ta.state != 2 && tb.state != 2 && writesK ta k && writesK tb k) by simp [condB, stOf, wrOf, hta, htb])
                  clear hcl hta htb hra hrb a0' a1' a2' b0' b1' b2'
                  go_upto_region 18 with fail
                  go_cut [82] (fun r wx => r = .bool (condB ts k p q) ∧ OwCh 128 w1.heap.size wx u3 (c0 ++ ck ++ cq ++ befA ts k q p) ∧ Below w1.heap.size w1 wx)
                  case first =>
                    by_cases hs0 : ta.state = 2
                    · have h0 : (ta.state != 2) = false := by simp [hs0]
                      rw [h0] at HC
                      clear hs0
                      go_wp2_with fail
                      go_meet
                      exact ⟨by rw [HC.out]; rfl, HOp.out, HBp.out⟩
                    · have h0 : (ta.state != 2) = true := by simp [hs0]
                      rw [h0] at HC
                      clear hs0
                      by_cases hs2 : tb.state = 2
                      · have h2 : (tb.state != 2) = false := by simp [hs2]
                        rw [h2] at HC
                        clear hs2
                        go_wp2_with fail
                        go_meet
                        exact ⟨by rw [HC.out]; rfl, HOp.out, HBp.out⟩
                      · have h2 : (tb.state != 2) = true := by simp [hs2]
                        rw [h2] at HC
                        clear hs2
                        cases hwa : writesK ta k with
                        | false =>
                          have HWA := Lib.hid hwa
                          rw [hwa] at HC
                          clear hwa
                          go_wp2_with (go_at_call 66; refine (writesK_call ta.client ta.state _ ta k _ HRA.out).mono ?_; rintro e w2 ⟨rfl, hb2⟩; rw [HWA.out])
                          go_meet
                          exact ⟨by rw [HC.out]; rfl, own_below HOp.out hb2, HBp.out.trans (hb2.mono hwp)⟩
                        | true =>
                          have HWA := Lib.hid hwa
                          rw [hwa] at HC
                          clear hwa
                          go_wp2_with (first
                            | (go_at_call 66; refine (writesK_call ta.client ta.state _ ta k _ HRA.out).mono ?_; rintro e w2 ⟨rfl, hb2⟩; rw [HWA.out]; replace m0 := cell_later hb2 m0; replace m1 := cell_later hb2 m1; replace m2 := cell_later hb2 m2; replace HRB := Lib.hid (HRB.out.later hb2))
                            | (go_at_call 66; refine (writesK_call tb.client tb.state _ tb k _ HRB.out).mono ?_; rintro e w3 ⟨rfl, hb3⟩))
                          go_meet
                          exact ⟨by rw [HC.out]; rfl, own_below (own_below HOp.out hb2) hb3, (HBp.out.trans (hb2.mono hwp)).trans (hb3.mono (by have := hb2.size; omega))⟩
                  case rest =>
                    obtain ⟨rfl, ho, hb⟩ := hcut
                    have hsz := hb.size
                    have HO2 := Lib.hid ho
                    have HB2 := Lib.hid hb
                    clear ho hb k0 k1 k2 m0 m1 m2
                    cases hc : condB ts k p q with
                    | true =>
                      rw [hc] at HNp
                      clear hc
                      go_wp2_with (at_builtin; refine wpList_append_src rfl _ _ 99 rfl eltCh w1.heap.size (c0 ++ ck ++ cq ++ befA ts k q p).length _ (HO2.out.alloc _) rfl 1 (chV ⟨2, k, p, q⟩) (src_new (cs := #[vi 2, vi k, vi p, vi q]) rfl rfl) rfl (chV_one _) (by simp only [List.length_append]; omega) (by omega) (by simp; omega) ?_; intro v1 w2 ho1 hg1 _)
                      have hbl : ∀ j, u3.ownBlock = some j → w1.heap.size ≤ j := fun j hj => (HO2.out.lt j hj).1
                      go_roundw
                      case rel =>
                        refine ⟨p + 1, by omega, by go_num, ?_, ?_⟩
                        · rw [HNp.out]; simpa [OwCh, List.append_assoc, Nat.add_assoc] using ho1
                        · exact (HB2.out.alloc hsz _).grown hg1 (by simp; omega) hbl
                      case measure => simp [intOf]; omega
                    | false =>
                      rw [hc] at HNp
                      clear hc
                      go_wp2_with fail
                      go_roundw
                      case rel =>
                        refine ⟨p + 1, by omega, by go_num, ?_, HB2.out⟩
                        rw [HNp.out]; simpa [OwCh] using HO2.out
                      case measure => simp [intOf]; omega
                · obtain rfl : p = q := by omega
                  have HOp := Lib.hid ho
                  have HBp := Lib.hid hb
                  clear ho hb
                  go_wp2_with fail
                  go_roundw
                  case rel =>
                    refine ⟨p + 1, by omega, by go_num, ?_, HBp.out⟩
                    rw [HNq.out, ← List.append_assoc]; exact HOp.out
                  case measure => simp [intOf]; omega
            · obtain rfl : q = ts.length := by omega
              have HOq := Lib.hid ho
              have HBq := Lib.hid hb
              clear ho hb
              go_wp2_with fail
              go_roundw
              case rel =>
                refine ⟨k + 1, by omega, by go_num, ?_, HBq.out⟩
                rw [HN.out, ← List.append_assoc]; exact HOq.out
              case measure => simp [intOf]; omega
        · obtain rfl : k = 16 := by omega
          go_wp2_with fail
          go_ret
          refine ⟨_, rfl, ?_, HB1.out.trans (hb.mono hs1)⟩
          unfold OwCh; rw [HCM.out]; exact own_mono ho hs1
end Go.Proofs.YtnacoplokjdglaaGreat

namespace Go.Proofs.YtnacoplokjdglaaGreat
open Go.RowKit Go.Maps

theorem choicesM_le (ts : List GTxn) (h : ts.length ≤ 4096) : (choicesM ts).length ≤ 4294967296 := by
  unfold choicesM
  rw [List.length_append]
  have h1 := cmS_le (sureM ts) ts ts.length
  have h2 := befK_le ts h 16
  omega

end Go.Proofs.YtnacoplokjdglaaGreat

namespace Go.Proofs.YtnacoplokjdglaaGreat
open Go.RowKit Go.MapKept
open Go.Maps (Keyed)
open Go.ChangeMaps (setBlock)
/-- Block b is a map that holds L, block r an iterator over it, and the pairs of V have come out, in this order. -/
def RangeT {κ ν : Type} (P : Program) (k : TypeId) (eK : κ → Value) (eV : ν → Value) (w : World) (b r : Nat) (L V : List (κ × ν)) : Prop :=
  ∃ es clock since seen c0, w.heap[b]? = some (.map es clock) ∧ Stamped es clock ∧ (∀ x ∈ es.toList, ∃ kl, keyOf P k x.key = some kl) ∧ es.toList.map (fun x => (x.key, x.val)) = L.map (fun x => (eK x.1, eV x.2)) ∧
    w.heap[r]? = some (.mapIter (some b) since seen c0) ∧ (∀ x ∈ es.toList, x.born < since) ∧ since ≤ c0 ∧ since ≤ clock ∧
    (∀ (i : Nat) (x : MapEntry) (p : κ × ν), es.toList[i]? = some x → L[i]? = some p → (seen.contains x.born = true ↔ p ∈ V)) ∧ (∀ p ∈ V, p ∈ L) ∧ V.Pairwise (fun p q => p.1 ≠ q.1)

section laws
variable {κ ν : Type} {P : Program} {k e t : TypeId} {eK : κ → Value} {eV : ν → Value} {w : World} {b r : Nat} {L V : List (κ × ν)}

theorem RangeT.map (h : RangeT P k eK eV w b r L V) : MapT P k eK eV w b L := by
  obtain ⟨es, clock, _, _, _, h1, h2, h3, h4, _⟩ := h; exact ⟨es, clock, h1, h2, h3, h4⟩
theorem RangeT.lt (h : RangeT P k eK eV w b r L V) : r < w.heap.size := by
  obtain ⟨es, clock, since, seen, c0, _, _, _, _, hr, _⟩ := h
  exact (Array.getElem?_eq_some_iff.1 hr).1
theorem RangeT.ne (h : RangeT P k eK eV w b r L V) : r ≠ b := by
  obtain ⟨es, clock, since, seen, c0, hb, _, _, _, hr, _⟩ := h
  intro e
  rw [e, hb] at hr
  cases hr
theorem RangeT.frame {w' : World} (h : RangeT P k eK eV w b r L V) (hb : w'.heap[b]? = w.heap[b]?) (hr : w'.heap[r]? = w.heap[r]?) : RangeT P k eK eV w' b r L V := by
  obtain ⟨es, clock, since, seen, c0, h1, h2, h3, h4, h5, rest⟩ := h
  exact ⟨es, clock, since, seen, c0, hb.trans h1, h2, h3, h4, hr.trans h5, rest⟩

theorem rangeLeft_frame {w' : World} (hb : w'.heap[b]? = w.heap[b]?) (hr : w'.heap[r]? = w.heap[r]?) : w'.rangeLeft b r = w.rangeLeft b r := by unfold World.rangeLeft; rw [hb, hr]
theorem MapT.keyed (h : MapT P k eK eV w b L) {p : κ × ν} (hp : p ∈ L) : ∃ kl, keyOf P k (eK p.1) = some kl := by
  obtain ⟨es, clock, hb, hs, hk, hL⟩ := h
  have : (eK p.1, eV p.2) ∈ L.map (fun x => (eK x.1, eV x.2)) := List.mem_map.2 ⟨p, hp, rfl⟩
  rw [← hL, List.mem_map] at this
  obtain ⟨x, hx, hxe⟩ := this
  simp only [Prod.mk.injEq] at hxe
  rw [← hxe.1]
  exact hk x hx
theorem MapT.pairwise (h : MapT P k eK eV w b L) : L.Pairwise (fun p q => p.1 ≠ q.1) := by
  obtain ⟨es, clock, hb, hs, hk, hL⟩ := h
  have hlen : es.toList.length = L.length := by simpa using congrArg List.length hL
  have hn := List.pairwise_iff_getElem.1 ((stamped_iff es clock).1 hs).2.2
  rw [List.pairwise_iff_getElem]
  intro i j hi hj hlt he
  have key : ∀ (n : Nat) (h1 : n < L.length), (es.toList[n]'(by omega)).key = eK (L[n]).1 := by
    intro n h1
    have h2 : (es.toList.map (fun y => (y.key, y.val)))[n]? = some ((es.toList[n]'(by omega)).key, (es.toList[n]'(by omega)).val) := by simp [List.getElem?_eq_getElem (by omega : n < es.toList.length)]
    rw [hL, List.getElem?_map, List.getElem?_eq_getElem h1] at h2
    simp only [Option.map_some, Option.some.injEq, Prod.mk.injEq] at h2
    exact h2.1.symm
  exact hn i j (by omega) (by omega) hlt (by rw [key i hi, key j hj, he])

/-- 'range m'. -/
theorem MapT.range (h : MapT P k eK eV w b L) (ht : P.underlying t = some (.map k e)) :
    ∃ w', (Instr.range t (.map (some b))).run P w = .ok (.pointer (some ⟨w.heap.size, 0, none⟩)) w' ∧ RangeT P k eK eV w' b w.heap.size L [] ∧ w.grownBy w' none ∧ w'.heap.size = w.heap.size + 1 := by
  have hlt := h.lt
  obtain ⟨es, clock, hb, hs, hk, hL⟩ := h
  refine ⟨_, run_range_map w t k e b es clock ht hb, ⟨es, clock, clock, #[], clock, ((MapKept.heap_alloc w _).2 b hlt).trans hb, hs, hk, hL, (MapKept.heap_alloc w _).1, hs.1, Nat.le_refl _, Nat.le_refl _, ?_, (fun p hp => by cases hp), List.Pairwise.nil⟩, World.grownBy_alloc w _ none, by simp⟩
  intro i x p _ _
  simp

theorem RangeT.key_uniq (h : MapT P k eK eV w b L) {p q : κ × ν} (hp : p ∈ L) (hq : q ∈ L) (hpq : p.1 = q.1) : p = q := by
  obtain ⟨es, clock, hb, hs, hk, hL⟩ := h
  obtain ⟨i, hi⟩ := List.mem_iff_getElem?.1 hp
  obtain ⟨j, hj⟩ := List.mem_iff_getElem?.1 hq
  have hlen : es.toList.length = L.length := by simpa using congrArg List.length hL
  have hi1 := (List.getElem?_eq_some_iff.1 hi).1
  have hj1 := (List.getElem?_eq_some_iff.1 hj).1
  have ei : (es.toList[i]'(by omega)).key = eK p.1 := by
    have h1 : (L.map (fun y => (eK y.1, eV y.2)))[i]? = some (eK p.1, eV p.2) := by simp [hi]
    rw [← hL, List.getElem?_map, List.getElem?_eq_getElem (by omega : i < es.toList.length)] at h1
    simpa using congrArg (fun o => o.map (·.1)) h1
  have ej : (es.toList[j]'(by omega)).key = eK q.1 := by
    have h1 : (L.map (fun y => (eK y.1, eV y.2)))[j]? = some (eK q.1, eV q.2) := by simp [hj]
    rw [← hL, List.getElem?_map, List.getElem?_eq_getElem (by omega : j < es.toList.length)] at h1
    simpa using congrArg (fun o => o.map (·.1)) h1
  have hn := List.pairwise_iff_getElem.1 ((stamped_iff es clock).1 hs).2.2
  rcases Nat.lt_trichotomy i j with hlt | rfl | hlt
  · exact absurd (by rw [ei, ej, hpq]) (hn i j (by omega) (by omega) hlt)
  · rw [hi] at hj; cases hj; rfl
  · exact absurd (by rw [ei, ej, hpq]) (hn j i (by omega) (by omega) hlt)

/-- The step. -/
theorem RangeT.next (hinj : ∀ x y, eK x = eK y → x = y) (h : RangeT P k eK eV w b r L V) (ty : TypeId) :
    ((∀ p ∈ L, p ∈ V) ∧ (Instr.next (.pointer (some ⟨r, 0, none⟩)) false ty).run P w = .ok (.tuple #[.bool false]) w) ∨
    ∃ p w', p ∈ L ∧ (∀ q ∈ V, q.1 ≠ p.1) ∧ (Instr.next (.pointer (some ⟨r, 0, none⟩)) false ty).run P w = .ok (.tuple #[.bool true, eK p.1, eV p.2]) w' ∧
      RangeT P k eK eV w' b r L (V ++ [p]) ∧ w'.rangeLeft b r < w.rangeLeft b r ∧ w.grownBy w' (some r) ∧ w'.heap.size = w.heap.size ∧ (Instr.entry (.pointer (some ⟨r, 0, none⟩))).run P w' = .ok (.tuple #[eK p.1, eV p.2]) w' := by
  have hne := h.ne
  have hmap := h.map
  obtain ⟨es, clock, since, seen, c0, hb, hs, hk, hL, hr, hold, hsc, hsk, hseen, hsub, hpw⟩ := h
  have hlen : es.toList.length = L.length := by simpa using congrArg List.length hL
  have entry : ∀ (i : Nat) (x : MapEntry) (p : κ × ν), es.toList[i]? = some x → L[i]? = some p → x.key = eK p.1 ∧ x.val = eV p.2 := by
    intro i x p hx hp
    have h1 : (es.toList.map (fun y => (y.key, y.val)))[i]? = some (x.key, x.val) := by simp [hx]
    rw [hL] at h1
    simp [hp] at h1
    exact ⟨h1.1.symm, h1.2.symm⟩
  rcases run_next_at (P := P) w ty r b since c0 seen es clock hr hb hold hsc with ⟨h0, hrun⟩ | ⟨x, hx, w1, hal, hrun⟩
  · refine .inl ⟨fun p hp => ?_, hrun⟩
    obtain ⟨i, hi⟩ := List.mem_iff_getElem?.1 hp
    have hi1 := (List.getElem?_eq_some_iff.1 hi).1
    obtain ⟨x, hx⟩ : ∃ x, es.toList[i]? = some x := ⟨_, List.getElem?_eq_getElem (by omega)⟩
    exact (hseen i x p hx hi).1 (all_seen es seen h0 x (List.mem_of_getElem? hx))
  · obtain ⟨hem, hes⟩ := mem_left hx
    obtain ⟨i, hi⟩ := List.mem_iff_getElem?.1 hem
    have hi1 := (List.getElem?_eq_some_iff.1 hi).1
    obtain ⟨p, hp⟩ : ∃ p, L[i]? = some p := ⟨_, List.getElem?_eq_getElem (by omega)⟩
    obtain ⟨ek, ev⟩ := entry i x p hi hp
    have hpV : p ∉ V := fun h => by
      have := (hseen i x p hi hp).2 h
      rw [hes] at this; cases this
    have hr1 : w1.heap[r]? = some (.mapIter (some b) since seen c0) := by rcases hal with rfl | rfl <;> exact hr
    have hb1 : w1.heap[b]? = some (.map es clock) := by rcases hal with rfl | rfl <;> exact hb
    have hset := heap_set (o' := .mapIter (some b) since (seen.push x.born) clock) hr1
    have hb' : (setBlock w1 r (.mapIter (some b) since (seen.push x.born) clock)).heap[b]? = some (.map es clock) := (hset.2 b (fun e1 => hne e1.symm)).trans hb1
    have hfresh : ∀ q ∈ V, q.1 ≠ p.1 := fun q hq hqp => hpV (RangeT.key_uniq hmap (hsub q hq) (List.mem_of_getElem? hp) hqp ▸ hq)
    have hbi := ((stamped_iff es clock).1 hs).2.1
    refine .inr ⟨p, _, List.mem_of_getElem? hp, hfresh, by rw [← ek, ← ev]; exact hrun,
      ⟨es, clock, since, seen.push x.born, clock, hb', hs, hk, hL, hset.1, hold, hsk, hsk, ?_, ?_, ?_⟩, ?_, ?_, ?_, by rw [← ek, ← ev]; exact run_entry_at _ r b since seen es clock x hset.1 hb' hem hbi⟩
    · intro j y q hy hq
      rw [contains_push, List.mem_append, List.mem_singleton, Bool.or_eq_true, hseen j y q hy hq]
      constructor
      · rintro (h | h)
        · exact .inl h
        · have hyx : y = x := born_inj hbi (List.mem_of_getElem? hy) hem (by simpa using h)
          right
          have e1 := (entry j y q hy hq).1
          have : q.1 = p.1 := hinj _ _ (by rw [← e1, ← ek, hyx])
          exact RangeT.key_uniq hmap (List.mem_of_getElem? hq) (List.mem_of_getElem? hp) this
      · rintro (h | h)
        · exact .inl h
        · right
          subst h
          have hji : y.key = x.key := by rw [(entry j y q hy hq).1, ek]
          have := entry_eq_of_key ((stamped_iff es clock).1 hs).2.2 (List.mem_of_getElem? hy) hem hji
          simp [this]
    · intro q hq
      rw [List.mem_append, List.mem_singleton] at hq
      rcases hq with hq | rfl
      · exact hsub q hq
      · exact List.mem_of_getElem? hp
    · rw [List.pairwise_append]
      exact ⟨hpw, List.pairwise_singleton _ _, fun q hq q' hq' => by simp at hq'; subst hq'; exact hfresh q hq⟩
    · unfold World.rangeLeft
      rw [hb', hb, hr, show (setBlock w1 r (.mapIter (some b) since (seen.push x.born) clock)).heap[r]? = _ from hset.1]
      exact left_shrinks es seen x hx
    · rcases hal with rfl | rfl <;> exact ⟨rfl, rfl, rfl, by simp [setBlock], fun i _ hi => hset.2 i (fun e1 => hi (by rw [e1]))⟩
    · rcases hal with rfl | rfl <;> simp [setBlock]
end laws
end Go.Proofs.YtnacoplokjdglaaGreat

namespace Go.Proofs.YtnacoplokjdglaaGreat
open Go.RowKit Go.Maps

theorem revL_snoc (l : List GOp) (o : GOp) : revL (l ++ [o]) = (l.length, o) :: revL l := by
  unfold revL
  rw [List.zipIdx_append, List.map_append, List.reverse_append]
  simp
theorem revL_mem {l : List GOp} {p : Nat × GOp} (h : p ∈ revL l) : l[p.1]? = some p.2 := by
  unfold revL at h
  rw [List.mem_reverse, List.mem_map] at h
  obtain ⟨q, hq, rfl⟩ := h
  exact List.mem_zipIdx_iff_getElem?.1 hq
def findW (l : List GOp) (k : Nat) : Option (Nat × GOp) := (revL l).find? (fun p => hitB k p.2)
def atOf : Option (Nat × GOp) → Int
  | some p => p.1
  | none => -1
theorem findW_next {l : List GOp} {j : Nat} {o : GOp} (k : Nat) (h : l[j]? = some o) : findW (l.take (j + 1)) k = if hitB k o then some (j, o) else findW (l.take j) k := by
  have hj : (l.take j).length = j := by
    have := (List.getElem?_eq_some_iff.1 h).1
    simp; omega
  rw [take_at h]; unfold findW; rw [revL_snoc, List.find?_cons, hj]
  cases hitB k o <;> simp
theorem findW_last (l : List GOp) (k : Nat) : lastW l k = (findW l k).map (·.2) := rfl

set_option maxRecDepth 100000 in
set_option maxHeartbeats 1000000 in
theorem refWrites_call (c s : Int) (v : Value) (l : List GOp) (w : World) (hv : RdOps w v l) (hl : l.length ≤ 1048576) :
    Calls Tryz.prog 35 #[.agg #[vi c, vi s, v]] w fun e w' => ∃ v', e = .returned v' ∧ OwOps w.heap.size w' v' (writesM l) ∧ Below w.heap.size w w' := by
  have hB : Below w.heap.size w (w.alloc (.cells #[vi c, vi s, v] 49)) := (Below.refl _ _).alloc (Nat.le_refl _) _
  have hV := hv.later hB
  have hs0 : (w.alloc (.cells #[vi c, vi s, v] 49)).heap.size = w.heap.size + 1 := by simp
  have c0 : (w.alloc (.cells #[vi c, vi s, v] 49)).cell? ⟨w.heap.size, 0, none⟩ = some (vi c) := by rw [World.cell?_alloc_at _ _ _ _ rfl]; rfl
  have c1 : (w.alloc (.cells #[vi c, vi s, v] 49)).cell? ⟨w.heap.size, 1, none⟩ = some (vi s) := by rw [World.cell?_alloc_at _ _ _ _ rfl]; rfl
  have c2 : (w.alloc (.cells #[vi c, vi s, v] 49)).cell? ⟨w.heap.size, 2, none⟩ = some v := by rw [World.cell?_alloc_at _ _ _ _ rfl]; rfl
  obtain ⟨a, len, cap, rfl, rfl, hm, -⟩ := hv.at
  have HV := Lib.hid hV
  have HB := Lib.hid hB
  have HC2 := Lib.hid c2
  clear hv hV hB c0 c1 c2
  go_enter Tryz.func35, Tryz.ntmps35
  go_wp2_with fail
  generalize w.alloc (.cells #[vi c, vi s, .slice a l.length cap] 49) = W0 at *
  go_loopw [3, 4] (fun v i wr => ∃ k : Nat, k ≤ 16 ∧ i = .int .i64 k ∧ OwOps W0.heap.size wr v (writesTo l k) ∧ Below W0.heap.size W0 wr) (fun _ i _ => 16 - (intOf i).toNat)
  case atStart =>
    refine ⟨0, Nat.zero_le _, rfl, ?_, (Below.refl _ _).alloc (Nat.le_refl _) _⟩
    have := World.ownsRow_lit (base := W0.heap.size) (e := 51) (size := 3) W0 #[] 0 (Nat.le_refl _) (by simp [maxLen]) rfl
    rw [hs0] at this ⊢
    exact this
  case round =>
    obtain ⟨wk, rfl⟩ : ∃ wk : World, wk = wr := ⟨_, rfl⟩
    obtain ⟨k, hk, rfl, ho, hb⟩ := hrel
    have HOk := Lib.hid ho
    have HBk := Lib.hid hb
    have hwk := hb.size
    have c2 := cell_later hb HC2.out
    clear ho hb
    by_cases hlt : k < 16
    · have hk16 : (k : Int) < 16 := by omega
      have hck := writesTo_le l k
      have HN := Lib.hid (writesTo_succ l k)
      go_wp2_with fail
      go_loopw [5, 6, 7, 16] (fun at' _ _ i wr => ∃ j : Nat, j ≤ l.length ∧ i = .int .i64 j ∧ at' = .int .i64 (atOf (findW (l.take j) k)) ∧ OwOps W0.heap.size wr u3 (writesTo l k) ∧ Below W0.heap.size W0 wr) (fun _ _ _ i _ => l.length - (intOf i).toNat)
      case atStart => exact ⟨0, Nat.zero_le _, rfl, rfl, HOk.out, HBk.out⟩
      case round =>
        obtain ⟨wj, rfl⟩ : ∃ wj : World, wj = wr := ⟨_, rfl⟩
        obtain ⟨j, hj, rfl, rfl, ho, hb⟩ := hrel
        have HOj := Lib.hid ho
        have HBj := Lib.hid hb
        have hwj := hb.size
        have c2 := cell_later hb HC2.out
        clear ho hb
        by_cases hlt2 : j < l.length
        · obtain ⟨o, ho⟩ := some_at hlt2
          obtain ⟨_, _, _, e5, -, -, hcl⟩ := HV.out.at
          cases e5
          obtain ⟨b, off, rfl, k0', k1', k2'⟩ := hcl j o ho
          have k0 := cell_later HBj.out k0'
          have k1 := cell_later HBj.out k1'
          have k2 := cell_later HBj.out k2'
          have HF := Lib.hid (findW_next k ho)
          clear hcl ho k0' k1' k2'
          by_cases h2 : o.kind = 2
          · have h2' : (o.kind == 2) = true := by simp [h2]
            by_cases h3 : o.key = (k : Int)
            · have h3' : (o.key == (k : Int)) = true := by simp [h3]
              have HH := Lib.hid (show hitB k o = true by simp [hitB, h2, h3])
              clear h2 h3
              go_wp2_with fail
              go_roundw
              case rel =>
                refine ⟨j + 1, by omega, by go_num, ?_, HOj.out.alloc _, HBj.out.alloc hwj _⟩
                rw [HF.out, HH.out]; rfl
              case measure => simp [intOf]; omega
            · have h3' : (o.key == (k : Int)) = false := by simp [h3]
              have HH := Lib.hid (show hitB k o = false by simp [hitB, h2, h3])
              clear h2 h3
              go_wp2_with fail
              go_roundw
              case rel =>
                refine ⟨j + 1, by omega, by go_num, ?_, HOj.out.alloc _, HBj.out.alloc hwj _⟩
                rw [HF.out, HH.out]; rfl
              case measure => simp [intOf]; omega
          · have h2' : (o.kind == 2) = false := by simp [h2]
            have HH := Lib.hid (show hitB k o = false by simp [hitB, h2])
            clear h2
            go_wp2_with fail
            go_roundw
            case rel =>
              refine ⟨j + 1, by omega, by go_num, ?_, HOj.out.alloc _, HBj.out.alloc hwj _⟩
              rw [HF.out, HH.out]; rfl
            case measure => simp [intOf]; omega
        · obtain rfl : j = l.length := by omega
          rw [List.take_length]
          have hlk := findW_last l k
          cases hf : findW l k with
          | none =>
            rw [hf] at hlk
            simp only [atOf]
            go_wp2_with fail
            go_roundw
            case rel =>
              refine ⟨k + 1, by omega, by go_num, ?_, HBj.out⟩
              rw [HN.out, hlk]; simpa using HOj.out
            case measure => simp [intOf]; omega
          | some p =>
            obtain ⟨i, o⟩ := p
            have hio := revL_mem (List.mem_of_find?_eq_some hf)
            have hil := (List.getElem?_eq_some_iff.1 hio).1
            obtain ⟨_, _, _, e5, -, -, hcl⟩ := HV.out.at
            cases e5
            obtain ⟨b, off, rfl, k0', k1', k2'⟩ := hcl i o hio
            have k0 := cell_later HBj.out k0'
            have k1 := cell_later HBj.out k1'
            have k2 := cell_later HBj.out k2'
            have hi0 : (0 : Int) ≤ (i : Int) := by omega
            have HL := Lib.hid (show lastW l k = some o by rw [hlk, hf]; rfl)
            clear hcl hio k0' k1' k2' hf hlk
            simp only [atOf]
            go_wp2_with (at_builtin; refine wpList_append_src rfl _ _ 47 rfl eltOp W0.heap.size (writesTo l k).length _ (HOj.out.alloc _) rfl 1 (opV o) (src_new (cs := #[vi o.kind, vi o.key, vi o.val]) rfl rfl) rfl (by intro u hu; simp [opV] at hu; rcases hu with rfl | rfl | rfl <;> rfl) (by omega) (by omega) (by simp; omega) ?_; intro v1 w2 ho1 hg1 _)
            have hbl : ∀ j, u3.ownBlock = some j → W0.heap.size ≤ j := fun j hj => (HOj.out.lt j hj).1
            go_roundw
            case rel =>
              refine ⟨k + 1, by omega, by go_num, ?_, ?_⟩
              · rw [HN.out, HL.out]; simpa [OwOps] using ho1
              · exact (HBj.out.alloc hwj _).grown hg1 (by simp; omega) hbl
            case measure => simp [intOf]; omega
    · obtain rfl : k = 16 := by omega
      go_wp2_with fail
      go_ret
      exact ⟨_, rfl, own_mono HOk.out (by omega), HB.out.trans (HBk.out.mono (by omega))⟩
end Go.Proofs.YtnacoplokjdglaaGreat

namespace Go.Proofs.YtnacoplokjdglaaGreat
open Go.RowKit Go.Maps

def wroteB (key val : Int) (o : GOp) : Bool := o.kind == 2 && o.key == key && o.val == val
/-- crucibleref08.Writer. -/
def writerM (ts : List GTxn) (key val : Int) : Int := match ts.findIdx? (fun t => t.ops.any (wroteB key val)) with
  | some i => (i : Int)
  | none => -1

theorem writerM_at {ts : List GTxn} {key val : Int} {k : Nat} {t : GTxn} (ht : ts[k]? = some t) (hh : t.ops.any (wroteB key val) = true)
    (hno : ∀ (j : Nat) (u : GTxn), j < k → ts[j]? = some u → u.ops.any (wroteB key val) = false) : writerM ts key val = k := by
  have : ts.findIdx? (fun t => t.ops.any (wroteB key val)) = some k := by
    rw [List.findIdx?_eq_some_iff_getElem]
    have hg := List.getElem?_eq_some_iff.1 ht
    refine ⟨hg.1, by rw [hg.2]; exact hh, fun j hj => ?_⟩
    have := hno j (ts[j]'(Nat.lt_trans hj hg.1)) hj (List.getElem?_eq_getElem _)
    simp [this]
  unfold writerM; rw [this]
theorem writerM_none {ts : List GTxn} {key val : Int} (hno : ∀ (j : Nat) (u : GTxn), ts[j]? = some u → u.ops.any (wroteB key val) = false) : writerM ts key val = -1 := by
  have : ts.findIdx? (fun t => t.ops.any (wroteB key val)) = none := by
    rw [List.findIdx?_eq_none_iff]
    intro x hx
    obtain ⟨j, hj, rfl⟩ := List.mem_iff_getElem.1 hx
    exact hno j _ (List.getElem?_eq_getElem hj)
  unfold writerM; rw [this]

set_option maxRecDepth 100000 in
set_option maxHeartbeats 1000000 in
theorem writer_call (v : Value) (ts : List GTxn) (key val : Int) (w : World) (hv : RdTxns w v ts) :
    Calls Tryz.prog 46 #[v, .int .i64 key, .int .i64 val] w fun e w' => e = .returned (.int .i64 (writerM ts key val)) ∧ Below w.heap.size w w' := by
  have HV := Lib.hid hv
  obtain ⟨a, len, cap, rfl, rfl, hm, -⟩ := hv.at
  clear hv
  go_enter Tryz.func46, Tryz.ntmps46
  go_wp2_with fail
  go_loopw [7, 12] (fun _ i wr => ∃ k : Nat, k ≤ ts.length ∧ i = .int .i64 k ∧ (∀ j u, j < k → ts[j]? = some u → u.ops.any (wroteB key val) = false) ∧ Below w.heap.size w wr) (fun _ i _ => ts.length - (intOf i).toNat)
  case atStart => exact ⟨0, Nat.zero_le _, rfl, fun j u hj => absurd hj (Nat.not_lt_zero _), Below.refl _ _⟩
  case round =>
    obtain ⟨wk, rfl⟩ : ∃ wk : World, wk = wr := ⟨_, rfl⟩
    obtain ⟨k, hk, rfl, hno, hb⟩ := hrel
    have HN := Lib.hid hno
    have HB := Lib.hid hb
    clear hno hb
    by_cases hlt : k < ts.length
    · obtain ⟨t, ht⟩ := some_at hlt
      obtain ⟨_, _, _, e5, -, -, hcl⟩ := HV.out.at
      cases e5
      obtain ⟨b, off, oa, oc, rfl, hr, k0', k1', k2'⟩ := hcl k t ht
      have k0 := cell_later HB.out k0'
      have k1 := cell_later HB.out k1'
      have k2 := cell_later HB.out k2'
      have HT := Lib.hid ht
      have HR := Lib.hid hr
      obtain ⟨_, _, _, -, -, hmo, -⟩ := hr.at
      clear hcl ht hr k0' k1' k2'
      go_wp2_with fail
      go_loopw [9, 21] (fun _ i wr => ∃ j : Nat, j ≤ t.ops.length ∧ i = .int .i64 j ∧ (∀ m o, m < j → t.ops[m]? = some o → wroteB key val o = false) ∧ Below w.heap.size w wr) (fun _ i _ => t.ops.length - (intOf i).toNat)
      case atStart => exact ⟨0, Nat.zero_le _, rfl, fun j u hj => absurd hj (Nat.not_lt_zero _), HB.out⟩
      case round =>
        obtain ⟨wj, rfl⟩ : ∃ wj : World, wj = wr := ⟨_, rfl⟩
        obtain ⟨j, hj, rfl, hno2, hb⟩ := hrel
        have HN2 := Lib.hid hno2
        have HBj := Lib.hid hb
        have hwj := hb.size
        clear hno2 hb
        by_cases hlt2 : j < t.ops.length
        · obtain ⟨o, ho⟩ := some_at hlt2
          obtain ⟨_, _, _, e5, -, -, hcl⟩ := HR.out.at
          cases e5
          obtain ⟨ob, ooff, rfl, y0', y1', y2'⟩ := hcl j o ho
          have y0 := cell_later HBj.out y0'
          have y1 := cell_later HBj.out y1'
          have y2 := cell_later HBj.out y2'
          have HO := Lib.hid ho
          have hstep : wroteB key val o = false → ∀ m o', m < j + 1 → t.ops[m]? = some o' → wroteB key val o' = false := fun hf m o' hm' ho' => by
            rcases Nat.lt_or_ge m j with h | h
            · exact HN2.out m o' h ho'
            · obtain rfl : m = j := by omega
              rw [HO.out] at ho'; cases ho'; exact hf
          have HS := Lib.hid hstep
          clear hcl ho y0' y1' y2' hstep k0 k1 k2
          by_cases h2 : o.kind = 2
          · have h2' : (o.kind == 2) = true := by simp [h2]
            by_cases h3 : o.key = key
            · have h3' : (o.key == key) = true := by simp [h3]
              by_cases h4 : o.val = val
              · have h4' : (o.val == val) = true := by simp [h4]
                have HH := Lib.hid (show wroteB key val o = true by simp [wroteB, h2, h3, h4])
                clear h2 h3 h4
                go_wp2_with fail
                go_ret
                have hw := writerM_at HT.out (List.any_eq_true.2 ⟨o, List.mem_of_getElem? HO.out, HH.out⟩) HN.out
                exact ⟨by rw [hw]; rfl, HBj.out.alloc hwj _⟩
              · have h4' : (o.val == val) = false := by simp [h4]
                have HH := Lib.hid (show wroteB key val o = false by simp [wroteB, h4])
                clear h2 h3 h4
                go_wp2_with fail
                go_roundw
                case rel => exact ⟨j + 1, by omega, by go_num, HS.out HH.out, HBj.out.alloc hwj _⟩
                case measure => simp [intOf]; omega
            · have h3' : (o.key == key) = false := by simp [h3]
              have HH := Lib.hid (show wroteB key val o = false by simp [wroteB, h3])
              clear h2 h3
              go_wp2_with fail
              go_roundw
              case rel => exact ⟨j + 1, by omega, by go_num, HS.out HH.out, HBj.out.alloc hwj _⟩
              case measure => simp [intOf]; omega
          · have h2' : (o.kind == 2) = false := by simp [h2]
            have HH := Lib.hid (show wroteB key val o = false by simp [wroteB, h2])
            clear h2
            go_wp2_with fail
            go_roundw
            case rel => exact ⟨j + 1, by omega, by go_num, HS.out HH.out, HBj.out.alloc hwj _⟩
            case measure => simp [intOf]; omega
        · obtain rfl : j = t.ops.length := by omega
          go_wp2_with fail
          go_roundw
          case rel =>
            refine ⟨k + 1, by omega, by go_num, ?_, HBj.out⟩
            intro m u hm' hu
            rcases Nat.lt_or_ge m k with h | h
            · exact HN.out m u h hu
            · obtain rfl : m = k := by omega
              rw [HT.out] at hu; cases hu
              rw [List.any_eq_false]
              intro x hx
              obtain ⟨m, hm2, rfl⟩ := List.mem_iff_getElem.1 hx
              have := HN2.out m _ hm2 (List.getElem?_eq_getElem hm2)
              simp [this]
          case measure => simp [intOf]; omega
    · obtain rfl : k = ts.length := by omega
      go_wp2_with fail
      go_ret
      have hw := writerM_none (ts := ts) (key := key) (val := val) (fun j u hu => HN.out j u ((List.getElem?_eq_some_iff.1 hu).1) hu)
      exact ⟨by rw [hw]; rfl, HB.out⟩
end Go.Proofs.YtnacoplokjdglaaGreat

namespace Go.Proofs.YtnacoplokjdglaaGreat
open Go.RowKit Go.Maps

theorem foldR_keys (x : Int) : ∀ (l : List GOp) (st : List (Int × Bool) × List GOp), (getM (l.foldl stepR st).1 x).isSome = ((getM st.1 x).isSome || l.any (hitK x)) := by
  intro l
  induction l with
  | nil => intro st; simp
  | cons o l ih =>
    intro st
    rw [List.foldl_cons, ih, List.any_cons]
    by_cases h2 : o.kind = 2
    · unfold stepR; rw [if_pos h2, getM_put]
      by_cases h3 : o.key = x
      · simp [hitK, h2, h3]
      · rw [if_neg h3, show hitK x o = false by simp [hitK, h3]]; simp
    · unfold stepR; rw [if_neg h2]
      have : hitK x o = false := by simp [hitK, h2]
      rw [this]
      split <;> simp
theorem readsS_keys (l : List GOp) (x : Int) : (getM (readsS l).1 x).isSome = l.any (hitK x) := by
  unfold readsS; rw [foldR_keys]; simp [getM_nil]
def refR (s : Int) (l : List GOp) (n : Nat) : List GOp := if s = 1 then (readsS (l.take n)).2 else []
theorem refR_succ {s : Int} {l : List GOp} {n : Nat} {o : GOp} (h : l[n]? = some o) : refR s l (n + 1) = refR s l n ++ (if s == 1 && o.kind != 2 && !((l.take n).any (hitK o.key)) then [o] else []) := by
  unfold refR
  by_cases hs : s = 1
  · rw [if_pos hs, if_pos hs, readsS_next h]
    have hk := readsS_keys (l.take n) o.key
    by_cases h2 : o.kind = 2
    · unfold stepR; rw [if_pos h2]; simp [h2]
    · unfold stepR; rw [if_neg h2, hk]
      cases (l.take n).any (hitK o.key) <;> simp [hs, h2]
  · simp [hs]
theorem refR_le (s : Int) (l : List GOp) (n : Nat) : (refR s l n).length ≤ n := by
  unfold refR; split
  · exact Nat.le_trans (readsS_le _) (List.length_take_le _ _)
  · simp
theorem any_next {α : Type} {p : α → Bool} {l : List α} {j : Nat} {x : α} (h : l[j]? = some x) : (l.take (j + 1)).any p = ((l.take j).any p || p x) := by
  rw [take_at h, List.any_append]; simp

set_option maxRecDepth 100000 in
set_option maxHeartbeats 1000000 in
theorem refReads_call (c s : Int) (v : Value) (l : List GOp) (w : World) (hv : RdOps w v l) (hl : l.length ≤ 1048576) :
    Calls Tryz.prog 45 #[.agg #[vi c, vi s, v]] w fun e w' => ∃ v', e = .returned v' ∧ OwOps w.heap.size w' v' (readsM ⟨c, s, l⟩) ∧ Below w.heap.size w w' := by
  have hB : Below w.heap.size w (w.alloc (.cells #[vi c, vi s, v] 49)) := (Below.refl _ _).alloc (Nat.le_refl _) _
  have hV := hv.later hB
  have hs0 : (w.alloc (.cells #[vi c, vi s, v] 49)).heap.size = w.heap.size + 1 := by simp
  have c1 : (w.alloc (.cells #[vi c, vi s, v] 49)).cell? ⟨w.heap.size, 1, none⟩ = some (vi s) := by rw [World.cell?_alloc_at _ _ _ _ rfl]; rfl
  have c2 : (w.alloc (.cells #[vi c, vi s, v] 49)).cell? ⟨w.heap.size, 2, none⟩ = some v := by rw [World.cell?_alloc_at _ _ _ _ rfl]; rfl
  obtain ⟨a, len, cap, rfl, rfl, hm, -⟩ := hv.at
  have HV := Lib.hid hV
  have HB := Lib.hid hB
  have HC1 := Lib.hid c1
  have HC2 := Lib.hid c2
  clear hv hV hB c1 c2
  go_enter Tryz.func45, Tryz.ntmps45
  go_wp2_with fail
  generalize w.alloc (.cells #[vi c, vi s, .slice a l.length cap] 49) = W0 at *
  go_loopw [3, 4, 5, 6, 7, 12] (fun v _ _ _ _ i wr => ∃ k : Nat, k ≤ l.length ∧ i = .int .i64 k ∧ OwOps W0.heap.size wr v (refR s l k) ∧ Below W0.heap.size W0 wr) (fun _ _ _ _ _ i _ => l.length - (intOf i).toNat)
  case atStart =>
    refine ⟨0, Nat.zero_le _, rfl, ?_, (Below.refl _ _).alloc (Nat.le_refl _) _⟩
    have := World.ownsRow_lit (base := W0.heap.size) (e := 51) (size := 3) W0 #[] 0 (Nat.le_refl _) (by simp [maxLen]) rfl
    rw [hs0] at this ⊢
    have e : refR s l 0 = [] := by unfold refR; split <;> rfl
    rw [e]; exact this
  case round =>
    obtain ⟨wi, rfl⟩ : ∃ wi : World, wi = wr := ⟨_, rfl⟩
    obtain ⟨k, hk, rfl, ho, hb⟩ := hrel
    have HOk := Lib.hid ho
    have HBk := Lib.hid hb
    have hwk := hb.size
    clear ho hb
    by_cases hlt : k < l.length
    · obtain ⟨o, ho⟩ := some_at hlt
      obtain ⟨_, _, _, e5, -, -, hcl⟩ := HV.out.at
      cases e5
      obtain ⟨b, off, rfl, k0', k1', k2'⟩ := hcl k o ho
      have k0 := cell_later HBk.out k0'
      have k1 := cell_later HBk.out k1'
      have k2 := cell_later HBk.out k2'
      have HN := Lib.hid (refR_succ (s := s) ho)
      have HC := Lib.hid hcl
      have hle := refR_le s l k
      clear hcl ho k0' k1' k2'
      go_wp2_with fail
      have x0 : (wi.alloc (.cells #[vi o.kind, vi o.key, vi o.val] 51)).cell? ⟨wi.heap.size, 0, none⟩ = some (vi o.kind) := by rw [World.cell?_alloc_at _ _ _ _ rfl]; rfl
      have x1 : (wi.alloc (.cells #[vi o.kind, vi o.key, vi o.val] 51)).cell? ⟨wi.heap.size, 1, none⟩ = some (vi o.key) := by rw [World.cell?_alloc_at _ _ _ _ rfl]; rfl
      have x2 : (wi.alloc (.cells #[vi o.kind, vi o.key, vi o.val] 51)).cell? ⟨wi.heap.size, 2, none⟩ = some (vi o.val) := by rw [World.cell?_alloc_at _ _ _ _ rfl]; rfl
      have hO1 := HOk.out.alloc (.cells #[vi o.kind, vi o.key, vi o.val] 51)
      have hB1 := HBk.out.alloc hwk (.cells #[vi o.kind, vi o.key, vi o.val] 51)
      generalize wi.alloc (.cells #[vi o.kind, vi o.key, vi o.val] 51) = W1 at *
      have X0 := Lib.hid x0
      have X1 := Lib.hid x1
      have X2 := Lib.hid x2
      have HO1 := Lib.hid hO1
      have HB1 := Lib.hid hB1
      clear x0 x1 x2 hO1 hB1
      go_loopw [6, 7] (fun m i wr => ∃ j : Nat, j ≤ k ∧ i = .int .i64 j ∧ m = .bool ((l.take j).any (hitK o.key)) ∧ Below W1.heap.size W1 wr) (fun _ i _ => k - (intOf i).toNat)
      case atStart => exact ⟨0, Nat.zero_le _, rfl, rfl, Below.refl _ _⟩
      case round =>
        obtain ⟨wj, rfl⟩ : ∃ wj : World, wj = wr := ⟨_, rfl⟩
        obtain ⟨j, hj, rfl, rfl, hb⟩ := hrel
        have HBj := Lib.hid hb
        have hwj := hb.size
        have c1 := cell_later hb (cell_later HB1.out HC1.out)
        have c2 := cell_later hb (cell_later HB1.out HC2.out)
        have x0 := cell_later hb X0.out
        have x1 := cell_later hb X1.out
        have x2 := cell_later hb X2.out
        clear hb
        by_cases hlt2 : j < k
        · obtain ⟨p, hp⟩ := some_at (l := l) (k := j) (by omega)
          obtain ⟨_, _, e6, y0', y1', y2'⟩ := HC.out j p hp
          cases e6
          have y0 := cell_later HBj.out (cell_later HB1.out y0')
          have y1 := cell_later HBj.out (cell_later HB1.out y1')
          have y2 := cell_later HBj.out (cell_later HB1.out y2')
          have HA := Lib.hid (any_next (p := hitK o.key) hp)
          have hj1 : (j : Int) < (k : Int) := by omega
          have hj2 : (j : Int) < (l.length : Int) := by omega
          have hj0 : (0 : Int) ≤ (j : Int) := by omega
          clear hp y0' y1' y2'
          cases hb : (l.take j).any (hitK o.key) with
          | true =>
            rw [hb] at HA
            clear hb
            go_wp2
            go_quiet (fail)
            go_wp2
            go_roundw
            case rel => exact ⟨j + 1, by omega, by go_num, by rw [HA.out]; rfl, below_drewN HBj.out _⟩
            case measure => simp [intOf]; omega
          | false =>
            rw [hb] at HA
            clear hb
            by_cases h2 : p.kind = 2
            · have h2' : (p.kind == 2) = true := by simp [h2]
              cases h3 : p.key == o.key with
              | true =>
                have HH := Lib.hid (show hitK o.key p = true by simp [hitK, h2, h3])
                clear h2
                go_wp2
                go_quiet (fail)
                go_wp2
                go_roundw
                case rel => exact ⟨j + 1, by omega, by go_num, by rw [HA.out, HH.out]; rfl, below_drewN HBj.out _⟩
                case measure => simp [intOf]; omega
              | false =>
                have HH := Lib.hid (show hitK o.key p = false by simp [hitK, h3])
                clear h2
                go_wp2
                go_quiet (fail)
                go_wp2
                go_roundw
                case rel => exact ⟨j + 1, by omega, by go_num, by rw [HA.out, HH.out]; rfl, below_drewN HBj.out _⟩
                case measure => simp [intOf]; omega
            · have h2' : (p.kind == 2) = false := by simp [h2]
              have HH := Lib.hid (show hitK o.key p = false by simp [hitK, h2])
              clear h2
              go_wp2
              go_quiet (fail)
              go_wp2
              go_roundw
              case rel => exact ⟨j + 1, by omega, by go_num, by rw [HA.out, HH.out]; rfl, below_drewN HBj.out _⟩
              case measure => simp [intOf]; omega
        · obtain rfl : j = k := by omega
          have HOj := Lib.hid (own_below HO1.out HBj.out)
          have HBB := Lib.hid (HB1.out.trans (HBj.out.mono HB1.out.size))
          have hwb := HBB.out.size
          clear k0 k1 k2
          generalize hmn : (l.take j).any (hitK o.key) = mine at *
          clear hmn
          go_upto_region 10 with fail
          go_cut [54] (fun r wx => r = .bool (s == 1 && o.kind != 2 && !mine) ∧ wx = wj)
          case first =>
            by_cases hs : s = 1
            · have h1 : (s == 1) = true := by simp [hs]
              by_cases h2 : o.kind = 2
              · have h2' : (o.kind != 2) = false := by simp [h2]
                clear hs h2
                go_wp2_with fail
                all_goals (go_meet; exact ⟨by rw [h1, h2']; rfl, rfl⟩)
              · have h2' : (o.kind != 2) = true := by simp [h2]
                clear hs h2
                go_wp2_with fail
                all_goals (go_meet; exact ⟨by rw [h1, h2']; rfl, rfl⟩)
            · have h1 : (s == 1) = false := by simp [hs]
              clear hs
              go_wp2_with fail
              all_goals (go_meet; exact ⟨by rw [h1]; rfl, rfl⟩)
          case rest =>
            obtain ⟨rfl, rfl⟩ := hcut
            cases hc : (s == 1 && o.kind != 2 && !mine) with
            | true =>
              rw [hc] at HN
              clear hc
              go_wp2_with (at_builtin; refine wpList_append_src rfl _ _ 47 rfl eltOp W0.heap.size (refR s l j).length _ (HOj.out.alloc _) rfl 1 (opV o) (src_new (cs := #[vi o.kind, vi o.key, vi o.val]) rfl rfl) rfl (by intro u hu; simp [opV] at hu; rcases hu with rfl | rfl | rfl <;> rfl) (by omega) (by omega) (by simp; omega) ?_; intro v1 w2 ho1 hg1 _)
              have hbl : ∀ j, u3.ownBlock = some j → W0.heap.size ≤ j := fun j hj => (HOj.out.lt j hj).1
              go_roundw
              case rel =>
                refine ⟨j + 1, by omega, by go_num, ?_, ?_⟩
                · rw [HN.out]; simpa [OwOps] using ho1
                · exact (HBB.out.alloc hwb _).grown hg1 (by simp; omega) hbl
              case measure => simp [intOf]; omega
            | false =>
              rw [hc] at HN
              clear hc
              go_wp2_with fail
              go_roundw
              case rel =>
                refine ⟨j + 1, by omega, by go_num, ?_, HBB.out⟩
                rw [HN.out]; simpa [OwOps] using HOj.out
              case measure => simp [intOf]; omega
    · obtain rfl : k = l.length := by omega
      go_wp2_with fail
      go_ret
      refine ⟨_, rfl, ?_, HB.out.trans (HBk.out.mono (by omega))⟩
      have e : refR s l l.length = readsM ⟨c, s, l⟩ := by unfold refR readsM; rw [List.take_length]
      rw [← e]; exact own_mono HOk.out (by omega)
end Go.Proofs.YtnacoplokjdglaaGreat
