/- Texts of one proof, one behind the other: RefS, RefC, Right, Last, Twice, Answer. -/
import Derived.Test.YtefpmcbpodlabaaJc3
set_option linter.all false
namespace Go.Proofs.Ytefpmcbpodlabaa
open Go.RowKit Go.Maps

def bV (b : Bool) : List Value := [.bool b]
def OwBs (base : Nat) (w : World) (v : Value) (L : List Bool) : Prop := w.ownsRow base 4 1 v L.length (L.flatMap bV)
theorem eltBool : Elt Try.prog 71 4 1 1 (.bool false) := by
  obtain ⟨i0, hi, hz0, hz1, hz2⟩ := info_parts Try.infoBool
  exact ⟨Try.underlying71, by decide, rfl, i0, hi, hz0, hz1, hz2⟩

def hitS (ts : List GTxn) (st : Int) (i : Nat) (o : GOp) : Bool := o.val != 0 && st == 0 && writerM ts o.key o.val == (i : Int)
def hitT (ts : List GTxn) (st : Int) (i : Nat) (t : GTxn) : Bool := (readsM t).any (hitS ts st i)
def refSure1 (ts : List GTxn) (i : Nat) : Bool := stOf ts i == 1 || ts.any (hitT ts (stOf ts i) i)
def refSureN (ts : List GTxn) (n : Nat) : List Bool := (List.range n).map (refSure1 ts)
theorem refSureN_succ (ts : List GTxn) (n : Nat) : refSureN ts (n + 1) = refSureN ts n ++ [refSure1 ts n] := by
  unfold refSureN; rw [List.range_succ, List.map_append]; rfl
theorem refSureN_length (ts : List GTxn) (n : Nat) : (refSureN ts n).length = n := by simp [refSureN]
theorem readsM_le (t : GTxn) (h : t.ops.length ≤ 1048576) : (readsM t).length ≤ 1048576 := by
  unfold readsM; split
  · exact Nat.le_trans (readsS_le _) h
  · simp

set_option maxRecDepth 100000 in
set_option maxHeartbeats 2000000 in
theorem refSure_call (v : Value) (ts : List GTxn) (w : World) (hv : RdTxns w v ts) (hok : OkTxns ts) :
    Calls Try.prog 73 #[v] w fun e w' => ∃ v', e = .returned v' ∧ OwBs w.heap.size w' v' (refSureN ts ts.length) ∧ Below w.heap.size w w' := by
  have HV := Lib.hid hv
  have HOK := Lib.hid hok
  have htl := hok.1
  obtain ⟨a, len, cap, rfl, rfl, hm, -⟩ := hv.at
  clear hv hok
  go_enter Try.func73, Try.ntmps73
  go_wp2_with fail
  go_loopw [3, 4, 5, 6, 12] (fun v _ _ _ i wr => ∃ k : Nat, k ≤ ts.length ∧ i = .int .i64 k ∧ OwBs w.heap.size wr v (refSureN ts k) ∧ Below w.heap.size w wr) (fun _ _ _ _ i _ => ts.length - (intOf i).toNat)
  case atStart => exact ⟨0, Nat.zero_le _, rfl, World.ownsRow_lit (base := w.heap.size) (e := 4) (size := 1) w #[] 0 (Nat.le_refl _) (by simp [maxLen]) rfl, (Below.refl _ _).alloc (Nat.le_refl _) _⟩
  case round =>
    obtain ⟨wi, rfl⟩ : ∃ wi : World, wi = wr := ⟨_, rfl⟩
    obtain ⟨k, hk, rfl, ho, hb⟩ := hrel
    have HOk := Lib.hid ho
    have HBk := Lib.hid hb
    have hwk := hb.size
    clear ho hb
    by_cases hlt : k < ts.length
    · obtain ⟨t, ht⟩ := some_at hlt
      obtain ⟨_, _, _, e5, -, -, hcl⟩ := HV.out.at
      cases e5
      obtain ⟨b, off, oa, oc, rfl, hr, k0', k1', k2'⟩ := hcl k t ht
      have k1 := cell_later HBk.out k1'
      have HK1 := Lib.hid k1'
      have hst : stOf ts k = t.state := by simp [stOf, ht]
      have HN := Lib.hid (refSureN_succ ts k)
      have HC := Lib.hid hcl
      have hk1 : (k : Int) < (ts.length : Int) := by omega
      have HS1 := Lib.hid (show refSure1 ts k = (t.state == 1 || ts.any (hitT ts t.state k)) by unfold refSure1; rw [hst])
      clear hcl ht hr k0' k1' k2' hst
      go_wp2_with fail
      go_loopw [5, 6, 23] (fun m _ i wr => ∃ q : Nat, q ≤ ts.length ∧ i = .int .i64 q ∧ m = .bool (t.state == 1 || (ts.take q).any (hitT ts t.state k)) ∧ Below wi.heap.size wi wr) (fun _ _ i _ => ts.length - (intOf i).toNat)
      case atStart => exact ⟨0, Nat.zero_le _, rfl, by simp, Below.refl _ _⟩
      case round =>
        obtain ⟨wq, rfl⟩ : ∃ wq : World, wq = wr := ⟨_, rfl⟩
        obtain ⟨q, hq, rfl, rfl, hb⟩ := hrel
        have HBq := Lib.hid hb
        have hwq := hb.size
        have HWq := Lib.hid (HBk.out.trans (hb.mono hwk))
        clear hb k1
        by_cases hlt2 : q < ts.length
        · obtain ⟨u, hu⟩ := some_at hlt2
          obtain ⟨_, _, ua, uc, e6, hru, u0', u1', u2'⟩ := HC.out q u hu
          cases e6
          have u0 := cell_later HWq.out u0'
          have u1 := cell_later HWq.out u1'
          have u2 := cell_later HWq.out u2'
          have hok2 := (HOK.out.2 u (List.mem_of_getElem? hu)).2
          have HOP := Lib.hid (HOK.out.2 u (List.mem_of_getElem? hu)).1
          have HA := Lib.hid (any_next (p := hitT ts t.state k) hu)
          have HRU := Lib.hid (hru.later HWq.out)
          generalize hS0 : (t.state == 1 || (ts.take q).any (hitT ts t.state k)) = S0 at *
          have HS0 := Lib.hid hS0
          clear hu hru u0' u1' u2' hS0
          go_wp2_with (go_at_call 70; refine (refReads_call u.client u.state _ u.ops _ HRU.out hok2).mono ?_; rintro e w2 ⟨v2, rfl, ho2, hb2⟩; have hr2 := ho2.rd; obtain ⟨a2, len2, cap2, rfl, rfl, hm2, -⟩ := hr2.at)
          have hws : (readsM ⟨u.client, u.state, u.ops⟩) = readsM u := rfl
          rw [hws] at hr2 hm2
          have HR2 := Lib.hid hr2
          have HB2 := Lib.hid (HBq.out.trans (hb2.mono hwq))
          have HW2 := Lib.hid (HWq.out.trans (hb2.mono HWq.out.size))
          have hrl := readsM_le u hok2
          have HT := Lib.hid (show hitT ts t.state k u = (readsM u).any (hitS ts t.state k) from rfl)
          clear ho2 hb2 hr2 u0 u1 u2
          try rw [hws]
          generalize readsM u = rs at *
          go_loopw [5, 8, 32] (fun m _ i wr => ∃ j : Nat, j ≤ rs.length ∧ i = .int .i64 j ∧ m = .bool (S0 || (rs.take j).any (hitS ts t.state k)) ∧ Below w2.heap.size w2 wr) (fun _ _ i _ => rs.length - (intOf i).toNat)
          case atStart => exact ⟨0, Nat.zero_le _, rfl, by simp, Below.refl _ _⟩
          case round =>
            obtain ⟨wj, rfl⟩ : ∃ wj : World, wj = wr := ⟨_, rfl⟩
            obtain ⟨j, hj, rfl, rfl, hb⟩ := hrel
            have HBj := Lib.hid hb
            have hwj := hb.size
            clear hb
            by_cases hlt3 : j < rs.length
            · obtain ⟨o, ho⟩ := some_at hlt3
              obtain ⟨_, _, _, e7, -, -, hcl⟩ := HR2.out.at
              cases e7
              obtain ⟨ob, ooff, rfl, y0', y1', y2'⟩ := hcl j o ho
              have y0 := cell_later HBj.out y0'
              have y1 := cell_later HBj.out y1'
              have y2 := cell_later HBj.out y2'
              have z1 := fun o' => cell_later ((HW2.out.trans (HBj.out.mono HW2.out.size)).alloc (by have := HW2.out.size; omega) o') HK1.out
              have HWj := Lib.hid (fun o' => HV.out.later ((HW2.out.trans (HBj.out.mono HW2.out.size)).alloc (by have := HW2.out.size; omega) o'))
              have HA2 := Lib.hid (any_next (p := hitS ts t.state k) ho)
              clear hcl ho y0' y1' y2'
              generalize hS1 : (S0 || (rs.take j).any (hitS ts t.state k)) = S1 at *
              have HG := Lib.hid (show ∀ x, hitS ts t.state k o = x → Value.bool (S1 || x) = .bool (S0 || (rs.take (j + 1)).any (hitS ts t.state k)) from fun x hx => by rw [HA2.out, ← Bool.or_assoc, hS1, hx])
              have HHS := Lib.hid (show hitS ts t.state k o = (o.val != 0 && t.state == 0 && writerM ts o.key o.val == (k : Int)) from rfl)
              clear hS1
              cases S1 with
              | true =>
                go_wp2_with fail
                go_roundw
                case rel => exact ⟨j + 1, by omega, by go_num, HG.out _ rfl, HBj.out.alloc hwj _⟩
                case measure => simp [intOf]; omega
              | false =>
                by_cases h0 : o.val = 0
                · have h0' : (o.val != 0) = false := by simp [h0]
                  rw [h0'] at HHS
                  clear h0
                  go_wp2_with fail
                  go_roundw
                  case rel => exact ⟨j + 1, by omega, by go_num, HG.out false (by rw [HHS.out]; rfl), HBj.out.alloc hwj _⟩
                  case measure => simp [intOf]; omega
                · have h0' : (o.val != 0) = true := by simp [h0]
                  rw [h0'] at HHS
                  clear h0
                  by_cases h1 : t.state = 0
                  · have h1' : (t.state == 0) = true := by simp [h1]
                    rw [h1'] at HHS
                    clear h1
                    go_wp2_with (go_at_call 71; refine (writer_call _ ts o.key o.val _ (HWj.out _)).mono ?_; rintro e w3 ⟨rfl, hb3⟩)
                    go_roundw
                    case rel => exact ⟨j + 1, by omega, by go_num, HG.out (writerM ts o.key o.val == (k : Int)) (by rw [HHS.out]; rfl), (HBj.out.alloc hwj _).trans (hb3.mono (by simp; omega))⟩
                    case measure => simp [intOf]; omega
                  · have h1' : (t.state == 0) = false := by simp [h1]
                    rw [h1'] at HHS
                    clear h1
                    go_wp2_with fail
                    go_roundw
                    case rel => exact ⟨j + 1, by omega, by go_num, HG.out false (by rw [HHS.out]; rfl), HBj.out.alloc hwj _⟩
                    case measure => simp [intOf]; omega
            · obtain rfl : j = rs.length := by omega
              rw [List.take_length]
              go_wp2_with fail
              go_roundw
              case rel =>
                refine ⟨q + 1, by omega, by go_num, ?_, HB2.out.trans (HBj.out.mono HB2.out.size)⟩
                rw [HA.out, ← Bool.or_assoc, HS0.out, HT.out]
              case measure => simp [intOf]; omega
        · obtain rfl : q = ts.length := by omega
          rw [List.take_length, ← HS1.out]
          have HOq := Lib.hid (own_below HOk.out HBq.out)
          have hle := refSureN_length ts k
          go_wp2_with (at_builtin; refine wpList_append_src rfl _ _ 71 rfl eltBool w.heap.size (refSureN ts k).length _ (HOq.out.alloc _) rfl 1 (bV (refSure1 ts k)) (src_new (cs := #[.bool (refSure1 ts k)]) rfl rfl) rfl (by intro u hu; simp [bV] at hu; subst hu; rfl) (by omega) (by omega) (by simp; omega) ?_; intro v1 w2 ho1 hg1 _)
          have hbl : ∀ j, u3.ownBlock = some j → w.heap.size ≤ j := fun j hj => (HOq.out.lt j hj).1
          go_roundw
          case rel =>
            refine ⟨k + 1, by omega, by go_num, ?_, ?_⟩
            · rw [HN.out]; simpa [OwBs] using ho1
            · exact (HWq.out.alloc (by omega) _).grown hg1 (by simp; omega) hbl
          case measure => simp [intOf]; omega
    · obtain rfl : k = ts.length := by omega
      go_wp2_with fail
      go_ret
      exact ⟨_, rfl, HOk.out, HBk.out⟩
end Go.Proofs.Ytefpmcbpodlabaa

namespace Go.Proofs.Ytefpmcbpodlabaa
open Go.RowKit Go.Maps

theorem Try.infoRc : (Try.prog.info? 85).map (fun i => (i.zero, i.size, i.bytes)) = some (some (.agg #[vi 0, vi 0, vi 0, vi 0]), 4, 32) := by kernel_rfl
theorem eltRc : Elt Try.prog 83 85 4 32 (.agg #[vi 0, vi 0, vi 0, vi 0]) := by
  obtain ⟨i0, hi, hz0, hz1, hz2⟩ := info_parts Try.infoRc
  exact ⟨Try.underlying83, by decide, rfl, i0, hi, hz0, hz1, hz2⟩

/-- Rows of two kinds lie in two blocks. -/
theorem own_apart {w : World} {b b' e e' m m' n n' : Nat} {v v' : Value} {xs xs' : List Value} (h : w.ownsRow b e m v n xs) (h' : w.ownsRow b' e' m' v' n' xs') (he : e ≠ e') : v'.ownBlock = none ∨ v'.ownBlock ≠ v.ownBlock := by
  rcases h'.2 with ⟨hv', _⟩ | ⟨g', cap', cur', hv', _, hh', _⟩
  · left; rw [hv']; rfl
  · right
    rcases h.2 with ⟨hv, _⟩ | ⟨g, cap, cur, hv, _, hh, _⟩
    · rw [hv, hv']; simp [Value.ownBlock]
    · rw [hv, hv']
      intro e1
      have : g' = g := by simpa [Value.ownBlock] using e1
      subst this
      rw [hh] at hh'
      simp at hh'
      exact he hh'.2

/-- What crucibleref09.Choices keeps of memory. -/
structure StC (w : World) (vs : Value) (S : List Bool) (v : Value) (L : List GChoice) (W : World) : Prop where
  out : OwCh 85 w.heap.size W v L
  row : OwBs w.heap.size W vs S
  below : Below w.heap.size w W
theorem StC.later {w A B : World} {vs v : Value} {S : List Bool} {L : List GChoice} (h : StC w vs S v L A) (hb : Below A.heap.size A B) : StC w vs S v L B :=
  ⟨own_below h.out hb, own_below h.row hb, h.below.trans (hb.mono h.below.size)⟩
theorem StC.app {w A B : World} {vs v v' : Value} {S : List Bool} {L L' : List GChoice} (h : StC w vs S v L A) (hg : A.grownBy B v.ownBlock) (ho : OwCh 85 w.heap.size B v' L') : StC w vs S v' L' B :=
  ⟨ho, World.ownsRow.kept h.row hg (own_apart h.out h.row (by decide)), h.below.grown hg h.below.size (fun j hj => (World.ownsRow.lt h.out j hj).1)⟩
theorem StC.more {w A : World} {vs v : Value} {S : List Bool} {L : List GChoice} (h : StC w vs S v L A) (o : Obj) : StC w vs S v L (A.alloc o) := h.later ((Below.refl _ _).alloc (Nat.le_refl _) _)
theorem OwBs.at {base : Nat} {w : World} {v : Value} {L : List Bool} (h : OwBs base w v L) : ∃ a cap, v = .slice a L.length cap ∧ ∀ j x, L[j]? = some x → ∃ b off, a = some ⟨b, off, none⟩ ∧ w.cell? ⟨b, off + j, none⟩ = some (.bool x) := by
  obtain ⟨a, len, cap, h1, h2, h3, h4, h5, h6⟩ := rds_of_own (V := bV) (fun _ => rfl) h
  subst h2
  refine ⟨a, cap, h1, fun j x hj => ?_⟩
  obtain ⟨b, off, cs, ha, hl, hc, rfl⟩ := h6 j x hj
  exact ⟨b, off, ha, by simpa using hc 0 _ rfl⟩

/-- crucibleref09.Choices. -/
def refChoicesM (ts : List GTxn) : List GChoice := cmS (refSureN ts ts.length) ts ts.length ++ befK ts 16

set_option maxRecDepth 100000 in
set_option maxHeartbeats 4000000 in
theorem refChoices_call (v : Value) (ts : List GTxn) (w : World) (hv : RdTxns w v ts) (hok : OkTxns ts) (htl : ts.length ≤ 4096) :
    Calls Try.prog 39 #[v] w fun e w' => ∃ v', e = .returned v' ∧ OwCh 85 w.heap.size w' v' (refChoicesM ts) ∧ Below w.heap.size w w' := by
  have HV := Lib.hid hv
  have HOK := Lib.hid hok
  obtain ⟨a, len, cap, rfl, rfl, hm, -⟩ := hv.at
  clear hv hok
  have hB0 := (Below.refl w.heap.size w).alloc (Nat.le_refl _) (.cells #[] 85)
  have hO0 := World.ownsRow_lit (base := w.heap.size) (e := 85) (size := 4) w #[] 0 (Nat.le_refl _) (by simp [maxLen]) rfl
  have HB0 := Lib.hid hB0
  have HO0 := Lib.hid hO0
  clear hB0 hO0
  go_enter Try.func39, Try.ntmps39
  go_wp2_with (go_at_call 73; refine (refSure_call _ _ _ (HV.out.later HB0.out) HOK.out).mono ?_; rintro e w1 ⟨vs, rfl, hS, hb1⟩; obtain ⟨sa, sc, hvs, -⟩ := OwBs.at hS; rw [refSureN_length] at hvs; subst hvs)
  have HST := Lib.hid (show StC w (.slice sa ts.length sc) (refSureN ts ts.length) (.slice (some ⟨w.heap.size, 0, none⟩) 0 0) [] w1 from ⟨own_below HO0.out hb1, own_mono hS (by simp), HB0.out.trans (hb1.mono HB0.out.size)⟩)
  have HCM := Lib.hid (show refChoicesM ts = cmS (refSureN ts ts.length) ts ts.length ++ befK ts 16 from rfl)
  have HRL := Lib.hid (refSureN_length ts ts.length)
  clear hS hb1
  generalize refSureN ts ts.length = S at *
  go_loopw [3, 5, 14] (fun v _ i wr => ∃ k : Nat, k ≤ ts.length ∧ i = .int .i64 k ∧ StC w (.slice sa ts.length sc) S v (cmS S ts k) wr) (fun _ _ i _ => ts.length - (intOf i).toNat)
  case atStart => exact ⟨0, Nat.zero_le _, rfl, HST.out⟩
  case round =>
    obtain ⟨wo, rfl⟩ : ∃ wo : World, wo = wr := ⟨_, rfl⟩
    obtain ⟨k, hk, rfl, hst⟩ := hrel
    have HT := Lib.hid hst
    have HW := Lib.hid hst.below
    have hws := hst.below.size
    by_cases hlt : k < ts.length
    · obtain ⟨t, ht⟩ := some_at hlt
      obtain ⟨_, _, _, e5, -, -, hcl⟩ := HV.out.at
      cases e5
      obtain ⟨b, off, oa, oc, rfl, hr, k0', k1', k2'⟩ := hcl k t ht
      have k0 := cell_later HW.out k0'
      have k1 := cell_later HW.out k1'
      have k2 := cell_later HW.out k2'
      obtain ⟨x, hx⟩ := some_at (l := S) (k := k) (by rw [HRL.out]; exact hlt)
      obtain ⟨_, _, e6, hsc⟩ := OwBs.at hst.row
      simp only [Value.slice.injEq] at e6
      obtain ⟨rfl, -, rfl⟩ := e6
      obtain ⟨sb, so, rfl, x0⟩ := hsc k x hx
      have HE := Lib.hid (show openB S k t = (t.state == 0 && !x && decide (0 < (writesM t.ops).length)) by unfold openB; rw [hx]; rfl)
      have HN := Lib.hid (cmS_succ (S := S) ht)
      have HR := Lib.hid (hr.later HW.out)
      obtain ⟨hok1, hok2⟩ := HOK.out.2 t (List.mem_of_getElem? ht)
      have hkS : (k : Int) < (ts.length : Int) := by omega
      clear hcl ht hr hok1 k0' k1' k2' hx hsc hst
      go_upto_region 6 with fail
      go_cut [38] (fun r wx => r = .bool (openB S k t) ∧ StC w (.slice (some ⟨sb, so, none⟩) ts.length sc) S u3 (cmS S ts k) wx)
      case first =>
        by_cases hs0 : t.state = 0
        · have h0 : (t.state == 0) = true := by simp [hs0]
          rw [h0] at HE
          clear hs0
          cases x
          · go_wp2_with (go_at_call 74; refine (refWrites_call t.client t.state _ t.ops _ HR.out hok2).mono ?_; rintro e w2 ⟨v2, rfl, ho2, hb2⟩; have hr2 := ho2.rd; obtain ⟨a2, len2, cap2, rfl, rfl, hm2, -⟩ := hr2.at)
            go_meet
            exact ⟨by rw [HE.out]; rfl, HT.out.later hb2⟩
          · go_wp2_with fail
            go_meet
            exact ⟨by rw [HE.out]; rfl, HT.out⟩
        · have h0 : (t.state == 0) = false := by simp [hs0]
          rw [h0] at HE
          clear hs0
          go_wp2_with fail
          go_meet
          exact ⟨by rw [HE.out]; rfl, HT.out⟩
      case rest =>
        obtain ⟨rfl, hst2⟩ := hcut
        have hsz := hst2.below.size
        have HS2 := Lib.hid hst2
        have hle := cmS_le S ts k
        clear hst2 k0 k1 k2 x0
        cases hc : openB S k t with
        | true =>
          rw [hc] at HN
          clear hc
          go_wp2_with (at_builtin; refine wpList_append_src rfl _ _ 83 rfl eltRc w.heap.size (cmS S ts k).length _ (HS2.out.more _).out rfl 1 (chV ⟨1, 0, k, 0⟩) (src_new (cs := #[vi 1, vi 0, vi k, vi 0]) rfl rfl) rfl (chV_one _) (by omega) (by omega) (by simp; omega) ?_; intro v1 w2 ho1 hg1 _)
          go_roundw
          case rel =>
            refine ⟨k + 1, by omega, by go_num, ?_⟩
            rw [HN.out]; exact (HS2.out.more _).app hg1 (by simpa [OwCh] using ho1)
          case measure => simp [intOf]; omega
        | false =>
          rw [hc] at HN
          clear hc
          go_wp2_with fail
          go_roundw
          case rel =>
            refine ⟨k + 1, by omega, by go_num, ?_⟩
            rw [HN.out]; simpa using HS2.out
          case measure => simp [intOf]; omega
    · obtain rfl : k = ts.length := by omega
      clear hst
      go_wp2_with fail
      have hcl0 := cmS_le S ts ts.length
      generalize cmS S ts ts.length = c0 at *
      go_loopw [3, 6] (fun v i wr => ∃ k : Nat, k ≤ 16 ∧ i = .int .i64 k ∧ StC w (.slice sa ts.length sc) S v (c0 ++ befK ts k) wr) (fun _ i _ => 16 - (intOf i).toNat)
      case atStart => exact ⟨0, Nat.zero_le _, rfl, by simpa [befK] using HT.out⟩
      case round =>
        obtain ⟨wk, rfl⟩ : ∃ wk : World, wk = wr := ⟨_, rfl⟩
        obtain ⟨k, hk, rfl, hst⟩ := hrel
        by_cases hlt : k < 16
        · have hck := befK_le ts htl k
          have hk16 : (k : Int) < 16 := by omega
          have HN := Lib.hid (befK_succ ts k)
          have HSk := Lib.hid hst
          clear hst
          generalize befK ts k = ck at *
          go_wp2_with fail
          go_loopw [3, 7] (fun v i wr => ∃ q : Nat, q ≤ ts.length ∧ i = .int .i64 q ∧ StC w (.slice sa ts.length sc) S v (c0 ++ ck ++ befB ts k q) wr) (fun _ i _ => ts.length - (intOf i).toNat)
          case atStart => exact ⟨0, Nat.zero_le _, rfl, by simpa [befB] using HSk.out⟩
          case round =>
            obtain ⟨wq, rfl⟩ : ∃ wq : World, wq = wr := ⟨_, rfl⟩
            obtain ⟨q, hq, rfl, hst⟩ := hrel
            by_cases hlt2 : q < ts.length
            · have hcq := befB_le ts k q (by omega)
              have hqI : (q : Int) < (ts.length : Int) := by omega
              have HNq := Lib.hid (befB_succ ts k q)
              have HSq := Lib.hid hst
              clear hst
              generalize befB ts k q = cq at *
              go_wp2_with fail
              go_loopw [3, 8] (fun v i wr => ∃ p : Nat, p ≤ q ∧ i = .int .i64 p ∧ StC w (.slice sa ts.length sc) S v (c0 ++ ck ++ cq ++ befA ts k q p) wr) (fun _ i _ => q - (intOf i).toNat)
              case atStart => exact ⟨0, Nat.zero_le _, rfl, by simpa [befA] using HSq.out⟩
              case round =>
                obtain ⟨wp, rfl⟩ : ∃ wp : World, wp = wr := ⟨_, rfl⟩
                obtain ⟨p, hp, rfl, hst⟩ := hrel
                by_cases hlt3 : p < q
                · have hcp := befA_le ts k q p
                  have hpI : (p : Int) < (q : Int) := by omega
                  have hpJ : (p : Int) < (ts.length : Int) := by omega
                  have HNp := Lib.hid (befA_succ ts k q p)
                  have HSp := Lib.hid hst
                  have HW := Lib.hid hst.below
                  have hwp := hst.below.size
                  clear hst
                  obtain ⟨ta, hta⟩ := some_at (l := ts) (k := p) (by omega)
                  obtain ⟨tb, htb⟩ := some_at (l := ts) (k := q) (by omega)
                  obtain ⟨_, _, _, e5, -, -, hcl⟩ := HV.out.at
                  cases e5
                  obtain ⟨b, off, oa, oc, rfl, hra, a0', a1', a2'⟩ := hcl p ta hta
                  obtain ⟨_, _, ob, oc2, e6, hrb, b0', b1', b2'⟩ := hcl q tb htb
                  cases e6
                  have k0 := cell_later HW.out a0'
                  have k1 := cell_later HW.out a1'
                  have k2 := cell_later HW.out a2'
                  have m0 := cell_later HW.out b0'
                  have m1 := cell_later HW.out b1'
                  have m2 := cell_later HW.out b2'
                  have HRA := Lib.hid (hra.later HW.out)
                  have HRB := Lib.hid (hrb.later HW.out)
                  have HC := Lib.hid (show condB ts k p q = (ta.state != 2 && tb.state != 2 && writesK ta k && writesK tb k) by simp [condB, stOf, wrOf, hta, htb])
                  have hoka := (HOK.out.2 ta (List.mem_of_getElem? hta)).2
                  have hokb := (HOK.out.2 tb (List.mem_of_getElem? htb)).2
                  have HEA := Lib.hid (refWk_eq (l := ta.ops) (k := k) hlt)
                  have HEB := Lib.hid (refWk_eq (l := tb.ops) (k := k) hlt)
                  clear hcl hta htb hra hrb a0' a1' a2' b0' b1' b2'
                  go_upto_region 18 with fail
                  go_cut [89] (fun r wx => r = .bool (condB ts k p q) ∧ StC w (.slice sa ts.length sc) S u3 (c0 ++ ck ++ cq ++ befA ts k q p) wx)
                  case first =>
                    by_cases hs0 : ta.state = 2
                    · have h0 : (ta.state != 2) = false := by simp [hs0]
                      rw [h0] at HC
                      clear hs0
                      go_wp2_with fail
                      go_meet
                      exact ⟨by rw [HC.out]; rfl, HSp.out⟩
                    · have h0 : (ta.state != 2) = true := by simp [hs0]
                      rw [h0] at HC
                      clear hs0
                      by_cases hs2 : tb.state = 2
                      · have h2 : (tb.state != 2) = false := by simp [hs2]
                        rw [h2] at HC
                        clear hs2
                        go_wp2_with fail
                        go_meet
                        exact ⟨by rw [HC.out]; rfl, HSp.out⟩
                      · have h2 : (tb.state != 2) = true := by simp [hs2]
                        rw [h2] at HC
                        clear hs2
                        cases hwa : writesK ta k with
                        | false =>
                          have HWA := Lib.hid (HEA.out.trans hwa)
                          rw [hwa] at HC
                          clear hwa
                          go_wp2_with (go_at_call 61; refine (refWk_call ta.client ta.state _ ta.ops k _ HRA.out hoka).mono ?_; rintro e w2 ⟨rfl, hb2⟩; rw [HWA.out])
                          go_meet
                          exact ⟨by rw [HC.out]; rfl, HSp.out.later hb2⟩
                        | true =>
                          have HWA := Lib.hid (HEA.out.trans hwa)
                          have HWB := Lib.hid (show refWk tb.ops k = writesK tb k from HEB.out)
                          rw [hwa] at HC
                          clear hwa
                          go_wp2_with (first
                            | (go_at_call 61; with_reducible refine (refWk_call ta.client ta.state _ ta.ops k _ HRA.out hoka).mono ?_; rintro e w2 ⟨rfl, hb2⟩; rw [HWA.out]; replace m0 := cell_later hb2 m0; replace m1 := cell_later hb2 m1; replace m2 := cell_later hb2 m2; replace HRB := Lib.hid (HRB.out.later hb2))
                            | (go_at_call 61; refine (refWk_call tb.client tb.state _ tb.ops k _ HRB.out hokb).mono ?_; rintro e w3 ⟨rfl, hb3⟩; rw [HWB.out]))
                          go_meet
                          exact ⟨by rw [HC.out]; rfl, (HSp.out.later hb2).later hb3⟩
                  case rest =>
                    obtain ⟨rfl, hst2⟩ := hcut
                    have hsz := hst2.below.size
                    have HS2 := Lib.hid hst2
                    clear hst2 k0 k1 k2 m0 m1 m2
                    cases hc : condB ts k p q with
                    | true =>
                      rw [hc] at HNp
                      clear hc
                      go_wp2_with (at_builtin; refine wpList_append_src rfl _ _ 83 rfl eltRc w.heap.size (c0 ++ ck ++ cq ++ befA ts k q p).length _ (HS2.out.more _).out rfl 1 (chV ⟨2, k, p, q⟩) (src_new (cs := #[vi 2, vi k, vi p, vi q]) rfl rfl) rfl (chV_one _) (by simp only [List.length_append]; omega) (by omega) (by simp; omega) ?_; intro v1 w2 ho1 hg1 _)
                      go_roundw
                      case rel =>
                        refine ⟨p + 1, by omega, by go_num, ?_⟩
                        rw [HNp.out]; exact (HS2.out.more _).app hg1 (by simpa [OwCh, List.append_assoc, Nat.add_assoc] using ho1)
                      case measure => simp [intOf]; omega
                    | false =>
                      rw [hc] at HNp
                      clear hc
                      go_wp2_with fail
                      go_roundw
                      case rel =>
                        refine ⟨p + 1, by omega, by go_num, ?_⟩
                        rw [HNp.out]; simpa using HS2.out
                      case measure => simp [intOf]; omega
                · obtain rfl : p = q := by omega
                  have HSp := Lib.hid hst
                  clear hst
                  go_wp2_with fail
                  go_roundw
                  case rel =>
                    refine ⟨p + 1, by omega, by go_num, ?_⟩
                    rw [HNq.out, ← List.append_assoc]; exact HSp.out
                  case measure => simp [intOf]; omega
            · obtain rfl : q = ts.length := by omega
              have HSq := Lib.hid hst
              clear hst
              go_wp2_with fail
              go_roundw
              case rel =>
                refine ⟨k + 1, by omega, by go_num, ?_⟩
                rw [HN.out, ← List.append_assoc]; exact HSq.out
              case measure => simp [intOf]; omega
        · obtain rfl : k = 16 := by omega
          go_wp2_with fail
          go_ret
          refine ⟨_, rfl, ?_, hst.below⟩
          unfold OwCh; rw [HCM.out]; exact hst.out
end Go.Proofs.Ytefpmcbpodlabaa

/- crucibleref05.right: when it says yes, the event is a good one. -/
namespace Go.Proofs.Ytefpmcbpodlabaa
open Go.RowKit Go.Maps

/-- An operation that may be. -/
structure GoodOp (o : GOp) : Prop where
  kind : o.kind = 1 ∨ o.kind = 2
  key0 : 0 ≤ o.key
  key1 : o.key ≤ 15
  val0 : 0 ≤ o.val
  val1 : o.val < 1099511627776
/-- An event that may be. -/
structure GoodEv (e : GEvent) : Prop where
  kind0 : 1 ≤ e.kind
  kind1 : e.kind ≤ 4
  cl0 : 1 ≤ e.client
  cl1 : e.client ≤ 16
  len : e.ops.length ≤ 12
  ops : ∀ o ∈ e.ops, GoodOp o

theorem beq_t {a b : Int} (h : a = b) : (a == b) = true := by simp [h]
theorem beq_f {a b : Int} (h : a ≠ b) : (a == b) = false := by simp [h]
theorem bne_t {a b : Int} (h : a ≠ b) : (a != b) = true := by simp [h]
theorem bne_f {a b : Int} (h : a = b) : (a != b) = false := by simp [h]

/-- What crucibleref05.right answers. -/
def RightQ (e : GEvent) (w : World) (r : Ending) (w' : World) : Prop := ∃ b, r = .returned (.bool b) ∧ (b = true → GoodEv e) ∧ Below w.heap.size w w'
theorem RightQ.no {e : GEvent} {w w' : World} {r : Ending} (h : r = .returned (.bool false)) (hb : Below w.heap.size w w') : RightQ e w r w' := ⟨false, h, (fun h => by cases h), hb⟩
theorem RightQ.yes {e : GEvent} {w w' : World} {r : Ending} (h : r = .returned (.bool true)) (hg : GoodEv e) (hb : Below w.heap.size w w') : RightQ e w r w' := ⟨true, h, fun _ => hg, hb⟩

set_option maxRecDepth 100000 in
set_option maxHeartbeats 4000000 in
theorem right_call (e : GEvent) (v : Value) (w : World) (hv : RdOps w v e.ops) :
    Calls Try.prog 66 #[.agg #[vi e.kind, vi e.client, v]] w (RightQ e w) := by
  obtain ⟨kind, client, l⟩ := e
  have hB : Below w.heap.size w (w.alloc (.cells #[vi kind, vi client, v] 119)) := (Below.refl _ _).alloc (Nat.le_refl _) _
  have hV := hv.later hB
  have HV := Lib.hid hV
  have HB := Lib.hid hB
  obtain ⟨a, len, cap, rfl, rfl, hm, -⟩ := hv.at
  clear hv hV hB
  show Calls Try.prog 66 #[.agg #[vi kind, vi client, .slice a l.length cap]] w _
  go_enter Try.func66, Try.ntmps66
  by_cases a1 : kind < 1
  · go_wp2_with fail
    go_ret
    exact .no rfl HB.out
  by_cases a2 : kind > 4
  · go_wp2_with fail
    go_ret
    exact .no rfl HB.out
  by_cases a3 : client < 1
  · go_wp2_with fail
    go_ret
    exact .no rfl HB.out
  by_cases a4 : client > 16
  · go_wp2_with fail
    go_ret
    exact .no rfl HB.out
  by_cases a5 : (l.length : Int) > 12
  · go_wp2_with fail
    go_ret
    exact .no rfl HB.out
  have hz : (∃ c : Bool, c = ((l.length : Int) == 0)) := ⟨_, rfl⟩
  go_upto_region 3 with fail
  go_cut [42] (fun r wx => (∃ b, r = .bool b) ∧ wx = w.alloc (.cells #[vi kind, vi client, .slice a l.length cap] 119))
  case first =>
    by_cases b1 : (l.length : Int) = 0
    · have c1 := beq_t b1
      clear b1
      by_cases b2 : kind = 1
      · have c2 := beq_t b2
        clear b2
        go_wp2_with fail
        go_meet
        exact ⟨⟨_, rfl⟩, rfl⟩
      · have c2 := beq_f b2
        clear b2
        by_cases b3 : kind = 2
        · have c3 := beq_t b3
          clear b3
          go_wp2_with fail
          go_meet
          exact ⟨⟨_, rfl⟩, rfl⟩
        · have c3 := beq_f b3
          clear b3
          go_wp2_with fail
          go_meet
          exact ⟨⟨_, rfl⟩, rfl⟩
    · have c1 := beq_f b1
      clear b1
      go_wp2_with fail
      go_meet
      exact ⟨⟨_, rfl⟩, rfl⟩
  case rest =>
    obtain ⟨⟨b, rfl⟩, rfl⟩ := hcut
    cases b with
    | true =>
      go_wp2_with fail
      go_ret
      exact .no rfl HB.out
    | false =>
      have HB1 := Lib.hid (show Below w.heap.size w (w.alloc (.cells #[vi kind, vi client, .slice a l.length cap] 119)) from HB.out)
      have q0 : (w.alloc (.cells #[vi kind, vi client, .slice a l.length cap] 119)).cell? ⟨w.heap.size, 0, none⟩ = some (vi kind) := by rw [cell_of (alloc_at _ _)]; rfl
      have hw1 : (w.alloc (.cells #[vi kind, vi client, .slice a l.length cap] 119)).heap.size = w.heap.size + 1 := by simp
      have Q0 := Lib.hid q0
      clear q0
      go_wp2_with fail
      generalize w.alloc (.cells #[vi kind, vi client, .slice a l.length cap] 119) = w1 at *
      go_loopw [46] (fun i wr => ∃ k : Nat, k ≤ l.length ∧ i = .int .i64 k ∧ (∀ j o, j < k → l[j]? = some o → GoodOp o) ∧ Below w1.heap.size w1 wr) (fun i _ => l.length - (intOf i).toNat)
      case atStart => exact ⟨0, Nat.zero_le _, rfl, fun j u hj => absurd hj (Nat.not_lt_zero _), Below.refl _ _⟩
      case round =>
        obtain ⟨wk, rfl⟩ : ∃ wk : World, wk = wr := ⟨_, rfl⟩
        obtain ⟨k, hk, rfl, hno, hb⟩ := hrel
        have HN := Lib.hid hno
        have HBk := Lib.hid hb
        have hwk := hb.size
        have hwk2 : w.heap.size < wk.heap.size := by omega
        have q1 := cell_later hb Q0.out
        clear hno hb
        by_cases hlt : k < l.length
        · obtain ⟨o, ho⟩ := some_at hlt
          obtain ⟨_, _, _, e5, -, -, hcl⟩ := HV.out.at
          cases e5
          obtain ⟨b, off, rfl, k0', k1', k2'⟩ := hcl k o ho
          have k0 := cell_later HBk.out k0'
          have k1 := cell_later HBk.out k1'
          have k2 := cell_later HBk.out k2'
          have HO := Lib.hid ho
          have hkI : (k : Int) < (l.length : Int) := by omega
          clear hcl ho k0' k1' k2'
          go_upto_region 8 with fail
          go_cut [77] (fun r wx => (∃ b', r = .bool b' ∧ (b' = false → GoodOp o)) ∧ wx = wk.alloc (.cells #[vi o.kind, vi o.key, vi o.val] 48))
          case first =>
            by_cases g1 : o.kind = 1
            · have HG := Lib.hid (show o.kind = 1 ∨ o.kind = 2 from .inl g1)
              have e1 := bne_f g1
              clear g1
              by_cases d1 : o.key < 0
              · go_wp2_with fail
                go_meet
                exact ⟨⟨_, rfl, fun h => by cases h⟩, rfl⟩
              by_cases d2 : o.key > 15
              · go_wp2_with fail
                go_meet
                exact ⟨⟨_, rfl, fun h => by cases h⟩, rfl⟩
              by_cases d3 : o.val < 0
              · go_wp2_with fail
                go_meet
                exact ⟨⟨_, rfl, fun h => by cases h⟩, rfl⟩
              by_cases d4 : o.val ≥ 1099511627776
              · go_wp2_with fail
                go_meet
                exact ⟨⟨_, rfl, fun h => by cases h⟩, rfl⟩
              go_wp2_with fail
              go_meet
              exact ⟨⟨_, rfl, fun _ => ⟨HG.out, by omega, by omega, by omega, by omega⟩⟩, rfl⟩
            by_cases g2 : o.kind = 2
            · have HG := Lib.hid (show o.kind = 1 ∨ o.kind = 2 from .inr g2)
              have e1 := bne_t g1
              have e2 := bne_f g2
              clear g1 g2
              by_cases d1 : o.key < 0
              · go_wp2_with fail
                go_meet
                exact ⟨⟨_, rfl, fun h => by cases h⟩, rfl⟩
              by_cases d2 : o.key > 15
              · go_wp2_with fail
                go_meet
                exact ⟨⟨_, rfl, fun h => by cases h⟩, rfl⟩
              by_cases d3 : o.val < 0
              · go_wp2_with fail
                go_meet
                exact ⟨⟨_, rfl, fun h => by cases h⟩, rfl⟩
              by_cases d4 : o.val ≥ 1099511627776
              · go_wp2_with fail
                go_meet
                exact ⟨⟨_, rfl, fun h => by cases h⟩, rfl⟩
              go_wp2_with fail
              go_meet
              exact ⟨⟨_, rfl, fun _ => ⟨HG.out, by omega, by omega, by omega, by omega⟩⟩, rfl⟩
            have e1 := bne_t g1
            have e2 := bne_t g2
            clear g1 g2
            go_wp2_with fail
            go_meet
            exact ⟨⟨_, rfl, fun h => by cases h⟩, rfl⟩
          case rest =>
            obtain ⟨⟨b', rfl, hgood⟩, rfl⟩ := hcut
            cases b' with
            | true =>
              go_wp2_with fail
              go_ret
              exact .no rfl (HB1.out.trans ((HBk.out.alloc hwk _).mono HB1.out.size))
            | false =>
              have HGood := Lib.hid (hgood rfl)
              clear hgood
              go_upto_region 10 with fail
              go_cut [100] (fun r wx => (∃ b', r = .bool b') ∧ wx = wk.alloc (.cells #[vi o.kind, vi o.key, vi o.val] 48))
              case first =>
                by_cases g1 : o.kind = 2
                · have e1 := beq_t g1
                  have e1' : (o.kind == 1) = false := by simp [g1]
                  clear g1
                  by_cases g2 : o.val = 0
                  · have e2 := beq_t g2
                    clear g2
                    go_wp2_with fail
                    go_meet
                    exact ⟨⟨_, rfl⟩, rfl⟩
                  · have e2 := beq_f g2
                    clear g2
                    go_wp2_with fail
                    go_meet
                    exact ⟨⟨_, rfl⟩, rfl⟩
                · have e1 := beq_f g1
                  clear g1
                  by_cases g2 : o.kind = 1
                  · have e2 := beq_t g2
                    clear g2
                    by_cases g3 : o.val = 0
                    · have e3 := bne_f g3
                      clear g3
                      go_wp2_with fail
                      go_meet
                      exact ⟨⟨_, rfl⟩, rfl⟩
                    · have e3 := bne_t g3
                      clear g3
                      by_cases g4 : kind = 1
                      · have e4 := beq_t g4
                        clear g4
                        go_wp2_with fail
                        go_meet
                        exact ⟨⟨_, rfl⟩, rfl⟩
                      · have e4 := beq_f g4
                        clear g4
                        go_wp2_with fail
                        go_meet
                        exact ⟨⟨_, rfl⟩, rfl⟩
                  · have e2 := beq_f g2
                    clear g2
                    go_wp2_with fail
                    go_meet
                    exact ⟨⟨_, rfl⟩, rfl⟩
              case rest =>
                obtain ⟨⟨b', rfl⟩, rfl⟩ := hcut
                cases b' with
                | true =>
                  go_wp2_with fail
                  go_ret
                  exact .no rfl (HB1.out.trans ((HBk.out.alloc hwk _).mono HB1.out.size))
                | false =>
                  go_wp2_with fail
                  go_roundw
                  case rel =>
                    refine ⟨k + 1, by omega, by go_num, ?_, HBk.out.alloc hwk _⟩
                    intro j o' hj ho'
                    rcases Nat.lt_or_ge j k with h | h
                    · exact HN.out j o' h ho'
                    · obtain rfl : j = k := by omega
                      rw [HO.out] at ho'; cases ho'; exact HGood.out
                  case measure => simp [intOf]; omega
        · obtain rfl : k = l.length := by omega
          go_wp2_with fail
          go_ret
          exact .yes rfl ⟨by omega, by omega, by omega, by omega, by show l.length ≤ 12; omega, fun o ho => by
            obtain ⟨j, hj, rfl⟩ := List.mem_iff_getElem.1 ho
            exact HN.out j _ hj (List.getElem?_eq_getElem hj)⟩ (HB1.out.trans (HBk.out.mono HB1.out.size))
end Go.Proofs.Ytefpmcbpodlabaa

/- crucibleref05.last: a place ahead, or -1. -/
namespace Go.Proofs.Ytefpmcbpodlabaa
open Go.RowKit Go.Maps

/-- What a walk wants of an event in a readable slice. -/
theorem RdEvents.at {w : World} {v : Value} {l : List GEvent} (h : RdEvents w v l) : ∃ a len cap, v = .slice a len cap ∧ len = l.length ∧ l.length ≤ 9223372036854775807 ∧
    ∀ j x, l[j]? = some x → ∃ b off oa oc, a = some ⟨b, off, none⟩ ∧ RdOps w (.slice oa x.ops.length oc) x.ops ∧ w.cell? ⟨b, off + j * 3, none⟩ = some (vi x.kind) ∧ w.cell? ⟨b, off + j * 3 + 1, none⟩ = some (vi x.client) ∧ w.cell? ⟨b, off + j * 3 + 2, none⟩ = some (.slice oa x.ops.length oc) := by
  obtain ⟨a, len, cap, h1, h2, h3, h6⟩ := RdS.at3 h
  refine ⟨a, len, cap, h1, h2, h3, fun j x hj => ?_⟩
  obtain ⟨b, off, c0, c1, c2, ha, ⟨ov, he, hr⟩, k0, k1, k2⟩ := h6 j x hj
  obtain ⟨oa, ol, oc, rfl, rfl, _⟩ := hr.at
  simp only [List.cons.injEq, and_true] at he
  obtain ⟨rfl, rfl, rfl⟩ := he
  exact ⟨b, off, oa, oc, ha, hr, k0, k1, k2⟩

set_option maxRecDepth 100000 in
set_option maxHeartbeats 4000000 in
theorem last_call (v : Value) (es : List GEvent) (at' : Nat) (w : World) (hv : RdEvents w v es) (hat : at' < es.length) :
    Calls Try.prog 67 #[v, .int .i64 at'] w fun r w' => ∃ p : Int, r = .returned (.int .i64 p) ∧ -1 ≤ p ∧ p < at' ∧ Below w.heap.size w w' := by
  have HV := Lib.hid hv
  obtain ⟨a, len, cap, rfl, rfl, hm, -⟩ := hv.at
  clear hv
  go_enter Try.func67, Try.ntmps67
  go_wp2_with fail
  go_loopw [5] (fun i wr => ∃ p : Int, i = .int .i64 p ∧ -1 ≤ p ∧ p < at' ∧ Below w.heap.size w wr) (fun i _ => (intOf i + 1).toNat)
  case atStart => exact ⟨_, rfl, by omega, by omega, Below.refl _ _⟩
  case round =>
    obtain ⟨wk, rfl⟩ : ∃ wk : World, wk = wr := ⟨_, rfl⟩
    obtain ⟨p, rfl, hp1, hp2, hb⟩ := hrel
    have HB := Lib.hid hb
    clear hb
    by_cases hlt : 0 ≤ p
    · obtain ⟨k, rfl⟩ := Int.eq_ofNat_of_zero_le hlt
      have hk1 : k < es.length := by omega
      have hkI : (k : Int) < (es.length : Int) := by omega
      have haI : (at' : Int) < (es.length : Int) := by omega
      obtain ⟨e1, he1⟩ := some_at hk1
      obtain ⟨e2, he2⟩ := some_at hat
      obtain ⟨_, _, _, e5, -, -, hcl⟩ := HV.out.at
      cases e5
      obtain ⟨b, off, oa, oc, rfl, -, -, k1', -⟩ := hcl k e1 he1
      obtain ⟨_, _, ob, oc2, e6, -, -, m1', -⟩ := hcl at' e2 he2
      cases e6
      have k1 := cell_later HB.out k1'
      have m1 := cell_later HB.out m1'
      clear hcl he1 he2 k1' m1'
      cases hc : e1.client == e2.client with
      | true =>
        go_wp2
        go_quiet (fail)
        go_wp2
        go_ret
        exact ⟨_, rfl, by omega, by omega, below_drewN HB.out _⟩
      | false =>
        go_wp2
        go_quiet (fail)
        go_wp2
        go_roundw
        case rel => exact ⟨_, rfl, by omega, by omega, below_drewN HB.out _⟩
        case measure => simp [intOf] <;> omega
    · obtain rfl : p = -1 := by omega
      go_wp2_with fail
      go_ret
      exact ⟨_, rfl, by omega, by omega, HB.out⟩
end Go.Proofs.Ytefpmcbpodlabaa

/- crucibleref05.twice: when it says no, what the event writes was not written ahead. -/
namespace Go.Proofs.Ytefpmcbpodlabaa
open Go.RowKit Go.Maps

/-- Of the first k events none has written what the i-th operation at a place writes. -/
def FreshK (es : List GEvent) (at' i k : Nat) (o : GOp) : Prop := ∀ (k' : Nat) (e : GEvent) (j : Nat) (p : GOp), k' < k → es[k']? = some e → e.kind = 1 → e.ops[j]? = some p → (k' < at' ∨ j < i) → p.kind = 2 → p.val ≠ o.val
def FreshJ (e : GEvent) (at' i k j : Nat) (o : GOp) : Prop := ∀ (j' : Nat) (p : GOp), j' < j → e.ops[j']? = some p → (k < at' ∨ j' < i) → p.kind = 2 → p.val ≠ o.val
/-- What the first n operations at a place write was not written ahead. -/
def FreshN (es : List GEvent) (l : List GOp) (at' n : Nat) : Prop := ∀ (i : Nat) (o : GOp), i < n → l[i]? = some o → o.kind = 2 → FreshK es at' i (at' + 1) o

theorem FreshK.next {es : List GEvent} {at' i k : Nat} {o : GOp} {e : GEvent} (h : FreshK es at' i k o) (he : es[k]? = some e) (hk : e.kind = 1 → FreshJ e at' i k e.ops.length o) : FreshK es at' i (k + 1) o := by
  intro k' e' j p hlt he' h1 hp hc h2
  rcases Nat.lt_or_ge k' k with h' | h'
  · exact h k' e' j p h' he' h1 hp hc h2
  · obtain rfl : k' = k := by omega
    rw [he] at he'; cases he'
    exact hk h1 j p (List.getElem?_eq_some_iff.1 hp).1 hp hc h2
theorem FreshJ.next {e : GEvent} {at' i k j : Nat} {o p : GOp} (h : FreshJ e at' i k j o) (hp : e.ops[j]? = some p) (hk : (k < at' ∨ j < i) → p.kind = 2 → p.val ≠ o.val) : FreshJ e at' i k (j + 1) o := by
  intro j' p' hlt hp' hc h2
  rcases Nat.lt_or_ge j' j with h' | h'
  · exact h j' p' h' hp' hc h2
  · obtain rfl : j' = j := by omega
    rw [hp] at hp'; cases hp'
    exact hk hc h2
theorem FreshN.next {es : List GEvent} {l : List GOp} {at' n : Nat} {o : GOp} (h : FreshN es l at' n) (ho : l[n]? = some o) (hk : o.kind = 2 → FreshK es at' n (at' + 1) o) : FreshN es l at' (n + 1) := by
  intro i o' hlt ho' h2
  rcases Nat.lt_or_ge i n with h' | h'
  · exact h i o' h' ho' h2
  · obtain rfl : i = n := by omega
    rw [ho] at ho'; cases ho'
    exact hk h2

/-- What crucibleref05.twice answers. -/
def TwiceQ (es : List GEvent) (l : List GOp) (at' : Nat) (w : World) (r : Ending) (w' : World) : Prop := ∃ b, r = .returned (.bool b) ∧ (b = false → FreshN es l at' l.length) ∧ Below w.heap.size w w'
theorem TwiceQ.no {es : List GEvent} {l : List GOp} {at' : Nat} {w w' : World} {r : Ending} (h : r = .returned (.bool false)) (hg : FreshN es l at' l.length) (hb : Below w.heap.size w w') : TwiceQ es l at' w r w' := ⟨false, h, fun _ => hg, hb⟩
theorem TwiceQ.yes {es : List GEvent} {l : List GOp} {at' : Nat} {w w' : World} {r : Ending} (h : r = .returned (.bool true)) (hb : Below w.heap.size w w') : TwiceQ es l at' w r w' := ⟨true, h, (fun h => by cases h), hb⟩

set_option maxRecDepth 100000 in
set_option maxHeartbeats 8000000 in
theorem twice_call (v : Value) (es : List GEvent) (at' : Nat) (e : GEvent) (w : World) (hv : RdEvents w v es) (he : es[at']? = some e) :
    Calls Try.prog 68 #[v, .int .i64 at'] w (TwiceQ es e.ops at' w) := by
  have HV := Lib.hid hv
  have hat := (List.getElem?_eq_some_iff.1 he).1
  have haI : (at' : Int) < (es.length : Int) := by omega
  obtain ⟨a, len, cap, rfl, rfl, hm, hcl⟩ := hv.at
  obtain ⟨b, off, oa, oc, rfl, hr, -, -, k2⟩ := hcl at' e he
  have HR := Lib.hid hr
  have HE := Lib.hid he
  have hmo : e.ops.length ≤ 9223372036854775807 := by obtain ⟨_, _, _, _, _, h, _⟩ := hr.at; exact h
  clear hv hcl hr he
  go_enter Try.func68, Try.ntmps68
  go_wp2_with fail
  clear k2
  go_loopw [5, 6, 7, 8, 9, 16] (fun _ _ _ _ _ n wr => ∃ i : Nat, i ≤ e.ops.length ∧ n = .int .i64 i ∧ FreshN es e.ops at' i ∧ Below w.heap.size w wr) (fun _ _ _ _ _ n _ => e.ops.length - (intOf n).toNat)
  case atStart => exact ⟨0, Nat.zero_le _, rfl, fun i o h => absurd h (Nat.not_lt_zero _), Below.refl _ _⟩
  case round =>
    obtain ⟨wi, rfl⟩ : ∃ wi : World, wi = wr := ⟨_, rfl⟩
    obtain ⟨i, hi, rfl, hf, hb⟩ := hrel
    have HF := Lib.hid hf
    have HB := Lib.hid hb
    have hwi := hb.size
    clear hf hb
    by_cases hlt : i < e.ops.length
    · obtain ⟨o, ho⟩ := some_at hlt
      obtain ⟨_, _, _, e5, -, -, hcl⟩ := HR.out.at
      cases e5
      obtain ⟨b2, off2, rfl, k0', k1', k2'⟩ := hcl i o ho
      have k0 := cell_later HB.out k0'
      have k1 := cell_later HB.out k1'
      have k2 := cell_later HB.out k2'
      have hiI : (i : Int) < (e.ops.length : Int) := by omega
      have HO := Lib.hid ho
      clear hcl ho k0' k1' k2'
      by_cases h2 : o.kind = 2
      · have c2 := bne_f h2
        have H2 := Lib.hid h2
        clear h2
        go_wp2_with fail
        have q2 : (wi.alloc (.cells #[vi o.kind, vi o.key, vi o.val] 48)).cell? ⟨wi.heap.size, 2, none⟩ = some (vi o.val) := by rw [cell_of (alloc_at _ _)]; rfl
        have hsz : (wi.alloc (.cells #[vi o.kind, vi o.key, vi o.val] 48)).heap.size = wi.heap.size + 1 := by simp
        have HB1 := Lib.hid (HB.out.alloc hwi (.cells #[vi o.kind, vi o.key, vi o.val] 48))
        have Q2 := Lib.hid q2
        clear q2 k0 k1 k2
        generalize wi.alloc (.cells #[vi o.kind, vi o.key, vi o.val] 48) = w1 at *
        go_loopw [7, 8, 9] (fun n _ _ wr => ∃ k : Nat, k ≤ at' + 1 ∧ n = .int .i64 k ∧ FreshK es at' i k o ∧ Below w1.heap.size w1 wr) (fun n _ _ _ => at' + 1 - (intOf n).toNat)
        case atStart => exact ⟨0, Nat.zero_le _, rfl, fun k e j p h => absurd h (Nat.not_lt_zero _), Below.refl _ _⟩
        case round =>
          obtain ⟨wk, rfl⟩ : ∃ wk : World, wk = wr := ⟨_, rfl⟩
          obtain ⟨k, hk, rfl, hfk, hbk⟩ := hrel
          have HFk := Lib.hid hfk
          have HBk := Lib.hid hbk
          have hwk := hbk.size
          have HBW := Lib.hid (HB1.out.trans (hbk.mono HB1.out.size))
          clear hfk hbk
          by_cases hlk : k ≤ at'
          · obtain ⟨ek, hek⟩ := some_at (l := es) (k := k) (by omega)
            obtain ⟨_, _, _, e5, -, -, hcl⟩ := HV.out.at
            simp only [Value.slice.injEq] at e5
            obtain ⟨rfl, -, rfl⟩ := e5
            obtain ⟨b3, off3, oa3, oc3, e6, hr3, m0', m1', m2'⟩ := hcl k ek hek
            simp only [Option.some.injEq, Addr.mk.injEq, and_true] at e6
            obtain ⟨rfl, rfl⟩ := e6
            have k0 := cell_later HBW.out m0'
            have k2 := cell_later HBW.out m2'
            have hkI : (k : Int) ≤ (at' : Int) := by omega
            have hkJ : (k : Int) < (es.length : Int) := by omega
            have HEk := Lib.hid hek
            have HR3 := Lib.hid hr3
            have hmo3 : ek.ops.length ≤ 9223372036854775807 := by obtain ⟨_, _, _, _, _, h, _⟩ := hr3.at; exact h
            clear hcl hek m0' m1' m2' hr3
            by_cases h1 : ek.kind = 1
            · have c1 := bne_f h1
              have H1 := Lib.hid h1
              clear h1
              go_wp2_with fail
              clear k0 k2
              go_loopw [8, 9, 41] (fun _ _ n wr => ∃ j : Nat, j ≤ ek.ops.length ∧ n = .int .i64 j ∧ FreshJ ek at' i k j o ∧ Below w1.heap.size w1 wr) (fun _ _ n _ => ek.ops.length - (intOf n).toNat)
              case atStart => exact ⟨0, Nat.zero_le _, rfl, fun j p h => absurd h (Nat.not_lt_zero _), HBk.out⟩
              case round =>
                obtain ⟨wj, rfl⟩ : ∃ wj : World, wj = wr := ⟨_, rfl⟩
                obtain ⟨j, hj, rfl, hfj, hbj⟩ := hrel
                have HFj := Lib.hid hfj
                have HBj := Lib.hid hbj
                have hwj := hbj.size
                have HBV := Lib.hid (HB1.out.trans (hbj.mono HB1.out.size))
                have q2 := cell_later hbj Q2.out
                have hwq : wi.heap.size < wj.heap.size := by omega
                clear hfj hbj
                by_cases hlj : j < ek.ops.length
                · obtain ⟨p, hp⟩ := some_at hlj
                  obtain ⟨_, _, _, e5, -, -, hcl⟩ := HR3.out.at
                  cases e5
                  obtain ⟨b4, off4, rfl, k0', k1', k2'⟩ := hcl j p hp
                  have k0 := cell_later HBV.out k0'
                  have k1 := cell_later HBV.out k1'
                  have k2 := cell_later HBV.out k2'
                  have hjI : (j : Int) < (ek.ops.length : Int) := by omega
                  have HP := Lib.hid hp
                  clear hcl hp k0' k1' k2'
                  by_cases hka : (k : Int) < (at' : Int)
                  · by_cases d1 : p.kind = 2
                    · have e1 := beq_t d1
                      have D1 := Lib.hid d1
                      clear d1
                      by_cases d2 : p.val = o.val
                      · have e2 := beq_t d2
                        clear d2
                        go_wp2_with fail
                        go_ret
                        exact .yes rfl (HB1.out.trans ((HBj.out.alloc hwj _).mono HB1.out.size))
                      · have e2 := beq_f d2
                        have D2 := Lib.hid d2
                        clear d2
                        go_wp2_with fail
                        go_roundw
                        case rel => exact ⟨j + 1, by omega, by go_num, HFj.out.next HP.out (fun _ _ => D2.out), HBj.out.alloc hwj _⟩
                        case measure => simp [intOf]; omega
                    · have e1 := beq_f d1
                      have D1 := Lib.hid d1
                      clear d1
                      go_wp2_with fail
                      go_roundw
                      case rel => exact ⟨j + 1, by omega, by go_num, HFj.out.next HP.out (fun _ h => absurd h D1.out), HBj.out.alloc hwj _⟩
                      case measure => simp [intOf]; omega
                  · by_cases hji : (j : Int) < (i : Int)
                    · by_cases d1 : p.kind = 2
                      · have e1 := beq_t d1
                        have D1 := Lib.hid d1
                        clear d1
                        by_cases d2 : p.val = o.val
                        · have e2 := beq_t d2
                          clear d2
                          go_wp2_with fail
                          go_ret
                          exact .yes rfl (HB1.out.trans ((HBj.out.alloc hwj _).mono HB1.out.size))
                        · have e2 := beq_f d2
                          have D2 := Lib.hid d2
                          clear d2
                          go_wp2_with fail
                          go_roundw
                          case rel => exact ⟨j + 1, by omega, by go_num, HFj.out.next HP.out (fun _ _ => D2.out), HBj.out.alloc hwj _⟩
                          case measure => simp [intOf]; omega
                      · have e1 := beq_f d1
                        have D1 := Lib.hid d1
                        clear d1
                        go_wp2_with fail
                        go_roundw
                        case rel => exact ⟨j + 1, by omega, by go_num, HFj.out.next HP.out (fun _ h => absurd h D1.out), HBj.out.alloc hwj _⟩
                        case measure => simp [intOf]; omega
                    · go_wp2_with fail
                      go_roundw
                      case rel => exact ⟨j + 1, by omega, by go_num, HFj.out.next HP.out (fun h => by omega), HBj.out.alloc hwj _⟩
                      case measure => simp [intOf]; omega
                · obtain rfl : j = ek.ops.length := by omega
                  go_wp2_with fail
                  go_roundw
                  case rel => exact ⟨k + 1, by omega, by go_num, HFk.out.next HEk.out (fun _ => HFj.out), HBj.out⟩
                  case measure => simp [intOf]; omega
            · have c1 := bne_t h1
              have H1 := Lib.hid h1
              clear h1
              go_wp2_with fail
              go_roundw
              case rel => exact ⟨k + 1, by omega, by go_num, HFk.out.next HEk.out (fun h => absurd h H1.out), HBk.out⟩
              case measure => simp [intOf]; omega
          · obtain rfl : k = at' + 1 := by omega
            go_wp2_with fail
            go_roundw
            case rel => exact ⟨i + 1, by omega, by go_num, HF.out.next HO.out (fun _ => HFk.out), HBW.out⟩
            case measure => simp [intOf]; omega
      · have c2 := bne_t h2
        have H2 := Lib.hid h2
        clear h2
        go_wp2_with fail
        go_roundw
        case rel => exact ⟨i + 1, by omega, by go_num, HF.out.next HO.out (fun h => absurd h H2.out), HB.out.alloc hwi _⟩
        case measure => simp [intOf]; omega
    · obtain rfl : i = e.ops.length := by omega
      go_wp2_with fail
      go_ret
      exact .no rfl HF.out HB.out
end Go.Proofs.Ytefpmcbpodlabaa

/- crucibleref05.answer: when it says 0, what was told has the shape of what was asked. -/
namespace Go.Proofs.Ytefpmcbpodlabaa
open Go.RowKit Go.Maps

/-- An operation told is of the same kind and key as the one asked, and a write writes the same. -/
def SameShape (o p : GOp) : Prop := o.kind = p.kind ∧ o.key = p.key ∧ (o.kind = 2 → o.val = p.val)
def ShapeN (l m : List GOp) (n : Nat) : Prop := ∀ (i : Nat) (o p : GOp), i < n → m[i]? = some o → l[i]? = some p → SameShape o p
theorem ShapeN.next {l m : List GOp} {n : Nat} {o p : GOp} (h : ShapeN l m n) (ho : m[n]? = some o) (hp : l[n]? = some p) (hs : SameShape o p) : ShapeN l m (n + 1) := by
  intro i o' p' hlt ho' hp'
  rcases Nat.lt_or_ge i n with h' | h'
  · exact h i o' p' h' ho' hp'
  · obtain rfl : i = n := by omega
    rw [ho] at ho'; cases ho'
    rw [hp] at hp'; cases hp'
    exact hs

/-- What crucibleref05.answer answers. -/
def AnswerQ (l m : List GOp) (w : World) (r : Ending) (w' : World) : Prop := ∃ n : Int, r = .returned (.int .i64 n) ∧ (n = 0 → l.length = m.length ∧ ShapeN l m m.length) ∧ Below w.heap.size w w'
theorem AnswerQ.bad {l m : List GOp} {w w' : World} {r : Ending} {n : Int} (h : r = .returned (.int .i64 n)) (hn : n ≠ 0) (hb : Below w.heap.size w w') : AnswerQ l m w r w' := ⟨n, h, fun h => absurd h hn, hb⟩
theorem AnswerQ.good {l m : List GOp} {w w' : World} {r : Ending} (h : r = .returned (.int .i64 0)) (hl : l.length = m.length) (hs : ShapeN l m m.length) (hb : Below w.heap.size w w') : AnswerQ l m w r w' := ⟨0, h, fun _ => ⟨hl, hs⟩, hb⟩

set_option maxRecDepth 100000 in
set_option maxHeartbeats 8000000 in
theorem answer_call (v u : Value) (l m : List GOp) (w : World) (hv : RdOps w v l) (hu : RdOps w u m) :
    Calls Try.prog 69 #[v, u] w (AnswerQ l m w) := by
  have HV := Lib.hid hv
  have HU := Lib.hid hu
  obtain ⟨a, len, cap, rfl, rfl, hm1, -⟩ := hv.at
  obtain ⟨a2, len2, cap2, rfl, rfl, hm2, -⟩ := hu.at
  clear hv hu
  go_enter Try.func69, Try.ntmps69
  by_cases hl : (l.length : Int) = (m.length : Int)
  · have HL := Lib.hid (show l.length = m.length by omega)
    have hlb : ((l.length : Int) != (m.length : Int)) = false := bne_f hl
    clear hl
    go_wp2_with fail
    go_loopw [5, 6, 14] (fun _ _ n wr => ∃ i : Nat, i ≤ m.length ∧ n = .int .i64 i ∧ ShapeN l m i ∧ Below w.heap.size w wr) (fun _ _ n _ => m.length - (intOf n).toNat)
    case atStart => exact ⟨0, Nat.zero_le _, rfl, fun i o p h => absurd h (Nat.not_lt_zero _), Below.refl _ _⟩
    case round =>
      obtain ⟨wi, rfl⟩ : ∃ wi : World, wi = wr := ⟨_, rfl⟩
      obtain ⟨i, hi, rfl, hf, hb⟩ := hrel
      have HF := Lib.hid hf
      have HB := Lib.hid hb
      have hwi := hb.size
      clear hf hb
      by_cases hlt : i < m.length
      · have hiM : (i : Int) < (m.length : Int) := by omega
        have hiL : (i : Int) < (l.length : Int) := by have := HL.out; omega
        obtain ⟨o, ho⟩ := some_at hlt
        obtain ⟨p, hp⟩ := some_at (l := l) (k := i) (by omega)
        obtain ⟨_, _, _, e5, -, -, hcl⟩ := HU.out.at
        cases e5
        obtain ⟨b, off, rfl, k0', k1', k2'⟩ := hcl i o ho
        have k0 := cell_later HB.out k0'
        have k1 := cell_later HB.out k1'
        have k2 := cell_later HB.out k2'
        obtain ⟨_, _, _, e5, -, -, hcl2⟩ := HV.out.at
        cases e5
        obtain ⟨b2, off2, rfl, m0', m1', m2'⟩ := hcl2 i p hp
        have m0 := cell_later HB.out m0'
        have m1 := cell_later HB.out m1'
        have m2 := cell_later HB.out m2'
        have HO := Lib.hid ho
        have HP := Lib.hid hp
        have HC := Lib.hid hcl
        have hi0 : (0 : Int) ≤ (i : Int) := by omega
        have HK1 := Lib.hid k1'
        have HK2 := Lib.hid k2'
        clear hcl hcl2 ho hp k0' k1' k2' m0' m1' m2'
        by_cases d1 : o.kind = p.kind
        · have e1 := bne_f d1
          have D1 := Lib.hid d1
          clear d1
          by_cases d2 : o.key = p.key
          · have e2 := bne_f d2
            have D2 := Lib.hid d2
            clear d2
            by_cases d3 : o.kind = 2
            · have e3 := beq_t d3
              clear d3
              by_cases d4 : o.val = p.val
              · have e4 := bne_f d4
                have D4 := Lib.hid d4
                clear d4
                go_wp2
                go_quiet (fail)
                go_wp2
                go_roundw
                case rel => exact ⟨i + 1, by omega, by go_num, HF.out.next HO.out HP.out ⟨D1.out, D2.out, fun _ => D4.out⟩, below_drewN HB.out _⟩
                case measure => simp [intOf]; omega
              · have e4 := bne_t d4
                clear d4
                go_wp2
                go_quiet (fail)
                go_wp2
                go_ret
                exact .bad rfl (by omega) (below_drewN HB.out _)
            · have e3 := beq_f d3
              have D3 := Lib.hid d3
              clear d3
              go_wp2
              go_quiet (fail)
              go_wp2
              have HBq := Lib.hid (below_drewN HB.out nq)
              clear k0 k1 k2 m0 m1 m2
              generalize wi.drewN nq = wq at *
              go_loopw [6] (fun n wr => ∃ z : Int, n = .int .i64 z ∧ -1 ≤ z ∧ z < i ∧ Below w.heap.size w wr) (fun n _ => (intOf n + 1).toNat)
              case atStart => exact ⟨_, rfl, by omega, by omega, HBq.out⟩
              case round =>
                obtain ⟨wk, rfl⟩ : ∃ wk : World, wk = wr := ⟨_, rfl⟩
                obtain ⟨z, rfl, hz1, hz2, hbk⟩ := hrel
                have HBk := Lib.hid hbk
                clear hbk
                by_cases hlz : 0 ≤ z
                · obtain ⟨k, rfl⟩ := Int.eq_ofNat_of_zero_le hlz
                  have hkM : (k : Int) < (m.length : Int) := by omega
                  obtain ⟨q, hq⟩ := some_at (l := m) (k := k) (by omega)
                  obtain ⟨_, _, e6, x0', x1', x2'⟩ := HC.out k q hq
                  simp only [Option.some.injEq, Addr.mk.injEq, and_true] at e6
                  obtain ⟨rfl, rfl⟩ := e6
                  have x0 := cell_later HBk.out x0'
                  have x1 := cell_later HBk.out x1'
                  have x2 := cell_later HBk.out x2'
                  have y1 := cell_later HBk.out HK1.out
                  have y2 := cell_later HBk.out HK2.out
                  clear hq x0' x1' x2'
                  by_cases g1 : q.kind = 2
                  · have f1 := beq_t g1
                    clear g1
                    by_cases g2 : q.key = o.key
                    · have f2 := beq_t g2
                      clear g2
                      by_cases g3 : q.val = o.val
                      · have f3 := bne_f g3
                        clear g3
                        go_wp2
                        go_quiet (fail)
                        go_wp2
                        go_quiet (fail)
                        go_wp2
                        go_roundw
                        case rel => exact ⟨i + 1, by omega, by go_num, HF.out.next HO.out HP.out ⟨D1.out, D2.out, fun h => absurd h D3.out⟩, below_drewN HBk.out _⟩
                        case measure => simp [intOf]; omega
                      · have f3 := bne_t g3
                        clear g3
                        go_wp2
                        go_quiet (fail)
                        go_wp2
                        go_quiet (fail)
                        go_wp2
                        go_ret
                        exact .bad rfl (by omega) (below_drewN (below_drewN HBk.out _) _)
                    · have f2 := beq_f g2
                      clear g2
                      go_wp2
                      go_quiet (fail)
                      go_wp2
                      go_roundw
                      case rel => exact ⟨_, rfl, by omega, by omega, below_drewN HBk.out _⟩
                      case measure => simp [intOf] <;> omega
                  · have f1 := beq_f g1
                    clear g1
                    go_wp2
                    go_quiet (fail)
                    go_wp2
                    go_roundw
                    case rel => exact ⟨_, rfl, by omega, by omega, below_drewN HBk.out _⟩
                    case measure => simp [intOf] <;> omega
                · obtain rfl : z = -1 := by omega
                  go_wp2_with fail
                  go_roundw
                  case rel => exact ⟨i + 1, by omega, by go_num, HF.out.next HO.out HP.out ⟨D1.out, D2.out, fun h => absurd h D3.out⟩, HBk.out⟩
                  case measure => simp [intOf]; omega
          · have e2 := bne_t d2
            clear d2
            go_wp2
            go_quiet (fail)
            go_wp2
            go_ret
            exact .bad rfl (by omega) (below_drewN HB.out _)
        · have e1 := bne_t d1
          clear d1
          go_wp2
          go_quiet (fail)
          go_wp2
          go_ret
          exact .bad rfl (by omega) (below_drewN HB.out _)
      · obtain rfl : i = m.length := by omega
        go_wp2_with fail
        go_ret
        exact .good rfl HL.out HF.out HB.out
  · have hlb : ((l.length : Int) != (m.length : Int)) = true := bne_t hl
    clear hl
    go_wp2_with fail
    go_ret
    exact .bad rfl (by omega) (Below.refl _ _)
end Go.Proofs.Ytefpmcbpodlabaa
