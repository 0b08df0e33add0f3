/- Texts of one proof, one behind the other: Bound, RefK, RefS, RefC, SureEq, CkP, CkL0, L11b. -/
import Derived.RangeFuncNested
import Derived.RangeFuncBound
import Derived.RangeFuncCalls
import Derived.RangeFuncLeaves
import Derived.RangeFuncBox
import Derived.Shelf.Abstract
import Derived.Shelf.RegionOpen
import Derived.OwnWalkIn
import Derived.TacticsInMore
import Derived.LoopNIn
import Derived.LoopIn
import Derived.Test.YtnacoplokjdglaaGreatKa1
import Derived.Test.YtnacoplokjdglaaGreatKa2
import Derived.Test.YtnacoplokjdglaaGreatKa3
import Derived.Test.YtnacoplokjdglaaGreatKa4
import Derived.Test.YtnacoplokjdglaaGreatKa5
import Derived.Test.YtnacoplokjdglaaGreatKa6
import Derived.Test.YtnacoplokjdglaaGreatKa7
import Derived.Test.YtnacoplokjdglaaGreatKa8
import Derived.Test.YtnacoplokjdglaaGreatKa9
import Derived.Test.YtnacoplokjdglaaGreatKa10
import Derived.Test.YtnacoplokjdglaaGreatKa11
import Derived.Test.YtnacoplokjdglaaGreatKa12
import Derived.Test.YtnacoplokjdglaaGreatKa13
import Derived.Test.YtnacoplokjdglaaGreatKa14
import Derived.Test.YtnacoplokjdglaaGreatKa15
import Derived.Test.YtnacoplokjdglaaGreatKa16
import Derived.Test.YtnacoplokjdglaaGreatKa17
import Derived.Test.YtnacoplokjdglaaGreatKa18
import Derived.Test.YtnacoplokjdglaaGreatKa19
import Derived.Test.YtnacoplokjdglaaGreatKa20
import Derived.Test.YtnacoplokjdglaaGreatKa21
import Derived.Test.YtnacoplokjdglaaGreatKa22
import Derived.Test.YtnacoplokjdglaaGreatKa23
import Derived.Test.YtnacoplokjdglaaGreatKa24
set_option linter.all false
namespace Go.Proofs.YtnacoplokjdglaaGreat
open Go.RowKit Go.Maps

def boundM (n : Nat) : Int := 2 ^ (min n 40 + 1) - 1

theorem choicesM_le (ts : List GTxn) (h : ts.length ≤ 4096) : (choicesM ts).length ≤ 4294967296 := by
  unfold choicesM
  rw [List.length_append]
  have h1 := cmS_le (sureM ts) ts ts.length
  have h2 := befK_le ts h 16
  omega

theorem pow_le40 {n : Nat} (h : n ≤ 40) : (1 : Int) ≤ 2 ^ n ∧ (2 : Int) ^ n ≤ 1099511627776 := by
  have h1 : 2 ^ n ≤ 2 ^ 40 := Nat.pow_le_pow_right (by decide) h
  have h2 : 1 ≤ 2 ^ n := Nat.one_le_two_pow
  have h3 : ((2 ^ n : Nat) : Int) = (2 : Int) ^ n := by simp
  rw [← h3]
  have : (2 : Nat) ^ 40 = 1099511627776 := by decide
  omega
theorem bound_wrap {n : Nat} (h : n ≤ 40) : wrap64 (wrap64 (2 * 2 ^ n) - 1) = (2 : Int) ^ (n + 1) - 1 := by
  obtain ⟨h1, h2⟩ := pow_le40 h
  rw [Int.pow_succ]
  generalize (2 : Int) ^ n = x at *
  unfold wrap64; omega

theorem bound_one (n : Nat) : wrap64 (wrap64 (2 * 2 ^ (min (n : Int) 40).toNat) - 1) = (2 : Int) ^ (min n 40 + 1) - 1 := by
  rw [show (min (n : Int) 40).toNat = min n 40 by omega]
  exact bound_wrap (by omega)

set_option maxRecDepth 100000 in
set_option maxHeartbeats 1000000 in
theorem bound_call (v : Value) (ts : List GTxn) (w : World) (hv : RdTxns w v ts) (hok : OkTxns ts) (htl : ts.length ≤ 4096) :
    Calls Tryz.prog 22 #[v] w fun e w' => e = .returned (vi (boundM (choicesM ts).length)) ∧ Below w.heap.size w w' := by
  have HV := Lib.hid hv
  have HOK := Lib.hid hok
  clear hv hok
  have hcl := choicesM_le ts htl
  go_enter Tryz.func22, Tryz.ntmps22
  go_upto_region 1 with fail
  go_wp2_with (go_at_call 48; refine (choices_call _ ts _ HV.out HOK.out htl).mono ?_; rintro e w1 ⟨v1, rfl, ho, hb⟩; have hr := ho.rd; obtain ⟨a, len, cap, rfl, rfl, hm, -⟩ := hr.at)
  all_goals
    go_ret
    refine ⟨?_, hb⟩
    unfold boundM
    first
      | (rw [Nat.min_eq_right (by omega)]; exact congrArg (fun x => Ending.returned (vi x)) (show wrap64 (wrap64 2199023255552 - 1) = (2 : Int) ^ (40 + 1) - 1 by unfold wrap64; rfl))
      | (rw [Nat.min_eq_left (by omega)]; exact congrArg (fun x => Ending.returned (vi x)) (bound_wrap (by omega)))
      | exact congrArg (fun x => Ending.returned (vi x)) (bound_one _)
end Go.Proofs.YtnacoplokjdglaaGreat

namespace Go.Proofs.YtnacoplokjdglaaGreat
open Go.RowKit Go.Maps
/-- crucibleref09.writes. -/
def refWk (l : List GOp) (key : Int) : Bool := (writesM l).any (fun o => o.key == key)

theorem mem_last {l : List GOp} {k : Nat} {o : GOp} (ho : o ∈ l) (hh : hitB k o = true) : ∃ p, lastW l k = some p := by
  unfold lastW
  obtain ⟨i, hi, rfl⟩ := List.mem_iff_getElem.1 ho
  have hm : (i, l[i]) ∈ revL l := by
    unfold revL
    rw [List.mem_reverse, List.mem_map]
    exact ⟨(l[i], i), List.mem_zipIdx_iff_getElem?.2 (List.getElem?_eq_getElem hi), rfl⟩
  cases hf : (revL l).find? (fun p => hitB k p.2) with
  | some p => exact ⟨p.2, by simp⟩
  | none =>
    rw [List.find?_eq_none] at hf
    exact absurd hh (hf _ hm)

/-- Both ways to ask whether a key is written. -/
theorem refWk_eq (l : List GOp) (k : Nat) (hk : k < 16) : refWk l (k : Int) = l.any (hitK (k : Int)) := by
  rw [Bool.eq_iff_iff]
  unfold refWk
  rw [List.any_eq_true, List.any_eq_true]
  constructor
  · rintro ⟨o, ho, hk'⟩
    unfold writesM writesTo at ho
    rw [List.mem_filterMap] at ho
    obtain ⟨m, hm, hl⟩ := ho
    obtain ⟨h1, h2⟩ := lastW_mem hl
    refine ⟨o, h1, ?_⟩
    simp [hitB] at h2
    simp at hk'
    simp [hitK, h2.1, hk']
  · rintro ⟨o, ho, hh⟩
    have hb : hitB k o = true := by simpa [hitB, hitK] using hh
    obtain ⟨p, hp⟩ := mem_last ho hb
    refine ⟨p, ?_, ?_⟩
    · unfold writesM writesTo
      rw [List.mem_filterMap]
      exact ⟨k, by simpa using hk, hp⟩
    · have := (lastW_mem hp).2
      simp [hitB] at this
      simp [this.2]

set_option maxRecDepth 100000 in
set_option maxHeartbeats 1000000 in
theorem refWk_call (c s : Int) (v : Value) (l : List GOp) (key : Int) (w : World) (hv : RdOps w v l) (hl : l.length ≤ 1048576) :
    Calls Tryz.prog 37 #[.agg #[vi c, vi s, v], .int .i64 key] w fun e w' => e = .returned (.bool (refWk l key)) ∧ Below w.heap.size w w' := by
  have hB : Below w.heap.size w (w.alloc (.cells #[vi c, vi s, v] 49)) := (Below.refl _ _).alloc (Nat.le_refl _) _
  have hV := hv.later hB
  have HV := Lib.hid hV
  have HB := Lib.hid hB
  clear hv hV hB
  go_enter Tryz.func37, Tryz.ntmps37
  go_wp2_with (go_at_call 35; refine (refWrites_call c s _ l _ HV.out hl).mono ?_; rintro e w2 ⟨v2, rfl, ho2, hb2⟩; have hr2 := ho2.rd; obtain ⟨a2, len2, cap2, rfl, rfl, hm2, -⟩ := hr2.at)
  have HR2 := Lib.hid hr2
  have HB2 := Lib.hid (HB.out.trans (hb2.mono HB.out.size))
  have hs2 := HB2.out.size
  have HE := Lib.hid (show refWk l key = (writesM l).any (fun o => o.key == key) from rfl)
  clear hr2 ho2 hb2
  generalize writesM l = ws at *
  go_loopw [6, 10] (fun _ i wr => ∃ k : Nat, k ≤ ws.length ∧ i = .int .i64 k ∧ (∀ j o, j < k → ws[j]? = some o → (o.key == key) = false) ∧ Below w2.heap.size w2 wr) (fun _ i _ => ws.length - (intOf i).toNat)
  case atStart => exact ⟨0, Nat.zero_le _, rfl, fun j u hj => absurd hj (Nat.not_lt_zero _), Below.refl _ _⟩
  case round =>
    obtain ⟨wk, rfl⟩ : ∃ wk : World, wk = wr := ⟨_, rfl⟩
    obtain ⟨k, hk, rfl, hno, hb⟩ := hrel
    have HN := Lib.hid hno
    have HBk := Lib.hid hb
    have hwk := hb.size
    clear hno hb
    by_cases hlt : k < ws.length
    · obtain ⟨o, ho⟩ := some_at hlt
      obtain ⟨_, _, _, e5, -, -, hcl⟩ := HR2.out.at
      cases e5
      obtain ⟨b, off, rfl, k0', k1', k2'⟩ := hcl k o ho
      have k0 := cell_later HBk.out k0'
      have k1 := cell_later HBk.out k1'
      have k2 := cell_later HBk.out k2'
      have HO := Lib.hid ho
      clear hcl ho k0' k1' k2'
      cases hh : o.key == key with
      | true =>
        go_wp2_with fail
        go_ret
        have e : refWk l key = true := by rw [HE.out, List.any_eq_true]; exact ⟨o, List.mem_of_getElem? HO.out, hh⟩
        exact ⟨by rw [e]; rfl, HB2.out.trans ((HBk.out.alloc hwk _).mono hs2)⟩
      | false =>
        go_wp2_with fail
        go_roundw
        case rel =>
          refine ⟨k + 1, by omega, by go_num, ?_, HBk.out.alloc hwk _⟩
          intro j o' hj ho'
          rcases Nat.lt_or_ge j k with h | h
          · exact HN.out j o' h ho'
          · obtain rfl : j = k := by omega
            rw [HO.out] at ho'; cases ho'; exact hh
        case measure => simp [intOf]; omega
    · obtain rfl : k = ws.length := by omega
      go_wp2_with fail
      go_ret
      have e : refWk l key = false := by
        rw [HE.out, List.any_eq_false]
        intro x hx
        obtain ⟨j, hj, rfl⟩ := List.mem_iff_getElem.1 hx
        have := HN.out j _ hj (List.getElem?_eq_getElem hj)
        simpa using this
      exact ⟨by rw [e]; rfl, HB2.out.trans (HBk.out.mono hs2)⟩
end Go.Proofs.YtnacoplokjdglaaGreat

namespace Go.Proofs.YtnacoplokjdglaaGreat
open Go.RowKit Go.Maps

theorem eltBool : Elt Tryz.prog 34 4 1 1 (.bool false) := by
  obtain ⟨i0, hi, hz0, hz1, hz2⟩ := info_parts Tryz.infoBool
  exact ⟨Tryz.underlying34, by decide, rfl, i0, hi, hz0, hz1, hz2⟩

def hitS (ts : List GTxn) (st : Int) (i : Nat) (o : GOp) : Bool := o.val != 0 && st == 0 && writerM ts o.key o.val == (i : Int)
def hitT (ts : List GTxn) (st : Int) (i : Nat) (t : GTxn) : Bool := (readsM t).any (hitS ts st i)
def refSure1 (ts : List GTxn) (i : Nat) : Bool := stOf ts i == 1 || ts.any (hitT ts (stOf ts i) i)
def refSureN (ts : List GTxn) (n : Nat) : List Bool := (List.range n).map (refSure1 ts)
theorem refSureN_succ (ts : List GTxn) (n : Nat) : refSureN ts (n + 1) = refSureN ts n ++ [refSure1 ts n] := by
  unfold refSureN; rw [List.range_succ, List.map_append]; rfl
theorem refSureN_length (ts : List GTxn) (n : Nat) : (refSureN ts n).length = n := by simp [refSureN]
theorem readsM_le (t : GTxn) (h : t.ops.length ≤ 1048576) : (readsM t).length ≤ 1048576 := by
  unfold readsM; split
  · exact Nat.le_trans (readsS_le _) h
  · simp

set_option maxRecDepth 100000 in
set_option maxHeartbeats 2000000 in
theorem refSure_call (v : Value) (ts : List GTxn) (w : World) (hv : RdTxns w v ts) (hok : OkTxns ts) :
    Calls Tryz.prog 36 #[v] w fun e w' => ∃ v', e = .returned v' ∧ OwBs w.heap.size w' v' (refSureN ts ts.length) ∧ Below w.heap.size w w' := by
  have HV := Lib.hid hv
  have HOK := Lib.hid hok
  have htl := hok.1
  obtain ⟨a, len, cap, rfl, rfl, hm, -⟩ := hv.at
  clear hv hok
  go_enter Tryz.func36, Tryz.ntmps36
  go_wp2_with fail
  go_loopw [3, 4, 5, 6, 12] (fun v _ _ _ i wr => ∃ k : Nat, k ≤ ts.length ∧ i = .int .i64 k ∧ OwBs w.heap.size wr v (refSureN ts k) ∧ Below w.heap.size w wr) (fun _ _ _ _ i _ => ts.length - (intOf i).toNat)
  case atStart => exact ⟨0, Nat.zero_le _, rfl, World.ownsRow_lit (base := w.heap.size) (e := 4) (size := 1) w #[] 0 (Nat.le_refl _) (by simp [maxLen]) rfl, (Below.refl _ _).alloc (Nat.le_refl _) _⟩
  case round =>
    obtain ⟨wi, rfl⟩ : ∃ wi : World, wi = wr := ⟨_, rfl⟩
    obtain ⟨k, hk, rfl, ho, hb⟩ := hrel
    have HOk := Lib.hid ho
    have HBk := Lib.hid hb
    have hwk := hb.size
    clear ho hb
    by_cases hlt : k < ts.length
    · obtain ⟨t, ht⟩ := some_at hlt
      obtain ⟨_, _, _, e5, -, -, hcl⟩ := HV.out.at
      cases e5
      obtain ⟨b, off, oa, oc, rfl, hr, k0', k1', k2'⟩ := hcl k t ht
      have k1 := cell_later HBk.out k1'
      have HK1 := Lib.hid k1'
      have hst : stOf ts k = t.state := by simp [stOf, ht]
      have HN := Lib.hid (refSureN_succ ts k)
      have HC := Lib.hid hcl
      have hk1 : (k : Int) < (ts.length : Int) := by omega
      have HS1 := Lib.hid (show refSure1 ts k = (t.state == 1 || ts.any (hitT ts t.state k)) by unfold refSure1; rw [hst])
      clear hcl ht hr k0' k1' k2' hst
      go_wp2_with fail
      go_loopw [5, 6, 23] (fun m _ i wr => ∃ q : Nat, q ≤ ts.length ∧ i = .int .i64 q ∧ m = .bool (t.state == 1 || (ts.take q).any (hitT ts t.state k)) ∧ Below wi.heap.size wi wr) (fun _ _ i _ => ts.length - (intOf i).toNat)
      case atStart => exact ⟨0, Nat.zero_le _, rfl, by simp, Below.refl _ _⟩
      case round =>
        obtain ⟨wq, rfl⟩ : ∃ wq : World, wq = wr := ⟨_, rfl⟩
        obtain ⟨q, hq, rfl, rfl, hb⟩ := hrel
        have HBq := Lib.hid hb
        have hwq := hb.size
        have HWq := Lib.hid (HBk.out.trans (hb.mono hwk))
        clear hb k1
        by_cases hlt2 : q < ts.length
        · obtain ⟨u, hu⟩ := some_at hlt2
          obtain ⟨_, _, ua, uc, e6, hru, u0', u1', u2'⟩ := HC.out q u hu
          cases e6
          have u0 := cell_later HWq.out u0'
          have u1 := cell_later HWq.out u1'
          have u2 := cell_later HWq.out u2'
          have hok2 := (HOK.out.2 u (List.mem_of_getElem? hu)).2
          have HOP := Lib.hid (HOK.out.2 u (List.mem_of_getElem? hu)).1
          have HA := Lib.hid (any_next (p := hitT ts t.state k) hu)
          have HRU := Lib.hid (hru.later HWq.out)
          generalize hS0 : (t.state == 1 || (ts.take q).any (hitT ts t.state k)) = S0 at *
          have HS0 := Lib.hid hS0
          clear hu hru u0' u1' u2' hS0
          go_wp2_with (go_at_call 45; refine (refReads_call u.client u.state _ u.ops _ HRU.out hok2).mono ?_; rintro e w2 ⟨v2, rfl, ho2, hb2⟩; have hr2 := ho2.rd; obtain ⟨a2, len2, cap2, rfl, rfl, hm2, -⟩ := hr2.at)
          have hws : (readsM ⟨u.client, u.state, u.ops⟩) = readsM u := rfl
          rw [hws] at hr2 hm2
          have HR2 := Lib.hid hr2
          have HB2 := Lib.hid (HBq.out.trans (hb2.mono hwq))
          have HW2 := Lib.hid (HWq.out.trans (hb2.mono HWq.out.size))
          have hrl := readsM_le u hok2
          have HT := Lib.hid (show hitT ts t.state k u = (readsM u).any (hitS ts t.state k) from rfl)
          clear ho2 hb2 hr2 u0 u1 u2
          try rw [hws]
          generalize readsM u = rs at *
          go_loopw [5, 8, 32] (fun m _ i wr => ∃ j : Nat, j ≤ rs.length ∧ i = .int .i64 j ∧ m = .bool (S0 || (rs.take j).any (hitS ts t.state k)) ∧ Below w2.heap.size w2 wr) (fun _ _ i _ => rs.length - (intOf i).toNat)
          case atStart => exact ⟨0, Nat.zero_le _, rfl, by simp, Below.refl _ _⟩
          case round =>
            obtain ⟨wj, rfl⟩ : ∃ wj : World, wj = wr := ⟨_, rfl⟩
            obtain ⟨j, hj, rfl, rfl, hb⟩ := hrel
            have HBj := Lib.hid hb
            have hwj := hb.size
            clear hb
            by_cases hlt3 : j < rs.length
            · obtain ⟨o, ho⟩ := some_at hlt3
              obtain ⟨_, _, _, e7, -, -, hcl⟩ := HR2.out.at
              cases e7
              obtain ⟨ob, ooff, rfl, y0', y1', y2'⟩ := hcl j o ho
              have y0 := cell_later HBj.out y0'
              have y1 := cell_later HBj.out y1'
              have y2 := cell_later HBj.out y2'
              have z1 := fun o' => cell_later ((HW2.out.trans (HBj.out.mono HW2.out.size)).alloc (by have := HW2.out.size; omega) o') HK1.out
              have HWj := Lib.hid (fun o' => HV.out.later ((HW2.out.trans (HBj.out.mono HW2.out.size)).alloc (by have := HW2.out.size; omega) o'))
              have HA2 := Lib.hid (any_next (p := hitS ts t.state k) ho)
              clear hcl ho y0' y1' y2'
              generalize hS1 : (S0 || (rs.take j).any (hitS ts t.state k)) = S1 at *
              have HG := Lib.hid (show ∀ x, hitS ts t.state k o = x → Value.bool (S1 || x) = .bool (S0 || (rs.take (j + 1)).any (hitS ts t.state k)) from fun x hx => by rw [HA2.out, ← Bool.or_assoc, hS1, hx])
              have HHS := Lib.hid (show hitS ts t.state k o = (o.val != 0 && t.state == 0 && writerM ts o.key o.val == (k : Int)) from rfl)
              clear hS1
              cases S1 with
              | true =>
                go_wp2_with fail
                go_roundw
                case rel => exact ⟨j + 1, by omega, by go_num, HG.out _ rfl, HBj.out.alloc hwj _⟩
                case measure => simp [intOf]; omega
              | false =>
                by_cases h0 : o.val = 0
                · have h0' : (o.val != 0) = false := by simp [h0]
                  rw [h0'] at HHS
                  clear h0
                  go_wp2_with fail
                  go_roundw
                  case rel => exact ⟨j + 1, by omega, by go_num, HG.out false (by rw [HHS.out]; rfl), HBj.out.alloc hwj _⟩
                  case measure => simp [intOf]; omega
                · have h0' : (o.val != 0) = true := by simp [h0]
                  rw [h0'] at HHS
                  clear h0
                  by_cases h1 : t.state = 0
                  · have h1' : (t.state == 0) = true := by simp [h1]
                    rw [h1'] at HHS
                    clear h1
                    go_wp2_with (go_at_call 46; refine (writer_call _ ts o.key o.val _ (HWj.out _)).mono ?_; rintro e w3 ⟨rfl, hb3⟩)
                    go_roundw
                    case rel => exact ⟨j + 1, by omega, by go_num, HG.out (writerM ts o.key o.val == (k : Int)) (by rw [HHS.out]; rfl), (HBj.out.alloc hwj _).trans (hb3.mono (by simp; omega))⟩
                    case measure => simp [intOf]; omega
                  · have h1' : (t.state == 0) = false := by simp [h1]
                    rw [h1'] at HHS
                    clear h1
                    go_wp2_with fail
                    go_roundw
                    case rel => exact ⟨j + 1, by omega, by go_num, HG.out false (by rw [HHS.out]; rfl), HBj.out.alloc hwj _⟩
                    case measure => simp [intOf]; omega
            · obtain rfl : j = rs.length := by omega
              rw [List.take_length]
              go_wp2_with fail
              go_roundw
              case rel =>
                refine ⟨q + 1, by omega, by go_num, ?_, HB2.out.trans (HBj.out.mono HB2.out.size)⟩
                rw [HA.out, ← Bool.or_assoc, HS0.out, HT.out]
              case measure => simp [intOf]; omega
        · obtain rfl : q = ts.length := by omega
          rw [List.take_length, ← HS1.out]
          have HOq := Lib.hid (own_below HOk.out HBq.out)
          have hle := refSureN_length ts k
          go_wp2_with (at_builtin; refine wpList_append_src rfl _ _ 34 rfl eltBool w.heap.size (refSureN ts k).length _ (HOq.out.alloc _) rfl 1 (bV (refSure1 ts k)) (src_new (cs := #[.bool (refSure1 ts k)]) rfl rfl) rfl (by intro u hu; simp [bV] at hu; subst hu; rfl) (by omega) (by omega) (by simp; omega) ?_; intro v1 w2 ho1 hg1 _)
          have hbl : ∀ j, u3.ownBlock = some j → w.heap.size ≤ j := fun j hj => (HOq.out.lt j hj).1
          go_roundw
          case rel =>
            refine ⟨k + 1, by omega, by go_num, ?_, ?_⟩
            · rw [HN.out]; simpa [OwBs] using ho1
            · exact (HWq.out.alloc (by omega) _).grown hg1 (by simp; omega) hbl
          case measure => simp [intOf]; omega
    · obtain rfl : k = ts.length := by omega
      go_wp2_with fail
      go_ret
      exact ⟨_, rfl, HOk.out, HBk.out⟩
end Go.Proofs.YtnacoplokjdglaaGreat

namespace Go.Proofs.YtnacoplokjdglaaGreat
open Go.RowKit Go.Maps

theorem Tryz.infoRc : (Tryz.prog.info? 76).map (fun i => (i.zero, i.size, i.bytes)) = some (some (.agg #[vi 0, vi 0, vi 0, vi 0]), 4, 32) := by kernel_rfl
theorem eltRc : Elt Tryz.prog 28 76 4 32 (.agg #[vi 0, vi 0, vi 0, vi 0]) := by
  obtain ⟨i0, hi, hz0, hz1, hz2⟩ := info_parts Tryz.infoRc
  exact ⟨Tryz.underlying28, by decide, rfl, i0, hi, hz0, hz1, hz2⟩

/-- Rows of two kinds lie in two blocks. -/
theorem own_apart {w : World} {b b' e e' m m' n n' : Nat} {v v' : Value} {xs xs' : List Value} (h : w.ownsRow b e m v n xs) (h' : w.ownsRow b' e' m' v' n' xs') (he : e ≠ e') : v'.ownBlock = none ∨ v'.ownBlock ≠ v.ownBlock := by
  rcases h'.2 with ⟨hv', _⟩ | ⟨g', cap', cur', hv', _, hh', _⟩
  · left; rw [hv']; rfl
  · right
    rcases h.2 with ⟨hv, _⟩ | ⟨g, cap, cur, hv, _, hh, _⟩
    · rw [hv, hv']; simp [Value.ownBlock]
    · rw [hv, hv']
      intro e1
      have : g' = g := by simpa [Value.ownBlock] using e1
      subst this
      rw [hh] at hh'
      simp at hh'
      exact he hh'.2

/-- What crucibleref09.Choices keeps of memory. -/
structure StC (w : World) (vs : Value) (S : List Bool) (v : Value) (L : List GChoice) (W : World) : Prop where
  out : OwCh 76 w.heap.size W v L
  row : OwBs w.heap.size W vs S
  below : Below w.heap.size w W
theorem StC.later {w A B : World} {vs v : Value} {S : List Bool} {L : List GChoice} (h : StC w vs S v L A) (hb : Below A.heap.size A B) : StC w vs S v L B :=
  ⟨own_below h.out hb, own_below h.row hb, h.below.trans (hb.mono h.below.size)⟩
theorem StC.app {w A B : World} {vs v v' : Value} {S : List Bool} {L L' : List GChoice} (h : StC w vs S v L A) (hg : A.grownBy B v.ownBlock) (ho : OwCh 76 w.heap.size B v' L') : StC w vs S v' L' B :=
  ⟨ho, World.ownsRow.kept h.row hg (own_apart h.out h.row (by decide)), h.below.grown hg h.below.size (fun j hj => (World.ownsRow.lt h.out j hj).1)⟩
theorem StC.more {w A : World} {vs v : Value} {S : List Bool} {L : List GChoice} (h : StC w vs S v L A) (o : Obj) : StC w vs S v L (A.alloc o) := h.later ((Below.refl _ _).alloc (Nat.le_refl _) _)
/-- crucibleref09.Choices. -/
def refChoicesM (ts : List GTxn) : List GChoice := cmS (refSureN ts ts.length) ts ts.length ++ befK ts 16

set_option maxRecDepth 100000 in
set_option maxHeartbeats 4000000 in
theorem refChoices_call (v : Value) (ts : List GTxn) (w : World) (hv : RdTxns w v ts) (hok : OkTxns ts) (htl : ts.length ≤ 4096) :
    Calls Tryz.prog 16 #[v] w fun e w' => ∃ v', e = .returned v' ∧ OwCh 76 w.heap.size w' v' (refChoicesM ts) ∧ Below w.heap.size w w' := by
  have HV := Lib.hid hv
  have HOK := Lib.hid hok
  obtain ⟨a, len, cap, rfl, rfl, hm, -⟩ := hv.at
  clear hv hok
  have hB0 := (Below.refl w.heap.size w).alloc (Nat.le_refl _) (.cells #[] 76)
  have hO0 := World.ownsRow_lit (base := w.heap.size) (e := 76) (size := 4) w #[] 0 (Nat.le_refl _) (by simp [maxLen]) rfl
  have HB0 := Lib.hid hB0
  have HO0 := Lib.hid hO0
  clear hB0 hO0
  go_enter Tryz.func16, Tryz.ntmps16
  go_wp2_with (go_at_call 36; refine (refSure_call _ _ _ (HV.out.later HB0.out) HOK.out).mono ?_; rintro e w1 ⟨vs, rfl, hS, hb1⟩; obtain ⟨sa, sc, hvs, -⟩ := OwBs.at hS; rw [refSureN_length] at hvs; subst hvs)
  have HST := Lib.hid (show StC w (.slice sa ts.length sc) (refSureN ts ts.length) (.slice (some ⟨w.heap.size, 0, none⟩) 0 0) [] w1 from ⟨own_below HO0.out hb1, own_mono hS (by simp), HB0.out.trans (hb1.mono HB0.out.size)⟩)
  have HCM := Lib.hid (show refChoicesM ts = cmS (refSureN ts ts.length) ts ts.length ++ befK ts 16 from rfl)
  have HRL := Lib.hid (refSureN_length ts ts.length)
  clear hS hb1
  generalize refSureN ts ts.length = S at *
  go_loopw [3, 5, 14] (fun v _ i wr => ∃ k : Nat, k ≤ ts.length ∧ i = .int .i64 k ∧ StC w (.slice sa ts.length sc) S v (cmS S ts k) wr) (fun _ _ i _ => ts.length - (intOf i).toNat)
  case atStart => exact ⟨0, Nat.zero_le _, rfl, HST.out⟩
  case round =>
    obtain ⟨wo, rfl⟩ : ∃ wo : World, wo = wr := ⟨_, rfl⟩
    obtain ⟨k, hk, rfl, hst⟩ := hrel
    have HT := Lib.hid hst
    have HW := Lib.hid hst.below
    have hws := hst.below.size
    by_cases hlt : k < ts.length
    · obtain ⟨t, ht⟩ := some_at hlt
      obtain ⟨_, _, _, e5, -, -, hcl⟩ := HV.out.at
      cases e5
      obtain ⟨b, off, oa, oc, rfl, hr, k0', k1', k2'⟩ := hcl k t ht
      have k0 := cell_later HW.out k0'
      have k1 := cell_later HW.out k1'
      have k2 := cell_later HW.out k2'
      obtain ⟨x, hx⟩ := some_at (l := S) (k := k) (by rw [HRL.out]; exact hlt)
      obtain ⟨_, _, e6, hsc⟩ := OwBs.at hst.row
      simp only [Value.slice.injEq] at e6
      obtain ⟨rfl, -, rfl⟩ := e6
      obtain ⟨sb, so, rfl, x0⟩ := hsc k x hx
      have HE := Lib.hid (show openB S k t = (t.state == 0 && !x && decide (0 < (writesM t.ops).length)) by unfold openB; rw [hx]; rfl)
      have HN := Lib.hid (cmS_succ (S := S) ht)
      have HR := Lib.hid (hr.later HW.out)
      obtain ⟨hok1, hok2⟩ := HOK.out.2 t (List.mem_of_getElem? ht)
      have hkS : (k : Int) < (ts.length : Int) := by omega
      clear hcl ht hr hok1 k0' k1' k2' hx hsc hst
      go_upto_region 6 with fail
      go_cut [38] (fun r wx => r = .bool (openB S k t) ∧ StC w (.slice (some ⟨sb, so, none⟩) ts.length sc) S u3 (cmS S ts k) wx)
      case first =>
        by_cases hs0 : t.state = 0
        · have h0 : (t.state == 0) = true := by simp [hs0]
          rw [h0] at HE
          clear hs0
          cases x
          · go_wp2_with (go_at_call 35; refine (refWrites_call t.client t.state _ t.ops _ HR.out hok2).mono ?_; rintro e w2 ⟨v2, rfl, ho2, hb2⟩; have hr2 := ho2.rd; obtain ⟨a2, len2, cap2, rfl, rfl, hm2, -⟩ := hr2.at)
            go_meet
            exact ⟨by rw [HE.out]; rfl, HT.out.later hb2⟩
          · go_wp2_with fail
            go_meet
            exact ⟨by rw [HE.out]; rfl, HT.out⟩
        · have h0 : (t.state == 0) = false := by simp [hs0]
          rw [h0] at HE
          clear hs0
          go_wp2_with fail
          go_meet
          exact ⟨by rw [HE.out]; rfl, HT.out⟩
      case rest =>
        obtain ⟨rfl, hst2⟩ := hcut
        have hsz := hst2.below.size
        have HS2 := Lib.hid hst2
        have hle := cmS_le S ts k
        clear hst2 k0 k1 k2 x0
        cases hc : openB S k t with
        | true =>
          rw [hc] at HN
          clear hc
          go_wp2_with (at_builtin; refine wpList_append_src rfl _ _ 28 rfl eltRc w.heap.size (cmS S ts k).length _ (HS2.out.more _).out rfl 1 (chV ⟨1, 0, k, 0⟩) (src_new (cs := #[vi 1, vi 0, vi k, vi 0]) rfl rfl) rfl (chV_one _) (by omega) (by omega) (by simp; omega) ?_; intro v1 w2 ho1 hg1 _)
          go_roundw
          case rel =>
            refine ⟨k + 1, by omega, by go_num, ?_⟩
            rw [HN.out]; exact (HS2.out.more _).app hg1 (by simpa [OwCh] using ho1)
          case measure => simp [intOf]; omega
        | false =>
          rw [hc] at HN
          clear hc
          go_wp2_with fail
          go_roundw
          case rel =>
            refine ⟨k + 1, by omega, by go_num, ?_⟩
            rw [HN.out]; simpa using HS2.out
          case measure => simp [intOf]; omega
    · obtain rfl : k = ts.length := by omega
      clear hst
      go_wp2_with fail
      have hcl0 := cmS_le S ts ts.length
      generalize cmS S ts ts.length = c0 at *
      go_loopw [3, 6] (fun v i wr => ∃ k : Nat, k ≤ 16 ∧ i = .int .i64 k ∧ StC w (.slice sa ts.length sc) S v (c0 ++ befK ts k) wr) (fun _ i _ => 16 - (intOf i).toNat)
      case atStart => exact ⟨0, Nat.zero_le _, rfl, by simpa [befK] using HT.out⟩
      case round =>
        obtain ⟨wk, rfl⟩ : ∃ wk : World, wk = wr := ⟨_, rfl⟩
        obtain ⟨k, hk, rfl, hst⟩ := hrel
        by_cases hlt : k < 16
        · have hck := befK_le ts htl k
          have hk16 : (k : Int) < 16 := by omega
          have HN := Lib.hid (befK_succ ts k)
          have HSk := Lib.hid hst
          clear hst
          generalize befK ts k = ck at *
          go_wp2_with fail
          go_loopw [3, 7] (fun v i wr => ∃ q : Nat, q ≤ ts.length ∧ i = .int .i64 q ∧ StC w (.slice sa ts.length sc) S v (c0 ++ ck ++ befB ts k q) wr) (fun _ i _ => ts.length - (intOf i).toNat)
          case atStart => exact ⟨0, Nat.zero_le _, rfl, by simpa [befB] using HSk.out⟩
          case round =>
            obtain ⟨wq, rfl⟩ : ∃ wq : World, wq = wr := ⟨_, rfl⟩
            obtain ⟨q, hq, rfl, hst⟩ := hrel
            by_cases hlt2 : q < ts.length
            · have hcq := befB_le ts k q (by omega)
              have hqI : (q : Int) < (ts.length : Int) := by omega
              have HNq := Lib.hid (befB_succ ts k q)
              have HSq := Lib.hid hst
              clear hst
              generalize befB ts k q = cq at *
              go_wp2_with fail
              go_loopw [3, 8] (fun v i wr => ∃ p : Nat, p ≤ q ∧ i = .int .i64 p ∧ StC w (.slice sa ts.length sc) S v (c0 ++ ck ++ cq ++ befA ts k q p) wr) (fun _ i _ => q - (intOf i).toNat)
              case atStart => exact ⟨0, Nat.zero_le _, rfl, by simpa [befA] using HSq.out⟩
              case round =>
                obtain ⟨wp, rfl⟩ : ∃ wp : World, wp = wr := ⟨_, rfl⟩
                obtain ⟨p, hp, rfl, hst⟩ := hrel
                by_cases hlt3 : p < q
                · have hcp := befA_le ts k q p
                  have hpI : (p : Int) < (q : Int) := by omega
                  have hpJ : (p : Int) < (ts.length : Int) := by omega
                  have HNp := Lib.hid (befA_succ ts k q p)
                  have HSp := Lib.hid hst
                  have HW := Lib.hid hst.below
                  have hwp := hst.below.size
                  clear hst
                  obtain ⟨ta, hta⟩ := some_at (l := ts) (k := p) (by omega)
                  obtain ⟨tb, htb⟩ := some_at (l := ts) (k := q) (by omega)
                  obtain ⟨_, _, _, e5, -, -, hcl⟩ := HV.out.at
                  cases e5
                  obtain ⟨b, off, oa, oc, rfl, hra, a0', a1', a2'⟩ := hcl p ta hta
                  obtain ⟨_, _, ob, oc2, e6, hrb, b0', b1', b2'⟩ := hcl q tb htb
                  cases e6
                  have k0 := cell_later HW.out a0'
                  have k1 := cell_later HW.out a1'
                  have k2 := cell_later HW.out a2'
                  have m0 := cell_later HW.out b0'
                  have m1 := cell_later HW.out b1'
                  have m2 := cell_later HW.out b2'
                  have HRA := Lib.hid (hra.later HW.out)
                  have HRB := Lib.hid (hrb.later HW.out)
                  have HC := Lib.hid (show condB ts k p q = (ta.state != 2 && tb.state != 2 && writesK ta k && writesK tb k) by simp [condB, stOf, wrOf, hta, htb])
                  have hoka := (HOK.out.2 ta (List.mem_of_getElem? hta)).2
                  have hokb := (HOK.out.2 tb (List.mem_of_getElem? htb)).2
                  have HEA := Lib.hid (refWk_eq (l := ta.ops) (k := k) hlt)
                  have HEB := Lib.hid (refWk_eq (l := tb.ops) (k := k) hlt)
                  clear hcl hta htb hra hrb a0' a1' a2' b0' b1' b2'
                  go_upto_region 18 with fail
                  go_cut [89] (fun r wx => r = .bool (condB ts k p q) ∧ StC w (.slice sa ts.length sc) S u3 (c0 ++ ck ++ cq ++ befA ts k q p) wx)
                  case first =>
                    by_cases hs0 : ta.state = 2
                    · have h0 : (ta.state != 2) = false := by simp [hs0]
                      rw [h0] at HC
                      clear hs0
                      go_wp2_with fail
                      go_meet
                      exact ⟨by rw [HC.out]; rfl, HSp.out⟩
                    · have h0 : (ta.state != 2) = true := by simp [hs0]
                      rw [h0] at HC
                      clear hs0
                      by_cases hs2 : tb.state = 2
                      · have h2 : (tb.state != 2) = false := by simp [hs2]
                        rw [h2] at HC
                        clear hs2
                        go_wp2_with fail
                        go_meet
                        exact ⟨by rw [HC.out]; rfl, HSp.out⟩
                      · have h2 : (tb.state != 2) = true := by simp [hs2]
                        rw [h2] at HC
                        clear hs2
                        cases hwa : writesK ta k with
                        | false =>
                          have HWA := Lib.hid (HEA.out.trans hwa)
                          rw [hwa] at HC
                          clear hwa
                          go_wp2_with (go_at_call 37; refine (refWk_call ta.client ta.state _ ta.ops k _ HRA.out hoka).mono ?_; rintro e w2 ⟨rfl, hb2⟩; rw [HWA.out])
                          go_meet
                          exact ⟨by rw [HC.out]; rfl, HSp.out.later hb2⟩
                        | true =>
                          have HWA := Lib.hid (HEA.out.trans hwa)
                          have HWB := Lib.hid (show refWk tb.ops k = writesK tb k from HEB.out)
                          rw [hwa] at HC
                          clear hwa
                          go_wp2_with (first
                            | (go_at_call 37; with_reducible refine (refWk_call ta.client ta.state _ ta.ops k _ HRA.out hoka).mono ?_; rintro e w2 ⟨rfl, hb2⟩; rw [HWA.out]; replace m0 := cell_later hb2 m0; replace m1 := cell_later hb2 m1; replace m2 := cell_later hb2 m2; replace HRB := Lib.hid (HRB.out.later hb2))
                            | (go_at_call 37; refine (refWk_call tb.client tb.state _ tb.ops k _ HRB.out hokb).mono ?_; rintro e w3 ⟨rfl, hb3⟩; rw [HWB.out]))
                          go_meet
                          exact ⟨by rw [HC.out]; rfl, (HSp.out.later hb2).later hb3⟩
                  case rest =>
                    obtain ⟨rfl, hst2⟩ := hcut
                    have hsz := hst2.below.size
                    have HS2 := Lib.hid hst2
                    clear hst2 k0 k1 k2 m0 m1 m2
                    cases hc : condB ts k p q with
                    | true =>
                      rw [hc] at HNp
                      clear hc
                      go_wp2_with (at_builtin; refine wpList_append_src rfl _ _ 28 rfl eltRc w.heap.size (c0 ++ ck ++ cq ++ befA ts k q p).length _ (HS2.out.more _).out rfl 1 (chV ⟨2, k, p, q⟩) (src_new (cs := #[vi 2, vi k, vi p, vi q]) rfl rfl) rfl (chV_one _) (by simp only [List.length_append]; omega) (by omega) (by simp; omega) ?_; intro v1 w2 ho1 hg1 _)
                      go_roundw
                      case rel =>
                        refine ⟨p + 1, by omega, by go_num, ?_⟩
                        rw [HNp.out]; exact (HS2.out.more _).app hg1 (by simpa [OwCh, List.append_assoc, Nat.add_assoc] using ho1)
                      case measure => simp [intOf]; omega
                    | false =>
                      rw [hc] at HNp
                      clear hc
                      go_wp2_with fail
                      go_roundw
                      case rel =>
                        refine ⟨p + 1, by omega, by go_num, ?_⟩
                        rw [HNp.out]; simpa using HS2.out
                      case measure => simp [intOf]; omega
                · obtain rfl : p = q := by omega
                  have HSp := Lib.hid hst
                  clear hst
                  go_wp2_with fail
                  go_roundw
                  case rel =>
                    refine ⟨p + 1, by omega, by go_num, ?_⟩
                    rw [HNq.out, ← List.append_assoc]; exact HSp.out
                  case measure => simp [intOf]; omega
            · obtain rfl : q = ts.length := by omega
              have HSq := Lib.hid hst
              clear hst
              go_wp2_with fail
              go_roundw
              case rel =>
                refine ⟨k + 1, by omega, by go_num, ?_⟩
                rw [HN.out, ← List.append_assoc]; exact HSq.out
              case measure => simp [intOf]; omega
        · obtain rfl : k = 16 := by omega
          go_wp2_with fail
          go_ret
          refine ⟨_, rfl, ?_, hst.below⟩
          unfold OwCh; rw [HCM.out]; exact hst.out
end Go.Proofs.YtnacoplokjdglaaGreat

namespace Go.Proofs.YtnacoplokjdglaaGreat
open Go.RowKit Go.Maps

theorem getB_set (L : List Bool) (j i : Nat) (b : Bool) (hi : i < L.length) : ((L.set j b)[i]?).getD false = if j = i then b else (L[i]?).getD false := by
  rw [List.getElem?_set]
  by_cases h : j = i
  · subst h; simp [hi]
  · simp [h]

theorem sureR_at {ts : List GTxn} (hu : Uniq ts) (L : List Bool) (o : GOp) (i : Nat) (hi : i < L.length) (_hl : L.length = ts.length) :
    ((sureR (byN ts ts.length) ts L o)[i]?).getD false = ((L[i]?).getD false || hitS ts (stOf ts i) i o) := by
  unfold sureR hitS
  rcases by_writer hu o.key o.val with ⟨h1, h2⟩ | ⟨j, t, hj, h1, h2⟩
  · rw [h1, h2]
    have : ((-1 : Int) == (i : Int)) = false := by rw [beq_eq_false_iff_ne]; omega
    simp [this]
  · rw [h1, h2]
    simp only [Int.toNat_natCast, hj, Option.map_some]
    by_cases hji : j = i
    · subst hji
      have hst : stOf ts j = t.state := by simp [stOf, hj]
      rw [hst]
      by_cases hv : o.val = 0 <;> by_cases hs : t.state = 0
      · simp [hv]
      · simp [hv]
      · rw [if_pos ⟨hv, by rw [hs]⟩, getB_set _ _ _ _ hi]; simp [hv, hs]
      · rw [if_neg (fun h => hs (by simpa using h.2))]; simp [hs]
    · have : ((j : Int) == (i : Int)) = false := by rw [beq_eq_false_iff_ne]; omega
      rw [this, Bool.and_false, Bool.or_false]
      split
      · rw [getB_set _ _ _ _ hi, if_neg hji]
      · rfl

theorem foldR_at {ts : List GTxn} (hu : Uniq ts) (i : Nat) : ∀ (l : List GOp) (L : List Bool), i < L.length → L.length = ts.length →
    ((l.foldl (sureR (byN ts ts.length) ts) L)[i]?).getD false = ((L[i]?).getD false || l.any (hitS ts (stOf ts i) i)) := by
  intro l
  induction l with
  | nil => intro L _ _; simp
  | cons o l ih =>
    intro L hi hl
    rw [List.foldl_cons, ih _ (by rw [sureR_length]; exact hi) (by rw [sureR_length]; exact hl), sureR_at hu L o i hi hl, List.any_cons, Bool.or_assoc]

theorem sureN_at {ts : List GTxn} (hu : Uniq ts) (i : Nat) (hi : i < ts.length) : ∀ n, n ≤ ts.length →
    ((sureN ts n)[i]?).getD false = ((decide (i < n) && stOf ts i == 1) || (ts.take n).any (hitT ts (stOf ts i) i)) := by
  intro n
  induction n with
  | zero => intro _; simp [sureN, hi]
  | succ n ih =>
    intro hn
    obtain ⟨t, ht⟩ := some_at hn
    have hl := sureN_length ts n (by omega)
    rw [sureN_succ ht]; unfold sureT
    rw [foldR_at hu i _ _ (by rw [List.length_set, hl]; exact hi) (by rw [List.length_set, hl]), getB_set _ _ _ _ (by rw [hl]; exact hi), take_at ht, List.any_append]
    simp only [List.any_cons, List.any_nil, Bool.or_false]
    rw [show (readsM t).any (hitS ts (stOf ts i) i) = hitT ts (stOf ts i) i t from rfl, ← Bool.or_assoc]
    congr 1
    by_cases h : n = i
    · subst h
      rw [if_pos rfl, ih (by omega)]
      have hst : stOf ts n = t.state := by simp [stOf, ht]
      simp only [hst, Nat.lt_irrefl, decide_false, Bool.false_and, Bool.false_or, Nat.lt_succ_self, decide_true, Bool.true_and]
      exact Bool.or_comm _ _
    · rw [if_neg h, ih (by omega)]
      have : decide (i < n) = decide (i < n + 1) := by rw [decide_eq_decide]; omega
      rw [this]

/-- Both ways to say who must have been done. -/
theorem sure_eq {ts : List GTxn} (hu : Uniq ts) : sureM ts = refSureN ts ts.length := by
  apply List.ext_getElem?
  intro i
  by_cases hi : i < ts.length
  · have h1 := sureN_at hu i hi ts.length (Nat.le_refl _)
    have hl : i < (sureM ts).length := by rw [sureM_length]; exact hi
    have hl2 : i < (refSureN ts ts.length).length := by rw [refSureN_length]; exact hi
    rw [List.getElem?_eq_getElem hl, List.getElem?_eq_getElem hl2]
    have h2 : (sureN ts ts.length)[i]? = some (sureM ts)[i] := List.getElem?_eq_getElem hl
    rw [h2] at h1
    simp only [Option.getD_some, List.take_length, hi, decide_true, Bool.true_and] at h1
    rw [h1]
    simp [refSureN, refSure1]
  · rw [List.getElem?_eq_none (by rw [sureM_length]; omega), List.getElem?_eq_none (by rw [refSureN_length]; omega)]

theorem choices_eq {ts : List GTxn} (hu : Uniq ts) : choicesM ts = refChoicesM ts := by unfold choicesM refChoicesM; rw [sure_eq hu]
end Go.Proofs.YtnacoplokjdglaaGreat

namespace Go.Proofs.YtnacoplokjdglaaGreat
open Go.RowKit Go.Maps
/-- The steps are as many as the bound at most. -/
theorem tree_size {ts : List GTxn} {level : Int} : ∀ {n : Nat} {L : FaL}, (treeM ts level n L).size + 1 ≤ 2 ^ (n + 1)
  | 0, L => by rw [treeM]; split <;> simp [WT.size]
  | n + 1, L => by
    rw [treeM]
    have hp : 2 ≤ 2 ^ (n + 1 + 1) := by have := Nat.one_le_two_pow (n := n + 1); rw [Nat.pow_succ]; omega
    split
    · simp only [WT.size]; exact hp
    · cases nextM ts L with
      | none => simp only [WT.size]; exact hp
      | some c =>
        have h1 := tree_size (ts := ts) (level := level) (n := n) (L := (c, true) :: L)
        have h2 := tree_size (ts := ts) (level := level) (n := n) (L := (c, false) :: L)
        simp only [WT.size]
        rw [Nat.pow_succ]
        split <;> omega

end Go.Proofs.YtnacoplokjdglaaGreat

namespace Go.Proofs.YtnacoplokjdglaaGreat
open Go.RowKit Go.Maps
attribute [local go_sem] Oper.semAt_some

section
variable {v : Value} {es : List GEvent} {level B : Int} {w : World} {ts : List GTxn}
end
/-- The kind and the steps of a verdict. -/
noncomputable def kM (ts : List GTxn) (level B : Int) : Int := if flawsM ts ≠ [] then 2 else if endB (tree0 ts level) 0 B then 1 else if endO (tree0 ts level) 0 B then 3 else 2
noncomputable def sM (ts : List GTxn) (level B : Int) : Int := if flawsM ts ≠ [] then 0 else endS (tree0 ts level) 0 B
theorem check_any {v : Value} {es : List GEvent} {level B : Int} {w : World} {ts : List GTxn} (hv : RdEvents w v es) (hes : es.length ≤ 60) (hB : i64 B) (hroom : B ≤ 34359738368 ∨ ∀ ts, histH es = some ts → ((tree0 ts level).size : Int) ≤ 34359738368) (hh : histH es = some ts) (hl : level = 1 ∨ level = 2) :
    Calls Tryz.prog 18 #[v, vi level, vi B] w fun e w' => ∃ (f0 f1 f2 : Int) (ta : Option Addr) (tn tc : Nat) (da : Option Addr) (dn dc : Nat) (om : Option Nat), e = .returned (.agg #[vi (kM ts level B), vi (sM ts level B), vi f0, vi f1, vi f2, .slice ta tn tc, .slice da dn dc, .map om]) ∧ (kM ts level B = 3 → tn = 0 ∧ dn = 0) ∧ Below w.heap.size w w' := by
  cases hf : flawsM ts with
  | cons f l =>
    refine (check_flaw hv hes hB hroom hh hl hf).mono ?_
    rintro e w' ⟨rfl, hb⟩
    have hk : kM ts level B = 2 := by unfold kM; rw [hf, if_pos (by simp)]
    have hs : sM ts level B = 0 := by unfold sM; rw [hf, if_pos (by simp)]
    exact ⟨f.1, f.2.1, f.2.2, none, 0, 0, none, 0, 0, none, by rw [hk, hs], fun _ => ⟨rfl, rfl⟩, hb⟩
  | nil =>
    cases hb0 : endB (tree0 ts level) 0 B with
    | true =>
      refine (check_pass hv hes hB hroom hh hl hf hb0).mono ?_
      rintro e w' ⟨F, db, om, O, rfl, -, -, -, -, hb⟩
      have hk : kM ts level B = 1 := by unfold kM; rw [hf, if_neg (by simp), hb0, if_pos rfl]
      have hs : sM ts level B = (tree0 ts level).size := by unfold sM; rw [hf, if_neg (by simp), (end_yes hb0).2.1, Int.zero_add]
      exact ⟨0, 0, 0, none, 0, 0, _, _, _, _, by rw [hk, hs], (fun h => by rw [hk] at h; cases h), hb⟩
    | false =>
      cases ho : endO (tree0 ts level) 0 B with
      | true =>
        refine (check_over hv hes hB hroom hh hl hf ho).mono ?_
        rintro e w' ⟨rfl, hb⟩
        have hk : kM ts level B = 3 := by unfold kM; rw [hf, if_neg (by simp), hb0, ho]; rfl
        have hs : sM ts level B = max 0 B := by unfold sM; rw [hf, if_neg (by simp), end_out ho]
        exact ⟨0, 0, 0, none, 0, 0, none, 0, 0, none, by rw [hk, hs], fun _ => ⟨rfl, rfl⟩, hb⟩
      | false =>
        refine (check_fail hv hes hB hroom hh hl hf hb0 ho).mono ?_
        rintro e w' ⟨a, c, l, rfl, -, -, -, hb⟩
        have hk : kM ts level B = 2 := by unfold kM; rw [hf, if_neg (by simp), hb0, ho]; rfl
        have hs : sM ts level B = (tree0 ts level).size := by unfold sM; rw [hf, if_neg (by simp), (end_res hb0 ho).2, Int.zero_add]
        exact ⟨0, 0, 0, a, _, c, none, 0, 0, none, by rw [hk, hs], (fun h => by rw [hk] at h; cases h), hb⟩
theorem kM_range (ts : List GTxn) (level B : Int) : 1 ≤ kM ts level B ∧ kM ts level B ≤ 3 := by
  unfold kM; split
  · omega
  · split
    · omega
    · split <;> omega
/-- With as many steps as there are nodes it is never unknown. -/
theorem kM_full {ts : List GTxn} {level B : Int} (h : ((tree0 ts level).size : Int) ≤ B) : kM ts level B ≠ 3 ∧ kM ts level B = (if flawsM ts ≠ [] then 2 else if (tree0 ts level).res then 1 else 2) ∧ sM ts level B = (if flawsM ts ≠ [] then 0 else ((tree0 ts level).size : Int)) := by
  have ho : endO (tree0 ts level) 0 B = false := decide_eq_false (by omega)
  have hb : endB (tree0 ts level) 0 B = (tree0 ts level).res := by unfold endB; rw [decide_eq_true (by omega), Bool.true_and]
  have hs : endS (tree0 ts level) 0 B = (tree0 ts level).size := by unfold endS; rw [if_pos (by omega), Int.zero_add]
  have hk : kM ts level B = (if flawsM ts ≠ [] then 2 else if (tree0 ts level).res then 1 else 2) := by
    unfold kM; rw [hb, ho]; simp
  refine ⟨?_, hk, by unfold sM; rw [hs]⟩
  rw [hk]
  split
  · decide
  · split <;> decide
/-- With fewer it is. -/
theorem kM_short {ts : List GTxn} {level B : Int} (hf : flawsM ts = []) (h : B < ((tree0 ts level).size : Int)) : kM ts level B = 3 ∧ sM ts level B = max 0 B := by
  have ho : endO (tree0 ts level) 0 B = true := decide_eq_true (by omega)
  have hb := end_bo ho
  refine ⟨?_, ?_⟩
  · unfold kM; rw [hf, if_neg (by simp), hb, ho]; rfl
  · unfold sM; rw [hf, if_neg (by simp), end_out ho]
theorem tree0_size (ts : List GTxn) (level : Int) : ((tree0 ts level).size : Int) + 1 ≤ 2 ^ ((choicesM ts).length + 1) := by
  have h := tree_size (ts := ts) (level := level) (n := (choicesM ts).length) (L := [])
  have h2 : ((2 ^ ((choicesM ts).length + 1) : Nat) : Int) = (2 : Int) ^ ((choicesM ts).length + 1) := by simp
  rw [← h2]
  unfold tree0
  omega
end Go.Proofs.YtnacoplokjdglaaGreat

namespace Go.Proofs.YtnacoplokjdglaaGreat.checkBudgets
open Go.RowKit Go.Maps
attribute [local go_sem] Oper.semAt_some

/-- A box of a verdict: its kind, its steps, the lengths of its tree and of who is done. -/
def VerB (W : World) (b : Nat) (k s : Int) (tn dn : Nat) : Prop := ∃ (f0 f1 f2 : Int) (ta : Option Addr) (tc : Nat) (da : Option Addr) (dc : Nat) (om : Option Nat), W.heap[b]? = some (.cells #[vi k, vi s, vi f0, vi f1, vi f2, .slice ta tn tc, .slice da dn dc, .map om] 39)
theorem VerB.later {W W' : World} {b : Nat} {k s : Int} {tn dn : Nat} (h : VerB W b k s tn dn) (hb : Below W.heap.size W W') : VerB W' b k s tn dn := by
  obtain ⟨f0, f1, f2, ta, tc, da, dc, om, h⟩ := h
  exact ⟨f0, f1, f2, ta, tc, da, dc, om, (hb.block _ (Array.getElem?_eq_some_iff.1 h).1).trans h⟩
theorem VerB.cells {W : World} {b : Nat} {k s : Int} {tn dn : Nat} (h : VerB W b k s tn dn) : W.cell? ⟨b, 0, none⟩ = some (vi k) ∧ W.cell? ⟨b, 1, none⟩ = some (vi s) ∧ (∃ ta tc, W.cell? ⟨b, 5, none⟩ = some (.slice ta tn tc)) ∧ ∃ da dc, W.cell? ⟨b, 6, none⟩ = some (.slice da dn dc) := by
  obtain ⟨f0, f1, f2, ta, tc, da, dc, om, h⟩ := h
  exact ⟨by rw [cell_of h]; rfl, by rw [cell_of h]; rfl, ⟨ta, tc, by rw [cell_of h]; rfl⟩, da, dc, by rw [cell_of h]; rfl⟩

set_option maxRecDepth 100000 in
set_option maxHeartbeats 8000000 in
theorem walk (v : Value) (level budget : Int) (es : List GEvent) (w : World) (hv : RdEvents w v es) (hbud : i64 budget) :
    Calls Tryz.prog 7 #[v, vi level, vi budget] w fun e w' => e = .returned (.bool true) ∧ Below w.heap.size w w' := by
  have HV := Lib.hid hv
  obtain ⟨a, n, c, rfl, rfl, hm, -⟩ := hv.at
  have hb1 := hbud.1
  have hb2 := hbud.2
  clear hv hbud
  go_enter Tryz.func7, Tryz.ntmps7
  go_upto_region 3 with (go_at_call 13; refine (head11_call w).mono ?_; rintro e1 w1 ⟨rfl, hb1⟩; have HB1 := Lib.hid hb1; clear hb1)
  have HR1 := Lib.hid (HV.out.later HB1.out)
  go_upto_region 4 with (go_at_call 14; refine (of_callA _ es w1 HR1.out).mono ?_; rintro e2 w2 ⟨v2, p2, err, rfl, hok2, hbad2, ⟨a2, n2, c2, rfl⟩, hb2⟩; have HOK2 := Lib.hid hok2; have HB2 := Lib.hid (HB1.out.trans (hb2.mono HB1.out.size)); clear hok2 hbad2 hb2)
  by_cases h0 : err = 0
  case neg =>
    have c0 := bne_t h0
    clear h0
    go_wp2_with fail
    go_ret
    exact ⟨rfl, HB2.out⟩
  obtain ⟨ts, hts, hrd⟩ := HOK2.out h0
  have HTS := Lib.hid hts
  have HRD := Lib.hid hrd
  obtain ⟨_, _, _, e5, e6, -, -⟩ := hrd.at
  cases e5
  subst e6
  subst h0
  clear hts hrd
  by_cases h1 : (40 : Int) < es.length
  case pos =>
    have d1 : decide ((40 : Int) < es.length) = true := decide_eq_true h1
    clear h1
    go_wp2_with fail
    go_ret
    exact ⟨rfl, HB2.out⟩
  have d1 : decide ((40 : Int) < es.length) = false := decide_eq_false h1
  have hes : es.length ≤ 60 := by omega
  clear h1
  have HG := Lib.hid (hist_good hes HTS.out).1
  have hlen := HG.out.len
  have HCE := Lib.hid (choices_eq HG.out.uniq).symm
  by_cases hlv : level = 1 ∨ level = 2
  case neg =>
    have l1 : (level != 1) = true := bne_t (fun h => hlv (.inl h))
    have l2 : (level != 2) = true := bne_t (fun h => hlv (.inr h))
    clear hlv
    go_wp2_with fail
    go_ret
    exact ⟨rfl, HB2.out⟩
  have HLV := Lib.hid hlv
  clear hlv
  have HRC := Lib.hid (refChoices_call _ ts w2 HRD.out HG.out.ok (by omega))
  by_cases h12 : (12 : Int) < (choicesM ts).length
  case pos =>
    have d2 : decide ((12 : Int) < ((choicesM ts).length : Int)) = true := decide_eq_true h12
    have d2' : decide (12 < (choicesM ts).length) = true := decide_eq_true (by omega)
    clear h12
    have hlv := HLV.out
    rcases hlv with rfl | rfl
    all_goals
      go_wp2_with (go_at_call 16; refine HRC.out.mono ?_; rw [HCE.out]; rintro e3 w3 ⟨v3, rfl, ho3, hb3⟩; have HB3 := Lib.hid (HB2.out.trans (hb3.mono HB2.out.size)); obtain ⟨a3, n3, c3, rfl, e7, -, -⟩ := ho3.rd.at; subst e7; clear ho3 hb3)
      go_ret
      exact ⟨rfl, HB3.out⟩
  have d2 : decide ((12 : Int) < ((choicesM ts).length : Int)) = false := decide_eq_false h12
  have d2' : decide (12 < (choicesM ts).length) = false := decide_eq_false (by omega)
  have hc12 : (choicesM ts).length ≤ 12 := by omega
  have hbm : boundM (choicesM ts).length = 2 ^ ((choicesM ts).length + 1) - 1 := by unfold boundM; rw [Nat.min_eq_left (by omega)]
  have hts0 := tree0_size ts level
  have h13 : (2 : Int) ^ ((choicesM ts).length + 1) ≤ 8192 := by
    have := Nat.pow_le_pow_right (n := 2) (by decide) (show (choicesM ts).length + 1 ≤ 13 by omega)
    have h2 : ((2 ^ ((choicesM ts).length + 1) : Nat) : Int) = (2 : Int) ^ ((choicesM ts).length + 1) := by simp
    rw [← h2]; omega
  have hbm1 : ((tree0 ts level).size : Int) ≤ boundM (choicesM ts).length := by rw [hbm]; omega
  have hbm2 : boundM (choicesM ts).length ≤ 8191 := by rw [hbm]; omega
  have HBM := Lib.hid hbm1
  have HBC := Lib.hid (fun (u : Value) (W : World) (h : RdTxns W u ts) => bound_call u ts W h HG.out.ok (by omega))
  clear h12 hbm hts0 h13
  obtain ⟨bm, hbmv⟩ : ∃ bm, bm = boundM (choicesM ts).length := ⟨_, rfl⟩
  rw [← hbmv] at HBC HBM hbm1 hbm2
  clear hbmv
  have HK1 := Lib.hid (kM_full (ts := ts) (level := level) hbm1)
  have hsz := (tree0 ts level).size_pos
  have HCA := Lib.hid (fun (B : Int) (hB : i64 B) (W : World) (h : RdEvents W (.slice a es.length c) es) => check_any (level := level) h hes hB (.inr (fun ts' h' => by rw [HTS.out] at h'; cases h'; have := hbm1; omega)) HTS.out HLV.out)
  have hkr := kM_range ts level budget
  go_cut [40] (fun r wx => r = .bool false ∧ Below w2.heap.size w2 wx)
  case first =>
    have hlv := HLV.out
    rcases hlv with rfl | rfl
    all_goals
      go_wp2_with (go_at_call 16; refine HRC.out.mono ?_; rw [HCE.out]; rintro e3 w3 ⟨v3, rfl, ho3, hb3⟩; obtain ⟨a3, n3, c3, rfl, e7, -, -⟩ := ho3.rd.at; subst e7; clear ho3)
      go_meet
      exact ⟨rfl, hb3⟩
  case rest =>
  obtain ⟨wx, rfl⟩ : ∃ wx : World, wx = wc := ⟨_, rfl⟩
  obtain ⟨rfl, hbx⟩ := hcut
  have HBX := Lib.hid (HB2.out.trans (hbx.mono HB2.out.size))
  have HRX := Lib.hid (HRD.out.later hbx)
  clear hbx d1 d2 d2'
  go_upto_region 7 with (first
    | (go_at_call 18; refine (HCA.out bm (by unfold i64; omega) w3 HE3.out).mono ?_; rintro e4 w4 ⟨f0, f1, f2, ta, tn, tc, da, dn, dc, om, rfl, -, hb4⟩; have HB4 := Lib.hid (HB3.out.trans (hb4.mono HB3.out.size)); have HR4 := Lib.hid (HR3.out.later hb4); clear hb4)
    | (go_at_call 22; refine (HBC.out _ wx HRX.out).mono ?_; rintro e3 w3 ⟨rfl, hb3⟩; have HB3 := Lib.hid (HBX.out.trans (hb3.mono HBX.out.size)); have HR3 := Lib.hid (HRX.out.later hb3); have HE3 := Lib.hid (HV.out.later HB3.out); clear hb3))
  have HA5 := Lib.hid ((Below.refl w4.heap.size w4).alloc (Nat.le_refl _) (.cells #[vi (kM ts level bm), vi (sM ts level bm), vi f0, vi f1, vi f2, .slice ta tn tc, .slice da dn dc, .map om] 39))
  have HV5 := Lib.hid (show VerB (w4.alloc (.cells #[vi (kM ts level bm), vi (sM ts level bm), vi f0, vi f1, vi f2, .slice ta tn tc, .slice da dn dc, .map om] 39)) w4.heap.size (kM ts level bm) (sM ts level bm) tn dn from ⟨f0, f1, f2, ta, tc, da, dc, om, alloc_at _ _⟩)
  have hw5 : (w4.alloc (.cells #[vi (kM ts level bm), vi (sM ts level bm), vi f0, vi f1, vi f2, .slice ta tn tc, .slice da dn dc, .map om] 39)).heap.size = w4.heap.size + 1 := by simp
  generalize w4.alloc (.cells #[vi (kM ts level bm), vi (sM ts level bm), vi f0, vi f1, vi f2, .slice ta tn tc, .slice da dn dc, .map om] 39) = w5 at *
  have HB5 := Lib.hid (HB4.out.trans (HA5.out.mono HB4.out.size))
  have HE5 := Lib.hid (HV.out.later HB5.out)
  go_upto_region 8 with (go_at_call 18; refine (HCA.out budget (by unfold i64; omega) w5 HE5.out).mono ?_; rintro e6 w6 ⟨g0, g1, g2, ta', tn', tc', da', dn', dc', om', rfl, h36, hb6⟩; have H36 := Lib.hid h36; have HB6 := Lib.hid hb6; clear hb6 h36)
  have HA7 := Lib.hid ((Below.refl w6.heap.size w6).alloc (Nat.le_refl _) (.cells #[vi (kM ts level budget), vi (sM ts level budget), vi g0, vi g1, vi g2, .slice ta' tn' tc', .slice da' dn' dc', .map om'] 39))
  have HV7 := Lib.hid (show VerB (w6.alloc (.cells #[vi (kM ts level budget), vi (sM ts level budget), vi g0, vi g1, vi g2, .slice ta' tn' tc', .slice da' dn' dc', .map om'] 39)) w6.heap.size (kM ts level budget) (sM ts level budget) tn' dn' from ⟨g0, g1, g2, ta', tc', da', dc', om', alloc_at _ _⟩)
  have HU7 := Lib.hid ((HV5.out.later HB6.out).later HA7.out)
  have hw7 : (w6.alloc (.cells #[vi (kM ts level budget), vi (sM ts level budget), vi g0, vi g1, vi g2, .slice ta' tn' tc', .slice da' dn' dc', .map om'] 39)).heap.size = w6.heap.size + 1 := by simp
  have HR7 := Lib.hid (((HR4.out.later HA5.out).later HB6.out).later HA7.out)
  have HB7 := Lib.hid ((HB5.out.trans (HB6.out.mono HB5.out.size)).trans (HA7.out.mono (by have := HB5.out.size; have := HB6.out.size; omega)))
  generalize w6.alloc (.cells #[vi (kM ts level budget), vi (sM ts level budget), vi g0, vi g1, vi g2, .slice ta' tn' tc', .slice da' dn' dc', .map om'] 39) = w7 at *
  obtain ⟨u0, u1, -, -⟩ := HU7.out.cells
  obtain ⟨x0, x1, ⟨tb, td, x5⟩, eb, ed, x6⟩ := HV7.out.cells
  -- the numbers
  have hk1 : kM ts level bm ≠ 3 := HK1.out.1
  obtain ⟨K1, hK1⟩ : ∃ K1, K1 = kM ts level bm := ⟨_, rfl⟩
  obtain ⟨S1, hS1⟩ : ∃ S1, S1 = sM ts level bm := ⟨_, rfl⟩
  obtain ⟨K2, hK2⟩ : ∃ K2, K2 = kM ts level budget := ⟨_, rfl⟩
  obtain ⟨S2, hS2⟩ : ∃ S2, S2 = sM ts level budget := ⟨_, rfl⟩
  have HS1 := Lib.hid (show 0 ≤ S1 ∧ S1 ≤ bm from by rw [hS1, HK1.out.2.2]; split <;> omega)
  have HCASE := Lib.hid (show (S1 ≤ max budget 0 ∧ K2 = K1 ∧ S2 = S1) ∨ (max budget 0 < S1 ∧ K2 = 3 ∧ S2 = max budget 0) from by
    cases hf : flawsM ts with
    | cons f l =>
      left
      have h1 : S1 = 0 := by rw [hS1, HK1.out.2.2, if_pos (by rw [hf]; simp)]
      have h2 : S2 = 0 := by rw [hS2]; unfold sM; rw [hf, if_pos (by simp)]
      have h3 : K1 = 2 := by rw [hK1, HK1.out.2.1, if_pos (by rw [hf]; simp)]
      have h4 : K2 = 2 := by rw [hK2]; unfold kM; rw [hf, if_pos (by simp)]
      omega
    | nil =>
      have h1 : S1 = (tree0 ts level).size := by rw [hS1, HK1.out.2.2, if_neg (by rw [hf]; simp)]
      by_cases hB : ((tree0 ts level).size : Int) ≤ budget
      · left
        have h2 := kM_full hB
        refine ⟨by omega, by rw [hK2, hK1, h2.2.1, HK1.out.2.1], by rw [hS2, hS1, h2.2.2, HK1.out.2.2]⟩
      · right
        have h2 := kM_short (level := level) (B := budget) hf (by omega)
        refine ⟨by omega, by rw [hK2, h2.1], by rw [hS2, h2.2]; omega⟩)
  rw [← hK1] at hk1 u0
  rw [← hS1] at u1
  rw [← hK2] at x0 H36
  rw [← hS2] at x1
  have e1 : (K1 == 3) = false := by simpa using hk1
  have HB7N := hw7
  have HUB := Lib.hid (show VerB w7 w4.heap.size K1 S1 tn dn from by rw [hK1, hS1]; exact HU7.out)
  have HVB := Lib.hid (show VerB w7 w6.heap.size K2 S2 tn' dn' from by rw [hK2, hS2]; exact HV7.out)
  clear HU7 HV7
  clear hK1 hS1 hK2 hS2 hw5 hw7 hkr hk1
  have d1 : decide (bm < S1) = false := decide_eq_false (by have := HS1.out; omega)
  have HX7 := Lib.hid HRX.out
  have hKK : (K2 == K1) = true ∨ K2 = 3 := by
    rcases HCASE.out with ⟨_, h2, _⟩ | ⟨_, h2, _⟩
    · exact .inl (by simp [h2])
    · exact .inr h2
  have HKK := Lib.hid hKK
  clear hKK hbm1 hbm2 HK1 HRC HCE HBM
  go_cut [66] (fun r wx => r = .bool false ∧ Below w7.heap.size w7 wx)
  case first =>
    have HBd := Lib.hid ((Below.refl w7.heap.size w7).drew)
    have u0d : w7.drew.cell? ⟨w4.heap.size, 0, none⟩ = some (vi K1) := u0
    have u1d : w7.drew.cell? ⟨w4.heap.size, 1, none⟩ = some (vi S1) := u1
    have x1d : w7.drew.cell? ⟨w6.heap.size, 1, none⟩ = some (vi S2) := x1
    have HRd := Lib.hid (show RdTxns w7.drew (.slice a2 ts.length c2) ts from HR7.out)
    have d2 : decide (max budget 0 < S2) = false := decide_eq_false (by rcases HCASE.out with ⟨h1, _, h3⟩ | ⟨_, _, h3⟩ <;> omega)
    go_region_held3 (fun w' : World => w'.cell? ⟨w4.heap.size, 0, none⟩ = some (vi K1) ∧ w'.cell? ⟨w4.heap.size, 1, none⟩ = some (vi S1) ∧ w'.cell? ⟨w6.heap.size, 1, none⟩ = some (vi S2))
      (first | exact ⟨u0d, u1d, x1d⟩ | exact ⟨u0e, u1e, x1e⟩)
      (first | (go_at_call 22; refine (HBC.out _ _ HRd.out).mono ?_; rintro e8 w8 ⟨rfl, hb8⟩; have HB8 := Lib.hid (HBd.out.trans hb8); have u0e := cell_later hb8 u0d; have u1e := cell_later hb8 u1d; have x1e := cell_later hb8 x1d; clear hb8))
    all_goals
      go_wp2
      go_meet
      exact ⟨by first | rfl | simp [d1, d2, e1], HB8.out⟩
  case rest =>
    obtain ⟨wz, rfl⟩ : ∃ wz : World, wz = wc := ⟨_, rfl⟩
    obtain ⟨rfl, hbz⟩ := hcut
    have HUz := Lib.hid (HUB.out.later hbz)
    have HVz := Lib.hid (HVB.out.later hbz)
    have HBz := Lib.hid (HB7.out.trans (hbz.mono HB7.out.size))
    clear hbz u0 u1 x0 x1 x5 x6
    obtain ⟨u0, u1, -, -⟩ := HUz.out.cells
    obtain ⟨x0, x1, ⟨tb, td, x5⟩, eb, ed, x6⟩ := HVz.out.cells
    rcases HCASE.out with ⟨h1, h2, h3⟩ | ⟨h1, h2, h3⟩
    · have d3 : decide (S1 ≤ max budget 0) = true := decide_eq_true h1
      have d4 : (K2 == K1) = true := by simp [h2]
      have d5 : (S2 == S1) = true := by simp [h3]
      clear h1 h2 h3 d1
      go_wp2_with fail
      all_goals
        go_ret
        exact ⟨by first | rfl | simp [d4, d5], HBz.out⟩
    · have d3 : decide (S1 ≤ max budget 0) = false := decide_eq_false (by omega)
      have d4 : (K2 == 3) = true := by simp [h2]
      obtain ⟨h5, h6⟩ := H36.out h2
      subst h5
      subst h6
      clear h1 h2 h3 d1
      go_wp2_with fail
      all_goals
        go_ret
        exact ⟨by first | rfl | simp [d4], HBz.out⟩
end Go.Proofs.YtnacoplokjdglaaGreat.checkBudgets
