/- Texts of one proof, one behind the other: RefK, RefS, RefC, Right, Last, Twice, Answer, OfMem, SureEq, Fact. -/
import Derived.Test.YtnacoplokjdglaaGreatKp1
import Derived.Test.YtnacoplokjdglaaGreatKp2
import Derived.Test.YtnacoplokjdglaaGreatKp3
set_option linter.all false
namespace Go.Proofs.YtnacoplokjdglaaGreat
open Go.RowKit Go.Maps
/-- crucibleref09.writes. -/
def refWk (l : List GOp) (key : Int) : Bool := (writesM l).any (fun o => o.key == key)

theorem mem_last {l : List GOp} {k : Nat} {o : GOp} (ho : o ∈ l) (hh : hitB k o = true) : ∃ p, lastW l k = some p := by
  unfold lastW
  obtain ⟨i, hi, rfl⟩ := List.mem_iff_getElem.1 ho
  have hm : (i, l[i]) ∈ revL l := by
    unfold revL
    rw [List.mem_reverse, List.mem_map]
    exact ⟨(l[i], i), List.mem_zipIdx_iff_getElem?.2 (List.getElem?_eq_getElem hi), rfl⟩
  cases hf : (revL l).find? (fun p => hitB k p.2) with
  | some p => exact ⟨p.2, by simp⟩
  | none =>
    rw [List.find?_eq_none] at hf
    exact absurd hh (hf _ hm)

/-- Both ways to ask whether a key is written. -/
theorem refWk_eq (l : List GOp) (k : Nat) (hk : k < 16) : refWk l (k : Int) = l.any (hitK (k : Int)) := by
  rw [Bool.eq_iff_iff]
  unfold refWk
  rw [List.any_eq_true, List.any_eq_true]
  constructor
  · rintro ⟨o, ho, hk'⟩
    unfold writesM writesTo at ho
    rw [List.mem_filterMap] at ho
    obtain ⟨m, hm, hl⟩ := ho
    obtain ⟨h1, h2⟩ := lastW_mem hl
    refine ⟨o, h1, ?_⟩
    simp [hitB] at h2
    simp at hk'
    simp [hitK, h2.1, hk']
  · rintro ⟨o, ho, hh⟩
    have hb : hitB k o = true := by simpa [hitB, hitK] using hh
    obtain ⟨p, hp⟩ := mem_last ho hb
    refine ⟨p, ?_, ?_⟩
    · unfold writesM writesTo
      rw [List.mem_filterMap]
      exact ⟨k, by simpa using hk, hp⟩
    · have := (lastW_mem hp).2
      simp [hitB] at this
      simp [this.2]

set_option maxRecDepth 100000 in
set_option maxHeartbeats 1000000 in
theorem refWk_call (c s : Int) (v : Value) (l : List GOp) (key : Int) (w : World) (hv : RdOps w v l) (hl : l.length ≤ 1048576) :
    Calls Tryz.prog 37 #[.agg #[vi c, vi s, v], .int .i64 key] w fun e w' => e = .returned (.bool (refWk l key)) ∧ Below w.heap.size w w' := by
  have hB : Below w.heap.size w (w.alloc (.cells #[vi c, vi s, v] 49)) := (Below.refl _ _).alloc (Nat.le_refl _) _
  have hV := hv.later hB
  have HV := Lib.hid hV
  have HB := Lib.hid hB
  clear hv hV hB
  go_enter Tryz.func37, Tryz.ntmps37
  go_wp2_with (go_at_call 35; refine (refWrites_call c s _ l _ HV.out hl).mono ?_; rintro e w2 ⟨v2, rfl, ho2, hb2⟩; have hr2 := ho2.rd; obtain ⟨a2, len2, cap2, rfl, rfl, hm2, -⟩ := hr2.at)
  have HR2 := Lib.hid hr2
  have HB2 := Lib.hid (HB.out.trans (hb2.mono HB.out.size))
  have hs2 := HB2.out.size
  have HE := Lib.hid (show refWk l key = (writesM l).any (fun o => o.key == key) from rfl)
  clear hr2 ho2 hb2
  generalize writesM l = ws at *
  go_loopw [6, 10] (fun _ i wr => ∃ k : Nat, k ≤ ws.length ∧ i = .int .i64 k ∧ (∀ j o, j < k → ws[j]? = some o → (o.key == key) = false) ∧ Below w2.heap.size w2 wr) (fun _ i _ => ws.length - (intOf i).toNat)
  case atStart => exact ⟨0, Nat.zero_le _, rfl, fun j u hj => absurd hj (Nat.not_lt_zero _), Below.refl _ _⟩
  case round =>
    obtain ⟨wk, rfl⟩ : ∃ wk : World, wk = wr := ⟨_, rfl⟩
    obtain ⟨k, hk, rfl, hno, hb⟩ := hrel
    have HN := Lib.hid hno
    have HBk := Lib.hid hb
    have hwk := hb.size
    clear hno hb
    by_cases hlt : k < ws.length
    · obtain ⟨o, ho⟩ := some_at hlt
      obtain ⟨_, _, _, e5, -, -, hcl⟩ := HR2.out.at
      cases e5
      obtain ⟨b, off, rfl, k0', k1', k2'⟩ := hcl k o ho
      have k0 := cell_later HBk.out k0'
      have k1 := cell_later HBk.out k1'
      have k2 := cell_later HBk.out k2'
      have HO := Lib.hid ho
      clear hcl ho k0' k1' k2'
      cases hh : o.key == key with
      | true =>
        go_wp2_with fail
        go_ret
        have e : refWk l key = true := by rw [HE.out, List.any_eq_true]; exact ⟨o, List.mem_of_getElem? HO.out, hh⟩
        exact ⟨by rw [e]; rfl, HB2.out.trans ((HBk.out.alloc hwk _).mono hs2)⟩
      | false =>
        go_wp2_with fail
        go_roundw
        case rel =>
          refine ⟨k + 1, by omega, by go_num, ?_, HBk.out.alloc hwk _⟩
          intro j o' hj ho'
          rcases Nat.lt_or_ge j k with h | h
          · exact HN.out j o' h ho'
          · obtain rfl : j = k := by omega
            rw [HO.out] at ho'; cases ho'; exact hh
        case measure => simp [intOf]; omega
    · obtain rfl : k = ws.length := by omega
      go_wp2_with fail
      go_ret
      have e : refWk l key = false := by
        rw [HE.out, List.any_eq_false]
        intro x hx
        obtain ⟨j, hj, rfl⟩ := List.mem_iff_getElem.1 hx
        have := HN.out j _ hj (List.getElem?_eq_getElem hj)
        simpa using this
      exact ⟨by rw [e]; rfl, HB2.out.trans (HBk.out.mono hs2)⟩
end Go.Proofs.YtnacoplokjdglaaGreat

namespace Go.Proofs.YtnacoplokjdglaaGreat
open Go.RowKit Go.Maps

def bV (b : Bool) : List Value := [.bool b]
def OwBs (base : Nat) (w : World) (v : Value) (L : List Bool) : Prop := w.ownsRow base 4 1 v L.length (L.flatMap bV)
theorem eltBool : Elt Tryz.prog 34 4 1 1 (.bool false) := by
  obtain ⟨i0, hi, hz0, hz1, hz2⟩ := info_parts Tryz.infoBool
  exact ⟨Tryz.underlying34, by decide, rfl, i0, hi, hz0, hz1, hz2⟩

def hitS (ts : List GTxn) (st : Int) (i : Nat) (o : GOp) : Bool := o.val != 0 && st == 0 && writerM ts o.key o.val == (i : Int)
def hitT (ts : List GTxn) (st : Int) (i : Nat) (t : GTxn) : Bool := (readsM t).any (hitS ts st i)
def refSure1 (ts : List GTxn) (i : Nat) : Bool := stOf ts i == 1 || ts.any (hitT ts (stOf ts i) i)
def refSureN (ts : List GTxn) (n : Nat) : List Bool := (List.range n).map (refSure1 ts)
theorem refSureN_succ (ts : List GTxn) (n : Nat) : refSureN ts (n + 1) = refSureN ts n ++ [refSure1 ts n] := by
  unfold refSureN; rw [List.range_succ, List.map_append]; rfl
theorem refSureN_length (ts : List GTxn) (n : Nat) : (refSureN ts n).length = n := by simp [refSureN]
theorem readsM_le (t : GTxn) (h : t.ops.length ≤ 1048576) : (readsM t).length ≤ 1048576 := by
  unfold readsM; split
  · exact Nat.le_trans (readsS_le _) h
  · simp

set_option maxRecDepth 100000 in
set_option maxHeartbeats 2000000 in
theorem refSure_call (v : Value) (ts : List GTxn) (w : World) (hv : RdTxns w v ts) (hok : OkTxns ts) :
    Calls Tryz.prog 36 #[v] w fun e w' => ∃ v', e = .returned v' ∧ OwBs w.heap.size w' v' (refSureN ts ts.length) ∧ Below w.heap.size w w' := by
  have HV := Lib.hid hv
  have HOK := Lib.hid hok
  have htl := hok.1
  obtain ⟨a, len, cap, rfl, rfl, hm, -⟩ := hv.at
  clear hv hok
  go_enter Tryz.func36, Tryz.ntmps36
  go_wp2_with fail
  go_loopw [3, 4, 5, 6, 12] (fun v _ _ _ i wr => ∃ k : Nat, k ≤ ts.length ∧ i = .int .i64 k ∧ OwBs w.heap.size wr v (refSureN ts k) ∧ Below w.heap.size w wr) (fun _ _ _ _ i _ => ts.length - (intOf i).toNat)
  case atStart => exact ⟨0, Nat.zero_le _, rfl, World.ownsRow_lit (base := w.heap.size) (e := 4) (size := 1) w #[] 0 (Nat.le_refl _) (by simp [maxLen]) rfl, (Below.refl _ _).alloc (Nat.le_refl _) _⟩
  case round =>
    obtain ⟨wi, rfl⟩ : ∃ wi : World, wi = wr := ⟨_, rfl⟩
    obtain ⟨k, hk, rfl, ho, hb⟩ := hrel
    have HOk := Lib.hid ho
    have HBk := Lib.hid hb
    have hwk := hb.size
    clear ho hb
    by_cases hlt : k < ts.length
    · obtain ⟨t, ht⟩ := some_at hlt
      obtain ⟨_, _, _, e5, -, -, hcl⟩ := HV.out.at
      cases e5
      obtain ⟨b, off, oa, oc, rfl, hr, k0', k1', k2'⟩ := hcl k t ht
      have k1 := cell_later HBk.out k1'
      have HK1 := Lib.hid k1'
      have hst : stOf ts k = t.state := by simp [stOf, ht]
      have HN := Lib.hid (refSureN_succ ts k)
      have HC := Lib.hid hcl
      have hk1 : (k : Int) < (ts.length : Int) := by omega
      have HS1 := Lib.hid (show refSure1 ts k = (t.state == 1 || ts.any (hitT ts t.state k)) by unfold refSure1; rw [hst])
      clear hcl ht hr k0' k1' k2' hst
      go_wp2_with fail
      go_loopw [5, 6, 23] (fun m _ i wr => ∃ q : Nat, q ≤ ts.length ∧ i = .int .i64 q ∧ m = .bool (t.state == 1 || (ts.take q).any (hitT ts t.state k)) ∧ Below wi.heap.size wi wr) (fun _ _ i _ => ts.length - (intOf i).toNat)
      case atStart => exact ⟨0, Nat.zero_le _, rfl, by simp, Below.refl _ _⟩
      case round =>
        obtain ⟨wq, rfl⟩ : ∃ wq : World, wq = wr := ⟨_, rfl⟩
        obtain ⟨q, hq, rfl, rfl, hb⟩ := hrel
        have HBq := Lib.hid hb
        have hwq := hb.size
        have HWq := Lib.hid (HBk.out.trans (hb.mono hwk))
        clear hb k1
        by_cases hlt2 : q < ts.length
        · obtain ⟨u, hu⟩ := some_at hlt2
          obtain ⟨_, _, ua, uc, e6, hru, u0', u1', u2'⟩ := HC.out q u hu
          cases e6
          have u0 := cell_later HWq.out u0'
          have u1 := cell_later HWq.out u1'
          have u2 := cell_later HWq.out u2'
          have hok2 := (HOK.out.2 u (List.mem_of_getElem? hu)).2
          have HOP := Lib.hid (HOK.out.2 u (List.mem_of_getElem? hu)).1
          have HA := Lib.hid (any_next (p := hitT ts t.state k) hu)
          have HRU := Lib.hid (hru.later HWq.out)
          generalize hS0 : (t.state == 1 || (ts.take q).any (hitT ts t.state k)) = S0 at *
          have HS0 := Lib.hid hS0
          clear hu hru u0' u1' u2' hS0
          go_wp2_with (go_at_call 45; refine (refReads_call u.client u.state _ u.ops _ HRU.out hok2).mono ?_; rintro e w2 ⟨v2, rfl, ho2, hb2⟩; have hr2 := ho2.rd; obtain ⟨a2, len2, cap2, rfl, rfl, hm2, -⟩ := hr2.at)
          have hws : (readsM ⟨u.client, u.state, u.ops⟩) = readsM u := rfl
          rw [hws] at hr2 hm2
          have HR2 := Lib.hid hr2
          have HB2 := Lib.hid (HBq.out.trans (hb2.mono hwq))
          have HW2 := Lib.hid (HWq.out.trans (hb2.mono HWq.out.size))
          have hrl := readsM_le u hok2
          have HT := Lib.hid (show hitT ts t.state k u = (readsM u).any (hitS ts t.state k) from rfl)
          clear ho2 hb2 hr2 u0 u1 u2
          try rw [hws]
          generalize readsM u = rs at *
          go_loopw [5, 8, 32] (fun m _ i wr => ∃ j : Nat, j ≤ rs.length ∧ i = .int .i64 j ∧ m = .bool (S0 || (rs.take j).any (hitS ts t.state k)) ∧ Below w2.heap.size w2 wr) (fun _ _ i _ => rs.length - (intOf i).toNat)
          case atStart => exact ⟨0, Nat.zero_le _, rfl, by simp, Below.refl _ _⟩
          case round =>
            obtain ⟨wj, rfl⟩ : ∃ wj : World, wj = wr := ⟨_, rfl⟩
            obtain ⟨j, hj, rfl, rfl, hb⟩ := hrel
            have HBj := Lib.hid hb
            have hwj := hb.size
            clear hb
            by_cases hlt3 : j < rs.length
            · obtain ⟨o, ho⟩ := some_at hlt3
              obtain ⟨_, _, _, e7, -, -, hcl⟩ := HR2.out.at
              cases e7
              obtain ⟨ob, ooff, rfl, y0', y1', y2'⟩ := hcl j o ho
              have y0 := cell_later HBj.out y0'
              have y1 := cell_later HBj.out y1'
              have y2 := cell_later HBj.out y2'
              have z1 := fun o' => cell_later ((HW2.out.trans (HBj.out.mono HW2.out.size)).alloc (by have := HW2.out.size; omega) o') HK1.out
              have HWj := Lib.hid (fun o' => HV.out.later ((HW2.out.trans (HBj.out.mono HW2.out.size)).alloc (by have := HW2.out.size; omega) o'))
              have HA2 := Lib.hid (any_next (p := hitS ts t.state k) ho)
              clear hcl ho y0' y1' y2'
              generalize hS1 : (S0 || (rs.take j).any (hitS ts t.state k)) = S1 at *
              have HG := Lib.hid (show ∀ x, hitS ts t.state k o = x → Value.bool (S1 || x) = .bool (S0 || (rs.take (j + 1)).any (hitS ts t.state k)) from fun x hx => by rw [HA2.out, ← Bool.or_assoc, hS1, hx])
              have HHS := Lib.hid (show hitS ts t.state k o = (o.val != 0 && t.state == 0 && writerM ts o.key o.val == (k : Int)) from rfl)
              clear hS1
              cases S1 with
              | true =>
                go_wp2_with fail
                go_roundw
                case rel => exact ⟨j + 1, by omega, by go_num, HG.out _ rfl, HBj.out.alloc hwj _⟩
                case measure => simp [intOf]; omega
              | false =>
                by_cases h0 : o.val = 0
                · have h0' : (o.val != 0) = false := by simp [h0]
                  rw [h0'] at HHS
                  clear h0
                  go_wp2_with fail
                  go_roundw
                  case rel => exact ⟨j + 1, by omega, by go_num, HG.out false (by rw [HHS.out]; rfl), HBj.out.alloc hwj _⟩
                  case measure => simp [intOf]; omega
                · have h0' : (o.val != 0) = true := by simp [h0]
                  rw [h0'] at HHS
                  clear h0
                  by_cases h1 : t.state = 0
                  · have h1' : (t.state == 0) = true := by simp [h1]
                    rw [h1'] at HHS
                    clear h1
                    go_wp2_with (go_at_call 46; refine (writer_call _ ts o.key o.val _ (HWj.out _)).mono ?_; rintro e w3 ⟨rfl, hb3⟩)
                    go_roundw
                    case rel => exact ⟨j + 1, by omega, by go_num, HG.out (writerM ts o.key o.val == (k : Int)) (by rw [HHS.out]; rfl), (HBj.out.alloc hwj _).trans (hb3.mono (by simp; omega))⟩
                    case measure => simp [intOf]; omega
                  · have h1' : (t.state == 0) = false := by simp [h1]
                    rw [h1'] at HHS
                    clear h1
                    go_wp2_with fail
                    go_roundw
                    case rel => exact ⟨j + 1, by omega, by go_num, HG.out false (by rw [HHS.out]; rfl), HBj.out.alloc hwj _⟩
                    case measure => simp [intOf]; omega
            · obtain rfl : j = rs.length := by omega
              rw [List.take_length]
              go_wp2_with fail
              go_roundw
              case rel =>
                refine ⟨q + 1, by omega, by go_num, ?_, HB2.out.trans (HBj.out.mono HB2.out.size)⟩
                rw [HA.out, ← Bool.or_assoc, HS0.out, HT.out]
              case measure => simp [intOf]; omega
        · obtain rfl : q = ts.length := by omega
          rw [List.take_length, ← HS1.out]
          have HOq := Lib.hid (own_below HOk.out HBq.out)
          have hle := refSureN_length ts k
          go_wp2_with (at_builtin; refine wpList_append_src rfl _ _ 34 rfl eltBool w.heap.size (refSureN ts k).length _ (HOq.out.alloc _) rfl 1 (bV (refSure1 ts k)) (src_new (cs := #[.bool (refSure1 ts k)]) rfl rfl) rfl (by intro u hu; simp [bV] at hu; subst hu; rfl) (by omega) (by omega) (by simp; omega) ?_; intro v1 w2 ho1 hg1 _)
          have hbl : ∀ j, u3.ownBlock = some j → w.heap.size ≤ j := fun j hj => (HOq.out.lt j hj).1
          go_roundw
          case rel =>
            refine ⟨k + 1, by omega, by go_num, ?_, ?_⟩
            · rw [HN.out]; simpa [OwBs] using ho1
            · exact (HWq.out.alloc (by omega) _).grown hg1 (by simp; omega) hbl
          case measure => simp [intOf]; omega
    · obtain rfl : k = ts.length := by omega
      go_wp2_with fail
      go_ret
      exact ⟨_, rfl, HOk.out, HBk.out⟩
end Go.Proofs.YtnacoplokjdglaaGreat

namespace Go.Proofs.YtnacoplokjdglaaGreat
open Go.RowKit Go.Maps

theorem Tryz.infoRc : (Tryz.prog.info? 76).map (fun i => (i.zero, i.size, i.bytes)) = some (some (.agg #[vi 0, vi 0, vi 0, vi 0]), 4, 32) := by kernel_rfl
theorem eltRc : Elt Tryz.prog 28 76 4 32 (.agg #[vi 0, vi 0, vi 0, vi 0]) := by
  obtain ⟨i0, hi, hz0, hz1, hz2⟩ := info_parts Tryz.infoRc
  exact ⟨Tryz.underlying28, by decide, rfl, i0, hi, hz0, hz1, hz2⟩

/-- Rows of two kinds lie in two blocks. -/
theorem own_apart {w : World} {b b' e e' m m' n n' : Nat} {v v' : Value} {xs xs' : List Value} (h : w.ownsRow b e m v n xs) (h' : w.ownsRow b' e' m' v' n' xs') (he : e ≠ e') : v'.ownBlock = none ∨ v'.ownBlock ≠ v.ownBlock := by
  rcases h'.2 with ⟨hv', _⟩ | ⟨g', cap', cur', hv', _, hh', _⟩
  · left; rw [hv']; rfl
  · right
    rcases h.2 with ⟨hv, _⟩ | ⟨g, cap, cur, hv, _, hh, _⟩
    · rw [hv, hv']; simp [Value.ownBlock]
    · rw [hv, hv']
      intro e1
      have : g' = g := by simpa [Value.ownBlock] using e1
      subst this
      rw [hh] at hh'
      simp at hh'
      exact he hh'.2

/-- What crucibleref09.Choices keeps of memory. -/
structure StC (w : World) (vs : Value) (S : List Bool) (v : Value) (L : List GChoice) (W : World) : Prop where
  out : OwCh 76 w.heap.size W v L
  row : OwBs w.heap.size W vs S
  below : Below w.heap.size w W
theorem StC.later {w A B : World} {vs v : Value} {S : List Bool} {L : List GChoice} (h : StC w vs S v L A) (hb : Below A.heap.size A B) : StC w vs S v L B :=
  ⟨own_below h.out hb, own_below h.row hb, h.below.trans (hb.mono h.below.size)⟩
theorem StC.app {w A B : World} {vs v v' : Value} {S : List Bool} {L L' : List GChoice} (h : StC w vs S v L A) (hg : A.grownBy B v.ownBlock) (ho : OwCh 76 w.heap.size B v' L') : StC w vs S v' L' B :=
  ⟨ho, World.ownsRow.kept h.row hg (own_apart h.out h.row (by decide)), h.below.grown hg h.below.size (fun j hj => (World.ownsRow.lt h.out j hj).1)⟩
theorem StC.more {w A : World} {vs v : Value} {S : List Bool} {L : List GChoice} (h : StC w vs S v L A) (o : Obj) : StC w vs S v L (A.alloc o) := h.later ((Below.refl _ _).alloc (Nat.le_refl _) _)
theorem OwBs.at {base : Nat} {w : World} {v : Value} {L : List Bool} (h : OwBs base w v L) : ∃ a cap, v = .slice a L.length cap ∧ ∀ j x, L[j]? = some x → ∃ b off, a = some ⟨b, off, none⟩ ∧ w.cell? ⟨b, off + j, none⟩ = some (.bool x) := by
  obtain ⟨a, len, cap, h1, h2, h3, h4, h5, h6⟩ := rds_of_own (V := bV) (fun _ => rfl) h
  subst h2
  refine ⟨a, cap, h1, fun j x hj => ?_⟩
  obtain ⟨b, off, cs, ha, hl, hc, rfl⟩ := h6 j x hj
  exact ⟨b, off, ha, by simpa using hc 0 _ rfl⟩

/-- crucibleref09.Choices. -/
def refChoicesM (ts : List GTxn) : List GChoice := cmS (refSureN ts ts.length) ts ts.length ++ befK ts 16

set_option maxRecDepth 100000 in
set_option maxHeartbeats 4000000 in
theorem refChoices_call (v : Value) (ts : List GTxn) (w : World) (hv : RdTxns w v ts) (hok : OkTxns ts) (htl : ts.length ≤ 4096) :
    Calls Tryz.prog 16 #[v] w fun e w' => ∃ v', e = .returned v' ∧ OwCh 76 w.heap.size w' v' (refChoicesM ts) ∧ Below w.heap.size w w' := by
  have HV := Lib.hid hv
  have HOK := Lib.hid hok
  obtain ⟨a, len, cap, rfl, rfl, hm, -⟩ := hv.at
  clear hv hok
  have hB0 := (Below.refl w.heap.size w).alloc (Nat.le_refl _) (.cells #[] 76)
  have hO0 := World.ownsRow_lit (base := w.heap.size) (e := 76) (size := 4) w #[] 0 (Nat.le_refl _) (by simp [maxLen]) rfl
  have HB0 := Lib.hid hB0
  have HO0 := Lib.hid hO0
  clear hB0 hO0
  go_enter Tryz.func16, Tryz.ntmps16
  go_wp2_with (go_at_call 36; refine (refSure_call _ _ _ (HV.out.later HB0.out) HOK.out).mono ?_; rintro e w1 ⟨vs, rfl, hS, hb1⟩; obtain ⟨sa, sc, hvs, -⟩ := OwBs.at hS; rw [refSureN_length] at hvs; subst hvs)
  have HST := Lib.hid (show StC w (.slice sa ts.length sc) (refSureN ts ts.length) (.slice (some ⟨w.heap.size, 0, none⟩) 0 0) [] w1 from ⟨own_below HO0.out hb1, own_mono hS (by simp), HB0.out.trans (hb1.mono HB0.out.size)⟩)
  have HCM := Lib.hid (show refChoicesM ts = cmS (refSureN ts ts.length) ts ts.length ++ befK ts 16 from rfl)
  have HRL := Lib.hid (refSureN_length ts ts.length)
  clear hS hb1
  generalize refSureN ts ts.length = S at *
  go_loopw [3, 5, 14] (fun v _ i wr => ∃ k : Nat, k ≤ ts.length ∧ i = .int .i64 k ∧ StC w (.slice sa ts.length sc) S v (cmS S ts k) wr) (fun _ _ i _ => ts.length - (intOf i).toNat)
  case atStart => exact ⟨0, Nat.zero_le _, rfl, HST.out⟩
  case round =>
    obtain ⟨wo, rfl⟩ : ∃ wo : World, wo = wr := ⟨_, rfl⟩
    obtain ⟨k, hk, rfl, hst⟩ := hrel
    have HT := Lib.hid hst
    have HW := Lib.hid hst.below
    have hws := hst.below.size
    by_cases hlt : k < ts.length
    · obtain ⟨t, ht⟩ := some_at hlt
      obtain ⟨_, _, _, e5, -, -, hcl⟩ := HV.out.at
      cases e5
      obtain ⟨b, off, oa, oc, rfl, hr, k0', k1', k2'⟩ := hcl k t ht
      have k0 := cell_later HW.out k0'
      have k1 := cell_later HW.out k1'
      have k2 := cell_later HW.out k2'
      obtain ⟨x, hx⟩ := some_at (l := S) (k := k) (by rw [HRL.out]; exact hlt)
      obtain ⟨_, _, e6, hsc⟩ := OwBs.at hst.row
      simp only [Value.slice.injEq] at e6
      obtain ⟨rfl, -, rfl⟩ := e6
      obtain ⟨sb, so, rfl, x0⟩ := hsc k x hx
      have HE := Lib.hid (show openB S k t = (t.state == 0 && !x && decide (0 < (writesM t.ops).length)) by unfold openB; rw [hx]; rfl)
      have HN := Lib.hid (cmS_succ (S := S) ht)
      have HR := Lib.hid (hr.later HW.out)
      obtain ⟨hok1, hok2⟩ := HOK.out.2 t (List.mem_of_getElem? ht)
      have hkS : (k : Int) < (ts.length : Int) := by omega
      clear hcl ht hr hok1 k0' k1' k2' hx hsc hst
      go_upto_region 6 with fail
      go_cut [38] (fun r wx => r = .bool (openB S k t) ∧ StC w (.slice (some ⟨sb, so, none⟩) ts.length sc) S u3 (cmS S ts k) wx)
      case first =>
        by_cases hs0 : t.state = 0
        · have h0 : (t.state == 0) = true := by simp [hs0]
          rw [h0] at HE
          clear hs0
          cases x
          · go_wp2_with (go_at_call 35; refine (refWrites_call t.client t.state _ t.ops _ HR.out hok2).mono ?_; rintro e w2 ⟨v2, rfl, ho2, hb2⟩; have hr2 := ho2.rd; obtain ⟨a2, len2, cap2, rfl, rfl, hm2, -⟩ := hr2.at)
            go_meet
            exact ⟨by rw [HE.out]; rfl, HT.out.later hb2⟩
          · go_wp2_with fail
            go_meet
            exact ⟨by rw [HE.out]; rfl, HT.out⟩
        · have h0 : (t.state == 0) = false := by simp [hs0]
          rw [h0] at HE
          clear hs0
          go_wp2_with fail
          go_meet
          exact ⟨by rw [HE.out]; rfl, HT.out⟩
      case rest =>
        obtain ⟨rfl, hst2⟩ := hcut
        have hsz := hst2.below.size
        have HS2 := Lib.hid hst2
        have hle := cmS_le S ts k
        clear hst2 k0 k1 k2 x0
        cases hc : openB S k t with
        | true =>
          rw [hc] at HN
          clear hc
          go_wp2_with (at_builtin; refine wpList_append_src rfl _ _ 28 rfl eltRc w.heap.size (cmS S ts k).length _ (HS2.out.more _).out rfl 1 (chV ⟨1, 0, k, 0⟩) (src_new (cs := #[vi 1, vi 0, vi k, vi 0]) rfl rfl) rfl (chV_one _) (by omega) (by omega) (by simp; omega) ?_; intro v1 w2 ho1 hg1 _)
          go_roundw
          case rel =>
            refine ⟨k + 1, by omega, by go_num, ?_⟩
            rw [HN.out]; exact (HS2.out.more _).app hg1 (by simpa [OwCh] using ho1)
          case measure => simp [intOf]; omega
        | false =>
          rw [hc] at HN
          clear hc
          go_wp2_with fail
          go_roundw
          case rel =>
            refine ⟨k + 1, by omega, by go_num, ?_⟩
            rw [HN.out]; simpa using HS2.out
          case measure => simp [intOf]; omega
    · obtain rfl : k = ts.length := by omega
      clear hst
      go_wp2_with fail
      have hcl0 := cmS_le S ts ts.length
      generalize cmS S ts ts.length = c0 at *
      go_loopw [3, 6] (fun v i wr => ∃ k : Nat, k ≤ 16 ∧ i = .int .i64 k ∧ StC w (.slice sa ts.length sc) S v (c0 ++ befK ts k) wr) (fun _ i _ => 16 - (intOf i).toNat)
      case atStart => exact ⟨0, Nat.zero_le _, rfl, by simpa [befK] using HT.out⟩
      case round =>
        obtain ⟨wk, rfl⟩ : ∃ wk : World, wk = wr := ⟨_, rfl⟩
        obtain ⟨k, hk, rfl, hst⟩ := hrel
        by_cases hlt : k < 16
        · have hck := befK_le ts htl k
          have hk16 : (k : Int) < 16 := by omega
          have HN := Lib.hid (befK_succ ts k)
          have HSk := Lib.hid hst
          clear hst
          generalize befK ts k = ck at *
          go_wp2_with fail
          go_loopw [3, 7] (fun v i wr => ∃ q : Nat, q ≤ ts.length ∧ i = .int .i64 q ∧ StC w (.slice sa ts.length sc) S v (c0 ++ ck ++ befB ts k q) wr) (fun _ i _ => ts.length - (intOf i).toNat)
          case atStart => exact ⟨0, Nat.zero_le _, rfl, by simpa [befB] using HSk.out⟩
          case round =>
            obtain ⟨wq, rfl⟩ : ∃ wq : World, wq = wr := ⟨_, rfl⟩
            obtain ⟨q, hq, rfl, hst⟩ := hrel
            by_cases hlt2 : q < ts.length
            · have hcq := befB_le ts k q (by omega)
              have hqI : (q : Int) < (ts.length : Int) := by omega
              have HNq := Lib.hid (befB_succ ts k q)
              have HSq := Lib.hid hst
              clear hst
              generalize befB ts k q = cq at *
              go_wp2_with fail
              go_loopw [3, 8] (fun v i wr => ∃ p : Nat, p ≤ q ∧ i = .int .i64 p ∧ StC w (.slice sa ts.length sc) S v (c0 ++ ck ++ cq ++ befA ts k q p) wr) (fun _ i _ => q - (intOf i).toNat)
              case atStart => exact ⟨0, Nat.zero_le _, rfl, by simpa [befA] using HSq.out⟩
              case round =>
                obtain ⟨wp, rfl⟩ : ∃ wp : World, wp = wr := ⟨_, rfl⟩
                obtain ⟨p, hp, rfl, hst⟩ := hrel
                by_cases hlt3 : p < q
                · have hcp := befA_le ts k q p
                  have hpI : (p : Int) < (q : Int) := by omega
                  have hpJ : (p : Int) < (ts.length : Int) := by omega
                  have HNp := Lib.hid (befA_succ ts k q p)
                  have HSp := Lib.hid hst
                  have HW := Lib.hid hst.below
                  have hwp := hst.below.size
                  clear hst
                  obtain ⟨ta, hta⟩ := some_at (l := ts) (k := p) (by omega)
                  obtain ⟨tb, htb⟩ := some_at (l := ts) (k := q) (by omega)
                  obtain ⟨_, _, _, e5, -, -, hcl⟩ := HV.out.at
                  cases e5
                  obtain ⟨b, off, oa, oc, rfl, hra, a0', a1', a2'⟩ := hcl p ta hta
                  obtain ⟨_, _, ob, oc2, e6, hrb, b0', b1', b2'⟩ := hcl q tb htb
                  cases e6
                  have k0 := cell_later HW.out a0'
                  have k1 := cell_later HW.out a1'
                  have k2 := cell_later HW.out a2'
                  have m0 := cell_later HW.out b0'
                  have m1 := cell_later HW.out b1'
                  have m2 := cell_later HW.out b2'
                  have HRA := Lib.hid (hra.later HW.out)
                  have HRB := Lib.hid (hrb.later HW.out)
                  have HC := Lib.hid (show condB ts k p q = (ta.state != 2 && tb.state != 2 && writesK ta k && writesK tb k) by simp [condB, stOf, wrOf, hta, htb])
                  have hoka := (HOK.out.2 ta (List.mem_of_getElem? hta)).2
                  have hokb := (HOK.out.2 tb (List.mem_of_getElem? htb)).2
                  have HEA := Lib.hid (refWk_eq (l := ta.ops) (k := k) hlt)
                  have HEB := Lib.hid (refWk_eq (l := tb.ops) (k := k) hlt)
                  clear hcl hta htb hra hrb a0' a1' a2' b0' b1' b2'
                  go_upto_region 18 with fail
                  go_cut [89] (fun r wx => r = .bool (condB ts k p q) ∧ StC w (.slice sa ts.length sc) S u3 (c0 ++ ck ++ cq ++ befA ts k q p) wx)
                  case first =>
                    by_cases hs0 : ta.state = 2
                    · have h0 : (ta.state != 2) = false := by simp [hs0]
                      rw [h0] at HC
                      clear hs0
                      go_wp2_with fail
                      go_meet
                      exact ⟨by rw [HC.out]; rfl, HSp.out⟩
                    · have h0 : (ta.state != 2) = true := by simp [hs0]
                      rw [h0] at HC
                      clear hs0
                      by_cases hs2 : tb.state = 2
                      · have h2 : (tb.state != 2) = false := by simp [hs2]
                        rw [h2] at HC
                        clear hs2
                        go_wp2_with fail
                        go_meet
                        exact ⟨by rw [HC.out]; rfl, HSp.out⟩
                      · have h2 : (tb.state != 2) = true := by simp [hs2]
                        rw [h2] at HC
                        clear hs2
                        cases hwa : writesK ta k with
                        | false =>
                          have HWA := Lib.hid (HEA.out.trans hwa)
                          rw [hwa] at HC
                          clear hwa
                          go_wp2_with (go_at_call 37; refine (refWk_call ta.client ta.state _ ta.ops k _ HRA.out hoka).mono ?_; rintro e w2 ⟨rfl, hb2⟩; rw [HWA.out])
                          go_meet
                          exact ⟨by rw [HC.out]; rfl, HSp.out.later hb2⟩
                        | true =>
                          have HWA := Lib.hid (HEA.out.trans hwa)
                          have HWB := Lib.hid (show refWk tb.ops k = writesK tb k from HEB.out)
                          rw [hwa] at HC
                          clear hwa
                          go_wp2_with (first
                            | (go_at_call 37; with_reducible refine (refWk_call ta.client ta.state _ ta.ops k _ HRA.out hoka).mono ?_; rintro e w2 ⟨rfl, hb2⟩; rw [HWA.out]; replace m0 := cell_later hb2 m0; replace m1 := cell_later hb2 m1; replace m2 := cell_later hb2 m2; replace HRB := Lib.hid (HRB.out.later hb2))
                            | (go_at_call 37; refine (refWk_call tb.client tb.state _ tb.ops k _ HRB.out hokb).mono ?_; rintro e w3 ⟨rfl, hb3⟩; rw [HWB.out]))
                          go_meet
                          exact ⟨by rw [HC.out]; rfl, (HSp.out.later hb2).later hb3⟩
                  case rest =>
                    obtain ⟨rfl, hst2⟩ := hcut
                    have hsz := hst2.below.size
                    have HS2 := Lib.hid hst2
                    clear hst2 k0 k1 k2 m0 m1 m2
                    cases hc : condB ts k p q with
                    | true =>
                      rw [hc] at HNp
                      clear hc
                      go_wp2_with (at_builtin; refine wpList_append_src rfl _ _ 28 rfl eltRc w.heap.size (c0 ++ ck ++ cq ++ befA ts k q p).length _ (HS2.out.more _).out rfl 1 (chV ⟨2, k, p, q⟩) (src_new (cs := #[vi 2, vi k, vi p, vi q]) rfl rfl) rfl (chV_one _) (by simp only [List.length_append]; omega) (by omega) (by simp; omega) ?_; intro v1 w2 ho1 hg1 _)
                      go_roundw
                      case rel =>
                        refine ⟨p + 1, by omega, by go_num, ?_⟩
                        rw [HNp.out]; exact (HS2.out.more _).app hg1 (by simpa [OwCh, List.append_assoc, Nat.add_assoc] using ho1)
                      case measure => simp [intOf]; omega
                    | false =>
                      rw [hc] at HNp
                      clear hc
                      go_wp2_with fail
                      go_roundw
                      case rel =>
                        refine ⟨p + 1, by omega, by go_num, ?_⟩
                        rw [HNp.out]; simpa using HS2.out
                      case measure => simp [intOf]; omega
                · obtain rfl : p = q := by omega
                  have HSp := Lib.hid hst
                  clear hst
                  go_wp2_with fail
                  go_roundw
                  case rel =>
                    refine ⟨p + 1, by omega, by go_num, ?_⟩
                    rw [HNq.out, ← List.append_assoc]; exact HSp.out
                  case measure => simp [intOf]; omega
            · obtain rfl : q = ts.length := by omega
              have HSq := Lib.hid hst
              clear hst
              go_wp2_with fail
              go_roundw
              case rel =>
                refine ⟨k + 1, by omega, by go_num, ?_⟩
                rw [HN.out, ← List.append_assoc]; exact HSq.out
              case measure => simp [intOf]; omega
        · obtain rfl : k = 16 := by omega
          go_wp2_with fail
          go_ret
          refine ⟨_, rfl, ?_, hst.below⟩
          unfold OwCh; rw [HCM.out]; exact hst.out
end Go.Proofs.YtnacoplokjdglaaGreat

namespace Go.Proofs.YtnacoplokjdglaaGreat
open Go.RowKit Go.Maps
/-- An operation that may be. -/
structure GoodOp (o : GOp) : Prop where
  kind : o.kind = 1 ∨ o.kind = 2
  key0 : 0 ≤ o.key
  key1 : o.key ≤ 15
  val0 : 0 ≤ o.val
  val1 : o.val < 1099511627776
/-- An event that may be. -/
structure GoodEv (e : GEvent) : Prop where
  kind0 : 1 ≤ e.kind
  kind1 : e.kind ≤ 4
  cl0 : 1 ≤ e.client
  cl1 : e.client ≤ 16
  len : e.ops.length ≤ 12
  ops : ∀ o ∈ e.ops, GoodOp o

theorem beq_t {a b : Int} (h : a = b) : (a == b) = true := by simp [h]
theorem beq_f {a b : Int} (h : a ≠ b) : (a == b) = false := by simp [h]
theorem bne_t {a b : Int} (h : a ≠ b) : (a != b) = true := by simp [h]
theorem bne_f {a b : Int} (h : a = b) : (a != b) = false := by simp [h]

end Go.Proofs.YtnacoplokjdglaaGreat

namespace Go.Proofs.YtnacoplokjdglaaGreat
open Go.RowKit Go.Maps
/-- What a walk wants of an event in a readable slice. -/
theorem RdEvents.at {w : World} {v : Value} {l : List GEvent} (h : RdEvents w v l) : ∃ a len cap, v = .slice a len cap ∧ len = l.length ∧ l.length ≤ 9223372036854775807 ∧
    ∀ j x, l[j]? = some x → ∃ b off oa oc, a = some ⟨b, off, none⟩ ∧ RdOps w (.slice oa x.ops.length oc) x.ops ∧ w.cell? ⟨b, off + j * 3, none⟩ = some (vi x.kind) ∧ w.cell? ⟨b, off + j * 3 + 1, none⟩ = some (vi x.client) ∧ w.cell? ⟨b, off + j * 3 + 2, none⟩ = some (.slice oa x.ops.length oc) := by
  obtain ⟨a, len, cap, h1, h2, h3, h6⟩ := RdS.at3 h
  refine ⟨a, len, cap, h1, h2, h3, fun j x hj => ?_⟩
  obtain ⟨b, off, c0, c1, c2, ha, ⟨ov, he, hr⟩, k0, k1, k2⟩ := h6 j x hj
  obtain ⟨oa, ol, oc, rfl, rfl, _⟩ := hr.at
  simp only [List.cons.injEq, and_true] at he
  obtain ⟨rfl, rfl, rfl⟩ := he
  exact ⟨b, off, oa, oc, ha, hr, k0, k1, k2⟩

end Go.Proofs.YtnacoplokjdglaaGreat

namespace Go.Proofs.YtnacoplokjdglaaGreat
open Go.RowKit Go.Maps
/-- Of the first k events none has written what the i-th operation at a place writes. -/
def FreshK (es : List GEvent) (at' i k : Nat) (o : GOp) : Prop := ∀ (k' : Nat) (e : GEvent) (j : Nat) (p : GOp), k' < k → es[k']? = some e → e.kind = 1 → e.ops[j]? = some p → (k' < at' ∨ j < i) → p.kind = 2 → p.val ≠ o.val
def FreshJ (e : GEvent) (at' i k j : Nat) (o : GOp) : Prop := ∀ (j' : Nat) (p : GOp), j' < j → e.ops[j']? = some p → (k < at' ∨ j' < i) → p.kind = 2 → p.val ≠ o.val
/-- What the first n operations at a place write was not written ahead. -/
def FreshN (es : List GEvent) (l : List GOp) (at' n : Nat) : Prop := ∀ (i : Nat) (o : GOp), i < n → l[i]? = some o → o.kind = 2 → FreshK es at' i (at' + 1) o

theorem FreshK.next {es : List GEvent} {at' i k : Nat} {o : GOp} {e : GEvent} (h : FreshK es at' i k o) (he : es[k]? = some e) (hk : e.kind = 1 → FreshJ e at' i k e.ops.length o) : FreshK es at' i (k + 1) o := by
  intro k' e' j p hlt he' h1 hp hc h2
  rcases Nat.lt_or_ge k' k with h' | h'
  · exact h k' e' j p h' he' h1 hp hc h2
  · obtain rfl : k' = k := by omega
    rw [he] at he'; cases he'
    exact hk h1 j p (List.getElem?_eq_some_iff.1 hp).1 hp hc h2
theorem FreshJ.next {e : GEvent} {at' i k j : Nat} {o p : GOp} (h : FreshJ e at' i k j o) (hp : e.ops[j]? = some p) (hk : (k < at' ∨ j < i) → p.kind = 2 → p.val ≠ o.val) : FreshJ e at' i k (j + 1) o := by
  intro j' p' hlt hp' hc h2
  rcases Nat.lt_or_ge j' j with h' | h'
  · exact h j' p' h' hp' hc h2
  · obtain rfl : j' = j := by omega
    rw [hp] at hp'; cases hp'
    exact hk hc h2
theorem FreshN.next {es : List GEvent} {l : List GOp} {at' n : Nat} {o : GOp} (h : FreshN es l at' n) (ho : l[n]? = some o) (hk : o.kind = 2 → FreshK es at' n (at' + 1) o) : FreshN es l at' (n + 1) := by
  intro i o' hlt ho' h2
  rcases Nat.lt_or_ge i n with h' | h'
  · exact h i o' h' ho' h2
  · obtain rfl : i = n := by omega
    rw [ho] at ho'; cases ho'
    exact hk h2

end Go.Proofs.YtnacoplokjdglaaGreat

namespace Go.Proofs.YtnacoplokjdglaaGreat
open Go.RowKit Go.Maps
/-- An operation told is of the same kind and key as the one asked, and a write writes the same. -/
def SameShape (o p : GOp) : Prop := o.kind = p.kind ∧ o.key = p.key ∧ (o.kind = 2 → o.val = p.val)
def ShapeN (l m : List GOp) (n : Nat) : Prop := ∀ (i : Nat) (o p : GOp), i < n → m[i]? = some o → l[i]? = some p → SameShape o p
theorem ShapeN.next {l m : List GOp} {n : Nat} {o p : GOp} (h : ShapeN l m n) (ho : m[n]? = some o) (hp : l[n]? = some p) (hs : SameShape o p) : ShapeN l m (n + 1) := by
  intro i o' p' hlt ho' hp'
  rcases Nat.lt_or_ge i n with h' | h'
  · exact h i o' p' h' ho' hp'
  · obtain rfl : i = n := by omega
    rw [ho] at ho'; cases ho'
    rw [hp] at hp'; cases hp'
    exact hs

end Go.Proofs.YtnacoplokjdglaaGreat

namespace Go.Proofs.YtnacoplokjdglaaGreat
open Go.RowKit Go.Maps

abbrev TxL := List (GTxn × Value)
def txV (p : GTxn × Value) : List Value := [vi p.1.client, vi p.1.state, p.2]
theorem txV_length (p : GTxn × Value) : (txV p).length = 3 := rfl
theorem Tryz.infoTxn : (Tryz.prog.info? 49).map (fun i => (i.zero, i.size, i.bytes)) = some (some (.agg #[vi 0, vi 0, .slice none 0 0]), 3, 40) := by kernel_rfl
theorem eltTxn : Elt Tryz.prog 24 49 3 40 (.agg #[vi 0, vi 0, .slice none 0 0]) := by
  obtain ⟨i0, hi, hz0, hz1, hz2⟩ := info_parts Tryz.infoTxn
  exact ⟨Tryz.underlying24, by decide, rfl, i0, hi, hz0, hz1, hz2⟩
theorem Tryz.infoInt : (Tryz.prog.info? 3).map (fun i => (i.zero, i.size, i.bytes)) = some (some (vi 0), 1, 8) := by kernel_rfl
theorem eltInt : Elt Tryz.prog 58 3 1 8 (vi 0) := by
  obtain ⟨i0, hi, hz0, hz1, hz2⟩ := info_parts Tryz.infoInt
  exact ⟨Tryz.underlying58, by decide, rfl, i0, hi, hz0, hz1, hz2⟩

/-- Rows of two kinds lie in two blocks. -/
theorem rows_apart {w : World} {b b' e e' m m' n n' : Nat} {v v' : Value} {xs xs' : List Value} (h : w.ownsRow b e m v n xs) (h' : w.ownsRow b' e' m' v' n' xs') (he : e ≠ e') : v'.ownBlock = none ∨ v'.ownBlock ≠ v.ownBlock := by
  rcases h'.2 with ⟨hv', _⟩ | ⟨g', cap', cur', hv', _, hh', _⟩
  · left; rw [hv']; rfl
  · right
    rcases h.2 with ⟨hv, _⟩ | ⟨g, cap, cur, hv, _, hh, _⟩
    · rw [hv, hv']; simp [Value.ownBlock]
    · rw [hv, hv']
      intro e1
      have : g' = g := by simpa [Value.ownBlock] using e1
      subst this
      rw [hh] at hh'
      simp at hh'
      exact he hh'.2

/-- A block of another kind stays while an owned row is written. -/
theorem own_box {A B : World} {b n m bx : Nat} {e T : TypeId} {v : Value} {xs : List Value} {cs : Array Value} (h : A.ownsRow b e n v m xs) (hbx : A.heap[bx]? = some (.cells cs T)) (hT : T ≠ e) (hg : A.grownBy B v.ownBlock) : B.heap[bx]? = some (.cells cs T) := by
  rw [hg.block bx (Array.getElem?_eq_some_iff.1 hbx).1, hbx]
  intro hc
  rcases h.2 with ⟨hv, _⟩ | ⟨g, cap, cur, hv, _, hh, _⟩
  · rw [hv] at hc; simp [Value.ownBlock] at hc
  · rw [hv] at hc
    have : bx = g := by simpa [Value.ownBlock] using hc
    subst this
    rw [hbx] at hh
    simp at hh
    exact hT hh.2

structure OfS (w : World) (vo vf : Value) (L : TxL) (F : List Nat) (W : World) : Prop where
  out : W.ownsRow w.heap.size 49 3 vo L.length (L.flatMap txV)
  ops : ∀ p ∈ L, OwOps w.heap.size W p.2 p.1.ops
  frm : W.ownsRow w.heap.size 3 1 vf F.length (F.map (fun n : Nat => vi (n : Int)))
  below : Below w.heap.size w W
theorem OfS.later {w A B : World} {vo vf : Value} {L : TxL} {F : List Nat} (h : OfS w vo vf L F A) (hb : Below A.heap.size A B) : OfS w vo vf L F B :=
  ⟨own_below h.out hb, fun p hp => own_below (h.ops p hp) hb, own_below h.frm hb, h.below.trans (hb.mono h.below.size)⟩
theorem OfS.more {w A : World} {vo vf : Value} {L : TxL} {F : List Nat} (h : OfS w vo vf L F A) (o : Obj) : OfS w vo vf L F (A.alloc o) := h.later ((Below.refl _ _).alloc (Nat.le_refl _) _)
/-- The transactions are written; those that stand there now have their operations in memory that was there. -/
theorem OfS.wrote {w A B : World} {vo vo' vf : Value} {L L' : TxL} {F : List Nat} (h : OfS w vo vf L F A) (hg : A.grownBy B vo.ownBlock) (ho : B.ownsRow w.heap.size 49 3 vo' L'.length (L'.flatMap txV)) (hops : ∀ p ∈ L', OwOps w.heap.size A p.2 p.1.ops) : OfS w vo' vf L' F B :=
  ⟨ho, fun p hp => World.ownsRow.kept (hops p hp) hg (rows_apart h.out (hops p hp) (by decide)), World.ownsRow.kept h.frm hg (rows_apart h.out h.frm (by decide)), h.below.grown hg h.below.size (fun j hj => (World.ownsRow.lt h.out j hj).1)⟩
theorem OfS.from' {w A B : World} {vo vf vf' : Value} {L : TxL} {F F' : List Nat} (h : OfS w vo vf L F A) (hg : A.grownBy B vf.ownBlock) (ho : B.ownsRow w.heap.size 3 1 vf' F'.length (F'.map (fun n : Nat => vi (n : Int)))) : OfS w vo vf' L F' B :=
  ⟨World.ownsRow.kept h.out hg (rows_apart h.frm h.out (by decide)), fun p hp => World.ownsRow.kept (h.ops p hp) hg (rows_apart h.frm (h.ops p hp) (by decide)), ho, h.below.grown hg h.below.size (fun j hj => (World.ownsRow.lt h.frm j hj).1)⟩

theorem OfS.rd {w A : World} {vo vf : Value} {L : TxL} {F : List Nat} (h : OfS w vo vf L F A) : RdTxns A vo (L.map (·.1)) := by
  obtain ⟨a, len, cap, h1, h2, h3, h4, h5, h6⟩ := rds_of_own (V := txV) txV_length h.out
  refine ⟨a, len, cap, h1, by simpa using h2, by simpa using h3, h4, h5, fun j x hj => ?_⟩
  rw [List.getElem?_map, Option.map_eq_some_iff] at hj
  obtain ⟨p, hp, rfl⟩ := hj
  obtain ⟨b, off, cs, ha, hl, hc, rfl⟩ := h6 j p hp
  exact ⟨b, off, _, ha, hl, hc, p.2, rfl, (h.ops p (List.mem_of_getElem? hp)).rd⟩

theorem shapeN_refl (l : List GOp) (n : Nat) : ShapeN l l n := fun i o p _ ho hp => by rw [ho] at hp; cases hp; exact ⟨rfl, rfl, fun _ => rfl⟩

/-- Each written value belongs to one transaction. -/
def Uniq (ts : List GTxn) : Prop := ∀ (i j : Nat) (t u : GTxn), ts[i]? = some t → ts[j]? = some u → ∀ o ∈ t.ops, ∀ p ∈ u.ops, o.kind = 2 → p.kind = 2 → o.val = p.val → i = j
/-- What is known of a history's transactions. -/
structure GoodTs (ts : List GTxn) : Prop where
  len : ts.length ≤ 60
  txn : ∀ t ∈ ts, (0 ≤ t.state ∧ t.state ≤ 2) ∧ (∀ o ∈ t.ops, GoodOp o) ∧ t.ops.length ≤ 12
  uniq : Uniq ts
theorem GoodTs.ok {ts : List GTxn} (h : GoodTs ts) : OkTxns ts := by
  refine ⟨by have := h.len; omega, fun t ht => ?_⟩
  obtain ⟨-, h2, h3⟩ := h.txn t ht
  refine ⟨fun o ho => ?_, by omega⟩
  have g := h2 o ho
  have := g.kind; have := g.key0; have := g.key1; have := g.val0; have := g.val1
  unfold i64
  omega
end Go.Proofs.YtnacoplokjdglaaGreat

namespace Go.Proofs.YtnacoplokjdglaaGreat
open Go.RowKit Go.Maps

theorem foldBy_any (n : Nat) (key val : Int) : ∀ (l : List GOp) (L : ByL), getM (l.foldl (stepBy n) L) (key, val) = if l.any (wroteB key val) then some (n : Int) else getM L (key, val) := by
  intro l
  induction l with
  | nil => intro L; rfl
  | cons o l ih =>
    intro L
    rw [List.foldl_cons, ih, List.any_cons]
    cases h1 : l.any (wroteB key val)
    · simp only [Bool.or_false, Bool.false_eq_true, if_false]
      unfold stepBy wroteB
      by_cases hk : o.kind = 2
      · rw [if_pos hk, getM_put]
        by_cases h2 : o.key = key <;> by_cases h3 : o.val = val <;> simp [hk, h2, h3]
      · simp [hk]
    · simp

theorem byN_none {ts : List GTxn} {key val : Int} : ∀ n, n ≤ ts.length → (∀ (j : Nat) (u : GTxn), j < n → ts[j]? = some u → u.ops.any (wroteB key val) = false) → getM (byN ts n) (key, val) = none := by
  intro n
  induction n with
  | zero => intro _ _; rfl
  | succ n ih =>
    intro hn h
    obtain ⟨t, ht⟩ := some_at hn
    rw [byN_succ ht, foldBy_any, h n t (by omega) ht]
    exact ih (by omega) fun j u hj hu => h j u (by omega) hu
theorem byN_one {ts : List GTxn} {key val : Int} {i : Nat} {t : GTxn} (ht : ts[i]? = some t) (hh : t.ops.any (wroteB key val) = true) :
    ∀ n, n ≤ ts.length → i < n → (∀ (j : Nat) (u : GTxn), j ≠ i → ts[j]? = some u → u.ops.any (wroteB key val) = false) → getM (byN ts n) (key, val) = some (i : Int) := by
  intro n
  induction n with
  | zero => intro _ h; omega
  | succ n ih =>
    intro hn hi h
    obtain ⟨u, hu⟩ := some_at hn
    rw [byN_succ hu, foldBy_any]
    by_cases he : n = i
    · subst he
      rw [ht] at hu; cases hu
      rw [hh]; rfl
    · rw [h n u he hu]
      exact ih (by omega) (by omega) h

theorem wrote_val {key val : Int} {l : List GOp} (h : l.any (wroteB key val) = true) : ∃ o ∈ l, o.kind = 2 ∧ o.val = val := by
  rw [List.any_eq_true] at h
  obtain ⟨o, ho, hh⟩ := h
  simp [wroteB] at hh
  exact ⟨o, ho, hh.1.1, hh.2⟩

/-- Both ways to name who wrote a value to a key. -/
theorem by_writer {ts : List GTxn} (hu : Uniq ts) (key val : Int) : (getM (byN ts ts.length) (key, val) = none ∧ writerM ts key val = -1) ∨ ∃ (i : Nat) (t : GTxn), ts[i]? = some t ∧ getM (byN ts ts.length) (key, val) = some (i : Int) ∧ writerM ts key val = i := by
  by_cases h : ∃ (i : Nat) (t : GTxn), ts[i]? = some t ∧ t.ops.any (wroteB key val) = true
  · obtain ⟨i, t, ht, hh⟩ := h
    have hno : ∀ (j : Nat) (u : GTxn), j ≠ i → ts[j]? = some u → u.ops.any (wroteB key val) = false := by
      intro j u hj hju
      cases hc : u.ops.any (wroteB key val) with
      | false => rfl
      | true =>
        obtain ⟨o, ho, hk, hv⟩ := wrote_val hh
        obtain ⟨p, hp, hk', hv'⟩ := wrote_val hc
        exact absurd (hu j i u t hju ht p hp o ho hk' hk (by rw [hv, hv'])) hj
    have hlt := (List.getElem?_eq_some_iff.1 ht).1
    exact .inr ⟨i, t, ht, byN_one ht hh _ (Nat.le_refl _) hlt hno, writerM_at ht hh fun j u hj hju => hno j u (by omega) hju⟩
  · have hno : ∀ (j : Nat) (u : GTxn), ts[j]? = some u → u.ops.any (wroteB key val) = false := by
      intro j u hju
      cases hc : u.ops.any (wroteB key val) with
      | false => rfl
      | true => exact absurd ⟨j, u, hju, hc⟩ h
    exact .inl ⟨byN_none _ (Nat.le_refl _) fun j u _ hju => hno j u hju, writerM_none hno⟩

theorem getB_set (L : List Bool) (j i : Nat) (b : Bool) (hi : i < L.length) : ((L.set j b)[i]?).getD false = if j = i then b else (L[i]?).getD false := by
  rw [List.getElem?_set]
  by_cases h : j = i
  · subst h; simp [hi]
  · simp [h]

theorem sureR_at {ts : List GTxn} (hu : Uniq ts) (L : List Bool) (o : GOp) (i : Nat) (hi : i < L.length) (_hl : L.length = ts.length) :
    ((sureR (byN ts ts.length) ts L o)[i]?).getD false = ((L[i]?).getD false || hitS ts (stOf ts i) i o) := by
  unfold sureR hitS
  rcases by_writer hu o.key o.val with ⟨h1, h2⟩ | ⟨j, t, hj, h1, h2⟩
  · rw [h1, h2]
    have : ((-1 : Int) == (i : Int)) = false := by rw [beq_eq_false_iff_ne]; omega
    simp [this]
  · rw [h1, h2]
    simp only [Int.toNat_natCast, hj, Option.map_some]
    by_cases hji : j = i
    · subst hji
      have hst : stOf ts j = t.state := by simp [stOf, hj]
      rw [hst]
      by_cases hv : o.val = 0 <;> by_cases hs : t.state = 0
      · simp [hv]
      · simp [hv]
      · rw [if_pos ⟨hv, by rw [hs]⟩, getB_set _ _ _ _ hi]; simp [hv, hs]
      · rw [if_neg (fun h => hs (by simpa using h.2))]; simp [hs]
    · have : ((j : Int) == (i : Int)) = false := by rw [beq_eq_false_iff_ne]; omega
      rw [this, Bool.and_false, Bool.or_false]
      split
      · rw [getB_set _ _ _ _ hi, if_neg hji]
      · rfl

theorem foldR_at {ts : List GTxn} (hu : Uniq ts) (i : Nat) : ∀ (l : List GOp) (L : List Bool), i < L.length → L.length = ts.length →
    ((l.foldl (sureR (byN ts ts.length) ts) L)[i]?).getD false = ((L[i]?).getD false || l.any (hitS ts (stOf ts i) i)) := by
  intro l
  induction l with
  | nil => intro L _ _; simp
  | cons o l ih =>
    intro L hi hl
    rw [List.foldl_cons, ih _ (by rw [sureR_length]; exact hi) (by rw [sureR_length]; exact hl), sureR_at hu L o i hi hl, List.any_cons, Bool.or_assoc]

theorem sureN_at {ts : List GTxn} (hu : Uniq ts) (i : Nat) (hi : i < ts.length) : ∀ n, n ≤ ts.length →
    ((sureN ts n)[i]?).getD false = ((decide (i < n) && stOf ts i == 1) || (ts.take n).any (hitT ts (stOf ts i) i)) := by
  intro n
  induction n with
  | zero => intro _; simp [sureN, hi]
  | succ n ih =>
    intro hn
    obtain ⟨t, ht⟩ := some_at hn
    have hl := sureN_length ts n (by omega)
    rw [sureN_succ ht]; unfold sureT
    rw [foldR_at hu i _ _ (by rw [List.length_set, hl]; exact hi) (by rw [List.length_set, hl]), getB_set _ _ _ _ (by rw [hl]; exact hi), take_at ht, List.any_append]
    simp only [List.any_cons, List.any_nil, Bool.or_false]
    rw [show (readsM t).any (hitS ts (stOf ts i) i) = hitT ts (stOf ts i) i t from rfl, ← Bool.or_assoc]
    congr 1
    by_cases h : n = i
    · subst h
      rw [if_pos rfl, ih (by omega)]
      have hst : stOf ts n = t.state := by simp [stOf, ht]
      simp only [hst, Nat.lt_irrefl, decide_false, Bool.false_and, Bool.false_or, Nat.lt_succ_self, decide_true, Bool.true_and]
      exact Bool.or_comm _ _
    · rw [if_neg h, ih (by omega)]
      have : decide (i < n) = decide (i < n + 1) := by rw [decide_eq_decide]; omega
      rw [this]

/-- Both ways to say who must have been done. -/
theorem sure_eq {ts : List GTxn} (hu : Uniq ts) : sureM ts = refSureN ts ts.length := by
  apply List.ext_getElem?
  intro i
  by_cases hi : i < ts.length
  · have h1 := sureN_at hu i hi ts.length (Nat.le_refl _)
    have hl : i < (sureM ts).length := by rw [sureM_length]; exact hi
    have hl2 : i < (refSureN ts ts.length).length := by rw [refSureN_length]; exact hi
    rw [List.getElem?_eq_getElem hl, List.getElem?_eq_getElem hl2]
    have h2 : (sureN ts ts.length)[i]? = some (sureM ts)[i] := List.getElem?_eq_getElem hl
    rw [h2] at h1
    simp only [Option.getD_some, List.take_length, hi, decide_true, Bool.true_and] at h1
    rw [h1]
    simp [refSureN, refSure1]
  · rw [List.getElem?_eq_none (by rw [sureM_length]; omega), List.getElem?_eq_none (by rw [refSureN_length]; omega)]

theorem choices_eq {ts : List GTxn} (hu : Uniq ts) : choicesM ts = refChoicesM ts := by unfold choicesM refChoicesM; rw [sure_eq hu]
end Go.Proofs.YtnacoplokjdglaaGreat

namespace Go.Proofs.YtnacoplokjdglaaGreat
open Go.RowKit Go.Maps

deriving instance DecidableEq for GChoice

theorem choiceKeyed : Keyed Tryz.prog 128 := Keyed.of_law (deep_law_laid laidOutP (m := 2) (by omega) (of_decide_eq_true (by kernel_rfl)) (by kernel_rfl) (by rw [Tryz.underlying128]))

abbrev chK (c : GChoice) : Value := .agg #[vi c.kind, vi c.key, vi c.a, vi c.b]
theorem chK_inj (x y : GChoice) (h : chK x = chK y) : x = y := by
  obtain ⟨a, b, c, d⟩ := x; obtain ⟨a', b', c', d'⟩ := y
  simp [chK] at h; obtain ⟨rfl, rfl, rfl, rfl⟩ := h; rfl
def SmallCh (c : GChoice) : Prop := i64 c.kind ∧ i64 c.key ∧ i64 c.a ∧ i64 c.b

theorem choiceLits {c : GChoice} (h : SmallCh c) (d : Nat) : Tryz.prog.keyLits (d + 1 + 1) 128 [vi c.kind, vi c.key, vi c.a, vi c.b] = some [.int .i64 c.kind, .int .i64 c.key, .int .i64 c.a, .int .i64 c.b] := by
  have hc : Tryz.prog.cellsOf 128 = 4 := by kernel_rfl
  have hi : Tryz.prog.cellsOf 3 = 1 := by kernel_rfl
  obtain ⟨h1, h2, h3, h4⟩ := h
  unfold Program.keyLits
  rw [Tryz.underlying128]
  simp [hc, hi, lit_int h1, lit_int h2, lit_int h3, lit_int h4]
theorem choiceKey {c : GChoice} (h : SmallCh c) : ∃ kl, keyOf Tryz.prog 128 (chK c) = some kl := by
  have hk : Tryz.prog.keyType 128 = true := by kernel_rfl
  have hc : Tryz.prog.cellsOf 128 = 4 := by kernel_rfl
  obtain ⟨d, hd⟩ : ∃ d, Tryz.prog.types.size = d + 1 := ⟨Tryz.prog.types.size - 1, by have : 0 < Tryz.prog.types.size := of_decide_eq_true (by kernel_rfl); omega⟩
  have hf : (chK c).formed Tryz.prog 128 = true := by simp [Value.formed, Tryz.underlying128, hc]
  have hl := choiceLits h d
  unfold keyOf
  rw [Tryz.underlying128, hd]
  simp [hk, hf, Value.cells, hl]

abbrev FaL := List (GChoice × Bool)
abbrev MapF (w : World) (b : Nat) (L : FaL) : Prop := MapT Tryz.prog 128 chK Value.bool w b L
def saidV (p : GChoice × Bool) : List Value := [vi p.1.kind, vi p.1.key, vi p.1.a, vi p.1.b, .bool p.2]
theorem saidV_length (p : GChoice × Bool) : (saidV p).length = 5 := rfl
theorem saidV_one (p : GChoice × Bool) : ∀ u ∈ saidV p, u.oneCell' = true := by
  intro u hu; simp [saidV] at hu; rcases hu with rfl | rfl | rfl | rfl | rfl <;> rfl
abbrev RdSaid (w : World) (v : Value) (G : FaL) : Prop := RdS 5 (fun _ cs x => cs = saidV x) w v G
def OwSaid (base : Nat) (w : World) (v : Value) (G : FaL) : Prop := w.ownsRow base 109 5 v G.length (G.flatMap saidV)
theorem OwSaid.rd {base : Nat} {w : World} {v : Value} {G : FaL} (h : OwSaid base w v G) : RdSaid w v G := rds_of_own saidV_length h
theorem RdSaid.later {w w' : World} {v : Value} {G : FaL} (h : RdSaid w v G) (hb : Below w.heap.size w w') : RdSaid w' v G := RdS.below h hb fun _ _ h => h
theorem RdSaid.at {w : World} {v : Value} {l : FaL} (h : RdSaid w v l) : ∃ a len cap, v = .slice a len cap ∧ len = l.length ∧ l.length ≤ 9223372036854775807 ∧
    ∀ j x, l[j]? = some x → ∃ b off, a = some ⟨b, off, none⟩ ∧ w.cell? ⟨b, off + j * 5, none⟩ = some (vi x.1.kind) ∧ w.cell? ⟨b, off + j * 5 + 1, none⟩ = some (vi x.1.key) ∧ w.cell? ⟨b, off + j * 5 + 2, none⟩ = some (vi x.1.a) ∧ w.cell? ⟨b, off + j * 5 + 3, none⟩ = some (vi x.1.b) ∧ w.cell? ⟨b, off + j * 5 + 4, none⟩ = some (.bool x.2) := by
  obtain ⟨a, len, cap, h1, h2, h3, h4, h5, h6⟩ := h
  refine ⟨a, len, cap, h1, h2, h3, fun j x hj => ?_⟩
  obtain ⟨b, off, cs, ha, hl, hc, rfl⟩ := h6 j x hj
  exact ⟨b, off, ha, by simpa using hc 0 _ rfl, by simpa [Nat.add_assoc] using hc 1 _ rfl, by simpa [Nat.add_assoc] using hc 2 _ rfl, by simpa [Nat.add_assoc] using hc 3 _ rfl, by simpa [Nat.add_assoc] using hc 4 _ rfl⟩
theorem Tryz.infoSaid : (Tryz.prog.info? 109).map (fun i => (i.zero, i.size, i.bytes)) = some (some (.agg #[vi 0, vi 0, vi 0, vi 0, .bool false]), 5, 40) := by kernel_rfl
theorem eltSaid : Elt Tryz.prog 60 109 5 40 (.agg #[vi 0, vi 0, vi 0, vi 0, .bool false]) := by
  obtain ⟨i0, hi, hz0, hz1, hz2⟩ := info_parts Tryz.infoSaid
  exact ⟨Tryz.underlying60, by decide, rfl, i0, hi, hz0, hz1, hz2⟩

/-- What crucibleref09.Get says. -/
def getI (G : FaL) (c : GChoice) : Int := match getM G c with
  | some true => 1
  | some false => 0
  | none => -1
theorem getI_one (G : FaL) (c : GChoice) : (getI G c == 1) = (getM G c).getD false := by unfold getI; cases getM G c with | none => rfl | some b => cases b <;> rfl
/-- What a choice of a history looks like. -/
structure OkCh (n : Nat) (c : GChoice) : Prop where
  key : 0 ≤ c.key ∧ c.key < 16
  a : 0 ≤ c.a ∧ c.a < n
  b : 0 ≤ c.b ∧ c.b < n
  kind : c.kind = 1 ∧ c.key = 0 ∧ c.b = 0 ∨ c.kind = 2 ∧ c.a < c.b
theorem OkCh.small {n : Nat} {c : GChoice} (h : OkCh n c) (hn : n ≤ 4096) : SmallCh c := by
  have := h.key; have := h.a; have := h.b; have := h.kind
  unfold SmallCh i64; omega

theorem cmS_mem {S : List Bool} {ts : List GTxn} {c : GChoice} {n : Nat} (h : c ∈ cmS S ts n) : ∃ i : Nat, i < n ∧ i < ts.length ∧ c = ⟨1, 0, i, 0⟩ := by
  unfold cmS at h
  rw [List.mem_filterMap] at h
  obtain ⟨i, hi, h⟩ := h
  rw [List.mem_range] at hi
  cases ht : ts[i]? with
  | none => simp [ht] at h
  | some t =>
    have := (List.getElem?_eq_some_iff.1 ht).1
    simp only [ht, Option.bind_some] at h
    split at h
    · simp at h; exact ⟨i, hi, this, h.symm⟩
    · simp at h
theorem befA_mem {ts : List GTxn} {key b n : Nat} {c : GChoice} (h : c ∈ befA ts key b n) : ∃ a : Nat, a < n ∧ c = ⟨2, key, a, b⟩ := by
  unfold befA at h
  rw [List.mem_filterMap] at h
  obtain ⟨a, ha, h⟩ := h
  rw [List.mem_range] at ha
  split at h
  · simp at h; exact ⟨a, ha, h.symm⟩
  · simp at h
theorem befB_mem {ts : List GTxn} {key n : Nat} {c : GChoice} (h : c ∈ befB ts key n) : ∃ a b : Nat, a < b ∧ b < n ∧ c = ⟨2, key, a, b⟩ := by
  unfold befB at h
  rw [List.mem_flatMap] at h
  obtain ⟨b, hb, h⟩ := h
  rw [List.mem_range] at hb
  obtain ⟨a, ha, rfl⟩ := befA_mem h
  exact ⟨a, b, ha, hb, rfl⟩
theorem befK_mem {ts : List GTxn} {n : Nat} {c : GChoice} (h : c ∈ befK ts n) : ∃ key a b : Nat, key < n ∧ a < b ∧ b < ts.length ∧ c = ⟨2, key, a, b⟩ := by
  unfold befK at h
  rw [List.mem_flatMap] at h
  obtain ⟨k, hk, h⟩ := h
  rw [List.mem_range] at hk
  obtain ⟨a, b, ha, hb, rfl⟩ := befB_mem h
  exact ⟨k, a, b, hk, ha, hb, rfl⟩
theorem choicesM_ok {ts : List GTxn} {c : GChoice} (h : c ∈ choicesM ts) : OkCh ts.length c := by
  unfold choicesM at h
  rw [List.mem_append] at h
  rcases h with h | h
  · obtain ⟨i, h1, h2, rfl⟩ := cmS_mem h
    exact ⟨⟨by simp, by simp⟩, ⟨by simp, by simpa using h2⟩, ⟨by simp, by simp; omega⟩, .inl ⟨rfl, rfl, rfl⟩⟩
  · obtain ⟨k, a, b, h1, h2, h3, rfl⟩ := befK_mem h
    exact ⟨⟨by simp, by simp; omega⟩, ⟨by simp, by simp; omega⟩, ⟨by simp, by simp; omega⟩, .inr ⟨rfl, by simp; omega⟩⟩

theorem cmS_nodup (S : List Bool) (ts : List GTxn) : ∀ n, (cmS S ts n).Nodup := by
  intro n
  induction n with
  | zero => simp [cmS]
  | succ n ih =>
    cases ht : ts[n]? with
    | none =>
      have : cmS S ts (n + 1) = cmS S ts n := by simp [cmS, List.range_succ, ht]
      rw [this]; exact ih
    | some t =>
      rw [cmS_succ ht, List.nodup_append]
      refine ⟨ih, by split <;> simp, fun c hc d hd => ?_⟩
      obtain ⟨i, h1, _, rfl⟩ := cmS_mem hc
      split at hd
      · simp at hd; subst hd; simp; omega
      · simp at hd
theorem befA_nodup (ts : List GTxn) (key b : Nat) : ∀ n, (befA ts key b n).Nodup := by
  intro n
  induction n with
  | zero => simp [befA]
  | succ n ih =>
    rw [befA_succ, List.nodup_append]
    refine ⟨ih, by split <;> simp, fun c hc d hd => ?_⟩
    obtain ⟨i, h1, rfl⟩ := befA_mem hc
    split at hd
    · simp at hd; subst hd; simp; omega
    · simp at hd
theorem befB_nodup (ts : List GTxn) (key : Nat) : ∀ n, (befB ts key n).Nodup := by
  intro n
  induction n with
  | zero => simp [befB]
  | succ n ih =>
    rw [befB_succ, List.nodup_append]
    refine ⟨ih, befA_nodup _ _ _ _, fun c hc d hd => ?_⟩
    obtain ⟨a, b, h1, h2, rfl⟩ := befB_mem hc
    obtain ⟨a', h3, rfl⟩ := befA_mem hd
    simp; omega
theorem befK_nodup (ts : List GTxn) : ∀ n, (befK ts n).Nodup := by
  intro n
  induction n with
  | zero => simp [befK]
  | succ n ih =>
    rw [befK_succ, List.nodup_append]
    refine ⟨ih, befB_nodup _ _ _, fun c hc d hd => ?_⟩
    obtain ⟨k, a, b, h1, _, _, rfl⟩ := befK_mem hc
    obtain ⟨a', b', _, _, rfl⟩ := befB_mem hd
    simp; omega
theorem choicesM_nodup (ts : List GTxn) : (choicesM ts).Nodup := by
  unfold choicesM
  rw [List.nodup_append]
  refine ⟨cmS_nodup _ _ _, befK_nodup _ _, fun c hc d hd => ?_⟩
  obtain ⟨i, _, _, rfl⟩ := cmS_mem hc
  obtain ⟨k, a, b, _, _, _, rfl⟩ := befK_mem hd
  simp

/-- Who is done, and whether that is known. -/
def deadB (ts : List GTxn) (i : Nat) : Bool := stOf ts i == 2 || (ts[i]?.map (fun t => (writesM t.ops).length == 0)).getD false
def isM (ts : List GTxn) (L : FaL) (i : Nat) : Bool × Bool :=
  if (sureM ts)[i]?.getD false then (true, true) else if deadB ts i then (false, true) else ((getM L ⟨1, 0, i, 0⟩).getD false, (getM L ⟨1, 0, i, 0⟩).isSome)
def isI (ts : List GTxn) (L : FaL) (i : Nat) : Int :=
  if (refSureN ts ts.length)[i]?.getD false then 1 else if deadB ts i then 0 else getI L ⟨1, 0, i, 0⟩
theorem isI_one {ts : List GTxn} (hu : Uniq ts) (L : FaL) (i : Nat) : (isI ts L i == 1) = (isM ts L i).1 := by
  unfold isI isM
  rw [sure_eq hu]
  split
  · rfl
  · split
    · rfl
    · exact getI_one _ _
/-- Is a choice open, and does it count? -/
def openC (ts : List GTxn) (L : FaL) (c : GChoice) : Bool := (getM L c).isNone && (c.kind != 2 || (isM ts L c.a.toNat).1 && (isM ts L c.b.toNat).1)
/-- chains.Next. -/
def nextM (ts : List GTxn) (L : FaL) : Option GChoice := (choicesM ts).find? (openC ts L)
end Go.Proofs.YtnacoplokjdglaaGreat
