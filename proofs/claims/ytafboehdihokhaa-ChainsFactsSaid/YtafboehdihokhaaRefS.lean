import Derived.Test.YtafboehdihokhaaRefK
namespace Go.Proofs.Ytafboehdihokhaa
open Go.RowKit Go.Maps

def bV (b : Bool) : List Value := [.bool b]
def OwBs (base : Nat) (w : World) (v : Value) (L : List Bool) : Prop := w.ownsRow base 4 1 v L.length (L.flatMap bV)
theorem eltBool : Elt Try.prog 58 4 1 1 (.bool false) := by
  obtain ⟨i0, hi, hz0, hz1, hz2⟩ := info_parts Try.infoBool
  exact ⟨Try.underlying58, by decide, rfl, i0, hi, hz0, hz1, hz2⟩

def hitS (ts : List GTxn) (st : Int) (i : Nat) (o : GOp) : Bool := o.val != 0 && st == 0 && writerM ts o.key o.val == (i : Int)
def hitT (ts : List GTxn) (st : Int) (i : Nat) (t : GTxn) : Bool := (readsM t).any (hitS ts st i)
def refSure1 (ts : List GTxn) (i : Nat) : Bool := stOf ts i == 1 || ts.any (hitT ts (stOf ts i) i)
def refSureN (ts : List GTxn) (n : Nat) : List Bool := (List.range n).map (refSure1 ts)
theorem refSureN_succ (ts : List GTxn) (n : Nat) : refSureN ts (n + 1) = refSureN ts n ++ [refSure1 ts n] := by
  unfold refSureN; rw [List.range_succ, List.map_append]; rfl
theorem refSureN_length (ts : List GTxn) (n : Nat) : (refSureN ts n).length = n := by simp [refSureN]
theorem readsM_le (t : GTxn) (h : t.ops.length ≤ 1048576) : (readsM t).length ≤ 1048576 := by
  unfold readsM; split
  · exact Nat.le_trans (readsS_le _) h
  · simp

set_option maxRecDepth 100000 in
set_option maxHeartbeats 2000000 in
theorem refSure_call (v : Value) (ts : List GTxn) (w : World) (hv : RdTxns w v ts) (hok : OkTxns ts) :
    Calls Try.prog 29 #[v] w fun e w' => ∃ v', e = .returned v' ∧ OwBs w.heap.size w' v' (refSureN ts ts.length) ∧ Below w.heap.size w w' := by
  have HV := Lib.hid hv
  have HOK := Lib.hid hok
  have htl := hok.1
  obtain ⟨a, len, cap, rfl, rfl, hm, -⟩ := hv.at
  clear hv hok
  go_enter Try.func29, Try.ntmps29
  go_wp2_with fail
  go_loopw [3, 4, 5, 6, 12] (fun v _ _ _ i wr => ∃ k : Nat, k ≤ ts.length ∧ i = .int .i64 k ∧ OwBs w.heap.size wr v (refSureN ts k) ∧ Below w.heap.size w wr) (fun _ _ _ _ i _ => ts.length - (intOf i).toNat)
  case atStart => exact ⟨0, Nat.zero_le _, rfl, World.ownsRow_lit (base := w.heap.size) (e := 4) (size := 1) w #[] 0 (Nat.le_refl _) (by simp [maxLen]) rfl, (Below.refl _ _).alloc (Nat.le_refl _) _⟩
  case round =>
    obtain ⟨wi, rfl⟩ : ∃ wi : World, wi = wr := ⟨_, rfl⟩
    obtain ⟨k, hk, rfl, ho, hb⟩ := hrel
    have HOk := Lib.hid ho
    have HBk := Lib.hid hb
    have hwk := hb.size
    clear ho hb
    by_cases hlt : k < ts.length
    · obtain ⟨t, ht⟩ := some_at hlt
      obtain ⟨_, _, _, e5, -, -, hcl⟩ := HV.out.at
      cases e5
      obtain ⟨b, off, oa, oc, rfl, hr, k0', k1', k2'⟩ := hcl k t ht
      have k1 := cell_later HBk.out k1'
      have HK1 := Lib.hid k1'
      have hst : stOf ts k = t.state := by simp [stOf, ht]
      have HN := Lib.hid (refSureN_succ ts k)
      have HC := Lib.hid hcl
      have hk1 : (k : Int) < (ts.length : Int) := by omega
      have HS1 := Lib.hid (show refSure1 ts k = (t.state == 1 || ts.any (hitT ts t.state k)) by unfold refSure1; rw [hst])
      clear hcl ht hr k0' k1' k2' hst
      go_wp2_with fail
      go_loopw [5, 6, 23] (fun m _ i wr => ∃ q : Nat, q ≤ ts.length ∧ i = .int .i64 q ∧ m = .bool (t.state == 1 || (ts.take q).any (hitT ts t.state k)) ∧ Below wi.heap.size wi wr) (fun _ _ i _ => ts.length - (intOf i).toNat)
      case atStart => exact ⟨0, Nat.zero_le _, rfl, by simp, Below.refl _ _⟩
      case round =>
        obtain ⟨wq, rfl⟩ : ∃ wq : World, wq = wr := ⟨_, rfl⟩
        obtain ⟨q, hq, rfl, rfl, hb⟩ := hrel
        have HBq := Lib.hid hb
        have hwq := hb.size
        have HWq := Lib.hid (HBk.out.trans (hb.mono hwk))
        clear hb k1
        by_cases hlt2 : q < ts.length
        · obtain ⟨u, hu⟩ := some_at hlt2
          obtain ⟨_, _, ua, uc, e6, hru, u0', u1', u2'⟩ := HC.out q u hu
          cases e6
          have u0 := cell_later HWq.out u0'
          have u1 := cell_later HWq.out u1'
          have u2 := cell_later HWq.out u2'
          have hok2 := (HOK.out.2 u (List.mem_of_getElem? hu)).2
          have HOP := Lib.hid (HOK.out.2 u (List.mem_of_getElem? hu)).1
          have HA := Lib.hid (any_next (p := hitT ts t.state k) hu)
          have HRU := Lib.hid (hru.later HWq.out)
          generalize hS0 : (t.state == 1 || (ts.take q).any (hitT ts t.state k)) = S0 at *
          have HS0 := Lib.hid hS0
          clear hu hru u0' u1' u2' hS0
          go_wp2_with (go_at_call 50; refine (refReads_call u.client u.state _ u.ops _ HRU.out hok2).mono ?_; rintro e w2 ⟨v2, rfl, ho2, hb2⟩; have hr2 := ho2.rd; obtain ⟨a2, len2, cap2, rfl, rfl, hm2, -⟩ := hr2.at)
          have hws : (readsM ⟨u.client, u.state, u.ops⟩) = readsM u := rfl
          rw [hws] at hr2 hm2
          have HR2 := Lib.hid hr2
          have HB2 := Lib.hid (HBq.out.trans (hb2.mono hwq))
          have HW2 := Lib.hid (HWq.out.trans (hb2.mono HWq.out.size))
          have hrl := readsM_le u hok2
          have HT := Lib.hid (show hitT ts t.state k u = (readsM u).any (hitS ts t.state k) from rfl)
          clear ho2 hb2 hr2 u0 u1 u2
          try rw [hws]
          generalize readsM u = rs at *
          go_loopw [5, 8, 32] (fun m _ i wr => ∃ j : Nat, j ≤ rs.length ∧ i = .int .i64 j ∧ m = .bool (S0 || (rs.take j).any (hitS ts t.state k)) ∧ Below w2.heap.size w2 wr) (fun _ _ i _ => rs.length - (intOf i).toNat)
          case atStart => exact ⟨0, Nat.zero_le _, rfl, by simp, Below.refl _ _⟩
          case round =>
            obtain ⟨wj, rfl⟩ : ∃ wj : World, wj = wr := ⟨_, rfl⟩
            obtain ⟨j, hj, rfl, rfl, hb⟩ := hrel
            have HBj := Lib.hid hb
            have hwj := hb.size
            clear hb
            by_cases hlt3 : j < rs.length
            · obtain ⟨o, ho⟩ := some_at hlt3
              obtain ⟨_, _, _, e7, -, -, hcl⟩ := HR2.out.at
              cases e7
              obtain ⟨ob, ooff, rfl, y0', y1', y2'⟩ := hcl j o ho
              have y0 := cell_later HBj.out y0'
              have y1 := cell_later HBj.out y1'
              have y2 := cell_later HBj.out y2'
              have z1 := fun o' => cell_later ((HW2.out.trans (HBj.out.mono HW2.out.size)).alloc (by have := HW2.out.size; omega) o') HK1.out
              have HWj := Lib.hid (fun o' => HV.out.later ((HW2.out.trans (HBj.out.mono HW2.out.size)).alloc (by have := HW2.out.size; omega) o'))
              have HA2 := Lib.hid (any_next (p := hitS ts t.state k) ho)
              clear hcl ho y0' y1' y2'
              generalize hS1 : (S0 || (rs.take j).any (hitS ts t.state k)) = S1 at *
              have HG := Lib.hid (show ∀ x, hitS ts t.state k o = x → Value.bool (S1 || x) = .bool (S0 || (rs.take (j + 1)).any (hitS ts t.state k)) from fun x hx => by rw [HA2.out, ← Bool.or_assoc, hS1, hx])
              have HHS := Lib.hid (show hitS ts t.state k o = (o.val != 0 && t.state == 0 && writerM ts o.key o.val == (k : Int)) from rfl)
              clear hS1
              cases S1 with
              | true =>
                go_wp2_with fail
                go_roundw
                case rel => exact ⟨j + 1, by omega, by go_num, HG.out _ rfl, HBj.out.alloc hwj _⟩
                case measure => simp [intOf]; omega
              | false =>
                by_cases h0 : o.val = 0
                · have h0' : (o.val != 0) = false := by simp [h0]
                  rw [h0'] at HHS
                  clear h0
                  go_wp2_with fail
                  go_roundw
                  case rel => exact ⟨j + 1, by omega, by go_num, HG.out false (by rw [HHS.out]; rfl), HBj.out.alloc hwj _⟩
                  case measure => simp [intOf]; omega
                · have h0' : (o.val != 0) = true := by simp [h0]
                  rw [h0'] at HHS
                  clear h0
                  by_cases h1 : t.state = 0
                  · have h1' : (t.state == 0) = true := by simp [h1]
                    rw [h1'] at HHS
                    clear h1
                    go_wp2_with (go_at_call 51; refine (writer_call _ ts o.key o.val _ (HWj.out _)).mono ?_; rintro e w3 ⟨rfl, hb3⟩)
                    go_roundw
                    case rel => exact ⟨j + 1, by omega, by go_num, HG.out (writerM ts o.key o.val == (k : Int)) (by rw [HHS.out]; rfl), (HBj.out.alloc hwj _).trans (hb3.mono (by simp; omega))⟩
                    case measure => simp [intOf]; omega
                  · have h1' : (t.state == 0) = false := by simp [h1]
                    rw [h1'] at HHS
                    clear h1
                    go_wp2_with fail
                    go_roundw
                    case rel => exact ⟨j + 1, by omega, by go_num, HG.out false (by rw [HHS.out]; rfl), HBj.out.alloc hwj _⟩
                    case measure => simp [intOf]; omega
            · obtain rfl : j = rs.length := by omega
              rw [List.take_length]
              go_wp2_with fail
              go_roundw
              case rel =>
                refine ⟨q + 1, by omega, by go_num, ?_, HB2.out.trans (HBj.out.mono HB2.out.size)⟩
                rw [HA.out, ← Bool.or_assoc, HS0.out, HT.out]
              case measure => simp [intOf]; omega
        · obtain rfl : q = ts.length := by omega
          rw [List.take_length, ← HS1.out]
          have HOq := Lib.hid (own_below HOk.out HBq.out)
          have hle := refSureN_length ts k
          go_wp2_with (at_builtin; refine wpList_append_src rfl _ _ 58 rfl eltBool w.heap.size (refSureN ts k).length _ (HOq.out.alloc _) rfl 1 (bV (refSure1 ts k)) (src_new (cs := #[.bool (refSure1 ts k)]) rfl rfl) rfl (by intro u hu; simp [bV] at hu; subst hu; rfl) (by omega) (by omega) (by simp; omega) ?_; intro v1 w2 ho1 hg1 _)
          have hbl : ∀ j, u3.ownBlock = some j → w.heap.size ≤ j := fun j hj => (HOq.out.lt j hj).1
          go_roundw
          case rel =>
            refine ⟨k + 1, by omega, by go_num, ?_, ?_⟩
            · rw [HN.out]; simpa [OwBs] using ho1
            · exact (HWq.out.alloc (by omega) _).grown hg1 (by simp; omega) hbl
          case measure => simp [intOf]; omega
    · obtain rfl : k = ts.length := by omega
      go_wp2_with fail
      go_ret
      exact ⟨_, rfl, HOk.out, HBk.out⟩
end Go.Proofs.Ytafboehdihokhaa
