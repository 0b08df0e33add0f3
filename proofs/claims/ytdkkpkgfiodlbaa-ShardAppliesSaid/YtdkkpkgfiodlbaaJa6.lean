/- Texts of one proof, one behind the other: MvFin, MvWaits. -/
import Derived.Test.YtdkkpkgfiodlbaaJa5
set_option linter.all false
/- (*mvcc.Store).Finish. -/
namespace Go.Proofs.Ytdkkpkgfiodlbaa
open Go.RowKit Go.Shelf Go.Maps

def FinQ (base p mk mr me : Nat) (serial : Bool) (bugs : Int) (K : KeysL) (R : RdyL) (E : EndL) (x : EndM) (w : World) (e : Ending) (w' : World) : Prop :=
  ∃ K' R' E', e = .returned (vi 0) ∧ FinM K R E x K' R' E' ∧ MvS base p mk mr me serial bugs K' R' E' w' ∧ Turns [mk, mr, me] w w'
/-- .. and the rows of versions that are new lie in memory of the call's own. -/
def FinQ2 (base p mk mr me : Nat) (serial : Bool) (bugs : Int) (K : KeysL) (R : RdyL) (E : EndL) (x : EndM) (w : World) (e : Ending) (w' : World) : Prop :=
  ∃ K' R' E', e = .returned (vi 0) ∧ FinM K R E x K' R' E' ∧ MvS base p mk mr me serial bugs K' R' E' w' ∧ Turns [mk, mr, me] w w' ∧ ∀ y ∈ K', y ∈ K ∨ OwV w.heap.size w' y.2.1 y.2.2
theorem own_solid' {A B : World} {base e size n : Nat} {v : Value} {xs : List Value} (h : A.ownsRow base e size v n xs) (hs : Solid A B) : B.ownsRow base e size v n xs := by
  refine ⟨h.1, ?_⟩
  rcases h.2 with h2 | ⟨g, cap, cur, hv, hg, hh, r⟩
  · exact .inl h2
  · exact .inr ⟨g, cap, cur, hv, hg, hs _ _ _ _ hh, r⟩
theorem new_rows {K Kk : KeysL} {B : Nat} {A W : World} {key : Int} {z : KV} (h : ∀ y ∈ Kk, y ∈ K ∨ OwV B A y.2.1 y.2.2) (hs : Solid A W) (hz : OwV B W z.1 z.2) : ∀ y ∈ putM Kk key z, y ∈ K ∨ OwV B W y.2.1 y.2.2 := by
  intro y hy
  have hm : y = (key, z) ∨ y ∈ Kk := by
    unfold putM at hy
    split at hy
    · obtain ⟨q, hq, rfl⟩ := List.mem_map.1 hy
      split
      · exact .inl rfl
      · exact .inr hq
    · rcases List.mem_append.1 hy with hy | hy
      · exact .inr hy
      · exact .inl (by simpa using hy)
  rcases hm with rfl | hm
  · exact .inr hz
  · rcases h y hm with h1 | h1
    · exact .inl h1
    · exact .inr (own_solid' h1 hs)
theorem same_rows {K Kk : KeysL} {B : Nat} {A W : World} (h : ∀ y ∈ Kk, y ∈ K ∨ OwV B A y.2.1 y.2.2) (hs : Solid A W) : ∀ y ∈ Kk, y ∈ K ∨ OwV B W y.2.1 y.2.2 := fun y hy => by
  rcases h y hy with h1 | h1
  · exact .inl h1
  · exact .inr (own_solid' h1 hs)

theorem own_rdv {w : World} {base : Nat} {v : Value} {l : List Ver} (h : OwV base w v l) (hi : ∀ x ∈ l, i64 x.1) : RdVer w v l := own_rds (enc := verV) (fun _ => rfl) h (fun x hx => ⟨rfl, hi x hx⟩)
theorem rdv_i64 {w : World} {v : Value} {l : List Ver} (h : RdVer w v l) : ∀ x ∈ l, i64 x.1 := fun x hx => by
  obtain ⟨a, n, c, -, -, -, h6⟩ := h.at
  obtain ⟨j, hj⟩ := List.mem_iff_getElem?.1 hx
  obtain ⟨b, off, -, -, -, hi⟩ := h6 j x hj
  exact hi

theorem flat_set : ∀ (l : List Ver) (i : Nat) (y z : Ver), l[i]? = some y → y.1 = z.1 → (l.flatMap verV).set (i * 2 + 1) (vi z.2) = (l.set i z).flatMap verV
  | [], i, y, z, h, _ => by simp at h
  | x :: l, 0, y, z, h, hz => by
    simp at h; subst h
    simp [verV, hz]
  | x :: l, i + 1, y, z, h, hz => by
    have ih := flat_set l i y z (by simpa using h) hz
    rw [List.set_cons_succ, List.flatMap_cons, List.flatMap_cons, ← ih, show (i + 1) * 2 + 1 = (i * 2 + 1) + 2 by omega]
    rfl
theorem own_some {w : World} {base e size n : Nat} {v : Value} {xs : List Value} (h : w.ownsRow base e size v n xs) (h0 : 0 < n) : ∃ g c, v = .slice (some ⟨g, 0, none⟩) n c := by
  rcases h.2 with ⟨hv, h0'⟩ | ⟨g, cap, cur, hv, _⟩
  · omega
  · exact ⟨g, cap, hv⟩

set_option maxRecDepth 100000 in
set_option maxHeartbeats 4000000 in
theorem finish_call2 {base p mk mr me : Nat} {serial : Bool} {bugs : Int} {K : KeysL} {R : RdyL} {E : EndL} (x : EndM) (w : World) (h : MvS base p mk mr me serial bugs K R E w) (ht : i64 x.txn) (ha : i64 x.at_)
    (hS : ∀ key, Srt (verOf K key)) (hL : ∀ key, (verOf K key).length ≤ 524288) (hW : ∀ y ∈ R, y.2.r.writes.length ≤ 524288 ∧ ∀ o ∈ y.2.r.writes, i64 o.key) :
    Calls Try.prog 32 #[.pointer (some ⟨p, 0, none⟩), endV x] w (FinQ2 base p mk mr me serial bugs K R E x w) := by
  have HB := Lib.hid ((Below.refl w.heap.size w).alloc (Nat.le_refl _) (.cells #[vi x.txn, .bool x.commit, vi x.at_] 31))
  have HX := Lib.hid (alloc_at w (.cells #[vi x.txn, .bool x.commit, vi x.at_] 31))
  have HM := Lib.hid h
  have HT := Lib.hid ht
  have HA := Lib.hid ha
  have HSO := Lib.hid hS
  have HLE := Lib.hid hL
  have HWR := Lib.hid hW
  clear h ht ha hS hL hW
  unfold endV
  go_enter Try.func32, Try.ntmps32
  go_upto_region 3 with fail
  generalize w.alloc (.cells #[vi x.txn, .bool x.commit, vi x.at_] 31) = w1 at *
  have HM1 := Lib.hid (HM.out.later HB.out)
  have p4 : w1.cell? ⟨p, 4, none⟩ = some (.map (some me)) := by rw [cell_of HM1.out.blk]; rfl
  have x0 : w1.cell? ⟨w.heap.size, 0, none⟩ = some (vi x.txn) := by rw [cell_of HX.out]; rfl
  obtain ⟨b, hb⟩ : ∃ b, (getM E x.txn).isSome = b := ⟨_, rfl⟩
  have HBE := Lib.hid hb
  have hS : ∀ w' : World, Below w1.heap.size w1 w' → w'.cell? ⟨p, 4, none⟩ = some (.map (some me)) ∧ w'.cell? ⟨w.heap.size, 0, none⟩ = some (vi x.txn) ∧ (Instr.lookup 44 (.map (some me)) (vi x.txn) true).run Try.prog w' = .ok (.tuple #[.agg #[vi ((getM E x.txn).getD ⟨0, false, 0⟩).txn, .bool ((getM E x.txn).getD ⟨0, false, 0⟩).commit, vi ((getM E x.txn).getD ⟨0, false, 0⟩).at_], .bool b]) w' := fun w' hw => by
    have := lookup_ends (HM1.out.later hw).ends HT.out
    rw [hb] at this
    exact ⟨cell_later hw p4, cell_later hw x0, this⟩
  generalize (getM E x.txn).getD ⟨0, false, 0⟩ = ex at *
  have HS := Lib.hid hS
  clear hb hS
  go_cut [6] (fun u wx => u = .bool b ∧ Below w1.heap.size w1 wx)
  case first =>
    go_region_held3 (fun w' : World => w'.cell? ⟨p, 4, none⟩ = some (.map (some me)) ∧ w'.cell? ⟨w.heap.size, 0, none⟩ = some (vi x.txn) ∧ (Instr.lookup 44 (.map (some me)) (vi x.txn) true).run Try.prog w' = .ok (.tuple #[.agg #[vi ex.txn, .bool ex.commit, vi ex.at_], .bool b]) w')
      (first | exact HS.out _ ((Below.refl _ _).drew) | exact HS.out _ (((Below.refl _ _).drew).alloc (Nat.le_refl _) _) | exact HS.out _ ((((Below.refl _ _).drew).alloc (Nat.le_refl _) _).setCell (Nat.le_refl _) _)) (fail)
    all_goals
      go_wp2_with fail
      go_meet
      exact ⟨rfl, by first | exact ((Below.refl _ _).alloc (Nat.le_refl _) _).drew | exact ((Below.refl _ _).drew).alloc (Nat.le_refl _) _⟩
  case rest =>
    obtain ⟨w2, rfl⟩ : ∃ w2 : World, w2 = wc := ⟨_, rfl⟩
    obtain ⟨rfl, hb2⟩ := hcut
    have HB2 := Lib.hid (HB.out.trans (hb2.mono HB.out.size))
    have HX2 := Lib.hid ((hb2.block w.heap.size (Array.getElem?_eq_some_iff.1 HX.out).1).trans HX.out)
    clear hb2 p4 x0 HS HX HM1 ex
    cases b
    rotate_left
    · go_wp2_with fail
      go_ret
      exact ⟨K, R, E, rfl, .inl ⟨HBE.out, rfl, rfl, rfl⟩, HM.out.later HB2.out, Turns.below HB2.out, fun y hy => .inl hy⟩
    have HM2 := Lib.hid (HM.out.later HB2.out)
    have p3 : w2.cell? ⟨p, 3, none⟩ = some (.map (some mr)) := by rw [cell_of HM2.out.blk]; rfl
    have x0 : w2.cell? ⟨w.heap.size, 0, none⟩ = some (vi x.txn) := by rw [cell_of HX2.out]; rfl
    obtain ⟨b, hb⟩ : ∃ b, (getM R x.txn).isSome = b := ⟨_, rfl⟩
    have HBR := Lib.hid hb
    obtain ⟨z1, z2, z3, a, n, c, a', n', c', hz⟩ := rdy_slices HM2.out x.txn
    have HZ := Lib.hid hz
    have hS : ∀ w' : World, Below w2.heap.size w2 w' → w'.cell? ⟨p, 3, none⟩ = some (.map (some mr)) ∧ w'.cell? ⟨w.heap.size, 0, none⟩ = some (vi x.txn) ∧ (Instr.lookup 109 (.map (some mr)) (vi x.txn) true).run Try.prog w' = .ok (.tuple #[.agg #[vi z1, vi z2, vi z3, .slice a n c, .slice a' n' c'], .bool b]) w' := fun w' hw => by
      have := lookup_ready2 (HM2.out.later hw).ready HT.out
      rw [hb, hz] at this
      exact ⟨cell_later hw p3, cell_later hw x0, this⟩
    have HS := Lib.hid hS
    clear hb hS hz
    go_upto_region 6 with fail
    go_cut [7, 8] (fun v u wx => v = .pointer (some ⟨w2.heap.size, 0, none⟩) ∧ u = .bool b ∧ Below w2.heap.size w2 wx ∧ wx.heap[w2.heap.size]? = some (.cells #[vi z1, vi z2, vi z3, .slice a n c, .slice a' n' c'] 29))
    case first =>
      go_region_held3 (fun w' : World => w'.cell? ⟨p, 3, none⟩ = some (.map (some mr)) ∧ w'.cell? ⟨w.heap.size, 0, none⟩ = some (vi x.txn) ∧ (Instr.lookup 109 (.map (some mr)) (vi x.txn) true).run Try.prog w' = .ok (.tuple #[.agg #[vi z1, vi z2, vi z3, .slice a n c, .slice a' n' c'], .bool b]) w')
        (first | exact HS.out _ ((Below.refl _ _).drew) | exact HS.out _ (((Below.refl _ _).drew).alloc (Nat.le_refl _) _) | exact HS.out _ ((((Below.refl _ _).drew).alloc (Nat.le_refl _) _).setCell (Nat.le_refl _) _)) (fail)
      all_goals
        go_wp2_with fail
        go_meet
        exact ⟨rfl, rfl, by first | exact ((Below.refl _ _).alloc (Nat.le_refl _) _).drew | exact ((Below.refl _ _).drew).alloc (Nat.le_refl _) _, by first | exact alloc_at w2 _ | exact alloc_at w2.drew _⟩
    case rest =>
      obtain ⟨w3, rfl⟩ : ∃ w3 : World, w3 = wc := ⟨_, rfl⟩
      obtain ⟨rfl, rfl, hb3, hx3⟩ := hcut
      have HB3 := Lib.hid (HB2.out.trans (hb3.mono HB2.out.size))
      have HX3 := Lib.hid ((hb3.block w.heap.size (Array.getElem?_eq_some_iff.1 HX2.out).1).trans HX2.out)
      have HZ3 := Lib.hid hx3
      have hw2 := HB2.out.size
      clear hb3 hx3 p3 x0 HS HX2 HM2
      have x1 : w3.cell? ⟨w.heap.size, 1, none⟩ = some (.bool x.commit) := by rw [cell_of HX3.out]; rfl
      go_upto_region 7 with fail
      go_cut [41] (fun u wx => u = .bool (b && x.commit) ∧ wx = w3)
      case first =>
        cases b
        · go_wp2_with fail
          go_meet
          exact ⟨rfl, rfl⟩
        · go_wp2_with fail
          go_meet
          exact ⟨rfl, rfl⟩
      case rest =>
        obtain ⟨w4, rfl⟩ : ∃ w4 : World, w4 = wc := ⟨_, rfl⟩
        obtain ⟨rfl, hw4⟩ := hcut
        subst hw4
        clear x1
        obtain ⟨bc, hbc⟩ : ∃ bc, (b && x.commit) = bc := ⟨_, rfl⟩
        rw [hbc]
        have HBC := Lib.hid hbc
        clear hbc
        go_upto_if 41 with fail
        go_cut [] (fun wx => ∃ Kf, MvS base p mk mr me serial bugs Kf R E wx ∧ KFin K Kf x.at_ (writesOf R x) ∧ Turns [mk, mr, me] w wx ∧ wx.heap[w.heap.size]? = some (.cells #[vi x.txn, .bool x.commit, vi x.at_] 31) ∧ ∀ y ∈ Kf, y ∈ K ∨ OwV w.heap.size wx y.2.1 y.2.2)
        case first =>
          cases bc
          · go_wp2_with fail
            go_meet
            refine ⟨K, HM.out.later HB3.out, ?_, Turns.below HB3.out, HX3.out, fun y hy => .inl hy⟩
            have hn := HBC.out
            rw [Bool.and_eq_false_iff] at hn
            have : writesOf R x = [] := by
              unfold writesOf
              rcases hn with hn | hn
              · have := HBR.out
                rw [hn] at this
                cases hg : getM R x.txn with
                | none => simp
                | some y => rw [hg] at this; cases this
              · simp [hn]
            rw [this]
            exact KFin.nil _ _
          · have hn := HBC.out
            rw [Bool.and_eq_true] at hn
            obtain ⟨y, hy⟩ := Option.isSome_iff_exists.1 (HBR.out.trans hn.1)
            have hz := HZ.out
            rw [hy] at hz
            simp only [Option.getD_some, rdyV, rdyC, Value.agg.injEq] at hz
            simp at hz
            have hmem := getM_some hy
            have hws := (HM.out.rrow _ hmem).ws
            have hwl := (HWR.out _ hmem)
            have HWO := Lib.hid (show writesOf R x = y.r.writes by unfold writesOf; rw [hy, hn.2]; rfl)
            simp only at hws hwl
            rw [hz.2.2.2.1] at hws
            have HWS := Lib.hid hws
            obtain ⟨_, _, _, e5, hnl, hm63, -⟩ := hws.at
            cases e5
            subst hnl
            have hwl1 := hwl.1
            have HWK := Lib.hid hwl.2
            generalize y.r.writes = ops at *
            clear hn hy hz hmem hwl hws
            have z3 : w4.cell? ⟨w2.heap.size, 3, none⟩ = some (.slice a ops.length c) := by rw [cell_of HZ3.out]; rfl
            go_wp2_with fail
            go_loopw [45] (fun i wr => ∃ (k : Nat) (Kk : KeysL), k ≤ ops.length ∧ i = .int .i64 k ∧ Hid (MvS base p mk mr me serial bugs Kk R E wr ∧ KFin K Kk x.at_ (ops.take k) ∧ Turns [mk, mr, me] w4 wr ∧ Solid w4 wr) ∧ Hid (∀ y ∈ Kk, y ∈ K ∨ OwV w.heap.size wr y.2.1 y.2.2)) (fun i _ => ops.length - (intOf i).toNat)
            case atStart => exact ⟨0, K, Nat.zero_le _, rfl, Lib.hid ⟨HM.out.later HB3.out, by simpa using KFin.nil _ _, Turns.refl _ _, Solid.refl _⟩, Lib.hid (fun y hy => .inl hy)⟩
            case round =>
              obtain ⟨wj, rfl⟩ : ∃ wj : World, wj = wr := ⟨_, rfl⟩
              obtain ⟨k, Kk, hk, rfl, HJ, HJO⟩ := hrel
              by_cases hlt : k < ops.length
              · obtain ⟨o, ho⟩ := some_at hlt
                have hio := HWK.out o (List.mem_of_getElem? ho)
                obtain ⟨_, _, _, e5, -, -, hcl⟩ := ((HWS.out.later HB3.out).solid HJ.out.2.2.2).at
                cases e5
                obtain ⟨b0, off, rfl, k0, k1, k2⟩ := hcl k o ho
                have HO := Lib.hid ho
                have hki : (k : Int) < (ops.length : Int) := by omega
                have HIO := Lib.hid hio
                have HBA := Lib.hid ((Below.refl wj.heap.size wj).alloc (Nat.le_refl _) (.cells #[vi o.kind, vi o.key, vi o.val] 104))
                have HOA := Lib.hid (alloc_at wj (.cells #[vi o.kind, vi o.key, vi o.val] 104))
                have hwl2 : (ops.take k).length ≤ 524288 := by rw [List.length_take]; omega
                have hlen : (verOf Kk o.key).length ≤ 1048575 := by
                  rw [HJ.out.2.1 o.key]
                  have h1 := finV_len x.at_ o.key (ops.take k) (verOf K o.key)
                  have h2 := HLE.out o.key
                  have h3 : (ops.take k).length ≤ k := List.length_take_le _ _
                  have h4 : (ops.take k).length ≤ ops.length := by rw [List.length_take]; omega
                  omega
                have HSR := Lib.hid (show Srt (verOf Kk o.key) by rw [HJ.out.2.1 o.key]; exact finV_srt _ _ _ _ (HSO.out o.key))
                clear hcl ho hio z3 hwl2
                go_upto_region 11 with fail
                generalize wj.alloc (.cells #[vi o.kind, vi o.key, vi o.val] 104) = wA at *
                have HMA := Lib.hid (HJ.out.1.later HBA.out)
                have p2 : wA.cell? ⟨p, 2, none⟩ = some (.map (some mk)) := by rw [cell_of HMA.out.blk]; rfl
                have o1 : wA.cell? ⟨wj.heap.size, 1, none⟩ = some (vi o.key) := by rw [cell_of HOA.out]; rfl
                obtain ⟨av, nv, cv, hcv, hnv, hmv, -⟩ := (HMA.out.cur o.key).at
                have hnv' : nv = (verOf Kk o.key).length := hnv
                subst hnv'
                have hlk := lookup_keys (w := wA.drew) (HMA.out.keys.frame rfl) HIO.out
                rw [hcv] at hlk
                have HRV := Lib.hid (show RdVer wA (.slice av (verOf Kk o.key).length cv) (verOf Kk o.key) by have := HMA.out.cur o.key; rw [hcv] at this; exact this)
                obtain ⟨vs, hvs⟩ : ∃ vs, verOf Kk o.key = vs := ⟨_, rfl⟩
                rw [hvs] at hlk HRV hlen HSR
                have HVS := Lib.hid hvs
                clear hcv hnv hmv hvs
                go_cut [11] (fun v wx => v = .slice av vs.length cv ∧ Below wA.heap.size wA wx)
                case first =>
                  go_region_held3 (fun w' : World => w'.cell? ⟨p, 2, none⟩ = some (.map (some mk)) ∧ w'.cell? ⟨wj.heap.size, 1, none⟩ = some (vi o.key) ∧ (Instr.lookup 110 (.map (some mk)) (vi o.key) false).run Try.prog w' = .ok (.slice av vs.length cv) w')
                    (exact ⟨p2, o1, hlk⟩) (fail)
                  all_goals
                    go_wp2_with fail
                    go_meet
                    exact ⟨rfl, (Below.refl _ _).drew⟩
                case rest =>
                  obtain ⟨wB, rfl⟩ : ∃ wB : World, wB = wc := ⟨_, rfl⟩
                  obtain ⟨rfl, hbB⟩ := hcut
                  have HBB := Lib.hid (HBA.out.trans (hbB.mono HBA.out.size))
                  have HOB := Lib.hid ((hbB.block wj.heap.size (Array.getElem?_eq_some_iff.1 HOA.out).1).trans HOA.out)
                  have HMB := Lib.hid (HMA.out.later hbB)
                  have HRB := Lib.hid (HRV.out.later hbB)
                  have HXB := Lib.hid ((HBB.out.block w.heap.size (by have := (HJ.out.2.2.2 _ _ _ _ HX3.out); exact (Array.getElem?_eq_some_iff.1 this).1)).trans (HJ.out.2.2.2 _ _ _ _ HX3.out))
                  clear hbB hlk p2 o1 HMA HRV HBA HOA k0 k1 k2
                  have e2 : wB.cell? ⟨w.heap.size, 2, none⟩ = some (vi x.at_) := by rw [cell_of HXB.out]; rfl
                  go_wp2_with fail
                  refine (bin_call _ vs x.at_ wB HRB.out (by omega) (HSR.out.imp (fun h => Int.le_of_lt h))).mono ?_
                  rintro e wD ⟨i, rfl, hi, hlo, hhi, hbD⟩
                  have HINS := Lib.hid (insV_at vs x.at_ o.val i hi hlo hhi)
                  have HBD := Lib.hid (HBB.out.trans (hbD.mono HBB.out.size))
                  have HOD := Lib.hid ((hbD.block wj.heap.size (Array.getElem?_eq_some_iff.1 HOB.out).1).trans HOB.out)
                  have HMD := Lib.hid (HMB.out.later hbD)
                  have HRD := Lib.hid (HRB.out.later hbD)
                  have HXD := Lib.hid ((hbD.block w.heap.size (Array.getElem?_eq_some_iff.1 HXB.out).1).trans HXB.out)
                  clear hlo hhi hbD e2 HMB HRB HBB HOB HXB
                  obtain ⟨sb, hsb⟩ : ∃ sb, sameB vs i x.at_ = sb := ⟨_, rfl⟩
                  rw [hsb]
                  have HSB := Lib.hid hsb
                  clear hsb
                  dsimp only
                  go_upto_if 63 with fail
                  go_cut [11] (fun v wx => OwV wD.heap.size wx v (insV vs x.at_ o.val) ∧ Below wD.heap.size wD wx)
                  case first =>
                    cases sb
                    · have HINS2 := Lib.hid (show insV vs x.at_ o.val = vs.take i ++ (x.at_, o.val) :: vs.drop i by rw [HINS.out, HSB.out]; rfl)
                      have e2 : wD.cell? ⟨w.heap.size, 2, none⟩ = some (vi x.at_) := by rw [cell_of HXD.out]; rfl
                      have o2 : wD.cell? ⟨wj.heap.size, 2, none⟩ = some (vi o.val) := by rw [cell_of HOD.out]; rfl
                      have HS := Lib.hid (show ∀ w' : World, Below wD.heap.size wD w' → w'.cell? ⟨w.heap.size, 2, none⟩ = some (vi x.at_) ∧ w'.cell? ⟨wj.heap.size, 2, none⟩ = some (vi o.val) from fun w' hw => ⟨cell_later hw e2, cell_later hw o2⟩)
                      have HRA := Lib.hid (HRD.out.later ((Below.refl wD.heap.size wD).drew))
                      have HRB2 := Lib.hid (HRD.out.later (((Below.refl wD.heap.size wD).alloc (Nat.le_refl _) (.cells #[vi x.at_, vi o.val] 135)).drew))
                      clear e2 o2
                      go_upto_region 16 with fail
                      go_region_held3 (fun w' : World => w'.cell? ⟨w.heap.size, 2, none⟩ = some (vi x.at_) ∧ w'.cell? ⟨wj.heap.size, 2, none⟩ = some (vi o.val))
                        (first
                        | exact HS.out _ ((Below.refl _ _).drew)
                        | exact HS.out _ (((Below.refl _ _).alloc (Nat.le_refl _) _).drew)
                        | exact HS.out _ (((Below.refl _ _).drew).alloc (Nat.le_refl _) _)
                        | exact HS.out _ HBEA.out
                        | exact HS.out _ (HBEA.out.alloc HBEA.out.size _)
                        | exact HS.out _ HBEB.out
                        | exact HS.out _ HBF.out)
                        (first
                          | (go_at_call 70; (with_reducible refine (cloneV_call _ vs wD.drew HRA.out (by omega)).mono ?_); rintro e wE ⟨vE, rfl, hoE, hbE⟩; obtain ⟨aE, cE, rfl⟩ := own_shape hoE; have HOWA := Lib.hid (show OwV wD.heap.size wE _ vs from hoE); have HBEA := Lib.hid (((Below.refl wD.heap.size wD).drew).trans hbE); clear hoE hbE)
                          | (go_at_call 71; refine (insert_call (base := wD.heap.size) _ vs i (x.at_, o.val) wE.heap.size _ (HOWA.out.alloc _) (by omega) hi (by have := HBEA.out.size; simp; omega) (alloc_at _ _) (fun g hg => by have := (HOWA.out.lt g hg).2; omega)).mono ?_; rintro e wF ⟨vF, rfl, hoF, hgF⟩; have HOWF := Lib.hid hoF; have HBF := Lib.hid (show Below wD.heap.size wD wF from (HBEA.out.alloc HBEA.out.size _).grown hgF (by have := HBEA.out.size; simp; omega) (fun j hj => (HOWA.out.lt j hj).1)); clear hoF hgF)
                          | (go_at_call 70; refine (cloneV_call _ vs (wD.alloc (.cells #[vi x.at_, vi o.val] 135)).drew HRB2.out (by omega)).mono ?_; rintro e wE ⟨vE, rfl, hoE, hbE⟩; obtain ⟨aE, cE, rfl⟩ := own_shape hoE; have HOWB := Lib.hid (show OwV (wD.heap.size + 1) wE _ vs from own_mono hoE (by simp)); have HVB := Lib.hid ((hbE.block wD.heap.size (by simp)).trans (alloc_at wD (.cells #[vi x.at_, vi o.val] 135))); have HBEB := Lib.hid ((((Below.refl wD.heap.size wD).alloc (Nat.le_refl _) _).drew).trans (hbE.mono (by simp))); clear hoE hbE)
                          | (go_at_call 71; refine (insert_call (base := wD.heap.size) _ vs i (x.at_, o.val) wD.heap.size wE (own_mono HOWB.out (by omega)) (by omega) hi HBEB.out.size HVB.out (fun g hg => by have := (HOWB.out.lt g hg).1; omega)).mono ?_; rintro e wF ⟨vF, rfl, hoF, hgF⟩; have HOWF := Lib.hid hoF; have HBF := Lib.hid (show Below wD.heap.size wD wF from HBEB.out.grown hgF HBEB.out.size (fun j hj => by have := (HOWB.out.lt j hj).1; omega)); clear hoF hgF))
                      all_goals
                        go_wp2_with fail
                        go_meet
                        exact ⟨by rw [HINS2.out]; exact HOWF.out, HBF.out⟩
                    · have HINS2 := Lib.hid (show insV vs x.at_ o.val = vs.set i (x.at_, o.val) by rw [HINS.out, HSB.out]; rfl)
                      obtain ⟨y, hy, hyt⟩ : ∃ y, vs[i]? = some y ∧ y.1 = x.at_ := by
                        have := HSB.out
                        unfold sameB at this
                        cases hy : vs[i]? with
                        | none => simp [hy] at this
                        | some y => exact ⟨y, rfl, by simpa [hy] using this⟩
                      have HFS := Lib.hid (flat_set vs i y (x.at_, o.val) hy hyt)
                      have hil : i < vs.length := (List.getElem?_eq_some_iff.1 hy).1
                      have HFA := Lib.hid (flat_at verV 2 (fun _ => rfl) vs i 1 y (vi y.2) hy rfl)
                      have o2 : wD.cell? ⟨wj.heap.size, 2, none⟩ = some (vi o.val) := by rw [cell_of HOD.out]; rfl
                      have hiI : (i : Int) < (vs.length : Int) := by omega
                      clear hy hyt
                      go_wp2_with (go_at_call 70; refine (cloneV_call _ vs wD HRD.out (by omega)).mono ?_; rintro e wE ⟨vE, rfl, hoE, hbE⟩; obtain ⟨gE, cE, rfl⟩ := own_some hoE (by omega); have HOE := Lib.hid hoE; have HBE2 := Lib.hid hbE; have g1 : wE.cell? ⟨gE, i * 2 + 1, none⟩ = some (vi y.2) := (by rw [World.ownsRow.cellAt hoE (i * 2 + 1) (by omega)]; exact HFA.out); have f1 : wE.frozen? ⟨gE, i * 2 + 1, none⟩ = false := World.ownsRow.frozenAt hoE _; have o2' := cell_later hbE o2; clear hoE hbE)
                      go_meet
                      have hst := World.ownsRow.stored HOE.out (i * 2 + 1) (vi o.val)
                      refine ⟨?_, HBE2.out.grown hst.2 HBE2.out.size (fun j hj => by cases hj; exact (HOE.out.lt gE rfl).1)⟩
                      rw [HINS2.out]
                      unfold OwV
                      rw [List.length_set, ← HFS.out]
                      exact hst.1
                  case rest =>
                    obtain ⟨wF, rfl⟩ : ∃ wF : World, wF = wc := ⟨_, rfl⟩
                    obtain ⟨howF, hbF⟩ := hcut
                    obtain ⟨aF, cF, rfl⟩ := own_shape howF
                    have hiv : ∀ q ∈ insV vs x.at_ o.val, i64 q.1 := fun q hq => by
                      rcases insV_mem hq with rfl | hq
                      · exact HA.out
                      · exact rdv_i64 HRD.out q hq
                    have HRF := Lib.hid (show RdVer wF.drew _ _ from (own_rdv howF hiv).later ((Below.refl _ _).drew))
                    have HBG := Lib.hid (HBD.out.trans (hbF.mono HBD.out.size))
                    have HOF := Lib.hid ((hbF.block wj.heap.size (Array.getElem?_eq_some_iff.1 HOD.out).1).trans HOD.out)
                    have HMF := Lib.hid ((HMD.out.later hbF).later ((Below.refl wF.heap.size wF).drew))
                    have HOWG := Lib.hid howF
                    have hwD0 := HBD.out.size
                    clear howF hbF hiv HRD HMD HOD HXD
                    obtain ⟨wG, hup, HUP⟩ := put_keys (y := (_, insV vs x.at_ o.val)) HMF.out HIO.out HRF.out
                    have p2 : wF.cell? ⟨p, 2, none⟩ = some (.map (some mk)) := by show wF.drew.cell? _ = _; rw [cell_of HMF.out.blk]; rfl
                    have o1 : wF.cell? ⟨wj.heap.size, 1, none⟩ = some (vi o.key) := by rw [cell_of HOF.out]; rfl
                    go_upto_region 17 with fail
                    go_region_held3 (fun w' : World => w'.cell? ⟨p, 2, none⟩ = some (.map (some mk)) ∧ w'.cell? ⟨wj.heap.size, 1, none⟩ = some (vi o.key))
                      (first | exact ⟨p2, o1⟩ | exact ⟨HUP.out.2.2.cell (show wF.drew.cell? _ = _ from p2), HUP.out.2.2.cell (show wF.drew.cell? _ = _ from o1)⟩) (fail)
                    all_goals
                      go_wp2_with fail
                      go_roundw
                      case rel =>
                        refine ⟨k + 1, _, by omega, by go_num, Lib.hid ⟨HUP.out.1, ?_, ?_, ?_⟩, Lib.hid (new_rows HJO.out ((Solid.below (HBG.out.drew)).trans HUP.out.2.2) (own_solid' (own_mono HOWG.out (by have := HB3.out.size; have := HJ.out.2.2.1.size; omega)) ((Solid.below ((Below.refl wF.heap.size wF).drew)).trans HUP.out.2.2)))⟩
                        · have := HJ.out.2.1.snoc o (.slice aF (insV vs x.at_ o.val).length cF)
                          rw [HVS.out] at this
                          have ht := take_at HO.out
                          rw [ht]
                          exact this
                        · exact (HJ.out.2.2.1.later (HBG.out.drew)).trans HUP.out.2.1
                        · exact (HJ.out.2.2.2.later (HBG.out.drew)).trans HUP.out.2.2
                      case measure => simp [intOf]; omega
              · obtain rfl : k = ops.length := by omega
                go_wp2_with fail
                go_meet
                have hJ := HJ.out
                rw [List.take_length] at hJ
                exact ⟨Kk, hJ.1, by rw [HWO.out]; exact hJ.2.1, (Turns.below HB3.out).trans hJ.2.2.1, hJ.2.2.2 _ _ _ _ HX3.out, HJO.out⟩
        case rest =>
          obtain ⟨w5, rfl⟩ : ∃ w5 : World, w5 = wc := ⟨_, rfl⟩
          obtain ⟨Kf, hm5, hk5, ht5, hx5, ho5⟩ := hcut
          have HM5 := Lib.hid (hm5.later ((Below.refl w5.heap.size w5).drew))
          have HK5 := Lib.hid hk5
          have HO5 := Lib.hid ho5
          clear ho5
          have HT5 := Lib.hid (ht5.later ((Below.refl w5.heap.size w5).drew))
          obtain ⟨w6, hdel, HDEL⟩ := del_ready HM5.out HT.out 0
          have p3 : w5.cell? ⟨p, 3, none⟩ = some (.map (some mr)) := by rw [cell_of hm5.blk]; rfl
          have x0 : w5.cell? ⟨w.heap.size, 0, none⟩ = some (vi x.txn) := by rw [cell_of hx5]; rfl
          have HX6 := Lib.hid (HDEL.out.2.2 _ _ _ _ (show w5.drew.heap[w.heap.size]? = _ from hx5))
          clear hm5 hk5 ht5 hx5 HX3 HZ3 HM
          go_upto_region 19 with fail
          go_cut [] (fun wx => wx = w6)
          case first =>
            go_region_held3 (fun w' : World => w'.cell? ⟨p, 3, none⟩ = some (.map (some mr)) ∧ w'.cell? ⟨w.heap.size, 0, none⟩ = some (vi x.txn))
              (first | exact ⟨p3, x0⟩ | exact ⟨HDEL.out.2.2.cell (show w5.drew.cell? _ = _ from p3), HDEL.out.2.2.cell (show w5.drew.cell? _ = _ from x0)⟩) (fail)
            all_goals
              go_wp2_with fail
              go_meet
              rfl
          case rest =>
            obtain ⟨w7, rfl⟩ : ∃ w7 : World, w7 = wc := ⟨_, rfl⟩
            subst hcut
            clear hdel p3 x0
            have HM7 := Lib.hid (HDEL.out.1.later ((Below.refl w7.heap.size w7).drew))
            obtain ⟨w8, hup, HUP⟩ := put_ends (y := x) HM7.out HT.out
            have p4 : w7.cell? ⟨p, 4, none⟩ = some (.map (some me)) := by rw [cell_of HDEL.out.1.blk]; rfl
            have x0 : w7.cell? ⟨w.heap.size, 0, none⟩ = some (vi x.txn) := by rw [cell_of HX6.out]; rfl
            have x1 : w7.cell? ⟨w.heap.size, 1, none⟩ = some (.bool x.commit) := by rw [cell_of HX6.out]; rfl
            have x2 : w7.cell? ⟨w.heap.size, 2, none⟩ = some (vi x.at_) := by rw [cell_of HX6.out]; rfl
            go_upto_region 20 with fail
            go_region_held3 (fun w' : World => w'.cell? ⟨p, 4, none⟩ = some (.map (some me)) ∧ w'.cell? ⟨w.heap.size, 0, none⟩ = some (vi x.txn) ∧ w'.cell? ⟨w.heap.size, 1, none⟩ = some (.bool x.commit) ∧ w'.cell? ⟨w.heap.size, 2, none⟩ = some (vi x.at_))
              (first | exact ⟨p4, x0, x1, x2⟩ | exact ⟨HUP.out.2.2.cell (show w7.drew.cell? _ = _ from p4), HUP.out.2.2.cell (show w7.drew.cell? _ = _ from x0), HUP.out.2.2.cell (show w7.drew.cell? _ = _ from x1), HUP.out.2.2.cell (show w7.drew.cell? _ = _ from x2)⟩) (fail)
            all_goals
              go_wp2_with fail
              go_ret
              exact ⟨Kf, delM R x.txn, putM E x.txn x, rfl, .inr ⟨HBE.out, rfl, rfl, HK5.out⟩, HUP.out.1, ((HT5.out.trans HDEL.out.2.1).later ((Below.refl w7.heap.size w7).drew)).trans HUP.out.2.1, same_rows HO5.out (((Solid.below ((Below.refl w5.heap.size w5).drew)).trans HDEL.out.2.2).trans ((Solid.below ((Below.refl w7.heap.size w7).drew)).trans HUP.out.2.2))⟩
theorem finish_call {base p mk mr me : Nat} {serial : Bool} {bugs : Int} {K : KeysL} {R : RdyL} {E : EndL} (x : EndM) (w : World) (h : MvS base p mk mr me serial bugs K R E w) (ht : i64 x.txn) (ha : i64 x.at_)
    (hS : ∀ key, Srt (verOf K key)) (hL : ∀ key, (verOf K key).length ≤ 524288) (hW : ∀ y ∈ R, y.2.r.writes.length ≤ 524288 ∧ ∀ o ∈ y.2.r.writes, i64 o.key) :
    Calls Try.prog 32 #[.pointer (some ⟨p, 0, none⟩), endV x] w (FinQ base p mk mr me serial bugs K R E x w) :=
  (finish_call2 x w h ht ha hS hL hW).mono fun _ _ ⟨K', R', E', h1, h2, h3, h4, _⟩ => ⟨K', R', E', h1, h2, h3, h4⟩
end Go.Proofs.Ytdkkpkgfiodlbaa

/- (*mvcc.Store).Waits. -/
namespace Go.Proofs.Ytdkkpkgfiodlbaa
open Go.RowKit Go.Shelf Go.Maps

theorem Try.infoRdy : (Try.prog.info? 29).map (fun i => (i.zero, i.size, i.bytes)) = some (some (.agg #[vi 0, vi 0, vi 0, .slice none 0 0, .slice none 0 0]), 5, 72) := by kernel_rfl
theorem eltRdy : Elt Try.prog 68 29 5 72 (.agg #[vi 0, vi 0, vi 0, .slice none 0 0, .slice none 0 0]) := by
  obtain ⟨i0, hi, hz0, hz1, hz2⟩ := info_parts Try.infoRdy
  exact ⟨Try.underlying68, by decide, rfl, i0, hi, hz0, hz1, hz2⟩
def rdyL (x : RV) : List Value := [vi x.r.txn, vi x.r.home, vi x.r.start, x.wv, x.rv]
/-- Those who wait, copied into memory of the call's own. -/
structure OwR (base : Nat) (w : World) (v : Value) (L : List RV) : Prop where
  row : w.ownsRow base 29 5 v L.length (L.flatMap rdyL)
  ws : ∀ x ∈ L, w.ownsRow base 104 3 x.wv x.r.writes.length (x.r.writes.flatMap opV)
  rs : ∀ x ∈ L, w.ownsRow base 3 1 x.rv x.r.reads.length (x.r.reads.flatMap viC) ∧ ∀ k ∈ x.r.reads, i64 k
theorem OwR.later {base : Nat} {A B : World} {v : Value} {L : List RV} (h : OwR base A v L) (hb : Below A.heap.size A B) : OwR base B v L :=
  ⟨own_below h.row hb, fun x hx => own_below (h.ws x hx) hb, fun x hx => ⟨own_below (h.rs x hx).1 hb, (h.rs x hx).2⟩⟩
theorem OwR.mono {b b' : Nat} {w : World} {v : Value} {L : List RV} (h : OwR b w v L) (hb : b' ≤ b) : OwR b' w v L := ⟨own_mono h.row hb, fun x hx => own_mono (h.ws x hx) hb, fun x hx => ⟨own_mono (h.rs x hx).1 hb, (h.rs x hx).2⟩⟩
theorem OwR.rdy {base : Nat} {w : World} {v : Value} {L : List RV} (h : OwR base w v L) : ∀ x ∈ L, RdyS w x := fun x hx => rdy_own (h.ws x hx) (h.rs x hx).1 (h.rs x hx).2
/-- Rows of elements of other types lie in other blocks. -/
theorem own_apart {w : World} {b1 b2 e1 e2 s1 s2 n1 n2 : Nat} {v1 v2 : Value} {xs1 xs2 : List Value} (h1 : w.ownsRow b1 e1 s1 v1 n1 xs1) (h2 : w.ownsRow b2 e2 s2 v2 n2 xs2) (hne : e1 ≠ e2) : v1.ownBlock = none ∨ v1.ownBlock ≠ v2.ownBlock := by
  rcases h1.2 with ⟨hv, h0⟩ | ⟨g, cap, cur, hv, hg, hb, r⟩
  · exact .inl (by rw [hv]; rfl)
  · rcases h2.2 with ⟨hv2, h02⟩ | ⟨g2, cap2, cur2, hv2, hg2, hb2, r2⟩
    · exact .inr (by rw [hv, hv2]; simp [Value.ownBlock])
    · refine .inr (fun e => ?_)
      rw [hv, hv2] at e
      have : g = g2 := by simpa [Value.ownBlock] using e
      subst this
      rw [hb] at hb2; cases hb2; exact hne rfl
theorem OwR.snoc {base : Nat} {A B : World} {v v' : Value} {L : List RV} {x : RV} (h : OwR base A v L) (hg : A.grownBy B v.ownBlock) (hrow : B.ownsRow base 29 5 v' (L.length + 1) (L.flatMap rdyL ++ rdyL x))
    (h1 : A.ownsRow base 104 3 x.wv x.r.writes.length (x.r.writes.flatMap opV)) (h2 : A.ownsRow base 3 1 x.rv x.r.reads.length (x.r.reads.flatMap viC)) (h3 : ∀ k ∈ x.r.reads, i64 k) : OwR base B v' (L ++ [x]) := by
  refine ⟨by rw [List.length_append, List.flatMap_append]; simpa using hrow, fun y hy => ?_, fun y hy => ?_⟩
  · have : A.ownsRow base 104 3 y.wv y.r.writes.length (y.r.writes.flatMap opV) := by
      rcases List.mem_append.1 hy with hy | hy
      · exact h.ws y hy
      · simp at hy; subst hy; exact h1
    exact this.kept hg (own_apart this h.row (by decide))
  · have : A.ownsRow base 3 1 y.rv y.r.reads.length (y.r.reads.flatMap viC) ∧ ∀ k ∈ y.r.reads, i64 k := by
      rcases List.mem_append.1 hy with hy | hy
      · exact h.rs y hy
      · simp at hy; subst hy; exact ⟨h2, h3⟩
    exact ⟨this.1.kept hg (own_apart this.1 h.row (by decide)), this.2⟩

/-- Who waits, by rising numbers. -/
def WaitsM (R : RdyL) (l : List Rdy) : Prop := ∃ ks : List Int, ks.Perm (R.map (·.1)) ∧ ks.Pairwise (fun x y => x ≤ y) ∧ l = ks.map (fun k => ((getM R k).getD nilR).r)
def WaitsQ (R : RdyL) (w : World) (e : Ending) (w' : World) : Prop := ∃ v L, e = .returned v ∧ OwR w.heap.size w' v L ∧ WaitsM R (L.map (·.r)) ∧ Below w.heap.size w w'

theorem lookup_readyD {base p mk mr me : Nat} {serial : Bool} {bugs : Int} {K : KeysL} {R : RdyL} {E : EndL} {w : World} (h : MvS base p mk mr me serial bugs K R E w) {k : Int} (hk : k ∈ R.map (·.1)) :
    ∃ y, getM R k = some y ∧ y ∈ R.map (·.2) ∧ (Instr.lookup 109 (.map (some mr)) (vi k) false).run Try.prog w = .ok (rdyV y) w := by
  obtain ⟨x, hx, rfl⟩ := List.mem_map.1 hk
  refine ⟨x.2, ?_, List.mem_map.2 ⟨x, hx, rfl⟩, lookup_ready h.ready hx _ (zero_ready w)⟩
  cases hg : getM R x.1 with
  | none => exact absurd rfl (getM_none.1 hg x hx)
  | some y =>
    have hp := h.ready.pairwise
    have hy := getM_some hg
    obtain ⟨i, hi⟩ := List.mem_iff_getElem?.1 hx
    obtain ⟨j, hj⟩ := List.mem_iff_getElem?.1 hy
    obtain ⟨i1, i2⟩ := List.getElem?_eq_some_iff.1 hi
    obtain ⟨j1, j2⟩ := List.getElem?_eq_some_iff.1 hj
    rcases Nat.lt_trichotomy i j with h3 | h3 | h3
    · exact absurd (by rw [i2, j2]) (List.pairwise_iff_getElem.1 hp i j i1 j1 h3)
    · subst h3; rw [hi] at hj
      have h4 := congrArg Prod.snd (Option.some.inj hj)
      rw [h4]
    · exact absurd (by rw [i2, j2]) (List.pairwise_iff_getElem.1 hp j i j1 i1 h3)

set_option maxRecDepth 100000 in
set_option maxHeartbeats 4000000 in
theorem waits_call {base p mk mr me : Nat} {serial : Bool} {bugs : Int} {K : KeysL} {R : RdyL} {E : EndL} (w : World) (h : MvS base p mk mr me serial bugs K R E w) (hR : R.length ≤ 1048576) (hW : ∀ y ∈ R, y.2.r.writes.length ≤ 1048576 ∧ y.2.r.reads.length ≤ 1048576) :
    Calls Try.prog 20 #[.pointer (some ⟨p, 0, none⟩)] w (WaitsQ R w) := by
  have HM := Lib.hid h
  have HW := Lib.hid hW
  have p3 : w.cell? ⟨p, 3, none⟩ = some (.map (some mr)) := by rw [cell_of h.blk]; rfl
  have HB1 := Lib.hid ((Below.refl w.heap.size w).alloc (Nat.le_refl _) (.cells #[.map (some mr)] 109))
  clear h hW
  go_enter Try.func20, Try.ntmps20
  go_wp2_with (first
    | (go_at_call 42; refine (keys_call _).mono ?_; rintro e w1 ⟨rfl, rfl⟩)
    | (go_at_call 41; refine (sorted_call (mr := mr) (L := R) _ (by rw [cell_of (alloc_at _ _)]; rfl) (HM.out.later HB1.out).ready hR).mono ?_; rintro e w2 ⟨v2, ks, rfl, ho2, hp2, hs2, hb2⟩; obtain ⟨a2, c2, rfl⟩ := own_shape ho2))
  have HO := Lib.hid ho2
  have HP := Lib.hid hp2
  have HSO := Lib.hid hs2
  have HB2 := Lib.hid (HB1.out.trans (hb2.mono HB1.out.size))
  have hkl : ks.length ≤ 1048576 := by rw [hp2.length_eq]; simpa using hR
  clear ho2 hp2 hs2 hb2 p3
  go_loopw [3, 16] (fun v i wr => ∃ (k : Nat) (L : List RV), k ≤ ks.length ∧ i = .int .i64 k ∧ Hid (OwR w2.heap.size wr v L ∧ L.length = k ∧ L.map (·.r) = (ks.take k).map (fun k => ((getM R k).getD nilR).r) ∧ Below w2.heap.size w2 wr)) (fun _ i _ => ks.length - (intOf i).toNat)
  case atStart => exact ⟨0, [], Nat.zero_le _, rfl, Lib.hid ⟨⟨World.ownsRow_nil _ _ _ _, (fun x hx => by cases hx), (fun x hx => by cases hx)⟩, rfl, by simp, Below.refl _ _⟩⟩
  case round =>
    obtain ⟨wj, rfl⟩ : ∃ wj : World, wj = wr := ⟨_, rfl⟩
    obtain ⟨k, L, hk, rfl, HJ⟩ := hrel
    obtain ⟨aL, cL, rfl⟩ := own_shape HJ.out.1.row
    have HLK := Lib.hid HJ.out.2.1
    have hLk' : L.length ≤ 1048576 := by rw [HLK.out]; omega
    have HNE := Lib.hid (show ∀ j, (Value.slice aL L.length cL).ownBlock = some j → w2.heap.size ≤ j ∧ j < wj.heap.size from fun j hj => HJ.out.1.row.lt j hj)
    by_cases hlt : k < ks.length
    · obtain ⟨id, hid⟩ := some_at hlt
      obtain ⟨g2, c2', e2⟩ := own_some HO.out (by omega)
      cases e2
      have c0 : wj.cell? ⟨g2, k, none⟩ = some (vi id) := by
        have h1 := World.ownsRow.cells HO.out (g := g2) rfl k (vi id) (by rw [viC_map, List.getElem?_map, hid]; rfl)
        rw [addr_add, Nat.zero_add] at h1
        exact cell_later HJ.out.2.2.2 h1
      have hjI : (k : Int) < (ks.length : Int) := by omega
      have HMj := Lib.hid (HM.out.later (HB2.out.trans (HJ.out.2.2.2.mono HB2.out.size)))
      obtain ⟨y, hy, hym, hlk⟩ := lookup_readyD HMj.out (HP.out.mem_iff.1 (List.mem_of_getElem? hid))
      obtain ⟨x, hxR, hxy⟩ := List.mem_map.1 hym
      have HYW := Lib.hid (HW.out x hxR)
      have HYS := Lib.hid (HMj.out.rrow x hxR)
      rw [hxy] at HYW HYS
      clear hxy hxR hym x
      have p3 : wj.cell? ⟨p, 3, none⟩ = some (.map (some mr)) := by rw [cell_of HMj.out.blk]; rfl
      have HY := Lib.hid hy
      have HID := Lib.hid hid
      obtain ⟨wv, rv, r⟩ := y
      obtain ⟨aw, nw, cw, hwv, rfl, hmw, -⟩ := (show RdOps wj wv r.writes from HYS.out.ws).at
      obtain ⟨ar, nr, cr, hrv, rfl, hmr, -⟩ := (show RdInts wj rv r.reads from HYS.out.rs).at
      subst hwv hrv
      have HBA := Lib.hid ((Below.refl wj.heap.size wj).alloc (Nat.le_refl _) (.cells #[vi r.txn, vi r.home, vi r.start, .slice aw r.writes.length cw, .slice ar r.reads.length cr] 29))
      have HXA := Lib.hid (alloc_at wj (.cells #[vi r.txn, vi r.home, vi r.start, .slice aw r.writes.length cw, .slice ar r.reads.length cr] 29))
      clear hy hid hmw hmr
      unfold rdyV rdyC at hlk
      simp only at hlk
      go_upto_region 7 with fail
      generalize wj.alloc (.cells #[vi r.txn, vi r.home, vi r.start, .slice aw r.writes.length cw, .slice ar r.reads.length cr] 29) = wA at *
      have HS := Lib.hid (show ∀ w' : World, Below wA.heap.size wA w' → w'.cell? ⟨wj.heap.size, 0, none⟩ = some (vi r.txn) ∧ w'.cell? ⟨wj.heap.size, 1, none⟩ = some (vi r.home) ∧ w'.cell? ⟨wj.heap.size, 2, none⟩ = some (vi r.start) ∧ w'.cell? ⟨wj.heap.size, 3, none⟩ = some (.slice aw r.writes.length cw) ∧ w'.cell? ⟨wj.heap.size, 4, none⟩ = some (.slice ar r.reads.length cr) from fun w' hw =>
        ⟨cell_later hw (by rw [cell_of HXA.out]; rfl), cell_later hw (by rw [cell_of HXA.out]; rfl), cell_later hw (by rw [cell_of HXA.out]; rfl), cell_later hw (by rw [cell_of HXA.out]; rfl), cell_later hw (by rw [cell_of HXA.out]; rfl)⟩)
      have HXQ := Lib.hid (HYS.out.later (HBA.out.drew))
      have hwl := HYW.out.1
      have hrl := HYW.out.2
      simp only at hwl hrl
      have hsz1 := HB2.out.size
      have hsz2 := HJ.out.2.2.2.size
      have hsz3 := HBA.out.size
      clear c0 p3 hlk
      have HN2 := Lib.hid (show some wj.heap.size ≠ (Value.slice aL L.length cL).ownBlock from fun e => by have := (HNE.out _ e.symm).2; omega)
      have HRA := Lib.hid ((HJ.out.1.later HBA.out).later ((Below.refl wA.heap.size wA).drew))
      have HBd := Lib.hid ((Below.refl wA.heap.size wA).drew)
      go_region_held3 (fun w' : World => w'.cell? ⟨wj.heap.size, 0, none⟩ = some (vi r.txn) ∧ w'.cell? ⟨wj.heap.size, 1, none⟩ = some (vi r.home) ∧ w'.cell? ⟨wj.heap.size, 2, none⟩ = some (vi r.start) ∧ w'.cell? ⟨wj.heap.size, 3, none⟩ = some (.slice aw r.writes.length cw) ∧ w'.cell? ⟨wj.heap.size, 4, none⟩ = some (.slice ar r.reads.length cr))
        (first | exact HS.out _ HBd.out | exact HS.out _ HB8.out | exact HS.out _ HB9.out | exact HS.out _ (HB9.out.alloc HB9.out.size _) | exact (fun s => ⟨HGX.out.cell s.1 HN2.out, HGX.out.cell s.2.1 HN2.out, HGX.out.cell s.2.2.1 HN2.out, HGX.out.cell s.2.2.2.1 HN2.out, HGX.out.cell s.2.2.2.2 HN2.out⟩) (HS.out _ (HB9.out.alloc HB9.out.size _)))
        (first
          | (go_at_call 43; refine (cloneO_call _ r.writes wA.drew HXQ.out.ws hwl).mono ?_; rintro e w8 ⟨v1, rfl, ho1, hb8⟩; obtain ⟨a1, c1, rfl⟩ := own_shape ho1; have HO1 := Lib.hid (own_mono (b' := w2.heap.size) ho1 (by show w2.heap.size ≤ wA.heap.size; omega)); have HB8 := Lib.hid (HBd.out.trans hb8); have HX8 := Lib.hid (HXQ.out.later hb8); have HR8 := Lib.hid (HRA.out.later hb8); clear ho1 hb8)
          | (go_at_call 44; refine (cloneI_call _ r.reads w8 HX8.out.rs hrl).mono ?_; rintro e w9 ⟨v2, rfl, ho2, hb9⟩; obtain ⟨a2, c2, rfl⟩ := own_shape ho2; have HB9 := Lib.hid (HB8.out.trans (hb9.mono HB8.out.size)); have HO2 := Lib.hid (own_mono (b' := w2.heap.size) ho2 (by have := HB8.out.size; omega)); have HO1' := Lib.hid (own_below HO1.out hb9); have HR9 := Lib.hid (HR8.out.later hb9); clear ho2 hb9)
          | (refine step_append_src rfl _ _ 68 rfl eltRdy w2.heap.size L.length (L.flatMap rdyL) (HR9.out.row.alloc _) rfl 1 (rdyL ⟨.slice a1 r.writes.length c1, .slice a2 r.reads.length c2, r⟩) (src_new (cs := #[vi r.txn, vi r.home, vi r.start, .slice a1 r.writes.length c1, .slice a2 r.reads.length c2]) rfl rfl) rfl (by intro u hu; simp [rdyL] at hu; rcases hu with rfl | rfl | rfl | rfl | rfl <;> rfl) (by omega) (by omega) (by have := HB9.out.size; simp; omega) ?_; intro vX wX hrX hgX _; have HRX := Lib.hid (OwR.snoc (HR9.out.later ((Below.refl w9.heap.size w9).alloc (Nat.le_refl _) _)) hgX hrX (HO1'.out.alloc _) (HO2.out.alloc _) (reads_i64 HXQ.out.rs)); have HGX := Lib.hid hgX; clear hrX hgX))
      all_goals
        go_wp2_with fail
        go_roundw
        case rel =>
          refine ⟨k + 1, _, by omega, by go_num, Lib.hid ⟨HRX.out, by simp [HLK.out], ?_, ?_⟩⟩
          · rw [take_at HID.out, List.map_append, List.map_append, HJ.out.2.2.1, List.map_cons, List.map_cons, HY.out]
            rfl
          · exact (HJ.out.2.2.2.trans ((HBA.out.trans ((HB9.out.alloc HB9.out.size _).mono hsz3)).mono hsz2)).grown HGX.out (by have := HB9.out.size; simp; omega) (fun j hj => (HNE.out j hj).1)
        case measure => simp [intOf]; omega
    · obtain rfl : k = ks.length := by omega
      go_wp2_with fail
      go_ret
      have hJ := HJ.out
      rw [List.take_length] at hJ
      exact ⟨_, L, rfl, hJ.1.mono HB2.out.size, ⟨ks, HP.out, HSO.out, hJ.2.2.1⟩, HB2.out.trans (hJ.2.2.2.mono HB2.out.size)⟩
end Go.Proofs.Ytdkkpkgfiodlbaa
