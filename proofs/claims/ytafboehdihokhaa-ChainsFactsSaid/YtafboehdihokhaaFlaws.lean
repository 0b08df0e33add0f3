import Derived.Test.YtafboehdihokhaaKeys
import Derived.Test.YtafboehdihokhaaWrites
namespace Go.Proofs.Ytafboehdihokhaa
open Go.RowKit Go.Maps

def OkTxns (ts : List GTxn) : Prop := ts.length ≤ 1048576 ∧ ∀ t ∈ ts, OkOps t.ops ∧ t.ops.length ≤ 1048576

abbrev vp (p : Int × Int) : Value := .agg #[vi p.1, vi p.2]
theorem vp_inj (x y : Int × Int) (h : vp x = vp y) : x = y := by
  obtain ⟨a, b⟩ := x; obtain ⟨c, d⟩ := y
  simp [vp] at h; obtain ⟨rfl, rfl⟩ := h; rfl

abbrev ByL := List ((Int × Int) × Int)
def stepBy (i : Nat) (L : ByL) (o : GOp) : ByL := if o.kind = 2 then putM L (o.key, o.val) (i : Int) else L
def byN (ts : List GTxn) (n : Nat) : ByL := (ts.take n).zipIdx.foldl (fun L p => p.1.ops.foldl (stepBy p.2) L) []
abbrev LaL := List ((Int × Int) × Bool)
def stepLa (L : LaL) (o : GOp) : LaL := putM L (o.key, o.val) true
def laN (ts : List GTxn) (n : Nat) : LaL := (ts.take n).foldl (fun L t => (writesM t.ops).foldl stepLa L) []

theorem zipIdx_take_succ {ts : List GTxn} {n : Nat} {t : GTxn} (h : ts[n]? = some t) : (ts.take (n + 1)).zipIdx = (ts.take n).zipIdx ++ [(t, n)] := by
  rw [take_at h, List.zipIdx_append]
  have : (ts.take n).length = n := by
    have := (List.getElem?_eq_some_iff.1 h).1
    simp; omega
  simp [this]

theorem byN_succ {ts : List GTxn} {n : Nat} {t : GTxn} (h : ts[n]? = some t) : byN ts (n + 1) = t.ops.foldl (stepBy n) (byN ts n) := by
  unfold byN; rw [zipIdx_take_succ h, List.foldl_append]; rfl
theorem laN_succ {ts : List GTxn} {n : Nat} {t : GTxn} (h : ts[n]? = some t) : laN ts (n + 1) = (writesM t.ops).foldl stepLa (laN ts n) := by
  unfold laN; rw [take_at h, List.foldl_append]; rfl

theorem alloc_at (w : World) (o : Obj) : (w.alloc o).heap[w.heap.size]? = some o := by show (w.heap.push o)[w.heap.size]? = some o; simp

theorem cell_later {w w' : World} {p : Addr} {v : Value} (h : Below w.heap.size w w') (hc : w.cell? p = some v) : w'.cell? p = some v := by
  have hp : p.block < w.heap.size := by
    rcases Nat.lt_or_ge p.block w.heap.size with h' | h'
    · exact h'
    · simp [World.cell?, Array.getElem?_eq_none h'] at hc
  rw [h.cell hp]; exact hc

theorem fold_at {α β : Type} {f : β → α → β} {l : List α} {k : Nat} {x : α} (b : β) (h : l[k]? = some x) : (l.take (k + 1)).foldl f b = f ((l.take k).foldl f b) x := by
  rw [take_at h, List.foldl_append]; rfl

theorem lastW_mem {l : List GOp} {k : Nat} {o : GOp} (h : lastW l k = some o) : o ∈ l ∧ hitB k o = true := by
  unfold lastW at h
  rw [Option.map_eq_some_iff] at h
  obtain ⟨p, hp, rfl⟩ := h
  refine ⟨?_, by simpa using List.find?_some hp⟩
  have := List.mem_of_find?_eq_some hp
  unfold revL at this
  rw [List.mem_reverse, List.mem_map] at this
  obtain ⟨q, hq, rfl⟩ := this
  exact List.fst_mem_of_mem_zipIdx hq

theorem writesM_mem {l : List GOp} {o : GOp} (h : o ∈ writesM l) : o ∈ l := by
  unfold writesM writesTo at h
  rw [List.mem_filterMap] at h
  obtain ⟨k, _, hk⟩ := h
  exact (lastW_mem hk).1

/-- What a walk wants of a transaction in a readable slice. -/
theorem RdTxns.at {w : World} {v : Value} {l : List GTxn} (h : RdTxns w v l) : ∃ a len cap, v = .slice a len cap ∧ len = l.length ∧ l.length ≤ 9223372036854775807 ∧
    ∀ j x, l[j]? = some x → ∃ b off oa oc, a = some ⟨b, off, none⟩ ∧ RdOps w (.slice oa x.ops.length oc) x.ops ∧ w.cell? ⟨b, off + j * 3, none⟩ = some (vi x.client) ∧ w.cell? ⟨b, off + j * 3 + 1, none⟩ = some (vi x.state) ∧ w.cell? ⟨b, off + j * 3 + 2, none⟩ = some (.slice oa x.ops.length oc) := by
  obtain ⟨a, len, cap, h1, h2, h3, h6⟩ := RdS.at3 h
  refine ⟨a, len, cap, h1, h2, h3, fun j x hj => ?_⟩
  obtain ⟨b, off, c0, c1, c2, ha, ⟨ov, he, hr⟩, k0, k1, k2⟩ := h6 j x hj
  obtain ⟨oa, ol, oc, rfl, rfl, _⟩ := hr.at
  simp only [List.cons.injEq, and_true] at he
  obtain ⟨rfl, rfl, rfl⟩ := he
  exact ⟨b, off, oa, oc, ha, hr, k0, k1, k2⟩

theorem MapT.no_cell {κ ν : Type} {P : Program} {k : TypeId} {eK : κ → Value} {eV : ν → Value} {w : World} {b : Nat} {L : List (κ × ν)} (h : MapT P k eK eV w b L) {p : Addr} {v : Value} (hc : w.cell? p = some v) : p.block ≠ b := by
  obtain ⟨es, clock, hb, _⟩ := h
  intro e
  simp [World.cell?, e, hb] at hc

set_option maxRecDepth 100000 in
set_option maxHeartbeats 2000000 in
theorem writers_call (v : Value) (ts : List GTxn) (w : World) (hv : RdTxns w v ts) (hok : OkTxns ts) :
    Calls Try.prog 45 #[v] w fun e w' => e = .returned (.tuple #[.map (some w.heap.size), .map (some (w.heap.size + 1))]) ∧
      MapT Try.prog 99 vp vi w' w.heap.size (byN ts ts.length) ∧ MapT Try.prog 99 vp Value.bool w' (w.heap.size + 1) (laN ts ts.length) ∧ Below w.heap.size w w' := by
  have HV := Lib.hid hv
  have HOK := Lib.hid hok
  obtain ⟨a, len, cap, rfl, rfl, hm, -⟩ := hv.at
  have htl := hok.1
  clear hv hok
  have hmm := @run_makeMap Try.prog
  go_enter Try.func45, Try.ntmps45
  go_wp2_with fail
  go_loopw [6, 7, 16] (fun _ _ i wr => ∃ k : Nat, k ≤ ts.length ∧ i = .int .i64 k ∧ MapT Try.prog 99 vp vi wr w.heap.size (byN ts k) ∧ MapT Try.prog 99 vp Value.bool wr (w.heap.size + 1) (laN ts k) ∧ w.heap.size + 2 ≤ wr.heap.size ∧ Below w.heap.size w wr) (fun _ _ i _ => ts.length - (intOf i).toNat)
  case atStart =>
    refine ⟨0, Nat.zero_le _, rfl, ?_, ?_, by simp, ((Below.refl _ _).alloc (Nat.le_refl _) _).alloc (by simp) _⟩
    · have := MapT.made (P := Try.prog) (k := 99) (eK := vp) (eV := vi) w
      exact this.frame (Below.heap_alloc _ _ _ (by simp))
    · simpa [laN] using MapT.made (P := Try.prog) (k := 99) (eK := vp) (eV := Value.bool) (w.alloc (.map #[] 0))
  case round =>
    obtain ⟨k, hk, rfl, hM1, hM2, hsz, hb⟩ := hrel
    have HM1 := Lib.hid hM1
    have HM2 := Lib.hid hM2
    have HB := Lib.hid hb
    clear hM1 hM2 hb
    by_cases hlt : k < ts.length
    · obtain ⟨t, ht⟩ := some_at hlt
      obtain ⟨_, _, _, e5, -, -, hcl⟩ := HV.out.at
      cases e5
      obtain ⟨b, off, oa, oc, rfl, hr, k0', k1', k2'⟩ := hcl k t ht
      have k0 := cell_later HB.out k0'
      have k1 := cell_later HB.out k1'
      have k2 := cell_later HB.out k2'
      clear k0' k1' k2'
      have HT := Lib.hid ht
      have HR := Lib.hid hr
      obtain ⟨hok1, hok2⟩ := HOK.out.2 t (List.mem_of_getElem? ht)
      have HOP := Lib.hid hok1
      clear hcl ht hr hok1
      obtain ⟨wo, rfl⟩ : ∃ wo : World, wo = wr := ⟨_, rfl⟩
      go_wp2_with fail
      go_loopw [9, 24] (fun _ i wx => ∃ j : Nat, j ≤ t.ops.length ∧ i = .int .i64 j ∧ MapT Try.prog 99 vp vi wx w.heap.size ((t.ops.take j).foldl (stepBy k) (byN ts k)) ∧ MapT Try.prog 99 vp Value.bool wx (w.heap.size + 1) (laN ts k) ∧ wo.heap.size < wx.heap.size ∧ wx.heap[wo.heap.size]? = some (.cells #[vi t.client, vi t.state, .slice oa t.ops.length oc] 62) ∧ Below w.heap.size w wx) (fun _ i _ => t.ops.length - (intOf i).toNat)
      case atStart =>
        have hwo : (wo.alloc (.cells #[vi t.client, vi t.state, .slice oa t.ops.length oc] 62)).heap[wo.heap.size]? = some (.cells #[vi t.client, vi t.state, .slice oa t.ops.length oc] 62) := alloc_at _ _
        exact ⟨0, Nat.zero_le _, rfl, HM1.out.frame (Below.heap_alloc _ _ _ (by omega)), HM2.out.frame (Below.heap_alloc _ _ _ (by omega)), by simp, hwo, HB.out.alloc (by omega) _⟩
      case round =>
        obtain ⟨wx, rfl⟩ : ∃ wx : World, wx = wr := ⟨_, rfl⟩
        obtain ⟨j, hj, rfl, hN1, hN2, hsx, hbx, hbw⟩ := hrel
        have HN1 := Lib.hid hN1
        have HN2 := Lib.hid hN2
        have HBX := Lib.hid hbx
        have HBW := Lib.hid hbw
        have x0 : wx.cell? ⟨wo.heap.size, 0, none⟩ = some (vi t.client) := cell_of hbx 0
        have x1 : wx.cell? ⟨wo.heap.size, 1, none⟩ = some (vi t.state) := cell_of hbx 1
        have x2 : wx.cell? ⟨wo.heap.size, 2, none⟩ = some (.slice oa t.ops.length oc) := cell_of hbx 2
        clear hN1 hN2 hbx hbw
        by_cases hjl : j < t.ops.length
        · obtain ⟨o, ho⟩ := some_at hjl
          obtain ⟨_, _, _, e5, -, -, hcl⟩ := (HR.out.later HBW.out).at
          cases e5
          obtain ⟨ob, ooff, rfl, y0, y1, y2⟩ := hcl j o ho
          have HO := Lib.hid ho
          have hoo := HOP.out o (List.mem_of_getElem? ho)
          clear hcl
          obtain ⟨kl, hkl⟩ := placeKey hoo.2.1 hoo.2.2
          have HK := Lib.hid hkl
          have HF := Lib.hid (fold_at (f := stepBy k) (byN ts k) ho)
          clear ho hkl
          by_cases hk2 : o.kind = 2
          · have hkb : (o.kind == 2) = true := by simp [hk2]
            have HS := Lib.hid (show ∀ L, stepBy k L o = putM L (o.key, o.val) (k : Int) from fun L => if_pos hk2)
            clear hk2
            go_wp2_with (at_mapUpdate; refine wpList_mapUpdate_T (b := w.heap.size) (eK := vp) (eV := vi) rfl _ _ _ rfl placeKeyed vp_inj Try.underlying93 (HN1.out.frame (Below.heap_alloc _ _ _ (by omega))) rfl (o.key, o.val) HK.out rfl (k : Int) rfl ?_; intro w1 hM1 hg1)
            go_roundw
            case rel =>
              refine ⟨j + 1, by omega, by go_num, ?_, ?_, ?_, ?_, ?_⟩
              · rw [HF.out, HS.out]; exact hM1
              · exact (HN2.out.frame (Below.heap_alloc _ _ _ (by omega))).kept hg1 (by simp)
              · have := hg1.size; simp at this; omega
              · rw [hg1.block wo.heap.size (by simp; omega) (by simp; omega), Below.heap_alloc _ _ _ (by omega)]; exact HBX.out
              · exact (HBW.out.alloc (by omega) _).grown hg1 (by simp; omega) (fun j hj => by cases hj; omega)
            case measure => simp [intOf]; omega
          · have hkb : (o.kind == 2) = false := by simp [hk2]
            have HS := Lib.hid (show ∀ L, stepBy k L o = L from fun L => if_neg hk2)
            clear hk2
            go_wp2_with fail
            go_roundw
            case rel =>
              refine ⟨j + 1, by omega, by go_num, ?_, ?_, ?_, ?_, ?_⟩
              · rw [HF.out, HS.out]; exact HN1.out.frame (Below.heap_alloc _ _ _ (by omega))
              · exact HN2.out.frame (Below.heap_alloc _ _ _ (by omega))
              · simp; omega
              · rw [Below.heap_alloc _ _ _ (by omega)]; exact HBX.out
              · exact HBW.out.alloc (by omega) _
            case measure => simp [intOf]; omega
        · obtain rfl : j = t.ops.length := by omega
          rw [List.take_length] at HN1
          go_wp2_with (go_at_call 27; refine (writes_call t.client t.state _ t.ops wx (HR.out.later HBW.out) hok2).mono ?_; rintro e w2 ⟨v2, rfl, ho2, hb2⟩; have hr2 := ho2.rd; obtain ⟨a2, len2, cap2, rfl, rfl, hm2, -⟩ := hr2.at)
          have HR2 := Lib.hid hr2
          have P1 := Lib.hid (HN1.out.below hb2 (by omega))
          have P2 := Lib.hid (HN2.out.below hb2 (by omega))
          have PB := Lib.hid (HBW.out.trans (hb2.mono (by omega)))
          have hs2 := hb2.size
          have hwl : (writesM t.ops).length ≤ 16 := writesTo_le _ _
          generalize hws : writesM t.ops = ws at *
          have HWS := Lib.hid hws
          clear hr2 ho2 hb2 hws HN1 HN2 HBW HBX x0 x1 x2
          go_loopw [11, 42] (fun _ i wy => ∃ j : Nat, j ≤ ws.length ∧ i = .int .i64 j ∧ MapT Try.prog 99 vp Value.bool wy (w.heap.size + 1) ((ws.take j).foldl stepLa (laN ts k)) ∧ w2.grownBy wy (some (w.heap.size + 1))) (fun _ i _ => ws.length - (intOf i).toNat)
          case atStart => exact ⟨0, Nat.zero_le _, rfl, P2.out, World.grownBy.refl _ _⟩
          case round =>
            obtain ⟨wy, rfl⟩ : ∃ wy : World, wy = wr := ⟨_, rfl⟩
            obtain ⟨j, hj, rfl, hN2, hgy⟩ := hrel
            have HN2 := Lib.hid hN2
            have HGY := Lib.hid hgy
            have hsy := hgy.size
            clear hN2 hgy
            by_cases hjl : j < ws.length
            · obtain ⟨o, ho⟩ := some_at hjl
              obtain ⟨_, _, _, e5, -, -, hcl⟩ := HR2.out.at
              cases e5
              obtain ⟨ob, ooff, rfl, y0', y1', y2'⟩ := hcl j o ho
              have y0 := HGY.out.cell y0' (fun e => P2.out.no_cell y0' (by cases e; rfl))
              have y1 := HGY.out.cell y1' (fun e => P2.out.no_cell y1' (by cases e; rfl))
              have y2 := HGY.out.cell y2' (fun e => P2.out.no_cell y2' (by cases e; rfl))
              have hoo := HOP.out o (writesM_mem (HWS.out ▸ List.mem_of_getElem? ho))
              obtain ⟨kl, hkl⟩ := placeKey hoo.2.1 hoo.2.2
              have HK := Lib.hid hkl
              have HF := Lib.hid (fold_at (f := stepLa) (laN ts k) ho)
              clear hcl ho hkl y0' y1' y2'
              go_wp2_with (at_mapUpdate; refine wpList_mapUpdate_T (b := w.heap.size + 1) (eK := vp) (eV := Value.bool) rfl _ _ _ rfl placeKeyed vp_inj Try.underlying94 (HN2.out.frame (Below.heap_alloc _ _ _ (by omega))) rfl (o.key, o.val) HK.out rfl true rfl ?_; intro w1 hM1 hg1)
              go_roundw
              case rel =>
                refine ⟨j + 1, by omega, by go_num, ?_, ?_⟩
                · rw [HF.out]; exact hM1
                · exact (HGY.out.trans (World.grownBy_alloc _ _ _)).trans hg1
              case measure => simp [intOf]; omega
            · obtain rfl : j = ws.length := by omega
              rw [List.take_length] at HN2
              go_wp2_with fail
              go_roundw
              case rel =>
                refine ⟨k + 1, by omega, by go_num, ?_, ?_, ?_, ?_⟩
                · rw [byN_succ HT.out]; exact P1.out.kept HGY.out (by simp)
                · rw [laN_succ HT.out, HWS.out]; exact HN2.out
                · omega
                · exact PB.out.grown HGY.out (by omega) (fun j hj => by cases hj; omega)
              case measure => simp [intOf]; omega
    · obtain rfl : k = ts.length := by omega
      go_wp2
      go_ret2
      exact ⟨rfl, HM1.out, HM2.out, HB.out⟩
end Go.Proofs.Ytafboehdihokhaa
