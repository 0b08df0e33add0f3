import Derived.Test.YtafboehdihokhaaFlaws
namespace Go.Proofs.Ytafboehdihokhaa
open Go.RowKit Go.Maps

theorem foldBy_get (n : Nat) (x : Int × Int) (w : Int) : ∀ (l : List GOp) (L : ByL), getM (l.foldl (stepBy n) L) x = some w → w = n ∨ getM L x = some w := by
  intro l
  induction l with
  | nil => exact fun L h => .inr h
  | cons o l ih =>
    intro L h
    rcases ih _ h with h | h
    · exact .inl h
    · unfold stepBy at h
      split at h
      · rw [getM_put] at h
        split at h
        · simp at h; exact .inl h.symm
        · exact .inr h
      · exact .inr h

theorem byN_lt (ts : List GTxn) (x : Int × Int) (w : Int) : ∀ n, n ≤ ts.length → getM (byN ts n) x = some w → ∃ i : Nat, w = i ∧ i < n := by
  intro n
  induction n with
  | zero => intro _ h; simp [byN, getM_nil] at h
  | succ n ih =>
    intro hn h
    obtain ⟨t, ht⟩ := some_at hn
    rw [byN_succ ht] at h
    rcases foldBy_get n x w _ _ h with h | h
    · exact ⟨n, h, by omega⟩
    · obtain ⟨i, h1, h2⟩ := ih (by omega) h; exact ⟨i, h1, by omega⟩

/-- One read, in flaws.Sure. -/
def sureR (M : ByL) (ts : List GTxn) (L : List Bool) (o : GOp) : List Bool :=
  match getM M (o.key, o.val) with
  | some w => if o.val ≠ 0 ∧ (ts[w.toNat]?.map (·.state)) = some 0 then L.set w.toNat true else L
  | none => L
/-- One transaction, in flaws.Sure. -/
def sureT (M : ByL) (ts : List GTxn) (L : List Bool) (p : GTxn × Nat) : List Bool := (readsM p.1).foldl (sureR M ts) (L.set p.2 ((L[p.2]?.getD false) || p.1.state == 1))
def sureN (ts : List GTxn) (n : Nat) : List Bool := (ts.take n).zipIdx.foldl (sureT (byN ts ts.length) ts) (List.replicate ts.length false)
/-- flaws.Sure. -/
def sureM (ts : List GTxn) : List Bool := sureN ts ts.length

theorem sureR_length (M : ByL) (ts : List GTxn) (L : List Bool) (o : GOp) : (sureR M ts L o).length = L.length := by
  unfold sureR; split
  · split <;> simp
  · rfl
theorem foldR_length (M : ByL) (ts : List GTxn) : ∀ (l : List GOp) (L : List Bool), (l.foldl (sureR M ts) L).length = L.length := by
  intro l
  induction l with
  | nil => intro L; rfl
  | cons o l ih => intro L; rw [List.foldl_cons, ih, sureR_length]
theorem sureN_succ {ts : List GTxn} {n : Nat} {t : GTxn} (h : ts[n]? = some t) : sureN ts (n + 1) = sureT (byN ts ts.length) ts (sureN ts n) (t, n) := by
  unfold sureN; rw [zipIdx_take_succ h, List.foldl_append]; rfl
theorem sureN_length (ts : List GTxn) : ∀ n, n ≤ ts.length → (sureN ts n).length = ts.length := by
  intro n
  induction n with
  | zero => intro _; simp [sureN]
  | succ n ih =>
    intro hn
    obtain ⟨t, ht⟩ := some_at hn
    rw [sureN_succ ht]; unfold sureT
    rw [foldR_length, List.length_set, ih (by omega)]
theorem sureM_length (ts : List GTxn) : (sureM ts).length = ts.length := sureN_length ts _ (Nat.le_refl _)

/-- A row of bools in a block of its own. -/
def BoolB (w : World) (b : Nat) (L : List Bool) : Prop := w.heap[b]? = some (.cells (L.map Value.bool).toArray 4)
theorem BoolB.lt {w : World} {b : Nat} {L : List Bool} (h : BoolB w b L) : b < w.heap.size := (Array.getElem?_eq_some_iff.1 h).1
theorem BoolB.at {w : World} {b : Nat} {L : List Bool} (h : BoolB w b L) {j : Nat} {x : Bool} (hj : L[j]? = some x) : w.cell? ⟨b, j, none⟩ = some (.bool x) := by
  rw [cell_of h j]; simp [hj]
theorem BoolB.frame {w w' : World} {b : Nat} {L : List Bool} (h : BoolB w b L) (hw : w'.heap[b]? = w.heap[b]?) : BoolB w' b L := hw.trans h
theorem BoolB.set {w : World} {b : Nat} {L : List Bool} (h : BoolB w b L) (j : Nat) (x : Bool) : BoolB (w.setCell ⟨b, j, none⟩ (.bool x)) b (L.set j x) ∧ w.grownBy (w.setCell ⟨b, j, none⟩ (.bool x)) (some b) := by
  refine ⟨?_, rfl, rfl, rfl, by simp, fun k _ hk => heap_setCell_other w ⟨b, j, none⟩ k _ (fun e => hk (by simp [e]))⟩
  have := heap_setCell_same w b j (L.map Value.bool).toArray 4 (.bool x) h
  unfold BoolB
  rw [this]
  simp [List.map_set]
theorem BoolB.free {w : World} {b : Nat} {L : List Bool} (h : BoolB w b L) (j : Nat) : w.frozen? ⟨b, j, none⟩ = false := free_of h j

theorem Try.infoBool : (Try.prog.info? 4).map (fun i => (i.zero, i.size, i.bytes)) = some (some (.bool false), 1, 1) := by kernel_rfl
theorem run_makeBools (w : World) (n : Nat) (hn : n ≤ 1048576) : (Instr.makeSlice 58 (.int .i64 (n : Int)) (.int .i64 (n : Int))).run Try.prog w = .ok (.slice (some ⟨w.heap.size, 0, none⟩) n n) (w.alloc (.cells ((List.replicate n false).map Value.bool).toArray 4)) := by
  obtain ⟨i, hi, h2⟩ := Option.map_eq_some_iff.1 Try.infoBool
  simp only [Prod.mk.injEq] at h2
  obtain ⟨hz, hs, hb⟩ := h2
  have := run_makeSlice (P := Try.prog) w 58 4 i (.bool false) Try.underlying58 hi hz .i64 .i64 n n (by omega) (Int.le_refl _) (by rw [hs]; omega) (by rw [hb]; omega) (by omega)
  rw [this, hs]
  have e : madeCells (Value.bool false).cells ((n : Int).toNat * 1) = ((List.replicate n false).map Value.bool).toArray := by
    apply Array.toList_inj.1
    rw [show (Value.bool false).cells = #[Value.bool false] from rfl, toList_madeCells_one]
    simp
  rw [e]; simp

theorem stepR_mem {l : List GOp} {o : GOp} : ∀ (s : List (Int × Bool) × List GOp), o ∈ (l.foldl stepR s).2 → o ∈ l ∨ o ∈ s.2 := by
  induction l with
  | nil => exact fun s h => .inr h
  | cons p l ih =>
    intro s h
    rcases ih _ h with h | h
    · exact .inl (List.mem_cons_of_mem _ h)
    · unfold stepR at h
      split at h
      · exact .inr h
      · split at h
        · exact .inr h
        · rcases List.mem_append.1 h with h | h
          · exact .inr h
          · simp at h; exact .inl (by simp [h])
theorem readsM_mem {t : GTxn} {o : GOp} (h : o ∈ readsM t) : o ∈ t.ops := by
  unfold readsM at h
  split at h
  · rcases stepR_mem _ h with h | h
    · exact h
    · simp at h
  · simp at h

theorem start_bools (w : World) (ts : List GTxn) : BoolB (w.alloc (.cells (Array.replicate ts.length (Value.bool false)) 4)) w.heap.size (sureN ts 0) := by
  unfold BoolB
  rw [alloc_at]
  simp [sureN]

set_option maxRecDepth 100000 in
set_option maxHeartbeats 2000000 in
theorem sure_call (v : Value) (ts : List GTxn) (w : World) (hv : RdTxns w v ts) (hok : OkTxns ts) :
    Calls Try.prog 26 #[v] w fun e w' => ∃ b, e = .returned (.slice (some ⟨b, 0, none⟩) ts.length ts.length) ∧ w.heap.size ≤ b ∧ BoolB w' b (sureM ts) ∧ Below w.heap.size w w' := by
  have HV := Lib.hid hv
  have HOK := Lib.hid hok
  obtain ⟨a, len, cap, rfl, rfl, hm, -⟩ := hv.at
  have htl := hok.1
  clear hv hok
  have hmb := fun w => run_makeBools w ts.length htl
  go_enter Try.func26, Try.ntmps26
  go_wp2_with (go_at_call 45; refine (writers_call _ _ _ HV.out HOK.out).mono ?_; rintro e w1 ⟨rfl, hM1, hM2, hb1⟩)
  have hs1 := hb1.size
  have HM1 := Lib.hid hM1
  have HB1 := Lib.hid hb1
  have hB1 := hM2.lt
  clear hM1 hM2 hb1
  go_loopw [6, 7, 22] (fun _ _ i wr => ∃ k : Nat, k ≤ ts.length ∧ i = .int .i64 k ∧ BoolB wr w1.heap.size (sureN ts k) ∧ Below w1.heap.size w1 wr) (fun _ _ i _ => ts.length - (intOf i).toNat)
  case atStart => exact ⟨0, Nat.zero_le _, rfl, start_bools _ _, (Below.refl _ _).alloc (Nat.le_refl _) _⟩
  case round =>
    obtain ⟨wo, rfl⟩ : ∃ wo : World, wo = wr := ⟨_, rfl⟩
    obtain ⟨k, hk, rfl, hL, hb⟩ := hrel
    have hlo := hL.lt
    have HL := Lib.hid hL
    have HB := Lib.hid hb
    have HW := Lib.hid (HB1.out.trans (hb.mono hs1))
    clear hL hb
    by_cases hlt : k < ts.length
    · obtain ⟨t, ht⟩ := some_at hlt
      obtain ⟨_, _, _, e5, -, -, hcl⟩ := HV.out.at
      cases e5
      obtain ⟨b, off, oa, oc, rfl, hr, k0', k1', k2'⟩ := hcl k t ht
      have k0 := cell_later HW.out k0'
      have k1 := cell_later HW.out k1'
      have k2 := cell_later HW.out k2'
      obtain ⟨x, hx⟩ := some_at (l := sureN ts k) (k := k) (by rw [sureN_length ts k hk]; exact hlt)
      have x0 := HL.out.at hx
      have HT := Lib.hid ht
      have HX := Lib.hid hx
      have HR := Lib.hid hr
      have HC := Lib.hid hcl
      obtain ⟨hok1, hok2⟩ := HOK.out.2 t (List.mem_of_getElem? ht)
      have HOP := Lib.hid hok1
      have hfz : ∀ o, (wo.alloc o).frozen? ⟨w1.heap.size, k, none⟩ = false := fun o => (HL.out.frame (Below.heap_alloc _ o _ hlo)).free k
      clear hcl ht hr hok1 k0' k1' k2' hx
      go_upto_region 6 with fail
      go_cut [] (fun wx => BoolB wx w1.heap.size ((sureN ts k).set k (x || t.state == 1)) ∧ wo.heap.size < wx.heap.size ∧ wx.heap[wo.heap.size]? = some (.cells #[vi t.client, vi t.state, .slice oa t.ops.length oc] 62) ∧ Below w1.heap.size w1 wx)
      case first =>
        cases x
        · go_wp2_with fail
          go_meet
          have hset := HL.out.set k (t.state == 1)
          refine ⟨?_, ?_, ?_, ?_⟩
          · exact BoolB.frame (by simpa using hset.1) (Below.heap_alloc _ _ _ (by simpa using hlo))
          · simp
          · have := alloc_at (wo.setCell ⟨w1.heap.size, k, none⟩ (.bool (t.state == 1))) (.cells #[vi t.client, vi t.state, .slice oa t.ops.length oc] 62)
            simpa using this
          · exact (HB.out.setCell (Nat.le_refl _) _).alloc (by simp; omega) _
        · go_wp2_with fail
          go_meet
          have hset := HL.out.set k true
          refine ⟨?_, ?_, ?_, ?_⟩
          · exact BoolB.frame (by simpa using hset.1) (Below.heap_alloc _ _ _ (by simpa using hlo))
          · simp
          · have := alloc_at (wo.setCell ⟨w1.heap.size, k, none⟩ (.bool true)) (.cells #[vi t.client, vi t.state, .slice oa t.ops.length oc] 62)
            simpa using this
          · exact (HB.out.setCell (Nat.le_refl _) _).alloc (by simp; omega) _
      case rest =>
        obtain ⟨hL2, hsz, hbx, hb2⟩ := hcut
        have x0 : wc.cell? ⟨wo.heap.size, 0, none⟩ = some (vi t.client) := cell_of hbx 0
        have x1 : wc.cell? ⟨wo.heap.size, 1, none⟩ = some (vi t.state) := cell_of hbx 1
        have x2 : wc.cell? ⟨wo.heap.size, 2, none⟩ = some (.slice oa t.ops.length oc) := cell_of hbx 2
        have HL2 := Lib.hid hL2
        have HB2 := Lib.hid hb2
        have HW2 := Lib.hid (HB1.out.trans (hb2.mono hs1))
        have hl2 := hL2.lt
        clear hL2 hb2 hbx k0 k1 k2
        go_wp2_with (go_at_call 46; refine (reads_call t.client t.state _ t.ops _ (HR.out.later HW2.out) HOP.out hok2).mono ?_; rintro e w2 ⟨v2, rfl, ho2, hb2⟩; have hr2 := ho2.rd; obtain ⟨a2, len2, cap2, rfl, rfl, hm2, -⟩ := hr2.at)
        have hs2 := hb2.size
        have hws : (readsM ⟨t.client, t.state, t.ops⟩) = readsM t := rfl
        rw [hws] at ho2 hm2
        have HO2 := Lib.hid ho2
        have HB3 := Lib.hid (HB2.out.trans (hb2.mono (by omega)))
        have HL3 := Lib.hid (HL2.out.frame (hb2.block _ (by omega)))
        have hrl : (readsM t).length ≤ 1048576 := by
          unfold readsM; split
          · exact Nat.le_trans (readsS_le _) hok2
          · simp
        clear ho2 hb2 hr2
        try rw [hws]
        generalize hrs : readsM t = rs at *
        have HRS := Lib.hid hrs
        clear hrs
        go_loopw [9, 10, 11, 42] (fun _ _ _ i wy => ∃ j : Nat, j ≤ rs.length ∧ i = .int .i64 j ∧ BoolB wy w1.heap.size ((rs.take j).foldl (sureR (byN ts ts.length) ts) ((sureN ts k).set k (x || t.state == 1))) ∧ w2.grownBy wy (some w1.heap.size)) (fun _ _ _ i _ => rs.length - (intOf i).toNat)
        case atStart => exact ⟨0, Nat.zero_le _, rfl, HL3.out, World.grownBy.refl _ _⟩
        case round =>
          obtain ⟨wy, rfl⟩ : ∃ wy : World, wy = wr := ⟨_, rfl⟩
          obtain ⟨j, hj, rfl, hLy, hgy⟩ := hrel
          have hly := hLy.lt
          have HLY := Lib.hid hLy
          have HGY := Lib.hid hgy
          have HBY := Lib.hid (HB3.out.grown hgy (by omega) (fun j hj => by cases hj; exact Nat.le_refl _))
          clear hLy hgy
          by_cases hjl : j < rs.length
          · obtain ⟨o, ho⟩ := some_at hjl
            obtain ⟨_, _, _, e5, -, -, hcl⟩ := (OwOps.rd (own_keptBelow HO2.out HGY.out hl2)).at
            cases e5
            obtain ⟨ob, ooff, rfl, y0, y1, y2⟩ := hcl j o ho
            have hoo := HOP.out o (readsM_mem (HRS.out ▸ List.mem_of_getElem? ho))
            obtain ⟨kl, hkl⟩ := placeKey hoo.2.1 hoo.2.2
            have HF := Lib.hid (fold_at (f := sureR (byN ts ts.length) ts) ((sureN ts k).set k (x || t.state == 1)) ho)
            have HMY := HM1.out.below HBY.out (by omega)
            have hlk := fun o' => (MapT.lookup placeKeyed vp_inj Try.underlying93 (HMY.frame (Below.heap_alloc wy o' _ (by omega))) (o.key, o.val) hkl (zeroI _)).2
            clear hcl ho hkl
            cases hg : getM (byN ts ts.length) (o.key, o.val) with
            | none =>
              have HS := Lib.hid (show ∀ L, sureR (byN ts ts.length) ts L o = L from fun L => by unfold sureR; rw [hg])
              rw [hg] at hlk
              simp only [Option.map_none, Option.getD_none, Option.isSome_none] at hlk
              clear hg
              go_wp2_with fail
              go_roundw
              case rel =>
                refine ⟨j + 1, by omega, by go_num, ?_, ?_⟩
                · rw [HF.out, HS.out]; exact HLY.out.frame (Below.heap_alloc _ _ _ hly)
                · exact HGY.out.trans (World.grownBy_alloc _ _ _)
              case measure => simp [intOf]; omega
            | some wi =>
              obtain ⟨i, rfl, hi⟩ := byN_lt ts _ _ _ (Nat.le_refl _) hg
              obtain ⟨u, hu⟩ := some_at hi
              obtain ⟨_, _, _, _, e6, _, z0', z1', _⟩ := HC.out i u hu
              cases e6
              have z1 := fun o' => cell_later ((HB1.out.trans (HBY.out.mono hs1)).alloc (by have := HBY.out.size; omega) o') z1'
              have hfz := fun o' => (HLY.out.frame (Below.heap_alloc wy o' _ hly)).free i
              obtain ⟨z, hz⟩ := some_at (l := (rs.take j).foldl (sureR (byN ts ts.length) ts) ((sureN ts k).set k (x || t.state == 1))) (k := i) (by rw [foldR_length, List.length_set, sureN_length ts k hk]; exact hi)
              have hzc := fun o' => (HLY.out.frame (Below.heap_alloc wy o' _ hly)).at hz
              rw [hg] at hlk
              simp only [Option.map_some, Option.getD_some, Option.isSome_some] at hlk
              have hi1 : (i : Int) < (ts.length : Int) := by omega
              clear z0' z1' hz
              by_cases hv0 : o.val = 0
              · have HS := Lib.hid (show ∀ L, sureR (byN ts ts.length) ts L o = L from fun L => by unfold sureR; rw [hg]; simp [hv0])
                have hv1 : (o.val == 0) = true := by simp [hv0]
                have hv2 : (o.val != 0) = false := by simp [hv0]
                clear hg hv0 hu
                go_wp2_with fail
                go_roundw
                case rel =>
                  refine ⟨j + 1, by omega, by go_num, ?_, ?_⟩
                  · rw [HF.out, HS.out]; exact HLY.out.frame (Below.heap_alloc _ _ _ hly)
                  · exact HGY.out.trans (World.grownBy_alloc _ _ _)
                case measure => simp [intOf]; omega
              · have hv1 : (o.val == 0) = false := by simp [hv0]
                have hv2 : (o.val != 0) = true := by simp [hv0]
                by_cases hs0 : u.state = 0
                · have HS := Lib.hid (show ∀ L, sureR (byN ts ts.length) ts L o = L.set i true from fun L => by unfold sureR; rw [hg]; simp [hv0, hu, hs0])
                  have hs1' : (u.state == 0) = true := by simp [hs0]
                  clear hg hv0 hu hs0
                  go_wp2_with fail
                  go_roundw
                  case rel =>
                    have hset := HLY.out.set i true
                    refine ⟨j + 1, by omega, by go_num, ?_, ?_⟩
                    · rw [HF.out, HS.out]; exact BoolB.frame hset.1 (Below.heap_alloc _ _ _ (by simpa using hly))
                    · exact (HGY.out.trans hset.2).trans (World.grownBy_alloc _ _ _)
                  case measure => simp [intOf]; omega
                · have HS := Lib.hid (show ∀ L, sureR (byN ts ts.length) ts L o = L from fun L => by unfold sureR; rw [hg]; simp [hv0, hu, hs0])
                  have hs1' : (u.state == 0) = false := by simp [hs0]
                  clear hg hv0 hu hs0
                  go_wp2_with fail
                  go_roundw
                  case rel =>
                    refine ⟨j + 1, by omega, by go_num, ?_, ?_⟩
                    · rw [HF.out, HS.out]; exact HLY.out.frame (Below.heap_alloc _ _ _ hly)
                    · exact HGY.out.trans (World.grownBy_alloc _ _ _)
                  case measure => simp [intOf]; omega
          · obtain rfl : j = rs.length := by omega
            rw [List.take_length] at HLY
            go_wp2_with fail
            go_roundw
            case rel =>
              refine ⟨k + 1, by omega, by go_num, ?_, HBY.out⟩
              rw [sureN_succ HT.out]; unfold sureT
              rw [HRS.out, HX.out]; exact HLY.out
            case measure => simp [intOf]; omega
    · obtain rfl : k = ts.length := by omega
      go_wp2
      go_ret
      exact ⟨_, rfl, hs1, HL.out, HW.out⟩
end Go.Proofs.Ytafboehdihokhaa
