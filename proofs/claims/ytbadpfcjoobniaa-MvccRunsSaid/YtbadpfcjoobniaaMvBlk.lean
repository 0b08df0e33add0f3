/- (*mvcc.Store).blocks: the least one who waits, but one, and is such. -/
import Derived.Test.YtbadpfcjoobniaaMvBlocks
namespace Go.Proofs.Ytbadpfcjoobniaa
open Go.RowKit Go.Maps

/-- What a test of one who waits answers, wherever it is asked. -/
def SuchAt (g : FuncId) (cp : Array Value) (q : Rdy → Bool) (R : RdyL) (w : World) : Prop :=
  ∀ (x : Int × RV), x ∈ R → ∀ W : World, Below w.heap.size w W → Calls Try.prog g (#[rdyV x.2] ++ cp) W fun e W' => e = .returned (.bool (q x.2.r)) ∧ Below W.heap.size W W'
/-- What blocks answers. -/
def Blk (R : RdyL) (but : Int) (q : Rdy → Bool) (r : Int × Bool) : Prop :=
  (r = (0, false) ∧ ∀ x ∈ R, x.1 ≠ but → q x.2.r = false) ∨ (∃ x ∈ R, x.1 ≠ but ∧ q x.2.r = true ∧ r = (x.1, true) ∧ ∀ y ∈ R, y.1 ≠ but → q y.2.r = true → x.1 ≤ y.1)

theorem lookup_ready {w : World} {mr : Nat} {R : RdyL} (h : MapR w mr R) {x : Int × RV} (hx : x ∈ R) (z : Value) (hz : (zeroValue 29).run Try.prog w = .ok z w) :
    (Instr.lookup 92 (.map (some mr)) (vi x.1) false).run Try.prog w = .ok (rdyV x.2) w := by
  obtain ⟨kl, hkl⟩ := h.keyed hx
  have h1 := (h.lookup intKeyed vi_inj (t := 92) (e := 29) Try.underlying92 x.1 hkl hz).1
  have hg : getM R x.1 = some x.2 := by
    cases hg : getM R x.1 with
    | none => exact absurd rfl (getM_none.1 hg x hx)
    | some y =>
      have hy := getM_some hg
      have hp := h.pairwise
      obtain ⟨i, hi⟩ := List.mem_iff_getElem?.1 hx
      obtain ⟨j, hj⟩ := List.mem_iff_getElem?.1 hy
      obtain ⟨i1, i2⟩ := List.getElem?_eq_some_iff.1 hi
      obtain ⟨j1, j2⟩ := List.getElem?_eq_some_iff.1 hj
      rcases Nat.lt_trichotomy i j with h3 | h3 | h3
      · exact absurd (by rw [i2, j2]) (List.pairwise_iff_getElem.1 hp i j i1 j1 h3)
      · subst h3; rw [hi] at hj
        have h4 := congrArg Prod.snd (Option.some.inj hj)
        rw [h4]
      · exact absurd (by rw [i2, j2]) (List.pairwise_iff_getElem.1 hp j i j1 i1 h3)
  rw [hg] at h1
  exact h1
theorem zero_ready (w : World) : (zeroValue 29).run Try.prog w = .ok (.agg #[vi 0, vi 0, vi 0, .slice none 0 0, .slice none 0 0]) w := by kernel_rfl

set_option maxRecDepth 100000 in
set_option maxHeartbeats 4000000 in
theorem blocks_call {base p mk mr me : Nat} {serial : Bool} {bugs : Int} {K : KeysL} {R : RdyL} {E : EndL} (but : Int) (g : FuncId) (cp : Array Value) (q : Rdy → Bool) (w : World) (h : MvS base p mk mr me serial bugs K R E w) (hR : R.length ≤ 1048576)
    (eg : ∀ args w, (callFunc g args).run Try.prog w = .ok (.enter g args) w) (hs : SuchAt g cp q R w) :
    Calls Try.prog 35 #[.pointer (some ⟨p, 0, none⟩), vi but, .func (.func g) #[] cp] w fun e w' => ∃ id ok, e = .returned (.tuple #[vi id, .bool ok]) ∧ Blk R but q (id, ok) ∧ Below w.heap.size w w' := by
  have HM := Lib.hid h
  have HS := Lib.hid hs
  have p3 : w.cell? ⟨p, 3, none⟩ = some (.map (some mr)) := by rw [cell_of h.blk]; rfl
  clear h hs
  have HB1 := Lib.hid ((Below.refl w.heap.size w).alloc (Nat.le_refl _) (.cells #[.map (some mr)] 92))
  go_enter Try.func35, Try.ntmps35
  go_wp2_with (first
    | (go_at_call 45; refine (keys_call _).mono ?_; rintro e w1 ⟨rfl, rfl⟩)
    | (go_at_call 44; refine (sorted_call (mr := mr) (L := R) _ (by rw [cell_of (alloc_at _ _)]; rfl) (HM.out.later HB1.out).ready hR).mono ?_; rintro e w2 ⟨v2, ks, rfl, ho2, hp2, hs2, hb2⟩; obtain ⟨a2, l2, c2, rfl, hl2, -⟩ : ∃ a l c, v2 = .slice a l c ∧ l = ks.length ∧ True := (by rcases ho2.2 with ⟨hv, h0⟩ | ⟨g', cap, cur, hv, _⟩; exact ⟨none, 0, 0, hv, h0.symm, trivial⟩; exact ⟨_, _, _, hv, rfl, trivial⟩); subst hl2))
  have HO := Lib.hid ho2
  have HP := Lib.hid hp2
  have HSO := Lib.hid hs2
  have HB2 := Lib.hid (HB1.out.trans (hb2.mono HB1.out.size))
  have hw2 := HB2.out.size
  have hkl : ks.length ≤ 1048576 := by rw [hp2.length_eq]; simpa using hR
  clear ho2 hp2 hs2 hb2 p3
  go_loopw [9, 17] (fun _ n wr => ∃ j : Nat, j ≤ ks.length ∧ n = .int .i64 j ∧ Hid (∀ i id, i < j → ks[i]? = some id → ∀ x ∈ R, x.1 = id → x.1 ≠ but → q x.2.r = false) ∧ Below w2.heap.size w2 wr) (fun _ n _ => ks.length - (intOf n).toNat)
  case atStart => exact ⟨0, Nat.zero_le _, rfl, Lib.hid (fun i id h => absurd h (Nat.not_lt_zero _)), Below.refl _ _⟩
  case round =>
    obtain ⟨wj, rfl⟩ : ∃ wj : World, wj = wr := ⟨_, rfl⟩
    obtain ⟨j, hj, rfl, HN, hbj⟩ := hrel
    have HBj := Lib.hid hbj
    have HBW := Lib.hid (HB2.out.trans (hbj.mono hw2))
    clear hbj
    by_cases hlt : j < ks.length
    · obtain ⟨id, hid⟩ := some_at hlt
      obtain ⟨x, hx, hxi⟩ := List.mem_map.1 (HP.out.mem_iff.1 (List.mem_of_getElem? hid))
      subst hxi
      obtain ⟨g2, rfl⟩ : ∃ g2, a2 = some ⟨g2, 0, none⟩ := by
        rcases HO.out.2 with ⟨hv, h0⟩ | ⟨g', cap, cur, hv, _⟩
        · omega
        · simp only [Value.slice.injEq] at hv; exact ⟨_, hv.1⟩
      have c0 : wj.cell? ⟨g2, j, none⟩ = some (vi x.1) := by
        have h1 := World.ownsRow.cells HO.out (g := g2) rfl j (vi x.1) (by rw [viC_map, List.getElem?_map, hid]; rfl)
        rw [addr_add, Nat.zero_add] at h1
        exact cell_later HBj.out h1
      have hjI : (j : Int) < (ks.length : Int) := by omega
      have HID := Lib.hid hid
      have HX := Lib.hid hx
      have hnext : ∀ (h : x.1 ≠ but → q x.2.r = false), Hid (∀ i id, i < j + 1 → ks[i]? = some id → ∀ x ∈ R, x.1 = id → x.1 ≠ but → q x.2.r = false) := fun h => Lib.hid (by
        intro i id hi hik y hy hyi hyb
        rcases Nat.lt_or_ge i j with h1 | h1
        · exact HN.out i id h1 hik y hy hyi hyb
        · obtain rfl : i = j := by omega
          rw [HID.out] at hik; cases hik
          have : y = x := by
            have hp := HM.out.ready.pairwise
            obtain ⟨a, ha⟩ := List.mem_iff_getElem?.1 hy
            obtain ⟨b, hb⟩ := List.mem_iff_getElem?.1 HX.out
            obtain ⟨a1, a2⟩ := List.getElem?_eq_some_iff.1 ha
            obtain ⟨b1, b2⟩ := List.getElem?_eq_some_iff.1 hb
            rcases Nat.lt_trichotomy a b with h3 | h3 | h3
            · exact absurd (by rw [a2, b2]; exact hyi) (List.pairwise_iff_getElem.1 hp a b a1 b1 h3)
            · subst h3; rw [ha] at hb; exact Option.some.inj hb
            · exact absurd (by rw [a2, b2]; exact hyi.symm) (List.pairwise_iff_getElem.1 hp b a b1 a1 h3)
          subst this
          exact h hyb)
      have HNX := Lib.hid hnext
      clear hid hx hnext
      by_cases hbut : x.1 = but
      · have hne : (x.1 != but) = false := by simp [hbut]
        have HBU := Lib.hid hbut
        clear hbut
        go_wp2_with fail
        go_roundw
        case rel => exact ⟨j + 1, by omega, by go_num, HNX.out (fun h => absurd HBU.out h), HBj.out⟩
        case measure => simp [intOf]; omega
      · have hne : (x.1 != but) = true := by simp [hbut]
        have HBU := Lib.hid hbut
        have p3 : wj.cell? ⟨p, 3, none⟩ = some (.map (some mr)) := by rw [cell_of (HM.out.later HBW.out).blk]; rfl
        have hlk := lookup_ready (HM.out.later HBW.out).ready HX.out _ (zero_ready wj)
        obtain ⟨qb, hqb⟩ : ∃ b, q x.2.r = b := ⟨_, rfl⟩
        have hcall := HS.out x HX.out wj HBW.out
        rw [hqb] at hcall
        have HC := Lib.hid hcall
        have HQ := Lib.hid hqb
        clear hcall hqb hbut
        generalize hrv : rdyV x.2 = rv at *
        clear hrv
        cases qb
        · go_wp2_with (go_at_fn g; refine HC.out.mono ?_; rintro e w5 ⟨rfl, hb5⟩)
          go_roundw
          case rel => exact ⟨j + 1, by omega, by go_num, HNX.out (fun _ => HQ.out), HBj.out.trans (hb5.mono HBj.out.size)⟩
          case measure => simp [intOf]; omega
        · go_wp2_with (go_at_fn g; refine HC.out.mono ?_; rintro e w5 ⟨rfl, hb5⟩)
          go_ret2
          refine ⟨x.1, true, rfl, .inr ⟨x, HX.out, HBU.out, HQ.out, rfl, fun y hy hyb hyq => ?_⟩, HBW.out.trans (hb5.mono HBW.out.size)⟩
          obtain ⟨i, hi⟩ := List.mem_iff_getElem?.1 (HP.out.mem_iff.2 (List.mem_map.2 ⟨y, hy, rfl⟩))
          rcases Nat.lt_trichotomy i j with h1 | h1 | h1
          · rw [HN.out i _ h1 hi y hy rfl hyb] at hyq; cases hyq
          · subst h1; rw [HID.out] at hi; have h4 := Option.some.inj hi; omega
          · obtain ⟨i1, i2⟩ := List.getElem?_eq_some_iff.1 hi
            obtain ⟨j1, j2⟩ := List.getElem?_eq_some_iff.1 HID.out
            have h3 := List.pairwise_iff_getElem.1 HSO.out j i j1 i1 h1
            rwa [i2, j2] at h3
    · obtain rfl : j = ks.length := by omega
      go_wp2_with fail
      go_ret2
      refine ⟨0, false, rfl, .inl ⟨rfl, fun y hy hyb => ?_⟩, HBW.out⟩
      obtain ⟨i, hi⟩ := List.mem_iff_getElem?.1 (HP.out.mem_iff.2 (List.mem_map.2 ⟨y, hy, rfl⟩))
      exact HN.out i _ (List.getElem?_eq_some_iff.1 hi).1 hi y hy rfl hyb
end Go.Proofs.Ytbadpfcjoobniaa
