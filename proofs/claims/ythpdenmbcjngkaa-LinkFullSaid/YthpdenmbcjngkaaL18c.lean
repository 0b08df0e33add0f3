/- The law LinkFull: its walk. -/
import Derived.Test.YthpdenmbcjngkaaLnSame
import Derived.Test.YthpdenmbcjngkaaLnHead
namespace Go.Proofs.Ythpdenmbcjngkaa.linkFull
open Go.RowKit Go.Maps

/-- x & 7. -/
def m7 (x : Int) : Int := bits .and .i64 x 7
theorem m7_range (x : Int) : 0 ≤ m7 x ∧ m7 x ≤ 7 := by
  have h : ((BitVec.ofInt 64 x) &&& (BitVec.ofInt 64 7)).toNat ≤ 7 := by
    rw [BitVec.toNat_and]
    exact Nat.le_trans Nat.and_le_right (by decide)
  have e : m7 x = (((BitVec.ofInt 64 x) &&& (BitVec.ofInt 64 7)).toNat : Int) := by
    show IntKind.i64.wrap (((BitVec.ofInt 64 x) &&& (BitVec.ofInt 64 7)).toNat : Int) = _
    exact IntWalk.i64_in _ (by omega)
  rw [e]; omega

/-- How a link's messages stand after k were sent round m links. -/
def Sent (L : Ways) (m k : Nat) (us : List UInt8) : Prop := ∀ key : LK, ∃ c, conW L key = List.replicate c (byteI us) ∧ (0 < c ↔ key.2 = 9 ∧ 0 ≤ key.1 ∧ key.1 < (min k m : Nat))

theorem sent_zero (m : Nat) (us : List UInt8) : Sent [] m 0 us := fun key => ⟨0, rfl, (fun h => by omega), (fun ⟨_, h1, h2⟩ => by simp at h2; omega)⟩
theorem sent_next {L L' : Ways} {m k : Nat} {us : List UInt8} (hm : 1 ≤ m) (h : Sent L m k us) (h1 : conW L' ((k : Int) % (m : Int), 9) = conW L ((k : Int) % (m : Int), 9) ++ [byteI us]) (h2 : ∀ key, key ≠ ((k : Int) % (m : Int), 9) → conW L' key = conW L key) : Sent L' m (k + 1) us := by
  have e : (k : Int) % (m : Int) = ((k % m : Nat) : Int) := by simp
  have hlt := Nat.mod_lt k (show 0 < m by omega)
  have hle := Nat.mod_le k m
  intro key
  by_cases hk : key = ((k : Int) % (m : Int), 9)
  · subst hk
    obtain ⟨c, hc, _⟩ := h ((k : Int) % (m : Int), 9)
    refine ⟨c + 1, by rw [h1, hc, List.replicate_succ'], ?_⟩
    simp only [e]
    constructor
    · intro _; refine ⟨trivial, by omega, by omega⟩
    · intro _; omega
  · obtain ⟨c, hc, hcc⟩ := h key
    refine ⟨c, by rw [h2 key hk, hc], hcc.trans ?_⟩
    constructor
    · rintro ⟨h9, h0, h3⟩; exact ⟨h9, h0, by omega⟩
    · rintro ⟨h9, h0, h3⟩
      refine ⟨h9, h0, ?_⟩
      by_cases hkm : m ≤ k
      · omega
      · have : k % m = k := Nat.mod_eq_of_lt (by omega)
        have hne : key.1 ≠ (k : Int) := fun e1 => hk (by rw [e, this, ← e1, ← h9])
        omega

theorem con_mem {L : Ways} (hp : L.Pairwise (fun p q => p.1 ≠ q.1)) (hne : ∀ x ∈ L, x.2.2 ≠ []) (key : LK) : key ∈ L.map (·.1) ↔ conW L key ≠ [] := by
  constructor
  · intro h
    obtain ⟨x, hx, rfl⟩ := List.mem_map.1 h
    obtain ⟨M, N, rfl⟩ := List.append_of_mem hx
    rw [List.pairwise_append] at hp
    rw [show (x :: N) = (x.1, x.2) :: N from rfl, conW_mid (fun p hp' => hp.2.2 p hp' x (by simp))]
    intro e
    exact hne x (by simp) (List.map_eq_nil_iff.1 e)
  · intro h
    cases hg : getM L key with
    | none => exact absurd (by unfold conW; rw [hg]; rfl) h
    | some x => exact List.mem_map.2 ⟨(key, x), getM_some hg, rfl⟩

theorem ways_len {L : Ways} (hp : L.Pairwise (fun p q => p.1 ≠ q.1)) (hne : ∀ x ∈ L, x.2.2 ≠ []) {m k : Nat} {us : List UInt8} (hs : Sent L m k us) (hk : m ≤ k) : L.length = m := by
  have h1 : (L.map (·.1)).Perm ((List.range m).map (fun i => (((i : Nat) : Int), (9 : Int)))) := by
    refine (List.perm_ext_iff_of_nodup (keys_nodup hp) ?_).2 fun key => ?_
    · rw [List.nodup_iff_pairwise_ne]
      refine List.pairwise_map.2 ((List.nodup_iff_pairwise_ne.1 List.nodup_range).imp fun hne h => hne ?_)
      have := congrArg Prod.fst h
      simp only at this
      omega
    · rw [con_mem hp hne]
      obtain ⟨c, hc, hcc⟩ := hs key
      rw [hc]
      have : (List.replicate c (byteI us) ≠ []) ↔ 0 < c := by cases c <;> simp [List.replicate_succ]
      rw [this, hcc, List.mem_map]
      constructor
      · rintro ⟨h9, h0, h1⟩
        refine ⟨key.1.toNat, by rw [List.mem_range]; omega, ?_⟩
        rw [Int.toNat_of_nonneg h0, ← h9]
      · rintro ⟨i, hi, rfl⟩
        rw [List.mem_range] at hi
        simp; omega
  have := h1.length_eq
  simpa using this

theorem ownL_shape {base : Nat} {w : World} {v : Value} {ks : List LK} (h : OwL base w v ks) : ∃ a c, v = .slice a ks.length c := by
  rcases h.2 with ⟨hv, h0⟩ | ⟨g, cap, cur, hv, _⟩
  · exact ⟨none, 0, by rw [hv, h0]⟩
  · exact ⟨_, _, hv⟩

set_option maxRecDepth 100000 in
set_option maxHeartbeats 8000000 in
theorem walk (x : Int) (v : Value) (us : List UInt8) (w : World) (hv : RdU w v us) :
    Calls Try.prog 5 #[vi x, v] w fun e w' => e = .returned (.bool true) ∧ Below w.heap.size w w' := by
  have HV := Lib.hid hv
  obtain ⟨a, len, cap, rfl, rfl, hxm, -⟩ := hv.at
  rw [byteI_len] at *
  clear hv hxm
  have hm7 := m7_range x
  have hw7 : IntKind.i64.wrap (1 + m7 x) = 1 + m7 x := IntWalk.i64_in _ (by omega)
  obtain ⟨m, hm⟩ : ∃ m : Nat, 1 + m7 x = (m : Int) := ⟨(1 + m7 x).toNat, by omega⟩
  rw [hm] at hw7
  have hm1 : 1 ≤ m ∧ m ≤ 8 := by omega
  rw [← hm] at hw7
  go_enter Try.func5, Try.ntmps5
  by_cases hlen : (us.length : Int) > 20
  · go_wp2_with (go_at_call 6; refine (head_call _).mono ?_; rintro e w1 ⟨rfl, hb1⟩)
    go_ret
    exact ⟨by rfl, hb1⟩
  go_wp2_with (first
    | (go_at_call 6; refine (head_call _).mono ?_; rintro e w1 ⟨rfl, hb1⟩; have HB1 := Lib.hid hb1; clear hb1)
    | (go_at_call 7; refine (new_call _).mono ?_; rintro e w2 ⟨p, mw, ma, rfl, hnet, hb2⟩))
  have HN2 := Lib.hid hnet
  have HBN := Lib.hid hb2
  have HB2 := Lib.hid (HB1.out.trans (hb2.mono HB1.out.size))
  have hw12 := hb2.size
  clear hnet hb2
  have hwm : wrap64 (1 + bits BinOp.and IntKind.i64 x 7) = (m : Int) := (IntWalk.wrap64_in (1 + m7 x) (by omega)).trans hm
  rw [hwm]
  clear hw7 hm hwm hm7
  have hm0 : ((m : Int) == 0) = false := by simp; omega
  go_loopw [6, 22, 23, 24, 25, 26, 27, 28, 29, 30, 31, 32, 33] (fun iv _ _ _ _ _ _ _ _ _ _ _ _ wr => ∃ (k : Nat) (L : Ways), k ≤ 500 ∧ iv = .int .i64 k ∧ NetS w1.heap.size p mw ma L [] k 0 wr ∧ Hid (Sent L m k us) ∧ Below w1.heap.size w1 wr) (fun iv _ _ _ _ _ _ _ _ _ _ _ _ _ => 500 - (intOf iv).toNat)
  case atStart => exact ⟨0, [], Nat.zero_le _, rfl, HN2.out, Lib.hid (sent_zero m us), HBN.out⟩
  case round =>
    obtain ⟨wk, rfl⟩ : ∃ wk : World, wk = wr := ⟨_, rfl⟩
    obtain ⟨k, L, hk, rfl, hnet, HS, hb⟩ := hrel
    have HN := Lib.hid hnet
    have HB := Lib.hid hb
    have hwk := hb.size
    clear hnet hb
    by_cases hlt : k < 500
    · have hltI : (k : Int) < 500 := by omega
      have HVk := Lib.hid (HV.out.later (HB1.out.trans (HB.out.mono HB1.out.size)))
      have hmod := Int.emod_lt_of_pos (k : Int) (show (0 : Int) < (m : Int) by omega)
      have hmod0 := Int.emod_nonneg (k : Int) (show (m : Int) ≠ 0 by omega)
      go_wp2_with (go_at_call 8; refine (send_call (base := w1.heap.size) ((k : Int) % (m : Int), 9) _ (byteI us) _ HN.out HB.out.size (by omega) (by unfold i64; simp only; omega) HVk.out (by rw [byteI_len]; omega)).mono ?_; rintro e w3 ⟨rfl, ⟨L', hn3, hc3, hc4⟩, hb3, -⟩)
      go_roundw
      case rel => exact ⟨k + 1, L', by omega, by go_num, by simpa using hn3, Lib.hid (sent_next hm1.1 HS.out hc3 hc4), HB.out.trans hb3⟩
      case measure => simp [intOf]; omega
    · obtain rfl : k = 500 := by omega
      have HLEN := Lib.hid (ways_len HN.out.mem.ways.pairwise HN.out.ne HS.out (by omega))
      obtain ⟨c, hc, hcc⟩ := HS.out (0, 9)
      have hc0 : 0 < c := hcc.2 ⟨rfl, Int.le_refl _, by simp; omega⟩
      have HT := Lib.hid (show (conW L (0, 9))[0]? = some (byteI us) by rw [hc]; cases c; omega; rfl)
      clear hc hcc hc0
      go_upto_region 13 with fail
      have HB13 := Lib.hid (HB.out.alloc hwk (.cells #[vi 0, vi 9] 29))
      have HN13 := Lib.hid (HN.out.later ((Below.refl wk.heap.size wk).alloc (Nat.le_refl _) (.cells #[vi 0, vi 9] 29)))
      have HX13 := Lib.hid (alloc_at wk (.cells #[vi 0, vi 9] 29))
      generalize wk.alloc (.cells #[vi 0, vi 9] 29) = w13 at *
      have b0 : w13.cell? ⟨wk.heap.size, 0, none⟩ = some (vi 0) := by rw [cell_of HX13.out]; rfl
      have b1 : w13.cell? ⟨wk.heap.size, 1, none⟩ = some (vi 9) := by rw [cell_of HX13.out]; rfl
      have hl9 : i64 ((0, 9) : LK).1 ∧ i64 ((0, 9) : LK).2 := by unfold i64; simp
      go_upto_region 15 with (first
        | (go_at_call 8; refine (send_full (base := w1.heap.size) (0, 9) _ _ HN13.out HB13.out.size (by omega) (by omega) (by omega)).mono ?_; rintro e w4 ⟨rfl, hn4, hb4, hs4⟩; have HN4 := Lib.hid (show NetS w1.heap.size p mw ma L [] 500 1 w4 by simpa using hn4); have HB4 := Lib.hid (HB13.out.trans hb4); have HX4 := Lib.hid (hs4 _ _ _ HX13.out (by decide) (by decide)); have b0' : w4.cell? ⟨wk.heap.size, 0, none⟩ = some (vi 0) := (by rw [cell_of HX4.out]; rfl); have b1' : w4.cell? ⟨wk.heap.size, 1, none⟩ = some (vi 9) := (by rw [cell_of HX4.out]; rfl); clear hn4 hb4 hs4)
        | (go_at_call 18; refine (twice_full (base := w1.heap.size) (0, 9) 0 _ HN4.out.mem (by omega) hl9).mono ?_; rintro e w5 ⟨rfl, hb5⟩; have HN5 := Lib.hid (HN4.out.later hb5); have HB5 := Lib.hid (HB4.out.trans (hb5.mono HB4.out.size)); have HX5 := Lib.hid ((hb5.block _ (Array.getElem?_eq_some_iff.1 HX4.out).1).trans HX4.out))
        | (go_at_call 12; refine (lost_call _ HN5.out.mem).mono ?_; rintro e w6 ⟨rfl, hb6⟩; have HN6 := Lib.hid (HN5.out.later hb6); have HB6 := Lib.hid (HB5.out.trans (hb6.mono HB5.out.size)); have HX6 := Lib.hid ((hb6.block _ (Array.getElem?_eq_some_iff.1 HX5.out).1).trans HX5.out))
        | (go_at_call 10; refine (flying_call _ HN6.out.mem).mono ?_; rintro e w7 ⟨rfl, hb7⟩; have HN7 := Lib.hid (HN6.out.later hb7); have HB7 := Lib.hid (HB6.out.trans (hb7.mono HB6.out.size)); have HX7 := Lib.hid ((hb7.block _ (Array.getElem?_eq_some_iff.1 HX6.out).1).trans HX6.out))
        | (go_at_call 11; refine (links_call _ HN7.out.mem (by rw [HLEN.out]; omega)).mono ?_; rintro e w8 ⟨v8, ks, rfl, ho8, hp8, -, hb8⟩; obtain ⟨a8, c8, rfl⟩ := ownL_shape ho8; have hk8 : ks.length = m := (by rw [hp8.length_eq, List.length_map]; exact HLEN.out); rw [hk8]; have HN8 := Lib.hid (HN7.out.later hb8); have HB8 := Lib.hid (HB7.out.trans (hb8.mono HB7.out.size)); have HX8 := Lib.hid ((hb8.block _ (Array.getElem?_eq_some_iff.1 HX7.out).1).trans HX7.out); clear ho8 hp8 hk8))
      clear hb5 hb6 hb7 hb8
      have b0 : w8.cell? ⟨wk.heap.size, 0, none⟩ = some (vi 0) := by rw [cell_of HX8.out]; rfl
      have b1 : w8.cell? ⟨wk.heap.size, 1, none⟩ = some (vi 9) := by rw [cell_of HX8.out]; rfl
      go_upto_region 16 with (go_at_call 9; refine (Take_call (base := w1.heap.size) (0, 9) 0 (byteI us) _ HN8.out HB8.out.size (by omega) hl9 HT.out rfl).mono ?_; rintro e w9 ⟨v9, rfl, hm9, ⟨L9, hn9, _, _⟩, hb9, hs9⟩)
      have HN9 := Lib.hid (show NetS w1.heap.size p mw ma L9 [] 499 1 w9 by simpa using hn9)
      have HB9 := Lib.hid (HB8.out.trans hb9)
      have HX9 := Lib.hid (hs9 _ _ _ HX8.out (by decide) (by decide))
      have HM9 := Lib.hid hm9.rd
      clear hn9 hb9 hs9 hm9 b0 b1
      go_upto_region 19 with (first
        | (go_at_call 20; refine (nil_heal _).mono ?_; rintro e w10 ⟨rfl, hb10⟩; have HN10 := Lib.hid (HN9.out.later hb10); have HB10 := Lib.hid (HB9.out.trans (hb10.mono HB9.out.size)); have HX10 := Lib.hid ((hb10.block _ (Array.getElem?_eq_some_iff.1 HX9.out).1).trans HX9.out); have HM10 := Lib.hid (HM9.out.later hb10); clear hb10)
        | (go_at_call 19; refine (nil_cut 1 2 true _).mono ?_; rintro e w11 ⟨rfl, hb11⟩; have HN11 := Lib.hid (HN10.out.later hb11); have HB11 := Lib.hid (HB10.out.trans (hb11.mono HB10.out.size)); have HX11 := Lib.hid ((hb11.block _ (Array.getElem?_eq_some_iff.1 HX10.out).1).trans HX10.out); have HM11 := Lib.hid (HM10.out.later hb11); clear hb11))
      have b0 : w11.cell? ⟨wk.heap.size, 0, none⟩ = some (vi 0) := by rw [cell_of HX11.out]; rfl
      have b1 : w11.cell? ⟨wk.heap.size, 1, none⟩ = some (vi 9) := by rw [cell_of HX11.out]; rfl
      have FLAG1 : Hid True := Lib.hid trivial
      have HVL := Lib.hid (fun (W : World) (hb : Below w1.heap.size w1 W) => HV.out.later (HB1.out.trans (hb.mono HB1.out.size)))
      go_wp2_with (first
        | (go_at_call 9; refine (nil_take (0, 9) _).mono ?_; rintro e w12 ⟨rfl, hb12⟩; have HN12 := Lib.hid (HN11.out.later hb12); have HB12 := Lib.hid (HB11.out.trans (hb12.mono HB11.out.size)); have HX12 := Lib.hid ((hb12.block _ (Array.getElem?_eq_some_iff.1 HX11.out).1).trans HX11.out); have HM12 := Lib.hid (HM11.out.later hb12); clear hb12)
        | (go_at_call 16; refine (same_call _ HM12.out (HVL.out _ HB12.out)).mono ?_; rw [show (us == us) = true by simp]; rintro e w14 ⟨rfl, hb14⟩; have HN14 := Lib.hid (HN12.out.later hb14); have HB14 := Lib.hid (HB12.out.trans (hb14.mono HB12.out.size)); have HX14 := Lib.hid ((hb14.block _ (Array.getElem?_eq_some_iff.1 HX12.out).1).trans HX12.out); clear hb14; have c0 : w14.cell? ⟨wk.heap.size, 0, none⟩ = some (vi 0) := (by rw [cell_of HX14.out]; rfl); have c1 : w14.cell? ⟨wk.heap.size, 1, none⟩ = some (vi 9) := (by rw [cell_of HX14.out]; rfl))
        | (go_at_call 8; clear FLAG1; refine (send_call (base := w1.heap.size) (0, 9) _ (byteI us) _ HN14.out HB14.out.size (by omega) hl9 (HVL.out _ HB14.out) (by rw [byteI_len]; omega)).mono ?_; rintro e w15 ⟨rfl, ⟨L15, hn15, _, _⟩, hb15, hs15⟩; have HN15 := Lib.hid (show NetS w1.heap.size p mw ma L15 [] 500 1 w15 by simpa using hn15); have HB15 := Lib.hid (HB14.out.trans hb15); have HX15 := Lib.hid (hs15 _ _ _ HX14.out (by decide) (by decide)); clear hn15 hb15 hs15; have FLAG2 : Hid True := Lib.hid trivial; have d0 : w15.cell? ⟨wk.heap.size, 0, none⟩ = some (vi 0) := (by rw [cell_of HX15.out]; rfl); have d1 : w15.cell? ⟨wk.heap.size, 1, none⟩ = some (vi 9) := (by rw [cell_of HX15.out]; rfl))
        | (go_at_call 8; clear FLAG2; refine (send_full (base := w1.heap.size) (0, 9) _ _ HN15.out HB15.out.size (by omega) (by omega) (by omega)).mono ?_; rintro e w16 ⟨rfl, hn16, hb16, hs16⟩; have HB16 := Lib.hid (HB15.out.trans hb16); have HX16 := Lib.hid (hs16 _ _ _ HX15.out (by decide) (by decide)); clear hn16 hb16 hs16; have e0 : w16.cell? ⟨wk.heap.size, 0, none⟩ = some (vi 0) := (by rw [cell_of HX16.out]; rfl); have e1 : w16.cell? ⟨wk.heap.size, 1, none⟩ = some (vi 9) := (by rw [cell_of HX16.out]; rfl))
        | (go_at_call 8; refine (nil_send (0, 9) _ _).mono ?_; rintro e w17 ⟨rfl, hb17⟩; have HB17 := Lib.hid (HB16.out.trans (hb17.mono HB16.out.size)); have HX17 := Lib.hid ((hb17.block _ (Array.getElem?_eq_some_iff.1 HX16.out).1).trans HX16.out); clear hb17; have f0 : w17.cell? ⟨wk.heap.size, 0, none⟩ = some (vi 0) := (by rw [cell_of HX17.out]; rfl); have f1 : w17.cell? ⟨wk.heap.size, 1, none⟩ = some (vi 9) := (by rw [cell_of HX17.out]; rfl))
        | (go_at_call 17; refine (nil_drop (0, 9) _).mono ?_; rintro e w18 ⟨rfl, hb18⟩; have HB18 := Lib.hid (HB17.out.trans (hb18.mono HB17.out.size)); have HX18 := Lib.hid ((hb18.block _ (Array.getElem?_eq_some_iff.1 HX17.out).1).trans HX17.out); clear hb18; have g0 : w18.cell? ⟨wk.heap.size, 0, none⟩ = some (vi 0) := (by rw [cell_of HX18.out]; rfl); have g1 : w18.cell? ⟨wk.heap.size, 1, none⟩ = some (vi 9) := (by rw [cell_of HX18.out]; rfl))
        | (go_at_call 18; refine (nil_twice (0, 9) _).mono ?_; rintro e w19 ⟨rfl, hb19⟩; have HB19 := Lib.hid (HB18.out.trans (hb19.mono HB18.out.size)); have HX19 := Lib.hid ((hb19.block _ (Array.getElem?_eq_some_iff.1 HX18.out).1).trans HX18.out); clear hb19; have i0 : w19.cell? ⟨wk.heap.size, 0, none⟩ = some (vi 0) := (by rw [cell_of HX19.out]; rfl); have i1 : w19.cell? ⟨wk.heap.size, 1, none⟩ = some (vi 9) := (by rw [cell_of HX19.out]; rfl))
        | (go_at_call 21; refine (nil_len (0, 9) _).mono ?_; rintro e w20 ⟨rfl, hb20⟩; have HB20 := Lib.hid (HB19.out.trans (hb20.mono HB19.out.size)); clear hb20)
        | (go_at_call 10; refine (nil_flying _).mono ?_; rintro e w21 ⟨rfl, hb21⟩; have HB21 := Lib.hid (HB20.out.trans (hb21.mono HB20.out.size)); clear hb21)
        | (go_at_call 12; refine (nil_lost _).mono ?_; rintro e w22 ⟨rfl, hb22⟩; have HB22 := Lib.hid (HB21.out.trans (hb22.mono HB21.out.size)); clear hb22)
        | (go_at_call 11; refine (nil_links _).mono ?_; rintro e w23 ⟨rfl, hb23⟩; have HB23 := Lib.hid (HB22.out.trans (hb23.mono HB22.out.size)); clear hb23))
      go_ret
      exact ⟨by rfl, HB1.out.trans (HB23.out.mono HB1.out.size)⟩
end Go.Proofs.Ythpdenmbcjngkaa.linkFull
