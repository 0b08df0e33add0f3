/- The law LinkOrder: its walk. -/
import Derived.Test.YthpdenmbcjngkaaLnKeys
namespace Go.Proofs.Ythpdenmbcjngkaa.linkOrder
open Go.RowKit Go.Maps

abbrev RdInts (w : World) (v : Value) (xs : List Int) : Prop := RdS 1 EInt w v xs
theorem RdInts.at {w : World} {v : Value} {xs : List Int} (h : RdInts w v xs) : ∃ a len cap, v = .slice a len cap ∧ len = xs.length ∧ xs.length ≤ 9223372036854775807 ∧ ∀ j x, xs[j]? = some x → ∃ b off, a = some ⟨b, off, none⟩ ∧ w.cell? ⟨b, off + j, none⟩ = some (.int .i64 x) ∧ i64 x := by
  obtain ⟨a, len, cap, h1, h2, h3, h4, h5, h6⟩ := h
  refine ⟨a, len, cap, h1, h2, h3, fun j x hj => ?_⟩
  obtain ⟨b, off, cs, ha, hl, hc, rfl, hx⟩ := h6 j x hj
  exact ⟨b, off, ha, by have := hc 0 _ rfl; simpa using this, hx⟩
theorem RdInts.later {w w' : World} {v : Value} {xs : List Int} (h : RdInts w v xs) (hb : Below w.heap.size w w') : RdInts w' v xs := RdS.below h hb fun _ _ h => h

/-- l & 3. -/
def m3 (x : Int) : Int := bits .and .i64 x 3
theorem m3_range (x : Int) : 0 ≤ m3 x ∧ m3 x ≤ 3 := by
  have h : ((BitVec.ofInt 64 x) &&& (BitVec.ofInt 64 3)).toNat ≤ 3 := by
    rw [BitVec.toNat_and]
    exact Nat.le_trans Nat.and_le_right (by decide)
  have e : m3 x = (((BitVec.ofInt 64 x) &&& (BitVec.ofInt 64 3)).toNat : Int) := by
    show IntKind.i64.wrap (((BitVec.ofInt 64 x) &&& (BitVec.ofInt 64 3)).toNat : Int) = _
    exact IntWalk.i64_in _ (by omega)
  rw [e]; omega
/-- The messages for a place, of those numbers of a list that stand from place i on. -/
def rest (f : Int) : Nat → List Int → List (List Int)
  | _, [] => []
  | i, l :: ls => if m3 l = f then [(i : Int)] :: rest f (i + 1) ls else rest f (i + 1) ls
theorem rest_append (f : Int) : ∀ (a b : List Int) (i : Nat), rest f i (a ++ b) = rest f i a ++ rest f (i + a.length) b
  | [], b, i => by simp [rest]
  | x :: a, b, i => by
    simp only [List.cons_append, rest, List.length_cons]
    rw [rest_append f a b (i + 1), show i + 1 + a.length = i + (a.length + 1) by omega]
    split <;> simp
theorem rest_none {f : Int} (hf : f < 0 ∨ 3 < f) : ∀ (a : List Int) (i : Nat), rest f i a = []
  | [], _ => rfl
  | x :: a, i => by
    have := m3_range x
    simp only [rest]
    rw [if_neg (by omega), rest_none hf a (i + 1)]
theorem rest_take {f : Int} {xs : List Int} {k : Nat} {x : Int} (h : xs[k]? = some x) : rest f 0 (xs.take (k + 1)) = rest f 0 (xs.take k) ++ (if m3 x = f then [[(k : Int)]] else []) := by
  have hl := (List.getElem?_eq_some_iff.1 h).1
  have hta : xs.take (k + 1) = xs.take k ++ [x] := by rw [List.take_add_one, h]; rfl
  rw [hta, rest_append]
  have : 0 + (xs.take k).length = k := by simp; omega
  rw [this]
  simp only [rest]
theorem rest_drop {f : Int} {xs : List Int} {k : Nat} {x : Int} (h : xs[k]? = some x) : rest f k (xs.drop k) = (if m3 x = f then [(k : Int)] :: rest f (k + 1) (xs.drop (k + 1)) else rest f (k + 1) (xs.drop (k + 1))) := by
  have hl := (List.getElem?_eq_some_iff.1 h).1
  rw [List.drop_eq_getElem_cons hl, (List.getElem?_eq_some_iff.1 h).2]
  simp only [rest]
theorem rd_one (w : World) (k : Int) : RdB8 (w.alloc (.cells #[u8 k] 5)) (.slice (some ⟨w.heap.size, 0, none⟩) 1 1) [k] := by
  refine ⟨some ⟨w.heap.size, 0, none⟩, 1, 1, rfl, rfl, by simp, Nat.le_refl _, (fun h => by cases h), fun j x hj => ?_⟩
  have hj0 : j = 0 := by have := (List.getElem?_eq_some_iff.1 hj).1; simp at this; omega
  subst hj0
  simp at hj; subst hj
  refine ⟨w.heap.size, 0, [u8 k], rfl, rfl, fun i u hu => ?_, rfl⟩
  have hi : i = 0 := by have := (List.getElem?_eq_some_iff.1 hu).1; simp at this; omega
  subst hi
  simp at hu; subst hu
  rw [cell_of (alloc_at _ _)]; rfl
theorem empty_of {L : Ways} (hp : L.Pairwise (fun p q => p.1 ≠ q.1)) (hne : ∀ x ∈ L, x.2.2 ≠ []) (hc : ∀ key, conW L key = []) : L = [] := by
  cases L with
  | nil => rfl
  | cons x L =>
    have h1 := hc x.1
    have h2 : conW (x :: L) x.1 = x.2.2.map (·.2) := by unfold conW; rw [getM_cons, if_pos rfl]; rfl
    rw [h2] at h1
    exact absurd (List.map_eq_nil_iff.1 h1) (hne x (by simp))

set_option maxRecDepth 100000 in
set_option maxHeartbeats 8000000 in
theorem walk (v : Value) (xs : List Int) (w : World) (hv : RdInts w v xs) :
    Calls Try.prog 3 #[v] w fun e w' => e = .returned (.bool true) ∧ Below w.heap.size w w' := by
  have HV := Lib.hid hv
  obtain ⟨a, len, cap, rfl, rfl, hxm, -⟩ := hv.at
  clear hv
  go_enter Try.func3, Try.ntmps3
  by_cases hlen : (xs.length : Int) > 200
  · go_wp2_with (go_at_call 6; refine (head_call _).mono ?_; rintro e w1 ⟨rfl, hb1⟩)
    go_ret
    exact ⟨by rfl, hb1⟩
  go_wp2_with (first
    | (go_at_call 6; refine (head_call _).mono ?_; rintro e w1 ⟨rfl, hb1⟩; have HB1 := Lib.hid hb1; clear hb1)
    | (go_at_call 7; refine (new_call _).mono ?_; rintro e w2 ⟨p, mw, ma, rfl, hnet, hb2⟩))
  have HN2 := Lib.hid hnet
  have HBN := Lib.hid hb2
  have HB2 := Lib.hid (HB1.out.trans (hb2.mono HB1.out.size))
  have hw12 := hb2.size
  clear hnet hb2
  go_loopw [4, 5, 19] (fun _ _ n wr => ∃ (k : Nat) (L : Ways), k ≤ xs.length ∧ n = .int .i64 k ∧ NetS w1.heap.size p mw ma L [] k 0 wr ∧ Hid (∀ key : LK, conW L key = if key.2 = 9 then rest key.1 0 (xs.take k) else []) ∧ Below w1.heap.size w1 wr) (fun _ _ n _ => xs.length - (intOf n).toNat)
  case atStart => exact ⟨0, [], Nat.zero_le _, rfl, HN2.out, Lib.hid (fun key => by simp [rest, conW, getM_nil]), HBN.out⟩
  case round =>
    obtain ⟨wk, rfl⟩ : ∃ wk : World, wk = wr := ⟨_, rfl⟩
    obtain ⟨k, L, hk, rfl, hnet, HC, hb⟩ := hrel
    have HN := Lib.hid hnet
    have HBk := Lib.hid hb
    have hwk := hb.size
    clear hnet hb
    by_cases hlt : k < xs.length
    · obtain ⟨x, hx⟩ := some_at hlt
      obtain ⟨_, _, _, e5, -, -, hcl⟩ := HV.out.at
      cases e5
      obtain ⟨b, off, rfl, x0', hxi⟩ := hcl k x hx
      have x0 := cell_later (HB1.out.trans (HBk.out.mono HB1.out.size)) x0'
      have hkI : (k : Int) < (xs.length : Int) := by omega
      have HX := Lib.hid hx
      have hm3 := m3_range x
      clear hcl hx x0' hxi
      have HBo := Lib.hid (HBk.out.alloc hwk (.cells #[u8 k] 5))
      have HNo := Lib.hid (HN.out.later ((Below.refl wk.heap.size wk).alloc (Nat.le_refl _) (.cells #[u8 k] 5)))
      have HRo := Lib.hid (rd_one wk k)
      go_wp2_with (go_at_call 8; refine (send_call (base := w1.heap.size) (m3 x, 9) _ [(k : Int)] _ HNo.out HBo.out.size (by omega) (by unfold i64; simp only; omega) HRo.out (by simp)).mono ?_; rintro e w6 ⟨rfl, ⟨L', hn6, hc6, hc7⟩, hb6, -⟩)
      go_roundw
      case rel =>
        refine ⟨k + 1, L', by omega, by go_num, by simpa using hn6, Lib.hid (fun key => ?_), HBo.out.trans hb6⟩
        obtain ⟨f, t⟩ := key
        by_cases ht : t = 9
        · subst ht
          by_cases hf : f = m3 x
          · subst hf
            rw [hc6, HC.out]
            simp only [if_true]
            rw [rest_take HX.out, if_pos rfl]
          · rw [hc7 _ (by simpa using hf), HC.out]
            simp only [if_true]
            rw [rest_take HX.out, if_neg (fun e => hf e.symm), List.append_nil]
        · rw [hc7 _ (by simp [ht]), HC.out]
          simp [ht]
      case measure => simp [intOf]; omega
    · obtain rfl : k = xs.length := by omega
      have HC0 := Lib.hid (show ∀ key : LK, conW L key = if key.2 = 9 then (if key.1 < ((0 : Nat) : Int) then [] else rest key.1 0 xs) else [] from fun key => by
        rw [HC.out key, List.take_length]
        by_cases h9 : key.2 = 9
        · by_cases h0 : key.1 < 0
          · rw [if_pos h9, if_pos h9, if_pos (by simpa using h0), rest_none (.inl h0)]
          · rw [if_pos h9, if_pos h9, if_neg (by simpa using h0)]
        · rw [if_neg h9, if_neg h9])
      go_wp2_with fail
      go_loopw [6, 7, 8, 9, 10] (fun fv _ _ _ _ wr => ∃ (f : Nat) (L : Ways) (n : Int), f ≤ 4 ∧ fv = .int .i64 f ∧ NetS w1.heap.size p mw ma L [] n 0 wr ∧ n ≤ 200 ∧ Hid (∀ key : LK, conW L key = if key.2 = 9 then (if key.1 < (f : Int) then [] else rest key.1 0 xs) else []) ∧ Below w1.heap.size w1 wr) (fun fv _ _ _ _ _ => 4 - (intOf fv).toNat)
      case atStart => exact ⟨0, L, _, by omega, rfl, HN.out, by omega, HC0, HBk.out⟩
      case round =>
        obtain ⟨wf, rfl⟩ : ∃ wf : World, wf = wr := ⟨_, rfl⟩
        obtain ⟨f, L2, n, hf, rfl, hnet, hn, HC2, hb⟩ := hrel
        have HN3 := Lib.hid hnet
        have HBf := Lib.hid hb
        have hwf := hb.size
        clear hnet hb
        by_cases hf4 : f < 4
        · have hfI : (f : Int) < 4 := by omega
          have HC4 := Lib.hid (show ∀ key : LK, conW L2 key = if key.2 = 9 then (if key.1 < (f : Int) then [] else if key.1 = (f : Int) then rest (f : Int) 0 (xs.drop 0) else rest key.1 0 xs) else [] from fun key => by
            rw [HC2.out key, List.drop_zero]
            by_cases h9 : key.2 = 9
            · rw [if_pos h9, if_pos h9]
              by_cases h0 : key.1 < (f : Int)
              · rw [if_pos h0, if_pos h0]
              · rw [if_neg h0, if_neg h0]
                by_cases h1 : key.1 = (f : Int)
                · rw [if_pos h1, h1]
                · rw [if_neg h1]
            · rw [if_neg h9, if_neg h9])
          go_wp2_with fail
          go_loopw [7, 8, 9, 10, 40] (fun _ _ _ _ iv wr => ∃ (i : Nat) (L : Ways) (n : Int), i ≤ xs.length ∧ iv = .int .i64 i ∧ NetS w1.heap.size p mw ma L [] n 0 wr ∧ n ≤ 200 ∧ Hid (∀ key : LK, conW L key = if key.2 = 9 then (if key.1 < (f : Int) then [] else if key.1 = (f : Int) then rest (f : Int) i (xs.drop i) else rest key.1 0 xs) else []) ∧ Below w1.heap.size w1 wr) (fun _ _ _ _ iv _ => xs.length - (intOf iv).toNat)
          case atStart => exact ⟨0, L2, n, Nat.zero_le _, rfl, HN3.out, hn, HC4, HBf.out⟩
          case round =>
            obtain ⟨wi, rfl⟩ : ∃ wi : World, wi = wr := ⟨_, rfl⟩
            obtain ⟨i, L3, n3, hi, rfl, hnet, hn3, HC5, hb⟩ := hrel
            have HN5 := Lib.hid hnet
            have HBi := Lib.hid hb
            have hwi := hb.size
            clear hnet hb
            by_cases hli : i < xs.length
            · obtain ⟨x, hx⟩ := some_at hli
              obtain ⟨_, _, _, e5, -, -, hcl⟩ := HV.out.at
              cases e5
              obtain ⟨b, off, rfl, x0', hxi⟩ := hcl i x hx
              have x0 := cell_later (HB1.out.trans (HBi.out.mono HB1.out.size)) x0'
              have hiI : (i : Int) < (xs.length : Int) := by omega
              have HX := Lib.hid hx
              clear hcl hx x0' hxi
              by_cases hm : m3 x = (f : Int)
              · have hmb : (bits BinOp.and IntKind.i64 x 3 != (f : Int)) = false := by show (m3 x != (f : Int)) = false; simpa using hm
                have HM := Lib.hid hm
                have HD := Lib.hid (rest_drop (f := (f : Int)) HX.out)
                clear hm
                have HT := Lib.hid (show (conW L3 ((f : Int), 9))[0]? = some [(i : Int)] by rw [HC5.out]; simp only [if_true]; rw [if_neg (by omega), HD.out, if_pos HM.out]; rfl)
                go_upto_region 20 with (go_at_call 9; refine (Take_call (base := w1.heap.size) ((f : Int), 9) 0 [(i : Int)] _ HN5.out HBi.out.size (by omega) (by unfold i64; simp only; omega) HT.out rfl).mono ?_; rintro e w6 ⟨v6, rfl, hm6, ⟨L6, hn6, hc6, hc7⟩, hb6, -⟩; obtain ⟨a6, l6, c6, rfl, rfl, -, -, hcell⟩ := hm6.rd.at; obtain ⟨b6, o6, rfl, y0⟩ := hcell 0 (i : Int) rfl)
                have HN6 := Lib.hid hn6
                have HB6 := Lib.hid (HBi.out.trans hb6)
                have HC6 := Lib.hid hc6
                have HC7 := Lib.hid hc7
                clear hm6 hn6 hc6 hc7 hb6 hcell
                simp only [Nat.add_zero] at y0
                go_wp2_with fail
                go_roundw
                case rel =>
                  refine ⟨i + 1, L6, _, by omega, by go_num, HN6.out, by omega, Lib.hid (fun key => ?_), HB6.out⟩
                  obtain ⟨g, t⟩ := key
                  by_cases hk : ((g, t) : LK) = ((f : Int), 9)
                  · simp only [Prod.mk.injEq] at hk
                    obtain ⟨rfl, rfl⟩ := hk
                    rw [HC6.out, HC5.out]
                    simp only [if_true]
                    rw [if_neg (by omega), if_neg (by omega), HD.out, if_pos HM.out]
                    rfl
                  · rw [HC7.out _ hk, HC5.out]
                    by_cases ht : t = 9
                    · subst ht
                      have hgf : g ≠ (f : Int) := fun e => hk (by rw [e])
                      simp only [if_true]
                      rw [if_neg hgf, if_neg hgf]
                    · simp [ht]
                case measure => simp [intOf]; omega
              · have hmb : (bits BinOp.and IntKind.i64 x 3 != (f : Int)) = true := by show (m3 x != (f : Int)) = true; simpa using hm
                have HM := Lib.hid hm
                have HD := Lib.hid (rest_drop (f := (f : Int)) HX.out)
                clear hm
                go_wp2_with fail
                go_roundw
                case rel =>
                  refine ⟨i + 1, L3, n3, by omega, by go_num, HN5.out, hn3, Lib.hid (fun key => ?_), HBi.out⟩
                  rw [HC5.out key, HD.out, if_neg HM.out]
                case measure => simp [intOf]; omega
            · obtain rfl : i = xs.length := by omega
              have HC8 := Lib.hid (show ∀ key : LK, conW L3 key = if key.2 = 9 then (if key.1 < ((f + 1 : Nat) : Int) then [] else rest key.1 0 xs) else [] from fun key => by
                rw [HC5.out key, List.drop_length]
                by_cases h9 : key.2 = 9
                · rw [if_pos h9, if_pos h9]
                  by_cases h0 : key.1 < (f : Int)
                  · rw [if_pos h0, if_pos (by omega)]
                  · rw [if_neg h0]
                    by_cases h1 : key.1 = (f : Int)
                    · rw [if_pos h1, if_pos (by omega)]; rfl
                    · rw [if_neg h1, if_neg (by omega)]
                · rw [if_neg h9, if_neg h9])
              go_wp2_with fail
              go_roundw
              case rel => exact ⟨f + 1, L3, n3, by omega, by go_num, HN5.out, hn3, HC8, HBi.out⟩
              case measure => simp [intOf]; omega
        · obtain rfl : f = 4 := by omega
          have hL : L2 = [] := empty_of HN3.out.mem.ways.pairwise HN3.out.ne (fun key => by
            rw [HC2.out key]
            split
            · split
              · rfl
              · exact rest_none (.inr (by omega)) _ _
            · rfl)
          subst hL
          have hn0 : n = 0 := by have := HN3.out.cnt; simpa [sumW] using this
          subst hn0
          go_wp2_with (first
            | (go_at_call 10; refine (flying_call _ HN3.out.mem).mono ?_; rintro e w7 ⟨rfl, hb7⟩; have HN7 := Lib.hid (HN3.out.mem.later hb7))
            | (go_at_call 11; refine (links_none _ HN7.out).mono ?_; rintro e w8 ⟨rfl, hb8⟩; have HN8 := Lib.hid (HN7.out.later hb8))
            | (go_at_call 12; refine (lost_call _ HN8.out).mono ?_; rintro e w9 ⟨rfl, hb9⟩))
          go_ret
          exact ⟨by rfl, (HB1.out.trans (HBf.out.mono HB1.out.size)).trans (((hb7.trans (hb8.mono hb7.size)).trans (hb9.mono (Nat.le_trans hb7.size hb8.size))).mono (Nat.le_trans HB1.out.size hwf))⟩
end Go.Proofs.Ythpdenmbcjngkaa.linkOrder
