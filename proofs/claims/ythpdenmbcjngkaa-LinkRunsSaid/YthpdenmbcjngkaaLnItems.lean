/- The law's own words on its list of all messages: at, same; ref01.Copy. -/
import Derived.Test.YthpdenmbcjngkaaLnOps2
import Derived.Test.YthpdenmbcjngkaaLnSame
namespace Go.Proofs.Ythpdenmbcjngkaa
open Go.RowKit Go.Maps
attribute [local go_sem] Oper.semAt_some

/-- A message on a link: the link, the slice value that its bytes lie in, its bytes. -/
abbrev Itm := LK × (Value × List UInt8)
def itV (x : Itm) : List Value := [vi x.1.1, vi x.1.2, x.2.1]
theorem itV_length (x : Itm) : (itV x).length = 3 := rfl

structure ItemsS (base : Nat) (W : World) (v : Value) (J : List Itm) : Prop where
  row : W.ownsRow base 45 3 v J.length (J.flatMap itV)
  bytes : ∀ x ∈ J, OwB base W x.2.1 (byteI x.2.2)

theorem itV_one {base : Nat} {W : World} {v : Value} {J : List Itm} (h : ItemsS base W v J) : ∀ u ∈ J.flatMap itV, u.oneCell' = true := by
  intro u hu
  obtain ⟨x, hx, hu⟩ := List.mem_flatMap.1 hu
  simp only [itV, List.mem_cons, List.not_mem_nil, or_false] at hu
  rcases hu with rfl | rfl | rfl
  · rfl
  · rfl
  · obtain ⟨a, len, c, hv, -⟩ := (h.bytes x hx).rd.at
    rw [hv]; rfl
theorem own_stays {base size n : Nat} {e : TypeId} {A B : World} {v : Value} {xs : List Value} (h : A.ownsRow base e size v n xs) (hs : Stays A B) (h1 : e ≠ 30) (h2 : e ≠ 56) : B.ownsRow base e size v n xs := by
  refine ⟨h.1, ?_⟩
  rcases h.2 with h0 | ⟨g, cap, cur, hv, hg, hh, r⟩
  · exact .inl h0
  · exact .inr ⟨g, cap, cur, hv, hg, hs _ _ _ hh h1 h2, r⟩
theorem ItemsS.stays {base : Nat} {A B : World} {v : Value} {J : List Itm} (h : ItemsS base A v J) (hs : Stays A B) : ItemsS base B v J :=
  ⟨own_stays h.row hs (by decide) (by decide), fun x hx => own_stays (h.bytes x hx) hs (by decide) (by decide)⟩
theorem ItemsS.later {base : Nat} {A B : World} {v : Value} {J : List Itm} (h : ItemsS base A v J) (hb : Below A.heap.size A B) : ItemsS base B v J := h.stays ((Stays.refl A).later hb)
/-- The list in memory, element by element. -/
theorem ItemsS.at {base : Nat} {W : World} {v : Value} {J : List Itm} (h : ItemsS base W v J) : ∃ a cap, v = .slice a J.length cap ∧ J.length ≤ 9223372036854775807 ∧
    ∀ j x, J[j]? = some x → ∃ b off, a = some ⟨b, off, none⟩ ∧ W.cell? ⟨b, off + j * 3, none⟩ = some (vi x.1.1) ∧ W.cell? ⟨b, off + j * 3 + 1, none⟩ = some (vi x.1.2) ∧ W.cell? ⟨b, off + j * 3 + 2, none⟩ = some x.2.1 := by
  rcases h.row.2 with ⟨hv, h0⟩ | ⟨g, cap, cur, hv, hg, hh, hn, hcm, hs, ht⟩
  · have : J = [] := List.length_eq_zero_iff.1 h0
    subst this
    exact ⟨none, 0, hv, by simp, fun j x hj => by simp at hj⟩
  · refine ⟨_, _, hv, by simp only [maxLen] at hcm; omega, fun j x hj => ⟨g, 0, rfl, ?_, ?_, ?_⟩⟩
    · have := World.ownsRow.cells h.row (g := g) (by rw [hv]; rfl) (j * 3 + 0) _ (flat_at itV 3 itV_length J j 0 x (vi x.1.1) hj rfl)
      rw [addr_add] at this; simpa using this
    · have := World.ownsRow.cells h.row (g := g) (by rw [hv]; rfl) (j * 3 + 1) _ (flat_at itV 3 itV_length J j 1 x (vi x.1.2) hj rfl)
      rw [addr_add] at this; simpa using this
    · have := World.ownsRow.cells h.row (g := g) (by rw [hv]; rfl) (j * 3 + 2) _ (flat_at itV 3 itV_length J j 2 x x.2.1 hj rfl)
      rw [addr_add] at this; simpa using this

section pure
variable {β : Type}
/-- The place of a link's k-th message. -/
def atJ : List (LK × β) → LK → Nat → Option Nat
  | [], _, _ => none
  | x :: J, l, k => if x.1 = l then (match k with | 0 => some 0 | k + 1 => (atJ J l k).map (· + 1)) else (atJ J l k).map (· + 1)
def ofK (J : List (LK × β)) (l : LK) : List β := (J.filter (fun x => decide (x.1 = l))).map (·.2)
theorem ofK_cons (x : LK × β) (J : List (LK × β)) (l : LK) : ofK (x :: J) l = if x.1 = l then x.2 :: ofK J l else ofK J l := by
  unfold ofK; rw [List.filter_cons]; by_cases h : x.1 = l <;> simp [h]
theorem ofK_append (I J : List (LK × β)) (l : LK) : ofK (I ++ J) l = ofK I l ++ ofK J l := by unfold ofK; simp
theorem atJ_some : ∀ {J : List (LK × β)} {l : LK} {k p : Nat}, atJ J l k = some p → ∃ x, J[p]? = some (l, x) ∧ (ofK J l)[k]? = some x ∧ ofK (J.eraseIdx p) l = (ofK J l).eraseIdx k ∧ ∀ j, j ≠ l → ofK (J.eraseIdx p) j = ofK J j
  | [], l, k, p, h => by simp [atJ] at h
  | y :: J, l, k, p, h => by
    unfold atJ at h
    by_cases hy : y.1 = l
    · rw [if_pos hy] at h
      cases k with
      | zero =>
        simp at h; subst h
        refine ⟨y.2, by rw [← hy]; rfl, by rw [ofK_cons, if_pos hy]; rfl, by rw [ofK_cons, if_pos hy]; rfl, fun j hj => ?_⟩
        rw [ofK_cons, if_neg (fun e => hj (by rw [← e, hy]))]; rfl
      | succ k =>
        simp only [Option.map_eq_some_iff] at h
        obtain ⟨q, hq, rfl⟩ := h
        obtain ⟨x, h1, h2, h3, h4⟩ := atJ_some hq
        refine ⟨x, by simpa using h1, by rw [ofK_cons, if_pos hy]; simpa using h2, ?_, fun j hj => ?_⟩
        · rw [List.eraseIdx_cons_succ, ofK_cons, ofK_cons, if_pos hy, if_pos hy, h3]; rfl
        · rw [List.eraseIdx_cons_succ, ofK_cons, ofK_cons, h4 j hj]
    · rw [if_neg hy] at h
      simp only [Option.map_eq_some_iff] at h
      obtain ⟨q, hq, rfl⟩ := h
      obtain ⟨x, h1, h2, h3, h4⟩ := atJ_some hq
      refine ⟨x, by simpa using h1, by rw [ofK_cons, if_neg hy]; exact h2, ?_, fun j hj => ?_⟩
      · rw [List.eraseIdx_cons_succ, ofK_cons, ofK_cons, if_neg hy, if_neg hy, h3]
      · rw [List.eraseIdx_cons_succ, ofK_cons, ofK_cons, h4 j hj]
theorem atJ_none : ∀ {J : List (LK × β)} {l : LK} {k : Nat}, atJ J l k = none ↔ (ofK J l).length ≤ k
  | [], l, k => by simp [atJ, ofK]
  | y :: J, l, k => by
    unfold atJ
    rw [ofK_cons]
    by_cases hy : y.1 = l
    · rw [if_pos hy, if_pos hy]
      cases k with
      | zero => simp
      | succ k => simp only [Option.map_eq_none_iff, List.length_cons]; rw [atJ_none]; omega
    · rw [if_neg hy, if_neg hy]; simp only [Option.map_eq_none_iff]; exact atJ_none
def atI (J : List (LK × β)) (l : LK) (k : Nat) : Int := match atJ J l k with | some p => (p : Int) | none => -1
/-- The search from place i on. -/
theorem atJ_step {J : List (LK × β)} {i : Nat} {x : LK × β} (h : J[i]? = some x) (l : LK) (k : Nat) : atJ (J.drop i) l k = if x.1 = l then (match k with | 0 => some 0 | k + 1 => (atJ (J.drop (i + 1)) l k).map (· + 1)) else (atJ (J.drop (i + 1)) l k).map (· + 1) := by
  have hl := (List.getElem?_eq_some_iff.1 h).1
  rw [List.drop_eq_getElem_cons hl, (List.getElem?_eq_some_iff.1 h).2]
  rfl
end pure

/-- What at answers: exact where the number is not below nought. -/
def AtQ (J : List Itm) (l : LK) (k : Int) (w : World) (e : Ending) (w' : World) : Prop := ∃ r, e = .returned (vi r) ∧ (∀ n : Nat, k = (n : Int) → r = atI J l n) ∧ Below w.heap.size w w'

set_option maxRecDepth 100000 in
set_option maxHeartbeats 4000000 in
theorem at_call {base : Nat} (v : Value) (J : List Itm) (l : LK) (k : Int) (w : World) (hv : ItemsS base w v J) (hkm : k ≤ 9223372036854775807) :
    Calls Try.prog 13 #[v, lkV l, vi k] w (AtQ J l k w) := by
  have HB1 := Lib.hid ((Below.refl w.heap.size w).alloc (Nat.le_refl _) (.cells #[vi l.1, vi l.2] 29))
  have HX1 := Lib.hid (alloc_at w (.cells #[vi l.1, vi l.2] 29))
  have HV := Lib.hid (hv.later HB1.out)
  obtain ⟨a, cap, rfl, hm, -⟩ := hv.at
  have hw1 : (w.alloc (.cells #[vi l.1, vi l.2] 29)).heap.size = w.heap.size + 1 := by simp
  clear hv
  go_enter Try.func13, Try.ntmps13
  go_wp2_with fail
  generalize w.alloc (.cells #[vi l.1, vi l.2] 29) = w1 at *
  go_loopw [2, 7, 10] (fun kv _ n wr => ∃ (i : Nat) (k' : Int), i ≤ J.length ∧ n = .int .i64 i ∧ kv = .int .i64 k' ∧ Hid (∀ n : Nat, k = (n : Int) → ∃ m : Nat, k' = (m : Int) ∧ m ≤ n ∧ atJ J l n = (atJ (J.drop i) l m).map (· + i)) ∧ Below w1.heap.size w1 wr) (fun _ _ n _ => J.length - (intOf n).toNat)
  case atStart => exact ⟨0, k, Nat.zero_le _, rfl, rfl, Lib.hid (fun n hn => ⟨n, hn, Nat.le_refl _, by simp⟩), Below.refl _ _⟩
  case round =>
    obtain ⟨wk, rfl⟩ : ∃ wk : World, wk = wr := ⟨_, rfl⟩
    obtain ⟨i, k', hi, rfl, rfl, HK, hb⟩ := hrel
    have HBk := Lib.hid hb
    have b0 : wk.cell? ⟨w.heap.size, 0, none⟩ = some (vi l.1) := cell_later hb (by rw [cell_of HX1.out]; rfl)
    have b1 : wk.cell? ⟨w.heap.size, 1, none⟩ = some (vi l.2) := cell_later hb (by rw [cell_of HX1.out]; rfl)
    have HBW := Lib.hid (HB1.out.trans (hb.mono HB1.out.size))
    have hwk := hb.size
    by_cases hlt : i < J.length
    · obtain ⟨x, hx⟩ := some_at hlt
      obtain ⟨_, _, e5, -, hcl⟩ := HV.out.at
      cases e5
      obtain ⟨b, off, rfl, c0', c1', -⟩ := hcl i x hx
      have c0 := cell_later hb c0'
      have c1 := cell_later hb c1'
      have hiI : (i : Int) < (J.length : Int) := by omega
      have HX := Lib.hid hx
      clear hcl hx c0' c1' hb
      by_cases he : x.1 = l
      · have e0 : (x.1.1 == l.1) = true := by simp [he]
        have e1 : (x.1.2 == l.2) = true := by simp [he]
        have HE := Lib.hid he
        clear he
        by_cases hk0 : k' = 0
        · subst hk0
          go_wp2
          go_quiet (fail)
          go_wp2
          go_ret
          refine ⟨_, rfl, fun n hn => ?_, below_drewN HBW.out _⟩
          obtain ⟨m, hm0, hmn, h1⟩ := HK.out n hn
          obtain rfl : m = 0 := by omega
          rw [atJ_step HX.out, if_pos HE.out] at h1
          unfold atI; rw [h1]; simp
        · have hkb : (k' == 0) = false := by simpa using hk0
          go_wp2
          go_quiet (fail)
          go_wp2
          go_roundw
          case rel =>
            refine ⟨i + 1, _, by omega, by go_num, rfl, Lib.hid (fun n hn => ?_), below_drewN HBk.out _⟩
            obtain ⟨m, hm0, hmn, h1⟩ := HK.out n hn
            obtain ⟨m', rfl⟩ : ∃ m', m = m' + 1 := ⟨m - 1, by omega⟩
            refine ⟨m', ?_, by omega, ?_⟩
            · subst hm0
              rw [IntWalk.wrap64_in _ (by omega)]; omega
            · rw [h1, atJ_step HX.out, if_pos HE.out]
              simp only [Option.map_map]
              congr 1
              funext z; simp; omega
          case measure => simp [intOf]; omega
      · have HE := Lib.hid he
        by_cases h0 : x.1.1 = l.1
        · have e0 : (x.1.1 == l.1) = true := by simp [h0]
          have e1 : (x.1.2 == l.2) = false := by
            simp only [beq_eq_false_iff_ne, ne_eq]
            exact fun e => he (Prod.ext h0 e)
          clear he
          go_wp2
          go_quiet (fail)
          go_wp2
          go_roundw
          case rel =>
            refine ⟨i + 1, k', by omega, by go_num, rfl, Lib.hid (fun n hn => ?_), below_drewN HBk.out _⟩
            obtain ⟨m, hm0, hmn, h1⟩ := HK.out n hn
            refine ⟨m, hm0, hmn, ?_⟩
            rw [h1, atJ_step HX.out, if_neg HE.out]
            simp only [Option.map_map]
            congr 1
            funext z; simp; omega
          case measure => simp [intOf]; omega
        · have e0 : (x.1.1 == l.1) = false := by simp [h0]
          clear he
          go_wp2
          go_quiet (fail)
          go_wp2
          go_roundw
          case rel =>
            refine ⟨i + 1, k', by omega, by go_num, rfl, Lib.hid (fun n hn => ?_), below_drewN HBk.out _⟩
            obtain ⟨m, hm0, hmn, h1⟩ := HK.out n hn
            refine ⟨m, hm0, hmn, ?_⟩
            rw [h1, atJ_step HX.out, if_neg HE.out]
            simp only [Option.map_map]
            congr 1
            funext z; simp; omega
          case measure => simp [intOf]; omega
    · obtain rfl : i = J.length := by omega
      go_wp2_with fail
      go_ret
      refine ⟨_, rfl, fun n hn => ?_, HBW.out⟩
      obtain ⟨m, hm0, hmn, h1⟩ := HK.out n hn
      rw [List.drop_length] at h1
      unfold atI; rw [h1]; rfl
end Go.Proofs.Ythpdenmbcjngkaa
