/- Texts of one proof, one behind the other: CtF, DpIsG, IsX, CtT, CtH, CkHd. -/
import Derived.Test.YtnacoplokjdglaaGreatKe1
import Derived.Test.YtnacoplokjdglaaGreatKe2
import Derived.Test.YtnacoplokjdglaaGreatKe3
import Derived.Test.YtnacoplokjdglaaGreatKe4
import Derived.Test.YtnacoplokjdglaaGreatKe5
import Derived.Test.YtnacoplokjdglaaGreatKe6
import Derived.Test.YtnacoplokjdglaaGreatKe7
import Derived.Test.YtnacoplokjdglaaGreatKe8
import Derived.Test.YtnacoplokjdglaaGreatKe9
import Derived.Test.YtnacoplokjdglaaGreatKe10
import Derived.Test.YtnacoplokjdglaaGreatKe11
import Derived.Test.YtnacoplokjdglaaGreatKe12
import Derived.Test.YtnacoplokjdglaaGreatKe13
import Derived.Test.YtnacoplokjdglaaGreatKe14
import Derived.Test.YtnacoplokjdglaaGreatKe15
import Derived.Test.YtnacoplokjdglaaGreatKe16
import Derived.Test.YtnacoplokjdglaaGreatKe17
import Derived.Test.YtnacoplokjdglaaGreatKe18
import Derived.Test.YtnacoplokjdglaaGreatKe19
import Derived.Test.YtnacoplokjdglaaGreatKe20
import Derived.Test.YtnacoplokjdglaaGreatKe21
set_option linter.all false
namespace Go.Proofs.YtnacoplokjdglaaGreat
open Go.RowKit Go.Maps

def flA (x : Int × Int × Int) : Value := .agg #[vi x.1, vi x.2.1, vi x.2.2]
theorem eqInF (d : Nat) (a b : Int) (w : World) : (Op.equalIn (d + 1) 3 (vi a) (vi b)).run Tryz.prog w = .ok (a == b) w := by
  simp [Op.equalIn, run_underlying Tryz.underlying3]
set_option maxRecDepth 100000 in
theorem eqF_in (d : Nat) (x y : Int × Int × Int) (w : World) : (Op.equalIn (d + 1 + 1) 32 (flA x) (flA y)).run Tryz.prog w = .ok (x == y) w := by
  have hs : Tryz.prog.stoodInHeld 32 = false := by kernel_rfl
  have p0 : ∀ a b c w, (part 3 #[vi a, vi b, vi c] 0).run Tryz.prog w = .ok (vi a) w := fun _ _ _ _ => by kernel_rfl
  have p1 : ∀ a b c w, (part 3 #[vi a, vi b, vi c] 1).run Tryz.prog w = .ok (vi b) w := fun _ _ _ _ => by kernel_rfl
  have p2 : ∀ a b c w, (part 3 #[vi a, vi b, vi c] 2).run Tryz.prog w = .ok (vi c) w := fun _ _ _ _ => by kernel_rfl
  have hd : (x == y) = (x.1 == y.1 && (x.2.1 == y.2.1 && x.2.2 == y.2.2)) := by
    obtain ⟨a, b, c⟩ := x; obtain ⟨a', b', c'⟩ := y
    rw [Bool.eq_iff_iff]; simp
  rw [hd]
  unfold Op.equalIn flA
  by_cases h1 : x.1 = y.1 <;> by_cases h2 : x.2.1 = y.2.1 <;> by_cases h3 : x.2.2 = y.2.2 <;> simp [run_underlying Tryz.underlying32, hs, eqInF, p0, p1, p2, h1, h2, h3, Result.andThen]
theorem eqlF (x y : Int × Int × Int) (w : World) : (binOp .eql 32 (.agg #[vi x.1, vi x.2.1, vi x.2.2]) (.agg #[vi y.1, vi y.2.1, vi y.2.2])).run Tryz.prog w = .ok (.bool (x == y)) w := by
  have h : (Op.equal 32 (.agg #[vi x.1, vi x.2.1, vi x.2.2]) (.agg #[vi y.1, vi y.2.1, vi y.2.2])).run Tryz.prog w = .ok (x == y) w := eqF_in 9998 x y w
  simp only [binOp]
  simp [h]
def idxF (q : Int × Int × Int → Bool) (l : List (Int × Int × Int)) : Int := match l.findIdx? q with | some i => (i : Int) | none => -1
theorem idxF_any (q : Int × Int × Int → Bool) (l : List (Int × Int × Int)) : decide (0 ≤ idxF q l) = l.any q := by
  unfold idxF
  cases h : l.findIdx? q with
  | none =>
    rw [List.findIdx?_eq_none_iff] at h
    simp only [show ¬ ((0 : Int) ≤ -1) from by decide, decide_false]
    symm; rw [List.any_eq_false]; exact fun x hx => by simp [h x hx]
  | some i =>
    have hs : (l.findIdx? q).isSome = true := by rw [h]; rfl
    rw [List.findIdx?_isSome] at hs
    rw [hs]; simp
abbrev RdFw (w : World) (v : Value) (l : List (Int × Int × Int)) : Prop := RdS 3 (fun _ cs x => cs = flV x) w v l
theorem RdFw.at {w : World} {v : Value} {l : List (Int × Int × Int)} (h : RdFw w v l) : ∃ a len cap, v = .slice a len cap ∧ len = l.length ∧ l.length ≤ 9223372036854775807 ∧ ∀ j x, l[j]? = some x → ∃ b off, a = some ⟨b, off, none⟩ ∧ w.cell? ⟨b, off + j * 3, none⟩ = some (vi x.1) ∧ w.cell? ⟨b, off + j * 3 + 1, none⟩ = some (vi x.2.1) ∧ w.cell? ⟨b, off + j * 3 + 2, none⟩ = some (vi x.2.2) := by
  obtain ⟨a, len, cap, h1, h2, h3, h4, h5, h6⟩ := h
  refine ⟨a, len, cap, h1, h2, h3, fun j x hj => ?_⟩
  obtain ⟨b, off, cs, ha, hl, hc, rfl⟩ := h6 j x hj
  exact ⟨b, off, ha, by simpa using hc 0 _ rfl, by simpa [Nat.add_assoc] using hc 1 _ rfl, by simpa [Nat.add_assoc] using hc 2 _ rfl⟩
theorem OwFw.rd {base : Nat} {w : World} {v : Value} {l : List (Int × Int × Int)} (h : OwFw base w v l) : RdFw w v l := rds_of_own (V := flV) (fun _ => rfl) h
attribute [local go_sem] Oper.semAt_some

set_option maxRecDepth 100000 in
set_option maxHeartbeats 2000000 in
theorem indexF_call (v : Value) (l : List (Int × Int × Int)) (z : Int × Int × Int) (w : World) (hv : RdFw w v l) :
    Calls Tryz.prog 78 #[v, .agg #[vi z.1, vi z.2.1, vi z.2.2]] w fun e w' => e = .returned (.int .i64 (idxF (fun o => z == o) l)) ∧ Below w.heap.size w w' := by
  have HV := Lib.hid hv
  obtain ⟨a, n, cap, rfl, rfl, hm, -⟩ := hv.at
  have HX := Lib.hid (alloc_at w (.cells #[vi z.1, vi z.2.1, vi z.2.2] 32))
  have HB0 := Lib.hid ((Below.refl w.heap.size w).alloc (Nat.le_refl _) (.cells #[vi z.1, vi z.2.1, vi z.2.2] 32))
  have hw0 : (w.alloc (.cells #[vi z.1, vi z.2.1, vi z.2.2] 32)).heap.size = w.heap.size + 1 := by simp
  clear hv
  go_enter Tryz.func78, Tryz.ntmps78
  go_wp2_with fail
  generalize w.alloc (.cells #[vi z.1, vi z.2.1, vi z.2.2] 32) = w0 at *
  go_loopw [5, 8] (fun _ i wr => ∃ k : Nat, k ≤ l.length ∧ i = .int .i64 k ∧ (∀ j o, j < k → l[j]? = some o → (z == o) = false) ∧ Below w0.heap.size w0 wr) (fun _ i _ => l.length - (intOf i).toNat)
  case atStart => exact ⟨0, Nat.zero_le _, rfl, fun j o hj => absurd hj (Nat.not_lt_zero _), Below.refl _ _⟩
  case round =>
    obtain ⟨wj, rfl⟩ : ∃ wj : World, wj = wr := ⟨_, rfl⟩
    obtain ⟨k, hk, rfl, hno, hb⟩ := hrel
    have HBj := Lib.hid hb
    have HB := Lib.hid (HB0.out.trans (hb.mono HB0.out.size))
    have HN := Lib.hid hno
    have HXj := Lib.hid ((hb.block _ (by omega)).trans HX.out)
    clear hb hno
    by_cases hlt : k < l.length
    · obtain ⟨o, ho⟩ := some_at hlt
      obtain ⟨_, _, _, e5, _, -, hcl⟩ := HV.out.at
      cases e5
      obtain ⟨b, off, rfl, k0', k1', k2'⟩ := hcl k o ho
      have k0 := cell_later HB.out k0'
      have k1 := cell_later HB.out k1'
      have k2 := cell_later HB.out k2'
      have x0 : wj.cell? ⟨w.heap.size, 0, none⟩ = some (vi z.1) := by rw [cell_of HXj.out]; rfl
      have x1 : wj.cell? ⟨w.heap.size, 1, none⟩ = some (vi z.2.1) := by rw [cell_of HXj.out]; rfl
      have x2 : wj.cell? ⟨w.heap.size, 2, none⟩ = some (vi z.2.2) := by rw [cell_of HXj.out]; rfl
      have HO := Lib.hid ho
      have hq := eqlF z o
      have hltI : (k : Int) < (l.length : Int) := by omega
      clear hcl ho k0' k1' k2'
      cases hh : (z == o) with
      | true =>
        have HH := Lib.hid hh
        rw [hh] at hq
        clear hh
        go_wp2
        go_quiet (fail)
        go_wp2
        go_ret
        have : idxF (fun o => z == o) l = k := by
          unfold idxF
          have : l.findIdx? (fun o => z == o) = some k := by
            rw [List.findIdx?_eq_some_iff_getElem]
            have hg := List.getElem?_eq_some_iff.1 HO.out
            refine ⟨hlt, by rw [hg.2]; exact HH.out, fun j hj => ?_⟩
            have := HN.out j l[j] hj (List.getElem?_eq_getElem _)
            simp [this]
          rw [this]
        exact ⟨by rw [this]; rfl, below_drewN HB.out _⟩
      | false =>
        have HH := Lib.hid hh
        rw [hh] at hq
        clear hh
        go_wp2
        go_quiet (fail)
        go_wp2
        go_roundw
        case rel =>
          refine ⟨k + 1, by omega, by go_num, ?_, below_drewN HBj.out _⟩
          intro j o' hj ho'
          rcases Nat.lt_or_ge j k with h | h
          · exact HN.out j o' h ho'
          · obtain rfl : j = k := by omega
            rw [HO.out] at ho'; cases ho'; exact HH.out
        case measure => simp [intOf]; omega
    · obtain rfl : k = l.length := by omega
      go_wp2_with fail
      go_ret
      have : idxF (fun o => z == o) l = -1 := by
        unfold idxF
        have : l.findIdx? (fun o => z == o) = none := by
          rw [List.findIdx?_eq_none_iff]
          intro x hx
          obtain ⟨j, hj, rfl⟩ := List.mem_iff_getElem.1 hx
          exact HN.out j l[j] hj (List.getElem?_eq_getElem _)
        rw [this]
      exact ⟨by rw [this]; rfl, HB.out⟩

set_option maxRecDepth 100000 in
theorem containsF_call (v : Value) (l : List (Int × Int × Int)) (z : Int × Int × Int) (w : World) (hv : RdFw w v l) :
    Calls Tryz.prog 53 #[v, .agg #[vi z.1, vi z.2.1, vi z.2.2]] w fun e w' => e = .returned (.bool (l.any (fun o => z == o))) ∧ Below w.heap.size w w' := by
  have HV := Lib.hid (RdS.below hv ((Below.refl w.heap.size w).alloc (Nat.le_refl _) (.cells #[vi z.1, vi z.2.1, vi z.2.2] 32)) fun _ _ h => h)
  have HX := Lib.hid (alloc_at w (.cells #[vi z.1, vi z.2.1, vi z.2.2] 32))
  have HB0 := Lib.hid ((Below.refl w.heap.size w).alloc (Nat.le_refl _) (.cells #[vi z.1, vi z.2.1, vi z.2.2] 32))
  clear hv
  go_enter Tryz.func53, Tryz.ntmps53
  go_upto_region 1 with fail
  generalize w.alloc (.cells #[vi z.1, vi z.2.1, vi z.2.2] 32) = w0 at *
  have x0 : w0.cell? ⟨w.heap.size, 0, none⟩ = some (vi z.1) := by rw [cell_of HX.out]; rfl
  have x1 : w0.cell? ⟨w.heap.size, 1, none⟩ = some (vi z.2.1) := by rw [cell_of HX.out]; rfl
  have x2 : w0.cell? ⟨w.heap.size, 2, none⟩ = some (vi z.2.2) := by rw [cell_of HX.out]; rfl
  go_wp2_with (go_at_call 78; refine (indexF_call v l z w0 HV.out).mono ?_; rintro e w1 ⟨rfl, hb1⟩; have HB1 := Lib.hid (HB0.out.trans (hb1.mono HB0.out.size)); clear hb1)
  go_ret
  exact ⟨by rw [← idxF_any]; first | rfl | simp, HB1.out⟩
end Go.Proofs.YtnacoplokjdglaaGreat

namespace Go.Proofs.YtnacoplokjdglaaGreat
open Go.RowKit Go.Maps
attribute [local go_sem] Oper.semAt_some

theorem chain1_at {r : Nat → Nat → Prop} : ∀ {l : List Nat} {i a b : Nat}, Chain1 r l → l[i]? = some a → l[i + 1]? = some b → r a b
  | [], _, _, _, _, ha, _ => by simp at ha
  | [_], i, _, _, _, _, hb => by simp at hb
  | x :: y :: l, 0, a, b, hc, ha, hb => by
    simp at ha hb
    subst ha hb
    exact hc.1
  | x :: y :: l, i + 1, a, b, hc, ha, hb => chain1_at (l := y :: l) (i := i) hc.2 (by simpa using ha) (by simpa using hb)
theorem Closed.step {r : Nat → Nat → Prop} {s : Nat} {C : List Nat} (h : Closed r s C) {i a b : Nat} (ha : C[i]? = some a) (hb : C[(i + 1) % C.length]? = some b) : r a b := by
  have hi := (List.getElem?_eq_some_iff.1 ha).1
  by_cases h1 : i + 1 < C.length
  · rw [Nat.mod_eq_of_lt h1] at hb
    exact chain1_at h.chain ha hb
  · have h2 : i + 1 = C.length := by omega
    rw [h2, Nat.mod_self] at hb
    have hs : b = s := by
      have h3 := h.head
      rw [List.head?_eq_getElem?, hb] at h3
      exact Option.some.inj h3
    subst hs
    refine h.shut a ?_
    rw [List.getLast?_eq_getElem?, show C.length - 1 = i by omega]
    exact ha
theorem Closed.arc {r : Nat → Nat → Prop} {s : Nat} {C : List Nat} (h : Closed r s C) {i a : Nat} (ha : C[i]? = some a) : ∃ b, C[(i + 1) % C.length]? = some b ∧ r a b := by
  have hi := (List.getElem?_eq_some_iff.1 ha).1
  obtain ⟨b, hb⟩ := some_at (l := C) (k := (i + 1) % C.length) (Nat.mod_lt _ (by omega))
  exact ⟨b, hb, h.step ha hb⟩
theorem Closed.len {n s : Nat} {T : List (List Int)} {C : List Nat} (h : Closed (ArcT T) s C) (hn : T.length = n) : C.length ≤ n := by
  have := nodup_len C (List.range n) h.nodup (fun x hx => by
    obtain ⟨i, hi⟩ := List.mem_iff_getElem?.1 hx
    obtain ⟨b, -, l, h1, -⟩ := h.arc hi
    have := (List.getElem?_eq_some_iff.1 h1).1
    exact List.mem_range.2 (by omega))
  simpa using this
end Go.Proofs.YtnacoplokjdglaaGreat

namespace Go.Proofs.YtnacoplokjdglaaGreat
open Go.RowKit Go.Maps
attribute [local go_sem] Oper.semAt_some

theorem IntsAt.takeX {w : World} {a : Option Addr} {c k : Nat} {l : List Int} (h : IntsAt w (.slice a l.length c) l) (hk : k ≤ l.length) : IntsAt w (.slice a k c) (l.take k) := by
  obtain ⟨a, c', h1, h2, h3⟩ := h
  cases h1
  refine ⟨_, _, by rw [List.length_take, Nat.min_eq_left hk], by rw [List.length_take]; omega, fun j x hj => ?_⟩
  refine h3 j x ?_
  rw [List.getElem?_take] at hj
  split at hj
  · exact hj
  · cases hj
/-- Is the i-th node of a list one with an arc to the next one, not met ahead? -/
def okX (T : List (List Int)) (C : List Int) (i : Nat) : Bool :=
  match C[i]?, C[(i + 1) % C.length]? with
  | some v, some x => decide (0 ≤ v) && (decide (v < T.length) && (((T[v.toNat]?.map (fun l => l.any (fun o => x == o))).getD false) && !((C.take i).any (fun o => v == o))))
  | _, _ => false
/-- graph.Is. -/
def isX (T : List (List Int)) (C : List Int) : Bool := decide (0 < C.length) && (List.range C.length).all (okX T C)
theorem isX_true {T : List (List Int)} {C : List Int} (h0 : 0 < C.length) (h : ∀ j, j < C.length → okX T C j = true) : isX T C = true := by
  unfold isX
  rw [decide_eq_true h0, Bool.true_and, List.all_eq_true]
  exact fun j hj => h j (List.mem_range.1 hj)
theorem isX_false {T : List (List Int)} {C : List Int} {j : Nat} (hj : j < C.length) (h : okX T C j = false) : isX T C = false := by
  unfold isX
  have : (List.range C.length).all (okX T C) = false := by
    rw [List.all_eq_false]
    exact ⟨j, List.mem_range.2 hj, by rw [h]; simp⟩
  rw [this, Bool.and_false]

set_option maxRecDepth 100000 in
set_option maxHeartbeats 8000000 in
theorem is_callX (ni : Int) (arcs : List (Int × Int)) (v : Value) (ca : Option Addr) (cc : Nat) (C : List Int) (w : World) (hr : RdArcs w v arcs) (hl : arcs.length ≤ 1000000) (hI : IntsAt w (.slice ca C.length cc) C) (hcap : C.length ≤ cc) :
    Calls Tryz.prog 79 #[vi ni, v, .slice ca C.length cc] w fun e w' => e = .returned (.bool (isX (nextT (sizeM ni) arcs) C)) ∧ Below w.heap.size w w' := by
  have hsz := size_call ni w
  obtain ⟨n, hn⟩ : ∃ n, n = sizeM ni := ⟨_, rfl⟩
  rw [← hn] at hsz ⊢
  have hn4 : n ≤ 400 := by rw [hn]; exact sizeM_le ni
  clear hn
  have hnx := Lib.hid (next_callG n arcs v w hr hn4 hl)
  have HSH := Lib.hid (nextT_short (n := n) hl)
  have HSZ := Lib.hid hsz
  obtain ⟨T, hTe⟩ : ∃ T, T = nextT n arcs := ⟨_, rfl⟩
  have HLEN := Lib.hid (show T.length = n from by rw [hTe]; exact nextT_len n arcs)
  rw [← hTe] at hnx HSH ⊢
  have hcl : C.length ≤ 1000000000 := by obtain ⟨_, _, _, h, _⟩ := hI; exact h
  have HIA := Lib.hid hI
  clear hTe hl hr hsz hI
  go_enter Tryz.func79, Tryz.ntmps79
  go_upto_region 2 with (first | (go_at_call 92; refine HSZ.out.mono ?_; rintro e1 w0 ⟨rfl, rfl⟩) | (go_at_call 93; refine hnx.out.mono ?_; rintro e1 w1 ⟨tb, vs, rfl, hT, hB⟩; have HT := Lib.hid hT; have HB := Lib.hid hB; clear hT hB))
  go_wp2_with fail
  go_loopw [17] (fun i wr => ∃ k : Nat, k ≤ C.length ∧ i = vi k ∧ Hid (Below w1.heap.size w1 wr ∧ ∀ j, j < k → okX T C j = true)) (fun i _ => C.length - (intOf i).toNat)
  case atStart => exact ⟨0, Nat.zero_le _, rfl, Lib.hid ⟨Below.refl _ _, fun j h => absurd h (Nat.not_lt_zero _)⟩⟩
  case round =>
    obtain ⟨wj, rfl⟩ : ∃ wj : World, wj = wr := ⟨_, rfl⟩
    obtain ⟨k, hk, rfl, HJ⟩ := hrel
    have HBJ := Lib.hid (HB.out.trans (HJ.out.1.mono HB.out.size))
    by_cases hlt : k < C.length
    · have k1 : decide ((k : Int) < C.length) = true := decide_eq_true (by omega)
      have k2 : (k : Int) < C.length := by omega
      have hwk : IntKind.i64.wrap ((k : Int) + 1) = (k : Int) + 1 := IntWalk.i64_in _ (by omega)
      obtain ⟨a, ha⟩ := some_at hlt
      obtain ⟨nx, hnx2⟩ : ∃ nx, nx = (k + 1) % C.length := ⟨_, rfl⟩
      have hnl : nx < C.length := by rw [hnx2]; exact Nat.mod_lt _ (by omega)
      obtain ⟨b, hb⟩ := some_at hnl
      have hrem : ((k : Int) + 1).tmod (C.length : Int) = (nx : Int) := by rw [hnx2, Int.tmod_eq_emod_of_nonneg (by omega)]; push_cast; rfl
      have hwx : IntKind.i64.wrap (nx : Int) = (nx : Int) := IntWalk.i64_in _ (by omega)
      have HOK := Lib.hid (show okX T C k = (decide (0 ≤ a) && (decide (a < T.length) && (((T[a.toNat]?.map (fun l => l.any (fun o => b == o))).getD false) && !((C.take k).any (fun o => a == o))))) from by
        unfold okX
        rw [← hnx2, ha, hb])
      have HNX := Lib.hid (show okX T C k = true → ∀ j, j < k + 1 → okX T C j = true from fun h j hj => by
        rcases Nat.lt_or_ge j k with h2 | h2
        · exact HJ.out.2 j h2
        · obtain rfl : j = k := by omega
          exact h)
      have HNO := Lib.hid (show okX T C k = false → isX T C = false from fun h => isX_false hlt h)
      have HI := Lib.hid (HIA.out.later HBJ.out)
      obtain ⟨_, _, e5, -, hcl2⟩ := HI.out
      cases e5
      obtain ⟨g', off, e6, y0⟩ := hcl2 k a ha
      subst e6
      obtain ⟨_, _, e7, y1⟩ := hcl2 nx b hb
      cases e7
      have x2 : (nx : Int) < C.length := by omega
      have x3 : ((C.length : Int) == 0) = false := by rw [beq_eq_false_iff_ne]; omega
      have kc : (k : Int) ≤ cc := by omega
      have HPF := Lib.hid (HI.out.takeX (k := k) (by omega))
      clear hcl2 ha hb hnx2 HI
      go_upto_region 6 with fail
      clear y0 y1
      by_cases h1 : a < 0
      · have d1 : decide (a < 0) = true := decide_eq_true h1
        have HF := Lib.hid (HNO.out (by rw [HOK.out, decide_eq_false (by omega)]; rfl))
        clear h1
        go_wp2_with fail
        go_ret
        exact ⟨by rw [HF.out]; rfl, HBJ.out⟩
      · have d1 : decide (a < 0) = false := decide_eq_false h1
        by_cases h2 : (n : Int) ≤ a
        · have d2 : decide ((n : Int) ≤ a) = true := decide_eq_true h2
          have HF := Lib.hid (HNO.out (by rw [HOK.out, HLEN.out, decide_eq_false (show ¬ a < (n : Int) by omega)]; simp))
          clear h2
          go_wp2_with fail
          go_ret
          exact ⟨by rw [HF.out]; rfl, HBJ.out⟩
        · have d2 : decide ((n : Int) ≤ a) = false := decide_eq_false h2
          obtain ⟨m, rfl⟩ : ∃ m : Nat, a = m := ⟨a.toNat, by omega⟩
          have hmn : m < n := by omega
          have a3 : (m : Int) < n := by omega
          obtain ⟨la, hla⟩ := some_at (l := T) (k := m) (by rw [HLEN.out]; exact hmn)
          obtain ⟨va, hva, hrow⟩ := HT.out.rows.get hla
          obtain ⟨ak, ck, rfl⟩ := Gr.own_shape (show World.ownsRow _ _ _ _ va la.length _ from hrow)
          have td : wj.cell? ⟨tb, m, none⟩ = some (.slice ak la.length ck) := (HT.out.later HJ.out.1).cell hva
          have hml := HSH.out la (List.mem_of_getElem? hla)
          have HR := Lib.hid ((ints_of_own hrow (by omega)).later HJ.out.1)
          have HOK2 := Lib.hid (show okX T C k = (la.any (fun o => b == o) && !((C.take k).any (fun o => (m : Int) == o))) from by
            rw [HOK.out, decide_eq_true (by omega), decide_eq_true (by rw [HLEN.out]; omega), Int.toNat_natCast, hla]
            rfl)
          clear hla hva hrow h1 h2
          cases hy : la.any (fun o => b == o) with
          | false =>
            have HY := Lib.hid hy
            have HF := Lib.hid (HNO.out (by rw [HOK2.out, hy]; rfl))
            clear hy
            go_wp2_with (go_at_call 103; refine (containsN_call _ la b wj HR.out).mono ?_; rintro e8 w8 ⟨rfl, hb8⟩; rw [HY.out]; have HB8 := Lib.hid (HBJ.out.trans (hb8.mono HBJ.out.size)); clear hb8)
            go_ret
            exact ⟨by rw [HF.out]; rfl, HB8.out⟩
          | true =>
            have HY := Lib.hid hy
            have HOK3 := Lib.hid (show okX T C k = !((C.take k).any (fun o => (m : Int) == o)) from by rw [HOK2.out, hy, Bool.true_and])
            clear hy
            cases hz : (C.take k).any (fun o => (m : Int) == o) with
            | true =>
              have HZ := Lib.hid hz
              have HF := Lib.hid (HNO.out (by rw [HOK3.out, hz]; rfl))
              clear hz
              go_wp2_with (go_at_call 103; first
                | (refine (containsN_call _ la b wj HR.out).mono ?_; rintro e8 w8 ⟨rfl, hb8⟩; rw [HY.out]; have HB8 := Lib.hid (HBJ.out.trans (hb8.mono HBJ.out.size)); have HP8 := Lib.hid (HPF.out.later hb8); clear hb8)
                | (refine (containsN_call _ (C.take k) (m : Int) w8 HP8.out).mono ?_; rintro e9 w9 ⟨rfl, hb9⟩; rw [HZ.out]; have HB9 := Lib.hid (HB8.out.trans (hb9.mono HB8.out.size)); clear hb9))
              go_ret
              exact ⟨by rw [HF.out]; rfl, HB9.out⟩
            | false =>
              have HZ := Lib.hid hz
              have HG := Lib.hid (HNX.out (by rw [HOK3.out, hz]; rfl))
              clear hz
              go_wp2_with (go_at_call 103; first
                | (refine (containsN_call _ la b wj HR.out).mono ?_; rintro e8 w8 ⟨rfl, hb8⟩; rw [HY.out]; have HB8 := Lib.hid (HJ.out.1.trans (hb8.mono HJ.out.1.size)); have HP8 := Lib.hid (HPF.out.later hb8); clear hb8)
                | (refine (containsN_call _ (C.take k) (m : Int) w8 HP8.out).mono ?_; rintro e9 w9 ⟨rfl, hb9⟩; rw [HZ.out]; have HB9 := Lib.hid (HB8.out.trans (hb9.mono HB8.out.size)); clear hb9))
              exact ⟨⟨k + 1, by omega, by go_num, Lib.hid ⟨HB9.out, HG.out⟩⟩, by simp only [intOf]; omega⟩
    · have k1 : decide ((k : Int) < C.length) = false := decide_eq_false (by omega)
      have hke : k = C.length := by omega
      by_cases h0 : 0 < C.length
      · have k3 : decide ((0 : Int) < C.length) = true := decide_eq_true (by omega)
        have HF := Lib.hid (isX_true (T := T) h0 (fun j hj => HJ.out.2 j (by omega)))
        clear hke
        go_wp2_with fail
        go_ret
        exact ⟨by rw [HF.out]; rfl, HBJ.out⟩
      · have k3 : decide ((0 : Int) < C.length) = false := decide_eq_false (by omega)
        have HF := Lib.hid (show isX T C = false from by unfold isX; rw [decide_eq_false h0]; rfl)
        clear hke
        go_wp2_with fail
        go_ret
        exact ⟨by rw [HF.out]; rfl, HBJ.out⟩

/-! What it says. -/
theorem okX_iff {T : List (List Int)} {C : List Int} {i : Nat} {v x : Int} (hv : C[i]? = some v) (hx : C[(i + 1) % C.length]? = some x) : okX T C i = true ↔ 0 ≤ v ∧ (∃ l, T[v.toNat]? = some l ∧ x ∈ l) ∧ ∀ j, j < i → C[j]? ≠ some v := by
  unfold okX
  rw [hv, hx]
  simp only [Bool.and_eq_true, decide_eq_true_eq, Bool.not_eq_true', List.any_eq_false]
  constructor
  · rintro ⟨h1, h2, h3, h4⟩
    obtain ⟨l, hl⟩ : ∃ l, T[v.toNat]? = some l := ⟨_, List.getElem?_eq_getElem (by omega)⟩
    rw [hl] at h3
    simp only [Option.map_some, Option.getD_some, List.any_eq_true, beq_iff_eq] at h3
    obtain ⟨y, hy, rfl⟩ := h3
    refine ⟨h1, ⟨l, hl, hy⟩, fun j hj hc => ?_⟩
    have := h4 v (List.mem_of_getElem? (i := j) (by rw [List.getElem?_take, if_pos hj]; exact hc))
    simp at this
  · rintro ⟨h1, ⟨l, hl, hy⟩, h4⟩
    have := (List.getElem?_eq_some_iff.1 hl).1
    refine ⟨h1, by omega, by rw [hl]; simp only [Option.map_some, Option.getD_some, List.any_eq_true, beq_iff_eq]; exact ⟨x, hy, rfl⟩, fun y hy he => ?_⟩
    obtain ⟨j, hj⟩ := List.mem_iff_getElem?.1 hy
    rw [List.getElem?_take] at hj
    split at hj
    · rename_i hji
      simp only [beq_iff_eq] at he
      subst he
      exact h4 j hji hj
    · cases hj
end Go.Proofs.YtnacoplokjdglaaGreat

namespace Go.Proofs.YtnacoplokjdglaaGreat
open Go.RowKit Go.Maps
attribute [local go_sem] Oper.semAt_some

/-- A step's node, read: its cycle. -/
def ENode (w : World) (cs : List Value) (C : List Int) : Prop := ∃ u, cs = [u] ∧ RdInts w u C
abbrev RdNodes (w : World) (v : Value) (l : List (List Int)) : Prop := RdS 1 ENode w v l
theorem ENode.later {w w' : World} {cs : List Value} {C : List Int} (h : ENode w cs C) (hb : Below w.heap.size w w') : ENode w' cs C := by
  obtain ⟨u, h1, h2⟩ := h
  exact ⟨u, h1, RdS.below h2 hb fun _ _ h => h⟩
theorem RdNodes.later {w w' : World} {v : Value} {l : List (List Int)} (h : RdNodes w v l) (hb : Below w.heap.size w w') : RdNodes w' v l := RdS.below h hb fun _ _ h => h.later hb
theorem RdS.drop1 {α : Type} {E : World → List Value → α → Prop} {w : World} {b off n c : Nat} {xs : List α} (h : RdS 1 E w (.slice (some ⟨b, off, none⟩) n c) xs) (k : Nat) (hk : k ≤ n) :
    RdS 1 E w (sliced (some ⟨b, off, none⟩) k n c 1) (xs.drop k) := by
  obtain ⟨a, len, cap, h1, rfl, hm, hlc, hn, hc⟩ := h
  cases h1
  unfold sliced
  by_cases h0 : c = k
  · subst h0
    refine ⟨_, _, _, rfl, by simp, by simp; omega, by omega, (fun h => by simp at h), fun j x hj => ?_⟩
    rw [List.getElem?_drop] at hj
    have := (List.getElem?_eq_some_iff.1 hj).1
    omega
  · refine ⟨_, _, _, rfl, by simp, by simp; omega, by omega, (fun h => by simp [h0] at h), fun j x hj => ?_⟩
    rw [List.getElem?_drop] at hj
    obtain ⟨b', off', cs, hb, hl, hcell, he⟩ := hc _ x hj
    cases hb
    refine ⟨b, off + k, cs, by simp [h0, addr_add], hl, fun i u hu => ?_, he⟩
    have := hcell i u hu
    rw [show off + k + (j * 1 + i) = off + ((k + j) * 1 + i) by omega]
    exact this
theorem run_dropN {b off n c k : Nat} (hk : k ≤ n) (w : World) : (Instr.slice 33 (.slice (some ⟨b, off, none⟩) n c) (some (.int .i64 k)) none none).run Tryz.prog w = .ok (sliced (some ⟨b, off, none⟩) k n c 1) w := by
  have hs : ∀ w, (sizeOf 70).run Tryz.prog w = .ok 1 w := fun w => by
    obtain ⟨i0, hi, _, hz1, _⟩ := info_parts Tryz.infoNode
    simp [sizeOf, typeInfo, hi, hz1]
  have he : Tryz.prog.elem 33 = 70 := by kernel_rfl
  rw [run_slice_l w _ _ _ _ (by rw [he]; exact Tryz.underlying33) .i64 _ (by omega) (by omega), he, hs]
  simp [Result.andThen]
theorem RdInts.ints {w : World} {a : Option Addr} {n c : Nat} {l : List Int} (h : RdInts w (.slice a n c) l) (hl : l.length ≤ 1000000000) : IntsAt w (.slice a l.length c) l ∧ l.length ≤ c ∧ n = l.length := by
  obtain ⟨a', len, cap, h1, h2, h3, h4, h5, h6⟩ := h
  cases h1
  refine ⟨⟨a, c, rfl, hl, fun j x hj => ?_⟩, by omega, h2⟩
  obtain ⟨b, off, cs, e1, e2, e3, e4, _⟩ := h6 j x hj
  subst e4
  exact ⟨b, off, e1, by have := e3 0 _ rfl; simpa using this⟩

/-- Is a list a cycle that some facts say and the level forbids? -/
def IsCyc (ts : List GTxn) (L : FaL) (level : Int) (C : List Int) : Prop := ∃ l, EdgesOf ts L l ∧ isX (nextT (sizeM ts.length) (liftL l level)) C = true
theorem isCyc_of {ts : List GTxn} {L : FaL} {level : Int} {C : List Int} {l : List GEdge} (h : EdgesOf ts L l) : IsCyc ts L level C ↔ isX (nextT (sizeM ts.length) (liftL l level)) C = true := by
  constructor
  · rintro ⟨l', h1, h2⟩
    have : l' = l := edges_ext h1.1 h.1 (fun p => (h1.2 p).trans (h.2 p).symm)
    rw [← this]; exact h2
  · exact fun h2 => ⟨l, h, h2⟩
open Classical in
/-- cert.tree: what stands behind the steps, if they show it. -/
noncomputable def treeC (ts : List GTxn) (level : Int) : Nat → FaL → List (List Int) → Option (List (List Int))
  | _, _, [] => none
  | 0, _, _ :: _ => none
  | n + 1, L, C :: rest => if 0 < C.length then (if IsCyc ts L level C then some rest else none) else match nextM ts L with
    | none => none
    | some c => match treeC ts level n ((c, true) :: L) rest with
      | none => none
      | some r => treeC ts level n ((c, false) :: L) r
theorem treeC_len {ts : List GTxn} {level : Int} : ∀ {n : Nat} {L : FaL} {l r : List (List Int)}, treeC ts level n L l = some r → r.length < l.length
  | 0, L, [], r, h => by simp [treeC] at h
  | 0, L, C :: l, r, h => by simp [treeC] at h
  | n + 1, L, [], r, h => by simp [treeC] at h
  | n + 1, L, C :: l, r, h => by
    rw [treeC] at h
    split at h
    · split at h
      · cases h; simp
      · cases h
    · cases hx : nextM ts L with
      | none => rw [hx] at h; cases h
      | some c =>
        rw [hx] at h
        simp only at h
        cases h1 : treeC ts level n ((c, true) :: L) l with
        | none => rw [h1] at h; cases h
        | some r1 =>
          rw [h1] at h
          have g1 := treeC_len h1
          have g2 := treeC_len h
          simp; omega
theorem treeC_mem {ts : List GTxn} {level : Int} : ∀ {n : Nat} {L : FaL} {l r : List (List Int)}, treeC ts level n L l = some r → ∀ D ∈ r, D ∈ l
  | 0, L, [], r, h => by simp [treeC] at h
  | 0, L, C :: l, r, h => by simp [treeC] at h
  | n + 1, L, [], r, h => by simp [treeC] at h
  | n + 1, L, C :: l, r, h => by
    rw [treeC] at h
    split at h
    · split at h
      · cases h; exact fun D hD => List.mem_cons_of_mem _ hD
      · cases h
    · cases hx : nextM ts L with
      | none => rw [hx] at h; cases h
      | some c =>
        rw [hx] at h
        simp only at h
        cases h1 : treeC ts level n ((c, true) :: L) l with
        | none => rw [h1] at h; cases h
        | some r1 =>
          rw [h1] at h
          exact fun D hD => List.mem_cons_of_mem _ (treeC_mem h1 D (treeC_mem h D hD))
/-- What cert.tree answers. -/
def TrcQ (o : Option (List (List Int))) (w : World) (e : Ending) (w' : World) : Prop := ∃ (a : Option Addr) (k c : Nat), e = .returned (.tuple #[.slice a k c, .bool o.isSome]) ∧ (∀ r, o = some r → RdNodes w' (.slice a k c) r) ∧ Below w.heap.size w w'

set_option maxRecDepth 100000 in
set_option maxHeartbeats 8000000 in
theorem tree_call (ts : List GTxn) (level : Int) (tsv : Value) (w0 : World) (hg : GoodTs ts) (hv : RdTxns w0 tsv ts) : ∀ (n : Nat) (L H : FaL) (m : Nat) (nv : Value) (l : List (List Int)) (w : World),
    Below w0.heap.size w0 w → MapF w m H → SameF L H → FaOk ts L → RdNodes w nv l → l.length ≤ n → (∀ C ∈ l, C.length ≤ 1000000000) →
    Calls Tryz.prog 54 #[tsv, vi level, .map (some m), nv] w (TrcQ (treeC ts level n L l) w) := by
  have HG := Lib.hid hg
  have HV := Lib.hid hv
  obtain ⟨ta, nt, tc, rfl, rfl, hmm, -⟩ := hv.at
  clear hg hv
  intro n
  induction n with
  | zero =>
    intro L H m nv l w hb hm hsf hfo hr hl hcs
    obtain ⟨a, k, c, rfl, rfl, -⟩ := hr
    have hl0 : l = [] := List.length_eq_zero_iff.1 (by omega)
    subst hl0
    have HT := Lib.hid (show treeC ts level 0 L [] = none from by simp [treeC])
    clear hb hm hsf hfo hcs hl
    go_enter Tryz.func54, Tryz.ntmps54
    go_wp2_with fail
    go_ret2
    exact ⟨none, 0, 0, by rw [HT.out]; rfl, (fun r h => by rw [HT.out] at h; cases h), Below.refl _ _⟩
  | succ n ih =>
    intro L H m nv l w hb hm hsf hfo hr hl hcs
    have HB := Lib.hid hb
    have HM := Lib.hid hm
    have HSF := Lib.hid hsf
    have HFO := Lib.hid hfo
    have HR := Lib.hid hr
    have HIH := Lib.hid ih
    have hNw := hb.size
    obtain ⟨a, k, cp, rfl, rfl, hkm, hkc, hnone, hel⟩ := hr
    clear hb hm hsf hfo ih
    cases l with
    | nil =>
      have HT := Lib.hid (show treeC ts level (n + 1) L [] = none from by simp [treeC])
      clear hel hnone hcs hl
      go_enter Tryz.func54, Tryz.ntmps54
      go_wp2_with fail
      go_ret2
      exact ⟨none, 0, 0, by rw [HT.out]; rfl, (fun r h => by rw [HT.out] at h; cases h), Below.refl _ _⟩
    | cons C rest =>
      obtain ⟨b, off, cs, rfl, hcl, hcell, u, rfl, hu⟩ := hel 0 C rfl
      have c0 : w.cell? ⟨b, off, none⟩ = some u := by have := hcell 0 u rfl; simpa using this
      have hCl : C.length ≤ 1000000000 := hcs C List.mem_cons_self
      have HCS := Lib.hid (show ∀ D ∈ rest, D.length ≤ 1000000000 from fun D hD => hcs D (List.mem_cons_of_mem _ hD))
      obtain ⟨ua, un, uc, rfl, hun, -⟩ := id hu
      subst hun
      have HU := Lib.hid hu
      have hlr : rest.length ≤ n := by simpa using hl
      have hlen1 : (0 : Int) < ((rest.length + 1 : Nat) : Int) := by omega
      have hlen0 : (((rest.length + 1 : Nat) : Int) == 0) = false := by simp; omega
      obtain ⟨a2, n2, c2, hsl⟩ := slicedY (some ⟨b, off, none⟩) 1 (C :: rest).length cp 1
      have HD := Lib.hid (show RdNodes w (.slice a2 n2 c2) rest from by
        have := RdS.drop1 HR.out 1 (by simp)
        rw [hsl] at this
        simpa using this)
      have hdr : ∀ W, (Instr.slice 33 (.slice (some ⟨b, off, none⟩) (rest.length + 1) cp) (some (.int .i64 1)) none none).run Tryz.prog W = .ok (.slice a2 n2 c2) W := fun W => by
        have h1 := run_dropN (b := b) (off := off) (n := (C :: rest).length) (c := cp) (k := 1) (by simp) W
        rw [hsl] at h1
        simpa using h1
      have HKM := Lib.hid hkm
      clear hcell hcl hel hnone hcs hu hl hsl hkm hkc HR
      simp only [List.length_cons] at *
      go_enter Tryz.func54, Tryz.ntmps54
      go_wp2
      go_quiet (fail)
      have HBq := Lib.hid (below_drewN (Below.refl w.heap.size w) nq)
      have HMq := Lib.hid (HM.out.below HBq.out HM.out.lt)
      have HUq := Lib.hid (show RdInts (w.drewN nq) (.slice ua C.length uc) C from RdS.below HU.out HBq.out fun _ _ h => h)
      have HDq := Lib.hid (HD.out.later HBq.out)
      have HB0 := Lib.hid (HB.out.trans (HBq.out.mono hNw))
      clear c0 hdr
      generalize w.drewN nq = wq at *
      have hwq : w.heap.size ≤ wq.heap.size := HBq.out.size
      have HVq := Lib.hid (HV.out.later HB0.out)
      have HSM := Lib.hid (small_good (L := H) HG.out (by have := HFO.out.len; rw [HSF.out.len]; omega))
      have htl := HG.out.len
      by_cases hC : 0 < C.length
      · have d1 : decide ((0 : Int) < (C.length : Int)) = true := decide_eq_true (by omega)
        have d1' : decide (0 < C.length) = true := decide_eq_true hC
        have HTE := Lib.hid (show ∀ l : List GEdge, EdgesOf ts H l → treeC ts level (n + 1) L (C :: rest) = if isX (nextT (sizeM ts.length) (liftL l level)) C = true then some rest else none from fun l he => by
          have he2 := edges_same HFO.out.pw HM.out.pairwise HSF.out.get he
          rw [treeC, if_pos hC]
          by_cases hx : isX (nextT (sizeM ts.length) (liftL l level)) C = true
          · rw [if_pos ((isCyc_of he2).2 hx), if_pos hx]
          · rw [if_neg (fun h => hx ((isCyc_of he2).1 h)), if_neg hx])
        go_wp2_with (first
          | (go_at_call 79; ((with_reducible refine (is_callX (ts.length : Int) (liftL l1 level) v2 ua uc C w2 HO2.out.rd HLL.out.2 HI2.out.1 HI2.out.2.1).mono ?_); rintro e3 w3 ⟨rfl, hb3⟩; have HB3 := Lib.hid (HB2.out.trans (hb3.mono HB2.out.size)); clear hb3))
          | (go_at_call 76; ((with_reducible refine (lift_call v1 l1 level w1 HO1.out.rd HLL.out.1 (Nat.le_trans HLL.out.2 (by omega))).mono ?_); rintro e2 w2 ⟨v2, rfl, ho2, hb2⟩; have HO2 := Lib.hid ho2; have HB2 := Lib.hid (HB1.out.trans (hb2.mono HB1.out.size)); have HI2 := Lib.hid (RdInts.ints (RdS.below HUq.out HB2.out fun _ _ h => h) hCl); clear ho2 hb2))
          | (go_at_call 77; refine (edges_call _ _ ts H 12 wq HVq.out HG.out.ok (by omega) (FaV.of HMq.out) HSM.out.ops HSM.out.room).mono ?_; rintro e1 w1 ⟨v1, l1, rfl, ho1, he1, hb1⟩; have HO1 := Lib.hid ho1; have HE1 := Lib.hid he1; have HB1 := Lib.hid hb1; have HLL := Lib.hid (lift_len he1 level HSM.out.len); clear ho1 he1 hb1))
        go_ret2
        have HTF := HTE.out l1 HE1.out
        refine ⟨a2, n2, c2, ?_, fun r h => ?_, HBq.out.trans (HB3.out.mono hwq)⟩
        · rw [HTF]
          cases isX (nextT (sizeM ts.length) (liftL l1 level)) C <;> rfl
        · rw [HTF] at h
          split at h
          · cases h
            exact HDq.out.later HB3.out
          · cases h
      · have d1 : decide ((0 : Int) < (C.length : Int)) = false := decide_eq_false (by omega)
        have d1' : decide (0 < C.length) = false := decide_eq_false hC
        have HNX := Lib.hid (nextM_same (ts := ts) HSF.out.get)
        cases hx : nextM ts H with
        | none =>
          have HX := Lib.hid hx
          have HT := Lib.hid (show treeC ts level (n + 1) L (C :: rest) = none from by rw [treeC, if_neg hC, HNX.out.trans hx])
          clear hx hC
          go_wp2_with (go_at_call 62; refine (next_call _ ts m H wq HVq.out HG.out.ok (by omega) HMq.out).mono ?_; rw [HX.out]; rintro e6 w6 ⟨rfl, hb6⟩; have HB6 := Lib.hid (HBq.out.trans (hb6.mono hwq)); clear hb6)
          go_ret2
          exact ⟨none, 0, 0, by rw [HT.out]; rfl, (fun r h => by rw [HT.out] at h; cases h), HB6.out.alloc HB6.out.size _⟩
        | some c =>
          have HX := Lib.hid hx
          have hns := nextM_some (HNX.out.trans hx)
          have HNO := Lib.hid (show getM H c = none from by rw [← HSF.out.get]; exact hns.2)
          have HSC := Lib.hid ((choicesM_ok hns.1).small (by omega))
          have HFN := Lib.hid (show ∀ so : Bool, FaOk ts ((c, so) :: L) from fun so => HFO.out.next (HNX.out.trans hx))
          have HT := Lib.hid (show treeC ts level (n + 1) L (C :: rest) = match treeC ts level n ((c, true) :: L) rest with
            | none => none
            | some r => treeC ts level n ((c, false) :: L) r from by rw [treeC, if_neg hC, HNX.out.trans hx])
          clear hx hns hC
          go_upto_region 9 with (go_at_call 62; refine (next_call _ ts m H wq HVq.out HG.out.ok (by omega) HMq.out).mono ?_; rw [HX.out]; rintro e6 w6 ⟨rfl, hb6⟩; have HB6 := Lib.hid hb6; clear hb6)
          have hw6 : wq.heap.size ≤ w6.heap.size := HB6.out.size
          have HA7 := Lib.hid (HB6.out.alloc HB6.out.size (.cells #[vi c.kind, vi c.key, vi c.a, vi c.b] 128))
          have HX7 := Lib.hid (alloc_at w6 (.cells #[vi c.kind, vi c.key, vi c.a, vi c.b] 128))
          have hw7 : (w6.alloc (.cells #[vi c.kind, vi c.key, vi c.a, vi c.b] 128)).heap.size = w6.heap.size + 1 := by simp
          generalize w6.alloc (.cells #[vi c.kind, vi c.key, vi c.a, vi c.b] 128) = w7 at *
          have HM7 := Lib.hid (HMq.out.below HA7.out HMq.out.lt)
          have HD7 := Lib.hid (HDq.out.later HA7.out)
          have HBW7 := Lib.hid (HB0.out.trans (HA7.out.mono HB0.out.size))
          have x0 : w7.cell? ⟨w6.heap.size, 0, none⟩ = some (vi c.kind) := by rw [cell_of HX7.out]; rfl
          have x1 : w7.cell? ⟨w6.heap.size, 1, none⟩ = some (vi c.key) := by rw [cell_of HX7.out]; rfl
          have x2 : w7.cell? ⟨w6.heap.size, 2, none⟩ = some (vi c.a) := by rw [cell_of HX7.out]; rfl
          have x3 : w7.cell? ⟨w6.heap.size, 3, none⟩ = some (vi c.b) := by rw [cell_of HX7.out]; rfl
          cases h1 : treeC ts level n ((c, true) :: L) rest with
          | none =>
            have H1N := Lib.hid h1
            rw [h1] at HT
            clear h1
            go_wp2_with (first
              | (go_at_call 54; ((with_reducible refine (HIH.out ((c, true) :: L) H1 m1 (.slice a2 n2 c2) rest w8 HBW8.out HM8.out HS1.out (HFN.out true) HD8.out hlr HCS.out).mono ?_); rw [H1N.out]; rintro e9 w9 ⟨a9, k9, c9, rfl, -, hb9⟩; have HB9 := Lib.hid (HB8.out.trans (hb9.mono HB8.out.size)); clear hb9))
              | (go_at_call 63; ((with_reducible refine (with_call m H c true w7 HM7.out HSC.out HNO.out).mono ?_); rintro e8 w8 ⟨H1, m1, rfl, hm1, hM8, hg8, hl8, hb8⟩; have HM8 := Lib.hid hM8; have HS1 := Lib.hid (HSF.out.next hg8 hl8); have HB8 := Lib.hid ((HBq.out.trans (HA7.out.mono hwq)).trans (hb8.mono (by omega))); have HBW8 := Lib.hid (HBW7.out.trans (hb8.mono HBW7.out.size)); have HD8 := Lib.hid (HD7.out.later hb8); clear hm1 hM8 hg8 hl8 hb8)))
            go_ret2
            exact ⟨none, 0, 0, by rw [HT.out]; rfl, (fun r h => by rw [HT.out] at h; cases h), HB9.out⟩
          | some r1 =>
            have H1N := Lib.hid h1
            have hr1 := treeC_len h1
            rw [h1] at HT
            simp only at HT
            have HC1 := Lib.hid (show ∀ D ∈ r1, D.length ≤ 1000000000 from fun D hD => HCS.out D (treeC_mem h1 D hD))
            clear h1
            go_upto_region 12 with (first
              | (go_at_call 54; ((with_reducible refine (HIH.out ((c, true) :: L) H1 m1 (.slice a2 n2 c2) rest w8 HBW8.out HM8.out HS1.out (HFN.out true) HD8.out hlr HCS.out).mono ?_); rw [H1N.out]; rintro e9 w9 ⟨a9, k9, c9, rfl, hr9, hb9⟩; have HR9 := Lib.hid (hr9 r1 rfl); have HB9 := Lib.hid (HB8.out.trans (hb9.mono HB8.out.size)); have HBW9 := Lib.hid (HBW8.out.trans (hb9.mono HBW8.out.size)); have HM9 := Lib.hid ((HM7.out.below HB78.out HM7.out.lt).below hb9 (by have := HM7.out.lt; have := HB78.out.size; omega)); have HX9 := Lib.hid ((hb9.block _ (by have := HB78.out.size; omega)).trans ((HB78.out.block _ (by omega)).trans HX7.out)); clear hr9 hb9))
              | (go_at_call 63; ((with_reducible refine (with_call m H c true w7 HM7.out HSC.out HNO.out).mono ?_); rintro e8 w8 ⟨H1, m1, rfl, hm1, hM8, hg8, hl8, hb8⟩; have HM8 := Lib.hid hM8; have HS1 := Lib.hid (HSF.out.next hg8 hl8); have HB78 := Lib.hid hb8; have HB8 := Lib.hid ((HBq.out.trans (HA7.out.mono hwq)).trans (hb8.mono (by omega))); have HBW8 := Lib.hid (HBW7.out.trans (hb8.mono HBW7.out.size)); have HD8 := Lib.hid (HD7.out.later hb8); clear hm1 hM8 hg8 hl8 hb8)))
            clear x0 x1 x2 x3
            have x0 : w9.cell? ⟨w6.heap.size, 0, none⟩ = some (vi c.kind) := by rw [cell_of HX9.out]; rfl
            have x1 : w9.cell? ⟨w6.heap.size, 1, none⟩ = some (vi c.key) := by rw [cell_of HX9.out]; rfl
            have x2 : w9.cell? ⟨w6.heap.size, 2, none⟩ = some (vi c.a) := by rw [cell_of HX9.out]; rfl
            have x3 : w9.cell? ⟨w6.heap.size, 3, none⟩ = some (vi c.b) := by rw [cell_of HX9.out]; rfl
            go_wp2_with (first
              | (go_at_call 54; ((with_reducible refine (HIH.out ((c, false) :: L) H2 m2 (.slice a9 k9 c9) r1 w10 HBW10.out HM10.out HS2.out (HFN.out false) HR10.out (by omega) HC1.out).mono ?_); rintro e11 w11 ⟨a11, k11, c11, rfl, hr11, hb11⟩; have HR11 := Lib.hid hr11; have HB11 := Lib.hid (HB10.out.trans (hb11.mono HB10.out.size)); clear hr11 hb11))
              | (go_at_call 63; ((with_reducible refine (with_call m H c false w9 HM9.out HSC.out HNO.out).mono ?_); rintro e10 w10 ⟨H2, m2, rfl, hm2, hM10, hg10, hl10, hb10⟩; have HM10 := Lib.hid hM10; have HS2 := Lib.hid (HSF.out.next hg10 hl10); have HB10 := Lib.hid (HB9.out.trans (hb10.mono HB9.out.size)); have HBW10 := Lib.hid (HBW9.out.trans (hb10.mono HBW9.out.size)); have HR10 := Lib.hid (HR9.out.later hb10); clear hm2 hM10 hg10 hl10 hb10)))
            go_ret2
            exact ⟨a11, k11, c11, by rw [HT.out]; rfl, fun r h => by rw [HT.out] at h; exact HR11.out r h, HB11.out⟩
end Go.Proofs.YtnacoplokjdglaaGreat

namespace Go.Proofs.YtnacoplokjdglaaGreat
open Go.RowKit Go.Maps
attribute [local go_sem] Oper.semAt_some

/-- Is a failing shown: by a flaw, or by steps? -/
noncomputable def failB (ts : List GTxn) (level : Int) (f : Int × Int × Int) (N : List (List Int)) : Bool := if flawsM ts = [] then treeC ts level N.length [] N == some [] else (flawsM ts).any (fun o => f == o)
set_option maxRecDepth 100000 in
set_option maxHeartbeats 8000000 in
theorem holds_bad (v : Value) (es : List GEvent) (level k s : Int) (f : Int × Int × Int) (na : Option Addr) (nn nc : Nat) (da : Option Addr) (dn dc : Nat) (om : Option Nat) (w : World) (hv : RdEvents w v es) (hes : es.length ≤ 60)
    (hb : histH es = none ∨ (level ≠ 1 ∧ level ≠ 2)) :
    Calls Tryz.prog 25 #[v, vi level, .agg #[vi k, vi s, vi f.1, vi f.2.1, vi f.2.2, .slice na nn nc, .slice da dn dc, .map om]] w fun e w' => e = .returned (.bool (k == 0)) ∧ Below w.heap.size w w' := by
  have HV := Lib.hid (hv.later ((Below.refl w.heap.size w).alloc (Nat.le_refl _) (.cells #[vi k, vi s, vi f.1, vi f.2.1, vi f.2.2, .slice na nn nc, .slice da dn dc, .map om] 39)))
  have HX := Lib.hid (alloc_at w (.cells #[vi k, vi s, vi f.1, vi f.2.1, vi f.2.2, .slice na nn nc, .slice da dn dc, .map om] 39))
  have HB0 := Lib.hid ((Below.refl w.heap.size w).alloc (Nat.le_refl _) (.cells #[vi k, vi s, vi f.1, vi f.2.1, vi f.2.2, .slice na nn nc, .slice da dn dc, .map om] 39))
  have hw0 : (w.alloc (.cells #[vi k, vi s, vi f.1, vi f.2.1, vi f.2.2, .slice na nn nc, .slice da dn dc, .map om] 39)).heap.size = w.heap.size + 1 := by simp
  have HBD := Lib.hid hb
  clear hv hb
  go_enter Tryz.func25, Tryz.ntmps25
  go_upto_region 1 with fail
  generalize w.alloc (.cells #[vi k, vi s, vi f.1, vi f.2.1, vi f.2.2, .slice na nn nc, .slice da dn dc, .map om] 39) = w0 at *
  go_upto_region 2 with (go_at_call 38; refine (hof_call _ es w0 HV.out hes).mono ?_; rintro e1 w1 ⟨v1, p1, err, rfl, hok1, hbad1, ⟨a1, n1, c1, rfl⟩, hb1⟩; have HOK := Lib.hid hok1; have HB1 := Lib.hid (HB0.out.trans (hb1.mono HB0.out.size)); have HX1 := Lib.hid ((hb1.block _ (by omega)).trans HX.out); have hlt1 : w.heap.size < w1.heap.size := (by have := hb1.size; omega); clear hok1 hbad1 hb1)
  have x0 : w1.cell? ⟨w.heap.size, 0, none⟩ = some (vi k) := by rw [cell_of HX1.out]; rfl
  by_cases h0 : err = 0
  · obtain ⟨ts, hts, -⟩ := HOK.out h0
    have hl : level ≠ 1 ∧ level ≠ 2 := by
      rcases HBD.out with h | h
      · rw [h] at hts; cases hts
      · exact h
    have e0 : (err != 0) = false := by rw [h0]; rfl
    have l1 := bne_t hl.1
    have l2 := bne_t hl.2
    clear hl hts h0
    go_wp2_with fail
    go_ret
    exact ⟨rfl, HB1.out⟩
  · have c0 := bne_t h0
    clear h0
    go_wp2_with fail
    go_ret
    exact ⟨rfl, HB1.out⟩

set_option maxRecDepth 100000 in
set_option maxHeartbeats 8000000 in
theorem holds_other (v : Value) (es : List GEvent) (ts : List GTxn) (level k s : Int) (f : Int × Int × Int) (na : Option Addr) (nn nc : Nat) (da : Option Addr) (dn dc : Nat) (om : Option Nat) (w : World) (hv : RdEvents w v es) (hes : es.length ≤ 60)
    (hh : histH es = some ts) (hlv : level = 1 ∨ level = 2) (hk1 : k ≠ 1) (hk2 : k ≠ 2) :
    Calls Tryz.prog 25 #[v, vi level, .agg #[vi k, vi s, vi f.1, vi f.2.1, vi f.2.2, .slice na nn nc, .slice da dn dc, .map om]] w fun e w' => e = .returned (.bool false) ∧ Below w.heap.size w w' := by
  have HV := Lib.hid (hv.later ((Below.refl w.heap.size w).alloc (Nat.le_refl _) (.cells #[vi k, vi s, vi f.1, vi f.2.1, vi f.2.2, .slice na nn nc, .slice da dn dc, .map om] 39)))
  have HX := Lib.hid (alloc_at w (.cells #[vi k, vi s, vi f.1, vi f.2.1, vi f.2.2, .slice na nn nc, .slice da dn dc, .map om] 39))
  have HB0 := Lib.hid ((Below.refl w.heap.size w).alloc (Nat.le_refl _) (.cells #[vi k, vi s, vi f.1, vi f.2.1, vi f.2.2, .slice na nn nc, .slice da dn dc, .map om] 39))
  have hw0 : (w.alloc (.cells #[vi k, vi s, vi f.1, vi f.2.1, vi f.2.2, .slice na nn nc, .slice da dn dc, .map om] 39)).heap.size = w.heap.size + 1 := by simp
  have HH := Lib.hid hh
  have HG := Lib.hid (hist_good hes hh).1
  have hlen := HG.out.len
  have q1 := beq_f hk1
  have q2 := beq_f hk2
  clear hv hh hk1 hk2
  go_enter Tryz.func25, Tryz.ntmps25
  go_upto_region 1 with fail
  generalize w.alloc (.cells #[vi k, vi s, vi f.1, vi f.2.1, vi f.2.2, .slice na nn nc, .slice da dn dc, .map om] 39) = w0 at *
  go_upto_region 2 with (go_at_call 38; refine (hof_call _ es w0 HV.out hes).mono ?_; rintro e1 w1 ⟨v1, p1, err, rfl, hok1, hbad1, ⟨a1, n1, c1, rfl⟩, hb1⟩; have HOK := Lib.hid hok1; have HBAD := Lib.hid hbad1; have HB1 := Lib.hid (HB0.out.trans (hb1.mono HB0.out.size)); have HX1 := Lib.hid ((hb1.block _ (by omega)).trans HX.out); have hlt1 : w.heap.size < w1.heap.size := (by have := hb1.size; omega); clear hok1 hbad1 hb1)
  have h0 : err = 0 := by
    by_cases h : err = 0
    · exact h
    · have := HBAD.out h
      rw [HH.out] at this; cases this
  obtain ⟨ts', hts, hrd⟩ := HOK.out h0
  rw [HH.out] at hts
  cases hts
  have HRD := Lib.hid hrd
  obtain ⟨_, _, _, e5, e6, -, -⟩ := hrd.at
  cases e5
  subst e6
  subst h0
  clear hrd
  have hwb := HB1.out.size
  rcases hlv with rfl | rfl
  all_goals
    go_upto_region 5 with (go_at_call 39; refine (all_call _ ts w1 HRD.out HG.out.ok (by omega) HG.out.uniq).mono ?_; rintro e2 w2 ⟨v2, rfl, ho2, hb2⟩; have HB2 := Lib.hid (HB1.out.trans (hb2.mono hwb)); have HX2 := Lib.hid ((hb2.block _ hlt1).trans HX1.out); clear ho2 hb2)
    have x0 : w2.cell? ⟨w.heap.size, 0, none⟩ = some (vi k) := by rw [cell_of HX2.out]; rfl
    go_wp2_with fail
    go_ret
    exact ⟨rfl, HB2.out⟩
set_option maxRecDepth 100000 in
set_option maxHeartbeats 8000000 in
theorem holds_fail (v : Value) (es : List GEvent) (ts : List GTxn) (level s : Int) (f : Int × Int × Int) (na : Option Addr) (nn nc : Nat) (da : Option Addr) (dn dc : Nat) (om : Option Nat) (w : World) (hv : RdEvents w v es) (hes : es.length ≤ 60)
    (hh : histH es = some ts) (hlv : level = 1 ∨ level = 2) (N : List (List Int)) (hN : RdNodes w (.slice na nn nc) N) (hCs : ∀ C ∈ N, C.length ≤ 1000000000) :
    Calls Tryz.prog 25 #[v, vi level, .agg #[vi 2, vi s, vi f.1, vi f.2.1, vi f.2.2, .slice na nn nc, .slice da dn dc, .map om]] w fun e w' => e = .returned (.bool (failB ts level f N)) ∧ Below w.heap.size w w' := by
  have HV := Lib.hid (hv.later ((Below.refl w.heap.size w).alloc (Nat.le_refl _) (.cells #[vi 2, vi s, vi f.1, vi f.2.1, vi f.2.2, .slice na nn nc, .slice da dn dc, .map om] 39)))
  have HX := Lib.hid (alloc_at w (.cells #[vi 2, vi s, vi f.1, vi f.2.1, vi f.2.2, .slice na nn nc, .slice da dn dc, .map om] 39))
  have HB0 := Lib.hid ((Below.refl w.heap.size w).alloc (Nat.le_refl _) (.cells #[vi 2, vi s, vi f.1, vi f.2.1, vi f.2.2, .slice na nn nc, .slice da dn dc, .map om] 39))
  have hw0 : (w.alloc (.cells #[vi 2, vi s, vi f.1, vi f.2.1, vi f.2.2, .slice na nn nc, .slice da dn dc, .map om] 39)).heap.size = w.heap.size + 1 := by simp
  have HH := Lib.hid hh
  have HG := Lib.hid (hist_good hes hh).1
  have hlen := HG.out.len
  have HN0 := Lib.hid (hN.later HB0.out)
  obtain ⟨_, _, _, e5, e6, hnm, -⟩ := id hN
  cases e5
  subst e6
  have HCS := Lib.hid hCs
  clear hv hh hN hCs hnm
  go_enter Tryz.func25, Tryz.ntmps25
  go_upto_region 1 with fail
  generalize w.alloc (.cells #[vi 2, vi s, vi f.1, vi f.2.1, vi f.2.2, .slice na N.length nc, .slice da dn dc, .map om] 39) = w0 at *
  go_upto_region 2 with (go_at_call 38; refine (hof_call _ es w0 HV.out hes).mono ?_; rintro e1 w1 ⟨v1, p1, err, rfl, hok1, hbad1, ⟨a1, n1, c1, rfl⟩, hb1⟩; have HOK := Lib.hid hok1; have HBAD := Lib.hid hbad1; have HB1 := Lib.hid (HB0.out.trans (hb1.mono HB0.out.size)); have HX1 := Lib.hid ((hb1.block _ (by omega)).trans HX.out); have HN1 := Lib.hid (HN0.out.later hb1); have hlt1 : w.heap.size < w1.heap.size := (by have := hb1.size; omega); clear hok1 hbad1 hb1)
  have h0 : err = 0 := by
    by_cases h : err = 0
    · exact h
    · have := HBAD.out h
      rw [HH.out] at this; cases this
  obtain ⟨ts', hts, hrd⟩ := HOK.out h0
  rw [HH.out] at hts
  cases hts
  have HRD := Lib.hid hrd
  obtain ⟨_, _, _, e5, e6, -, -⟩ := hrd.at
  cases e5
  subst e6
  subst h0
  clear hrd
  have hwb := HB1.out.size
  obtain ⟨o, ho⟩ : ∃ o, treeC ts level N.length [] N = o := ⟨_, rfl⟩
  have HT := Lib.hid ho
  clear ho
  rcases hlv with rfl | rfl
  all_goals
    go_upto_region 5 with (go_at_call 39; refine (all_call _ ts w1 HRD.out HG.out.ok (by omega) HG.out.uniq).mono ?_; rintro e2 w2 ⟨v2, rfl, ho2, hb2⟩; obtain ⟨a2, c2, rfl⟩ := Gr.own_shape (show World.ownsRow _ _ _ _ _ (flawsM ts).length _ from ho2); have HO2 := Lib.hid (OwFw.rd ho2); have HB2 := Lib.hid (HB1.out.trans (hb2.mono hwb)); have HX2 := Lib.hid ((hb2.block _ hlt1).trans HX1.out); have HR2 := Lib.hid (HRD.out.later hb2); have HN2 := Lib.hid (HN1.out.later hb2); clear ho2 hb2)
    have x0 : w2.cell? ⟨w.heap.size, 0, none⟩ = some (vi 2) := by rw [cell_of HX2.out]; rfl
    have hwb2 := HB2.out.size
    by_cases hF : flawsM ts = []
    · have HF := Lib.hid hF
      rw [hF]
      have hmk := @run_makeMap Tryz.prog
      have HA3 := Lib.hid ((Below.refl w2.heap.size w2).alloc (Nat.le_refl _) (.map #[] 0))
      have HM3 := Lib.hid (show MapF (w2.alloc (.map #[] 0)) w2.heap.size [] from MapT.made w2)
      have HT3 := Lib.hid (fun lv => tree_call ts lv (.slice a1 ts.length c1) w2 HG.out HR2.out N.length [] [] w2.heap.size (.slice na N.length nc) N (w2.alloc (.map #[] 0)) HA3.out HM3.out (SameF.refl _) (FaOk.nil ts) (HN2.out.later HA3.out) (Nat.le_refl _) HCS.out)
      have x5 : w2.cell? ⟨w.heap.size, 5, none⟩ = some (.slice na N.length nc) := by rw [cell_of HX2.out]; rfl
      have x5' := cell_later HA3.out x5
      clear hF
      go_upto_region 13 with (go_at_call 54; ((with_reducible refine (HT3.out _).mono ?_); rintro e4 w4 ⟨a4, k4, c4, rfl, hr4, hb4⟩; have HR4 := Lib.hid hr4; have HB4 := Lib.hid (HB2.out.trans ((HA3.out.trans (hb4.mono HA3.out.size)).mono hwb2)); clear hr4 hb4))
      rw [HT.out] at HR4 ⊢
      have HFB := Lib.hid (show ∀ lv o, treeC ts lv N.length [] N = o → failB ts lv f N = (o == some []) from fun lv o h => by rw [failB, if_pos HF.out, h])
      cases o with
      | none =>
        go_wp2_with fail
        go_ret
        exact ⟨by rw [HFB.out _ _ HT.out]; rfl, HB4.out⟩
      | some r =>
        obtain ⟨_, _, _, e7, e8, -, -⟩ := HR4.out r rfl
        cases e7
        subst e8
        cases r with
        | nil =>
          go_wp2_with fail
          go_ret
          exact ⟨by rw [HFB.out _ _ HT.out]; rfl, HB4.out⟩
        | cons C0 r0 =>
          have hl0 : (((r0.length + 1 : Nat) : Int) == 0) = false := by simp; omega
          have HQ := Lib.hid (show (some (C0 :: r0) == some ([] : List (List Int))) = false from rfl)
          simp only [List.length_cons]
          go_wp2_with fail
          go_ret
          exact ⟨by rw [HFB.out _ _ HT.out, HQ.out]; rfl, HB4.out⟩
    · have h0 : 0 < (flawsM ts).length := List.length_pos_iff.2 hF
      have h0I : (0 : Int) < ((flawsM ts).length : Int) := by omega
      have HF := Lib.hid (show ∀ lv N, failB ts lv f N = (flawsM ts).any (fun o => f == o) from fun lv N => if_neg hF)
      have x2 : w2.cell? ⟨w.heap.size, 2, none⟩ = some (vi f.1) := by rw [cell_of HX2.out]; rfl
      have x3 : w2.cell? ⟨w.heap.size, 3, none⟩ = some (vi f.2.1) := by rw [cell_of HX2.out]; rfl
      have x4 : w2.cell? ⟨w.heap.size, 4, none⟩ = some (vi f.2.2) := by rw [cell_of HX2.out]; rfl
      clear hF
      go_wp2_with (go_at_call 53; refine (containsF_call _ (flawsM ts) f w2 HO2.out).mono ?_; rintro e3 w3 ⟨rfl, hb3⟩; have HB3 := Lib.hid (HB2.out.trans (hb3.mono hwb2)); clear hb3)
      go_ret
      exact ⟨by rw [HF.out]; rfl, HB3.out⟩
end Go.Proofs.YtnacoplokjdglaaGreat

namespace Go.Proofs.YtnacoplokjdglaaGreat
open Go.RowKit Go.Maps
attribute [local go_sem] Oper.semAt_some

theorem rd_events_own {base : Nat} {w : World} {v : Value} {L : List (GEvent × Value)} (h : w.ownsRow base 53 3 v L.length (L.flatMap (fun p => [vi p.1.kind, vi p.1.client, p.2]))) (ho : ∀ p ∈ L, RdOps w p.2 p.1.ops) : RdEvents w v (L.map (·.1)) := by
  obtain ⟨a, len, cap, h1, h2, h3, h4, h5, h6⟩ := rds_of_own (V := fun p : GEvent × Value => [vi p.1.kind, vi p.1.client, p.2]) (fun _ => rfl) h
  refine ⟨a, len, cap, h1, by simpa using h2, by simpa using h3, h4, h5, fun j x hj => ?_⟩
  rw [List.getElem?_map, Option.map_eq_some_iff] at hj
  obtain ⟨p, hp, rfl⟩ := hj
  obtain ⟨b, off, cs, ha, hl, hc, rfl⟩ := h6 j p hp
  exact ⟨b, off, _, ha, hl, hc, p.2, rfl, ho p (List.mem_of_getElem? hp)⟩
theorem skew_rdE (w : World) : RdEvents (((w.alloc (.cells #[vi 1, vi 0, vi 0, vi 2, vi 1, vi 1] 51)).alloc (.cells #[vi 1, vi 1, vi 0, vi 2, vi 0, vi 2] 51)).alloc (.cells #[vi 1, vi 1, .slice (some ⟨w.heap.size, 0, none⟩) 2 2, vi 1, vi 2, .slice (some ⟨w.heap.size + 1, 0, none⟩) 2 2, vi 2, vi 1, .slice (some ⟨w.heap.size, 0, none⟩) 2 2, vi 2, vi 2, .slice (some ⟨w.heap.size + 1, 0, none⟩) 2 2] 53)) (.slice (some ⟨w.heap.size + 2, 0, none⟩) 4 4) skewEv := by
  have h1 : OwOps w.heap.size (w.alloc (.cells #[vi 1, vi 0, vi 0, vi 2, vi 1, vi 1] 51)) (.slice (some ⟨w.heap.size, 0, none⟩) 2 2) skA := World.ownsRow_lit w #[vi 1, vi 0, vi 0, vi 2, vi 1, vi 1] 2 (Nat.le_refl _) (by simp [maxLen]) rfl
  have h2 : OwOps w.heap.size ((w.alloc (.cells #[vi 1, vi 0, vi 0, vi 2, vi 1, vi 1] 51)).alloc (.cells #[vi 1, vi 1, vi 0, vi 2, vi 0, vi 2] 51)) (.slice (some ⟨w.heap.size + 1, 0, none⟩) 2 2) skB := by
    have := World.ownsRow_lit (base := w.heap.size) (e := 51) (size := 3) (w.alloc (.cells #[vi 1, vi 0, vi 0, vi 2, vi 1, vi 1] 51)) #[vi 1, vi 1, vi 0, vi 2, vi 0, vi 2] 2 (by simp) (by simp [maxLen]) rfl
    simpa [OwOps, opV, skB] using this
  have h3 := World.ownsRow_lit (base := w.heap.size) (e := 53) (size := 3) ((w.alloc (.cells #[vi 1, vi 0, vi 0, vi 2, vi 1, vi 1] 51)).alloc (.cells #[vi 1, vi 1, vi 0, vi 2, vi 0, vi 2] 51)) #[vi 1, vi 1, .slice (some ⟨w.heap.size, 0, none⟩) 2 2, vi 1, vi 2, .slice (some ⟨w.heap.size + 1, 0, none⟩) 2 2, vi 2, vi 1, .slice (some ⟨w.heap.size, 0, none⟩) 2 2, vi 2, vi 2, .slice (some ⟨w.heap.size + 1, 0, none⟩) 2 2] 4 (by simp; omega) (by simp [maxLen]) rfl
  refine rd_events_own (base := w.heap.size) (L := [(⟨1, 1, skA⟩, .slice (some ⟨w.heap.size, 0, none⟩) 2 2), (⟨1, 2, skB⟩, .slice (some ⟨w.heap.size + 1, 0, none⟩) 2 2), (⟨2, 1, skA⟩, .slice (some ⟨w.heap.size, 0, none⟩) 2 2), (⟨2, 2, skB⟩, .slice (some ⟨w.heap.size + 1, 0, none⟩) 2 2)]) (by simpa using h3) fun p hp => ?_
  have ha := OwOps.rd (World.ownsRow.alloc (World.ownsRow.alloc h1 (.cells #[vi 1, vi 1, vi 0, vi 2, vi 0, vi 2] 51)) (.cells #[vi 1, vi 1, .slice (some ⟨w.heap.size, 0, none⟩) 2 2, vi 1, vi 2, .slice (some ⟨w.heap.size + 1, 0, none⟩) 2 2, vi 2, vi 1, .slice (some ⟨w.heap.size, 0, none⟩) 2 2, vi 2, vi 2, .slice (some ⟨w.heap.size + 1, 0, none⟩) 2 2] 53))
  have hb := OwOps.rd (World.ownsRow.alloc h2 (.cells #[vi 1, vi 1, .slice (some ⟨w.heap.size, 0, none⟩) 2 2, vi 1, vi 2, .slice (some ⟨w.heap.size + 1, 0, none⟩) 2 2, vi 2, vi 1, .slice (some ⟨w.heap.size, 0, none⟩) 2 2, vi 2, vi 2, .slice (some ⟨w.heap.size + 1, 0, none⟩) 2 2] 53))
  simp at hp
  rcases hp with rfl | rfl | rfl | rfl
  · exact ha
  · exact hb
  · exact ha
  · exact hb
end Go.Proofs.YtnacoplokjdglaaGreat
