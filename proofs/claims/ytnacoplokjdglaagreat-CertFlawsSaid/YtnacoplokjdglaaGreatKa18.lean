/- Texts of one proof, one behind the other: ChAhead, ChWrl, SoKit, ChCmp, SoPdqP, SoIns, SoSift, SoHeap, SoMedA. -/
import Derived.BigQuiet
import Derived.Shelf.SlSortCmp.Insertion
import Derived.Shelf.SlSortCmp.Kit1
import Derived.Sort.WalkA
import Derived.Sort.Lot0
import Derived.Sort.Walk13a
import Derived.Sort.AssemblyPlain
import Derived.Sort.WalkB2
import Derived.Sort.WalkB12
import Derived.Sort.WalkB3
import Derived.Test.YtnacoplokjdglaaGreatKa1
import Derived.Test.YtnacoplokjdglaaGreatKa2
import Derived.Test.YtnacoplokjdglaaGreatKa3
import Derived.Test.YtnacoplokjdglaaGreatKa4
import Derived.Test.YtnacoplokjdglaaGreatKa5
import Derived.Test.YtnacoplokjdglaaGreatKa17
set_option linter.all false
namespace Go.Proofs.YtnacoplokjdglaaGreat
open Go.RowKit Go.Maps
/-- What the closure reads: the row, the facts, the key. -/
structure AheadW (w : World) (po pf pk blk off cap m : Nat) (D : List Int) (L : FaL) (key : Int) : Prop where
  o : w.cell? ⟨po, 0, none⟩ = some (.slice (some ⟨blk, off, none⟩) D.length cap)
  f : w.cell? ⟨pf, 0, none⟩ = some (.map (some m))
  k : w.cell? ⟨pk, 0, none⟩ = some (vi key)
  row : ∀ j x, D[j]? = some x → w.cell? ⟨blk, off + j, none⟩ = some (vi x) ∧ i64 x
  map : MapF w m L
  key : i64 key
  len : D.length ≤ 4096

theorem aheadN_take {L : FaL} {key a x : Int} {D : List Int} {k : Nat} (hx : D[k]? = some x) : (D.take (k + 1)).countP (aheadOf L key a) = (D.take k).countP (aheadOf L key a) + (if aheadOf L key a x then 1 else 0) := by
  rw [List.take_add_one, hx, List.countP_append]
  simp [List.countP_cons]

set_option maxHeartbeats 4000000 in
set_option maxRecDepth 100000 in
theorem ahead_call (po pf pk blk off cap m : Nat) (D : List Int) (L : FaL) (key a : Int) (w : World) (h : AheadW w po pf pk blk off cap m D L key) (ha : i64 a) :
    Calls Tryz.prog 67 #[vi a, vi 0, .pointer (some ⟨po, 0, none⟩), .pointer (some ⟨pf, 0, none⟩), .pointer (some ⟨pk, 0, none⟩)] w fun e w' => e = .returned (vi (aheadN L key D a)) ∧ w' = w := by
  have HA := Lib.hid h
  have co := h.o
  have cf := h.f
  have ck := h.k
  have hlen := h.len
  have hkey := h.key
  clear h
  go_enter Tryz.func67, Tryz.ntmps67
  go_wp2_with fail
  go_loopw [8, 10, 11, 12, 15] (fun n _ _ _ u wr => ∃ k c : Nat, k ≤ D.length ∧ c ≤ k ∧ u = vi k ∧ n = vi c ∧ Hid ((D.take k).countP (aheadOf L key a) = c) ∧ wr = w) (fun _ _ _ _ u _ => D.length - (intOf u).toNat)
  case atStart => exact ⟨0, 0, Nat.zero_le _, Nat.le_refl _, rfl, rfl, Lib.hid rfl, rfl⟩
  case round =>
    obtain ⟨k, c, hk, hck, rfl, rfl, HN, hwr⟩ := hrel
    subst hwr
    by_cases hlt : k < D.length
    · obtain ⟨x, hx⟩ := some_at hlt
      have hxc := (HA.out.row k x hx).1
      have hxi := (HA.out.row k x hx).2
      have HT := Lib.hid (aheadN_take (L := L) (key := key) (a := a) hx)
      have hkI : (k : Int) < (D.length : Int) := by omega
      have wk : IntKind.i64.wrap ((k : Int) + 1) = ((k + 1 : Nat) : Int) := by rw [IntWalk.i64_in _ (by omega)]; omega
      have wc : IntKind.i64.wrap ((c : Int) + 1) = ((c + 1 : Nat) : Int) := by rw [IntWalk.i64_in _ (by omega)]; omega
      have hlk := (lookup_fact HA.out.map (c := ⟨2, key, min a x, max a x⟩) (by unfold SmallCh i64 at *; simp only; omega)).1
      have HO := Lib.hid (show aheadOf L key a x = (match getM L ⟨2, key, min a x, max a x⟩ with | some so => (x != a) && (so == decide (a < x)) | none => false) from rfl)
      clear hx
      rcases Int.lt_trichotomy a x with hc | hc | hc
      · have hdum : True := trivial
        have hne : (x == a) = false := beq_eq_false_iff_ne.2 (by omega)
        have hlt0 : decide (a < x) = true := decide_eq_true hc
        cases hg : getM L ⟨2, key, min a x, max a x⟩ with
        | none =>
          rw [hg] at hlk HO
          clear hg
          have HE := Lib.hid (show aheadOf L key a x = false from HO.out)
          simp only [Option.getD_none, Option.isSome_none] at hlk
          go_wp2_with fail
          go_roundw
          case rel => exact ⟨k + 1, c, by omega, by omega, rfl, rfl, Lib.hid (by rw [HT.out, HE.out, HN.out]; rfl), by trivial⟩
          case measure => simp [intOf]; omega
        | some so =>
          rw [hg] at hlk HO
          clear hg
          simp only [Option.getD_some, Option.isSome_some] at hlk
          cases so with
          | true =>
            have HE := Lib.hid (show aheadOf L key a x = true from by rw [HO.out]; simp only [hlt0, bne, hne]; rfl)
            go_wp2_with fail
            go_roundw
            case rel => exact ⟨k + 1, c + 1, by omega, by omega, rfl, rfl, Lib.hid (by rw [HT.out, HE.out, HN.out]; rfl), by trivial⟩
            case measure => simp [intOf]; omega
          | false =>
            have HE := Lib.hid (show aheadOf L key a x = false from by rw [HO.out]; simp only [hlt0, bne, hne]; rfl)
            go_wp2_with fail
            go_roundw
            case rel => exact ⟨k + 1, c, by omega, by omega, rfl, rfl, Lib.hid (by rw [HT.out, HE.out, HN.out]; rfl), by trivial⟩
            case measure => simp [intOf]; omega
      · have m1 : min a x = x := by omega
        have m2 : max a x = x := by omega
        rw [m1, m2] at hlk HO
        subst hc
        have hne : (a == a) = true := by simp
        have hlt0 : decide (a < a) = false := by simp
        clear m1 m2
        cases hg : getM L ⟨2, key, a, a⟩ with
        | none =>
          rw [hg] at hlk HO
          clear hg
          have HE := Lib.hid (show aheadOf L key a a = false from HO.out)
          simp only [Option.getD_none, Option.isSome_none] at hlk
          go_wp2_with fail
          go_roundw
          case rel => exact ⟨k + 1, c, by omega, by omega, rfl, rfl, Lib.hid (by rw [HT.out, HE.out, HN.out]; rfl), by trivial⟩
          case measure => simp [intOf]; omega
        | some so =>
          rw [hg] at hlk HO
          clear hg
          simp only [Option.getD_some, Option.isSome_some] at hlk
          cases so with
          | true =>
            have HE := Lib.hid (show aheadOf L key a a = false from by rw [HO.out]; simp only [hlt0, bne, hne]; rfl)
            go_wp2_with fail
            go_roundw
            case rel => exact ⟨k + 1, c, by omega, by omega, rfl, rfl, Lib.hid (by rw [HT.out, HE.out, HN.out]; rfl), by trivial⟩
            case measure => simp [intOf]; omega
          | false =>
            have HE := Lib.hid (show aheadOf L key a a = false from by rw [HO.out]; simp only [hlt0, bne, hne]; rfl)
            go_wp2_with fail
            go_roundw
            case rel => exact ⟨k + 1, c, by omega, by omega, rfl, rfl, Lib.hid (by rw [HT.out, HE.out, HN.out]; rfl), by trivial⟩
            case measure => simp [intOf]; omega
      · have hdum : True := trivial
        have hne : (x == a) = false := beq_eq_false_iff_ne.2 (by omega)
        have hlt0 : decide (a < x) = false := decide_eq_false (by omega)
        cases hg : getM L ⟨2, key, min a x, max a x⟩ with
        | none =>
          rw [hg] at hlk HO
          clear hg
          have HE := Lib.hid (show aheadOf L key a x = false from HO.out)
          simp only [Option.getD_none, Option.isSome_none] at hlk
          go_wp2_with fail
          go_roundw
          case rel => exact ⟨k + 1, c, by omega, by omega, rfl, rfl, Lib.hid (by rw [HT.out, HE.out, HN.out]; rfl), by trivial⟩
          case measure => simp [intOf]; omega
        | some so =>
          rw [hg] at hlk HO
          clear hg
          simp only [Option.getD_some, Option.isSome_some] at hlk
          cases so with
          | true =>
            have HE := Lib.hid (show aheadOf L key a x = false from by rw [HO.out]; simp only [hlt0, bne, hne]; rfl)
            go_wp2_with fail
            go_roundw
            case rel => exact ⟨k + 1, c, by omega, by omega, rfl, rfl, Lib.hid (by rw [HT.out, HE.out, HN.out]; rfl), by trivial⟩
            case measure => simp [intOf]; omega
          | false =>
            have HE := Lib.hid (show aheadOf L key a x = true from by rw [HO.out]; simp only [hlt0, bne, hne]; rfl)
            go_wp2_with fail
            go_roundw
            case rel => exact ⟨k + 1, c + 1, by omega, by omega, rfl, rfl, Lib.hid (by rw [HT.out, HE.out, HN.out]; rfl), by trivial⟩
            case measure => simp [intOf]; omega
    · obtain rfl : k = D.length := by omega
      have HE := Lib.hid (show aheadN L key D a = c from by rw [← HN.out, List.take_length]; rfl)
      go_wp2_with fail
      go_ret
      exact ⟨by rw [HE.out]; rfl, rfl⟩
end Go.Proofs.YtnacoplokjdglaaGreat

namespace Go.Proofs.YtnacoplokjdglaaGreat
open Go.RowKit Go.Maps

def inW (ts : List GTxn) (L : FaL) (key : Int) (i : Nat) : Bool := (isM ts L i).1 && wrOf ts i key
def wrlK (ts : List GTxn) (L : FaL) (key : Int) (n : Nat) : List Int := (List.range n).filterMap (fun i => if inW ts L key i then some (i : Int) else none)
def wrl (ts : List GTxn) (L : FaL) (key : Int) : List Int := wrlK ts L key ts.length
theorem wrlK_succ (ts : List GTxn) (L : FaL) (key : Int) (n : Nat) : wrlK ts L key (n + 1) = wrlK ts L key n ++ (if inW ts L key n then [(n : Int)] else []) := by
  by_cases h : inW ts L key n <;> simp [wrlK, List.range_succ, h]
theorem wrlK_le (ts : List GTxn) (L : FaL) (key : Int) (n : Nat) : (wrlK ts L key n).length ≤ n := by
  have := List.length_filterMap_le (fun i => if inW ts L key i then some (i : Int) else none) (List.range n)
  simpa [wrlK] using this
theorem wrlK_mem {ts : List GTxn} {L : FaL} {key : Int} {n : Nat} {x : Int} : x ∈ wrlK ts L key n ↔ ∃ i : Nat, i < n ∧ x = i ∧ inW ts L key i = true := by
  unfold wrlK
  rw [List.mem_filterMap]
  constructor
  · rintro ⟨i, hi, h⟩
    rw [List.mem_range] at hi
    split at h
    · rename_i h1
      simp at h
      exact ⟨i, hi, h.symm, h1⟩
    · simp at h
  · rintro ⟨i, hi, rfl, h⟩
    exact ⟨i, List.mem_range.2 hi, by rw [if_pos h]⟩
theorem wrl_mem {ts : List GTxn} {L : FaL} {key x : Int} : x ∈ wrl ts L key ↔ ∃ i : Nat, i < ts.length ∧ x = i ∧ inW ts L key i = true := wrlK_mem
theorem wrOf_at {ts : List GTxn} {i : Nat} {t : GTxn} (h : ts[i]? = some t) (key : Int) : wrOf ts i key = writesK t key := by unfold wrOf; rw [h]; rfl

/-- A map that counts. -/
def CntM (C : List (Int × Int)) (M : List Nat) : Prop := ∀ n : Nat, (getM C (n : Int)).getD 0 = (M.count n : Int)
theorem CntM.nil : CntM [] [] := fun n => by simp [getM_nil]
theorem CntM.add {C : List (Int × Int)} {M : List Nat} (h : CntM C M) (x : Nat) : CntM (putM C (x : Int) ((M.count x : Int) + 1)) (M ++ [x]) := by
  intro n
  rw [getM_put, List.count_append]
  by_cases hx : x = n
  · subst hx; simp
  · rw [if_neg (by omega), h n]
    simp [hx]
theorem take_map_succ {D : List Int} {f : Int → Nat} {k : Nat} {x : Int} (h : D[k]? = some x) : (D.take (k + 1)).map f = (D.take k).map f ++ [f x] := by
  rw [List.take_add_one, h, List.map_append]; rfl

/-- The numbers below k are met once. -/
def OnceTo (M : List Nat) (k : Nat) : Prop := ∀ n, n < k → M.count n = 1
theorem onceB_true {L : FaL} {key : Int} {D : List Int} (h : OnceTo (D.map (aheadN L key D)) D.length) : onceB L key D = true := onceB_iff.2 (fun n hn => h n (by simpa using hn))
theorem onceB_false {L : FaL} {key : Int} {D : List Int} {k : Nat} (hk : k < D.length) (h : ¬ (D.map (aheadN L key D)).count k = 1) : onceB L key D = false := by
  cases hb : onceB L key D with
  | false => rfl
  | true => exact absurd (onceB_iff.1 hb k (by simpa using hk)) h

/-- The comparison of chains.Chain. -/
def cmpA (L : FaL) (key : Int) (D : List Int) (x y : Int) : Int := (aheadN L key D y : Int) - (aheadN L key D x : Int)
theorem swoA (L : FaL) (key : Int) (D : List Int) : Go.Sort.SWO (Go.Proofs.ltOf (cmpA L key D)) := by
  refine ⟨fun x => ?_, fun x y z h1 h2 => ?_, fun x y z h1 h2 => ?_⟩
  · exact decide_eq_false (by unfold cmpA; omega)
  · have a1 := of_decide_eq_true h1
    have a2 := of_decide_eq_true h2
    unfold cmpA at a1 a2
    exact decide_eq_true (by unfold cmpA; omega)
  · have a1 := of_decide_eq_false h1
    have a2 := of_decide_eq_false h2
    unfold cmpA at a1 a2
    exact decide_eq_false (by unfold cmpA; omega)
end Go.Proofs.YtnacoplokjdglaaGreat

namespace Go.Proofs.YtnacoplokjdglaaGreat
open Go.RowKit Go.Maps Go.Sort

/-- The row at blk holds dk, a permutation of what it held at first. -/
structure SoW (w0 : World) (blk off : Nat) (d0 dk : Array Int) (W : World) : Prop where
  sw : SW vi w0 blk off dk W
  pm : PermIn 0 d0.size d0 dk
theorem SoW.sz {w0 W : World} {blk off : Nat} {d0 dk : Array Int} (h : SoW w0 blk off d0 dk W) : dk.size = d0.size := h.pm.1
/-- The comparison, wherever the row is a permutation. -/
def CmpP (g : FuncId) (cb : Array Value) (cf : Int → Int → Int) (blk off : Nat) (d0 : Array Int) (w0 : World) : Prop :=
  ∀ (dk : Array Int) (W : World), SoW w0 blk off d0 dk W → ∀ x y : Int, x ∈ d0.toList → y ∈ d0.toList → Calls Tryz.prog g (#[vi x, vi y] ++ cb) W fun e w' => e = .returned (vi (cf x y)) ∧ ∃ q os', w' = grow (W.drewN q) os'
section
variable {w0 W : World} {blk off : Nat} {d0 dk : Array Int} {g : FuncId} {cb : Array Value} {cf : Int → Int → Int}
theorem SoW.perm (h : SoW w0 blk off d0 dk W) : dk.toList.Perm d0.toList := by
  have h3 := h.pm.2.2
  have e1 : dk.extract 0 d0.size = dk := by rw [← h.sz]; simp
  have e2 : d0.extract 0 d0.size = d0 := by simp
  rw [e1, e2] at h3
  exact h3
theorem SoW.mem (h : SoW w0 blk off d0 dk W) {i : Nat} (hi : i < d0.size) : dk[i]! ∈ d0.toList := by
  have hi' : i < dk.size := by rw [h.sz]; exact hi
  rw [← h.perm.mem_iff, getElem!_pos dk i hi']
  exact Array.getElem_mem_toList hi'
theorem SoW.grown (h : SoW w0 blk off d0 dk W) (n : Nat) (os : Array Obj) : SoW w0 blk off d0 dk (grow (W.drewN n) os) := ⟨h.sw.grown n os, h.pm⟩
theorem SoW.drew (h : SoW w0 blk off d0 dk W) : SoW w0 blk off d0 dk W.drew := ⟨h.sw.drew, h.pm⟩
theorem SoW.cl (h : SoW w0 blk off d0 dk W) (R : Row1 vi w0 blk off d0) {i : Nat} (hi : i < d0.size) (n : Nat) (os : Array Obj) : (grow (W.drewN n) os).cell? ⟨blk, off + i, none⟩ = some (vi dk[i]!) := h.sw.cl R h.sz i (by rw [h.sz]; exact hi) n os
theorem SoW.c1 (h : SoW w0 blk off d0 dk W) (R : Row1 vi w0 blk off d0) {i : Nat} (hi : i < d0.size) : W.cell? ⟨blk, off + i, none⟩ = some (vi dk[i]!) := h.sw.c1 R h.sz i (by rw [h.sz]; exact hi)
theorem SoW.f1 (h : SoW w0 blk off d0 dk W) (R : Row1 vi w0 blk off d0) {i : Nat} (hi : i < d0.size) : W.frozen? ⟨blk, off + i, none⟩ = false := h.sw.f1 R h.sz i (by rw [h.sz]; exact hi)
theorem SoW.c2 (h : SoW w0 blk off d0 dk W) (R : Row1 vi w0 blk off d0) {i j : Nat} (hi : i < d0.size) (hj : j < d0.size) (v : Value) : ∃ u, (W.setCell ⟨blk, off + i, none⟩ v).cell? ⟨blk, off + j, none⟩ = some u := h.sw.c2 R h.sz i j (by rw [h.sz]; exact hi) (by rw [h.sz]; exact hj) v
theorem SoW.cmp (h : SoW w0 blk off d0 dk W) (hC : CmpP g cb cf blk off d0 w0) (x y : Int) (hx : x ∈ d0.toList) (hy : y ∈ d0.toList) (n : Nat) (os : Array Obj) :
    Calls Tryz.prog g (#[vi x, vi y] ++ cb) (grow (W.drewN n) os) fun e w' => e = .returned (vi (cf x y)) ∧ ∃ q os', w' = grow ((grow (W.drewN n) os).drewN q) os' := hC dk _ (h.grown n os) x y hx hy
theorem SoW.swp (h : SoW w0 blk off d0 dk W) (R : Row1 vi w0 blk off d0) {i j : Nat} (hi : i < d0.size) (hj : j < d0.size) :
    SoW w0 blk off d0 (Sort.swp dk i j) ((W.setCell ⟨blk, off + i, none⟩ (vi dk[j]!)).setCell ⟨blk, off + j, none⟩ (vi dk[i]!)).drew :=
  ⟨h.sw.swapped R i j (by rw [h.sz]; exact hi) (by rw [h.sz]; exact hj), permIn_trans _ _ _ _ _ h.pm (swp_permIn dk 0 d0.size i j (Nat.zero_le _) hi (Nat.zero_le _) hj (by rw [h.sz]; exact Nat.le_refl _))⟩
theorem SoW.start (R : Row1 vi w0 blk off d0) : SoW w0 blk off d0 d0 w0 := ⟨SW.start R.hH, permIn_refl _ _ _⟩
end
end Go.Proofs.YtnacoplokjdglaaGreat

namespace Go.Proofs.YtnacoplokjdglaaGreat
open Go.RowKit Go.Maps Go.Sort
attribute [local go_sem] Oper.semAt_some

theorem SW.grownBy {w0 W : World} {blk off : Nat} {dk : Array Int} (h : SW vi w0 blk off dk W) : w0.grownBy W (some blk) := by
  obtain ⟨m, os, rfl⟩ := h
  unfold sortWorld
  refine ⟨rfl, rfl, rfl, by simp, fun k hk hne => ?_⟩
  have hgk : blk ≠ k := fun e => hne (by rw [e])
  rw [heap_grow_old _ _ (by simpa using hk)]
  simp [putRow, mapBlock, Sort.ahead, Array.getElem?_modify, hgk]
theorem cell_sameC {A B : World} {b o : Nat} (h : B.heap[b]? = A.heap[b]?) : B.cell? ⟨b, o, none⟩ = A.cell? ⟨b, o, none⟩ := by
  simp [World.cell?, h]
theorem AheadW.sorted {w0 W : World} {po pf pk blk off cap m : Nat} {D : List Int} {L : FaL} {key : Int} {dk : Array Int} (h : AheadW w0 po pf pk blk off cap m D L key) (hpo : po ≠ blk) (hpf : pf ≠ blk) (hpk : pk ≠ blk) (hm : m ≠ blk)
    (R : Row1 vi w0 blk off D.toArray) (hs : SoW w0 blk off D.toArray dk W) : AheadW W po pf pk blk off cap m dk.toList L key := by
  have hg := SW.grownBy hs.sw
  have hsz := hs.sz
  have hlt : ∀ {b o : Nat} {v : Value}, w0.cell? ⟨b, o, none⟩ = some v → b ≠ blk → W.cell? ⟨b, o, none⟩ = some v := fun {b o v} hc hb => by
    rw [cell_sameC (hg.block b (World.block_lt_of_cell? w0 _ hc) (fun e => hb (by simpa using e)))]; exact hc
  have hl : dk.toList.length = D.length := by simpa using hsz
  refine ⟨by rw [hl]; exact hlt h.o hpo, hlt h.f hpf, hlt h.k hpk, fun j x hj => ?_, h.map.kept hg (fun e => hm (by simpa using e)), h.key, by rw [hl]; exact h.len⟩
  have hjl := (List.getElem?_eq_some_iff.1 hj).1
  have hjd : j < dk.size := by simpa using hjl
  have hx : x = dk[j]! := by
    rw [getElem!_pos dk j hjd]
    have := (List.getElem?_eq_some_iff.1 hj).2
    simpa using this.symm
  have hjD : j < D.toArray.size := by rw [← hsz]; exact hjd
  refine ⟨by rw [hx]; exact hs.c1 R hjD, ?_⟩
  have hmem : x ∈ D := by
    have := hs.mem hjD
    rw [← hx] at this
    simpa using this
  obtain ⟨i, hi⟩ := List.mem_iff_getElem?.1 hmem
  exact (h.row i x hi).2

theorem AheadW.drewN {w : World} {po pf pk blk off cap m : Nat} {D : List Int} {L : FaL} {key : Int} (h : AheadW w po pf pk blk off cap m D L key) (n : Nat) : AheadW (w.drewN n) po pf pk blk off cap m D L key :=
  ⟨h.o, h.f, h.k, h.row, h.map.frame rfl, h.key, h.len⟩

set_option maxHeartbeats 4000000 in
set_option maxRecDepth 100000 in
theorem cmpA_call (pa po pf pk blk off cap m : Nat) (D : List Int) (L : FaL) (key x y : Int) (w : World) (h : AheadW w po pf pk blk off cap m D L key) (hx : i64 x) (hy : i64 y)
    (hp : w.cell? ⟨pa, 0, none⟩ = some (.func (.func 67) #[] #[.pointer (some ⟨po, 0, none⟩), .pointer (some ⟨pf, 0, none⟩), .pointer (some ⟨pk, 0, none⟩)])) :
    Calls Tryz.prog 69 #[vi x, vi y, .pointer (some ⟨pa, 0, none⟩)] w fun e w' => e = .returned (vi (cmpA L key D x y)) ∧ ∃ q, w' = w.drewN q := by
  have H := Lib.hid h
  have bx := aheadN_le L key D x
  have bY := aheadN_le L key D y
  have hl := h.len
  have HE := Lib.hid (show cmpA L key D x y = (aheadN L key D y : Int) - (aheadN L key D x : Int) from rfl)
  have HX := Lib.hid (fun n => ahead_call po pf pk blk off cap m D L key x (w.drewN n) (h.drewN n) hx)
  have HY := Lib.hid (fun n => ahead_call po pf pk blk off cap m D L key y (w.drewN n) (h.drewN n) hy)
  have mixed : Tryz.prog.follows .mixedOrders = true := by kernel_rfl
  generalize aheadN L key D x = nx at *
  generalize aheadN L key D y = ny at *
  have wr : IntKind.i64.wrap ((ny : Int) - (nx : Int)) = (ny : Int) - (nx : Int) := by rw [IntWalk.i64_in _ (by omega)]
  clear h hx hy
  go_enter Tryz.func69, Tryz.ntmps69
  go_wp2_with fail
  go_quiet (first
    | (go_at_call 67; with_reducible exact Calls.quiet_of_same (HY.out _))
    | (go_at_call 67; with_reducible exact Calls.quiet_of_same (HX.out _)))
  go_wp2_with fail
  go_ret
  exact ⟨by rw [HE.out]; rfl, _, rfl⟩

theorem cmpP_ok {w0 : World} {pa po pf pk blk off cap m : Nat} {D : List Int} {L : FaL} {key : Int} (h : AheadW w0 po pf pk blk off cap m D L key) (hpo : po ≠ blk) (hpf : pf ≠ blk) (hpk : pk ≠ blk) (hm : m ≠ blk) (hpa : pa ≠ blk)
    (R : Row1 vi w0 blk off D.toArray)
    (hp : w0.cell? ⟨pa, 0, none⟩ = some (.func (.func 67) #[] #[.pointer (some ⟨po, 0, none⟩), .pointer (some ⟨pf, 0, none⟩), .pointer (some ⟨pk, 0, none⟩)])) :
    CmpP 69 #[.pointer (some ⟨pa, 0, none⟩)] (cmpA L key D) blk off D.toArray w0 := by
  intro dk W hs x y hx hy
  have hA := h.sorted hpo hpf hpk hm R hs
  have hg := SW.grownBy hs.sw
  have hp2 : W.cell? ⟨pa, 0, none⟩ = some (.func (.func 67) #[] #[.pointer (some ⟨po, 0, none⟩), .pointer (some ⟨pf, 0, none⟩), .pointer (some ⟨pk, 0, none⟩)]) := by
    rw [cell_sameC (hg.block pa (World.block_lt_of_cell? w0 _ hp) (fun e => hpa (by simpa using e)))]; exact hp
  have hi : ∀ z, z ∈ D.toArray.toList → i64 z := fun z hz => by
    obtain ⟨i, hi⟩ := List.mem_iff_getElem?.1 (show z ∈ D by simpa using hz)
    exact (h.row i z hi).2
  have hc := cmpA_call pa po pf pk blk off cap m dk.toList L key x y W hA (hi x hx) (hi y hy) hp2
  have hperm : dk.toList.Perm D := by simpa using hs.perm
  have he : cmpA L key dk.toList x y = cmpA L key D x y := by unfold cmpA; rw [aheadN_perm hperm, aheadN_perm hperm]
  rw [he] at hc
  refine Calls.mono hc ?_
  rintro e w' ⟨h1, q, h2⟩
  exact ⟨h1, q, #[], by rw [h2]; simp [grow]; rfl⟩
end Go.Proofs.YtnacoplokjdglaaGreat

namespace Go.Proofs.YtnacoplokjdglaaGreat
open Go.Sort

structure RdF (lt : Int → Int → Bool) (dk : Array Int) (a b lim : Nat) (wb wp : Bool) (RR : Array Int) (Q : Rd Int) : Prop where
  brk : wb = false → Q.d1 = breakPatterns dk a b ∧ Q.lim = lim - 1
  same : wb = true → Q.d1 = dk ∧ Q.lim = lim
  le : Q.lim ≤ lim
  c : Q.c = choosePivot lt Q.d1 a b
  c1 : a ≤ Q.c.1 ∧ Q.c.1 < b
  dec : Q.c.2 = .decreasing → Q.d2 = reverseRange Q.d1 a b ∧ Q.pivot = (b - 1) - (Q.c.1 - a) ∧ Q.hint = .increasing
  nodec : Q.c.2 ≠ .decreasing → Q.d2 = Q.d1 ∧ Q.pivot = Q.c.1 ∧ Q.hint = Q.c.2
  yes : (wb && wp && decide (Q.hint = .increasing)) = true → Q.pi = partialInsertionSort lt Q.d2 a b
  no : (wb && wp && decide (Q.hint = .increasing)) = false → Q.pi = (Q.d2, false)
  pv : a ≤ Q.pivot ∧ Q.pivot < b
  done : Q.pi.2 = true → Q.pi.1 = RR
  eq : Q.pi.2 = false → 0 < a → lt Q.pi.1[a - 1]! Q.pi.1[Q.pivot]! = false → ∀ mid d4, partitionEqual lt Q.pi.1 a b Q.pivot = (mid, d4) → a < mid ∧ mid ≤ b ∧ Below lt mid b d4 ∧ pdq lt d4 mid b Q.lim wb wp = RR
  part : Q.pi.2 = false → (a = 0 ∨ lt Q.pi.1[a - 1]! Q.pi.1[Q.pivot]! = true) → ∀ mid ap d4, Sort.partition lt Q.pi.1 a b Q.pivot = (mid, ap, d4) → a ≤ mid ∧ mid < b ∧ Below lt a mid d4 ∧ Below lt (mid + 1) b d4 ∧
    (mid - a < b - mid → Below lt (mid + 1) b (pdq lt d4 a mid Q.lim true true) ∧ pdq lt (pdq lt d4 a mid Q.lim true true) (mid + 1) b Q.lim (decide (mid - a ≥ (b - a) / 8)) ap = RR) ∧
    (¬ mid - a < b - mid → Below lt a mid (pdq lt d4 (mid + 1) b Q.lim true true) ∧ pdq lt (pdq lt d4 (mid + 1) b Q.lim true true) a mid Q.lim (decide (b - mid ≥ (b - a) / 8)) ap = RR)

theorem rdF {lt : Int → Int → Bool} (hO : SWO lt) {dk : Array Int} {a b lim : Nat} {wb wp : Bool} (hab : a < b) (hb : b ≤ dk.size) (hB : Below lt a b dk) (h12 : ¬ b - a ≤ 12) (h0 : ¬ lim = 0) :
    ∃ Q, RdF lt dk a b lim wb wp (pdq lt dk a b lim wb wp) Q := by
  obtain ⟨s1, B1, hc1, s2, B2, hpv, s3, B3⟩ := rd_facts (lt := lt) (limit := lim) (wb := wb) (wp := wp) hO partialInsertionSort_holds reverseRange_holds hab hb hB
  refine ⟨rd lt dk a b lim wb wp, ?_, ?_, rd_lim_le, rfl, hc1, rd_dec, rd_not, rd_pi_yes, rd_pi_no, hpv, fun h => (pdq_done h12 h0 h).symm, ?_, ?_⟩
  · rintro rfl; exact rd_false
  · rintro rfl; exact rd_true
  · intro hp ha hl mid d4 hx
    obtain ⟨r1, r2, r3, r4, _⟩ := round_eq hO (partitionEqual_holds lt) ha hpv.1 hpv.2 (by omega) B3 hl hx
    refine ⟨r1, r2, r4, ?_⟩
    rw [pdq_eq h12 h0 hp (by simp [ha, hl]) (by rw [hx]; exact ⟨r1, r2⟩), hx]
  · intro hp hl mid ap d4 hx
    obtain ⟨r1, r2, r3, r4, r5, r6, r7⟩ := round_part hO (partition_holds lt) hpv.1 hpv.2 (by omega) B3 hx
    have h87 : (decide (a > 0) && !lt (rd lt dk a b lim wb wp).pi.1[a - 1]! (rd lt dk a b lim wb wp).pi.1[(rd lt dk a b lim wb wp).pivot]!) = false := by
      rcases hl with h | h
      · simp [h]
      · simp [h]
    refine ⟨r1, r2, r4, r5, fun h4 => ?_, fun h4 => ?_⟩
    · obtain ⟨pL, sL⟩ := pdq_sorts lt hO d4 a mid (rd lt dk a b lim wb wp).lim true true (by omega) (by omega) r4
      exact ⟨(r6 _ pL sL).1, by rw [pdq_left h12 h0 hp h87 (by rw [hx]; exact ⟨r1, r2⟩) (by rw [hx]; exact h4), hx]⟩
    · obtain ⟨pL, sL⟩ := pdq_sorts lt hO d4 (mid + 1) b (rd lt dk a b lim wb wp).lim true true (by omega) (by omega) r5
      exact ⟨(r7 _ pL sL).1, by rw [pdq_right h12 h0 hp h87 (by rw [hx]; exact ⟨r1, r2⟩) (by rw [hx]; exact h4), hx]⟩
end Go.Proofs.YtnacoplokjdglaaGreat

namespace Go.Proofs.YtnacoplokjdglaaGreat
open Go.RowKit Go.Maps Go.Sort
attribute [local go_sem] Oper.semAt_some

set_option maxHeartbeats 16000000 in
set_option maxRecDepth 100000 in
theorem soIns_call (cf : Int → Int → Int) (g : FuncId) (cb : Array Value) (blk off cap a b : Nat) (d0 d : Array Int) (w0 w : World)
    (eg : ∀ args w, (callFunc g args).run Tryz.prog w = .ok (.enter g args) w) (hC : CmpP g cb cf blk off d0 w0) (R : Row1 vi w0 blk off d0) (hS : SoW w0 blk off d0 d w) (hab : a ≤ b) (hb : b ≤ d0.size) (hsz : d0.size < 4611686018427387904) :
    Calls Tryz.prog 105 #[.slice (some ⟨blk, off, none⟩) d0.size cap, vi a, vi b, .func (.func g) #[] cb] w fun e w' => e = .returned (.tuple #[]) ∧ SoW w0 blk off d0 (Sort.insertionSort (ltOf cf) d a b) w' := by
  have HC := Lib.hid hC
  have HS := Lib.hid hS
  have mixed : Tryz.prog.follows .mixedOrders = true := by kernel_rfl
  clear hC hS
  have ha1 : IntKind.i64.wrap ((a : Int) + 1) = ((a + 1 : Nat) : Int) := by rw [IntWalk.i64_in _ (by omega)]; omega
  go_enter Tryz.func105, Tryz.ntmps105
  go_wp2_with fail
  go_loopw [8] (fun vi' wr => ∃ (i : Nat) (dk : Array Int), a < i ∧ i ≤ b + 1 ∧ vi' = vi (i : Nat) ∧ Hid (SoW w0 blk off d0 dk wr ∧ insOuter (ltOf cf) a b i dk = insOuter (ltOf cf) a b (a + 1) d)) (fun i _ => b + 1 - (intOf i).toNat)
  case atStart => exact ⟨a + 1, d, by omega, by omega, by first | rfl | go_num, Lib.hid ⟨HS.out, rfl⟩⟩
  case round =>
    obtain ⟨wj, rfl⟩ : ∃ wj : World, wj = wr := ⟨_, rfl⟩
    obtain ⟨i, dk, hai, hib, rfl, HJ⟩ := hrel
    have HO := Lib.hid HJ.out.2
    have S0 := Lib.hid HJ.out.1
    clear HJ
    by_cases hlt : i < b
    · have k1 : decide ((i : Int) < (b : Int)) = true := decide_eq_true (by omega)
      have k2 : (i : Int) < (b : Int) := by omega
      have hwi : IntKind.i64.wrap ((i : Int) + 1) = ((i + 1 : Nat) : Int) := by rw [IntWalk.i64_in _ (by omega)]; omega
      go_wp2_with fail
      go_loopw [9] (fun vj wr => ∃ (j : Nat) (dj : Array Int), a ≤ j ∧ j ≤ i ∧ vj = vi (j : Nat) ∧ Hid (SoW w0 blk off d0 dj wr ∧ insInner (ltOf cf) a j dj = insInner (ltOf cf) a i dk)) (fun j _ => (intOf j).toNat)
      case atStart => exact ⟨i, dk, by omega, Nat.le_refl _, rfl, Lib.hid ⟨S0.out, rfl⟩⟩
      case round =>
        clear S0
        obtain ⟨wq, rfl⟩ : ∃ wq : World, wq = wr := ⟨_, rfl⟩
        obtain ⟨j, dj, haj, hji, rfl, HJ⟩ := hrel
        have HI := Lib.hid HJ.out.2
        have SJ := Lib.hid HJ.out.1
        clear HJ
        have OUT := Lib.hid (show (j ≤ a ∨ (ltOf cf) dj[j]! dj[j - 1]! = false) → insOuter (ltOf cf) a b (i + 1) dj = insOuter (ltOf cf) a b (a + 1) d from fun hs => by
          rw [← HO.out, insOuter_go _ _ _ _ _ hlt, ← HI.out, insInner_stop _ _ _ _ hs])
        by_cases hja : a < j
        · obtain ⟨jp, hjp⟩ : ∃ q, q + 1 = j := ⟨j - 1, by omega⟩
          have ejp : j - 1 = jp := by omega
          have q1 : decide ((a : Int) < (j : Int)) = true := decide_eq_true (by omega)
          have q2 : (a : Int) < (j : Int) := by omega
          have q3 : (j : Int) < (d0.size : Int) := by omega
          have q4 : (jp : Int) < (d0.size : Int) := by omega
          have hwp : IntKind.i64.wrap ((j : Int) - 1) = (jp : Int) := by rw [IntWalk.i64_in _ (by omega)]; omega
          rw [ejp] at OUT
          cases hlv : (ltOf cf) dj[j]! dj[jp]! with
          | true =>
            obtain ⟨x, hx⟩ : ∃ x, x = dj[j]! := ⟨_, rfl⟩
            obtain ⟨y, hy⟩ : ∃ y, y = dj[jp]! := ⟨_, rfl⟩
            have la := SJ.out.cl R (i := j) (by omega)
            have lb := SJ.out.cl R (i := jp) (by omega)
            rw [← hx] at la
            rw [← hy] at lb
            have hc := SJ.out.cmp HC.out x y (by rw [hx]; exact SJ.out.mem (by omega)) (by rw [hy]; exact SJ.out.mem (by omega))
            have hd : decide (cf x y < 0) = true := by rw [hx, hy]; exact hlv
            have hv : cf x y < 0 := of_decide_eq_true hd
            clear hx hy
            go_wp2_with fail
            go_quiet_grown (first | (go_at_fn g; refine Calls.grown_of (hc _ _)))
            have SJ2 := Lib.hid (SJ.out.grown nq osq)
            clear la lb hc hd hv
            generalize grow (wq.drewN nq) osq = w2 at SJ2 ⊢
            clear nq osq
            have SJ23 := Lib.hid (SJ2.out.swp R (i := j) (j := jp) (by omega) (by omega))
            have ca := SJ2.out.c1 R (i := j) (by omega)
            have cb2 := SJ2.out.c1 R (i := jp) (by omega)
            have fa := SJ2.out.f1 R (i := j) (by omega)
            have fb := SJ2.out.f1 R (i := jp) (by omega)
            obtain ⟨ux, hux⟩ : ∃ x, x = dj[j]! := ⟨_, rfl⟩
            obtain ⟨uy, huy⟩ : ∃ y, y = dj[jp]! := ⟨_, rfl⟩
            obtain ⟨u2, cc⟩ := SJ2.out.c2 R (i := j) (j := jp) (by omega) (by omega) (vi uy)
            rw [← hux] at ca SJ23
            rw [← huy] at cb2 SJ23
            clear hux huy
            go_wp2_with fail
            go_big_region_o
            clear ca cb2 fa fb cc
            generalize ((w2.setCell ⟨blk, off + j, none⟩ (vi uy)).setCell ⟨blk, off + jp, none⟩ (vi ux)).drew = w3 at SJ23 ⊢
            go_wp2_with fail
            exact ⟨⟨jp, Sort.swp dj j jp, by omega, by omega, by first | rfl | go_num, Lib.hid ⟨SJ23.out, by rw [← HI.out, insInner_go (ltOf cf) a j dj hja (by rw [ejp]; exact hlv), ejp]⟩⟩, by simp only [intOf]; omega⟩
          | false =>
            have HN := Lib.hid (OUT.out (Or.inr hlv))
            obtain ⟨x, hx⟩ : ∃ x, x = dj[j]! := ⟨_, rfl⟩
            obtain ⟨y, hy⟩ : ∃ y, y = dj[jp]! := ⟨_, rfl⟩
            have la := SJ.out.cl R (i := j) (by omega)
            have lb := SJ.out.cl R (i := jp) (by omega)
            rw [← hx] at la
            rw [← hy] at lb
            have hc := SJ.out.cmp HC.out x y (by rw [hx]; exact SJ.out.mem (by omega)) (by rw [hy]; exact SJ.out.mem (by omega))
            have hd : decide (cf x y < 0) = false := by rw [hx, hy]; exact hlv
            have hv : ¬ cf x y < 0 := of_decide_eq_false hd
            clear hx hy
            go_wp2_with fail
            go_quiet_grown (first | (go_at_fn g; refine Calls.grown_of (hc _ _)))
            have SJ2 := Lib.hid (SJ.out.grown nq osq)
            clear la lb hc hd hv
            generalize grow (wq.drewN nq) osq = w2 at SJ2 ⊢
            clear nq osq
            go_wp2_with fail
            exact ⟨⟨i + 1, dj, by omega, by omega, by first | rfl | go_num, Lib.hid ⟨SJ2.out, HN.out⟩⟩, by simp only [intOf]; omega⟩
        · have q1 : decide ((a : Int) < (j : Int)) = false := decide_eq_false (by omega)
          have q2 : ¬ (a : Int) < (j : Int) := by omega
          have HN := Lib.hid (OUT.out (Or.inl (by omega)))
          go_wp2_with fail
          go_big_region_o
          have SJ2 := Lib.hid SJ.out.drew
          clear SJ
          generalize wq.drew = w2 at SJ2 ⊢
          go_wp2_with fail
          exact ⟨⟨i + 1, dj, by omega, by omega, by first | rfl | go_num, Lib.hid ⟨SJ2.out, HN.out⟩⟩, by simp only [intOf]; omega⟩
    · have k1 : decide ((i : Int) < (b : Int)) = false := decide_eq_false (by omega)
      have k2 : ¬ (i : Int) < (b : Int) := by omega
      go_wp2_with fail
      go_end0
      exact ⟨rfl, by unfold Sort.insertionSort; rw [← HO.out, insOuter_stop _ _ _ _ _ hlt]; exact S0.out⟩
end Go.Proofs.YtnacoplokjdglaaGreat

namespace Go.Proofs.YtnacoplokjdglaaGreat
open Go.RowKit Go.Maps Go.Sort
attribute [local go_sem] Oper.semAt_some

set_option maxHeartbeats 16000000 in
set_option maxRecDepth 100000 in
theorem soSift_call (cf : Int → Int → Int) (g : FuncId) (cb : Array Value) (blk off cap lo hi F : Nat) (d0 d : Array Int) (w0 w : World)
    (eg : ∀ args w, (callFunc g args).run Tryz.prog w = .ok (.enter g args) w) (hC : CmpP g cb cf blk off d0 w0) (R : Row1 vi w0 blk off d0) (hS : SoW w0 blk off d0 d w) (hlo : lo ≤ hi) (hb : F + hi ≤ d0.size) (hsz : d0.size < 4611686018427387904) :
    Calls Tryz.prog 125 #[.slice (some ⟨blk, off, none⟩) d0.size cap, vi lo, vi hi, vi F, .func (.func g) #[] cb] w fun e w' => e = .returned (.tuple #[]) ∧ SoW w0 blk off d0 (Sort.siftDown (ltOf cf) hi F lo d) w' := by
  have HC := Lib.hid hC
  have HS := Lib.hid hS
  have mixed : Tryz.prog.follows .mixedOrders = true := by kernel_rfl
  clear hC hS
  go_enter Tryz.func125, Tryz.ntmps125
  go_wp2_with fail
  go_loopw [10] (fun vr wr => ∃ (r : Nat) (dk : Array Int), r ≤ hi ∧ vr = vi (r : Nat) ∧ Hid (SoW w0 blk off d0 dk wr ∧ siftDown (ltOf cf) hi F r dk = siftDown (ltOf cf) hi F lo d)) (fun r _ => hi - (intOf r).toNat)
  case atStart => exact ⟨lo, d, hlo, rfl, Lib.hid ⟨HS.out, rfl⟩⟩
  case round =>
    obtain ⟨wj, rfl⟩ : ∃ wj : World, wj = wr := ⟨_, rfl⟩
    obtain ⟨r, dk, hr, rfl, HJ⟩ := hrel
    have HO := Lib.hid HJ.out.2
    have S0 := Lib.hid HJ.out.1
    clear HJ HS
    obtain ⟨c, hc⟩ : ∃ c, 2 * r + 1 = c := ⟨_, rfl⟩
    obtain ⟨r2, hr2⟩ : ∃ c, 2 * r = c := ⟨_, rfl⟩
    have hw1 : IntKind.i64.wrap (2 * (r : Int)) = (r2 : Int) := by rw [IntWalk.i64_in _ (by omega)]; omega
    have hw2 : IntKind.i64.wrap ((r2 : Int) + 1) = (c : Int) := by rw [IntWalk.i64_in _ (by omega)]; omega
    by_cases hch : hi ≤ c
    · have k1 : decide ((hi : Int) ≤ (c : Int)) = true := decide_eq_true (by omega)
      have k2 : (hi : Int) ≤ (c : Int) := by omega
      go_wp2_with fail
      (first | go_end0 | ((try simp only [Exit.inBlock, Exit.then]); refine bodyPost_ret (results_none rfl _ _ _) rfl ?_))
      exact ⟨rfl, by rw [← HO.out, sd_end (ltOf cf) dk (by omega)]; exact S0.out⟩
    · have k1 : decide ((hi : Int) ≤ (c : Int)) = false := decide_eq_false (by omega)
      have k2 : ¬ (hi : Int) ≤ (c : Int) := by omega
      obtain ⟨c1, hc1⟩ : ∃ x, c + 1 = x := ⟨_, rfl⟩
      obtain ⟨fc, hfc⟩ : ∃ x, F + c = x := ⟨_, rfl⟩
      obtain ⟨fr, hfr⟩ : ∃ x, F + r = x := ⟨_, rfl⟩
      obtain ⟨fc1, hfc1⟩ : ∃ x, fc + 1 = x := ⟨_, rfl⟩
      have hw3 : IntKind.i64.wrap ((c : Int) + 1) = (c1 : Int) := by rw [IntWalk.i64_in _ (by omega)]; omega
      have hw4 : IntKind.i64.wrap ((F : Int) + (c : Int)) = (fc : Int) := by rw [IntWalk.i64_in _ (by omega)]; omega
      have hw5 : IntKind.i64.wrap ((fc : Int) + 1) = (fc1 : Int) := by rw [IntWalk.i64_in _ (by omega)]; omega
      have hw6 : IntKind.i64.wrap ((F : Int) + (r : Int)) = (fr : Int) := by rw [IntWalk.i64_in _ (by omega)]; omega
      have b1 : (fc : Int) < (d0.size : Int) := by omega
      have b2 : (fr : Int) < (d0.size : Int) := by omega
      have ec : 2 * r + 1 = c := by omega
      have ec1 : 2 * r + 2 = c1 := by omega
      have ef1 : F + c1 = fc1 := by omega
      by_cases hc1h : c1 < hi
      · have k3 : decide ((c1 : Int) < (hi : Int)) = true := decide_eq_true (by omega)
        have k4 : (c1 : Int) < (hi : Int) := by omega
        have b3 : (fc1 : Int) < (d0.size : Int) := by omega
        have hw7 : IntKind.i64.wrap ((F : Int) + (c1 : Int)) = (fc1 : Int) := by rw [IntWalk.i64_in _ (by omega)]; omega
        cases hlv : (ltOf cf) dk[fc]! dk[fc1]! with
        | true =>
          have HL := Lib.hid hlv
          obtain ⟨x, hx⟩ : ∃ x, x = dk[fc]! := ⟨_, rfl⟩
          obtain ⟨y, hy⟩ : ∃ y, y = dk[fc1]! := ⟨_, rfl⟩
          have la := S0.out.cl R (i := fc) (by omega)
          have lb := S0.out.cl R (i := fc1) (by omega)
          rw [← hx] at la
          rw [← hy] at lb
          have hc := S0.out.cmp HC.out x y (by rw [hx]; exact S0.out.mem (by omega)) (by rw [hy]; exact S0.out.mem (by omega))
          have hd : decide (cf x y < 0) = true := by rw [hx, hy]; exact hlv
          have hv : cf x y < 0 := of_decide_eq_true hd
          clear hx hy
          go_wp2_with fail
          go_quiet_grown (first | (go_at_fn g; refine Calls.grown_of (hc _ _)))
          have S02 := Lib.hid (S0.out.grown nq osq)
          clear la lb hc hd hv
          generalize grow (wj.drewN nq) osq = w2 at S02 ⊢
          clear nq osq
          go_upto_region 5 with fail
          cases hlv : (ltOf cf) dk[fr]! dk[fc1]! with
          | true =>
            have HG := Lib.hid (sd_right_go (lt := ltOf cf) dk (hi := hi) (F := F) (root := r) (by omega) (by rw [ec, ec1, hfc, ef1]; exact HL.out) (by rw [ec1, hfr, ef1]; exact hlv))
            rw [ec1, hfr, ef1] at HG
            obtain ⟨x, hx⟩ : ∃ x, x = dk[fr]! := ⟨_, rfl⟩
            obtain ⟨y, hy⟩ : ∃ y, y = dk[fc1]! := ⟨_, rfl⟩
            have la := S02.out.cl R (i := fr) (by omega)
            have lb := S02.out.cl R (i := fc1) (by omega)
            rw [← hx] at la
            rw [← hy] at lb
            have hc := S02.out.cmp HC.out x y (by rw [hx]; exact S02.out.mem (by omega)) (by rw [hy]; exact S02.out.mem (by omega))
            have hd : decide (cf x y < 0) = true := by rw [hx, hy]; exact hlv
            have hv : cf x y < 0 := of_decide_eq_true hd
            clear hx hy
            go_wp2_with fail
            go_quiet_grown (first | (go_at_fn g; refine Calls.grown_of (hc _ _)))
            have S022 := Lib.hid (S02.out.grown nq osq)
            clear la lb hc hd hv
            generalize grow (w2.drewN nq) osq = w4 at S022 ⊢
            clear nq osq
            have S0223 := Lib.hid (S022.out.swp R (i := fr) (j := fc1) (by omega) (by omega))
            have ca := S022.out.c1 R (i := fr) (by omega)
            have cb2 := S022.out.c1 R (i := fc1) (by omega)
            have fa := S022.out.f1 R (i := fr) (by omega)
            have fb := S022.out.f1 R (i := fc1) (by omega)
            obtain ⟨ux, hux⟩ : ∃ x, x = dk[fr]! := ⟨_, rfl⟩
            obtain ⟨uy, huy⟩ : ∃ y, y = dk[fc1]! := ⟨_, rfl⟩
            obtain ⟨u2, cc⟩ := S022.out.c2 R (i := fr) (j := fc1) (by omega) (by omega) (vi uy)
            rw [← hux] at ca S0223
            rw [← huy] at cb2 S0223
            clear hux huy
            go_wp2_with fail
            go_big_region_o
            clear ca cb2 fa fb cc
            generalize ((w4.setCell ⟨blk, off + fr, none⟩ (vi uy)).setCell ⟨blk, off + fc1, none⟩ (vi ux)).drew = w5 at S0223 ⊢
            go_wp2_with fail
            exact ⟨⟨c1, Sort.swp dk fr fc1, by omega, rfl, Lib.hid ⟨S0223.out, by rw [← HO.out, HG.out]⟩⟩, by simp only [intOf]; omega⟩
          | false =>
            have HG := Lib.hid (sd_right_stop (lt := ltOf cf) dk (hi := hi) (F := F) (root := r) (by omega) (by rw [ec, ec1, hfc, ef1]; exact HL.out) (by rw [ec1, hfr, ef1]; exact hlv))
            obtain ⟨x, hx⟩ : ∃ x, x = dk[fr]! := ⟨_, rfl⟩
            obtain ⟨y, hy⟩ : ∃ y, y = dk[fc1]! := ⟨_, rfl⟩
            have la := S02.out.cl R (i := fr) (by omega)
            have lb := S02.out.cl R (i := fc1) (by omega)
            rw [← hx] at la
            rw [← hy] at lb
            have hc := S02.out.cmp HC.out x y (by rw [hx]; exact S02.out.mem (by omega)) (by rw [hy]; exact S02.out.mem (by omega))
            have hd : decide (cf x y < 0) = false := by rw [hx, hy]; exact hlv
            have hv : ¬ cf x y < 0 := of_decide_eq_false hd
            clear hx hy
            go_wp2_with fail
            go_quiet_grown (first | (go_at_fn g; refine Calls.grown_of (hc _ _)))
            have S022 := Lib.hid (S02.out.grown nq osq)
            clear la lb hc hd hv
            generalize grow (w2.drewN nq) osq = w4 at S022 ⊢
            clear nq osq
            go_wp2_with fail
            (first | go_end0 | ((try simp only [Exit.inBlock, Exit.then]); refine bodyPost_ret (results_none rfl _ _ _) rfl ?_))
            exact ⟨rfl, by rw [← HO.out, HG.out]; exact S022.out⟩
        | false =>
          have HL := Lib.hid hlv
          obtain ⟨x, hx⟩ : ∃ x, x = dk[fc]! := ⟨_, rfl⟩
          obtain ⟨y, hy⟩ : ∃ y, y = dk[fc1]! := ⟨_, rfl⟩
          have la := S0.out.cl R (i := fc) (by omega)
          have lb := S0.out.cl R (i := fc1) (by omega)
          rw [← hx] at la
          rw [← hy] at lb
          have hc := S0.out.cmp HC.out x y (by rw [hx]; exact S0.out.mem (by omega)) (by rw [hy]; exact S0.out.mem (by omega))
          have hd : decide (cf x y < 0) = false := by rw [hx, hy]; exact hlv
          have hv : ¬ cf x y < 0 := of_decide_eq_false hd
          clear hx hy
          go_wp2_with fail
          go_quiet_grown (first | (go_at_fn g; refine Calls.grown_of (hc _ _)))
          have S02 := Lib.hid (S0.out.grown nq osq)
          clear la lb hc hd hv
          generalize grow (wj.drewN nq) osq = w2 at S02 ⊢
          clear nq osq
          go_upto_region 5 with fail
          cases hlv : (ltOf cf) dk[fr]! dk[fc]! with
          | true =>
            have HG := Lib.hid (sd_left_go (lt := ltOf cf) dk (hi := hi) (F := F) (root := r) (by omega) (fun _ => by rw [ec, ec1, hfc, ef1]; exact HL.out) (by rw [ec, hfr, hfc]; exact hlv))
            rw [ec, hfr, hfc] at HG
            obtain ⟨x, hx⟩ : ∃ x, x = dk[fr]! := ⟨_, rfl⟩
            obtain ⟨y, hy⟩ : ∃ y, y = dk[fc]! := ⟨_, rfl⟩
            have la := S02.out.cl R (i := fr) (by omega)
            have lb := S02.out.cl R (i := fc) (by omega)
            rw [← hx] at la
            rw [← hy] at lb
            have hc := S02.out.cmp HC.out x y (by rw [hx]; exact S02.out.mem (by omega)) (by rw [hy]; exact S02.out.mem (by omega))
            have hd : decide (cf x y < 0) = true := by rw [hx, hy]; exact hlv
            have hv : cf x y < 0 := of_decide_eq_true hd
            clear hx hy
            go_wp2_with fail
            go_quiet_grown (first | (go_at_fn g; refine Calls.grown_of (hc _ _)))
            have S022 := Lib.hid (S02.out.grown nq osq)
            clear la lb hc hd hv
            generalize grow (w2.drewN nq) osq = w4 at S022 ⊢
            clear nq osq
            have S0223 := Lib.hid (S022.out.swp R (i := fr) (j := fc) (by omega) (by omega))
            have ca := S022.out.c1 R (i := fr) (by omega)
            have cb2 := S022.out.c1 R (i := fc) (by omega)
            have fa := S022.out.f1 R (i := fr) (by omega)
            have fb := S022.out.f1 R (i := fc) (by omega)
            obtain ⟨ux, hux⟩ : ∃ x, x = dk[fr]! := ⟨_, rfl⟩
            obtain ⟨uy, huy⟩ : ∃ y, y = dk[fc]! := ⟨_, rfl⟩
            obtain ⟨u2, cc⟩ := S022.out.c2 R (i := fr) (j := fc) (by omega) (by omega) (vi uy)
            rw [← hux] at ca S0223
            rw [← huy] at cb2 S0223
            clear hux huy
            go_wp2_with fail
            go_big_region_o
            clear ca cb2 fa fb cc
            generalize ((w4.setCell ⟨blk, off + fr, none⟩ (vi uy)).setCell ⟨blk, off + fc, none⟩ (vi ux)).drew = w5 at S0223 ⊢
            go_wp2_with fail
            exact ⟨⟨c, Sort.swp dk fr fc, by omega, rfl, Lib.hid ⟨S0223.out, by rw [← HO.out, HG.out]⟩⟩, by simp only [intOf]; omega⟩
          | false =>
            have HG := Lib.hid (sd_left_stop (lt := ltOf cf) dk (hi := hi) (F := F) (root := r) (by omega) (fun _ => by rw [ec, ec1, hfc, ef1]; exact HL.out) (by rw [ec, hfr, hfc]; exact hlv))
            obtain ⟨x, hx⟩ : ∃ x, x = dk[fr]! := ⟨_, rfl⟩
            obtain ⟨y, hy⟩ : ∃ y, y = dk[fc]! := ⟨_, rfl⟩
            have la := S02.out.cl R (i := fr) (by omega)
            have lb := S02.out.cl R (i := fc) (by omega)
            rw [← hx] at la
            rw [← hy] at lb
            have hc := S02.out.cmp HC.out x y (by rw [hx]; exact S02.out.mem (by omega)) (by rw [hy]; exact S02.out.mem (by omega))
            have hd : decide (cf x y < 0) = false := by rw [hx, hy]; exact hlv
            have hv : ¬ cf x y < 0 := of_decide_eq_false hd
            clear hx hy
            go_wp2_with fail
            go_quiet_grown (first | (go_at_fn g; refine Calls.grown_of (hc _ _)))
            have S022 := Lib.hid (S02.out.grown nq osq)
            clear la lb hc hd hv
            generalize grow (w2.drewN nq) osq = w4 at S022 ⊢
            clear nq osq
            go_wp2_with fail
            (first | go_end0 | ((try simp only [Exit.inBlock, Exit.then]); refine bodyPost_ret (results_none rfl _ _ _) rfl ?_))
            exact ⟨rfl, by rw [← HO.out, HG.out]; exact S022.out⟩
      · have k3 : decide ((c1 : Int) < (hi : Int)) = false := decide_eq_false (by omega)
        have k4 : ¬ (c1 : Int) < (hi : Int) := by omega
        have HL := Lib.hid (show 2 * r + 2 < hi → (ltOf cf) dk[F + (2 * r + 1)]! dk[F + (2 * r + 2)]! = false from fun h => absurd h (by omega))
        go_wp2_with fail
        go_big_region_o
        have S02 := Lib.hid S0.out.drew
        clear S0
        generalize wj.drew = w2 at S02 ⊢
        go_upto_region 5 with fail
        cases hlv : (ltOf cf) dk[fr]! dk[fc]! with
        | true =>
          have HG := Lib.hid (sd_left_go (lt := ltOf cf) dk (hi := hi) (F := F) (root := r) (by omega) (HL.out) (by rw [ec, hfr, hfc]; exact hlv))
          rw [ec, hfr, hfc] at HG
          obtain ⟨x, hx⟩ : ∃ x, x = dk[fr]! := ⟨_, rfl⟩
          obtain ⟨y, hy⟩ : ∃ y, y = dk[fc]! := ⟨_, rfl⟩
          have la := S02.out.cl R (i := fr) (by omega)
          have lb := S02.out.cl R (i := fc) (by omega)
          rw [← hx] at la
          rw [← hy] at lb
          have hc := S02.out.cmp HC.out x y (by rw [hx]; exact S02.out.mem (by omega)) (by rw [hy]; exact S02.out.mem (by omega))
          have hd : decide (cf x y < 0) = true := by rw [hx, hy]; exact hlv
          have hv : cf x y < 0 := of_decide_eq_true hd
          clear hx hy
          go_wp2_with fail
          go_quiet_grown (first | (go_at_fn g; refine Calls.grown_of (hc _ _)))
          have S022 := Lib.hid (S02.out.grown nq osq)
          clear la lb hc hd hv
          generalize grow (w2.drewN nq) osq = w4 at S022 ⊢
          clear nq osq
          have S0223 := Lib.hid (S022.out.swp R (i := fr) (j := fc) (by omega) (by omega))
          have ca := S022.out.c1 R (i := fr) (by omega)
          have cb2 := S022.out.c1 R (i := fc) (by omega)
          have fa := S022.out.f1 R (i := fr) (by omega)
          have fb := S022.out.f1 R (i := fc) (by omega)
          obtain ⟨ux, hux⟩ : ∃ x, x = dk[fr]! := ⟨_, rfl⟩
          obtain ⟨uy, huy⟩ : ∃ y, y = dk[fc]! := ⟨_, rfl⟩
          obtain ⟨u2, cc⟩ := S022.out.c2 R (i := fr) (j := fc) (by omega) (by omega) (vi uy)
          rw [← hux] at ca S0223
          rw [← huy] at cb2 S0223
          clear hux huy
          go_wp2_with fail
          go_big_region_o
          clear ca cb2 fa fb cc
          generalize ((w4.setCell ⟨blk, off + fr, none⟩ (vi uy)).setCell ⟨blk, off + fc, none⟩ (vi ux)).drew = w5 at S0223 ⊢
          go_wp2_with fail
          exact ⟨⟨c, Sort.swp dk fr fc, by omega, rfl, Lib.hid ⟨S0223.out, by rw [← HO.out, HG.out]⟩⟩, by simp only [intOf]; omega⟩
        | false =>
          have HG := Lib.hid (sd_left_stop (lt := ltOf cf) dk (hi := hi) (F := F) (root := r) (by omega) (HL.out) (by rw [ec, hfr, hfc]; exact hlv))
          obtain ⟨x, hx⟩ : ∃ x, x = dk[fr]! := ⟨_, rfl⟩
          obtain ⟨y, hy⟩ : ∃ y, y = dk[fc]! := ⟨_, rfl⟩
          have la := S02.out.cl R (i := fr) (by omega)
          have lb := S02.out.cl R (i := fc) (by omega)
          rw [← hx] at la
          rw [← hy] at lb
          have hc := S02.out.cmp HC.out x y (by rw [hx]; exact S02.out.mem (by omega)) (by rw [hy]; exact S02.out.mem (by omega))
          have hd : decide (cf x y < 0) = false := by rw [hx, hy]; exact hlv
          have hv : ¬ cf x y < 0 := of_decide_eq_false hd
          clear hx hy
          go_wp2_with fail
          go_quiet_grown (first | (go_at_fn g; refine Calls.grown_of (hc _ _)))
          have S022 := Lib.hid (S02.out.grown nq osq)
          clear la lb hc hd hv
          generalize grow (w2.drewN nq) osq = w4 at S022 ⊢
          clear nq osq
          go_wp2_with fail
          (first | go_end0 | ((try simp only [Exit.inBlock, Exit.then]); refine bodyPost_ret (results_none rfl _ _ _) rfl ?_))
          exact ⟨rfl, by rw [← HO.out, HG.out]; exact S022.out⟩
end Go.Proofs.YtnacoplokjdglaaGreat

namespace Go.Proofs.YtnacoplokjdglaaGreat
open Go.RowKit Go.Maps Go.Sort
attribute [local go_sem] Oper.semAt_some

theorem so_half {h : Nat} : (((h : Int) - 1).tdiv 2) = (((h - 1) / 2 + 1 : Nat) : Int) - 1 := by
  rcases Nat.eq_zero_or_pos h with rfl | hp
  · decide
  · rw [Int.tdiv_eq_ediv_of_nonneg (by omega)]; omega

set_option maxHeartbeats 16000000 in
set_option maxRecDepth 100000 in
theorem soHeap_call (cf : Int → Int → Int) (g : FuncId) (cb : Array Value) (blk off cap a b : Nat) (d0 d : Array Int) (w0 w : World)
    (eg : ∀ args w, (callFunc g args).run Tryz.prog w = .ok (.enter g args) w) (hC : CmpP g cb cf blk off d0 w0) (R : Row1 vi w0 blk off d0) (hS : SoW w0 blk off d0 d w) (hab : a ≤ b) (hb : b ≤ d0.size) (hsz : d0.size < 4611686018427387904) :
    Calls Tryz.prog 106 #[.slice (some ⟨blk, off, none⟩) d0.size cap, vi a, vi b, .func (.func g) #[] cb] w fun e w' => e = .returned (.tuple #[]) ∧ SoW w0 blk off d0 (Sort.heapSort (ltOf cf) d a b) w' := by
  have HC := Lib.hid hC
  have HS := Lib.hid hS
  have mixed : Tryz.prog.follows .mixedOrders = true := by kernel_rfl
  clear hC hS
  obtain ⟨h, hh⟩ : ∃ h, b - a = h := ⟨_, rfl⟩
  have hw1 : IntKind.i64.wrap ((b : Int) - (a : Int)) = (h : Int) := by rw [IntWalk.i64_in _ (by omega)]; omega
  have hw2 : IntKind.i64.wrap ((h : Int) - 1) = (h : Int) - 1 := IntWalk.i64_in _ (by omega)
  obtain ⟨K, hK⟩ : ∃ K, (h - 1) / 2 + 1 = K := ⟨_, rfl⟩
  have hq : ((h : Int) - 1).tdiv 2 = (K : Int) - 1 := by rw [so_half, hK]
  have hKs : K ≤ h + 1 := by omega
  have hw3 : IntKind.i64.wrap ((K : Int) - 1) = (K : Int) - 1 := IntWalk.i64_in _ (by omega)
  go_enter Tryz.func106, Tryz.ntmps106
  go_wp2_with fail
  go_loopw [11] (fun v wr => ∃ (k : Nat) (dk : Array Int), k ≤ K ∧ v = vi ((k : Int) - 1) ∧ Hid (SoW w0 blk off d0 dk wr ∧ heapBuild (ltOf cf) h a k dk = heapBuild (ltOf cf) h a K d)) (fun v _ => (intOf v + 1).toNat)
  case atStart => exact ⟨K, d, Nat.le_refl _, rfl, Lib.hid ⟨HS.out, rfl⟩⟩
  case round =>
    clear HS
    obtain ⟨wj, rfl⟩ : ∃ wj : World, wj = wr := ⟨_, rfl⟩
    obtain ⟨k, dk, hk, rfl, HJ⟩ := hrel
    have HO := Lib.hid HJ.out.2
    have S0 := Lib.hid HJ.out.1
    clear HJ
    rcases Nat.eq_zero_or_pos k with rfl | hkp
    · have k1 : decide ((0 : Int) ≤ ((0 : Nat) : Int) - 1) = false := by decide
      have k2 : ¬ ((0 : Int) ≤ ((0 : Nat) : Int) - 1) := by decide
      have HB := Lib.hid (show dk = heapBuild (ltOf cf) h a K d from HO.out)
      go_wp2_with fail
      go_loopw [12] (fun v wr => ∃ (k : Nat) (dk : Array Int), k ≤ h ∧ v = vi ((k : Int) - 1) ∧ Hid (SoW w0 blk off d0 dk wr ∧ heapPop (ltOf cf) a k dk = Sort.heapSort (ltOf cf) d a b)) (fun v _ => (intOf v + 1).toNat)
      case atStart => exact ⟨h, dk, Nat.le_refl _, rfl, Lib.hid ⟨S0.out, by unfold Sort.heapSort; rw [hh, hK, HB.out]⟩⟩
      case round =>
        clear S0 HO HB
        obtain ⟨wq, rfl⟩ : ∃ wq : World, wq = wr := ⟨_, rfl⟩
        obtain ⟨q, dq, hq', rfl, HJ⟩ := hrel
        have HO := Lib.hid HJ.out.2
        have S0 := Lib.hid HJ.out.1
        clear HJ
        rcases Nat.eq_zero_or_pos q with rfl | hqp
        · go_wp2_with fail
          (first | go_end0 | ((try simp only [Exit.inBlock, Exit.then]); refine bodyPost_ret (results_none rfl _ _ _) rfl ?_))
          exact ⟨rfl, by rw [← HO.out]; exact S0.out⟩
        · obtain ⟨p, hp⟩ : ∃ p, p + 1 = q := ⟨q - 1, by omega⟩
          have epq : (q : Int) - 1 = (p : Int) := by omega
          rw [epq]
          obtain ⟨ap, hap⟩ : ∃ x, a + p = x := ⟨_, rfl⟩
          have l1 : decide ((0 : Int) ≤ (p : Int)) = true := decide_eq_true (by omega)
          have l2 : (0 : Int) ≤ (p : Int) := by omega
          have hw4 : IntKind.i64.wrap ((a : Int) + (p : Int)) = (ap : Int) := by rw [IntWalk.i64_in _ (by omega)]; omega
          have hw5 : IntKind.i64.wrap ((p : Int) - 1) = (p : Int) - 1 := IntWalk.i64_in _ (by omega)
          have b1 : (ap : Int) < (d0.size : Int) := by omega
          have b2 : (a : Int) < (d0.size : Int) := by omega
          have S03 := Lib.hid (S0.out.swp R (i := a) (j := ap) (by omega) (by omega))
          have ca := S0.out.c1 R (i := a) (by omega)
          have cb2 := S0.out.c1 R (i := ap) (by omega)
          have fa := S0.out.f1 R (i := a) (by omega)
          have fb := S0.out.f1 R (i := ap) (by omega)
          obtain ⟨ux, hux⟩ : ∃ x, x = dq[a]! := ⟨_, rfl⟩
          obtain ⟨uy, huy⟩ : ∃ y, y = dq[ap]! := ⟨_, rfl⟩
          obtain ⟨u2, cc⟩ := S0.out.c2 R (i := a) (j := ap) (by omega) (by omega) (vi uy)
          rw [← hux] at ca S03
          rw [← huy] at cb2 S03
          clear hux huy
          go_wp2_with fail
          go_big_region_o
          clear ca cb2 fa fb cc
          generalize ((wq.setCell ⟨blk, off + a, none⟩ (vi uy)).setCell ⟨blk, off + ap, none⟩ (vi ux)).drew = w3 at S03 ⊢
          go_wp2_with (go_at_call 125; refine (soSift_call cf g cb blk off cap 0 p a d0 _ w0 w3 eg HC.out R S03.out (Nat.zero_le _) (by omega) hsz).mono ?_; rintro e4 w4 ⟨rfl, h4⟩; have S4 := Lib.hid h4; clear h4)
          exact ⟨⟨p, _, by omega, by first | rfl | go_num, Lib.hid ⟨S4.out, by rw [← HO.out, ← hp, heapPop, hap]⟩⟩, by simp only [intOf]; omega⟩
    · obtain ⟨p, hp⟩ : ∃ p, p + 1 = k := ⟨k - 1, by omega⟩
      have epq : (k : Int) - 1 = (p : Int) := by omega
      rw [epq]
      have l1 : decide ((0 : Int) ≤ (p : Int)) = true := decide_eq_true (by omega)
      have l2 : (0 : Int) ≤ (p : Int) := by omega
      have hw5 : IntKind.i64.wrap ((p : Int) - 1) = (p : Int) - 1 := IntWalk.i64_in _ (by omega)
      go_wp2_with (go_at_call 125; refine (soSift_call cf g cb blk off cap p h a d0 dk w0 wj eg HC.out R S0.out (by omega) (by omega) hsz).mono ?_; rintro e4 w4 ⟨rfl, h4⟩; have S4 := Lib.hid h4; clear h4)
      exact ⟨⟨p, _, by omega, by first | rfl | go_num, Lib.hid ⟨S4.out, by rw [← HO.out, ← hp, heapBuild]⟩⟩, by simp only [intOf]; omega⟩
end Go.Proofs.YtnacoplokjdglaaGreat

namespace Go.Proofs.YtnacoplokjdglaaGreat
open Go.RowKit Go.Maps Go.Sort
attribute [local go_sem] Oper.semAt_some

/-- The row, and the counter's box. -/
structure SoC (w0 : World) (blk off : Nat) (d0 dk : Array Int) (c s : Nat) (W : World) : Prop where
  so : SoW w0 blk off d0 dk W
  box : W.cell? ⟨c, 0, none⟩ = some (vi s)
  free : W.frozen? ⟨c, 0, none⟩ = false
  new : w0.heap.size ≤ c
  lt : c < W.heap.size
section
variable {w0 W : World} {blk off c s : Nat} {d0 dk : Array Int}
theorem SoC.cnt (h : SoC w0 blk off d0 dk c s W) : Cnt1 vi w0 blk off dk c s W := ⟨h.so.sw, h.box, h.free, h.new, h.lt⟩
theorem SoC.of (h : Cnt1 vi w0 blk off dk c s W) (hp : PermIn 0 d0.size d0 dk) : SoC w0 blk off d0 dk c s W := ⟨⟨h.1, hp⟩, h.2.1, h.2.2.1, h.2.2.2.1, h.2.2.2.2⟩
theorem SoC.grown (h : SoC w0 blk off d0 dk c s W) (n : Nat) (os : Array Obj) : SoC w0 blk off d0 dk c s (grow (W.drewN n) os) := .of (h.cnt.grown n os) h.so.pm
theorem SoC.bump (h : SoC w0 blk off d0 dk c s W) (t : Nat) : SoC w0 blk off d0 dk c t (W.setCell ⟨c, 0, none⟩ (vi t)) := .of (h.cnt.bump t) h.so.pm
end
set_option maxHeartbeats 16000000 in
set_option maxRecDepth 100000 in
theorem soOrd2_call (cf : Int → Int → Int) (g : FuncId) (cb : Array Value) (blk off cap a b c s : Nat) (d0 d : Array Int) (w0 w : World)
    (eg : ∀ args w, (callFunc g args).run Tryz.prog w = .ok (.enter g args) w) (hC : CmpP g cb cf blk off d0 w0) (R : Row1 vi w0 blk off d0) (hS : SoC w0 blk off d0 d c s w) (ha : a < d0.size) (hb : b < d0.size) (hsz : d0.size < 4611686018427387904) (hs : s < 4611686018427387904) :
    Calls Tryz.prog 149 #[.slice (some ⟨blk, off, none⟩) d0.size cap, vi a, vi b, .pointer (some ⟨c, 0, none⟩), .func (.func g) #[] cb] w fun e w' =>
      e = .returned (.tuple #[vi (order2 (ltOf cf) d a b s).1, vi (order2 (ltOf cf) d a b s).2.1]) ∧ SoC w0 blk off d0 d c (order2 (ltOf cf) d a b s).2.2 w' := by
  have HC := Lib.hid hC
  have S0 := Lib.hid hS.so
  have HS := Lib.hid hS
  have mixed : Tryz.prog.follows .mixedOrders = true := by kernel_rfl
  clear hC hS
  have b1 : (a : Int) < (d0.size : Int) := by omega
  have b2 : (b : Int) < (d0.size : Int) := by omega
  have hws : IntKind.i64.wrap ((s : Int) + 1) = (s : Int) + 1 := IntWalk.i64_in _ (by omega)
  go_enter Tryz.func149, Tryz.ntmps149
  go_upto_region 1 with fail
  cases hlv : (ltOf cf) d[b]! d[a]! with
  | true =>
    have HE := Lib.hid (show order2 (ltOf cf) d a b s = (b, a, s + 1) from by unfold order2; rw [hlv]; rfl)
    obtain ⟨x, hx⟩ : ∃ x, x = d[b]! := ⟨_, rfl⟩
    obtain ⟨y, hy⟩ : ∃ y, y = d[a]! := ⟨_, rfl⟩
    have la := S0.out.cl R (i := b) (by omega)
    have lb := S0.out.cl R (i := a) (by omega)
    rw [← hx] at la
    rw [← hy] at lb
    have hc := S0.out.cmp HC.out x y (by rw [hx]; exact S0.out.mem (by omega)) (by rw [hy]; exact S0.out.mem (by omega))
    have hd : decide (cf x y < 0) = true := by rw [hx, hy]; exact hlv
    have hv : cf x y < 0 := of_decide_eq_true hd
    clear hx hy
    go_wp2_with fail
    go_quiet_grown (first | (go_at_fn g; refine Calls.grown_of (hc _ _)))
    have S02 := Lib.hid (S0.out.grown nq osq)
    clear la lb hc hd hv
    have HS2 := Lib.hid (HS.out.grown nq osq)
    generalize grow (w.drewN nq) osq = w2 at S02 HS2 ⊢
    clear nq osq
    have f0 := HS2.out.free
    have c0 := HS2.out.box
    have HB := Lib.hid (show SoC w0 blk off d0 d c (s + 1) (w2.setCell ⟨c, 0, none⟩ (.int .i64 ((s : Int) + 1))) from by have h := HS2.out.bump (s + 1); rw [show ((s + 1 : Nat) : Int) = (s : Int) + 1 by omega] at h; exact h)
    go_wp2_with fail
    go_ret2
    exact ⟨by rw [HE.out]; rfl, by rw [HE.out]; exact HB.out⟩
  | false =>
    have HE := Lib.hid (show order2 (ltOf cf) d a b s = (a, b, s) from by unfold order2; rw [hlv]; rfl)
    obtain ⟨x, hx⟩ : ∃ x, x = d[b]! := ⟨_, rfl⟩
    obtain ⟨y, hy⟩ : ∃ y, y = d[a]! := ⟨_, rfl⟩
    have la := S0.out.cl R (i := b) (by omega)
    have lb := S0.out.cl R (i := a) (by omega)
    rw [← hx] at la
    rw [← hy] at lb
    have hc := S0.out.cmp HC.out x y (by rw [hx]; exact S0.out.mem (by omega)) (by rw [hy]; exact S0.out.mem (by omega))
    have hd : decide (cf x y < 0) = false := by rw [hx, hy]; exact hlv
    have hv : ¬ cf x y < 0 := of_decide_eq_false hd
    clear hx hy
    go_wp2_with fail
    go_quiet_grown (first | (go_at_fn g; refine Calls.grown_of (hc _ _)))
    have S02 := Lib.hid (S0.out.grown nq osq)
    clear la lb hc hd hv
    have HS2 := Lib.hid (HS.out.grown nq osq)
    generalize grow (w.drewN nq) osq = w2 at S02 HS2 ⊢
    clear nq osq
    go_wp2_with fail
    go_ret2
    exact ⟨by rw [HE.out]; rfl, by rw [HE.out]; exact HS2.out⟩

end Go.Proofs.YtnacoplokjdglaaGreat
