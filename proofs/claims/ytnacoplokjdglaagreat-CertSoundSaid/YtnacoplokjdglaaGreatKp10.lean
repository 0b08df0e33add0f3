/- Texts of one proof, one behind the other: DpOrd, DpSort0, DpSort, DpEq, GdCopyK, MuLay, GrRep, GrPure, GrFarP, GrQue. -/
import Derived.Shelf.SlSortCmp.WholeK
import Derived.Laws.CopyOwn
import Derived.Shelf.SlGeneric
import Derived.Shelf.Bits.Mul64
import Derived.Test.YtnacoplokjdglaaGreatProg
import Derived.Deep.AppendSrc
import Derived.Test.YtnacoplokjdglaaGreatKp1
import Derived.Test.YtnacoplokjdglaaGreatKp2
import Derived.Test.YtnacoplokjdglaaGreatKp3
import Derived.Test.YtnacoplokjdglaaGreatKp4
import Derived.Test.YtnacoplokjdglaaGreatKp5
import Derived.Test.YtnacoplokjdglaaGreatKp8
import Derived.Test.YtnacoplokjdglaaGreatKp9
set_option linter.all false
namespace Go.Proofs.YtnacoplokjdglaaGreat
open Go.RowKit Go.Maps Go.Sort Go.Shelf

def or3I (a b c : Int) : Int := if a = 0 then (if b = 0 then c else b) else a
def cmpE (x y : GEdge) : Int := or3I (Lib.compareInt x.f y.f) (Lib.compareInt x.t y.t) (Lib.compareInt x.k y.k)

set_option maxRecDepth 100000 in
set_option maxHeartbeats 2000000 in
theorem or3_call (g n : Nat) (a b c : Int) (w : World) (h0 : w.cell? ⟨g, 0, none⟩ = some (vi a)) (h1 : w.cell? ⟨g, 1, none⟩ = some (vi b)) (h2 : w.cell? ⟨g, 2, none⟩ = some (vi c)) :
    Calls Tryz.prog 122 #[.slice (some ⟨g, 0, none⟩) 3 n] w fun e w' => e = .returned (vi (or3I a b c)) ∧ w' = w := by
  go_enter Tryz.func122, Tryz.ntmps122
  go_wp2_with fail
  go_loopw [5, 8] (fun _ i wr => wr = w ∧ ∃ k : Nat, k ≤ 3 ∧ i = .int .i64 k ∧ (k = 0 ∨ a = 0) ∧ (k ≤ 1 ∨ b = 0) ∧ (k ≤ 2 ∨ c = 0)) (fun _ i _ => 3 - (intOf i).toNat)
  case atStart => exact ⟨rfl, 0, by omega, rfl, .inl rfl, .inl (by omega), .inl (by omega)⟩
  case round =>
    obtain ⟨rfl, k, hk, rfl, ha, hb, hc⟩ := hrel
    have h3 : k = 0 ∨ k = 1 ∨ k = 2 ∨ k = 3 := by omega
    rcases h3 with rfl | rfl | rfl | rfl
    · by_cases hz : a = 0
      · have e0 : (a == 0) = true := by simp [hz]
        have HZ := Lib.hid hz
        clear hz ha hb hc
        go_wp2_with fail
        go_roundw
        case rel => exact ⟨by trivial, 1, by omega, by go_num, .inr HZ.out, .inl (by omega), .inl (by omega)⟩
        case measure => simp [intOf]
      · have e0 : (a == 0) = false := by simp [hz]
        have e1 : or3I a b c = a := by unfold or3I; rw [if_neg hz]
        clear hz ha hb hc
        go_wp2_with fail
        go_ret
        exact ⟨by rw [e1]; rfl, rfl⟩
    · obtain rfl : a = 0 := by omega
      by_cases hz : b = 0
      · have e0 : (b == 0) = true := by simp [hz]
        have HZ := Lib.hid hz
        clear hz ha hb hc
        go_wp2_with fail
        go_roundw
        case rel => exact ⟨by trivial, 2, by omega, by go_num, .inr (by trivial), .inr HZ.out, .inl (by omega)⟩
        case measure => simp [intOf]
      · have e0 : (b == 0) = false := by simp [hz]
        have e1 : or3I 0 b c = b := by unfold or3I; rw [if_pos rfl, if_neg hz]
        clear hz ha hb hc
        go_wp2_with fail
        go_ret
        exact ⟨by rw [e1]; rfl, rfl⟩
    · obtain rfl : a = 0 := by omega
      obtain rfl : b = 0 := by omega
      by_cases hz : c = 0
      · have e0 : (c == 0) = true := by simp [hz]
        have HZ := Lib.hid hz
        clear hz ha hb hc
        go_wp2_with fail
        go_roundw
        case rel => exact ⟨by trivial, 3, by omega, by go_num, .inr (by trivial), .inr (by trivial), .inr HZ.out⟩
        case measure => simp [intOf]
      · have e0 : (c == 0) = false := by simp [hz]
        have e1 : or3I 0 0 c = c := by unfold or3I; rw [if_pos rfl, if_pos rfl]
        clear hz ha hb hc
        go_wp2_with fail
        go_ret
        exact ⟨by rw [e1]; rfl, rfl⟩
    · obtain rfl : a = 0 := by omega
      obtain rfl : b = 0 := by omega
      obtain rfl : c = 0 := by omega
      go_wp2_with fail
      go_ret
      exact ⟨by rfl, rfl⟩

abbrev edA (e : GEdge) : Value := .agg #[vi e.f, vi e.t, vi e.k]

set_option maxRecDepth 100000 in
set_option maxHeartbeats 8000000 in
theorem order_call (x y : GEdge) (w : World) : Calls Tryz.prog 101 #[edA x, edA y] w fun e w' => e = .returned (vi (cmpE x y)) ∧ ∃ q os', w' = grow (w.drewN q) os' := by
  have HX1 := Lib.hid (alloc_at w (.cells #[vi x.f, vi x.t, vi x.k] 113))
  have HX2 := Lib.hid (alloc_at (w.alloc (.cells #[vi x.f, vi x.t, vi x.k] 113)) (.cells #[vi y.f, vi y.t, vi y.k] 113))
  have HX3 := Lib.hid ((Below.heap_alloc (w.alloc (.cells #[vi x.f, vi x.t, vi x.k] 113)) (.cells #[vi y.f, vi y.t, vi y.k] 113) w.heap.size (by simp)).trans HX1.out)
  have hw1 : (w.alloc (.cells #[vi x.f, vi x.t, vi x.k] 113)).heap.size = w.heap.size + 1 := by simp
  have HG := Lib.hid (show ∃ q os', ((w.alloc (.cells #[vi x.f, vi x.t, vi x.k] 113)).alloc (.cells #[vi y.f, vi y.t, vi y.k] 113)) = grow (w.drewN q) os' from ⟨0, _, by rw [alloc_eq_grow, alloc_eq_grow, grow_grow]; rfl⟩)
  rw [hw1] at HX2
  go_enter Tryz.func101, Tryz.ntmps101
  go_upto_region 1 with fail
  generalize ((w.alloc (.cells #[vi x.f, vi x.t, vi x.k] 113)).alloc (.cells #[vi y.f, vi y.t, vi y.k] 113)) = w2 at *
  have b0 : w2.drew.cell? ⟨w.heap.size, 0, none⟩ = some (vi x.f) := by show w2.cell? _ = _; rw [cell_of HX3.out]; rfl
  have b1 : w2.drew.cell? ⟨w.heap.size, 1, none⟩ = some (vi x.t) := by show w2.cell? _ = _; rw [cell_of HX3.out]; rfl
  have b2 : w2.drew.cell? ⟨w.heap.size, 2, none⟩ = some (vi x.k) := by show w2.cell? _ = _; rw [cell_of HX3.out]; rfl
  have b3 : w2.drew.cell? ⟨w.heap.size + 1, 0, none⟩ = some (vi y.f) := by show w2.cell? _ = _; rw [cell_of HX2.out]; rfl
  have b4 : w2.drew.cell? ⟨w.heap.size + 1, 1, none⟩ = some (vi y.t) := by show w2.cell? _ = _; rw [cell_of HX2.out]; rfl
  have b5 : w2.drew.cell? ⟨w.heap.size + 1, 2, none⟩ = some (vi y.k) := by show w2.cell? _ = _; rw [cell_of HX2.out]; rfl
  have HA := Lib.hid (fun o => (Below.refl w2.drew.heap.size w2.drew).alloc (Nat.le_refl _) o)
  go_region_held3 (fun w' : World => w'.cell? ⟨w.heap.size, 0, none⟩ = some (vi x.f) ∧ w'.cell? ⟨w.heap.size, 1, none⟩ = some (vi x.t) ∧ w'.cell? ⟨w.heap.size, 2, none⟩ = some (vi x.k) ∧ w'.cell? ⟨w.heap.size + 1, 0, none⟩ = some (vi y.f) ∧ w'.cell? ⟨w.heap.size + 1, 1, none⟩ = some (vi y.t) ∧ w'.cell? ⟨w.heap.size + 1, 2, none⟩ = some (vi y.k)) (first | exact ⟨b0, b1, b2, b3, b4, b5⟩ | exact ⟨cell_later (HA.out _) b0, cell_later (HA.out _) b1, cell_later (HA.out _) b2, cell_later (HA.out _) b3, cell_later (HA.out _) b4, cell_later (HA.out _) b5⟩) (first
    | (go_simp; go_at_call 122; refine (or3_call w2.heap.size _ (Lib.compareInt x.f y.f) (Lib.compareInt x.t y.t) (Lib.compareInt x.k y.k) _ (by show (w2.alloc _).cell? _ = _; rw [cell_of (alloc_at w2 _)]; rfl) (by show (w2.alloc _).cell? _ = _; rw [cell_of (alloc_at w2 _)]; rfl) (by show (w2.alloc _).cell? _ = _; rw [cell_of (alloc_at w2 _)]; rfl)).mono ?_; rintro e w3 ⟨rfl, rfl⟩)
    | (go_simp; go_at_call 123; with_reducible refine (compare_call _ _ _).mono ?_; rintro e w3 ⟨rfl, rfl⟩))
  all_goals
    go_wp2
    go_ret
    exact ⟨rfl, grow_more HG.out _⟩
end Go.Proofs.YtnacoplokjdglaaGreat

namespace Go.Proofs.YtnacoplokjdglaaGreat
open Go.RowKit Go.Maps
set_option maxRecDepth 100000 in
set_option maxHeartbeats 1000000 in
theorem insertion_none (a : Option Addr) (c : Nat) (f : Value) (w : World) : Calls Tryz.prog 140 #[.slice a 0 c, vi 0, vi 0, f] w fun e w' => e = .returned (.tuple #[]) ∧ Below w.heap.size w w' := by
  go_enter Tryz.func140, Tryz.ntmps140
  go_wp2_with fail
  go_loopw [8, 9] (fun i _ wr => i = vi 1 ∧ wr = w) (fun _ _ _ => 0)
  case atStart => exact ⟨rfl, rfl⟩
  case round =>
    obtain ⟨rfl, rfl⟩ := hrel
    go_wp2_with fail
    go_end0
    exact ⟨rfl, Below.refl _ _⟩

set_option maxRecDepth 100000 in
set_option maxHeartbeats 1000000 in
theorem len64_none (w : World) : Calls Tryz.prog 114 #[.int .u64 0] w fun e w' => e = .returned (vi 0) ∧ Below w.heap.size w w' := by
  go_enter Tryz.func114, Tryz.ntmps114
  go_wp2_with fail
  go_ret
  exact ⟨by kernel_rfl, Below.refl _ _⟩

set_option maxRecDepth 100000 in
set_option maxHeartbeats 1000000 in
theorem pdq_none (a : Option Addr) (c : Nat) (n : Int) (f : Value) (w : World) : Calls Tryz.prog 121 #[.slice a 0 c, vi 0, vi 0, vi n, f] w fun e w' => e = .returned (.tuple #[]) ∧ Below w.heap.size w w' := by
  go_enter Tryz.func121, Tryz.ntmps121
  go_wp2_with fail
  go_loopw [1, 2, 3, 10, 11, 12, 13, 14, 15, 16, 17, 18, 19, 20] (fun i j _ _ _ _ _ _ _ _ _ _ _ _ wr => i = vi 0 ∧ j = vi 0 ∧ wr = w) (fun _ _ _ _ _ _ _ _ _ _ _ _ _ _ _ => 0)
  case atStart => exact ⟨rfl, rfl, rfl⟩
  case round =>
    obtain ⟨rfl, rfl, rfl⟩ := hrel
    go_wp2_with (go_at_call 140; refine (insertion_none a c _ _).mono ?_; rintro e w1 ⟨rfl, hb1⟩)
    refine bodyPost_ret (v := .tuple #[]) (by simp [results, Tryz.results121, go_sem]) rfl ⟨rfl, hb1⟩

set_option maxRecDepth 100000 in
set_option maxHeartbeats 1000000 in
theorem len_none (w : World) : Calls Tryz.prog 86 #[.int .u64 0] w fun e w' => e = .returned (vi 0) ∧ Below w.heap.size w w' := by
  go_enter Tryz.func86, Tryz.ntmps86
  go_wp2_with (go_at_call 114; refine (len64_none _).mono ?_; rintro e w1 ⟨rfl, hb1⟩)
  go_ret
  exact ⟨rfl, hb1⟩

set_option maxRecDepth 100000 in
set_option maxHeartbeats 1000000 in
theorem sortFunc_none (a : Option Addr) (c : Nat) (f : Value) (w : World) : Calls Tryz.prog 100 #[.slice a 0 c, f] w fun e w' => e = .returned (.tuple #[]) ∧ Below w.heap.size w w' := by
  go_enter Tryz.func100, Tryz.ntmps100
  go_wp2_with (first
    | (go_at_call 86; refine (len_none _).mono ?_; rintro e w1 ⟨rfl, hb1⟩)
    | (go_at_call 121; refine (pdq_none a c 0 _ _).mono ?_; rintro e w2 ⟨rfl, hb2⟩))
  go_end0
  exact ⟨rfl, hb1.trans (hb2.mono hb1.size)⟩
end Go.Proofs.YtnacoplokjdglaaGreat

namespace Go.Proofs.YtnacoplokjdglaaGreat
open Go.RowKit Go.Maps

instance : Inhabited GEdge := ⟨⟨0, 0, 0⟩⟩
instance (x y : GEdge) : Decidable (ltE x y) := by unfold ltE; exact inferInstance
theorem ltE_of (x y : GEdge) : Go.Proofs.ltOf cmpE x y = decide (ltE x y) := by
  unfold Go.Proofs.ltOf cmpE or3I ltE
  congr 1
  rcases compareInt_cases x.f y.f with ⟨h1, e1⟩ | ⟨h1, e1⟩ | ⟨h1, e1⟩ <;> rcases compareInt_cases x.t y.t with ⟨h2, e2⟩ | ⟨h2, e2⟩ | ⟨h2, e2⟩ <;> rcases compareInt_cases x.k y.k with ⟨h3, e3⟩ | ⟨h3, e3⟩ | ⟨h3, e3⟩ <;> simp [e1, e2, e3] <;> omega
theorem swoE : Go.Sort.SWO (Go.Proofs.ltOf cmpE) where
  irrefl x := by rw [ltE_of]; simp [ltE_irr]
  trans x y z h1 h2 := by rw [ltE_of] at *; simp only [decide_eq_true_eq] at *; exact ltE_trans h1 h2
  ntrans x y z h1 h2 := by rw [ltE_of] at *; simp only [decide_eq_false_iff_not] at *; unfold ltE at *; omega

set_option maxRecDepth 100000 in
set_option maxHeartbeats 2000000 in
theorem sortE_call {base : Nat} (v : Value) (ks : List GEdge) (w : World) (h : OwE base w v ks) (hbw : base ≤ w.heap.size) (hlen : ks.length ≤ 68719476736) :
    Calls Tryz.prog 100 #[v, .func (.func 101) #[] #[]] w fun e w' => e = .returned (.tuple #[]) ∧ ∃ ks', OwE base w' v ks' ∧ ks'.Perm ks ∧ ks'.Pairwise (fun x y => Go.Proofs.ltOf cmpE y x = false) ∧ ks'.length = ks.length ∧ Below base w w' ∧ w.grownBy w' v.ownBlock := by
  cases hks : ks with
  | nil =>
    subst hks
    obtain ⟨a, c, rfl⟩ : ∃ a c, v = .slice a 0 c := by
      rcases h.2 with ⟨hv, _⟩ | ⟨g, cap, cur, hv, _⟩
      · exact ⟨_, _, hv⟩
      · exact ⟨_, _, hv⟩
    refine (sortFunc_none a c _ w).mono ?_
    rintro e w' ⟨rfl, hb⟩
    refine ⟨rfl, [], own_below h hb, List.Perm.nil, List.Pairwise.nil, rfl, hb.mono hbw, ⟨hb.os, hb.tape, hb.output, hb.size, fun j hj _ => hb.block j hj⟩⟩
  | cons k0 kr =>
    rw [← hks]
    have hne : 0 < ks.length := by rw [hks]; simp
    clear hks
    rcases h.2 with ⟨_, h0⟩ | ⟨g, cap, cur, rfl, hg, hb, h1, h2, h3, h4⟩
    · omega
    have eg : ∀ args w, (callFunc 101 args).run Tryz.prog w = .ok (.enter 101 args) w := enters_of Tryz.func101 (by kernel_rfl) rfl
    have hcmp : Go.Proofs.CmpLays Tryz.prog 101 #[] edV 3 cmpE g 0 ks.toArray.size w := fun m os dk _ x y => order_call x y _
    have hH := holdsK_of_block (enc := edV) (k := 3) (fun _ => rfl) hb h4
    have hcon := Go.Proofs.AnyQ.slices_SortFunc sortEd 3 Tryz.isAgg113 Tryz.sizeOf113 edV (fun _ => rfl) (fun x v hv => by simp [edV] at hv; rcases hv with rfl | rfl | rfl <;> rfl) cmpE swoE 101 #[] g 0 cap ks.toArray w eg hcmp hH (Array.getElem?_eq_some_iff.1 hb).1 (by simp; omega)
    change Calls Tryz.prog 100 _ _ _ at hcon
    refine Calls.mono hcon ?_
    rintro e w' ⟨rfl, d', n, os, ⟨hs, _, hp⟩, hsort, rfl⟩
    have hs' : d'.size = ks.length := by simpa using hs
    have e1 : d'.extract 0 ks.toArray.size = d' := by rw [← hs]; simp
    have e2 : ks.toArray.extract 0 ks.toArray.size = ks.toArray := by simp
    rw [e1, e2] at hp
    refine ⟨rfl, d'.toList, ?_, by simpa using hp, ?_, by simpa using hs', (RowKit.Below.refl base w).grown (grownBy_sortedK (enc := edV) (k := 3) d') hbw (fun j hj => by cases hj; exact hg), grownBy_sortedK (enc := edV) (k := 3) d'⟩
    · have := ownsRow_sortedK (enc := edV) (k := 3) (fun _ => rfl) (n := n) (os := os) (l := ks) (l' := d'.toList) (by simpa using hs') hg hb h1 h2 h3
      unfold OwE
      rw [show d'.toList.length = ks.length by simpa using hs']
      simpa using this
    · rw [List.pairwise_iff_getElem]
      intro i j hi hj hij
      have hi' : i < d'.size := by simpa using hi
      have hj' : j < d'.size := by simpa using hj
      have := hsort i j (Nat.zero_le _) hij (by rw [← hs]; exact hj')
      rw [getElem!_pos d' i hi', getElem!_pos d' j hj'] at this
      simpa using this

end Go.Proofs.YtnacoplokjdglaaGreat

namespace Go.Proofs.YtnacoplokjdglaaGreat
open Go.RowKit Go.Maps

theorem eqIn_int (d : Nat) (a b : Int) (w : World) : (Op.equalIn (d + 1) 3 (vi a) (vi b)).run Tryz.prog w = .ok (a == b) w := by
  simp [Op.equalIn, run_underlying Tryz.underlying3]
set_option maxRecDepth 100000 in
theorem eqE_in (d : Nat) (x y : GEdge) (w : World) : (Op.equalIn (d + 1 + 1) 113 (edA x) (edA y)).run Tryz.prog w = .ok (decide (x = y)) w := by
  have hs : Tryz.prog.stoodInHeld 113 = false := by kernel_rfl
  have p0 : ∀ a b c w, (part 3 #[vi a, vi b, vi c] 0).run Tryz.prog w = .ok (vi a) w := fun _ _ _ _ => by kernel_rfl
  have p1 : ∀ a b c w, (part 3 #[vi a, vi b, vi c] 1).run Tryz.prog w = .ok (vi b) w := fun _ _ _ _ => by kernel_rfl
  have p2 : ∀ a b c w, (part 3 #[vi a, vi b, vi c] 2).run Tryz.prog w = .ok (vi c) w := fun _ _ _ _ => by kernel_rfl
  have hd : decide (x = y) = (x.f == y.f && (x.t == y.t && x.k == y.k)) := by
    obtain ⟨a, b, c⟩ := x; obtain ⟨a', b', c'⟩ := y
    rw [Bool.eq_iff_iff]; simp
  rw [hd]
  unfold Op.equalIn
  by_cases h1 : x.f = y.f <;> by_cases h2 : x.t = y.t <;> by_cases h3 : x.k = y.k <;> simp [run_underlying Tryz.underlying113, hs, eqIn_int, p0, p1, p2, h1, h2, h3, Result.andThen]
theorem eqlE (x y : GEdge) (w : World) : (binOp .eql 113 (edA x) (edA y)).run Tryz.prog w = .ok (.bool (decide (x = y))) w := by
  have h : (Op.equal 113 (edA x) (edA y)).run Tryz.prog w = .ok (decide (x = y)) w := eqE_in 9998 x y w
  simp only [binOp]
  simp [h]
theorem neqE (x y : GEdge) (w : World) : (binOp .neq 113 (edA x) (edA y)).run Tryz.prog w = .ok (.bool (!decide (x = y))) w := by
  have h : (Op.equal 113 (edA x) (edA y)).run Tryz.prog w = .ok (decide (x = y)) w := eqE_in 9998 x y w
  simp only [binOp]
  simp [h]
end Go.Proofs.YtnacoplokjdglaaGreat

namespace Go.Proofs.YtnacoplokjdglaaGreat
open Go.RowKit
/-- Whatever memory: all is read, then all is written. -/
theorem run_copyK {P : Program} (w : World) (dT sT ty elem : TypeId) (k b o dLen dCap : Nat) (a : Addr) (sLen sCap : Nat) (cs : List Value)
    (hu : P.underlying dT = some (.slice elem)) (hs : (P.info? elem).map (·.size) = some k) (hn : cs.length = Nat.min sLen dLen * k)
    (hsrc : ∀ j v, cs[j]? = some v → w.cell? (a.add j) = some v) (hc : ∀ j, j < cs.length → (w.cell? ⟨b, o + j, none⟩).isSome = true) (hf : ∀ j, j < cs.length → w.frozen? ⟨b, o + j, none⟩ = false) (h1 : ∀ v ∈ cs, v.oneCell' = true) :
    (Builtin.copy_ #[dT, sT] ty #[.slice (some ⟨b, o, none⟩) dLen dCap, .slice (some a) sLen sCap]).run P w = .ok (goInt (Nat.min sLen dLen : Nat)) (w.setCells b o cs) := by
  have e1 := run_loadCells_list (P := P) w a cs hsrc
  have e2 := run_storeCells_cells (P := P) b o cs 0 w (by simpa using hc) (by simpa using hf) h1
  cases q : P.info? elem with
  | none => simp [q] at hs
  | some i =>
    have hi : i.size = k := by simpa [q] using hs
    rw [hn] at e1
    simp [Builtin.copy_, run_underlying hu, Builtin.lenOf, Builtin.firstCells, sizeOf, typeInfo, q, hi, e1, e2]

/-- What lies in a block behind some stores into it. -/
theorem setCells_blockG (b : Nat) (T : TypeId) (fz : Nat × Nat) : ∀ (cs : List Value) (o : Nat) (w : World) (cur : Array Value), w.heap[b]? = some (.cells cur T fz) → o + cs.length ≤ cur.size →
    (w.setCells b o cs).heap[b]? = some (.cells (splice cur.toList o cs).toArray T fz)
  | [], o, w, cur, h, _ => by simp [World.setCells, splice, h]
  | v :: cs, o, w, cur, h, hl => by
    rw [World.setCells]
    have h2 : (w.setCell ⟨b, o, none⟩ v).heap[b]? = some (.cells (cur.setIfInBounds o v) T fz) := by
      simp [World.setCell, Array.getElem?_modify, h]
    have hlen : o < cur.size := by simp at hl; omega
    rw [setCells_blockG b T fz cs (o + 1) _ _ h2 (by simp at hl ⊢; omega)]
    congr 2
    unfold splice
    have ha : cur.toList.length = cur.size := by simp
    have hs : (cur.setIfInBounds o v).toList = cur.toList.set o v := by simp
    rw [hs]
    apply Array.ext'
    simp only [List.length_cons]
    apply List.ext_getElem?
    intro j
    have lt1 : (List.take (o + 1) (cur.toList.set o v)).length = o + 1 := by rw [List.length_take, List.length_set]; omega
    have lt2 : (List.take o cur.toList).length = o := by rw [List.length_take]; omega
    by_cases h3 : j < o
    · rw [List.getElem?_append_left (l₁ := List.take (o + 1) (cur.toList.set o v)) (by omega), List.getElem?_append_left (l₁ := List.take o cur.toList) (by omega), List.getElem?_take_of_lt (by omega), List.getElem?_take_of_lt h3, List.getElem?_set_ne (by omega)]
    · by_cases h4 : j = o
      · subst h4
        rw [List.getElem?_append_left (l₁ := List.take (j + 1) (cur.toList.set j v)) (by omega), List.getElem?_take_of_lt (by omega), List.getElem?_set_self (by omega), List.getElem?_append_right (l₁ := List.take j cur.toList) (by omega), lt2]
        simp
      · rw [List.getElem?_append_right (l₁ := List.take (o + 1) (cur.toList.set o v)) (by omega), List.getElem?_append_right (l₁ := List.take o cur.toList) (by omega), lt1, lt2]
        have e2 : j - o = (j - (o + 1)) + 1 := by omega
        rw [e2, List.cons_append, List.getElem?_cons_succ]
        by_cases h5 : j - (o + 1) < cs.length
        · rw [List.getElem?_append_left h5, List.getElem?_append_left h5]
        · rw [List.getElem?_append_right (by omega), List.getElem?_append_right (by omega), List.getElem?_drop, List.getElem?_drop, List.getElem?_set_ne (by omega)]
          congr 1; omega

theorem setCells_other (b : Nat) : ∀ (cs : List Value) (o : Nat) (w : World) (j : Nat), j ≠ b → (w.setCells b o cs).heap[j]? = w.heap[j]?
  | [], _, _, _, _ => rfl
  | v :: cs, o, w, j, h => by rw [World.setCells, setCells_other b cs _ _ _ h]; exact Below.heap_setCell _ _ _ _ h
theorem setCells_size (b : Nat) : ∀ (cs : List Value) (o : Nat) (w : World), (w.setCells b o cs).heap.size = w.heap.size
  | [], _, _ => rfl
  | v :: cs, o, w => by rw [World.setCells, setCells_size b cs]; simp [World.setCell]
theorem setCells_env (b : Nat) : ∀ (cs : List Value) (o : Nat) (w : World), (w.setCells b o cs).os = w.os ∧ (w.setCells b o cs).tape = w.tape ∧ (w.setCells b o cs).output = w.output
  | [], _, _ => ⟨rfl, rfl, rfl⟩
  | v :: cs, o, w => by rw [World.setCells]; exact setCells_env b cs _ _
theorem setCells_grownG (b : Nat) (cs : List Value) (o : Nat) (w : World) : w.grownBy (w.setCells b o cs) (some b) :=
  ⟨(setCells_env b cs o w).1, (setCells_env b cs o w).2.1, (setCells_env b cs o w).2.2, by rw [setCells_size]; exact Nat.le_refl _, fun k _ hne => setCells_other b cs o w k (fun e => hne (by rw [e]))⟩

/-- copy(d, s) into a block that is known whole. -/
theorem run_copyR {P : Program} (w : World) (dT sT ty elem : TypeId) (k b o dLen dCap : Nat) (sp : Option Addr) (sLen sCap : Nat) (cs : List Value) (cur : Array Value) (T : TypeId)
    (hu : P.underlying dT = some (.slice elem)) (hs : (P.info? elem).map (·.size) = some k) (hn : cs.length = Nat.min sLen dLen * k) (hb : w.heap[b]? = some (.cells cur T (0, 0)))
    (hsrc : ∃ a, sp = some a ∧ ∀ j v, cs[j]? = some v → w.cell? (a.add j) = some v) (hfit : o + cs.length ≤ cur.size) (h1 : ∀ v ∈ cs, v.oneCell' = true) :
    ∃ w', (Builtin.copy_ #[dT, sT] ty #[.slice (some ⟨b, o, none⟩) dLen dCap, .slice sp sLen sCap]).run P w = .ok (goInt (Nat.min sLen dLen : Nat)) w' ∧ Hid (w'.heap[b]? = some (.cells (splice cur.toList o cs).toArray T (0, 0)) ∧ w.grownBy w' (some b) ∧ w'.heap.size = w.heap.size) := by
  obtain ⟨a, rfl, hsrc⟩ := hsrc
  refine ⟨_, run_copyK w dT sT ty elem k b o dLen dCap a sLen sCap cs hu hs hn hsrc (fun j hj => ?_) (fun j hj => ?_) h1, Lib.hid ⟨setCells_blockG b T (0, 0) cs o w cur hb hfit, setCells_grownG b cs o w, setCells_size b cs o w⟩⟩
  · simp [World.cell?, hb]; omega
  · simp [World.frozen?, hb]

theorem wpList_copy_run {P : Program} {w : World} {ops : Array Oper} {rest : List Oper} {o : Oper} {a : Act} {Q : Exit → Act → World → Prop} (hgd : o.guard = none) (d s : Operand) (t t' : TypeId)
    (ho : o.op = .call { callee := .builtin .copy, args := #[d, s], argTypes := #[t, t'] }) (v u : Value) (hd : a.eval d = v) (hs : a.eval s = u) {v' : Value} {w' : World}
    (hr : (Builtin.copy_ #[t, t'] o.type #[v, u]).run P w = .ok v' w') (h : wpList P ops Q rest (a.put o.dst v') w') : wpList P ops Q (o :: rest) a w := by
  refine wpList_plain hgd fun K hK => ?_
  unfold Oper.wp
  simp [execOp, ho, resolve, invoke, builtin, hd, hs, hr, Result.andThen]
  exact hK _ _ h
theorem step_copy_run {P : Program} {ops : Array Oper} {o : Oper} {a : Act} {w : World} {K : Act → World → Prop} {Q : Exit → Act → World → Prop} {E : Prop} (hgd : o.guard = none) (d s : Operand) (t t' : TypeId)
    (ho : o.op = .call { callee := .builtin .copy, args := #[d, s], argTypes := #[t, t'] }) (v u : Value) (hd : a.eval d = v) (hs : a.eval s = u) {v' : Value} {w' : World}
    (hr : (Builtin.copy_ #[t, t'] o.type #[v, u]).run P w = .ok v' w') (hK : K (a.put o.dst v') w') : if Region.wanted o (yielded ops a.tmps) = true then Oper.wp P o a w K Q else E := by
  rw [if_pos (by simp [Region.wanted, hgd])]
  unfold Oper.wp
  simp [execOp, ho, resolve, invoke, builtin, hd, hs, hr, Result.andThen]
  exact hK
end Go.Proofs.YtnacoplokjdglaaGreat

namespace Go.Proofs.YtnacoplokjdglaaGreat
open Go.Proofs Go.Shelf
def mulL_ren : Go.Shelf.Ren := ⟨fun | 212 => 139 | 263 => 153 | 264 => 154 | n => n, fun | 46 => 152 | 51 => 184 | 146 => 219 | 53 => 186 | 148 => 221 | n => n, fun | n => n⟩
theorem mulL : Go.Proofs.Lays.n212 Tryz.prog mulL_ren := {
  mixed := by kernel_rfl,
  f212 := Tryz.func139.trans (congrArg some (by kernel_rfl)),
  f263 := Tryz.func153.trans (congrArg some (by kernel_rfl)),
  f264 := Tryz.func154.trans (congrArg some (by kernel_rfl)),
  t46 := Tryz.underlying152,
  a46 := Tryz.isAgg152,
  z46 := Tryz.sizeOf152,
  v46 := Tryz.zeroValue152,
  t51 := Tryz.underlying184,
  a51 := Tryz.isAgg184,
  z51 := Tryz.sizeOf184,
  v51 := Tryz.zeroValue184,
  t53 := Tryz.underlying186,
  a53 := Tryz.isAgg186,
  z53 := Tryz.sizeOf186,
  v53 := Tryz.zeroValue186,
  t146 := Tryz.underlying219,
  a146 := Tryz.isAgg219,
  z146 := Tryz.sizeOf219,
  v146 := Tryz.zeroValue219,
  t148 := Tryz.underlying221,
  a148 := Tryz.isAgg221,
  z148 := Tryz.sizeOf221,
  v148 := Tryz.zeroValue221 }
end Go.Proofs.YtnacoplokjdglaaGreat

namespace Go.Proofs.YtnacoplokjdglaaGreat
open Go.RowKit Go.Maps
attribute [local go_sem] Oper.semAt_some

theorem Tryz.infoIntG : (Tryz.prog.info? 3).map (fun i => (i.zero, i.size, i.bytes)) = some (some (vi 0), 1, 8) := by kernel_rfl
theorem int_size : (Tryz.prog.info? 3).map (·.size) = some 1 := by kernel_rfl
theorem run_dropZ {b off n c k : Nat} (hk : k ≤ n) (w : World) : (Instr.slice 58 (.slice (some ⟨b, off, none⟩) n c) (some (.int .i64 k)) none none).run Tryz.prog w = .ok (sliced (some ⟨b, off, none⟩) k n c 1) w := by
  have hs : ∀ w, (sizeOf 3).run Tryz.prog w = .ok 1 w := fun w => by
    obtain ⟨i0, hi, _, hz1, _⟩ := info_parts Tryz.infoIntG
    simp [sizeOf, typeInfo, hi, hz1]
  have he : Tryz.prog.elem 58 = 3 := by kernel_rfl
  rw [run_slice_l w _ _ _ _ (by rw [he]; exact Tryz.underlying58) .i64 _ (by omega) (by omega), he, hs]
  simp [Result.andThen]
theorem run_takeZ {b off n c k : Nat} (hk : k ≤ c) (w : World) : (Instr.slice 58 (.slice (some ⟨b, off, none⟩) n c) none (some (.int .i64 k)) none).run Tryz.prog w = .ok (.slice (some ⟨b, off, none⟩) k c) w := by
  have hs : ∀ w, (sizeOf 3).run Tryz.prog w = .ok 1 w := fun w => by
    obtain ⟨i0, hi, _, hz1, _⟩ := info_parts Tryz.infoIntG
    simp [sizeOf, typeInfo, hi, hz1]
  have he : Tryz.prog.elem 58 = 3 := by kernel_rfl
  rw [run_slice_h w _ _ _ _ (by rw [he]; exact Tryz.underlying58) .i64 _ (by omega) (by omega), he, hs]
  simp [Result.andThen, sliced, Addr.add]
theorem run_makeZ (w : World) (n : Nat) (hn : n ≤ 1048576) : (Instr.makeSlice 58 (.int .i64 (n : Int)) (.int .i64 (n : Int))).run Tryz.prog w = .ok (.slice (some ⟨w.heap.size, 0, none⟩) n n) (w.alloc (.cells (List.replicate n (vi 0)).toArray 3)) := by
  obtain ⟨i, hi, h2⟩ := Option.map_eq_some_iff.1 Tryz.infoIntG
  simp only [Prod.mk.injEq] at h2
  obtain ⟨hz, hs, hb⟩ := h2
  have := run_makeSlice (P := Tryz.prog) w 58 3 i (vi 0) Tryz.underlying58 hi hz .i64 .i64 n n (by omega) (Int.le_refl _) (by rw [hs]; omega) (by rw [hb]; omega) (by omega)
  rw [this, hs]
  have e : madeCells (vi 0).cells ((n : Int).toNat * 1) = (List.replicate n (vi 0)).toArray := by
    apply Array.toList_inj.1
    rw [show (vi 0).cells = #[vi 0] from rfl, toList_madeCells_one]
    simp
  rw [e]; simp
def repC (n k : Nat) : List Value := List.replicate k (vi (-1)) ++ List.replicate (n - k) (vi 0)
theorem repC_splice {n k m : Nat} : splice (repC n k) k (List.replicate m (vi (-1))) = repC n (k + m) := by
  unfold splice repC
  rw [List.take_left' (by simp), List.length_replicate, ← List.drop_drop, List.drop_left' (by simp), List.drop_replicate, ← List.append_assoc, List.replicate_append_replicate, Nat.sub_sub]
theorem repC_at {n k j : Nat} (h : j < k) : (repC n k)[j]? = some (vi (-1)) := by
  unfold repC
  rw [List.getElem?_append_left (by simpa using h), List.getElem?_replicate, if_pos h]
theorem repC_len {n k : Nat} (h : k ≤ n) : (repC n k).length = n := by unfold repC; simp; omega
theorem sliced_rep (tb : Nat) {k n : Nat} (h : k < n) : sliced (some ⟨tb, 0, none⟩) k n n 1 = .slice (some ⟨tb, k, none⟩) (n - k) (n - k) := by
  have h1 : ¬ (n = k) := by omega
  simp [sliced, h1, Addr.add]
  omega

/-- A piece of what has been written, written behind it. -/
theorem rep_copy (tb n k : Nat) (W : World) (h1 : 1 ≤ k) (hk : k < n) (hb : W.heap[tb]? = some (.cells (repC n k).toArray 3)) :
    ∃ m w', 1 ≤ m ∧ k + m ≤ n ∧ (Builtin.copy_ #[58, 58] 3 #[.slice (some ⟨tb, k, none⟩) (n - k) (n - k), .slice (some ⟨tb, 0, none⟩) k n]).run Tryz.prog W = .ok (vi m) w' ∧ w'.heap[tb]? = some (.cells (repC n (k + m)).toArray 3) ∧ W.grownBy w' (some tb) ∧ w'.heap.size = W.heap.size := by
  have hm : Nat.min k (n - k) ≤ k ∧ k + Nat.min k (n - k) ≤ n ∧ 1 ≤ Nat.min k (n - k) := by simp only [Nat.min_def]; split <;> omega
  obtain ⟨w', hr, H⟩ := run_copyR (P := Tryz.prog) W 58 58 3 3 1 tb k (n - k) (n - k) (some ⟨tb, 0, none⟩) k n (List.replicate (Nat.min k (n - k)) (vi (-1))) _ 3
    Tryz.underlying58 int_size (by simp) hb
    ⟨_, rfl, fun j v hj => by
      rw [List.getElem?_replicate] at hj
      split at hj
      · cases hj
        rw [addr_add, cell_ofG hb]
        simp only [Nat.zero_add, List.getElem?_toArray]
        exact repC_at (by omega)
      · cases hj⟩ (by simp only [List.length_replicate, List.size_toArray]; rw [repC_len (by omega)]; omega) (by intro v hv; rw [(List.mem_replicate.1 hv).2]; rfl)
  refine ⟨Nat.min k (n - k), w', hm.2.2, hm.2.1, hr, ?_, H.out.2.1, H.out.2.2⟩
  have := H.out.1
  rw [repC_splice] at this
  exact this

set_option maxRecDepth 100000 in
set_option maxHeartbeats 4000000 in
theorem repeat_call (b n : Nat) (w : World) (hb : w.heap[b]? = some (.cells #[vi (-1)] 3)) (h1 : 1 ≤ n) (hn : n ≤ 400) :
    Calls Tryz.prog 119 #[.slice (some ⟨b, 0, none⟩) 1 1, vi n] w fun e w' => e = .returned (.slice (some ⟨w.heap.size, 0, none⟩) n n) ∧ w'.heap[w.heap.size]? = some (.cells (repC n n).toArray 3) ∧ Below w.heap.size w w' := by
  have hmul : ∀ W : World, Calls Tryz.prog 139 #[.int .u64 1, .int .u64 n] W fun e w' => e = .returned (.tuple #[.int .u64 0, .int .u64 n]) ∧ W = w' := fun W => by
    have h := Any.bits_Mul mulL 1 n (by omega) (by omega) W
    rw [show 1 * n / 18446744073709551616 = 0 by omega, show 1 * n % 18446744073709551616 = n by omega] at h
    exact h.mono fun _ _ h => ⟨h.1, h.2.symm⟩
  have hmk := run_makeZ w n (by omega)
  have hu1 : IntKind.u64.wrap (1 : Int) = 1 := by rw [IntKind.wrap_u64]; omega
  have hun : IntKind.u64.wrap (n : Int) = (n : Int) := by rw [IntKind.wrap_u64]; omega
  have hin : IntKind.i64.wrap (n : Int) = (n : Int) := IntWalk.i64_in _ (by omega)
  have k1 : decide ((n : Int) < 0) = false := decide_eq_false (by omega)
  have k2 : decide ((9223372036854775807 : Int) < (n : Int)) = false := decide_eq_false (by omega)
  have hbl : b < w.heap.size := (Array.getElem?_eq_some_iff.1 hb).1
  obtain ⟨w1, hr1, H1⟩ := run_copyR (P := Tryz.prog) (w.alloc (.cells (List.replicate n (vi 0)).toArray 3)) 58 58 3 3 1 w.heap.size 0 n n (some ⟨b, 0, none⟩) 1 1 [vi (-1)] _ 3
    Tryz.underlying58 int_size (by simp only [Nat.min_def, List.length_singleton]; split <;> omega) (alloc_atG _ _)
    ⟨_, rfl, fun j v hj => by
      have hj0 : j < 1 := (List.getElem?_eq_some_iff.1 hj).1
      obtain rfl : j = 0 := by omega
      rw [addr_add, cell_ofG ((Below.heap_alloc w _ b hbl).trans hb)]
      exact hj⟩ (by simp; omega) (by intro v hv; rw [List.mem_singleton.1 hv]; rfl)
  rw [show Nat.min 1 n = 1 from Nat.min_eq_left h1] at hr1
  have HB1 := Lib.hid (show w1.heap[w.heap.size]? = some (.cells (repC n 1).toArray 3) ∧ Below w.heap.size w w1 from by
    obtain ⟨a1, a2, a3⟩ := H1.out
    refine ⟨?_, a2.os, a2.tape, a2.output, by rw [a3]; simp, fun j hj => (a2.block j (by simp; omega) (by simp; omega)).trans (Below.heap_alloc _ _ _ hj)⟩
    have e : splice (List.replicate n (vi 0)).toArray.toList 0 [vi (-1)] = repC n 1 := by
      have := repC_splice (n := n) (k := 0) (m := 1)
      simpa [repC] using this
    rw [e] at a1
    exact a1)
  have HMU := Lib.hid hmul
  have HR1 := Lib.hid hr1
  clear hr1 H1 hmul
  go_enter Tryz.func119, Tryz.ntmps119
  go_wp2_with (first | (go_at_call 139; refine (HMU.out _).mono ?_; rintro e' w' ⟨rfl, rfl⟩) | (refine wpList_copy_run rfl _ _ _ _ rfl _ _ rfl rfl HR1.out ?_))
  clear HR1 hmk hbl hb
  go_loopw [8] (fun i wr => ∃ k : Nat, 1 ≤ k ∧ k ≤ n ∧ i = vi k ∧ Hid (wr.heap[w.heap.size]? = some (.cells (repC n k).toArray 3) ∧ Below w.heap.size w wr)) (fun i _ => n - (intOf i).toNat)
  case atStart => exact ⟨1, Nat.le_refl _, h1, rfl, HB1⟩
  case round =>
    obtain ⟨wj, rfl⟩ : ∃ wj : World, wj = wr := ⟨_, rfl⟩
    obtain ⟨k, hk1, hk, rfl, HJ⟩ := hrel
    by_cases hlt : k < n
    · have g1 : decide ((k : Int) < (n : Int)) = true := decide_eq_true (by omega)
      obtain ⟨m, w2, hm1, hm2, hr2, hb2, hg2, hs2⟩ := rep_copy (w.heap.size) n k wj.drew hk1 hlt HJ.out.1
      have hdr : ∀ W, (Instr.slice 58 (.slice (some ⟨w.heap.size, 0, none⟩) n n) (some (.int .i64 k)) none none).run Tryz.prog W = .ok (.slice (some ⟨w.heap.size, k, none⟩) (n - k) (n - k)) W := fun W => by rw [← sliced_rep (w.heap.size) hlt]; exact run_dropZ (by omega) W
      have htk : ∀ W, (Instr.slice 58 (.slice (some ⟨w.heap.size, 0, none⟩) n n) none (some (.int .i64 k)) none).run Tryz.prog W = .ok (.slice (some ⟨w.heap.size, 0, none⟩) k n) W := fun W => run_takeZ (by omega) W
      have hwk : IntKind.i64.wrap ((k : Int) + (m : Int)) = (k : Int) + (m : Int) := IntWalk.i64_in _ (by omega)
      have HR2 := Lib.hid hr2
      have HB2 := Lib.hid (show w2.heap[w.heap.size]? = some (.cells (repC n (k + m)).toArray 3) ∧ Below w.heap.size w w2 from ⟨hb2, by
        have hB := HJ.out.2
        exact ⟨hg2.os.trans hB.os, hg2.tape.trans hB.tape, hg2.output.trans hB.output, by rw [hs2]; exact hB.size, fun j hj => (hg2.block j (Nat.lt_of_lt_of_le hj hB.size) (fun e => by have := Option.some.inj e; omega)).trans (hB.block j hj)⟩⟩)
      clear hr2 hb2 hg2 hs2
      go_upto_region 9 with fail
      go_region_law (refine step_copy_run rfl _ _ 58 58 rfl _ _ (by simp [Act.eval, Act.put]) (by simp [Act.eval, Act.put]) HR2.out ?_)
      go_wp2_with fail
      refine ⟨⟨vi ((k : Int) + (m : Int)), _, _, _, _, _, _, _, _, _, _, _, _, _, ⟨k + m, by omega, hm2, by go_num, HB2⟩, rfl⟩, ?_⟩
      show n - (intOf (vi ((k : Int) + (m : Int)))).toNat < n - (intOf (vi (k : Int))).toNat
      simp only [intOf]; omega
    · have g1 : decide ((k : Int) < (n : Int)) = false := decide_eq_false (by omega)
      have HF := Lib.hid (show wj.heap[w.heap.size]? = some (.cells (repC n n).toArray 3) ∧ Below w.heap.size w wj from by
        have h := HJ.out
        rw [show k = n by omega] at h
        exact h)
      clear HJ
      go_wp2_with fail
      go_ret
      exact ⟨rfl, HF.out.1, HF.out.2⟩
end Go.Proofs.YtnacoplokjdglaaGreat

namespace Go.Proofs.YtnacoplokjdglaaGreat

def ArcT (T : List (List Int)) (u v : Nat) : Prop := ∃ l, T[u]? = some l ∧ (v : Int) ∈ l
end Go.Proofs.YtnacoplokjdglaaGreat

namespace Go.Proofs.YtnacoplokjdglaaGreat

def visB (d : Int) : Bool := decide (0 ≤ d)
theorem vis_set : ∀ (D : List Int) (i : Nat) (d x : Int), D[i]? = some x → x < 0 → 0 ≤ d → (D.set i d).countP visB = D.countP visB + 1
  | [], _, _, _, h, _, _ => by simp at h
  | y :: D, 0, d, x, h, hx, hd => by
    simp only [List.getElem?_cons_zero, Option.some.injEq] at h
    subst h
    have h1 : visB y = false := by unfold visB; exact decide_eq_false (by omega)
    have h2 : visB d = true := by unfold visB; exact decide_eq_true hd
    rw [List.set_cons_zero, List.countP_cons, List.countP_cons, h1, h2]; simp
  | y :: D, i + 1, d, x, h, hx, hd => by
    rw [List.set_cons_succ, List.countP_cons, List.countP_cons, vis_set D i d x (by simpa using h) hx hd]
    omega
/-- How far it is from each node to one, by some ways; -1: there is no way. -/
structure FarP (T : List (List Int)) (goal : Nat) (D : List Int) : Prop where
  len : D.length = T.length
  at_ : D[goal]? = some 0
  zero : ∀ v : Nat, D[v]? = some 0 → v = goal
  bnd : ∀ (v : Nat) d, D[v]? = some d → -1 ≤ d ∧ d < T.length
  step : ∀ (v : Nat) d, D[v]? = some d → 0 < d → ∃ w, ArcT T v w ∧ D[w]? = some (d - 1)
  back : ∀ (u v : Nat) d, ArcT T u v → D[v]? = some d → 0 ≤ d → ∃ e, D[u]? = some e ∧ 0 ≤ e
structure FarI (T : List (List Int)) (goal : Nat) (D : List Int) (q : List Nat) : Prop where
  len : D.length = T.length
  at_ : D[goal]? = some 0
  zero : ∀ v : Nat, D[v]? = some 0 → v = goal
  bnd : ∀ (v : Nat) d, D[v]? = some d → -1 ≤ d ∧ d < D.countP visB
  step : ∀ (v : Nat) d, D[v]? = some d → 0 < d → ∃ w, ArcT T v w ∧ D[w]? = some (d - 1)
  seen : ∀ v ∈ q, ∃ d, D[v]? = some d ∧ 0 ≤ d
  shut : ∀ (v : Nat) d, D[v]? = some d → 0 ≤ d → v ∈ q ∨ ∀ u, ArcT T u v → ∃ e, D[u]? = some e ∧ 0 ≤ e
theorem FarI.start (T : List (List Int)) (goal : Nat) (hg : goal < T.length) : FarI T goal ((List.replicate T.length (-1)).set goal 0) [goal] := by
  have hat : ∀ (v : Nat) d, ((List.replicate T.length (-1 : Int)).set goal 0)[v]? = some d → (v = goal ∧ d = 0) ∨ d = -1 := fun v d h => by
    by_cases hv : v = goal
    · subst hv
      rw [List.getElem?_set_self (by simpa using hg)] at h
      exact .inl ⟨rfl, (Option.some.inj h).symm⟩
    · rw [List.getElem?_set_ne (Ne.symm hv), List.getElem?_replicate] at h
      split at h
      · exact .inr (Option.some.inj h).symm
      · cases h
  have hcnt : ((List.replicate T.length (-1 : Int)).set goal 0).countP visB = 1 := by
    rw [vis_set _ goal 0 (-1) (by rw [List.getElem?_replicate, if_pos hg]) (by omega) (by omega)]
    have : (List.replicate T.length (-1 : Int)).countP visB = 0 := by
      rw [List.countP_replicate]; simp [visB]
    omega
  refine ⟨by simp, by rw [List.getElem?_set_self (by simpa using hg)], fun v h => ?_, fun v d h => ?_, fun v d h hd => ?_, fun v hv => ?_, fun v d h hd => ?_⟩
  · rcases hat v 0 h with ⟨h1, -⟩ | h1
    · exact h1
    · omega
  · rw [hcnt]; rcases hat v d h with ⟨-, rfl⟩ | rfl <;> omega
  · rcases hat v d h with ⟨-, rfl⟩ | rfl <;> omega
  · rw [List.mem_singleton.1 hv]
    exact ⟨0, by rw [List.getElem?_set_self (by simpa using hg)], Int.le_refl _⟩
  · rcases hat v d h with ⟨rfl, -⟩ | rfl
    · exact .inl (by simp)
    · omega
/-- One more is found. -/
theorem FarI.push {T : List (List Int)} {goal : Nat} {D : List Int} {q : List Nat} (h : FarI T goal D q) {x u : Nat} {dx du : Int} (hx : x ∈ q) (hdx : D[x]? = some dx) (hu : ArcT T u x) (hdu : D[u]? = some du) (hneg : du < 0) : FarI T goal (D.set u (dx + 1)) (q ++ [u]) ∧ (D.set u (dx + 1)).countP visB = D.countP visB + 1 := by
  have hux : u ≠ x := fun e => by
    subst e
    obtain ⟨d, hd, h0⟩ := h.seen u hx
    rw [hdu] at hd; cases hd; omega
  have hxd : 0 ≤ dx := by
    obtain ⟨d, hd, h0⟩ := h.seen x hx
    rw [hdx] at hd; cases hd; exact h0
  have hul : u < D.length := (List.getElem?_eq_some_iff.1 hdu).1
  have hcnt := vis_set D u (dx + 1) du hdu hneg (by omega)
  have keep : ∀ (v : Nat) d, D[v]? = some d → 0 ≤ d → (D.set u (dx + 1))[v]? = some d := fun v d hv hd => by
    have : v ≠ u := fun e => by subst e; rw [hdu] at hv; cases hv; omega
    rw [List.getElem?_set_ne (Ne.symm this)]; exact hv
  have hx' : (D.set u (dx + 1))[x]? = some dx := keep x dx hdx hxd
  have hu' : (D.set u (dx + 1))[u]? = some (dx + 1) := List.getElem?_set_self hul
  have old : ∀ (v : Nat) d, (D.set u (dx + 1))[v]? = some d → (v = u ∧ d = dx + 1) ∨ (v ≠ u ∧ D[v]? = some d) := fun v d hv => by
    by_cases e : v = u
    · subst e; rw [hu'] at hv; exact .inl ⟨rfl, (Option.some.inj hv).symm⟩
    · rw [List.getElem?_set_ne (Ne.symm e)] at hv; exact .inr ⟨e, hv⟩
  refine ⟨⟨by simp [h.len], keep _ _ h.at_ (Int.le_refl _), fun v hv => ?_, fun v d hv => ?_, fun v d hv hd => ?_, fun v hv => ?_, fun v d hv hd => ?_⟩, hcnt⟩
  · rcases old v 0 hv with ⟨-, h1⟩ | ⟨-, hv⟩
    · omega
    · exact h.zero v hv
  · rw [hcnt]
    rcases old v d hv with ⟨-, rfl⟩ | ⟨-, hv⟩
    · have := (h.bnd x dx hdx).2; omega
    · have := h.bnd v d hv; omega
  · rcases old v d hv with ⟨rfl, rfl⟩ | ⟨-, hv⟩
    · exact ⟨x, hu, by rw [hx']; congr 1; omega⟩
    · obtain ⟨w, hw, hdw⟩ := h.step v d hv hd
      exact ⟨w, hw, keep w _ hdw (by omega)⟩
  · rcases List.mem_append.1 hv with hv | hv
    · obtain ⟨d, hd, h0⟩ := h.seen v hv
      exact ⟨d, keep v d hd h0, h0⟩
    · rw [List.mem_singleton.1 hv]
      exact ⟨_, hu', by omega⟩
  · rcases old v d hv with ⟨rfl, rfl⟩ | ⟨-, hv⟩
    · exact .inl (by simp)
    · rcases h.shut v d hv hd with h1 | h1
      · exact .inl (List.mem_append_left _ h1)
      · refine .inr (fun w hw => ?_)
        obtain ⟨e, he, h0⟩ := h1 w hw
        exact ⟨e, keep w e he h0, h0⟩
/-- One is done. -/
theorem FarI.pop {T : List (List Int)} {goal : Nat} {D : List Int} {q : List Nat} {x : Nat} (h : FarI T goal D (x :: q)) (hx : ∀ u, ArcT T u x → ∃ e, D[u]? = some e ∧ 0 ≤ e) : FarI T goal D q :=
  ⟨h.len, h.at_, h.zero, h.bnd, h.step, fun v hv => h.seen v (List.mem_cons_of_mem _ hv), fun v d hv hd => by
    rcases h.shut v d hv hd with h1 | h1
    · rcases List.mem_cons.1 h1 with rfl | h1
      · exact .inr hx
      · exact .inl h1
    · exact .inr h1⟩
theorem FarI.done {T : List (List Int)} {goal : Nat} {D : List Int} (h : FarI T goal D []) : FarP T goal D :=
  ⟨h.len, h.at_, h.zero, fun v d hv => by
    have h1 := h.bnd v d hv
    have h2 := List.countP_le_length (p := visB) (l := D)
    have h3 := h.len
    omega, h.step, fun u v d hu hv hd => by
    rcases h.shut v d hv hd with h1 | h1
    · cases h1
    · exact h1 u hu⟩
/-- Whoever gets to the node is told so. -/
theorem FarP.reach {T : List (List Int)} {goal : Nat} {D : List Int} (h : FarP T goal D) {u v : Nat} (hw : Way (ArcT T) u v) {d : Int} (hv : D[v]? = some d) (hd : 0 ≤ d) : ∃ e, D[u]? = some e ∧ 0 ≤ e := by
  induction hw with
  | one h1 => exact h.back _ _ d h1 hv hd
  | more h1 _ ih =>
    obtain ⟨e, he, h0⟩ := ih hv
    exact h.back _ _ e h1 he h0
end Go.Proofs.YtnacoplokjdglaaGreat

namespace Go.Proofs.YtnacoplokjdglaaGreat
open Go.RowKit Go.Maps
/-- A queue in memory: a part of a block of ints, from N on. -/
def Que (N : Nat) (w : World) (v : Value) (q : List Int) : Prop :=
  ∃ b off cap cur, v = .slice (some ⟨b, off, none⟩) q.length cap ∧ q.length ≤ cap ∧ cap ≤ maxLen ∧ N ≤ b ∧ w.heap[b]? = some (.cells cur 3) ∧ off + cap ≤ cur.size ∧ ∀ j x, q[j]? = some x → cur[off + j]? = some (vi x)
theorem Que.later {N : Nat} {A B : World} {v : Value} {q : List Int} (h : Que N A v q) (hb : Below A.heap.size A B) : Que N B v q := by
  obtain ⟨b, off, cap, cur, h1, h2, h3, h4, h5, h6, h7⟩ := h
  exact ⟨b, off, cap, cur, h1, h2, h3, h4, (hb.block b (Array.getElem?_eq_some_iff.1 h5).1).trans h5, h6, h7⟩
theorem Que.kept {N o : Nat} {A B : World} {v : Value} {q : List Int} (h : Que N A v q) (hg : A.grownBy B (some o)) (ho : o < N) : Que N B v q := by
  obtain ⟨b, off, cap, cur, h1, h2, h3, h4, h5, h6, h7⟩ := h
  exact ⟨b, off, cap, cur, h1, h2, h3, h4, (hg.block b (Array.getElem?_eq_some_iff.1 h5).1 (fun e => by have := Option.some.inj e; omega)).trans h5, h6, h7⟩
theorem Que.cell {N : Nat} {w : World} {v : Value} {q : List Int} (h : Que N w v q) : ∃ b off cap, v = .slice (some ⟨b, off, none⟩) q.length cap ∧ q.length ≤ cap ∧ ∀ j x, q[j]? = some x → w.cell? ⟨b, off + j, none⟩ = some (vi x) := by
  obtain ⟨b, off, cap, cur, h1, h2, h3, h4, h5, h6, h7⟩ := h
  exact ⟨b, off, cap, h1, h2, fun j x hj => by rw [cell_ofG h5]; exact h7 j x hj⟩
theorem Que.new (w : World) (x : Int) : Que w.heap.size (w.alloc (.cells #[vi x] 3)) (.slice (some ⟨w.heap.size, 0, none⟩) 1 1) [x] :=
  ⟨w.heap.size, 0, 1, #[vi x], rfl, Nat.le_refl _, by decide, Nat.le_refl _, alloc_atG _ _, by simp, fun j y hj => by
    have hj0 : j < 1 := (List.getElem?_eq_some_iff.1 hj).1
    obtain rfl : j = 0 := by omega
    simp at hj; subst hj; rfl⟩
/-- The first one is taken. -/
theorem Que.pop {N : Nat} {w : World} {v : Value} {x : Int} {q : List Int} (h : Que N w v (x :: q)) : ∃ v', (∀ W, (Instr.slice 58 v (some (.int .i64 1)) none none).run Tryz.prog W = .ok v' W) ∧ Que N w v' q := by
  obtain ⟨b, off, cap, cur, rfl, h2, h3, h4, h5, h6, h7⟩ := h
  have hr := fun W => run_dropZ (b := b) (off := off) (n := (x :: q).length) (c := cap) (k := 1) (by simp) W
  rw [List.length_cons] at h2
  by_cases hc : cap = 1
  · refine ⟨.slice (some ⟨b, off, none⟩) 0 0, fun W => ?_, b, off, 0, cur, ?_, by omega, by simp [maxLen], h4, h5, by omega, fun j y hj => ?_⟩
    · have h1 := hr W
      subst hc
      have e : sliced (some ⟨b, off, none⟩) 1 (x :: q).length 1 1 = .slice (some ⟨b, off, none⟩) 0 0 := by
        have : q.length = 0 := by omega
        simp [sliced, this]
      rw [e] at h1
      exact h1
    · have : q.length = 0 := by omega
      rw [this]
    · have := (List.getElem?_eq_some_iff.1 hj).1
      omega
  · refine ⟨.slice (some ⟨b, off + 1, none⟩) q.length (cap - 1), fun W => ?_, b, off + 1, cap - 1, cur, rfl, by omega, by omega, h4, h5, by omega, fun j y hj => ?_⟩
    · have h1 := hr W
      have e : sliced (some ⟨b, off, none⟩) 1 (x :: q).length cap 1 = .slice (some ⟨b, off + 1, none⟩) q.length (cap - 1) := by
        simp [sliced, hc, Addr.add]
      rw [e] at h1
      exact h1
    · have := h7 (j + 1) y (by simpa using hj)
      rw [show off + 1 + j = off + (j + 1) by omega]
      exact this
/-- One more at the end: the run. -/
theorem que_run {N : Nat} {w : World} {v : Value} {q : List Int} (h : Que N w v q) (g : Nat) (x : Int) (hx : w.heap[g]? = some (.cells #[vi x] 3)) (hl : q.length + 1 ≤ 1048576) (hN : N ≤ w.heap.size) :
    ∃ v' w' b, (Builtin.append_ #[58, 58] 58 #[v, .slice (some ⟨g, 0, none⟩) 1 1]).run Tryz.prog w = .ok v' w' ∧ Que N w' v' (q ++ [x]) ∧ w.grownBy w' (some b) ∧ N ≤ b := by
  obtain ⟨b, off, cap, cur, rfl, h2, h3, h4, h5, h6, h7⟩ := h
  obtain ⟨i, hi, hz, hs, hb⟩ := info_parts Tryz.infoIntG
  have hsrc : Go.Src Tryz.prog i.size 58 (.slice (some ⟨g, 0, none⟩) 1 1) 1 [vi x] w := Go.Src.ofSlice w Tryz.underlying58 ⟨g, 0, none⟩ 1 1 [vi x] (by rw [hs]; rfl) (fun j u hj => by
    have hj0 : j < 1 := (List.getElem?_eq_some_iff.1 hj).1
    obtain rfl : j = 0 := by omega
    rw [addr_add, cell_ofG hx]; exact hj) (by intro u hu; rw [List.mem_singleton.1 hu]; rfl)
  by_cases hfit : q.length + 1 ≤ cap
  · have hrun := run_append_room_src (P := Tryz.prog) w 58 58 58 3 i Tryz.underlying58 hi b off q.length cap _ 1 [vi x] hsrc hfit
      (fun j hj => by rw [cell_ofG h5, hs]; simp at hj; subst hj; simp; omega) (fun j hj => by simp [World.frozen?, h5])
    refine ⟨_, _, b, hrun, ⟨b, off, cap, _, by simp, by simpa using hfit, h3, h4, setCells_blockG b 3 (0, 0) [vi x] (off + q.length * i.size) w cur h5 (by rw [hs]; simp; omega), ?_, ?_⟩, setCells_grownG b _ _ w, h4⟩
    · have : (splice cur.toList (off + q.length * i.size) [vi x]).length = cur.toList.length := length_splice _ _ _ (by rw [hs]; simp; omega)
      simp only [List.size_toArray, this]; simpa using h6
    · intro j y hj
      rw [hs, Nat.mul_one]
      have hjl : j < q.length + 1 := by have := (List.getElem?_eq_some_iff.1 hj).1; simpa using this
      rw [List.getElem?_toArray]
      unfold splice
      by_cases hjq : j < q.length
      · rw [List.getElem?_append_left hjq] at hj
        rw [List.getElem?_append_left (by simp; omega), List.getElem?_take_of_lt (by omega)]
        simpa using h7 j y hj
      · obtain rfl : j = q.length := by omega
        have e : y = x := by simpa using hj.symm
        subst e
        have ht : (List.take (off + q.length) cur.toList).length = off + q.length := by simp; omega
        rw [List.getElem?_append_right (by omega), ht]
        simp
  · have hce : cap = q.length := by omega
    have hold : (Builtin.firstCells i.size q.length (.slice (some ⟨b, off, none⟩) q.length cap)).run Tryz.prog w.drew = .ok (q.map vi).toArray w.drew :=
      run_firstCells_some w.drew i.size q.length ⟨b, off, none⟩ q.length cap (q.map vi) (by rw [hs]; simp) (fun j u hu => by
        rw [List.getElem?_map] at hu
        obtain ⟨y, hy, rfl⟩ := Option.map_eq_some_iff.1 hu
        rw [addr_add, show w.drew.cell? _ = w.cell? _ from rfl, cell_ofG h5]
        exact h7 j y hy)
    have hrun := run_append_grow_src (P := Tryz.prog) w 58 58 58 3 i (vi 0) Tryz.underlying58 hi hz (some ⟨b, off, none⟩) q.length cap (q.map vi) hold _ 1 [vi x] hsrc (by omega) (by omega) (growslice_fits (by omega) (by rw [hb]; omega))
    have hge := grownCap_ge w (q.length + 1) cap 3
    have hcm := grownCap_le_maxLen w (q.length + 1) cap 3 (by unfold maxLen; omega)
    refine ⟨_, _, w.heap.size, hrun, ⟨w.heap.size, 0, _, _, by simp, by simpa using hge, hcm, hN, alloc_atG w.drew _, ?_, fun j y hj => ?_⟩, ⟨rfl, rfl, rfl, by simp, fun j hj _ => Below.heap_alloc w.drew _ j hj⟩, hN⟩
    · rw [Array.size_append, size_zeroCells]
      have : (vi 0).cells.size = 1 := rfl
      simp [this]; omega
    · have hjl : j < q.length + 1 := by have := (List.getElem?_eq_some_iff.1 hj).1; simpa using this
      rw [Nat.zero_add, Array.getElem?_append_left (by simpa using hjl), List.getElem?_toArray]
      have : (q.map vi ++ [vi x])[j]? = ((q ++ [x]).map vi)[j]? := by simp
      rw [this, List.getElem?_map, hj]; rfl
/-- .. for the walk. -/
theorem wpList_que {w : World} {ops : Array Oper} {rest : List Oper} {o : Oper} {a : Act} {Q : Exit → Act → World → Prop} (hgd : o.guard = none) (s x : Operand)
    (ho : o.op = .call { callee := .builtin .append, args := #[s, x], argTypes := #[58, 58] }) (hty : o.type = 58)
    {N : Nat} {v : Value} {q : List Int} (hv : a.eval s = v) (h : Que N w v q) (g : Nat) (y : Int) (hx : a.eval x = .slice (some ⟨g, 0, none⟩) 1 1) (hg : w.heap[g]? = some (.cells #[vi y] 3)) (hl : q.length + 1 ≤ 1048576) (hN : N ≤ w.heap.size)
    (hK : ∀ v' w' b, Que N w' v' (q ++ [y]) → w.grownBy w' (some b) → N ≤ b → wpList Tryz.prog ops Q rest (a.put o.dst v') w') : wpList Tryz.prog ops Q (o :: rest) a w := by
  obtain ⟨v', w', b, hrun, h1, h2, h3⟩ := que_run h g y hg hl hN
  refine wpList_plain hgd fun K hK' => ?_
  unfold Oper.wp
  simp [execOp, ho, resolve, invoke, builtin, hv, hx, hty, hrun, Result.andThen]
  exact hK' _ _ (hK v' w' b h1 h2 h3)

/-- The arcs of a table, turned. -/
def revA : List (List Int) → Nat → List (Int × Int)
  | [], _ => []
  | l :: T, i => l.map (fun v => (v, (i : Int))) ++ revA T (i + 1)
theorem revA_take : ∀ (T : List (List Int)) (i k : Nat) (l : List Int), T[k]? = some l → revA (T.take (k + 1)) i = revA (T.take k) i ++ l.map (fun v => (v, ((i + k : Nat) : Int)))
  | [], _, _, _, h => by simp at h
  | m :: T, i, 0, l, h => by
    simp only [List.getElem?_cons_zero, Option.some.injEq] at h
    subst h
    simp [revA]
  | m :: T, i, k + 1, l, h => by
    rw [List.take_succ_cons, List.take_succ_cons, revA, revA, revA_take T (i + 1) k l (by simpa using h), List.append_assoc]
    simp [Nat.add_assoc, Nat.add_comm 1 k]
theorem revA_mem : ∀ (T : List (List Int)) (i : Nat) (v u : Int), (v, u) ∈ revA T i ↔ ∃ (j : Nat) (l : List Int), T[j]? = some l ∧ u = ((i + j : Nat) : Int) ∧ v ∈ l
  | [], _, _, _ => by simp [revA]
  | m :: T, i, v, u => by
    rw [revA, List.mem_append, revA_mem T (i + 1)]
    constructor
    · rintro (h | ⟨j, l, h1, h2, h3⟩)
      · obtain ⟨y, hy, he⟩ := List.mem_map.1 h
        simp only [Prod.mk.injEq] at he
        exact ⟨0, m, rfl, by rw [← he.2]; simp, by rw [← he.1]; exact hy⟩
      · exact ⟨j + 1, l, by simpa using h1, by rw [h2]; congr 1; omega, h3⟩
    · rintro ⟨j, l, h1, h2, h3⟩
      cases j with
      | zero =>
        simp only [List.getElem?_cons_zero, Option.some.injEq] at h1
        subst h1
        exact .inl (List.mem_map.2 ⟨v, h3, by rw [h2]; simp⟩)
      | succ j => exact .inr ⟨j, l, by simpa using h1, by rw [h2]; congr 1; omega, h3⟩
theorem revA_len (M : Nat) : ∀ (T : List (List Int)) (i : Nat), (∀ l ∈ T, l.length ≤ M) → (revA T i).length ≤ T.length * M
  | [], _, _ => by simp [revA]
  | l :: T, i, h => by
    rw [revA, List.length_append, List.length_map, List.length_cons, Nat.add_mul]
    have h1 := revA_len M T (i + 1) fun l hl => h l (List.mem_cons_of_mem _ hl)
    have h2 := h l (List.mem_cons_self ..)
    omega
theorem raw_push {n : Nat} {A : List (Int × Int)} {u v : Nat} (hu : u < n) (hv : v < n) : ((List.range n).map (rawRow n A)).set u (rawRow n A u ++ [(v : Int)]) = (List.range n).map (rawRow n (A ++ [((u : Int), (v : Int))])) := by
  have h := raw_step (n := n) (arcs := A ++ [((u : Int), (v : Int))]) (k := A.length) (u := u) (v := v) (by simp) hu hv
  rw [List.take_left' rfl, List.take_of_length_le (by simp)] at h
  exact h
/-- From where one gets to a node. -/
def fromT (n : Nat) (T : List (List Int)) : List (List Int) := (List.range n).map (rawRow n (revA T 0))
theorem fromT_mem {T : List (List Int)} {x : Nat} {l : List Int} (hl : (fromT T.length T)[x]? = some l) (hx : x < T.length) (hT : ∀ m ∈ T, ∀ y ∈ m, 0 ≤ y ∧ y < T.length) : ∀ u : Int, u ∈ l ↔ ∃ j : Nat, u = j ∧ ArcT T j x := by
  intro u
  unfold fromT at hl
  rw [List.getElem?_map, List.getElem?_range hx] at hl
  cases hl
  rw [rawRow_mem, revA_mem]
  constructor
  · rintro ⟨⟨j, l, h1, h2, h3⟩, -⟩
    exact ⟨j, by simpa using h2, l, h1, h3⟩
  · rintro ⟨j, rfl, l, h1, h3⟩
    have := (List.getElem?_eq_some_iff.1 h1).1
    exact ⟨⟨j, l, h1, by simp, h3⟩, hx, by omega, by omega⟩
end Go.Proofs.YtnacoplokjdglaaGreat
