/- (*bits.Reader).Left, fail, Get. -/
import Derived.Test.YtdkkpkgfiodlbaaBtBytes
import Derived.Test.YtdkkpkgfiodlbaaBtRd
namespace Go.Proofs.Ytdkkpkgfiodlbaa
open Go.RowKit
/-- A reader in memory. -/
def RdrS (base p : Nat) (s : Rd) (W : World) : Prop := base ≤ p ∧ ∃ v bs at', W.heap[p]? = some (.cells #[v, vi (at' : Nat), vi s.bad] 155) ∧ OwU base W v bs ∧ (∀ b ∈ bs, b < 256) ∧ bs.length ≤ 1048576 ∧ at' ≤ 8 * bs.length ∧ (bitsOf bs).drop at' = s.rest
def leftS (s : Rd) : Nat := if s.bad ≠ 0 then 0 else s.rest.length
theorem RdrS.later {base p : Nat} {s : Rd} {A B : World} (h : RdrS base p s A) (hb : Below A.heap.size A B) : RdrS base p s B := by
  obtain ⟨hp, v, bs, at', h1, h2, r⟩ := h
  exact ⟨hp, v, bs, at', (hb.block p (Array.getElem?_eq_some_iff.1 h1).1).trans h1, own_below h2 hb, r⟩
theorem RdrS.drewN {base p : Nat} {s : Rd} {A : World} (h : RdrS base p s A) (n : Nat) : RdrS base p s (A.drewN n) := h
theorem RdrS.lt {base p : Nat} {s : Rd} {A : World} (h : RdrS base p s A) : p < A.heap.size := by
  obtain ⟨hp, v, bs, at', h1, _⟩ := h
  exact (Array.getElem?_eq_some_iff.1 h1).1
theorem gro_refl (w : World) (r : Option Nat) : w.grownBy w r := ⟨rfl, rfl, rfl, Nat.le_refl _, fun _ _ _ => rfl⟩
theorem gro_trans {a b c : World} {r : Option Nat} (h : a.grownBy b r) (k : b.grownBy c r) : a.grownBy c r :=
  ⟨k.os.trans h.os, k.tape.trans h.tape, k.output.trans h.output, Nat.le_trans h.size k.size, fun i hi hne => (k.block i (Nat.lt_of_lt_of_le hi h.size) hne).trans (h.block i hi hne)⟩
theorem gro_drewN {a w : World} {r : Option Nat} (h : a.grownBy w r) (n : Nat) : a.grownBy (w.drewN n) r := ⟨h.os, h.tape, h.output, h.size, h.block⟩
theorem gro_setP {a w : World} {p o : Nat} (h : a.grownBy w (some p)) (v : Value) : a.grownBy (w.setCell ⟨p, o, none⟩ v) (some p) :=
  ⟨h.os, h.tape, h.output, by simpa [World.setCell] using h.size, fun i hi hne => (Below.heap_setCell w ⟨p, o, none⟩ v i (fun e => hne (by rw [e]))).trans (h.block i hi hne)⟩

def LeftQ (s : Rd) (w : World) (e : Ending) (w' : World) : Prop := e = .returned (vi (leftS s)) ∧ ∃ n, w' = w.drewN n
set_option maxRecDepth 100000 in
theorem left_call {base p : Nat} {s : Rd} (w : World) (h : RdrS base p s w) :
    Calls Try.prog 81 #[.pointer (some ⟨p, 0, none⟩)] w (LeftQ s w) := by
  obtain ⟨hbp, v, bs, at', hp, ho, hby, hl, hat, hr⟩ := h
  obtain ⟨a, c, rfl⟩ := Bt.own_shape ho
  have HE : s.rest.length = 8 * bs.length - at' := by rw [← hr]; simp [bitsOf_length]
  have HE := Lib.hid HE
  have c0 : w.cell? ⟨p, 0, none⟩ = some (.slice a bs.length c) := by rw [Bt.cell_of hp]; rfl
  have c1 : w.cell? ⟨p, 1, none⟩ = some (vi (at' : Nat)) := by rw [Bt.cell_of hp]; rfl
  have c2 : w.cell? ⟨p, 2, none⟩ = some (vi s.bad) := by rw [Bt.cell_of hp]; rfl
  clear hp ho hby hr
  by_cases hb : s.bad = 0
  · have hb1 : (s.bad != 0) = false := by simp [hb]
    have HB := Lib.hid hb
    clear hb
    have hw1 : IntKind.i64.wrap (8 * (bs.length : Int)) = 8 * (bs.length : Int) := IntWalk.i64_in _ (by omega)
    have hw2 : IntKind.i64.wrap (8 * (bs.length : Int) - at') = 8 * (bs.length : Int) - at' := IntWalk.i64_in _ (by omega)
    go_enter Try.func81, Try.ntmps81
    go_wp2_with fail
    go_quiet (fail)
    go_wp2_with fail
    go_ret
    refine ⟨congrArg Ending.returned (congrArg (Value.int IntKind.i64) ?_), _, rfl⟩
    rw [leftS, if_neg (by simp [HB.out]), HE.out]
    omega
  · have hb1 : (s.bad != 0) = true := by simp [hb]
    have HB := Lib.hid hb
    clear hb
    go_enter Try.func81, Try.ntmps81
    go_wp2_with fail
    go_ret
    refine ⟨congrArg Ending.returned (congrArg (Value.int IntKind.i64) ?_), 0, rfl⟩
    rw [leftS, if_pos HB.out]; rfl

def FailQ (base p : Nat) (s : Rd) (x : Int) (w : World) (e : Ending) (w' : World) : Prop := e = .returned (.int .u64 0) ∧ RdrS base p ⟨s.rest, if s.bad = 0 then x else s.bad⟩ w' ∧ w.grownBy w' (some p)
set_option maxRecDepth 100000 in
theorem fail_call {base p : Nat} {s : Rd} (x : Int) (w : World) (h : RdrS base p s w) :
    Calls Try.prog 83 #[.pointer (some ⟨p, 0, none⟩), vi x] w (FailQ base p s x w) := by
  have HW := Lib.hid h
  obtain ⟨hbp, v, bs, at', hp, ho, hby, hl, hat, hr⟩ := h
  have HP := Lib.hid hp
  have HO := Lib.hid ho
  have HR := Lib.hid hr
  have HBY := Lib.hid hby
  have c2 : w.cell? ⟨p, 2, none⟩ = some (vi s.bad) := by rw [Bt.cell_of hp]; rfl
  have f2 : w.frozen? ⟨p, 2, none⟩ = false := Bt.free_of hp 2
  clear hp ho hby hr
  by_cases hb : s.bad = 0
  · have hb1 : (s.bad == 0) = true := by simp [hb]
    have HB := Lib.hid hb
    clear hb
    go_enter Try.func83, Try.ntmps83
    go_wp2_with fail
    go_ret
    refine ⟨rfl, ⟨hbp, v, bs, at', ?_, ?_, HBY.out, hl, hat, HR.out⟩, gro_setP (gro_refl _ _) _⟩
    · rw [if_pos HB.out]; exact Bt.cells_set _ HP.out
    · refine Bt.own_frame HO.out (fun g hg => Below.heap_setCell _ _ _ _ (fun e => ?_))
      subst e
      rcases HO.out.2 with ⟨h1, _⟩ | ⟨g', cap, cur, h1, h2, h3, _⟩
      · rw [h1] at hg; cases hg
      · rw [h1] at hg; simp only [Value.ownBlock, Option.some.injEq] at hg; subst hg; rw [HP.out] at h3; cases h3
  · have hb1 : (s.bad == 0) = false := by simp [hb]
    have HB := Lib.hid hb
    clear hb
    go_enter Try.func83, Try.ntmps83
    go_wp2_with fail
    go_ret
    refine ⟨rfl, ?_, gro_refl _ _⟩
    rw [if_neg HB.out]; exact HW.out
end Go.Proofs.Ytdkkpkgfiodlbaa