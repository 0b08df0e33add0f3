import Derived.Test.YtkobpjndkgjcjaaShrinkE
namespace Go.Proofs.Ytkobpjndkgjcjaa
open Go.RowKit

theorem enter_of {f : FuncId} {fn : Func} (hf : Try.prog.funcs[f]? = some fn) (hn : (fn.name == "runtime.NumGoroutine") = false) (hb : fn.body.isNone = false) (args : Array Value) (w : World) :
    (callFunc f args).run Try.prog w = .ok (.enter f args) w := by
  have hb' : ¬ fn.body = none := fun e => by rw [e] at hb; cases hb
  have hn' : ¬ fn.name = "runtime.NumGoroutine" := fun e => by rw [e] at hn; simp at hn
  simp [callFunc, hf, hn', hb']

theorem bad_of_pure (B : Nat) (w0 : World) (fb : FuncId) (cp : Array Value) (budget : Int) (p : List Int → Bool) (henter : ∀ args w, (callFunc fb args).run Try.prog w = .ok (.enter fb args) w)
    (hcall : ∀ w v xs, Below B w0 w → B ≤ w.heap.size → OwI B w v xs → xs.length ≤ 1048576 →
      Calls Try.prog fb (#[v] ++ cp) w fun e w' => e = .returned (.bool (p xs)) ∧ Over B v.ownBlock w w' ∧ Below B w w') :
    Bad B fb cp budget (fun (_ : Int × Unit) w => Below B w0 w) (fun s xs => (p xs, s)) :=
  ⟨henter, fun _ _ _ h k => h.trans k, fun _ _ w v xs _ _ hI hB ho hl => (hcall w v xs hI hB ho hl).mono fun _ _ ⟨h1, h2, h3⟩ => ⟨h1, hI.trans h3, h2⟩⟩

theorem over_refl (B : Nat) (r : Option Nat) (w : World) : Over B r w w := ⟨rfl, rfl, rfl, Nat.le_refl _, fun _ _ _ _ => rfl⟩

theorem head1_call (w : World) (v : Value) (xs : List Int) (hv : RdI w v xs) :
    Calls Try.prog 13 #[v] w fun e w' => e = .returned (.bool (hasI xs 3)) ∧ w = w' := by
  have HV := Lib.hid hv
  clear hv
  go_enter Try.func13, Try.ntmps13
  go_wp2_with (go_at_call 14; refine (has_any _ _ _ _ HV.out).mono ?_; rintro e w' ⟨rfl, rfl⟩)
  go_ret
  exact ⟨rfl, rfl⟩

theorem head1_bad (w : World) : Bad w.heap.size 13 #[] 100 (fun (_ : Int × Unit) x => Below w.heap.size w x) (fun s xs => (hasI xs 3, s)) :=
  bad_of_pure _ w _ _ _ (fun xs => hasI xs 3) (enter_of Try.func13 (by kernel_rfl) (by kernel_rfl)) fun x v xs _ _ ho _ =>
    (head1_call x v xs ho.rd).mono fun e w' ⟨h1, h2⟩ => by subst h2; exact ⟨h1, over_refl _ _ _, Below.refl _ _⟩

theorem head_less : lessM (fun (s : Unit) xs => (hasI xs 3, s)) 100 [1, 2, 3, 4] () = ([3], 6, ()) := by decide +kernel

set_option maxHeartbeats 400000 in
theorem head_any (w : World) : Calls Try.prog 6 #[] w fun e w' => e = .returned (.bool true) ∧ Below w.heap.size w w' := by
  go_enter Try.func6, Try.ntmps6
  go_wp2_with fail
  have hR : RdI (w.alloc (.cells #[.int .i64 1, .int .i64 2, .int .i64 3, .int .i64 4] 3)) (.slice (some ⟨w.heap.size, 0, none⟩) 4 4) [1, 2, 3, 4] := by
    refine ⟨_, 4, 4, rfl, rfl, by simp, Nat.le_refl _, (fun h => by cases h), fun j x hj => ⟨_, _, rfl, ?_⟩⟩
    rw [World.cell?_alloc_at _ _ _ _ rfl]
    match j, hj with
    | 0, hj => simpa using hj
    | 1, hj => simpa using hj
    | 2, hj => simpa using hj
    | 3, hj => simpa using hj
    | j + 4, hj => simp at hj
  have hb0 : Below w.heap.size w (w.alloc (.cells #[.int .i64 1, .int .i64 2, .int .i64 3, .int .i64 4] 3)) := (Below.refl _ _).alloc (Nat.le_refl _) _
  generalize w.alloc (.cells #[.int .i64 1, .int .i64 2, .int .i64 3, .int .i64 4] 3) = W at *
  have HB := Lib.hid hb0
  refine (less_any _ _ _ [1, 2, 3, 4] 100 () _ (head1_bad _) hR (by simp) (Below.refl _ _) (by omega)).mono ?_
  clear hb0 hR
  rw [head_less]
  rintro e w1 ⟨v1, rfl, ho, hb1⟩
  obtain ⟨a, len, cap, rfl, hlen, -, -, -, hc⟩ := ho.rd
  obtain ⟨b, off, rfl, hcell⟩ := hc 0 3 rfl
  simp only [List.length_cons, List.length_nil] at hlen
  subst hlen
  have H1 := Lib.hid hb1
  simp only [Nat.add_zero] at hcell
  clear hc ho hb1
  go_wp2
  go_ret
  exact ⟨rfl, HB.out.trans (H1.out.mono HB.out.size)⟩

theorem parts1_call (w : World) (v u : Value) (xs ys : List Int) (least : Int) (b0 b1 : Nat) (hv : RdI w v xs) (hu : RdI w u ys)
    (h0 : w.cell? ⟨b0, 0, none⟩ = some u) (h1 : w.cell? ⟨b1, 0, none⟩ = some (.int .i64 least)) :
    Calls Try.prog 11 #[v, .pointer (some ⟨b0, 0, none⟩), .pointer (some ⟨b1, 0, none⟩)] w fun e w' => e = .returned (.bool (needB xs ys least)) ∧ w = w' := by
  have HV := Lib.hid hv
  have HU := Lib.hid hu
  obtain ⟨a, len, cap, rfl, rfl, -⟩ := hu
  clear hv
  go_enter Try.func11, Try.ntmps11
  go_wp2_with (go_at_call 9; refine (need_any _ _ _ _ _ _ HV.out HU.out).mono ?_; rintro e w' ⟨rfl, rfl⟩)
  go_ret
  exact ⟨rfl, rfl⟩

theorem parts1_bad (budget : Int) (B : Nat) (w0 : World) (hB : B = w0.heap.size) (u : Value) (ys : List Int) (least : Int) (b0 b1 : Nat) (hu : RdI w0 u ys)
    (h0 : w0.cell? ⟨b0, 0, none⟩ = some u) (h1 : w0.cell? ⟨b1, 0, none⟩ = some (.int .i64 least)) :
    Bad B 11 #[.pointer (some ⟨b0, 0, none⟩), .pointer (some ⟨b1, 0, none⟩)] budget (fun (_ : Int × Unit) x => Below B w0 x) (fun s xs => (needB xs ys least, s)) := by
  subst hB
  exact bad_of_pure _ w0 _ _ _ (fun xs => needB xs ys least) (enter_of Try.func11 (by kernel_rfl) (by kernel_rfl)) fun x v xs hb _ ho _ =>
    (parts1_call x v u xs ys least b0 b1 ho.rd (hu.below hb) (cell_later hb h0) (cell_later hb h1)).mono fun e w' ⟨h1, h2⟩ => by subst h2; exact ⟨h1, over_refl _ _ _, Below.refl _ _⟩

set_option maxHeartbeats 400000 in
theorem less1_call (B : Nat) (w : World) (v u : Value) (xs ys : List Int) (least : Int) (b0 b1 : Nat) (hv : OwI B w v xs) (hu : RdI w u ys)
    (h0 : w.cell? ⟨b0, 0, none⟩ = some u) (h1 : w.cell? ⟨b1, 0, none⟩ = some (.int .i64 least)) :
    Calls Try.prog 8 #[v, .pointer (some ⟨b0, 0, none⟩), .pointer (some ⟨b1, 0, none⟩)] w fun e w' => e = .returned (.bool (needB xs ys least)) ∧ Over B v.ownBlock w w' ∧ Below B w w' := by
  have HV := Lib.hid hv
  have HU := Lib.hid hu
  obtain ⟨a, len, cap, rfl, rfl, hm, -⟩ := hv.rd
  obtain ⟨a', len', cap', rfl, rfl, -⟩ := hu
  clear hv
  go_enter Try.func8, Try.ntmps8
  go_wp2_with (go_at_call 9; refine (need_any _ _ _ _ _ _ HV.out.rd HU.out).mono ?_; rintro e w' ⟨rfl, rfl⟩)
  go_loopw [6, 13] (fun _ i wr => ∃ (k : Nat) (zs : List Int), k ≤ xs.length ∧ i = .int .i64 k ∧ zs.length = xs.length ∧ OwI B wr (.slice a xs.length cap) zs ∧ Over B (Value.slice a xs.length cap).ownBlock w wr ∧ Below B w wr) (fun _ i _ => xs.length - (intOf i).toNat)
  case atStart => exact ⟨0, xs, Nat.zero_le _, rfl, rfl, HV.out, over_refl _ _ _, Below.refl _ _⟩
  case round =>
    obtain ⟨k, zs, hk, rfl, hz, ho, hov, hb⟩ := hrel
    have HZ := Lib.hid hz
    have HO := Lib.hid ho
    have HOV := Lib.hid hov
    have HB := Lib.hid hb
    clear hz ho hov hb
    by_cases hlt : k < xs.length
    · obtain ⟨g, rfl, hg⟩ : ∃ g, a = some ⟨g, 0, none⟩ ∧ B ≤ g := by
        rcases HV.out.2 with ⟨e, e0⟩ | ⟨g, cp', cur, e, hg, _, hn, _⟩
        · rw [e0] at hlt; omega
        · cases e; exact ⟨g, rfl, hg⟩
      obtain ⟨z, hz⟩ := some_at (l := zs) (k := k) (by rw [HZ.out]; exact hlt)
      have HO' : Hid (wr.ownsRow B 3 1 (.slice (some ⟨g, 0, none⟩) xs.length cap) xs.length (zs.map (Value.int .i64))) := by
        have := HO.out; unfold OwI at this; rwa [HZ.out] at this
      have hcell := World.ownsRow.cells HO'.out (g := g) rfl k (.int .i64 z) (by simp [hz])
      rw [addr_add] at hcell
      have hfr : wr.frozen? ⟨g, 0 + k, none⟩ = false := by
        rcases HO'.out.2 with ⟨e, e0⟩ | ⟨g', cp', cur, e, hg, hh, hn, _⟩
        · cases e
        · cases e; simp [World.frozen?, hh]
      have hst := World.ownsRow.stored HO'.out k (.int .i64 (-1099511627776))
      have HST := Lib.hid hst
      rw [Nat.zero_add] at hcell hfr
      clear hz hst
      go_wp2
      go_roundw
      case rel => 
        refine ⟨k + 1, zs.set k (-1099511627776), by omega, by go_num, by simp [HZ.out], ?_, ?_, HB.out.setCell hg _⟩
        · have := HST.out.1
          unfold OwI
          rw [List.length_set, List.map_set, HZ.out]; exact this
        · exact HOV.out.trans Over.setCell (fun j hj _ => hj)
      case measure => simp [intOf]; omega
    · go_wp2
      go_ret
      exact ⟨rfl, HOV.out, HB.out⟩

theorem less1_bad (budget : Int) (B : Nat) (w0 : World) (hB : B = w0.heap.size) (u : Value) (ys : List Int) (least : Int) (b0 b1 : Nat) (hu : RdI w0 u ys)
    (h0 : w0.cell? ⟨b0, 0, none⟩ = some u) (h1 : w0.cell? ⟨b1, 0, none⟩ = some (.int .i64 least)) :
    Bad B 8 #[.pointer (some ⟨b0, 0, none⟩), .pointer (some ⟨b1, 0, none⟩)] budget (fun (_ : Int × Unit) x => Below B w0 x) (fun s xs => (needB xs ys least, s)) := by
  subst hB
  exact bad_of_pure _ w0 _ _ _ (fun xs => needB xs ys least) (enter_of Try.func8 (by kernel_rfl) (by kernel_rfl)) fun x v xs hb _ ho _ =>
    less1_call _ x v u xs ys least b0 b1 ho (hu.below hb) (cell_later hb h0) (cell_later hb h1)
end Go.Proofs.Ytkobpjndkgjcjaa
