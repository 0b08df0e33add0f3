/- Texts of one proof, one behind the other: ChAhead. -/
import Derived.Test.YtjpmimanigjjoaaJo7
import Derived.Test.YtjpmimanigjjoaaJo6
import Derived.BigQuiet
import Derived.Shelf.SlSortCmp.Insertion
set_option linter.all false
/- chains.Chain's closures: who is ahead of how many; the comparison. -/
namespace Go.Proofs.Ytjpmimanigjjoaa
open Go.RowKit Go.Maps

/-- What the closure reads: the row, the facts, the key. -/
structure AheadW (w : World) (po pf pk blk off cap m : Nat) (D : List Int) (L : FaL) (key : Int) : Prop where
  o : w.cell? ⟨po, 0, none⟩ = some (.slice (some ⟨blk, off, none⟩) D.length cap)
  f : w.cell? ⟨pf, 0, none⟩ = some (.map (some m))
  k : w.cell? ⟨pk, 0, none⟩ = some (vi key)
  row : ∀ j x, D[j]? = some x → w.cell? ⟨blk, off + j, none⟩ = some (vi x) ∧ i64 x
  map : MapF w m L
  key : i64 key
  len : D.length ≤ 4096

theorem aheadN_take {L : FaL} {key a x : Int} {D : List Int} {k : Nat} (hx : D[k]? = some x) : (D.take (k + 1)).countP (aheadOf L key a) = (D.take k).countP (aheadOf L key a) + (if aheadOf L key a x then 1 else 0) := by
  rw [List.take_add_one, hx, List.countP_append]
  simp [List.countP_cons]

set_option maxHeartbeats 4000000 in
set_option maxRecDepth 100000 in
theorem ahead_call (po pf pk blk off cap m : Nat) (D : List Int) (L : FaL) (key a : Int) (w : World) (h : AheadW w po pf pk blk off cap m D L key) (ha : i64 a) :
    Calls Try.prog 30 #[vi a, vi 0, .pointer (some ⟨po, 0, none⟩), .pointer (some ⟨pf, 0, none⟩), .pointer (some ⟨pk, 0, none⟩)] w fun e w' => e = .returned (vi (aheadN L key D a)) ∧ w' = w := by
  have HA := Lib.hid h
  have co := h.o
  have cf := h.f
  have ck := h.k
  have hlen := h.len
  have hkey := h.key
  clear h
  go_enter Try.func30, Try.ntmps30
  go_wp2_with fail
  go_loopw [8, 10, 11, 12, 15] (fun n _ _ _ u wr => ∃ k c : Nat, k ≤ D.length ∧ c ≤ k ∧ u = vi k ∧ n = vi c ∧ Hid ((D.take k).countP (aheadOf L key a) = c) ∧ wr = w) (fun _ _ _ _ u _ => D.length - (intOf u).toNat)
  case atStart => exact ⟨0, 0, Nat.zero_le _, Nat.le_refl _, rfl, rfl, Lib.hid rfl, rfl⟩
  case round =>
    obtain ⟨k, c, hk, hck, rfl, rfl, HN, hwr⟩ := hrel
    subst hwr
    by_cases hlt : k < D.length
    · obtain ⟨x, hx⟩ := some_at hlt
      have hxc := (HA.out.row k x hx).1
      have hxi := (HA.out.row k x hx).2
      have HT := Lib.hid (aheadN_take (L := L) (key := key) (a := a) hx)
      have hkI : (k : Int) < (D.length : Int) := by omega
      have wk : IntKind.i64.wrap ((k : Int) + 1) = ((k + 1 : Nat) : Int) := by rw [IntWalk.i64_in _ (by omega)]; omega
      have wc : IntKind.i64.wrap ((c : Int) + 1) = ((c + 1 : Nat) : Int) := by rw [IntWalk.i64_in _ (by omega)]; omega
      have hlk := (lookup_fact HA.out.map (c := ⟨2, key, min a x, max a x⟩) (by unfold SmallCh i64 at *; simp only; omega)).1
      have HO := Lib.hid (show aheadOf L key a x = (match getM L ⟨2, key, min a x, max a x⟩ with | some so => (x != a) && (so == decide (a < x)) | none => false) from rfl)
      clear hx
      rcases Int.lt_trichotomy a x with hc | hc | hc
      · have hdum : True := trivial
        have hne : (x == a) = false := beq_eq_false_iff_ne.2 (by omega)
        have hlt0 : decide (a < x) = true := decide_eq_true hc
        cases hg : getM L ⟨2, key, min a x, max a x⟩ with
        | none =>
          rw [hg] at hlk HO
          clear hg
          have HE := Lib.hid (show aheadOf L key a x = false from HO.out)
          simp only [Option.getD_none, Option.isSome_none] at hlk
          go_wp2_with fail
          go_roundw
          case rel => exact ⟨k + 1, c, by omega, by omega, rfl, rfl, Lib.hid (by rw [HT.out, HE.out, HN.out]; rfl), by trivial⟩
          case measure => simp [intOf]; omega
        | some so =>
          rw [hg] at hlk HO
          clear hg
          simp only [Option.getD_some, Option.isSome_some] at hlk
          cases so with
          | true =>
            have HE := Lib.hid (show aheadOf L key a x = true from by rw [HO.out]; simp only [hlt0, bne, hne]; rfl)
            go_wp2_with fail
            go_roundw
            case rel => exact ⟨k + 1, c + 1, by omega, by omega, rfl, rfl, Lib.hid (by rw [HT.out, HE.out, HN.out]; rfl), by trivial⟩
            case measure => simp [intOf]; omega
          | false =>
            have HE := Lib.hid (show aheadOf L key a x = false from by rw [HO.out]; simp only [hlt0, bne, hne]; rfl)
            go_wp2_with fail
            go_roundw
            case rel => exact ⟨k + 1, c, by omega, by omega, rfl, rfl, Lib.hid (by rw [HT.out, HE.out, HN.out]; rfl), by trivial⟩
            case measure => simp [intOf]; omega
      · have m1 : min a x = x := by omega
        have m2 : max a x = x := by omega
        rw [m1, m2] at hlk HO
        subst hc
        have hne : (a == a) = true := by simp
        have hlt0 : decide (a < a) = false := by simp
        clear m1 m2
        cases hg : getM L ⟨2, key, a, a⟩ with
        | none =>
          rw [hg] at hlk HO
          clear hg
          have HE := Lib.hid (show aheadOf L key a a = false from HO.out)
          simp only [Option.getD_none, Option.isSome_none] at hlk
          go_wp2_with fail
          go_roundw
          case rel => exact ⟨k + 1, c, by omega, by omega, rfl, rfl, Lib.hid (by rw [HT.out, HE.out, HN.out]; rfl), by trivial⟩
          case measure => simp [intOf]; omega
        | some so =>
          rw [hg] at hlk HO
          clear hg
          simp only [Option.getD_some, Option.isSome_some] at hlk
          cases so with
          | true =>
            have HE := Lib.hid (show aheadOf L key a a = false from by rw [HO.out]; simp only [hlt0, bne, hne]; rfl)
            go_wp2_with fail
            go_roundw
            case rel => exact ⟨k + 1, c, by omega, by omega, rfl, rfl, Lib.hid (by rw [HT.out, HE.out, HN.out]; rfl), by trivial⟩
            case measure => simp [intOf]; omega
          | false =>
            have HE := Lib.hid (show aheadOf L key a a = false from by rw [HO.out]; simp only [hlt0, bne, hne]; rfl)
            go_wp2_with fail
            go_roundw
            case rel => exact ⟨k + 1, c, by omega, by omega, rfl, rfl, Lib.hid (by rw [HT.out, HE.out, HN.out]; rfl), by trivial⟩
            case measure => simp [intOf]; omega
      · have hdum : True := trivial
        have hne : (x == a) = false := beq_eq_false_iff_ne.2 (by omega)
        have hlt0 : decide (a < x) = false := decide_eq_false (by omega)
        cases hg : getM L ⟨2, key, min a x, max a x⟩ with
        | none =>
          rw [hg] at hlk HO
          clear hg
          have HE := Lib.hid (show aheadOf L key a x = false from HO.out)
          simp only [Option.getD_none, Option.isSome_none] at hlk
          go_wp2_with fail
          go_roundw
          case rel => exact ⟨k + 1, c, by omega, by omega, rfl, rfl, Lib.hid (by rw [HT.out, HE.out, HN.out]; rfl), by trivial⟩
          case measure => simp [intOf]; omega
        | some so =>
          rw [hg] at hlk HO
          clear hg
          simp only [Option.getD_some, Option.isSome_some] at hlk
          cases so with
          | true =>
            have HE := Lib.hid (show aheadOf L key a x = false from by rw [HO.out]; simp only [hlt0, bne, hne]; rfl)
            go_wp2_with fail
            go_roundw
            case rel => exact ⟨k + 1, c, by omega, by omega, rfl, rfl, Lib.hid (by rw [HT.out, HE.out, HN.out]; rfl), by trivial⟩
            case measure => simp [intOf]; omega
          | false =>
            have HE := Lib.hid (show aheadOf L key a x = true from by rw [HO.out]; simp only [hlt0, bne, hne]; rfl)
            go_wp2_with fail
            go_roundw
            case rel => exact ⟨k + 1, c + 1, by omega, by omega, rfl, rfl, Lib.hid (by rw [HT.out, HE.out, HN.out]; rfl), by trivial⟩
            case measure => simp [intOf]; omega
    · obtain rfl : k = D.length := by omega
      have HE := Lib.hid (show aheadN L key D a = c from by rw [← HN.out, List.take_length]; rfl)
      go_wp2_with fail
      go_ret
      exact ⟨by rw [HE.out]; rfl, rfl⟩
end Go.Proofs.Ytjpmimanigjjoaa
