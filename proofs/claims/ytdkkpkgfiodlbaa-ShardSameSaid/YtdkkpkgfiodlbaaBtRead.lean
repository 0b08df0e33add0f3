/- bits.Read. -/
import Derived.Test.YtdkkpkgfiodlbaaBtEnd
namespace Go.Proofs.Ytdkkpkgfiodlbaa
open Go.RowKit

theorem eltU8_one : ∀ (bs : List Nat), ∀ u ∈ bs.map u8, u.oneCell' = true := by
  intro bs u hu; simp at hu; obtain ⟨a, _, rfl⟩ := hu; rfl
def BReadQ (bs : List Nat) (w : World) (e : Ending) (w' : World) : Prop :=
  ∃ p, e = .returned (.pointer (some ⟨p, 0, none⟩)) ∧ RdrS w.heap.size p ⟨bitsOf bs, 0⟩ w' ∧ Below w.heap.size w w'
set_option maxRecDepth 100000 in
set_option maxHeartbeats 4000000 in
theorem readB_call {bs : List Nat} {v : Value} (w : World) (h : Src w v 1 bs.length (bs.map u8)) (hb : ∀ b ∈ bs, b < 256) (hl : bs.length ≤ 1048576) :
    Calls Try.prog 49 #[v] w (BReadQ bs w) := by
  have HS := Lib.hid h
  have HB := Lib.hid hb
  have HL := Lib.hid hl
  have hl2 : 0 + bs.length ≤ 68719476736 := by omega
  clear h hb hl
  go_enter Try.func49, Try.ntmps49
  go_wp2_with (refine wpList_append_src rfl (.const (.slice none 0 0)) (.tmp 3) 39 rfl eltU8 w.heap.size 0 [] (World.ownsRow_nil _ _ _ _) rfl bs.length (bs.map u8) HS.out rfl (eltU8_one bs) hl2 (by omega) (Nat.le_refl _) ?_; intro v1 w1 ho1 hg1 _; obtain ⟨a1, c1, rfl⟩ := Bt.own_shape ho1; have HO1 := Lib.hid ho1; have HG1 := Lib.hid hg1; clear ho1 hg1)
  go_ret
  have hbel : Below w.heap.size w w1 := below_grown HG1.out (Nat.le_refl _) (by simp [Value.ownBlock])
  have ho : OwU w.heap.size w1 (.slice a1 bs.length c1) bs := by
    have := HO1.out
    simp only [Nat.zero_add, List.nil_append] at this; exact this
  refine ⟨w1.heap.size, rfl, ⟨hbel.size, .slice a1 bs.length c1, bs, 0, ?_, ?_, HB.out, HL.out, Nat.zero_le _, rfl⟩, hbel.alloc hbel.size _⟩
  · exact Bt.alloc_at _ _
  · exact own_below ho ((Below.refl _ _).alloc (Nat.le_refl _) _)
end Go.Proofs.Ytdkkpkgfiodlbaa