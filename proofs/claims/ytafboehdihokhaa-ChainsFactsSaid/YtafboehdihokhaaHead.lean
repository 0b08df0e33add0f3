/- cruciblelaw09.head: the document's example. -/
import Derived.Test.YtafboehdihokhaaBound
import Derived.Test.YtafboehdihokhaaOfMem
namespace Go.Proofs.Ytafboehdihokhaa
open Go.RowKit Go.Maps

theorem rd_txns_own {A : World} {base : Nat} {v : Value} {L : TxL} (h : A.ownsRow base 62 3 v L.length (L.flatMap txV)) (ho : ∀ p ∈ L, RdOps A p.2 p.1.ops) : RdTxns A v (L.map (·.1)) := by
  obtain ⟨a, len, cap, h1, h2, h3, h4, h5, h6⟩ := rds_of_own (V := txV) txV_length h
  refine ⟨a, len, cap, h1, by simpa using h2, by simpa using h3, h4, h5, fun j x hj => ?_⟩
  rw [List.getElem?_map, Option.map_eq_some_iff] at hj
  obtain ⟨p, hp, rfl⟩ := hj
  obtain ⟨b, off, cs, ha, hl, hc, rfl⟩ := h6 j p hp
  exact ⟨b, off, _, ha, hl, hc, p.2, rfl, ho p (List.mem_of_getElem? hp)⟩

def headT : List GTxn := [⟨1, 0, [⟨2, 0, 5⟩]⟩, ⟨2, 1, [⟨2, 0, 6⟩]⟩]
def headC : List GChoice := [⟨1, 0, 0, 0⟩, ⟨2, 0, 0, 1⟩]
theorem head_choices : choicesM headT = headC := by rfl
theorem head_ok : OkTxns headT := by
  refine ⟨by decide, fun t ht => ?_⟩
  simp [headT] at ht
  rcases ht with rfl | rfl <;> exact ⟨fun o ho => by simp at ho; subst ho; simp [i64], by decide⟩

/-- The example lies in three new blocks. -/
theorem head_rd (w : World) : RdTxns (((w.alloc (.cells #[vi 2, vi 0, vi 5] 64)).alloc (.cells #[vi 2, vi 0, vi 6] 64)).alloc (.cells #[vi 1, vi 0, .slice (some ⟨w.heap.size, 0, none⟩) 1 1, vi 2, vi 1, .slice (some ⟨w.heap.size + 1, 0, none⟩) 1 1] 62)) (.slice (some ⟨w.heap.size + 2, 0, none⟩) 2 2) headT := by
  have h1 : OwOps w.heap.size (w.alloc (.cells #[vi 2, vi 0, vi 5] 64)) (.slice (some ⟨w.heap.size, 0, none⟩) 1 1) [⟨2, 0, 5⟩] := World.ownsRow_lit w #[vi 2, vi 0, vi 5] 1 (Nat.le_refl _) (by simp [maxLen]) rfl
  have h2 : OwOps w.heap.size ((w.alloc (.cells #[vi 2, vi 0, vi 5] 64)).alloc (.cells #[vi 2, vi 0, vi 6] 64)) (.slice (some ⟨w.heap.size + 1, 0, none⟩) 1 1) [⟨2, 0, 6⟩] := by
    have := World.ownsRow_lit (base := w.heap.size) (e := 64) (size := 3) (w.alloc (.cells #[vi 2, vi 0, vi 5] 64)) #[vi 2, vi 0, vi 6] 1 (by simp) (by simp [maxLen]) rfl
    simpa [OwOps, opV] using this
  have h3 := World.ownsRow_lit (base := w.heap.size) (e := 62) (size := 3) ((w.alloc (.cells #[vi 2, vi 0, vi 5] 64)).alloc (.cells #[vi 2, vi 0, vi 6] 64)) #[vi 1, vi 0, .slice (some ⟨w.heap.size, 0, none⟩) 1 1, vi 2, vi 1, .slice (some ⟨w.heap.size + 1, 0, none⟩) 1 1] 2 (by simp; omega) (by simp [maxLen]) rfl
  refine rd_txns_own (base := w.heap.size) (L := [(⟨1, 0, [⟨2, 0, 5⟩]⟩, .slice (some ⟨w.heap.size, 0, none⟩) 1 1), (⟨2, 1, [⟨2, 0, 6⟩]⟩, .slice (some ⟨w.heap.size + 1, 0, none⟩) 1 1)]) (by simpa [txV] using h3) fun p hp => ?_
  simp at hp
  rcases hp with rfl | rfl
  · exact OwOps.rd (World.ownsRow.alloc (World.ownsRow.alloc h1 _) _)
  · exact OwOps.rd (World.ownsRow.alloc h2 _)

set_option maxRecDepth 100000 in
set_option maxHeartbeats 1000000 in
theorem head_call (w : World) : Calls Try.prog 8 #[] w fun e w' => e = .returned (.bool true) ∧ Below w.heap.size w w' := by
  have HT := Lib.hid (head_rd w)
  have HB := Lib.hid ((((Below.refl w.heap.size w).alloc (Nat.le_refl _) (.cells #[vi 2, vi 0, vi 5] 64)).alloc (by simp) (.cells #[vi 2, vi 0, vi 6] 64)).alloc (by simp; omega) (.cells #[vi 1, vi 0, .slice (some ⟨w.heap.size, 0, none⟩) 1 1, vi 2, vi 1, .slice (some ⟨w.heap.size + 1, 0, none⟩) 1 1] 62))
  go_enter Try.func8, Try.ntmps8
  go_upto_region 2 with fail
  generalize ((w.alloc (.cells #[vi 2, vi 0, vi 5] 64)).alloc (.cells #[vi 2, vi 0, vi 6] 64)).alloc (.cells #[vi 1, vi 0, .slice (some ⟨w.heap.size, 0, none⟩) 1 1, vi 2, vi 1, .slice (some ⟨w.heap.size + 1, 0, none⟩) 1 1] 62) = w3 at *
  have hw3 := HB.out.size
  go_upto_region 3 with (go_at_call 10; refine (choices_call _ headT _ HT.out head_ok (by decide)).mono ?_; rw [head_choices]; rintro e w4 ⟨v1, rfl, ho, hb⟩; have hr := ho.rd; obtain ⟨a, len, cap, rfl, rfl, hm, hcl⟩ := hr.at)
  obtain ⟨b, off, rfl, m0, m1, m2, m3⟩ := hcl 0 ⟨1, 0, 0, 0⟩ rfl
  obtain ⟨_, _, e6, n0, n1, n2, n3⟩ := hcl 1 ⟨2, 0, 0, 1⟩ rfl
  cases e6
  have HB4 := Lib.hid (HB.out.trans (hb.mono hw3))
  have HT4 := Lib.hid (HT.out.later hb)
  have hl : headC.length = 2 := rfl
  clear hcl hm ho hr hb
  simp only [Nat.zero_mul, Nat.add_zero, Nat.one_mul, Nat.add_assoc, Nat.reduceAdd] at m0 m1 m2 m3 n0 n1 n2 n3
  go_wp2_with (go_at_call 12; refine (bound_call _ headT _ HT4.out head_ok (by decide)).mono ?_; rw [head_choices]; rintro e w5 ⟨rfl, hb5⟩)
  go_ret
  exact ⟨by rfl, HB4.out.trans (hb5.mono HB4.out.size)⟩
end Go.Proofs.Ytafboehdihokhaa
