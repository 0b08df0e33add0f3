/- slices.Delete of one row of messages; Len. -/
import Derived.Test.YthpdenmbcjngkaaLnSend
import Derived.Lib.SliceRun
import Derived.Shelf.RegionOpenPlain
namespace Go.Proofs.Ythpdenmbcjngkaa
open Go.RowKit Go.Maps

theorem setCells_block {b : Nat} {T : TypeId} : ∀ (vs : List Value) (o : Nat) (w : World) (cur : Array Value), w.heap[b]? = some (.cells cur T) →
    ∃ cur', (w.setCells b o vs).heap[b]? = some (.cells cur' T) ∧ cur'.size = cur.size ∧ ∀ j, cur'[j]? = if o ≤ j ∧ j < o + vs.length ∧ j < cur.size then vs[j - o]? else cur[j]?
  | [], o, w, cur, h => ⟨cur, h, rfl, fun j => by rw [if_neg (by simp; omega)]⟩
  | v :: vs, o, w, cur, h => by
    have h1 := heap_setCell_same w b o cur T v h
    obtain ⟨cur', h2, h3, h4⟩ := setCells_block vs (o + 1) (w.setCell ⟨b, o, none⟩ v) _ h1
    refine ⟨cur', h2, by rw [h3]; simp, fun j => ?_⟩
    rw [h4 j]
    simp only [Array.size_setIfInBounds, List.length_cons]
    by_cases hj : o = j
    · subst hj
      rw [if_neg (by omega)]
      by_cases hc : o < cur.size
      · rw [if_pos (by omega)]; simp [Array.getElem?_setIfInBounds, hc]
      · rw [if_neg (by omega)]; simp [Array.getElem?_setIfInBounds, hc]
    · have e1 : (cur.setIfInBounds o v)[j]? = cur[j]? := by simp [Array.getElem?_setIfInBounds, hj]
      rw [e1]
      by_cases hc : o + 1 ≤ j ∧ j < o + 1 + vs.length ∧ j < cur.size
      · rw [if_pos hc, if_pos (by omega)]
        have : j - o = (j - (o + 1)) + 1 := by omega
        rw [this]; simp
      · rw [if_neg hc, if_neg (by omega)]
theorem setCells_grown (b : Nat) : ∀ (vs : List Value) (o : Nat) (w : World), w.grownBy (w.setCells b o vs) (some b) ∧ (w.setCells b o vs).heap.size = w.heap.size
  | [], o, w => ⟨⟨rfl, rfl, rfl, Nat.le_refl _, fun _ _ _ => rfl⟩, rfl⟩
  | v :: vs, o, w => by
    obtain ⟨h, hs⟩ := setCells_grown b vs (o + 1) (w.setCell ⟨b, o, none⟩ v)
    have h0 : w.grownBy (w.setCell ⟨b, o, none⟩ v) (some b) := ⟨rfl, rfl, rfl, by simp, fun k _ hk => heap_setCell_other w ⟨b, o, none⟩ k v (fun e => hk (by simp [e]))⟩
    refine ⟨⟨h.os.trans h0.os, h.tape.trans h0.tape, h.output.trans h0.output, Nat.le_trans h0.size h.size, fun k hk hne => (h.block k (Nat.lt_of_lt_of_le hk h0.size) hne).trans (h0.block k hk hne)⟩, ?_⟩
    show ((w.setCell ⟨b, o, none⟩ v).setCells b (o + 1) vs).heap.size = _
    rw [hs]; simp

set_option maxRecDepth 100000 in
set_option maxHeartbeats 4000000 in
theorem delete_j {base g n cap : Nat} {xs : List Value} (i j : Nat) (w : World) (h : w.ownsRow base 30 1 (.slice (some ⟨g, 0, none⟩) n cap) n xs) (hij : i < j) (hjn : j ≤ n) (hj1 : j = i + 1) (h1 : ∀ u ∈ xs, u.oneCell' = true) :
    Calls Try.prog 30 #[.slice (some ⟨g, 0, none⟩) n cap, .int .i64 i, .int .i64 j] w fun e w' => e = .returned (.slice (some ⟨g, 0, none⟩) (n - 1) cap) ∧ w'.ownsRow base 30 1 (.slice (some ⟨g, 0, none⟩) (n - 1) cap) (n - 1) (xs.eraseIdx i) ∧ w.grownBy w' (some g) := by
  have HJ := Lib.hid hj1
  clear hj1
  obtain ⟨hl, hv⟩ := id h
  rcases hv with ⟨h', _⟩ | ⟨g', cap', cur, h', hbg, hg, hnc, hcm, hcs, htake⟩
  · simp at h'
  simp only [Value.slice.injEq, Option.some.injEq, Addr.mk.injEq, and_true, true_and] at h'
  obtain ⟨rfl, rfl⟩ := h'
  have hlen : xs.length = n := by simpa using hl
  have hcap : cap ≤ 9223372036854775807 := by simp only [maxLen] at hcm; omega
  have hcur : ∀ j, j < n → cur[j]? = xs[j]? := fun j hj => by
    have := congrArg (fun l => l[j]?) htake
    simp only [List.getElem?_take, Nat.mul_one, if_pos hj, Array.getElem?_toList] at this
    exact this
  obtain ⟨news, hnews⟩ : ∃ news, news = xs.drop j := ⟨_, rfl⟩
  have hnl : news.length = n - j := by rw [hnews]; simp [hlen]
  obtain ⟨A, hA, hsrc⟩ : ∃ A : Addr, (if cap = j then some (⟨g, 0, none⟩ : Addr) else some ⟨g, j, none⟩) = some A ∧ Hid (∀ t u, news[t]? = some u → w.drew.cell? (A.add t) = some u) := by
    by_cases hc : cap = j
    · refine ⟨⟨g, 0, none⟩, by simp [hc], Lib.hid fun t u hu => ?_⟩
      have : news = [] := List.length_eq_zero_iff.1 (by omega)
      rw [this] at hu; simp at hu
    · refine ⟨⟨g, j, none⟩, by simp [hc], Lib.hid fun t u hu => ?_⟩
      have ht := (List.getElem?_eq_some_iff.1 hu).1
      rw [addr_add]
      show w.cell? _ = _
      rw [cell_of hg, hcur _ (by omega)]
      rw [hnews, List.getElem?_drop] at hu
      exact hu
  have s1 : Hid (news.length = (n - j) * 1) := Lib.hid (by rw [Nat.mul_one]; exact hnl)
  have s2 : Hid (∀ u ∈ news, u.oneCell' = true) := Lib.hid fun u hu => h1 u (List.mem_of_mem_drop (by rw [← hnews]; exact hu))
  have s3 : Hid (∀ t, t < news.length → (w.drew.cell? ⟨g, 0 + i * 1 + t, none⟩).isSome = true ∧ w.drew.frozen? ⟨g, 0 + i * 1 + t, none⟩ = false) := Lib.hid fun t ht => by
    refine ⟨?_, free_of (w := w.drew) hg _⟩
    show (w.cell? _).isSome = true
    rw [cell_of hg, hcur _ (by omega), List.getElem?_eq_getElem (by omega)]; rfl
  obtain ⟨W1, hW1⟩ : ∃ W1, W1 = w.drew.setCells g (0 + i * 1) news := ⟨_, rfl⟩
  obtain ⟨cur1, hc1, hc2, hc3⟩ := setCells_block news (0 + i * 1) w.drew cur hg
  rw [← hW1] at hc1
  have hgr1 := (setCells_grown g news (0 + i * 1) w.drew).1
  rw [← hW1] at hgr1
  have hcl : ∀ ty, (Builtin.clear_ #[57] ty #[.slice (some ⟨g, (i + (n - j)), none⟩) (n - (i + (n - j))) (cap - (i + (n - j)))]).run Try.prog W1 = .ok (.tuple #[]) (W1.setCells g ((i + (n - j))) (List.replicate (n - (i + (n - j))) (.slice none 0 0))) :=
    fun ty => Lib.run_clear_slice W1 _ _ ty _ Try.underlying57 (fun w => by kernel_rfl) rfl rfl g ((i + (n - j))) _ _ (by omega) (fun t ht => by rw [cell_of hc1, Array.getElem?_eq_getElem (by omega)]; rfl) (fun t ht => free_of hc1 _)
  have hW := Lib.hid hW1
  have HC1 := Lib.hid hc1
  have HGR1 := Lib.hid hgr1
  have HC3 := Lib.hid hc3
  have HCUR := Lib.hid hcur
  obtain ⟨i0, hi0, hz0, hz1, hz2⟩ := info_parts Try.infoRow
  have hic : i ≤ cap := by omega
  have hjc : j ≤ cap := by omega
  have hjI : (j : Int) ≤ (cap : Int) := by omega
  have hne : ((i : Int) == (j : Int)) = false := by simp; omega
  have mixed : Try.prog.follows Departure.mixedOrders = true := by kernel_rfl
  have HNW := Lib.hid hnews
  clear hW1 hc1 hgr1 hc3 hcur h hg htake hnews h1
  go_enter Try.func30, Try.ntmps30
  go_wp2_with fail
  go_region_law_o (refine step_append_room rfl (.tmp 22) (.tmp 25) 57 rfl 30 i0 1 Try.underlying57 hi0 hz1 g 0 i cap (by simp [Act.eval, Act.put]) A (n - j) (cap - j) news (by simp [Act.eval, Act.put]) s1.out hsrc.out s2.out (by omega) s3.out ?_; rw [← hW.out])
  go_wp2
  go_ret
  obtain ⟨cur2, e1, e2, e3⟩ := setCells_block (List.replicate (n - (i + (n - j))) (.slice none 0 0)) ((i + (n - j))) W1 cur1 HC1.out
  have hgr2 := (setCells_grown g (List.replicate (n - (i + (n - j))) (.slice none 0 0)) ((i + (n - j))) W1).1
  have hin : i + (n - j) = n - 1 := by have := HJ.out; omega
  refine ⟨by rw [← hin]; rfl, ⟨by rw [List.length_eraseIdx, if_pos (by omega)]; omega, .inr ⟨g, cap, cur2, rfl, hbg, e1, by omega, hcm, by rw [e2, hc2]; exact hcs, ?_⟩⟩, ?_⟩
  · apply List.ext_getElem?
    intro q
    have hj1 := HJ.out
    rw [List.getElem?_take, Nat.mul_one, List.getElem?_eraseIdx]
    by_cases hj : q < n - 1
    · rw [if_pos hj, Array.getElem?_toList, e3 q, if_neg (by omega), HC3.out q]
      by_cases hji : q < i
      · rw [if_neg (by omega), if_pos hji, HCUR.out q (by omega)]
      · rw [if_pos (by omega), if_neg hji, HNW.out, List.getElem?_drop]
        congr 1; omega
    · rw [if_neg hj]
      split
      · omega
      · rw [List.getElem?_eq_none (by omega)]
  · exact ⟨hgr2.os.trans (HGR1.out.os.trans rfl), hgr2.tape.trans (HGR1.out.tape.trans rfl), hgr2.output.trans (HGR1.out.output.trans rfl), Nat.le_trans HGR1.out.size hgr2.size, fun k hk hne => (hgr2.block k (Nat.lt_of_lt_of_le hk HGR1.out.size) hne).trans (HGR1.out.block k hk hne)⟩

theorem delete_call {base g n cap : Nat} {xs : List Value} (i : Nat) (w : World) (h : w.ownsRow base 30 1 (.slice (some ⟨g, 0, none⟩) n cap) n xs) (hi : i < n) (h1 : ∀ u ∈ xs, u.oneCell' = true) :
    Calls Try.prog 30 #[.slice (some ⟨g, 0, none⟩) n cap, .int .i64 i, .int .i64 ((i : Int) + 1)] w fun e w' => e = .returned (.slice (some ⟨g, 0, none⟩) (n - 1) cap) ∧ w'.ownsRow base 30 1 (.slice (some ⟨g, 0, none⟩) (n - 1) cap) (n - 1) (xs.eraseIdx i) ∧ w.grownBy w' (some g) := by
  have := delete_j i (i + 1) w h (Nat.lt_succ_self i) hi rfl h1
  rwa [show ((i + 1 : Nat) : Int) = (i : Int) + 1 by omega] at this
end Go.Proofs.Ythpdenmbcjngkaa
