/- (*link.Net).Links: the links that have messages, in order. -/
import Derived.Test.YthpdenmbcjngkaaLnRowK
import Derived.Test.YthpdenmbcjngkaaLnLay
import Derived.Shelf.SlSortCmp.WholeK
namespace Go.Proofs.Ythpdenmbcjngkaa
open Go.RowKit Go.Maps

theorem compareInt_cases (a b : Int) : (a < b ∧ Lib.compareInt a b = -1) ∨ (b < a ∧ Lib.compareInt a b = 1) ∨ (a = b ∧ Lib.compareInt a b = 0) := by
  unfold Lib.compareInt
  by_cases h1 : a < b
  · exact .inl ⟨h1, by simp [h1]⟩
  · by_cases h2 : b < a
    · exact .inr (.inl ⟨h2, by simp [h1, h2]⟩)
    · exact .inr (.inr ⟨by omega, by simp [h1, h2]⟩)
theorem ltLK (x y : LK) : Go.Proofs.ltOf cmpLK x y = decide (x.1 < y.1 ∨ x.1 = y.1 ∧ x.2 < y.2) := by
  unfold Go.Proofs.ltOf cmpLK orI
  congr 1
  rcases compareInt_cases x.1 y.1 with ⟨h1, e1⟩ | ⟨h1, e1⟩ | ⟨h1, e1⟩ <;> rcases compareInt_cases x.2 y.2 with ⟨h2, e2⟩ | ⟨h2, e2⟩ | ⟨h2, e2⟩ <;> simp [e1, e2] <;> omega
theorem swoLK : Go.Sort.SWO (Go.Proofs.ltOf cmpLK) where
  irrefl x := by rw [ltLK]; simp
  trans x y z h1 h2 := by rw [ltLK] at *; simp at *; omega
  ntrans x y z h1 h2 := by rw [ltLK] at *; simp at *; omega

set_option maxRecDepth 100000 in
set_option maxHeartbeats 2000000 in
theorem sort_call {base : Nat} (v : Value) (ks : List LK) (w : World) (h : OwL base w v ks) (hbw : base ≤ w.heap.size) (hlen : ks.length ≤ 1048576) :
    Calls Try.prog 32 #[v, .func (.func 27) #[] #[]] w fun e w' => e = .returned (.tuple #[]) ∧ ∃ ks', OwL base w' v ks' ∧ ks'.Perm ks ∧ ks'.Pairwise (fun x y => Go.Proofs.ltOf cmpLK y x = false) ∧ ks'.length = ks.length ∧ Below base w w' := by
  cases hks : ks with
  | nil =>
    subst hks
    obtain ⟨a, c, rfl⟩ : ∃ a c, v = .slice a 0 c := by
      rcases h.2 with ⟨hv, _⟩ | ⟨g, cap, cur, hv, _⟩
      · exact ⟨_, _, hv⟩
      · exact ⟨_, _, hv⟩
    refine (sortFunc_none a c _ w).mono ?_
    rintro e w' ⟨rfl, hb⟩
    refine ⟨rfl, [], own_below h hb, List.Perm.nil, List.Pairwise.nil, rfl, hb.mono hbw⟩
  | cons k0 kr =>
    rw [← hks]
    have hne : 0 < ks.length := by rw [hks]; simp
    clear hks
    rcases h.2 with ⟨_, h0⟩ | ⟨g, cap, cur, rfl, hg, hb, h1, h2, h3, h4⟩
    · omega
    have eg : ∀ args w, (callFunc 27 args).run Try.prog w = .ok (.enter 27 args) w := enters_of Try.func27 (by kernel_rfl) rfl
    have hcmp : Go.Proofs.CmpLays Try.prog 27 #[] lkC 2 cmpLK g 0 ks.toArray.size w := fun m os dk _ x y => links1_call x y _
    have hH := holdsK_of_block (enc := lkC) (k := 2) (fun _ => rfl) hb h4
    have hcon := Go.Proofs.AnyQ.slices_SortFunc sortLk 2 Try.isAgg29 Try.sizeOf29 lkC (fun _ => rfl) (fun x v hv => by simp [lkC] at hv; rcases hv with rfl | rfl <;> rfl) cmpLK swoLK 27 #[] g 0 cap ks.toArray w eg hcmp hH (Array.getElem?_eq_some_iff.1 hb).1 (by simp; omega)
    change Calls Try.prog 32 _ _ _ at hcon
    refine Calls.mono hcon ?_
    rintro e w' ⟨rfl, d', n, os, ⟨hs, _, hp⟩, hsort, rfl⟩
    have hs' : d'.size = ks.length := by simpa using hs
    have e1 : d'.extract 0 ks.toArray.size = d' := by rw [← hs]; simp
    have e2 : ks.toArray.extract 0 ks.toArray.size = ks.toArray := by simp
    rw [e1, e2] at hp
    refine ⟨rfl, d'.toList, ?_, by simpa using hp, ?_, by simpa using hs', (RowKit.Below.refl base w).grown (grownBy_sortedK (enc := lkC) (k := 2) d') hbw (fun j hj => by cases hj; exact hg)⟩
    · have := ownsRow_sortedK (enc := lkC) (k := 2) (fun _ => rfl) (n := n) (os := os) (l := ks) (l' := d'.toList) (by simpa using hs') hg hb h1 h2 h3
      unfold OwL
      rw [show d'.toList.length = ks.length by simpa using hs']
      simpa using this
    · rw [List.pairwise_iff_getElem]
      intro i j hi hj hij
      have hi' : i < d'.size := by simpa using hi
      have hj' : j < d'.size := by simpa using hj
      have := hsort i j (Nat.zero_le _) hij (by rw [← hs]; exact hj')
      rw [getElem!_pos d' i hi', getElem!_pos d' j hj'] at this
      simpa using this

/-- What Links hands back: the keys, each once, in order. -/
def LinksQ (base : Nat) (L : Ways) (w : World) (e : Ending) (w' : World) : Prop :=
  ∃ v ks, e = .returned v ∧ OwL base w' v ks ∧ ks.Perm (L.map (·.1)) ∧ ks.Pairwise (fun x y => Go.Proofs.ltOf cmpLK y x = false) ∧ RowKit.Below base w w'

set_option maxRecDepth 100000 in
set_option maxHeartbeats 2000000 in
theorem links_call {base p mw ma : Nat} {L : Ways} {C : List (LK × Bool)} {n lost : Int} (w : World) (h : NetB base p mw ma L C n lost w) (hL : L.length ≤ 1048576) :
    Calls Try.prog 11 #[.pointer (some ⟨p, 0, none⟩)] w (LinksQ w.heap.size L w) := by
  have HN := Lib.hid h
  have p0 : w.cell? ⟨p, 0, none⟩ = some (.map (some mw)) := by rw [cell_of h.blk]; rfl
  clear h
  have hkeys : Calls Try.prog 26 #[.map (some mw)] w fun e w' => e = .returned (.func (.func 33) #[] #[.pointer (some ⟨w.heap.size, 0, none⟩)]) ∧ w' = w.alloc (.cells #[.map (some mw)] 53) := by
    go_enter Try.func26, Try.ntmps26
    go_wp2_with fail
    go_ret
    exact ⟨rfl, rfl⟩
  have hsorted : ∀ (W : World), W.cell? ⟨w.heap.size, 0, none⟩ = some (.map (some mw)) → MapW W mw L → Calls Try.prog 25 #[.func (.func 33) #[] #[.pointer (some ⟨w.heap.size, 0, none⟩)], .func (.func 27) #[] #[]] W (LinksQ W.heap.size L W) := by
    intro W hb hm
    have HC := Lib.hid (collect_call W hb hm hL)
    clear hb hm p0 hkeys
    go_enter Try.func25, Try.ntmps25
    go_wp2_with (first
      | (go_at_call 31; refine HC.out.mono ?_; rintro e w1 ⟨v, ks, rfl, h1, h2, h3⟩)
      | (go_at_call 32; refine (sort_call v ks _ h1 h3.size (by rw [h2.length_eq]; simpa using hL)).mono ?_; rintro e w2 ⟨rfl, ks', h4, h5, h6, h7, h8⟩))
    go_ret
    refine ⟨v, ks', rfl, h4, h5.trans h2, h6, h3.trans h8⟩
  have HK := Lib.hid hkeys
  have HS := Lib.hid hsorted
  clear hkeys hsorted
  go_enter Try.func11, Try.ntmps11
  go_wp2_with (first
    | (go_at_call 26; refine HK.out.mono ?_; rintro e w1 ⟨rfl, rfl⟩)
    | (go_at_call 25; refine (HS.out _ (by rw [cell_of (alloc_at _ _)]; rfl) ((HN.out.more _).ways)).mono ?_; rintro e w2 ⟨v, ks, rfl, h1, h2, h3, h4⟩))
  go_ret
  exact ⟨v, ks, rfl, own_mono h1 (by simp), h2, h3, ((RowKit.Below.refl w.heap.size w).alloc (Nat.le_refl _) _).trans (h4.mono (by simp))⟩
end Go.Proofs.Ythpdenmbcjngkaa
