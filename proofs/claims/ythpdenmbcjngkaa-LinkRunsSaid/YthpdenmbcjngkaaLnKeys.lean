/- maps.Keys of an empty map, collected: no element. -/
import Derived.Test.YthpdenmbcjngkaaLnSort
import Derived.RangeFuncNested
import Derived.RangeFuncBound
import Derived.RangeFuncCalls
import Derived.RangeFuncLeaves
import Derived.RangeFuncBox
import Derived.Shelf.Abstract
import Derived.Shelf.RegionOpen
import Derived.OwnWalkIn
import Derived.TacticsInMore
import Derived.LoopNIn
import Derived.LoopIn
namespace Go.Proofs.Ythpdenmbcjngkaa
open Go.RowKit Go.Shelf Go.Maps
attribute [local go_sem] Oper.semAt_some

def encE (x : Empty) : Array Value := nomatch x

set_option maxRecDepth 100000 in
set_option maxHeartbeats 2000000 in
theorem keys1_in (F : Fence) (n : Nat) (hF : F.fn 33) (hro : F.round = none) (lp Bs mw : Nat) (J : List Empty → World → Prop) (W : World) (hJ : AbidesFrom W.heap.size J)
    (hBs : W.cell? ⟨Bs, 0, none⟩ = some (.map (some mw))) (hm : MapW W mw []) (h0 : J [] W) :
    CallsIn F n Try.prog 33 #[.func (.yield lp) #[] #[], .pointer (some ⟨Bs, 0, none⟩)] W fun e W' => (∃ v, e = .returned v) ∧ J [] W' := by
  obtain ⟨W1, hrun, hR, hg, hsz⟩ := hm.range (t := 53) (e := 57) Try.underlying53
  have hJ1 : J [] W1 := hJ [] W W1 none h0 hg (fun r hr => by cases hr)
  have hnx : (Instr.next (.pointer (some ⟨W.heap.size, 0, none⟩)) false 0).run Try.prog W1 = .ok (.tuple #[.bool false]) W1 := by
    rcases hR.next lkV_inj 0 with ⟨_, h⟩ | ⟨p, _, hp, _⟩
    · exact h
    · cases hp
  have HJ := Lib.hid hJ1
  clear hJ hJ1 hR hg hsz hm h0
  refine callsIn_of_wp Try.func33 rfl hF ?_ hro
  simp only [Try.ntmps33, List.size_toArray, List.length_cons, List.length_nil, Nat.reduceAdd, Nat.reduceSub, Array.replicate_succ, Array.replicate_zero, List.push_toArray, List.append_toArray, List.nil_append, List.cons_append]
  gi_wp2
  gi_loopw [3] (fun _ wr => wr = W1) (fun _ _ => 0)
  case atStart => rfl
  case round =>
    obtain rfl := hrel
    gi_wp2
    go_end0
    exact ⟨⟨_, rfl⟩, HJ.out⟩

def markL (Ds : List Nat) : List Deferred := Ds.map fun D => { target := .collected D, args := #[] }

theorem leaves_marks {P : Program} {F : Fence} {n : Nat} {fn : Func} {tmps : Array Value} {R : Ending → World → Prop} : ∀ (Ds : List Nat) (w : World), (∀ D ∈ Ds, w.heap[D]? = some (.deferred (some []))) → Ds.Nodup →
    (∀ w' : World, w'.os = w.os → w'.tape = w.tape → w'.output = w.output → w'.heap.size = w.heap.size → (∀ k, k ∉ Ds → w'.heap[k]? = w.heap[k]?) → LeavesIn F n P fn tmps R [] .returning w') → LeavesInM F n P fn tmps R (markL Ds) .returning w
  | [], w, _, _, h => h w rfl rfl rfl rfl (fun _ _ => rfl)
  | D :: Ds, w, hD, hn, h => by
    refine ⟨by simp, .inl ⟨D, w.putObj D (.deferred none), rfl, run_takeDeferred (hD D (by simp)), ?_⟩⟩
    have hnd := List.nodup_cons.1 hn
    have hput : ∀ k, k ≠ D → (w.putObj D (.deferred none)).heap[k]? = w.heap[k]? := fun k hk => by
      unfold World.putObj; simp only [Array.getElem?_setIfInBounds]; rw [if_neg (fun e => hk e.symm)]
    refine leaves_marks Ds _ (fun D' h' => by rw [hput D' (fun e => hnd.1 (e ▸ h'))]; exact hD D' (by simp [h'])) hnd.2 (fun w' h1 h2 h3 h4 h5 => h w' (h1.trans rfl) (h2.trans rfl) (h3.trans rfl) (by rw [h4]; simp [World.putObj]) (fun k hk => by
      rw [h5 k (fun e => hk (by simp [e])), hput k (fun e => hk (by simp [e]))]))

theorem keep_cells {A B : World} {row : Option Nat} {b : Nat} {cs : Array Value} {T : TypeId} (h : A.heap[b]? = some (.cells cs T)) (hg : A.grownBy B row) (hr : ∀ r, row = some r → ∃ o : Obj, A.heap[r]? = some o ∧ o.isCells = false) : B.heap[b]? = some (.cells cs T) := by
  rw [hg.block b (Array.getElem?_eq_some_iff.1 h).1 (fun e => by
    obtain ⟨o, ho, hc⟩ := hr b e.symm
    rw [h] at ho; cases ho; cases hc)]
  exact h

theorem keys_seq {Bs mw : Nat} {w : World} (hb : w.cell? ⟨Bs, 0, none⟩ = some (.map (some mw))) (hm : MapW w mw []) :
    SeqStopsK Fence.wide 7 Try.prog 33 #[.pointer (some ⟨Bs, 0, none⟩)] encE (fun _ _ => True) (fun _ => True) (fun _ => False) 0 w := fun lp J _ W hW hJ _ _ h0 =>
  (keys1_in Fence.wide 7 trivial rfl lp Bs mw J W hJ (cell_later hW hb) (hm.below hW hm.lt) h0).mono fun _ _ ⟨h1, h2⟩ => ⟨h1, .inl ⟨[], trivial, h2⟩⟩

set_option maxRecDepth 100000 in
set_option maxHeartbeats 2000000 in
theorem appendSeq_none {Bs mw : Nat} (w : World) (hb : w.cell? ⟨Bs, 0, none⟩ = some (.map (some mw))) (hm : MapW w mw []) :
    Calls Try.prog 35 #[.slice none 0 0, .func (.func 33) #[] #[.pointer (some ⟨Bs, 0, none⟩)]] w fun e w' => e = .returned (.slice none 0 0) ∧ Below w.heap.size w w' := by
  have HB := Lib.hid ((Below.refl w.heap.size w).alloc (Nat.le_refl _) (.cells #[.slice none 0 0] 34))
  have HX := Lib.hid (alloc_at w (.cells #[.slice none 0 0] 34))
  have HQ := Lib.hid (keys_seq (cell_later HB.out hb) (hm.below HB.out hm.lt))
  clear hb hm
  refine (callsIn_wide (n := 8)).1 ?_
  refine callsIn_of_wp_marks Try.func35 rfl trivial ?_ rfl
  simp only [Try.ntmps35, List.size_toArray, List.length_cons, List.length_nil, Nat.reduceAdd, Nat.reduceSub, Array.replicate_succ, Array.replicate_zero, List.push_toArray, List.append_toArray, List.nil_append, List.cons_append]
  gi_wp2_with fail
  generalize w.alloc (.cells #[.slice none 0 0] 34) = w0 at *
  refine wpIn_rangeFunc_ownH rfl (by omega) (gf := 33) (lb := #[.pointer (some ⟨Bs, 0, none⟩)]) rfl trivial (enters_of Try.func33 (by kernel_rfl) rfl)
    HQ.out (fun _ _ => trivial) (fun _ _ _ _ _ _ _ _ => trivial) (Below.refl _ _) (fun x => nomatch x)
    (fun _ W => W.heap[w.heap.size]? = some (.cells #[.slice none 0 0] 34) ∧ Below w.heap.size w W)
    (fun _ _ _ => False)
    (fun pre A B row hs hg hr => ⟨keep_cells hs.1 hg (fun r e => (hr r e).2), hs.2.grown hg hs.2.size (fun j hj => Nat.le_trans HB.out.size (hr j hj).1)⟩)
    (fun _ pre A B row hs _ _ => hs) ⟨HX.out, HB.out⟩ (fun _ _ _ => True) (fun x => nomatch x)
    (fun l pre x => nomatch x) (fun l pre x => nomatch x) ?done (fun _ _ _ _ _ h => h.elim)
  case done =>
    rintro D ys W hD - ⟨h1, h2⟩ hK
    have HK := Lib.hid hK
    have HH := Lib.hid h2
    have c0 : W.cell? ⟨w.heap.size, 0, none⟩ = some (.slice none 0 0) := by rw [cell_of h1]; rfl
    clear h1 h2 hK
    gi_wp2
    refine leaves_marks [D] W (fun D' hD' => by simp at hD'; subst hD'; exact HK.out) (by simp) (fun w' h1 h2 h3 h4 h5 => ?_)
    have hb : Below w.heap.size w w' := ⟨h1.trans HH.out.os, h2.trans HH.out.tape, h3.trans HH.out.output, by rw [h4]; exact HH.out.size, fun k hk => (h5 k (fun hD' => by simp at hD'; have := HB.out.size; omega)).trans (HH.out.block k hk)⟩
    exact ⟨.slice none 0 0, by simp [results, Try.f35, go_sem], rfl, hb⟩

set_option maxRecDepth 100000 in
set_option maxHeartbeats 2000000 in
theorem links_none {base p mw ma : Nat} {C : List (LK × Bool)} {n lost : Int} (w : World) (h : NetB base p mw ma [] C n lost w) :
    Calls Try.prog 11 #[.pointer (some ⟨p, 0, none⟩)] w fun e w' => e = .returned (.slice none 0 0) ∧ Below w.heap.size w w' := by
  have HN := Lib.hid h
  have p0 : w.cell? ⟨p, 0, none⟩ = some (.map (some mw)) := by rw [cell_of h.blk]; rfl
  clear h
  have hkeys : Calls Try.prog 26 #[.map (some mw)] w fun e w' => e = .returned (.func (.func 33) #[] #[.pointer (some ⟨w.heap.size, 0, none⟩)]) ∧ w' = w.alloc (.cells #[.map (some mw)] 53) := by
    go_enter Try.func26, Try.ntmps26
    go_wp2_with fail
    go_ret
    exact ⟨rfl, rfl⟩
  have hsorted : ∀ (W : World) (f : Value), W.cell? ⟨w.heap.size, 0, none⟩ = some (.map (some mw)) → MapW W mw [] → Calls Try.prog 25 #[.func (.func 33) #[] #[.pointer (some ⟨w.heap.size, 0, none⟩)], f] W fun e W' => e = .returned (.slice none 0 0) ∧ Below W.heap.size W W' := by
    intro W f hb hm
    have hcollect : Calls Try.prog 31 #[.func (.func 33) #[] #[.pointer (some ⟨w.heap.size, 0, none⟩)]] W fun e W' => e = .returned (.slice none 0 0) ∧ Below W.heap.size W W' := by
      have HA := Lib.hid (appendSeq_none W hb hm)
      clear hb hm p0 hkeys
      go_enter Try.func31, Try.ntmps31
      go_wp2_with (go_at_call 35; refine HA.out.mono ?_; rintro e w1 ⟨rfl, hb1⟩)
      go_ret
      exact ⟨rfl, hb1⟩
    have HC := Lib.hid hcollect
    clear hb hm p0 hkeys hcollect
    go_enter Try.func25, Try.ntmps25
    go_wp2_with (first
      | (go_at_call 31; refine HC.out.mono ?_; rintro e w1 ⟨rfl, hb1⟩)
      | (go_at_call 32; refine (sortFunc_none none 0 _ _).mono ?_; rintro e w2 ⟨rfl, hb2⟩))
    go_ret
    exact ⟨rfl, hb1.trans (hb2.mono hb1.size)⟩
  have HK := Lib.hid hkeys
  have HS := Lib.hid hsorted
  clear hkeys hsorted
  go_enter Try.func11, Try.ntmps11
  go_wp2_with (first
    | (go_at_call 26; refine HK.out.mono ?_; rintro e w1 ⟨rfl, rfl⟩)
    | (go_at_call 25; refine (HS.out _ _ (by rw [cell_of (alloc_at _ _)]; rfl) ((HN.out.more _).ways)).mono ?_; rintro e w2 ⟨rfl, hb2⟩))
  go_ret
  exact ⟨rfl, ((Below.refl w.heap.size w).alloc (Nat.le_refl _) _).trans (hb2.mono (by simp))⟩
end Go.Proofs.Ythpdenmbcjngkaa
