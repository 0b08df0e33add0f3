/- maps.Keys of the map of those who wait, collected. -/
import Derived.Test.YtbadpfcjoobniaaMvData
import Derived.RangeFuncNested
import Derived.RangeFuncBound
import Derived.RangeFuncCalls
import Derived.RangeFuncLeaves
import Derived.RangeFuncBox
import Derived.Shelf.Abstract
import Derived.Shelf.RegionOpen
import Derived.OwnWalkIn
import Derived.TacticsInMore
import Derived.LoopNIn
import Derived.LoopIn
import Derived.Test.YtbadpfcjoobniaaMemIn
namespace Go.Proofs.Ytbadpfcjoobniaa
open Go.RowKit Go.Shelf Go.Maps
attribute [local go_sem] Oper.semAt_some

abbrev encK (x : Int) : Array Value := #[vi x]
def markL (Ds : List Nat) : List Deferred := Ds.map fun D => { target := .collected D, args := #[] }

theorem leaves_marks {P : Program} {F : Fence} {n : Nat} {fn : Func} {tmps : Array Value} {R : Ending → World → Prop} : ∀ (Ds : List Nat) (w : World), (∀ D ∈ Ds, w.heap[D]? = some (.deferred (some []))) → Ds.Nodup →
    (∀ w' : World, w'.os = w.os → w'.tape = w.tape → w'.output = w.output → w'.heap.size = w.heap.size → (∀ k, k ∉ Ds → w'.heap[k]? = w.heap[k]?) → LeavesIn F n P fn tmps R [] .returning w') → LeavesInM F n P fn tmps R (markL Ds) .returning w
  | [], w, _, _, h => h w rfl rfl rfl rfl (fun _ _ => rfl)
  | D :: Ds, w, hD, hn, h => by
    refine ⟨by simp, .inl ⟨D, w.putObj D (.deferred none), rfl, run_takeDeferred (hD D (by simp)), ?_⟩⟩
    have hnd := List.nodup_cons.1 hn
    have hput : ∀ k, k ≠ D → (w.putObj D (.deferred none)).heap[k]? = w.heap[k]? := fun k hk => by
      unfold World.putObj; simp only [Array.getElem?_setIfInBounds]; rw [if_neg (fun e => hk e.symm)]
    refine leaves_marks Ds _ (fun D' h' => by rw [hput D' (fun e => hnd.1 (e ▸ h'))]; exact hD D' (by simp [h'])) hnd.2 (fun w' h1 h2 h3 h4 h5 => h w' (h1.trans rfl) (h2.trans rfl) (h3.trans rfl) (by rw [h4]; simp [World.putObj]) (fun k hk => by
      rw [h5 k (fun e => hk (by simp [e])), hput k (fun e => hk (by simp [e]))]))

theorem keep_cells {A B : World} {row : Option Nat} {b : Nat} {cs : Array Value} {T : TypeId} (h : A.heap[b]? = some (.cells cs T)) (hg : A.grownBy B row) (hr : ∀ r, row = some r → ∃ o : Obj, A.heap[r]? = some o ∧ o.isCells = false) : B.heap[b]? = some (.cells cs T) := by
  rw [hg.block b (Array.getElem?_eq_some_iff.1 h).1 (fun e => by
    obtain ⟨o, ho, hc⟩ := hr b e.symm
    rw [h] at ho; cases ho; cases hc)]
  exact h

theorem nodup_le {α : Type} [DecidableEq α] : ∀ (V L : List α), V.Nodup → (∀ x ∈ V, x ∈ L) → V.length ≤ L.length
  | [], _, _, _ => Nat.zero_le _
  | x :: V, L, h, hs => by
    have hx := hs x (by simp)
    have h2 := List.nodup_cons.1 h
    have := nodup_le V (L.erase x) h2.2 (fun y hy => (List.mem_erase_of_ne (fun e : y = x => h2.1 (by rw [← e]; exact hy))).2 (hs y (by simp [hy])))
    rw [List.length_erase_of_mem hx] at this
    have := List.length_pos_of_mem hx
    simp only [List.length_cons]; omega

theorem RangeT.obj {κ ν : Type} {P : Program} {k : TypeId} {eK : κ → Value} {eV : ν → Value} {w : World} {b r : Nat} {L V : List (κ × ν)} (h : RangeT P k eK eV w b r L V) : (∃ o, w.heap[r]? = some o ∧ o.isWalk = true) ∧ (∃ o, w.heap[b]? = some o ∧ o.isWalk = true) := by
  obtain ⟨es, clock, since, seen, c0, hb, _, _, _, hr, _⟩ := h
  exact ⟨⟨_, hr, rfl⟩, ⟨_, hb, rfl⟩⟩
theorem RangeT.walks {κ ν : Type} {P : Program} {k : TypeId} {eK : κ → Value} {eV : ν → Value} {w w' : World} {b r : Nat} {L V : List (κ × ν)} (h : RangeT P k eK eV w b r L V) (hk : KeepsWalks w w') : RangeT P k eK eV w' b r L V ∧ w'.rangeLeft b r = w.rangeLeft b r := by
  obtain ⟨⟨o, ho, hw⟩, ⟨o2, ho2, hw2⟩⟩ := h.obj
  have e1 : w'.heap[b]? = w.heap[b]? := (hk.same _ _ ho2 hw2).trans ho2.symm
  have e2 : w'.heap[r]? = w.heap[r]? := (hk.same _ _ ho hw).trans ho.symm
  exact ⟨h.frame e1 e2, rangeLeft_frame e1 e2⟩
theorem RangeT.sub {κ ν : Type} {P : Program} {k : TypeId} {eK : κ → Value} {eV : ν → Value} {w : World} {b r : Nat} {L V : List (κ × ν)} (h : RangeT P k eK eV w b r L V) : (∀ p ∈ V, p ∈ L) ∧ V.Pairwise (fun p q => p.1 ≠ q.1) := by
  obtain ⟨es, clock, since, seen, c0, _, _, _, _, _, _, _, _, _, h1, h2⟩ := h
  exact ⟨h1, h2⟩
theorem keys_nodup {ν : Type} {L : List (Int × ν)} (h : L.Pairwise (fun p q => p.1 ≠ q.1)) : (L.map (·.1)).Nodup := by
  rw [List.nodup_iff_pairwise_ne]
  exact List.pairwise_map.2 h

set_option maxRecDepth 100000 in
set_option maxHeartbeats 2000000 in
theorem keysN_in (F : Fence) (n : Nat) (hF : F.fn 69) (hro : F.round = none) (hn : 1 ≤ n) (lp Bs mw : Nat) (L : RdyL) (J Jx : List Int → World → Prop)
    (hY : ∀ pre x W, J pre W → pre.length < L.length → YieldAt F (n - 1) Try.prog lp (encK x) W fun e W' =>
      (e = .returned (.bool true) ∧ J (pre ++ [x]) W' ∧ KeepsWalks W W') ∨ (e = .returned (.bool false) ∧ Jx (pre ++ [x]) W'))
    (W : World) (hJ : AbidesFrom W.heap.size J) (hBs : W.cell? ⟨Bs, 0, none⟩ = some (.map (some mw))) (hm : MapR W mw L) (h0 : J [] W) :
    CallsIn F n Try.prog 69 #[.func (.yield lp) #[] #[], .pointer (some ⟨Bs, 0, none⟩)] W fun e W' => (∃ v, e = .returned v) ∧
      ((∃ ys, ys.Perm (L.map (·.1)) ∧ J ys W') ∨ (∃ pre : List Int, True ∧ Jx pre W')) := by
  obtain ⟨W1, hrun, hR, hg, hsz⟩ := hm.range (t := 92) (e := 29) Try.underlying92
  have hJ1 : J [] W1 := hJ [] W W1 none h0 hg (fun r hr => by cases hr)
  have HJ1 := Lib.hid hJ1
  have HJ := Lib.hid hJ
  have HY := Lib.hid hY
  have HR := Lib.hid hR
  have HND := Lib.hid (keys_nodup hm.pairwise)
  clear hJ hJ1 hR hg hsz hm h0 hY
  refine callsIn_of_wp Try.func69 rfl hF ?_ hro
  simp only [Try.ntmps69, List.size_toArray, List.length_cons, List.length_nil, Nat.reduceAdd, Nat.reduceSub, Array.replicate_succ, Array.replicate_zero, List.push_toArray, List.append_toArray, List.nil_append, List.cons_append]
  gi_wp2
  gi_loopw [3] (fun _ wr => ∃ V, RangeT Try.prog 3 vi rdyV wr mw W.heap.size L V ∧ J (V.map (·.1)) wr) (fun _ wr => wr.rangeLeft mw W.heap.size)
  case atStart => exact ⟨[], HR.out, HJ1.out⟩
  case round =>
    obtain ⟨V, hR, hJs⟩ := hrel
    have HV := Lib.hid hR.sub
    have HO := Lib.hid hR.obj
    rcases hR.next vi_inj 0 with ⟨hall, hnx⟩ | ⟨p, w2, hp, hfr, hnx, hR2, hlt, hg2, hs2, hen⟩
    · have HP := Lib.hid (show (V.map (·.1)).Perm (L.map (·.1)) from (List.perm_ext_iff_of_nodup (keys_nodup HV.out.2) HND.out).2 fun a => by
        rw [List.mem_map, List.mem_map]
        exact ⟨fun ⟨x, h1, h2⟩ => ⟨x, HV.out.1 x h1, h2⟩, fun ⟨x, h1, h2⟩ => ⟨x, hall x h1, h2⟩⟩)
      have HJS := Lib.hid hJs
      clear hall hR hJs
      gi_wp2
      go_end0
      exact ⟨⟨_, rfl⟩, .inl ⟨_, HP.out, HJS.out⟩⟩
    · have hJ2 : J (V.map (·.1)) w2 := HJ.out _ wr w2 (some W.heap.size) hJs hg2 (fun r e => by cases e; exact ⟨Nat.le_refl _, HO.out.1⟩)
      have hlen : (V.map (·.1)).length < L.length := by
        have h1 := hR2.sub
        have := nodup_le ((V ++ [p]).map (·.1)) (L.map (·.1)) (keys_nodup h1.2) (fun x hx => by
          rw [List.mem_map] at hx ⊢
          obtain ⟨y, h2, h3⟩ := hx
          exact ⟨y, h1.1 y h2, h3⟩)
        simp at this ⊢; omega
      have HR2 := Lib.hid hR2
      have HLT := Lib.hid hlt
      obtain ⟨fn, tmps, assign, body, hy, hRd⟩ := HY.out _ p.1 _ hJ2 hlen
      clear hR hJs hR2 hlt hg2 hs2 hfr hlen hJ2
      gi_wp2
      refine hRd.mono ?_
      rintro e W3 (⟨rfl, hJ4, hk4⟩ | ⟨rfl, hJx4⟩)
      · obtain ⟨h3, h4⟩ := HR2.out.walks hk4
        have H3 := Lib.hid h3
        have H4 := Lib.hid h4
        have HJ4 := Lib.hid hJ4
        clear h3 h4 hJ4 hk4
        gi_wp2
        go_roundw
        case rel => exact ⟨V ++ [p], H3.out, by simpa using HJ4.out⟩
        case measure => rw [H4.out]; exact HLT.out
      · have HX := Lib.hid hJx4
        clear hJx4
        gi_wp2
        refine bodyPost_ret (results_none rfl _ _ _) rfl ?_
        exact ⟨⟨_, rfl⟩, .inr ⟨_, trivial, HX.out⟩⟩

theorem keysN_seq (F : Fence) (n : Nat) (hF : F.fn 69) (hro : F.round = none) (hn : 1 ≤ n) {Bs mw : Nat} {L : RdyL} {w : World} (hb : w.cell? ⟨Bs, 0, none⟩ = some (.map (some mw))) (hm : MapR w mw L) :
    SeqStopsK F n Try.prog 69 #[.pointer (some ⟨Bs, 0, none⟩)] encK KeepsWalks (fun ys => ys.Perm (L.map (·.1))) (fun _ => True) L.length w := fun lp J Jx W hW hJ _ hY h0 =>
  keysN_in F n hF hro hn lp Bs mw L J Jx hY W hJ (cell_later hW hb) (hm.below hW hm.lt) h0
end Go.Proofs.Ytbadpfcjoobniaa
