/- Texts of one proof, one behind the other: Mem, CtN, CtV, CkL0, L12t. -/
import Derived.WalkKit
import Derived.Outline
import Derived.Lib.Hide
import Derived.Laws.AppendOwnNone
import Derived.WalkSpells
import Derived.WalkLawsBesides
import Derived.BigQuiet
import Derived.Deep.QuietTactic
import Derived.Deep.RegionWith
import Derived.Deep.RegionHeld3
import Derived.Deep.LoopGhost
import Derived.Deep.DeepFit
import Derived.Deep.RegionLaw
import Derived.StillTailTactics
import Derived.Deep.DeepCutAuto
import Derived.Lib.AppendZeros
import Derived.Test.YtnacoplokjdglaaGreatKe1
import Derived.Test.YtnacoplokjdglaaGreatKe2
import Derived.Test.YtnacoplokjdglaaGreatKe3
import Derived.Test.YtnacoplokjdglaaGreatKe4
import Derived.Test.YtnacoplokjdglaaGreatKe5
import Derived.Test.YtnacoplokjdglaaGreatKe6
import Derived.Test.YtnacoplokjdglaaGreatKe7
import Derived.Test.YtnacoplokjdglaaGreatKe8
import Derived.Test.YtnacoplokjdglaaGreatKe9
import Derived.Test.YtnacoplokjdglaaGreatKe10
import Derived.Test.YtnacoplokjdglaaGreatKe11
import Derived.Test.YtnacoplokjdglaaGreatKe12
import Derived.Test.YtnacoplokjdglaaGreatKe13
import Derived.Test.YtnacoplokjdglaaGreatKe14
import Derived.Test.YtnacoplokjdglaaGreatKe15
import Derived.Test.YtnacoplokjdglaaGreatKe16
import Derived.Test.YtnacoplokjdglaaGreatKe17
import Derived.Test.YtnacoplokjdglaaGreatKe18
import Derived.Test.YtnacoplokjdglaaGreatKe19
import Derived.Test.YtnacoplokjdglaaGreatKe20
import Derived.Test.YtnacoplokjdglaaGreatKe21
import Derived.Test.YtnacoplokjdglaaGreatKe22
import Derived.Test.YtnacoplokjdglaaGreatKe23
set_option linter.all false
namespace Go.Proofs.YtnacoplokjdglaaGreat
open Go.RowKit
theorem own_src {w : World} {base e size n : Nat} {v : Value} {xs : List Value} (h : w.ownsRow base e size v n xs) : Src w v size n xs := by
  obtain ⟨h1, h2⟩ := id h
  rcases h2 with ⟨hv, h0⟩ | ⟨g, cap, cur, hv, hg, hh, hn, hm, hs, ht⟩
  · subst h0
    exact ⟨none, 0, hv, h1, fun _ => ⟨rfl, rfl⟩, fun ad h => by cases h⟩
  · refine ⟨some ⟨g, 0, none⟩, cap, hv, h1, fun h => (by cases h), fun ad had j u hu => ?_⟩
    cases had
    exact World.ownsRow.cells h (g := g) (by rw [hv]; rfl) j u hu

theorem Src.below {w w' : World} {x : Value} {size m : Nat} {news : List Value} (h : Src w x size m news) (hb : Below w.heap.size w w') : Src w' x size m news := by
  obtain ⟨a, c, h1, h2, h3, h4⟩ := h
  refine ⟨a, c, h1, h2, h3, fun ad had j u hu => ?_⟩
  have := h4 ad had j u hu
  rw [hb.cell (World.block_lt_of_cell? w _ this)]
  exact this

end Go.Proofs.YtnacoplokjdglaaGreat

namespace Go.Proofs.YtnacoplokjdglaaGreat
open Go.RowKit Go.Maps

theorem treeC_more {ts : List GTxn} {level : Int} : ∀ {n : Nat} {L : FaL} {l r : List (List Int)}, treeC ts level n L l = some r → ∀ (m : Nat) (s : List (List Int)), n ≤ m → treeC ts level m L (l ++ s) = some (r ++ s)
  | 0, L, [], r, h => by simp [treeC] at h
  | 0, L, C :: l, r, h => by simp [treeC] at h
  | n + 1, L, [], r, h => by simp [treeC] at h
  | n + 1, L, C :: l, r, h => by
    intro m s hm
    match m, hm with
    | m + 1, hm =>
      show treeC ts level (m + 1) L (C :: (l ++ s)) = some (r ++ s)
      rw [treeC] at h ⊢
      split at h
      · rename_i h0
        rw [if_pos h0]
        split at h
        · rename_i hc
          cases h
          rw [if_pos hc]
        · cases h
      · rename_i h0
        rw [if_neg h0]
        cases hx : nextM ts L with
        | none => rw [hx] at h; cases h
        | some c =>
          rw [hx] at h
          simp only at h ⊢
          cases h1 : treeC ts level n ((c, true) :: L) l with
          | none => rw [h1] at h; cases h
          | some r1 =>
            rw [h1] at h
            simp only at h
            rw [treeC_more h1 m s (by omega)]
            simp only
            exact treeC_more h m s (by omega)
/-- One too few doesn't. -/
theorem tree0_short {ts : List GTxn} {level : Int} {l : List (List Nat)} {l' : List (List Int)} {x : List Int} (hr : (tree0 ts level).res = false) (hn : Nodes ts level (tree0 ts level) l) (hl : nodesI l = l' ++ [x]) : treeC ts level l'.length [] l' = none := by
  cases h : treeC ts level l'.length [] l' with
  | none => rfl
  | some r =>
    have h1 := treeC_more h (nodesI l ++ []).length [x] (by rw [List.append_nil, hl]; simp)
    have h2 := tree0_holds hr hn []
    rw [List.append_nil] at h1 h2
    rw [← hl, h2] at h1
    simp at h1
end Go.Proofs.YtnacoplokjdglaaGreat

namespace Go.Proofs.YtnacoplokjdglaaGreat
open Go.RowKit Go.Maps

/-- Steps: where each lies, and what it says. -/
abbrev NdL := List (Value × List Int)
def RdP (W : World) (P : NdL) : Prop := ∀ p ∈ P, RdInts W p.1 p.2
theorem RdP.later {A B : World} {P : NdL} (h : RdP A P) (hb : Below A.heap.size A B) : RdP B P := fun p hp => RdS.below (h p hp) hb fun _ _ h => h
theorem flat_oneP : ∀ T : NdL, T.flatMap (fun q => [q.1]) = T.map (·.1)
  | [] => rfl
  | a :: T => by rw [List.flatMap_cons, flat_oneP T]; rfl
theorem nodes_of_row {N : Nat} {W : World} {v : Value} {P : NdL} (h : W.ownsRow N 70 1 v P.length (P.map (·.1))) (hp : RdP W P) : RdNodes W v (P.map (·.2)) := by
  rw [← flat_oneP] at h
  obtain ⟨a, len, cap, e1, e2, e3, e4, e5, e6⟩ := rds_of_own (V := fun q : Value × List Int => [q.1]) (fun _ => rfl) h
  refine ⟨a, len, cap, e1, by simpa using e2, by simpa using e3, e4, e5, fun j x hj => ?_⟩
  rw [List.getElem?_map, Option.map_eq_some_iff] at hj
  obtain ⟨q, hq, rfl⟩ := hj
  obtain ⟨b, off, cs, g1, g2, g3, rfl⟩ := e6 j q hq
  exact ⟨b, off, _, g1, g2, g3, q.1, rfl, hp q (List.mem_of_getElem? hq)⟩
theorem TreeV.nodes {N : Nat} {W : World} {tr : Value} {l : List (List Nat)} (h : TreeV N W tr l) (hs : ∀ C ∈ l, C.length ≤ 60 ∧ ∀ x ∈ C, x ≤ 60) : ∃ P : NdL, P.map (·.2) = nodesI l ∧ W.ownsRow N 70 1 tr P.length (P.map (·.1)) ∧ RdP W P := by
  obtain ⟨T, rfl, h1, h2⟩ := h
  refine ⟨T.map (fun q => (q.1, q.2.map natI)), by simp [nodesI], by simpa [List.map_map, Function.comp_def] using h1, fun p hp => ?_⟩
  obtain ⟨q, hq, rfl⟩ := List.mem_map.1 hp
  have hqs := hs q.2 (List.mem_map.2 ⟨q, hq, rfl⟩)
  have ho : OwI N W q.1 (q.2.map natI) := by
    have := h2 q hq
    unfold OwI
    rw [List.length_map]; exact this
  exact ho.rdY fun x hx => by
    obtain ⟨y, hy, rfl⟩ := List.mem_map.1 hx
    have := hqs.2 y hy
    unfold natI i64; omega
theorem RdP.one {W : World} {P : NdL} (h : RdP W P) : ∀ u ∈ P.map (·.1), u.oneCell' = true := fun u hu => by
  obtain ⟨p, hp, rfl⟩ := List.mem_map.1 hu
  obtain ⟨a, len, cap, h1, -⟩ := h p hp
  rw [h1]; rfl
theorem Src.take1 {A : World} {a : Option Addr} {m c : Nat} {news : List Value} (h : Src A (.slice a m c) 1 m news) (k : Nat) (hk : k ≤ m) (ha : a ≠ none) : Src A (.slice a k c) 1 k (news.take k) := by
  obtain ⟨a', c', h1, h2, h3, h4⟩ := h
  cases h1
  refine ⟨a, c, rfl, by rw [List.length_take]; omega, fun h => absurd h ha, fun ad had j u hu => h4 ad had j u ?_⟩
  rw [List.getElem?_take] at hu
  split at hu
  · exact hu
  · cases hu
theorem run_takeN {b off n c k : Nat} (hk : k ≤ c) (w : World) : (Instr.slice 33 (.slice (some ⟨b, off, none⟩) n c) none (some (.int .i64 k)) none).run Tryz.prog w = .ok (.slice (some ⟨b, off, none⟩) k c) w := by
  have hs : ∀ w, (sizeOf 70).run Tryz.prog w = .ok 1 w := fun w => by
    obtain ⟨i0, hi, _, hz1, _⟩ := info_parts Tryz.infoNode
    simp [sizeOf, typeInfo, hi, hz1]
  have he : Tryz.prog.elem 33 = 70 := by kernel_rfl
  rw [run_slice_h w _ _ _ _ (by rw [he]; exact Tryz.underlying33) .i64 _ (by omega) (by omega), he, hs]
  simp [Result.andThen, sliced, Addr.add]
theorem and1023T (x : Int) : ∃ m : Nat, bits .and .i64 x 1023 = (m : Int) ∧ m ≤ 1023 := by
  have : ∃ m : Nat, m ≤ 1023 ∧ bits .and .i64 x 1023 = IntKind.i64.wrap (m : Int) := ⟨(BitVec.ofInt 64 x &&& BitVec.ofInt 64 1023).toNat, by rw [BitVec.toNat_and]; exact Nat.le_trans Nat.and_le_right (by decide), rfl⟩
  obtain ⟨m, h1, h2⟩ := this
  refine ⟨m, ?_, h1⟩
  rw [h2, IntKind.wrap_i64]; omega
/-- Behind the two appends of CertTurned: the verdict, the short one, the long one. -/
structure TuR (w2 W : World) (p : Nat) (o1 o2 o3 : Obj) (v : Value) (N : List (List Int)) : Prop where
  below : Below w2.heap.size w2 W
  whole : W.heap[w2.heap.size]? = some o1
  short : W.heap[w2.heap.size + 1]? = some o2
  long : W.heap[p]? = some o3
  nodes : RdNodes W v N
theorem turn_out {w2 w7 wB : World} {p z cB : Nat} {v0 v1 v2 v3 v4 v5 v6 v7 : Value} {o1 o2 : Obj} {P : NdL} {pk : Value × List Int} {aB : Option Addr} (hb7 : Below w2.heap.size w2 w7) (hb : Below w7.heap.size w7 wB) (h2 : w2.heap.size + 1 < p) (hp7 : p < w7.heap.size)
    (hx : w7.heap[w2.heap.size]? = some o1) (hy : w7.heap[w2.heap.size + 1]? = some o2) (hz : wB.heap[p]? = some (.cells #[v0, v1, v2, v3, v4, v5, v6, v7] 39))
    (hr : wB.ownsRow w7.heap.size 70 1 (.slice aB (0 + (z + 1) + 1) cB) (0 + (z + 1) + 1) ([] ++ P.map (·.1) ++ [pk.1])) (hPl : P.length = z + 1) (hrd : RdP w2 P) (hpk : pk ∈ P) :
    TuR w2 (wB.setCell ⟨p, 5, none⟩ (.slice aB (z + 1 + 1) cB)) p o1 o2 (.cells #[v0, v1, v2, v3, v4, .slice aB (z + 1 + 1) cB, v6, v7] 39) (.slice aB (z + 1 + 1) cB) ((P ++ [pk]).map (·.2)) := by
  have hbW : Below w2.heap.size w2 (wB.setCell ⟨p, 5, none⟩ (.slice aB (z + 1 + 1) cB)) := Below.setCell (p := ⟨p, 5, none⟩) (hb7.trans (hb.mono hb7.size)) (show w2.heap.size ≤ p by omega) _
  have hR := ownsRow_setCell_below hr (a := ⟨p, 5, none⟩) (show p < w7.heap.size from hp7) (.slice aB (z + 1 + 1) cB)
  refine ⟨hbW, ?_, ?_, ?_, ?_⟩
  · exact (Below.heap_setCell wB ⟨p, 5, none⟩ _ w2.heap.size (by show w2.heap.size ≠ p; omega)).trans ((hb.block _ (by omega)).trans hx)
  · exact (Below.heap_setCell wB ⟨p, 5, none⟩ _ (w2.heap.size + 1) (by show w2.heap.size + 1 ≠ p; omega)).trans ((hb.block _ (by omega)).trans hy)
  · simp [World.setCell, Array.getElem?_modify, hz]
  · refine nodes_of_row (N := w7.heap.size) (P := P ++ [pk]) ?_ fun q hq => ?_
    · rw [List.length_append, hPl, List.map_append]
      rw [Nat.zero_add, List.nil_append] at hR
      exact hR
    · have := (hrd.later hbW)
      rcases List.mem_append.1 hq with h | h
      · exact this q h
      · simp at h; subst h; exact this _ hpk
theorem src_oneN {W : World} {g : Nat} {x : Value} (h : W.heap[g]? = some (.cells #[x] 70)) : Src W (.slice (some ⟨g, 0, none⟩) 1 1) 1 1 [x] := by
  refine ⟨some ⟨g, 0, none⟩, 1, rfl, rfl, fun h => (by cases h), fun ad had j u hu => ?_⟩
  cases had
  rw [addr_add, cell_of h]
  match j, hu with
  | 0, hu => cases hu; rfl
end Go.Proofs.YtnacoplokjdglaaGreat

namespace Go.Proofs.YtnacoplokjdglaaGreat
open Go.RowKit Go.Maps
attribute [local go_sem] Oper.semAt_some

theorem and1 (x : Int) : ∃ y, bits .and .i64 x 1 = y ∧ (y = 0 ∨ y = 1) := by
  have : ∃ m : Nat, m ≤ 1 ∧ bits .and .i64 x 1 = IntKind.i64.wrap (m : Int) := ⟨(BitVec.ofInt 64 x &&& BitVec.ofInt 64 1).toNat, by rw [BitVec.toNat_and]; exact Nat.le_trans Nat.and_le_right (by decide), rfl⟩
  obtain ⟨m, h1, h2⟩ := this
  refine ⟨m, ?_, by omega⟩
  rw [h2, IntKind.wrap_i64]; omega
section
variable {v : Value} {es : List GEvent} {level B : Int} {w : World} {ts : List GTxn}
end
end Go.Proofs.YtnacoplokjdglaaGreat

namespace Go.Proofs.YtnacoplokjdglaaGreat.certTurned
open Go.RowKit Go.Maps
attribute [local go_sem] Oper.semAt_some

set_option maxRecDepth 100000 in
set_option maxHeartbeats 8000000 in
theorem walk (v : Value) (level at_ : Int) (es : List GEvent) (w : World) (hv : RdEvents w v es) :
    Calls Tryz.prog 12 #[v, vi level, vi at_] w fun e w' => e = .returned (.bool true) ∧ Below w.heap.size w w' := by
  have HV := Lib.hid hv
  obtain ⟨a, n, c, rfl, rfl, hm, -⟩ := hv.at
  obtain ⟨y, hy, hy01⟩ := and1 level
  clear hv
  go_enter Tryz.func12, Tryz.ntmps12
  go_upto_region 3 with (go_at_call 23; refine (head12_call w).mono ?_; rintro e1 w1 ⟨rfl, hb1⟩; have HB1 := Lib.hid hb1; clear hb1)
  by_cases h1 : (30 : Int) < es.length
  case pos =>
    have d1 : decide ((30 : Int) < es.length) = true := decide_eq_true h1
    clear h1
    go_wp2_with fail
    go_ret
    exact ⟨rfl, HB1.out⟩
  case neg =>
  have d1 : decide ((30 : Int) < es.length) = false := decide_eq_false h1
  have hes : es.length ≤ 30 := by omega
  clear h1
  have hl1 : IntKind.i64.wrap (1 + y) = 1 + y := IntWalk.i64_in _ (by omega)
  have HLV := Lib.hid (show 1 + y = 1 ∨ 1 + y = 2 from by omega)
  have HR1 := Lib.hid (HV.out.later HB1.out)
  cases hh : histH es with
  | none =>
    have HH := Lib.hid hh
    clear hh
    go_wp2_with (go_at_call 18; refine (check_no (level := 1 + y) (B := 800) HR1.out (by omega) (by unfold i64; omega) (.inl (by decide)) (.inl HH.out)).mono ?_; rintro e2 w2 ⟨rfl, hb2⟩; have HB2 := Lib.hid (HB1.out.trans (hb2.mono HB1.out.size)); clear hb2)
    go_ret
    exact ⟨rfl, HB2.out.alloc HB2.out.size _⟩
  | some ts =>
    have HH := Lib.hid hh
    have HG := Lib.hid (hist_good (by omega) hh).1
    clear hh
    cases hf : flawsM ts with
    | cons f l =>
      have hfp : 0 < f.2.2 := flaw_pos (ts := ts) (by rw [hf]; exact List.mem_cons_self)
      have HF := Lib.hid hf
      have e1 : (f.2.2 == 0) = false := by simp; omega
      have e2 : (f.2.2 != 0) = true := by simp; omega
      clear hf
      go_wp2_with (go_at_call 18; refine (check_flaw (level := 1 + y) (B := 800) HR1.out (by omega) (by unfold i64; omega) (.inl (by decide)) HH.out HLV.out HF.out).mono ?_; rintro e2 w2 ⟨rfl, hb2⟩; have HB2 := Lib.hid (HB1.out.trans (hb2.mono HB1.out.size)); clear hb2)
      go_ret
      exact ⟨rfl, HB2.out.alloc HB2.out.size _⟩
    | nil =>
      have HF := Lib.hid hf
      have hsz := (tree0 ts (1 + y)).size_pos
      clear hf
      cases hb : endB (tree0 ts (1 + y)) 0 800 with
      | true =>
        have HE := Lib.hid hb
        clear hb
        go_wp2_with (go_at_call 18; refine (check_pass (level := 1 + y) (B := 800) HR1.out (by omega) (by unfold i64; omega) (.inl (by decide)) HH.out HLV.out HF.out HE.out).mono ?_; rintro e2 w2 ⟨F, db, om, O, rfl, -, -, -, -, hb2⟩; have HB2 := Lib.hid (HB1.out.trans (hb2.mono HB1.out.size)); clear hb2)
        go_ret
        exact ⟨rfl, HB2.out.alloc HB2.out.size _⟩
      | false =>
        cases ho : endO (tree0 ts (1 + y)) 0 800 with
        | true =>
          have HO := Lib.hid ho
          clear ho hb
          go_wp2_with (go_at_call 18; refine (check_over (level := 1 + y) (B := 800) HR1.out (by omega) (by unfold i64; omega) (.inl (by decide)) HH.out HLV.out HF.out HO.out).mono ?_; rintro e2 w2 ⟨rfl, hb2⟩; have HB2 := Lib.hid (HB1.out.trans (hb2.mono HB1.out.size)); clear hb2)
          go_ret
          exact ⟨rfl, HB2.out.alloc HB2.out.size _⟩
        | false =>
          have HE := Lib.hid hb
          have HO := Lib.hid ho
          have HRES := Lib.hid (end_res hb ho).1
          obtain ⟨z, hz⟩ : ∃ z, (tree0 ts (1 + y)).size = z + 1 := ⟨(tree0 ts (1 + y)).size - 1, by omega⟩
          have HZ := Lib.hid hz
          clear ho hb hsz hz
          have hz0 : (((z + 1 : Nat) : Int) == 0) = false := by simp; omega
          have hzb : z + 1 ≤ 1000000 := by
            have h1 := HO.out
            unfold endO at h1
            rw [decide_eq_false_iff_not] at h1
            have := HZ.out
            omega
          go_upto_region 13 with (go_at_call 18; refine (check_fail (level := 1 + y) (B := 800) HR1.out (by omega) (by unfold i64; omega) (.inl (by decide)) HH.out HLV.out HF.out HE.out HO.out).mono ?_; rw [HZ.out]; rintro e2 w2 ⟨ta, tc, l, rfl, hn2, hl2, ht2, hb2⟩; have HN2 := Lib.hid hn2; have HL2 := Lib.hid hl2; have HT2 := Lib.hid ht2; have HB2 := Lib.hid (HB1.out.trans (hb2.mono HB1.out.size)); clear hn2 hl2 ht2 hb2)
          have hns := nodes_small HG.out.len _ _ HN2.out
          obtain ⟨P, hP, hrow, hrd⟩ := HT2.out.nodes hns
          have hPl : P.length = z + 1 := by
            have h1 := congrArg List.length hP
            rw [List.length_map] at h1
            rw [h1, nodesI, List.length_map, HL2.out]
          rw [hPl] at hrow
          obtain ⟨g, tc', e5⟩ := own_someB hrow (by omega)
          cases e5
          have hcap : z + 1 ≤ tc := by
            rw [← hPl, ← flat_oneP] at hrow
            obtain ⟨_, _, _, e1, _, _, e4, _⟩ := rds_of_own (V := fun q : Value × List Int => [q.1]) (fun _ => rfl) hrow
            cases e1; omega
          have HP := Lib.hid hP
          have HSR := Lib.hid (own_src hrow)
          have HRP := Lib.hid hrd
          have HSM := Lib.hid (nodesI_small hns)
          have HNW := Lib.hid (HT2.out.rd hns)
          have HSMK := Lib.hid hns
          have hONE := hrd.one
          have HONE := Lib.hid hONE
          have htk := run_takeN (b := g) (off := 0) (n := z + 1) (c := tc) (k := z) (by omega)
          have HA3 := Lib.hid (((Below.refl w2.heap.size w2).alloc (Nat.le_refl _) (.cells #[vi 2, vi ((z : Int) + 1), vi 0, vi 0, vi 0, .slice (some ⟨g, 0, none⟩) (z + 1) tc, .slice none 0 0, .map none] 39)).alloc (by simp) (.cells #[vi 2, vi ((z : Int) + 1), vi 0, vi 0, vi 0, .slice (some ⟨g, 0, none⟩) (z + 1) tc, .slice none 0 0, .map none] 39))
          have HX3 := Lib.hid ((Below.heap_alloc (w2.alloc (.cells #[vi 2, vi ((z : Int) + 1), vi 0, vi 0, vi 0, .slice (some ⟨g, 0, none⟩) (z + 1) tc, .slice none 0 0, .map none] 39)) (.cells #[vi 2, vi ((z : Int) + 1), vi 0, vi 0, vi 0, .slice (some ⟨g, 0, none⟩) (z + 1) tc, .slice none 0 0, .map none] 39) w2.heap.size (by simp)).trans (alloc_at w2 (.cells #[vi 2, vi ((z : Int) + 1), vi 0, vi 0, vi 0, .slice (some ⟨g, 0, none⟩) (z + 1) tc, .slice none 0 0, .map none] 39)))
          have HY3 := Lib.hid (show ((w2.alloc (.cells #[vi 2, vi ((z : Int) + 1), vi 0, vi 0, vi 0, .slice (some ⟨g, 0, none⟩) (z + 1) tc, .slice none 0 0, .map none] 39)).alloc (.cells #[vi 2, vi ((z : Int) + 1), vi 0, vi 0, vi 0, .slice (some ⟨g, 0, none⟩) (z + 1) tc, .slice none 0 0, .map none] 39)).heap[w2.heap.size + 1]? = some (.cells #[vi 2, vi ((z : Int) + 1), vi 0, vi 0, vi 0, .slice (some ⟨g, 0, none⟩) (z + 1) tc, .slice none 0 0, .map none] 39) from by
            have := alloc_at (w2.alloc (.cells #[vi 2, vi ((z : Int) + 1), vi 0, vi 0, vi 0, .slice (some ⟨g, 0, none⟩) (z + 1) tc, .slice none 0 0, .map none] 39)) (.cells #[vi 2, vi ((z : Int) + 1), vi 0, vi 0, vi 0, .slice (some ⟨g, 0, none⟩) (z + 1) tc, .slice none 0 0, .map none] 39)
            simpa using this)
          have hw3 : ((w2.alloc (.cells #[vi 2, vi ((z : Int) + 1), vi 0, vi 0, vi 0, .slice (some ⟨g, 0, none⟩) (z + 1) tc, .slice none 0 0, .map none] 39)).alloc (.cells #[vi 2, vi ((z : Int) + 1), vi 0, vi 0, vi 0, .slice (some ⟨g, 0, none⟩) (z + 1) tc, .slice none 0 0, .map none] 39)).heap.size = w2.heap.size + 2 := by simp
          clear hns hP hrow hrd hONE
          generalize (w2.alloc (.cells #[vi 2, vi ((z : Int) + 1), vi 0, vi 0, vi 0, .slice (some ⟨g, 0, none⟩) (z + 1) tc, .slice none 0 0, .map none] 39)).alloc (.cells #[vi 2, vi ((z : Int) + 1), vi 0, vi 0, vi 0, .slice (some ⟨g, 0, none⟩) (z + 1) tc, .slice none 0 0, .map none] 39) = w3 at *
          have x5 : w3.cell? ⟨w2.heap.size, 5, none⟩ = some (.slice (some ⟨g, 0, none⟩) (z + 1) tc) := by rw [cell_of HX3.out]; rfl
          have HA4 := Lib.hid ((Below.refl w3.heap.size w3).alloc (Nat.le_refl _) (.cells #[] 70))
          have hw4 : (w3.alloc (.cells #[] 70)).heap.size = w3.heap.size + 1 := by simp
          have x5' := cell_later HA4.out x5
          have HO4 := Lib.hid (World.ownsRow_lit (base := w3.heap.size) (e := 70) (size := 1) w3 #[] 0 (Nat.le_refl _) (by simp [maxLen]) rfl)
          rw [hw3] at HO4
          have HS4 := Lib.hid (((HSR.out.below (HA3.out.trans (HA4.out.mono (by omega)))).take1 z (by omega) (by simp)))
          have HON4 := Lib.hid (show ∀ u ∈ (P.map (·.1)).take z, u.oneCell' = true from fun u hu => HONE.out u (List.mem_of_mem_take hu))
          have HY4 := Lib.hid ((HA4.out.block _ (by omega)).trans HY3.out)
          have HX4 := Lib.hid ((HA4.out.block _ (by omega)).trans HX3.out)
          go_upto_region 14 with (at_builtin; go_loud (refine wpList_append_src rfl _ _ 33 rfl eltNode (w2.heap.size + 2) 0 [] HO4.out rfl z ((P.map (·.1)).take z) HS4.out rfl HON4.out (by omega) (by omega) (by omega) ?_; intro v5 w5 ho5 hg5 _; have HO5 := Lib.hid ho5; have HG5 := Lib.hid hg5; obtain ⟨a5, c5, rfl⟩ := Gr.own_shape ho5; have HY5 := Lib.hid ((hg5.block (w2.heap.size + 1) (by omega) (by simp [Value.ownBlock])).trans HY4.out); have HX5 := Lib.hid ((hg5.block w2.heap.size (by omega) (by simp [Value.ownBlock])).trans HX4.out); have HB5 := Lib.hid (below_grownB (b := w2.heap.size + 2) (B := w3.heap.size) HA4.out hg5 (Nat.le_of_eq hw3) (Nat.le_refl _)); have z5 := free_of HY5.out 5; have y5 := fun j => cell_of HY5.out j; clear ho5 hg5))
          have HB6 := Lib.hid (Below.setCell (p := ⟨w2.heap.size + 1, 5, none⟩) (HA3.out.trans (HB5.out.mono (by omega))) (Nat.le_succ _) (.slice a5 z c5))
          have HO6 := Lib.hid (ownsRow_setCell_below HO5.out (a := ⟨w2.heap.size + 1, 5, none⟩) (Nat.lt_succ_self _) (.slice a5 z c5))
          have HX6 := Lib.hid ((Below.heap_setCell w5 ⟨w2.heap.size + 1, 5, none⟩ (.slice a5 z c5) w2.heap.size (by show w2.heap.size ≠ w2.heap.size + 1; omega)).trans HX5.out)
          have HY6 := Lib.hid (show (w5.setCell ⟨w2.heap.size + 1, 5, none⟩ (.slice a5 z c5)).heap[w2.heap.size + 1]? = some (.cells #[vi 2, vi ((z : Int) + 1), vi 0, vi 0, vi 0, .slice a5 z c5, .slice none 0 0, .map none] 39) from by simp [World.setCell, Array.getElem?_modify, HY5.out])
          have hw6 : w2.heap.size + 2 ≤ (w5.setCell ⟨w2.heap.size + 1, 5, none⟩ (.slice a5 z c5)).heap.size := by
            have := HB5.out.size
            simp [World.setCell]; omega
          clear z5 y5 x5 x5' htk
          generalize w5.setCell ⟨w2.heap.size + 1, 5, none⟩ (.slice a5 z c5) = w6 at *
          rw [Nat.zero_add, List.nil_append] at HO6
          have HRP6 := Lib.hid (HRP.out.later HB6.out)
          have hPz : (P.take z).length = z := by rw [List.length_take]; omega
          have HNS := Lib.hid (nodes_of_row (P := P.take z) (by rw [hPz, List.map_take]; exact HO6.out) (fun p hp => HRP6.out p (List.mem_of_mem_take hp)))
          have x6 := fun j => cell_of HX6.out j
          have HB7 := Lib.hid (HB6.out.alloc HB6.out.size (.cells #[vi 2, vi ((z : Int) + 1), vi 0, vi 0, vi 0, .slice (some ⟨g, 0, none⟩) (z + 1) tc, .slice none 0 0, .map none] 39))
          have HA7 := Lib.hid ((Below.refl w6.heap.size w6).alloc (Nat.le_refl _) (.cells #[vi 2, vi ((z : Int) + 1), vi 0, vi 0, vi 0, .slice (some ⟨g, 0, none⟩) (z + 1) tc, .slice none 0 0, .map none] 39))
          have HZ7 := Lib.hid (alloc_at w6 (.cells #[vi 2, vi ((z : Int) + 1), vi 0, vi 0, vi 0, .slice (some ⟨g, 0, none⟩) (z + 1) tc, .slice none 0 0, .map none] 39))
          have hw7 : (w6.alloc (.cells #[vi 2, vi ((z : Int) + 1), vi 0, vi 0, vi 0, .slice (some ⟨g, 0, none⟩) (z + 1) tc, .slice none 0 0, .map none] 39)).heap.size = w6.heap.size + 1 := by simp
          go_upto_region 15 with fail
          clear x6
          generalize w6.alloc (.cells #[vi 2, vi ((z : Int) + 1), vi 0, vi 0, vi 0, .slice (some ⟨g, 0, none⟩) (z + 1) tc, .slice none 0 0, .map none] 39) = w7 at *
          have HX7 := Lib.hid ((HA7.out.block _ (by omega)).trans HX6.out)
          have HY7 := Lib.hid ((HA7.out.block _ (by omega)).trans HY6.out)
          obtain ⟨m, hm, hm2⟩ := and1023T at_
          obtain ⟨k, hk, hkz⟩ : ∃ k : Nat, (bits BinOp.and IntKind.i64 at_ 1023).tmod ((z : Int) + 1) = (k : Int) ∧ k < z + 1 := ⟨m % (z + 1), by
            rw [hm, Int.tmod_eq_emod_of_nonneg (by omega)]
            first | exact_mod_cast rfl | simp, Nat.mod_lt _ (by omega)⟩
          have HK := Lib.hid hk
          obtain ⟨pk, hpk⟩ := some_at (l := P) (k := k) (by omega)
          obtain ⟨pa, pn, pc, hpe, -⟩ := id (HRP.out pk (List.mem_of_getElem? hpk))
          have hkI : (k : Int) < (z : Int) + 1 := by omega
          have hz1 : ¬ ((z : Int) + 1 = 0) := by omega
          have HSR7 := Lib.hid (HSR.out.below HB7.out)
          have k0 : w7.cell? ⟨g, k, none⟩ = some (.slice pa pn pc) := by
            obtain ⟨_, _, e6, _, _, h4⟩ := HSR7.out
            cases e6
            have h := h4 _ rfl k (.slice pa pn pc) (by rw [List.getElem?_map, hpk]; simp [hpe])
            rwa [addr_add, Nat.zero_add] at h
          have k5 : w7.cell? ⟨w2.heap.size, 5, none⟩ = some (.slice (some ⟨g, 0, none⟩) (z + 1) tc) := by rw [cell_of HX7.out]; rfl
          have HPK := Lib.hid hpk
          have HPE := Lib.hid hpe
          clear hpk hpe hm hm2
          have HBA1 := Lib.hid (((Below.refl w7.heap.size w7).alloc (Nat.le_refl _) (.cells #[] 70)).drew)
          have HBB1 := Lib.hid ((((Below.refl w7.heap.size w7).alloc (Nat.le_refl _) (.cells #[] 70)).alloc (by simp) (.cells #[.slice pa pn pc] 70)).drew)
          have HBC1 := Lib.hid ((((Below.refl w7.heap.size w7).alloc (Nat.le_refl _) (.cells #[.slice pa pn pc] 70)).alloc (by simp) (.cells #[] 70)).drew)
          have ka0 := cell_later ((Below.refl w7.heap.size w7).alloc (Nat.le_refl _) (.cells #[] 70)) k0
          have ka5 := cell_later ((Below.refl w7.heap.size w7).alloc (Nat.le_refl _) (.cells #[] 70)) k5
          have kb0 := cell_later (((Below.refl w7.heap.size w7).alloc (Nat.le_refl _) (.cells #[] 70)).alloc (by simp) (.cells #[.slice pa pn pc] 70)) k0
          have kb5 := cell_later (((Below.refl w7.heap.size w7).alloc (Nat.le_refl _) (.cells #[] 70)).alloc (by simp) (.cells #[.slice pa pn pc] 70)) k5
          have kc0 := cell_later ((Below.refl w7.heap.size w7).alloc (Nat.le_refl _) (.cells #[.slice pa pn pc] 70)) k0
          have kc5 := cell_later ((Below.refl w7.heap.size w7).alloc (Nat.le_refl _) (.cells #[.slice pa pn pc] 70)) k5
          have ke0 := cell_later (((Below.refl w7.heap.size w7).alloc (Nat.le_refl _) (.cells #[.slice pa pn pc] 70)).alloc (by simp) (.cells #[] 70)) k0
          have ke5 := cell_later (((Below.refl w7.heap.size w7).alloc (Nat.le_refl _) (.cells #[.slice pa pn pc] 70)).alloc (by simp) (.cells #[] 70)) k5
          have HOA0 := (World.ownsRow_lit (base := w7.heap.size) (e := 70) (size := 1) w7 #[] 0 (Nat.le_refl _) (by simp [maxLen]) rfl)
          have HOA := Lib.hid (show (w7.alloc (.cells #[] 70)).drew.ownsRow w7.heap.size 70 1 (.slice (some ⟨w7.heap.size, 0, none⟩) 0 0) 0 [] from HOA0)
          have HOB := Lib.hid (show ((w7.alloc (.cells #[] 70)).alloc (.cells #[.slice pa pn pc] 70)).drew.ownsRow w7.heap.size 70 1 (.slice (some ⟨w7.heap.size, 0, none⟩) 0 0) 0 [] from World.ownsRow.alloc HOA0 (.cells #[.slice pa pn pc] 70))
          clear HOA0
          have HOC := Lib.hid (show ((w7.alloc (.cells #[.slice pa pn pc] 70)).alloc (.cells #[] 70)).drew.ownsRow w7.heap.size 70 1 (.slice (some ⟨w7.heap.size + 1, 0, none⟩) 0 0) 0 [] from by
            have h := World.ownsRow_lit (base := w7.heap.size) (e := 70) (size := 1) (w7.alloc (.cells #[.slice pa pn pc] 70)) #[] 0 (by simp) (by simp [maxLen]) rfl
            rw [show (w7.alloc (.cells #[.slice pa pn pc] 70)).heap.size = w7.heap.size + 1 by simp] at h
            exact h)
          have HSA := Lib.hid (HSR7.out.below HBA1.out)
          have HSB := Lib.hid (HSR7.out.below HBB1.out)
          have HSC := Lib.hid (HSR7.out.below HBC1.out)
          have HIB := Lib.hid (show ((w7.alloc (.cells #[] 70)).alloc (.cells #[.slice pa pn pc] 70)).drew.heap[w7.heap.size + 1]? = some (.cells #[.slice pa pn pc] 70) from by
            have h := alloc_at (w7.alloc (.cells #[] 70)) (.cells #[.slice pa pn pc] 70)
            rw [show (w7.alloc (.cells #[] 70)).heap.size = w7.heap.size + 1 by simp] at h
            exact h)
          have HIC := Lib.hid (show ((w7.alloc (.cells #[.slice pa pn pc] 70)).alloc (.cells #[] 70)).drew.heap[w7.heap.size]? = some (.cells #[.slice pa pn pc] 70) from (Below.heap_alloc _ _ _ (by simp)).trans (alloc_at w7 _))
          have hlt7 : w6.heap.size < w7.heap.size := by omega
          have hlt2 : w2.heap.size < w7.heap.size := by omega
          clear hw7
          go_cut [10] (fun v10 wy => v10 = .pointer (some ⟨w6.heap.size, 0, none⟩) ∧ ∃ (aB : Option Addr) (cB : Nat), Hid (TuR w2 wy w6.heap.size (.cells #[vi 2, vi ((z : Int) + 1), vi 0, vi 0, vi 0, .slice (some ⟨g, 0, none⟩) (z + 1) tc, .slice none 0 0, .map none] 39) (.cells #[vi 2, vi ((z : Int) + 1), vi 0, vi 0, vi 0, .slice a5 z c5, .slice none 0 0, .map none] 39) (.cells #[vi 2, vi ((z : Int) + 1), vi 0, vi 0, vi 0, .slice aB (z + 1 + 1) cB, .slice none 0 0, .map none] 39) (.slice aB (z + 1 + 1) cB) ((P ++ [pk]).map (·.2)) ∧ Below w6.heap.size w6 wy))
          case first =>
            go_region_law (first
              | (refine step_append_src rfl _ _ 33 rfl eltNode w7.heap.size (0 + (z + 1)) _ HRA.out rfl 1 [.slice pa pn pc] (src_oneN HSX.out) rfl (by intro u hu; simp at hu; subst hu; rfl) (by omega) (by omega) HBA.out.size ?_; intro vB wB hrB hgB _; have HRB := Lib.hid hrB; have HBB := Lib.hid (HBA.out.grown hgB HBA.out.size (fun z hz => (World.ownsRow.lt HRA.out z hz).1)); have HZB := Lib.hid ((HBB.out.block _ hlt7).trans HZ7.out); have zB := free_of HZB.out 5; have yB := fun j => cell_of HZB.out j; obtain ⟨aB, cB, rfl⟩ := Gr.own_shape HRB.out; clear hrB hgB)
              | (refine step_append_src rfl _ _ 33 rfl eltNode w7.heap.size (0 + (z + 1)) _ (World.ownsRow.alloc HRA.out _) rfl 1 [.slice pa pn pc] (src_new (cs := #[.slice pa pn pc]) rfl rfl) rfl (by intro u hu; simp at hu; subst hu; rfl) (by omega) (by omega) (by have := HBA.out.size; simp; omega) ?_; intro vB wB hrB hgB _; have HRB := Lib.hid hrB; have HBB := Lib.hid ((HBA.out.alloc HBA.out.size _).grown hgB (by have := HBA.out.size; simp; omega) (fun z hz => (World.ownsRow.lt HRA.out z hz).1)); have HZB := Lib.hid ((HBB.out.block _ hlt7).trans HZ7.out); have zB := free_of HZB.out 5; have yB := fun j => cell_of HZB.out j; obtain ⟨aB, cB, rfl⟩ := Gr.own_shape HRB.out; clear hrB hgB)
              | (refine step_append_src rfl _ _ 33 rfl eltNode w7.heap.size 0 [] HOA.out rfl (z + 1) (P.map (·.1)) HSA.out rfl HONE.out (by omega) (by omega) (by first | (simp; done) | (simp; omega)) ?_; intro vA wA hrA hgA _; have HRA := Lib.hid hrA; have HBA := Lib.hid (HBA1.out.grown hgA (by first | (simp; done) | (simp; omega)) (fun z hz => (World.ownsRow.lt HOA.out z hz).1)); have jA0 := cell_later HBA.out k0; have jA5 := cell_later HBA.out k5; clear hrA hgA)
              | (refine step_append_src rfl _ _ 33 rfl eltNode w7.heap.size 0 [] HOB.out rfl (z + 1) (P.map (·.1)) HSB.out rfl HONE.out (by omega) (by omega) (by first | (simp; done) | (simp; omega)) ?_; intro vA wA hrA hgA _; have HRA := Lib.hid hrA; have HBA := Lib.hid (HBB1.out.grown hgA (by first | (simp; done) | (simp; omega)) (fun z hz => (World.ownsRow.lt HOB.out z hz).1)); have HSX := Lib.hid ((hgA.block _ (Array.getElem?_eq_some_iff.1 HIB.out).1 (fun e => by simp [Value.ownBlock] at e)).trans HIB.out); have jA0 := cell_later HBA.out k0; have jA5 := cell_later HBA.out k5; clear hrA hgA)
              | (refine step_append_src rfl _ _ 33 rfl eltNode w7.heap.size 0 [] HOC.out rfl (z + 1) (P.map (·.1)) HSC.out rfl HONE.out (by omega) (by omega) (by first | (simp; done) | (simp; omega)) ?_; intro vA wA hrA hgA _; have HRA := Lib.hid hrA; have HBA := Lib.hid (HBC1.out.grown hgA (by first | (simp; done) | (simp; omega)) (fun z hz => (World.ownsRow.lt HOC.out z hz).1)); have HSX := Lib.hid ((hgA.block _ (Array.getElem?_eq_some_iff.1 HIC.out).1 (fun e => by simp [Value.ownBlock] at e)).trans HIC.out); have jA0 := cell_later HBA.out k0; have jA5 := cell_later HBA.out k5; clear hrA hgA))
            all_goals
              go_wp2
              go_meet
              exact ⟨rfl, aB, cB, Lib.hid ⟨turn_out HB7.out HBB.out (by omega) hlt7 HX7.out HY7.out HZB.out (by have h := HRB.out; rw [HPE.out]; exact h) hPl HRP.out (List.mem_of_getElem? HPK.out), Below.setCell (p := ⟨w6.heap.size, 5, none⟩) (HA7.out.trans (HBB.out.mono (Nat.le_of_lt hlt7))) (Nat.le_refl _) _⟩⟩
          case rest =>
            obtain ⟨rfl, aB, cB, HT⟩ := hcut
            have HBW := Lib.hid HT.out.1.below
            have HRW := Lib.hid (HV.out.later (HB2.out.trans (HBW.out.mono HB2.out.size)))
            have HN1 := Lib.hid (HNW.out.later HBW.out)
            have HNS1 := Lib.hid (HNS.out.later HT.out.2)
            have HNL1 := Lib.hid HT.out.1.nodes
            have y1 := fun j => cell_of HT.out.1.whole j
            have y2 := fun j => cell_of HT.out.1.short j
            have y3 := fun j => cell_of HT.out.1.long j
            have HSH := Lib.hid HT.out.1.short
            have HLO := Lib.hid HT.out.1.long
            have hbs : w2.heap.size + 1 < w6.heap.size := by omega
            have hF1 : failB ts (1 + y) (0, 0, 0) (nodesI l) = true := by
              have h := tree0_holds HRES.out HN2.out []
              rw [List.append_nil] at h
              rw [failB, if_pos HF.out, h]; rfl
            have hF2 : failB ts (1 + y) (0, 0, 0) ((P.take z).map (·.2)) = false := by
              obtain ⟨px, hpx⟩ := some_at (l := P) (k := z) (by omega)
              have hsp : P = P.take z ++ [px] := by
                have h := List.take_add_one (l := P) (i := z)
                rw [hpx, List.take_of_length_le (by omega)] at h
                simpa using h
              have h := tree0_short (l' := (P.take z).map (·.2)) (x := px.2) HRES.out HN2.out (by
                rw [← HP.out]
                conv => lhs; rw [hsp, List.map_append]
                rfl)
              rw [failB, if_pos HF.out, h]; rfl
            have hF3 : failB ts (1 + y) (0, 0, 0) ((P ++ [pk]).map (·.2)) = false := by
              have h := tree0_holds HRES.out HN2.out [pk.2]
              rw [List.map_append, HP.out]
              rw [failB, if_pos HF.out]
              rw [show [pk].map (·.2) = [pk.2] from rfl, h]; rfl
            have hb6 := (Array.getElem?_eq_some_iff.1 HT.out.1.long).1
            have hbs2 := (Array.getElem?_eq_some_iff.1 HT.out.1.short).1
            have HCS := Lib.hid (show ∀ C ∈ (P.take z).map (·.2), C.length ≤ 1000000000 from fun C hC => HSM.out C (by rw [← HP.out]; rw [List.map_take] at hC; exact List.mem_of_mem_take hC))
            have HCL := Lib.hid (show ∀ C ∈ (P ++ [pk]).map (·.2), C.length ≤ 1000000000 from fun C hC => HSM.out C (by
              rw [← HP.out]
              rw [List.map_append, List.mem_append] at hC
              rcases hC with h | h
              · exact h
              · simp at h; subst h; exact List.mem_map.2 ⟨pk, List.mem_of_getElem? HPK.out, rfl⟩))
            go_wp2_with (first
              | (go_at_call 25; refine (holds_fail _ es ts (1 + y) ((z : Int) + 1) (0, 0, 0) aB (z + 1 + 1) cB none 0 0 none w9 (HRW.out.later HB9.out) (by omega) HH.out HLV.out ((P ++ [pk]).map (·.2)) (HNL1.out.later HB9.out) HCL.out).mono ?_; rw [hF3]; rintro e10 w10 ⟨rfl, hb10⟩; have HB10 := Lib.hid (HB9.out.trans (hb10.mono HB9.out.size)); clear hb10)
              | (go_at_call 25; refine (holds_fail _ es ts (1 + y) ((z : Int) + 1) (0, 0, 0) a5 z c5 none 0 0 none w8 (HRW.out.later HB8.out) (by omega) HH.out HLV.out ((P.take z).map (·.2)) (HNS1.out.later HB8.out) HCS.out).mono ?_; rw [hF2]; rintro e9 w9 ⟨rfl, hb9⟩; have HB9 := Lib.hid (HB8.out.trans (hb9.mono HB8.out.size)); have q3 := fun j => cell_of ((HB9.out.block _ hb6).trans HLO.out) j; clear hb9)
              | (go_at_call 25; refine (holds_fail _ es ts (1 + y) ((z : Int) + 1) (0, 0, 0) (some ⟨g, 0, none⟩) (z + 1) tc none 0 0 none _ HRW.out (by omega) HH.out HLV.out (nodesI l) HN1.out HSM.out).mono ?_; rw [hF1]; rintro e8 w8 ⟨rfl, hb8⟩; have HB8 := Lib.hid hb8; have q2 := fun j => cell_of ((hb8.block _ hbs2).trans HSH.out) j; clear hb8))
            go_ret
            exact ⟨rfl, (HB2.out.trans (HBW.out.mono HB2.out.size)).trans (HB10.out.mono (HB2.out.trans (HBW.out.mono HB2.out.size)).size)⟩
end Go.Proofs.YtnacoplokjdglaaGreat.certTurned
