/- Texts of one proof, one behind the other: IntS, ChVal, ChEq, ChFix, ChFixG, DpPure. -/
import Derived.Test.YtnacoplokjdglaaGreatKe1
import Derived.Test.YtnacoplokjdglaaGreatKe2
import Derived.Test.YtnacoplokjdglaaGreatKe3
import Derived.Test.YtnacoplokjdglaaGreatKe4
set_option linter.all false
namespace Go.Proofs.YtnacoplokjdglaaGreat
open Go.RowKit Go.Maps

theorem own_shapeY {w : World} {base e size n : Nat} {v : Value} {xs : List Value} (h : w.ownsRow base e size v n xs) : ∃ a c, v = .slice a n c ∧ (n ≠ 0 → ∃ g, a = some ⟨g, 0, none⟩ ∧ base ≤ g) := by
  rcases h.2 with ⟨hv, h0⟩ | ⟨g, cap, cur, hv, hg, _⟩
  · exact ⟨none, 0, by rw [hv, h0], fun h => absurd h0 h⟩
  · exact ⟨_, _, hv, fun _ => ⟨g, rfl, hg⟩⟩
theorem run_dropY {b off n c k : Nat} (hk : k ≤ n) (w : World) : (Instr.slice 58 (.slice (some ⟨b, off, none⟩) n c) (some (.int .i64 k)) none none).run Tryz.prog w = .ok (sliced (some ⟨b, off, none⟩) k n c 1) w := by
  have hs : ∀ w, (sizeOf 3).run Tryz.prog w = .ok 1 w := fun w => by
    obtain ⟨i0, hi, _, hz1, _⟩ := info_parts Tryz.infoI
    simp [sizeOf, typeInfo, hi, hz1]
  have he : Tryz.prog.elem 58 = 3 := by kernel_rfl
  rw [run_slice_l w _ _ _ _ (by rw [he]; exact Tryz.underlying58) .i64 _ (by omega) (by omega), he, hs]
  simp [Result.andThen]
theorem run_takeY {b off n c k : Nat} (hk : k ≤ c) (w : World) : (Instr.slice 58 (.slice (some ⟨b, off, none⟩) n c) none (some (.int .i64 k)) none).run Tryz.prog w = .ok (.slice (some ⟨b, off, none⟩) k c) w := by
  have hs : ∀ w, (sizeOf 3).run Tryz.prog w = .ok 1 w := fun w => by
    obtain ⟨i0, hi, _, hz1, _⟩ := info_parts Tryz.infoI
    simp [sizeOf, typeInfo, hi, hz1]
  have he : Tryz.prog.elem 58 = 3 := by kernel_rfl
  rw [run_slice_h w _ _ _ _ (by rw [he]; exact Tryz.underlying58) .i64 _ (by omega) (by omega), he, hs]
  simp [Result.andThen, sliced, Addr.add]
theorem slicedY (a : Option Addr) (k n c m : Nat) : ∃ a2 n2 c2, sliced a k n c m = .slice a2 n2 c2 := by unfold sliced; exact ⟨_, _, _, rfl⟩
/-- A row of one's own is readable. -/
theorem OwI.rdY {base : Nat} {w : World} {v : Value} {l : List Int} (h : OwI base w v l) (hi : ∀ x ∈ l, i64 x) : RdInts w v l := by
  obtain ⟨a, len, cap, h1, h2, h3, h4, h5, h6⟩ := rds_of_own (V := viC) (fun _ => rfl) h
  refine ⟨a, len, cap, h1, h2, h3, h4, h5, fun j x hj => ?_⟩
  obtain ⟨b, off, cs, e1, e2, e3, e4⟩ := h6 j x hj
  have := hi x (List.mem_of_getElem? hj)
  exact ⟨b, off, cs, e1, e2, e3, e4, by unfold i64 at this; exact this⟩
theorem RdInts.i64s {w : World} {v : Value} {l : List Int} (h : RdInts w v l) : ∀ x ∈ l, i64 x := by
  intro x hx
  obtain ⟨a, len, cap, h1, h2, h3, h4, h5, h6⟩ := h
  obtain ⟨j, hj⟩ := List.mem_iff_getElem?.1 hx
  obtain ⟨b, off, cs, e1, e2, e3, e4⟩ := h6 j x hj
  exact e4.2
end Go.Proofs.YtnacoplokjdglaaGreat

namespace Go.Proofs.YtnacoplokjdglaaGreat
open Go.RowKit Go.Shelf Go.Maps
attribute [local go_sem] Oper.semAt_some

theorem take_atV {l : List Int} {k : Nat} {x : Int} (h : l[k]? = some x) : l.take (k + 1) = l.take k ++ [x] := by rw [List.take_add_one, h]; rfl

set_option maxRecDepth 100000 in
set_option maxHeartbeats 2000000 in
theorem values1_in (F : Fence) (n : Nat) (hF : F.fn 91) (hro : F.round = none) (hn : 1 ≤ n) (lp Bs n₀ : Nat) (a : Option Addr) (cap : Nat) (l : List Int) (hl : l.length ≤ 1048576) (J Jx : List Int → World → Prop)
    (hY : ∀ pre x W, J pre W → pre.length < l.length → YieldAt F (n - 1) Tryz.prog lp (encK x) W fun e W' =>
      (e = .returned (.bool true) ∧ J (pre ++ [x]) W' ∧ Below n₀ W W') ∨ (e = .returned (.bool false) ∧ Jx (pre ++ [x]) W'))
    (W : World) (hBs : W.cell? ⟨Bs, 0, none⟩ = some (.slice a l.length cap))
    (hc : ∀ j x, l[j]? = some x → ∃ b off, a = some ⟨b, off, none⟩ ∧ b < n₀ ∧ W.cell? ⟨b, off + j, none⟩ = some (vi x)) (h0 : J [] W) :
    CallsIn F n Tryz.prog 91 #[.func (.yield lp) #[] #[], .pointer (some ⟨Bs, 0, none⟩)] W fun e W' => (∃ v, e = .returned v) ∧
      ((∃ ys, ys = l ∧ J ys W') ∨ (∃ pre : List Int, True ∧ Jx pre W')) := by
  have HC := Lib.hid hc
  have HY := Lib.hid hY
  clear hc hY
  refine callsIn_of_wp Tryz.func91 rfl hF ?_ hro
  simp only [Tryz.ntmps91, List.size_toArray, List.length_cons, List.length_nil, Nat.reduceAdd, Nat.reduceSub, Array.replicate_succ, Array.replicate_zero, List.push_toArray, List.append_toArray, List.nil_append, List.cons_append]
  gi_wp2
  gi_loopw [4, 7] (fun _ i wr => ∃ k : Nat, k ≤ l.length ∧ i = .int .i64 k ∧ J (l.take k) wr ∧ Below n₀ W wr) (fun _ i _ => l.length - (intOf i).toNat)
  case atStart => exact ⟨0, Nat.zero_le _, rfl, by simpa using h0, Below.refl _ _⟩
  case round =>
    obtain ⟨k, hk, rfl, hJs, hkp⟩ := hrel
    have HKP := Lib.hid hkp
    have HJS := Lib.hid hJs
    clear hkp hJs
    by_cases hlt : k < l.length
    · obtain ⟨x, hx⟩ := some_at hlt
      obtain ⟨b, off, rfl, hb, k0'⟩ := HC.out k x hx
      have k0 := (HKP.out.cell (p := ⟨b, off + k, none⟩) hb).trans k0'
      obtain ⟨fn, tmps, assign, body, hy, hR⟩ := HY.out _ x wr HJS.out (by rw [List.length_take]; omega)
      have HT := Lib.hid (take_atV hx)
      have hki : (k : Int) < (l.length : Int) := by omega
      have wk1 : IntKind.i64.wrap ((k : Int) + 1) = ((k + 1 : Nat) : Int) := by rw [IntWalk.i64_in _ (by omega)]; omega
      clear k0' hx
      gi_wp2
      refine hR.mono ?_
      rintro e W3 (⟨rfl, hJ3, hk3⟩ | ⟨rfl, hJx3⟩)
      · have HK4 := Lib.hid (HKP.out.trans hk3)
        have HJ3 := Lib.hid hJ3
        clear hk3 hJ3
        gi_wp2
        go_roundw
        case rel => exact ⟨k + 1, by omega, rfl, by rw [HT.out]; exact HJ3.out, HK4.out⟩
        case measure => simp [intOf]; omega
      · have HX := Lib.hid hJx3
        clear hJx3
        gi_wp2
        refine bodyPost_ret (results_none rfl _ _ _) rfl ?_
        exact ⟨⟨_, rfl⟩, .inr ⟨_, trivial, HX.out⟩⟩
    · obtain rfl : k = l.length := by omega
      gi_wp2
      go_end0
      exact ⟨⟨_, rfl⟩, .inl ⟨_, rfl, by have := HJS.out; rwa [List.take_length] at this⟩⟩
theorem values_seq (F : Fence) (n : Nat) (hF : F.fn 91) (hro : F.round = none) (hn : 1 ≤ n) {Bs n₀ : Nat} {a : Option Addr} {cap : Nat} {l : List Int} {w : World} (hl : l.length ≤ 1048576) (hn₀ : n₀ ≤ w.heap.size)
    (hb : w.cell? ⟨Bs, 0, none⟩ = some (.slice a l.length cap)) (hc : ∀ j x, l[j]? = some x → ∃ b off, a = some ⟨b, off, none⟩ ∧ b < n₀ ∧ w.cell? ⟨b, off + j, none⟩ = some (vi x)) :
    SeqStopsK F n Tryz.prog 91 #[.pointer (some ⟨Bs, 0, none⟩)] encK (Below n₀) (fun ys => ys = l) (fun _ => True) l.length w := fun lp J Jx W hW hJ _ hY h0 =>
  values1_in F n hF hro hn lp Bs n₀ a cap l hl J Jx hY W (cell_later hW hb) (fun j x hj => by
    obtain ⟨b, off, h1, h2, h3⟩ := hc j x hj
    exact ⟨b, off, h1, h2, cell_later hW h3⟩) h0
theorem ownsRow_succY {w : World} {base e size n : Nat} {v : Value} {xs : List Value} (h : w.ownsRow base e size v (n + 1) xs) : ∃ g c, v = .slice (some ⟨g, 0, none⟩) (n + 1) c := by
  obtain ⟨a, c, rfl, h2⟩ := own_shapeY h
  obtain ⟨g, rfl, _⟩ := h2 (by omega)
  exact ⟨g, c, rfl⟩

set_option maxRecDepth 100000 in
set_option maxHeartbeats 4000000 in
theorem appendSeqV_call {Bs : Nat} {a : Option Addr} {cap : Nat} {l : List Int} (w : World) (hb : w.cell? ⟨Bs, 0, none⟩ = some (.slice a l.length cap)) (hc : ∀ j x, l[j]? = some x → ∃ b off, a = some ⟨b, off, none⟩ ∧ w.cell? ⟨b, off + j, none⟩ = some (vi x)) (hL : l.length ≤ 1048576) :
    Calls Tryz.prog 116 #[.slice none 0 0, .func (.func 91) #[] #[.pointer (some ⟨Bs, 0, none⟩)]] w fun e w' => ∃ v, e = .returned v ∧ OwI w.heap.size w' v l ∧ Below w.heap.size w w' := by
  have HB := Lib.hid ((Below.refl w.heap.size w).alloc (Nat.le_refl _) (.cells #[.slice none 0 0] 58))
  have HX := Lib.hid (alloc_atG w (.cells #[.slice none 0 0] 58))
  have HQ := Lib.hid (values_seq Fence.wide 7 trivial rfl (by omega) (n₀ := w.heap.size) (w := w.alloc (.cells #[.slice none 0 0] 58)) hL (by simp) (cell_later HB.out hb) (fun j x hj => by obtain ⟨b, off, h1, h2⟩ := hc j x hj; exact ⟨b, off, h1, World.block_lt_of_cell? w _ h2, cell_later HB.out h2⟩))
  have hs0 : (w.alloc (.cells #[.slice none 0 0] 58)).heap.size = w.heap.size + 1 := by simp
  clear hb hc
  refine (callsIn_wide (n := 8)).1 ?_
  refine callsIn_of_wp_marks Tryz.func116 rfl trivial ?_ rfl
  simp only [Tryz.ntmps116, List.size_toArray, List.length_cons, List.length_nil, Nat.reduceAdd, Nat.reduceSub, Array.replicate_succ, Array.replicate_zero, List.push_toArray, List.append_toArray, List.nil_append, List.cons_append]
  gi_wp2_with fail
  generalize w.alloc (.cells #[.slice none 0 0] 58) = w0 at *
  refine wpIn_rangeFunc_ownH rfl (by omega) (gf := 91) (lb := #[.pointer (some ⟨Bs, 0, none⟩)]) rfl trivial (enters_of Tryz.func91 (by kernel_rfl) rfl)
    HQ.out Below.trans (belowK_b (by omega)) (Below.refl _ _) (fun _ => rfl)
    (fun pre W => StL w pre W)
    (fun _ _ _ => False)
    (fun pre A B row hs hg hr => stL_own (base := w0.heap.size) (by omega) hs hg hr)
    (fun _ pre A B row hs _ _ => hs) ⟨⟨_, HX.out, World.ownsRow_nil _ _ _ _⟩, by omega, HB.out⟩
    (fun x a' W => a' = { tmps := #[.slice none 0 0, .func (.func 91) #[] #[.pointer (some ⟨Bs, 0, none⟩)], .pointer (some ⟨w.heap.size, 0, none⟩), undef, .slice none 0 0, vi x, .func (.func 91) #[] #[.pointer (some ⟨Bs, 0, none⟩)], vi x, undef, undef, undef, undef, undef], defers := [] })
    (fun x a' u A B row hs hg hr => hs)
    ?assign ?body ?done (fun _ _ _ _ _ _ h _ => h.elim)
  case assign =>
    rintro lp pre x W K h2 hK
    gi_wp2
    exact hK _ _ ((⟨Nat.le_refl _, fun _ _ h _ => h⟩ : KeepsOthers W W).from _) (Below.refl _ _) h2 rfl
  case body =>
    rintro lp pre x a' W hlp hrec h2 rfl hlen
    have HH := Lib.hid h2
    obtain ⟨vo, ho, hrow⟩ := h2.out
    have co : W.cell? ⟨w.heap.size, 0, none⟩ = some vo := cell_ofG ho 0
    have HROW := Lib.hid hrow
    have HO := Lib.hid ho
    have hsW := h2.size
    have hlW : (W.alloc (.cells #[vi x] 3)).heap.size = W.heap.size + 1 := by simp
    clear h2 hrow ho hrec
    gi_wp2_with (gi_at_builtin; refine wpListIn_append_src rfl _ _ 58 rfl eltI (w.heap.size + 1) pre.length _ (World.ownsRow.alloc HROW.out _) rfl 1 (viC x) (src_new (cs := #[vi x]) rfl rfl) rfl (by intro u hu; simp [viC] at hu; subst hu; rfl) (by omega) (by omega) (by omega) ?_; intro v' w1 hown' hgrow _; obtain ⟨g', cap', rfl⟩ := ownsRow_succY hown'; have q0 : w1.heap[w.heap.size]? = some (.cells #[vo] 58) := (hgrow.block w.heap.size (by omega) (fun e => by have := (World.ownsRow.lt HROW.out _ e.symm).1; omega)).trans ((Below.heap_alloc _ _ _ (by omega)).trans HO.out); have q1 : w1.cell? ⟨w.heap.size, 0, none⟩ = some vo := cell_ofG q0 0; have q2 : w1.frozen? ⟨w.heap.size, 0, none⟩ = false := free_of q0 0)
    have hk := keeps_put (v' := .slice (some ⟨g', 0, none⟩) (pre.length + 1) cap') (a := ⟨w.heap.size, 0, none⟩) HROW.out ⟨_, _, HO.out⟩ hgrow
    exact ⟨hk.from _, (((Below.refl w.heap.size W).alloc (by omega) _).grown hgrow (by omega) (fun j hj => by have := (World.ownsRow.lt HROW.out j hj).1; omega)).setCell (Nat.le_refl _) _, stL_put HH.out HROW.out HO.out hgrow hown'⟩
  case done =>
    rintro D ys W hD hys h1 hK
    have HK := Lib.hid hK
    have HH := Lib.hid h1
    have HP := Lib.hid hys
    obtain ⟨vo, ho, hrow⟩ := h1.out
    have HROW := Lib.hid hrow
    have c0 : W.cell? ⟨w.heap.size, 0, none⟩ = some vo := by rw [cell_ofG ho]; rfl
    clear h1 hK hys ho hrow
    gi_wp2
    refine leaves_marksG [D] W (fun D' hD' => by simp at hD'; subst hD'; exact HK.out) (by simp) (fun w' h1 h2 h3 h4 h5 => ?_)
    have hb : Below w.heap.size w w' := ⟨h1.trans HH.out.below.os, h2.trans HH.out.below.tape, h3.trans HH.out.below.output, by rw [h4]; exact HH.out.below.size, fun k hk => (h5 k (fun hD' => by simp at hD'; have := HB.out.size; omega)).trans (HH.out.below.block k hk)⟩
    obtain rfl := HP.out
    refine ⟨vo, by simp [results, Tryz.f116, go_sem], vo, rfl, ?_, hb⟩
    have hrow := HROW.out
    unfold OwI
    refine own_mono (b := w.heap.size + 1) ⟨hrow.1, ?_⟩ (by omega)
    rcases hrow.2 with h | ⟨g, cp, cur, hv, hg, hh, r⟩
    · exact .inl h
    · refine .inr ⟨g, cp, cur, hv, hg, ?_, r⟩
      rw [h5 g (fun hD' => by simp at hD'; subst hD'; have := HK.out; rw [hh] at this; cases this)]
      exact hh

set_option maxRecDepth 100000 in
set_option maxHeartbeats 2000000 in
theorem collectV_call {Bs : Nat} {a : Option Addr} {cap : Nat} {l : List Int} (w : World) (hb : w.cell? ⟨Bs, 0, none⟩ = some (.slice a l.length cap)) (hc : ∀ j x, l[j]? = some x → ∃ b off, a = some ⟨b, off, none⟩ ∧ w.cell? ⟨b, off + j, none⟩ = some (vi x)) (hL : l.length ≤ 1048576) :
    Calls Tryz.prog 89 #[.func (.func 91) #[] #[.pointer (some ⟨Bs, 0, none⟩)]] w fun e w' => ∃ v, e = .returned v ∧ OwI w.heap.size w' v l ∧ Below w.heap.size w w' := by
  have HA := Lib.hid (appendSeqV_call w hb hc hL)
  clear hb hc
  go_enter Tryz.func89, Tryz.ntmps89
  go_wp2_with (go_at_call 116; refine HA.out.mono ?_; rintro e w1 ⟨v, rfl, h1, h3⟩)
  go_ret
  exact ⟨v, rfl, h1, h3⟩

set_option maxRecDepth 100000 in
theorem values_call (a : Option Addr) (n cap : Nat) (w : World) :
    Calls Tryz.prog 74 #[.slice a n cap] w fun e w' => e = .returned (.func (.func 91) #[] #[.pointer (some ⟨w.heap.size, 0, none⟩)]) ∧ w' = w.alloc (.cells #[.slice a n cap] 58) := by
  go_enter Tryz.func74, Tryz.ntmps74
  go_wp2_with fail
  go_ret
  exact ⟨rfl, rfl⟩
end Go.Proofs.YtnacoplokjdglaaGreat

namespace Go.Proofs.YtnacoplokjdglaaGreat
open Go.RowKit Go.Maps
set_option maxRecDepth 100000 in
set_option maxHeartbeats 2000000 in
theorem sortedV_call {Bs : Nat} {a : Option Addr} {cap : Nat} {l : List Int} (w : World) (hb : w.cell? ⟨Bs, 0, none⟩ = some (.slice a l.length cap)) (hc : ∀ j x, l[j]? = some x → ∃ b off, a = some ⟨b, off, none⟩ ∧ w.cell? ⟨b, off + j, none⟩ = some (vi x)) (hL : l.length ≤ 1048576) :
    Calls Tryz.prog 73 #[.func (.func 91) #[] #[.pointer (some ⟨Bs, 0, none⟩)]] w fun e w' => ∃ v, e = .returned v ∧ OwI w.heap.size w' v (srt l) ∧ Below w.heap.size w w' := by
  have HC := Lib.hid (collectV_call w hb hc hL)
  clear hb hc
  go_enter Tryz.func73, Tryz.ntmps73
  go_upto_region 2 with (go_at_call 89; refine HC.out.mono ?_; rintro e w1 ⟨v, rfl, ho, hb⟩; have HO := Lib.hid ho; have HB := Lib.hid hb; clear ho hb)
  have HS := Lib.hid (sort_call v l w1 HO.out hL)
  go_wp2_with (go_at_call 90; refine HS.out.mono ?_; rintro e w2 ⟨rfl, ho2, hg2⟩)
  go_ret
  exact ⟨v, rfl, ho2, HB.out.grown hg2 HB.out.size (fun j hj => (World.ownsRow.lt HO.out j hj).1)⟩

set_option maxRecDepth 100000 in
set_option maxHeartbeats 2000000 in
theorem equalI_call (u v : Value) (l1 l2 : List Int) (w : World) (hu : RdInts w u l1) (hv : RdInts w v l2) :
    Calls Tryz.prog 72 #[u, v] w fun e w' => e = .returned (.bool (decide (l1 = l2))) ∧ Below w.heap.size w w' := by
  have HU := Lib.hid hu
  have HV := Lib.hid hv
  have mixed : Tryz.prog.follows .mixedOrders = true := by kernel_rfl
  obtain ⟨ua, ul, uc, rfl, rfl, hum, -⟩ := hu.at
  obtain ⟨va, vl, vc, rfl, rfl, hvm, -⟩ := hv.at
  clear hu hv
  go_enter Tryz.func72, Tryz.ntmps72
  by_cases hl : l1.length = l2.length
  · have e1 : ((l1.length : Int) == (l2.length : Int)) = true := beq_iff_eq.2 (by omega)
    have e2 : ((l1.length : Int) != (l2.length : Int)) = false := by rw [bne, e1]; rfl
    have HL := Lib.hid hl
    clear hl
    go_wp2_with fail
    go_loopw [5, 13] (fun _ kv wr => ∃ k : Nat, k ≤ l1.length ∧ kv = .int .i64 k ∧ Hid (l1.take k = l2.take k) ∧ Below w.heap.size w wr) (fun _ kv _ => l1.length - (intOf kv).toNat)
    case atStart => exact ⟨0, Nat.zero_le _, rfl, Lib.hid rfl, Below.refl _ _⟩
    case round =>
      obtain ⟨wk, rfl⟩ : ∃ wk : World, wk = wr := ⟨_, rfl⟩
      obtain ⟨k, hk, rfl, HT, hb⟩ := hrel
      have HBk := Lib.hid hb
      clear hb
      by_cases hlt : k < l1.length
      · obtain ⟨x, hx⟩ := some_at hlt
        obtain ⟨y, hy⟩ := some_at (l := l2) (k := k) (by rw [← HL.out]; exact hlt)
        obtain ⟨_, _, _, e5, -, -, hul⟩ := (HU.out.later HBk.out).at
        cases e5
        obtain ⟨ub, uo, rfl, x0, -⟩ := hul k x hx
        obtain ⟨_, _, _, e6, -, -, hvl⟩ := (HV.out.later HBk.out).at
        cases e6
        obtain ⟨vb, vo, rfl, y0, -⟩ := hvl k y hy
        have hkI : (k : Int) < (l1.length : Int) := by omega
        have hkJ : (k : Int) < (l2.length : Int) := by have := HL.out; omega
        have wk1 : IntKind.i64.wrap ((k : Int) + 1) = ((k + 1 : Nat) : Int) := by rw [IntWalk.i64_in _ (by omega)]; omega
        have HX := Lib.hid hx
        have HY := Lib.hid hy
        clear hul hvl hx hy
        go_upto_region 6 with fail
        cases hxy : (x == y) with
        | true =>
          have hne : (x != y) = false := by rw [bne, hxy]; rfl
          have HXY := Lib.hid (beq_iff_eq.1 hxy)
          go_quiet (fail)
          go_wp2_with fail
          exact ⟨⟨k + 1, by omega, rfl, Lib.hid (by rw [take_atV HX.out, take_atV HY.out, HT.out, HXY.out]), below_drewN HBk.out _⟩, by simp only [intOf]; omega⟩
        | false =>
          have hne : (x != y) = true := by rw [bne, hxy]; rfl
          have HNE := Lib.hid (show decide (l1 = l2) = false from decide_eq_false (fun e => by
            have h1 := HX.out
            rw [e, HY.out] at h1
            have := Option.some.inj h1
            rw [this] at hxy; simp at hxy))
          go_quiet (fail)
          go_wp2_with fail
          go_ret
          exact ⟨by rw [HNE.out]; rfl, below_drewN HBk.out _⟩
      · obtain rfl : k = l1.length := by omega
        have HE := Lib.hid (show decide (l1 = l2) = true from decide_eq_true (by
          have := HT.out
          rw [List.take_length, HL.out, List.take_length] at this
          exact this))
        go_wp2_with fail
        go_ret
        exact ⟨by rw [HE.out]; rfl, HBk.out⟩
  · have e1 : ((l1.length : Int) == (l2.length : Int)) = false := beq_eq_false_iff_ne.2 (by omega)
    have e2 : ((l1.length : Int) != (l2.length : Int)) = true := by rw [bne, e1]; rfl
    have HNE := Lib.hid (show decide (l1 = l2) = false from decide_eq_false (fun e => hl (by rw [e])))
    clear hl
    go_wp2_with fail
    go_ret
    exact ⟨by rw [HNE.out]; rfl, Below.refl _ _⟩

end Go.Proofs.YtnacoplokjdglaaGreat

namespace Go.Proofs.YtnacoplokjdglaaGreat
open Go.RowKit Go.Maps

abbrev MapO (w : World) (b : Nat) (O : OrdL) : Prop := MapT Tryz.prog 3 vi (fun x : Value × List Int => x.1) w b O
theorem zero_sl (w : World) : (zeroValue 58).run Tryz.prog w = .ok (.slice none 0 0) w := by kernel_rfl
set_option maxRecDepth 100000 in
set_option maxHeartbeats 2000000 in
theorem fix_short (a : Option Addr) (cap n : Nat) (d : Option Addr) (dc k : Nat) (ov : Value) (w : World) (h : k ≠ n) (hn : n ≤ 4096) (hk : k ≤ 4096) :
    Calls Tryz.prog 51 #[.slice a n cap, .slice d k dc, ov] w fun e w' => e = .returned (.tuple #[.map none, .bool false]) ∧ w' = w := by
  have e1 : ((k : Int) == (n : Int)) = false := beq_eq_false_iff_ne.2 (by omega)
  have e2 : ((k : Int) != (n : Int)) = true := by rw [bne, e1]; rfl
  clear h
  go_enter Tryz.func51, Tryz.ntmps51
  go_wp2_with fail
  go_ret2
  exact ⟨by rfl, rfl⟩

end Go.Proofs.YtnacoplokjdglaaGreat

namespace Go.Proofs.YtnacoplokjdglaaGreat
open Go.RowKit Go.Maps
/-- The orders that stand in a map: readable rows. -/
def OrdG (w : World) (O : OrdL) : Prop := ∀ (key : Nat) (v : Value) (l : List Int), key < 16 → getM O (key : Int) = some (v, l) → RdInts w v l ∧ l.length ≤ 4096
/-- What a look into a value of a map's type gives. -/
def LookO (w : World) (mv : Value) (O : OrdL) : Prop := ∀ key : Nat, key < 16 → ∃ v, (∀ W, Below w.heap.size w W → (Instr.lookup 35 mv (vi key) false).run Tryz.prog W = .ok v W) ∧ RdInts w v (ordL O key) ∧ (ordL O key).length ≤ 4096
theorem rd_nil (w : World) : RdInts w (.slice none 0 0) [] := ⟨none, 0, 0, rfl, rfl, by simp, Nat.le_refl _, fun _ => ⟨rfl, rfl⟩, fun j x hj => by simp at hj⟩
theorem LookO.of_map {w : World} {m : Nat} {O : OrdL} (h : MapO w m O) (hR : OrdG w O) : LookO w (.map (some m)) O := fun key hk => by
  have h1 := fun W (hb : Below w.heap.size w W) => (MapT.lookup intKeyed vi_inj (t := 35) (e := 58) Tryz.underlying35 (h.below hb h.lt) (key : Int) (intKey (by unfold i64; omega)) (zero_sl W)).1
  cases hg : getM O (key : Int) with
  | none =>
    refine ⟨.slice none 0 0, ?_, ?_⟩
    · intro W hb; rw [h1 W hb, hg]; rfl
    · rw [show ordL O key = [] from by unfold ordL; rw [hg]; rfl]; exact ⟨rd_nil w, by simp⟩
  | some p =>
    obtain ⟨v, l⟩ := p
    refine ⟨v, ?_, ?_⟩
    · intro W hb; rw [h1 W hb, hg]; rfl
    · rw [ordL_of hg]
      exact hR key v l hk hg
theorem LookO.later {w w' : World} {mv : Value} {O : OrdL} (h : LookO w mv O) (hb : Below w.heap.size w w') : LookO w' mv O := fun key hk => by
  obtain ⟨v, h1, h2, h3⟩ := h key hk
  exact ⟨v, fun W hW => h1 W (hb.trans (hW.mono hb.size)), h2.later hb, h3⟩

/-- What is said of orders is of the given orders alone. -/
def NoX (F : FaL) (O : OrdL) : Prop := ∀ (c : GChoice) (so : Bool), c.kind ≠ 1 → getM F c = some so → ∃ key : Nat, key < 16 ∧ ∃ x y, x ∈ ordL O key ∧ y ∈ ordL O key ∧ x ≠ y ∧ c = ⟨2, key, min x y, max x y⟩
theorem NoX.start {ts : List GTxn} {dn : List Bool} {k : Nat} {F : FaL} (h : Fact0 ts dn k F) (O : OrdL) : NoX F O := fun c so hk hc => by
  rw [h c, if_neg (fun e => hk e.2)] at hc; cases hc
theorem NoX.put {F : FaL} {O : OrdL} (h : NoX F O) {key : Nat} (hk : key < 16) {x y : Int} (hx : x ∈ ordL O key) (hy : y ∈ ordL O key) (hxy : x ≠ y) (so : Bool) : NoX (putM F ⟨2, key, min x y, max x y⟩ so) O := fun c so' h1 h2 => by
  rw [getM_put] at h2
  by_cases he : (⟨2, (key : Int), min x y, max x y⟩ : GChoice) = c
  · exact ⟨key, hk, x, y, hx, hy, hxy, he.symm⟩
  · rw [if_neg he] at h2; exact h c so' h1 h2

/-- Who is done, as the facts say. -/
def Fits (ts : List GTxn) (dn : List Bool) (F : FaL) : Prop := ∀ i : Nat, i < ts.length → (isM ts F i).1 = dn[i]?.getD false
theorem isM_fact1 {ts : List GTxn} {dn : List Bool} {F G : FaL} (hF : Fact1 ts dn F) (hG : Fact1 ts dn G) (i : Nat) : isM ts F i = isM ts G i := by
  unfold isM; rw [hF _ rfl, hG _ rfl]
theorem Fits.same {ts : List GTxn} {dn : List Bool} {F G : FaL} (h : Fits ts dn F) (hF : Fact1 ts dn F) (hG : Fact1 ts dn G) : Fits ts dn G := fun i hi => by rw [isM_fact1 hG hF]; exact h i hi
/-- The facts that chains.Fix makes. -/
structure FixF (ts : List GTxn) (dn : List Bool) (O : OrdL) (F : FaL) : Prop where
  one : Fact1 ts dn F
  fits : Fits ts dn F
  good : GoodK ts dn O 16
  pr : ∀ key : Nat, key < 16 → PrT F key (ordL O key) (ordL O key).length 0
  nox : NoX F O
theorem FixF.same {ts : List GTxn} {dn : List Bool} {O : OrdL} {F G : FaL} (hF : FixF ts dn O F) (hG : FixF ts dn O G) (c : GChoice) : getM F c = getM G c := by
  by_cases hk : c.kind = 1
  · rw [hF.one c hk, hG.one c hk]
  · have key : ∀ {F G : FaL}, FixF ts dn O F → FixF ts dn O G → ∀ so, getM F c = some so → getM G c = some so := by
      intro F G hF hG so h
      obtain ⟨key, h1, x, y, hx, hy, hxy, rfl⟩ := hF.nox c so hk h
      obtain ⟨i, hi⟩ := List.getElem?_of_mem hx
      obtain ⟨j, hj⟩ := List.getElem?_of_mem hy
      have li := (List.getElem?_eq_some_iff.1 hi).1
      have lj := (List.getElem?_eq_some_iff.1 hj).1
      rcases Nat.lt_trichotomy i j with h3 | h3 | h3
      · rw [hF.pr key h1 j i x y h3 (.inl lj) hi hj] at h
        rw [hG.pr key h1 j i x y h3 (.inl lj) hi hj]; exact h
      · subst h3; rw [hi] at hj; cases hj; exact absurd rfl hxy
      · have e1 : min x y = min y x := by omega
        have e2 : max x y = max y x := by omega
        rw [e1, e2] at h ⊢
        rw [hF.pr key h1 i j y x h3 (.inl li) hj hi] at h
        rw [hG.pr key h1 i j y x h3 (.inl li) hj hi]; exact h
    cases h1 : getM F c with
    | some so => exact (key hF hG so h1).symm
    | none =>
      cases h2 : getM G c with
      | none => rfl
      | some so => rw [key hG hF so h2] at h1; cases h1
/-- The answer of chains.Fix. -/
def FixR (ts : List GTxn) (dn : List Bool) (O : OrdL) (w : World) (e : Ending) (w' : World) : Prop := ∃ (r : Option Nat) (b : Bool), e = .returned (.tuple #[.map r, .bool b]) ∧ Hid ((b = true → ∃ m F, r = some m ∧ MapF w' m F ∧ FixF ts dn O F) ∧ (b = false → ∀ F, ¬ FixF ts dn O F)) ∧ Below w.heap.size w w'
theorem FixR.no {ts : List GTxn} {dn : List Bool} {O : OrdL} {w w' : World} {e : Ending} {r : Option Nat} (h : e = .returned (.tuple #[.map r, .bool false])) (hn : ∀ F, ¬ FixF ts dn O F) (hb : Below w.heap.size w w') : FixR ts dn O w e w' := ⟨r, false, h, Lib.hid ⟨fun h => (by cases h), fun _ => hn⟩, hb⟩

set_option maxRecDepth 100000 in
set_option maxHeartbeats 16000000 in
theorem fixG_call (v : Value) (ts : List GTxn) (da : Option Addr) (dc : Nat) (om : Option Nat) (dn : List Bool) (O : OrdL) (w : World) (hv : RdTxns w v ts) (hok : OkTxns ts) (htl : ts.length ≤ 4096) (hd : RdB w (.slice da ts.length dc) dn) (hdl : dn.length = ts.length)
    (hO : LookO w (.map om) O) :
    Calls Tryz.prog 51 #[v, .slice da ts.length dc, .map om] w (FixR ts dn O w) := by
  have HV := Lib.hid hv
  have HOK := Lib.hid hok
  have HD := Lib.hid hd
  have HDL := Lib.hid hdl
  have HO := Lib.hid hO
  obtain ⟨a, len, cap, rfl, rfl, hmm, -⟩ := hv.at
  have hmkm := @run_makeMap Tryz.prog
  have HM0 := Lib.hid (show MapF (w.alloc (.map #[] 0)) w.heap.size [] from MapT.made w)
  have HB0 := Lib.hid ((Below.refl w.heap.size w).alloc (Nat.le_refl _) (.map #[] 0))
  have hs0 : (w.alloc (.map #[] 0)).heap.size = w.heap.size + 1 := by simp
  clear hv hok hd hdl hO
  go_enter Tryz.func51, Tryz.ntmps51
  go_upto_region 4 with fail
  clear hmkm
  generalize w.alloc (.map #[] 0) = w0 at *
  go_wp2_with (go_at_call 48; refine (choices_call _ ts w0 (HV.out.later HB0.out) HOK.out htl).mono ?_; rintro e w2 ⟨v2, rfl, ho2, hb2⟩; have HC2 := Lib.hid ho2.rd; have HO2 := Lib.hid ho2; have HB2 := Lib.hid hb2; obtain ⟨a2, len2, cap2, rfl, rfl, hm2, -⟩ := HC2.out.at; clear hb2 ho2)
  have HM2 := Lib.hid (HM0.out.below HB2.out (by omega))
  have HBw2 := Lib.hid (HB0.out.trans (HB2.out.mono HB0.out.size))
  have HCO := Lib.hid (fun c (h : c ∈ choicesM ts) => choicesM_ok h)
  have hcl := choicesM_le ts htl
  obtain ⟨C, hC⟩ : ∃ C, choicesM ts = C := ⟨_, rfl⟩
  have HC := Lib.hid hC
  rw [hC] at HCO hcl HO2 HC2 hm2
  rw [hC]
  clear hC
  go_loopw [10, 32] (fun _ n wr => ∃ (k : Nat) (F : FaL), k ≤ C.length ∧ n = .int .i64 k ∧ Hid (MapF wr w.heap.size F ∧ Fact0 ts dn k F ∧ OwCh 128 w0.heap.size wr (.slice a2 C.length cap2) C ∧ Below w.heap.size w wr)) (fun _ n _ => C.length - (intOf n).toNat)
  case atStart => exact ⟨0, [], Nat.zero_le _, rfl, Lib.hid ⟨HM2.out, Fact0.nil ts dn, HO2.out, HBw2.out⟩⟩
  case round =>
    obtain ⟨wk, rfl⟩ : ∃ wk : World, wk = wr := ⟨_, rfl⟩
    obtain ⟨k, F, hk, rfl, HJ⟩ := hrel
    have HM := Lib.hid HJ.out.1
    have HF := Lib.hid HJ.out.2.1
    have HOk := Lib.hid HJ.out.2.2.1
    have HBk := Lib.hid HJ.out.2.2.2
    clear HJ
    have hbs := HBk.out.size
    have hml2 := HM.out.lt
    by_cases hlt : k < C.length
    · obtain ⟨c, hc⟩ := some_at hlt
      have hco := HCO.out c (List.mem_of_getElem? hc)
      obtain ⟨kd, ky, ca, cb⟩ := c
      obtain ⟨an, rfl⟩ := Int.eq_ofNat_of_zero_le hco.a.1
      have han : an < ts.length := by have := hco.a.2; simpa using this
      obtain ⟨_, _, _, e5, -, -, hclc⟩ := HOk.out.rd.at
      cases e5
      obtain ⟨b, off, rfl, k0, k1, k2, k3⟩ := hclc k _ hc
      have hkI : (k : Int) < (C.length : Int) := by omega
      have wk1 : IntKind.i64.wrap ((k : Int) + 1) = ((k + 1 : Nat) : Int) := by rw [IntWalk.i64_in _ (by omega)]; omega
      have HSM := Lib.hid (hco.small htl)
      have HP := Lib.hid (show (choicesM ts)[k]? = some ⟨kd, ky, an, cb⟩ by rw [HC.out]; exact hc)
      have HXo := Lib.hid (alloc_at wk (.cells #[vi kd, vi ky, vi an, vi cb] 128))
      have HOo := Lib.hid (HOk.out.alloc (.cells #[vi kd, vi ky, vi an, vi cb] 128))
      have HMo := Lib.hid (HM.out.frame (Below.heap_alloc wk (.cells #[vi kd, vi ky, vi an, vi cb] 128) _ hml2))
      have HBo := Lib.hid (HBk.out.alloc hbs (.cells #[vi kd, vi ky, vi an, vi cb] 128))
      have hwo : (wk.alloc (.cells #[vi kd, vi ky, vi an, vi cb] 128)).heap.size = wk.heap.size + 1 := by simp
      clear hclc hc hco
      go_upto_region 7 with fail
      clear k0 k1 k2 k3
      generalize wk.alloc (.cells #[vi kd, vi ky, vi an, vi cb] 128) = wo at *
      have q0 : wo.cell? ⟨wk.heap.size, 0, none⟩ = some (vi kd) := by rw [cell_of HXo.out]; rfl
      have q1 : wo.cell? ⟨wk.heap.size, 1, none⟩ = some (vi ky) := by rw [cell_of HXo.out]; rfl
      have q2 : wo.cell? ⟨wk.heap.size, 2, none⟩ = some (vi an) := by rw [cell_of HXo.out]; rfl
      have q3 : wo.cell? ⟨wk.heap.size, 3, none⟩ = some (vi cb) := by rw [cell_of HXo.out]; rfl
      by_cases h1 : kd = 1
      · have HK1 := Lib.hid h1
        have e1 : (kd == 1) = true := beq_iff_eq.2 h1
        obtain ⟨x, hx⟩ := some_at (l := dn) (k := an) (by rw [HDL.out]; exact han)
        obtain ⟨_, _, _, e9, -, -, hdc⟩ := HD.out.at
        cases e9
        obtain ⟨gb, go, rfl, hd0⟩ := hdc an x hx
        have d0 := cell_later (w' := wo) (by have := HBo.out; exact this) hd0
        clear hdc hd0
        have HX := Lib.hid (show x = dn[(an : Int).toNat]?.getD false by simp [hx])
        obtain ⟨kl, hkl⟩ := choiceKey HSM.out
        have HKL := Lib.hid hkl
        have hanI : (an : Int) < (ts.length : Int) := by omega
        clear hx hkl h1
        go_upto_region 8 with fail
        go_still_tail 7, (by kernel_rfl)
        change wpList _ _ _ _ _ wo.drew
        have HMd := Lib.hid (show MapF wo.drew w.heap.size F from HMo.out.frame rfl)
        have HXd := Lib.hid (show x = dn[(an : Int).toNat]?.getD false from HX.out)
        go_wp2_with (at_mapUpdate; refine wpList_mapUpdate_T (b := w.heap.size) (eK := chK) (eV := Value.bool) rfl _ _ _ rfl choiceKeyed chK_inj Tryz.underlying87 HMd.out rfl ⟨kd, ky, an, cb⟩ HKL.out rfl x rfl ?_; intro w4 hM4 hg4)
        have hg4' : wo.grownBy w4 (some w.heap.size) := ⟨hg4.os, hg4.tape, hg4.output, hg4.size, hg4.block⟩
        have ho4 := World.ownsRow.kept HOo.out hg4' (.inr (fun e => map_apart HOo.out HMo.out e.symm))
        have hb4 : Below w.heap.size w w4 := HBo.out.grown hg4' HBo.out.size (fun j hj => by cases hj; exact Nat.le_refl _)
        refine ⟨⟨k + 1, putM F ⟨kd, ky, an, cb⟩ x, by omega, rfl, Lib.hid ?_⟩, ?_⟩
        · exact ⟨hM4, HF.out.put HP.out HK1.out HXd.out, ho4, hb4⟩
        · simp only [intOf]; omega
      · have e1 : (kd == 1) = false := beq_eq_false_iff_ne.2 h1
        have HK1 := Lib.hid h1
        clear h1
        go_wp2_with fail
        exact ⟨⟨k + 1, F, by omega, rfl, Lib.hid ⟨HMo.out, HF.out.skip HP.out HK1.out, HOo.out, HBo.out⟩⟩, by simp only [intOf]; omega⟩
    · obtain rfl : k = C.length := by omega
      have HF1 := Lib.hid (show Fact1 ts dn F from Fact0.full (by have := HF.out; rw [← HC.out] at this; exact this))
      have HNX0 := Lib.hid (NoX.start HF.out O)
      have HVk := Lib.hid (HV.out.later HBk.out)
      clear HF HOk HO2 HC2 HM2 HBw2 HCO HM0
      go_wp2_with fail
      go_loopw [11, 12, 13, 49] (fun _ _ _ n wr => ∃ i : Nat, i ≤ ts.length ∧ n = .int .i64 i ∧ Hid (∀ j : Nat, j < i → (isM ts F j).1 = dn[j]?.getD false) ∧ Below wk.heap.size wk wr) (fun _ _ _ n _ => ts.length - (intOf n).toNat)
      case atStart => exact ⟨0, Nat.zero_le _, rfl, Lib.hid (fun j h => absurd h (Nat.not_lt_zero _)), Below.refl _ _⟩
      case round =>
        obtain ⟨wi, rfl⟩ : ∃ wk : World, wk = wr := ⟨_, rfl⟩
        obtain ⟨i, hi, rfl, HFI, hb⟩ := hrel
        have HBi := Lib.hid hb
        have HMi := Lib.hid (HM.out.below hb HM.out.lt)
        have HVi := Lib.hid (HVk.out.later hb)
        have HBz := Lib.hid (HBk.out.trans (hb.mono HBk.out.size))
        clear hb
        by_cases hlt2 : i < ts.length
        · obtain ⟨x, hx⟩ := some_at (l := dn) (k := i) (by rw [HDL.out]; exact hlt2)
          have hiI : (i : Int) < (ts.length : Int) := by omega
          have wi1 : IntKind.i64.wrap ((i : Int) + 1) = ((i + 1 : Nat) : Int) := by rw [IntWalk.i64_in _ (by omega)]; omega
          obtain ⟨_, _, _, e9, -, -, hdc⟩ := HD.out.at
          cases e9
          obtain ⟨gb, go, rfl, hd0⟩ := hdc i x hx
          have HX := Lib.hid hd0
          have HE := Lib.hid (show dn[i]?.getD false = x by rw [hx]; rfl)
          have HI := Lib.hid (Is_call _ ts w.heap.size F i wi HVi.out HOK.out htl HMi.out hlt2)
          obtain ⟨y, hy⟩ : ∃ y, (isM ts F i).1 = y := ⟨_, rfl⟩
          have HY := Lib.hid hy
          rw [hy] at HI
          clear hx hy hdc hd0
          go_upto_region 14 with (go_at_call 41; refine HI.out.mono ?_; rintro e w5 ⟨rfl, hb5⟩)
          have HB5 := Lib.hid (HBi.out.trans (hb5.mono HBi.out.size))
          have d0 := cell_later (HBk.out.trans (HB5.out.mono HBk.out.size)) HX.out
          clear hb5
          have hne : x ≠ y → ∀ F', ¬ FixF ts dn O F' := fun hxy F' hF' => by
            have h1 := hF'.fits.same hF'.one HF1.out i hlt2
            rw [HY.out, HE.out] at h1
            exact hxy h1.symm
          have HNE := Lib.hid hne
          have hst : x = y → ∀ j : Nat, j < i + 1 → (isM ts F j).1 = dn[j]?.getD false := fun hxy j hj => by
            rcases Nat.lt_or_ge j i with h1 | h1
            · exact HFI.out j h1
            · obtain rfl : j = i := by omega
              rw [HY.out, HE.out, hxy]
          have HST := Lib.hid hst
          clear hne hst
          cases x with
          | false =>
            cases y with
            | false =>
              go_wp2_with fail
              exact ⟨⟨i + 1, by omega, rfl, Lib.hid (HST.out rfl), HB5.out⟩, by simp only [intOf]; omega⟩
            | true =>
              go_wp2_with fail
              go_ret2
              exact FixR.no rfl (HNE.out (by simp)) (HBk.out.trans (HB5.out.mono HBk.out.size))
          | true =>
            cases y with
            | true =>
              go_wp2_with fail
              exact ⟨⟨i + 1, by omega, rfl, Lib.hid (HST.out rfl), HB5.out⟩, by simp only [intOf]; omega⟩
            | false =>
              go_wp2_with fail
              go_ret2
              exact FixR.no rfl (HNE.out (by simp)) (HBk.out.trans (HB5.out.mono HBk.out.size))
        · obtain rfl : i = ts.length := by omega
          have HFT := Lib.hid (show Fits ts dn F from HFI.out)
          clear HVk HBk HBi HM HFI
          go_wp2_with fail
          go_loopw [14, 15, 16, 17, 18, 19, 20, 22, 66] (fun _ _ _ _ _ _ _ _ n wr => ∃ (k : Nat) (F : FaL), k ≤ 16 ∧ n = .int .i64 k ∧ Hid ((Fits ts dn F ∧ NoX F O) ∧ MapF wr w.heap.size F ∧ Fact1 ts dn F ∧ (∀ key : Nat, key < k → PrT F key (ordL O key) (ordL O key).length 0) ∧ GoodK ts dn O k ∧ Below w.heap.size w wr)) (fun _ _ _ _ _ _ _ _ n _ => 16 - (intOf n).toNat)
          case atStart => exact ⟨0, F, by omega, rfl, Lib.hid ⟨⟨HFT.out, HNX0.out⟩, HMi.out, HF1.out, fun key h => absurd h (Nat.not_lt_zero _), fun key h => absurd h (Nat.not_lt_zero _), HBz.out⟩⟩
          case round =>
            clear HMi HF1 HVi HBz HFT HNX0
            obtain ⟨wq, rfl⟩ : ∃ wk : World, wk = wr := ⟨_, rfl⟩
            obtain ⟨key, F, hkey, rfl, HJ0⟩ := hrel
            have HFN := Lib.hid HJ0.out.1
            have HJ := Lib.hid HJ0.out.2
            clear HJ0
            have HM := Lib.hid HJ.out.1
            have HF1 := Lib.hid HJ.out.2.1
            have HPR := Lib.hid HJ.out.2.2.1
            have HGD := Lib.hid HJ.out.2.2.2.1
            have HBq := Lib.hid HJ.out.2.2.2.2
            clear HJ
            have hbq := HBq.out.size
            have hmq := HM.out.lt
            by_cases h16 : key < 16
            · obtain ⟨ov, hlk0, hrl, hll⟩ := HO.out key h16
              have hlk := hlk0 wq HBq.out
              clear hlk0
              obtain ⟨l, hol2⟩ : ∃ l, ordL O key = l := ⟨_, rfl⟩
              rw [hol2] at hrl hll
              have k16 : (key : Int) < 16 := by omega
              have wk1 : IntKind.i64.wrap ((key : Int) + 1) = ((key + 1 : Nat) : Int) := by rw [IntWalk.i64_in _ (by omega)]; omega
              have HOL := Lib.hid hol2
              have HRL := Lib.hid hrl
              obtain ⟨oa, oc0, oc, rfl, rfl, hom, -⟩ := hrl.at
              clear hrl hol2
              go_upto_region 22 with fail
              clear hlk
              go_wp2_with fail
              have HVq := Lib.hid (HV.out.later HBq.out)
              go_loopw [16, 17, 18, 74] (fun wv _ _ n wr => ∃ i : Nat, i ≤ ts.length ∧ n = .int .i64 i ∧ Hid (OwI wq.heap.size wr wv (wantL ts dn key i) ∧ Below wq.heap.size wq wr)) (fun _ _ _ n _ => ts.length - (intOf n).toNat)
              case atStart => exact ⟨0, Nat.zero_le _, rfl, Lib.hid ⟨World.ownsRow_nil _ _ _ _, Below.refl _ _⟩⟩
              case round =>
                obtain ⟨wi, rfl⟩ : ∃ wk : World, wk = wr := ⟨_, rfl⟩
                obtain ⟨i, hi, rfl, HJ⟩ := hrel
                have HW := Lib.hid HJ.out.1
                have HBi := Lib.hid HJ.out.2
                clear HJ
                have hbi := HBi.out.size
                obtain ⟨wa, wc, rfl, -⟩ := own_shapeY HW.out
                by_cases hlt3 : i < ts.length
                · obtain ⟨t, ht⟩ := some_at hlt3
                  obtain ⟨_, _, _, e5, -, -, hcl3⟩ := (HVq.out.later HBi.out).at
                  cases e5
                  obtain ⟨b, off, toa, toc, rfl, hr, k0, k1, k2⟩ := hcl3 i t ht
                  obtain ⟨x, hx⟩ := some_at (l := dn) (k := i) (by rw [HDL.out]; exact hlt3)
                  have hiI : (i : Int) < (ts.length : Int) := by omega
                  have wi1 : IntKind.i64.wrap ((i : Int) + 1) = ((i + 1 : Nat) : Int) := by rw [IntWalk.i64_in _ (by omega)]; omega
                  have HN := Lib.hid (wantL_succ ts dn key i)
                  rw [hx, wrOf_at ht] at HN
                  have hwl := wantL_le ts dn key i
                  have HBo := Lib.hid ((Below.refl wi.heap.size wi).alloc (Nat.le_refl _) (.cells #[vi t.client, vi t.state, .slice toa t.ops.length toc] 49))
                  have HXo := Lib.hid (alloc_at wi (.cells #[vi t.client, vi t.state, .slice toa t.ops.length toc] 49))
                  have hwo : (wi.alloc (.cells #[vi t.client, vi t.state, .slice toa t.ops.length toc] 49)).heap.size = wi.heap.size + 1 := by simp
                  have HRo := Lib.hid (hr.later HBo.out)
                  have HWo := Lib.hid (own_below HW.out HBo.out)
                  have HBio := Lib.hid (HBi.out.trans (HBo.out.mono hbi))
                  obtain ⟨_, _, _, e9, -, -, hdc⟩ := HD.out.at
                  cases e9
                  obtain ⟨gb, go, rfl, hd0⟩ := hdc i x hx
                  have d0 := cell_later (HBq.out.trans (HBio.out.mono HBq.out.size)) hd0
                  clear hdc hd0
                  clear hcl3 hr ht hx
                  go_upto_region 25 with fail
                  generalize wi.alloc (.cells #[vi t.client, vi t.state, .slice toa t.ops.length toc] 49) = wo at *
                  clear k0 k1 k2
                  have c0 : wo.cell? ⟨wi.heap.size, 0, none⟩ = some (vi t.client) := by rw [cell_of HXo.out]; rfl
                  have c1 : wo.cell? ⟨wi.heap.size, 1, none⟩ = some (vi t.state) := by rw [cell_of HXo.out]; rfl
                  have c2 : wo.cell? ⟨wi.heap.size, 2, none⟩ = some (.slice toa t.ops.length toc) := by rw [cell_of HXo.out]; rfl
                  cases x with
                  | false =>
                    have HIF := Lib.hid (show wantL ts dn key (i + 1) = wantL ts dn key i by rw [HN.out]; simp)
                    go_wp2_with fail
                    exact ⟨⟨i + 1, by omega, rfl, Lib.hid ⟨by rw [HIF.out]; exact HWo.out, HBio.out⟩⟩, by simp only [intOf]; omega⟩
                  | true =>
                    have HWC := Lib.hid (writesK_call t.client t.state _ t key wo HRo.out)
                    cases hw : writesK t key with
                    | false =>
                      rw [hw] at HN HWC
                      clear hw
                      have HIF := Lib.hid (show wantL ts dn key (i + 1) = wantL ts dn key i by rw [HN.out]; simp)
                      go_wp2_with (go_at_call 66; refine HWC.out.mono ?_; rintro e w4 ⟨rfl, hb4⟩)
                      exact ⟨⟨i + 1, by omega, rfl, Lib.hid ⟨by rw [HIF.out]; exact own_below HWo.out hb4, HBio.out.trans (hb4.mono HBio.out.size)⟩⟩, by simp only [intOf]; omega⟩
                    | true =>
                      rw [hw] at HN HWC
                      clear hw
                      have HIF := Lib.hid (show wantL ts dn key (i + 1) = wantL ts dn key i ++ [(i : Int)] by rw [HN.out]; simp)
                      clear HN
                      generalize wantL ts dn key i = acc at *
                      go_upto_region 26 with (go_at_call 66; refine HWC.out.mono ?_; rintro e w4 ⟨rfl, hb4⟩)
                      have HB4 := Lib.hid (HBio.out.trans (hb4.mono HBio.out.size))
                      have HW4 := Lib.hid (own_below HWo.out hb4)
                      have h4s := HB4.out.size
                      clear hb4 c0 c1 c2
                      go_wp2_with (at_builtin; refine wpList_append_src rfl _ _ 58 rfl eltI wq.heap.size acc.length _ (HW4.out.alloc _) rfl 1 (viC i) (src_new (cs := #[vi i]) rfl rfl) rfl (by intro u hu; simp [viC] at hu; subst hu; rfl) (by omega) (by omega) (by simp; omega) ?_; intro v5 w5 ho5 hg5 _)
                      have hbb := (HB4.out.alloc h4s (.cells #[vi i] 3)).grown hg5 (by simp; omega) (fun j hj => (World.ownsRow.lt HW4.out j hj).1)
                      refine ⟨⟨i + 1, by omega, rfl, Lib.hid ?_⟩, ?_⟩
                      · exact ⟨by rw [HIF.out]; simpa [OwI] using ho5, hbb⟩
                      · simp only [intOf]; omega
                · obtain rfl : i = ts.length := by omega
                  have hwl := wantL_le ts dn key ts.length
                  have HWI := Lib.hid (OwI.rdY HW.out (fun x hx => by
                    obtain ⟨i, h1, rfl, _⟩ := wantL_mem.1 hx
                    unfold i64; omega))
                  obtain ⟨W0, hW0⟩ : ∃ W0, wantL ts dn key ts.length = W0 := ⟨_, rfl⟩
                  have HW0 := Lib.hid hW0
                  rw [hW0] at HW HWI hwl
                  rw [hW0]
                  clear hW0
                  have HLi := Lib.hid (HRL.out.later (HBq.out.trans (HBi.out.mono hbq)))
                  have HXv := Lib.hid (alloc_at wi (.cells #[.slice oa l.length oc] 58))
                  have HBv := Lib.hid ((Below.refl wi.heap.size wi).alloc (Nat.le_refl _) (.cells #[.slice oa l.length oc] 58))
                  have HVC := Lib.hid (values_call oa l.length oc wi)
                  go_upto_region 28 with fail
                  clear HVq
                  have HSC := Lib.hid (sortedV_call (Bs := wi.heap.size) (a := oa) (cap := oc) (l := l) (wi.alloc (.cells #[.slice oa l.length oc] 58)) (by rw [cell_of HXv.out]; rfl) (fun j x hj => by
                    obtain ⟨_, _, _, e5, -, -, hul⟩ := (HLi.out.later HBv.out).at
                    cases e5
                    obtain ⟨b, off, h1, h2, _⟩ := hul j x hj
                    exact ⟨b, off, h1, h2⟩) (by omega))
                  have HSI := Lib.hid (show ∀ x ∈ srt l, i64 x from fun x hx => HLi.out.i64s x ((srt_perm l).mem_iff.1 hx))
                  by_cases heq : srt l = W0
                  · have HEQ := Lib.hid heq
                    have HNX := Lib.hid (show srt (ordL O key) = wantL ts dn key ts.length by rw [HOL.out, HW0.out]; exact heq)
                    have HDE := Lib.hid (show decide (srt l = W0) = true from decide_eq_true heq)
                    clear heq
                    go_upto_region 30 with (first
                      | (go_at_call 74; refine HVC.out.mono ?_; rintro e w5 ⟨rfl, hw5⟩; subst hw5)
                      | (go_at_call 73; refine HSC.out.mono ?_; rintro e w6 ⟨v6, rfl, ho6, hb6⟩; have HB6 := Lib.hid (HBv.out.trans (hb6.mono HBv.out.size)); have HO6 := Lib.hid ho6; clear ho6 hb6)
                      | (go_at_call 72; refine (equalI_call _ _ _ _ w6 (OwI.rdY HO6.out HSI.out) (HWI.out.later HB6.out)).mono ?_; rw [HDE.out]; rintro e w7 ⟨rfl, hb7⟩; have HB7 := Lib.hid (HB6.out.trans (hb7.mono HB6.out.size)); clear hb7))
                    have HB7z := Lib.hid (HBq.out.trans ((HBi.out.trans (HB7.out.mono HBi.out.size)).mono HBq.out.size))
                    have HM7 := Lib.hid (HM.out.below (HBi.out.trans (HB7.out.mono HBi.out.size)) hmq)
                    have HND := Lib.hid (show l.Nodup from by have := srt_nodup HNX.out; rwa [HOL.out] at this)
                    have hoc : l.length ≤ oc := by
                      obtain ⟨_, _, _, h1, _, _, hlc, _⟩ := HRL.out
                      cases h1
                      exact hlc
                    clear HSC HVC HXv HBv HLi HM HBi HW HWI HO6 HB6 HB7 HEQ HDE HSI
                    go_wp2_with fail
                    go_loopw [19, 20, 22, 101] (fun _ _ _ n wr => ∃ (k : Nat) (F2 : FaL), k ≤ l.length ∧ n = .int .i64 k ∧ Hid (Fits ts dn F2 ∧ NoX F2 O) ∧ Hid (MapF wr w.heap.size F2 ∧ Fact1 ts dn F2 ∧ (∀ key' : Nat, key' < key → PrT F2 key' (ordL O key') (ordL O key').length 0) ∧ PrT F2 key l k 0 ∧ Below w.heap.size w wr)) (fun _ _ _ n _ => l.length - (intOf n).toNat)
                    case atStart => exact ⟨0, F, Nat.zero_le _, rfl, Lib.hid HFN.out, Lib.hid ⟨HM7.out, HF1.out, HPR.out, PrT.start _ _ _, HB7z.out⟩⟩
                    case round =>
                      clear HM7 HF1 HPR HB7z HFN
                      obtain ⟨wr5, rfl⟩ : ∃ wk : World, wk = wr := ⟨_, rfl⟩
                      obtain ⟨k, F2, hk5, rfl, HFN2, HJ⟩ := hrel
                      have HM2 := Lib.hid HJ.out.1
                      have HF2 := Lib.hid HJ.out.2.1
                      have HPR2 := Lib.hid HJ.out.2.2.1
                      have HPT2 := Lib.hid HJ.out.2.2.2.1
                      have HB5 := Lib.hid HJ.out.2.2.2.2
                      clear HJ
                      by_cases hkl5 : k < l.length
                      · obtain ⟨b, hb⟩ := some_at hkl5
                        obtain ⟨_, _, _, e5, -, -, hul⟩ := (HRL.out.later HB5.out).at
                        cases e5
                        obtain ⟨lb, lo, rfl, y0, hbi⟩ := hul k b hb
                        have hkI : (k : Int) < (l.length : Int) := by omega
                        have wk1' : IntKind.i64.wrap ((k : Int) + 1) = ((k + 1 : Nat) : Int) := by rw [IntWalk.i64_in _ (by omega)]; omega
                        have htk : ∀ W, (Instr.slice 58 (.slice (some ⟨lb, lo, none⟩) l.length oc) none (some (.int .i64 k)) none).run Tryz.prog W = .ok (.slice (some ⟨lb, lo, none⟩) k oc) W := run_takeY (by omega)
                        have HY := Lib.hid hb
                        clear hul hb
                        go_wp2_with fail
                        go_loopw [22, 110] (fun _ n wr => ∃ (j : Nat) (F3 : FaL), j ≤ k ∧ n = .int .i64 j ∧ Hid (Fits ts dn F3 ∧ NoX F3 O) ∧ Hid (MapF wr w.heap.size F3 ∧ Fact1 ts dn F3 ∧ (∀ key' : Nat, key' < key → PrT F3 key' (ordL O key') (ordL O key').length 0) ∧ PrT F3 key l k j ∧ Below w.heap.size w wr)) (fun _ n _ => k - (intOf n).toNat)
                        case atStart => exact ⟨0, F2, Nat.zero_le _, rfl, Lib.hid HFN2.out, Lib.hid ⟨HM2.out, HF2.out, HPR2.out, HPT2.out, HB5.out⟩⟩
                        case round =>
                          clear HM2 HF2 HPR2 HPT2 HB5 HFN2 htk y0
                          obtain ⟨ws, rfl⟩ : ∃ wk : World, wk = wr := ⟨_, rfl⟩
                          obtain ⟨j, F3, hj6, rfl, HFN3, HJ⟩ := hrel
                          have HM3 := Lib.hid HJ.out.1
                          have HF3 := Lib.hid HJ.out.2.1
                          have HPR3 := Lib.hid HJ.out.2.2.1
                          have HPT := Lib.hid HJ.out.2.2.2.1
                          have HBs := Lib.hid HJ.out.2.2.2.2
                          clear HJ
                          by_cases hjk : j < k
                          · obtain ⟨a, ha⟩ := some_at (l := l) (k := j) (by omega)
                            obtain ⟨_, _, _, e6, -, -, hul⟩ := (HRL.out.later HBs.out).at
                            cases e6
                            obtain ⟨_, _, e7, x0, hai⟩ := hul j a ha
                            cases e7
                            have hjI : (j : Int) < (k : Int) := by omega
                            have wj1 : IntKind.i64.wrap ((j : Int) + 1) = ((j + 1 : Nat) : Int) := by rw [IntWalk.i64_in _ (by omega)]; omega
                            have HA := Lib.hid ha
                            have hab : a ≠ b := fun e => by subst e; have := nodup_at HND.out HA.out HY.out; omega
                            clear hul ha
                            rcases Int.lt_or_gt_of_ne hab with hc | hc
                            · have hdum : True := trivial
                              have HPP := Lib.hid (HPT.out.put HND.out HA.out HY.out hjk)
                              have hlt0 : decide (a < b) = true := decide_eq_true hc
                              rw [hlt0] at HPP
                              obtain ⟨kl, hkl⟩ := choiceKey (c := ⟨2, (key : Int), min a b, max a b⟩) (by have h1 := hai; have h2 := hbi; unfold i64 at h1 h2; unfold SmallCh i64; simp only; omega)
                              have HKL := Lib.hid hkl
                              clear hkl
                              go_wp2_with (at_mapUpdate; refine wpList_mapUpdate_T (b := w.heap.size) (eK := chK) (eV := Value.bool) rfl _ _ _ rfl choiceKeyed chK_inj Tryz.underlying87 HM3.out rfl ⟨2, (key : Int), min a b, max a b⟩ HKL.out rfl true rfl ?_; intro w9 hM9 hg9)
                              have hb9 : Below w.heap.size w w9 := HBs.out.grown hg9 HBs.out.size (fun j hj => by cases hj; exact Nat.le_refl _)
                              refine ⟨⟨j + 1, putM F3 ⟨2, (key : Int), min a b, max a b⟩ true, by omega, rfl, Lib.hid ⟨fun i hi => by rw [isM_fact1 (HF3.out.put _ _ _ _) HF3.out]; exact HFN3.out.1 i hi, HFN3.out.2.put h16 (by rw [HOL.out]; exact List.mem_of_getElem? HA.out) (by rw [HOL.out]; exact List.mem_of_getElem? HY.out) hab _⟩, Lib.hid ?_⟩, ?_⟩
                              · exact ⟨hM9, HF3.out.put _ _ _ _, fun key' hk' => (HPR3.out key' hk').other (by omega), HPP.out, hb9⟩
                              · simp only [intOf]; omega
                            · have hdum : True := trivial
                              have HPP := Lib.hid (HPT.out.put HND.out HA.out HY.out hjk)
                              have hlt0 : decide (a < b) = false := decide_eq_false (by omega)
                              rw [hlt0] at HPP
                              obtain ⟨kl, hkl⟩ := choiceKey (c := ⟨2, (key : Int), min a b, max a b⟩) (by have h1 := hai; have h2 := hbi; unfold i64 at h1 h2; unfold SmallCh i64; simp only; omega)
                              have HKL := Lib.hid hkl
                              clear hkl
                              go_wp2_with (at_mapUpdate; refine wpList_mapUpdate_T (b := w.heap.size) (eK := chK) (eV := Value.bool) rfl _ _ _ rfl choiceKeyed chK_inj Tryz.underlying87 HM3.out rfl ⟨2, (key : Int), min a b, max a b⟩ HKL.out rfl false rfl ?_; intro w9 hM9 hg9)
                              have hb9 : Below w.heap.size w w9 := HBs.out.grown hg9 HBs.out.size (fun j hj => by cases hj; exact Nat.le_refl _)
                              refine ⟨⟨j + 1, putM F3 ⟨2, (key : Int), min a b, max a b⟩ false, by omega, rfl, Lib.hid ⟨fun i hi => by rw [isM_fact1 (HF3.out.put _ _ _ _) HF3.out]; exact HFN3.out.1 i hi, HFN3.out.2.put h16 (by rw [HOL.out]; exact List.mem_of_getElem? HA.out) (by rw [HOL.out]; exact List.mem_of_getElem? HY.out) hab _⟩, Lib.hid ?_⟩, ?_⟩
                              · exact ⟨hM9, HF3.out.put _ _ _ _, fun key' hk' => (HPR3.out key' hk').other (by omega), HPP.out, hb9⟩
                              · simp only [intOf]; omega
                          · obtain rfl : j = k := by omega
                            go_wp2_with fail
                            exact ⟨⟨j + 1, F3, by omega, rfl, Lib.hid HFN3.out, Lib.hid ⟨HM3.out, HF3.out, HPR3.out, HPT.out.next, HBs.out⟩⟩, by simp only [intOf]; omega⟩
                      · obtain rfl : k = l.length := by omega
                        have hpr : ∀ key' : Nat, key' < key + 1 → PrT F2 key' (ordL O key') (ordL O key').length 0 := fun key' hk' => by
                          rcases Nat.lt_or_ge key' key with h | h
                          · exact HPR2.out key' h
                          · obtain rfl : key' = key := by omega
                            rw [HOL.out]; exact HPT2.out
                        have HPRn := Lib.hid hpr
                        clear hpr
                        go_wp2_with fail
                        refine ⟨⟨key + 1, F2, by omega, rfl, Lib.hid ?_⟩, ?_⟩
                        · exact ⟨HFN2.out, HM2.out, HF2.out, HPRn.out, HGD.out.next HNX.out, HB5.out⟩
                        · simp only [intOf]; omega
                  · have HNE := Lib.hid (show ¬ srt (ordL O key) = wantL ts dn key ts.length by rw [HOL.out, HW0.out]; exact heq)
                    have HDE := Lib.hid (show decide (srt l = W0) = false from decide_eq_false heq)
                    clear heq
                    go_wp2_with (first
                      | (go_at_call 74; refine HVC.out.mono ?_; rintro e w5 ⟨rfl, hw5⟩; subst hw5)
                      | (go_at_call 73; refine HSC.out.mono ?_; rintro e w6 ⟨v6, rfl, ho6, hb6⟩; have HB6 := Lib.hid (HBv.out.trans (hb6.mono HBv.out.size)); have HO6 := Lib.hid ho6; clear ho6 hb6)
                      | (go_at_call 72; refine (equalI_call _ _ _ _ w6 (OwI.rdY HO6.out HSI.out) (HWI.out.later HB6.out)).mono ?_; rw [HDE.out]; rintro e w7 ⟨rfl, hb7⟩; have HB7 := Lib.hid (HB6.out.trans (hb7.mono HB6.out.size)); clear hb7))
                    go_ret2
                    exact FixR.no rfl (fun F' h => HNE.out (h.good key h16)) (HBq.out.trans ((HBi.out.trans (HB7.out.mono HBi.out.size)).mono HBq.out.size))
            · obtain rfl : key = 16 := by omega
              go_wp2_with fail
              go_ret2
              exact ⟨_, true, rfl, Lib.hid ⟨fun _ => ⟨_, F, rfl, HM.out, ⟨HF1.out, HFN.out.1, HGD.out, HPR.out, HFN.out.2⟩⟩, fun h => (by cases h)⟩, HBq.out⟩
end Go.Proofs.YtnacoplokjdglaaGreat

namespace Go.Proofs.YtnacoplokjdglaaGreat
/-- One gets from a to b by one step or more. -/
inductive Way {α : Type} (r : α → α → Prop) : α → α → Prop
  | one {a b : α} : r a b → Way r a b
  | more {a b c : α} : r a b → Way r b c → Way r a c
theorem Way.trans {α : Type} {r : α → α → Prop} {a b c : α} (h : Way r a b) (k : Way r b c) : Way r a c := by
  induction h with
  | one h => exact .more h k
  | more h _ ih => exact .more h (ih k)
def Rounds {α : Type} (r : α → α → Prop) : Prop := ∃ a, Way r a a
theorem nodup_len {α : Type} [DecidableEq α] : ∀ (V L : List α), V.Nodup → (∀ x ∈ V, x ∈ L) → V.length ≤ L.length
  | [], _, _, _ => Nat.zero_le _
  | x :: V, L, hd, hs => by
    have hd' := List.nodup_cons.1 hd
    have hx : x ∈ L := hs x List.mem_cons_self
    have ih := nodup_len V (L.erase x) hd'.2 (fun y hy => by
      have hne : y ≠ x := fun e => hd'.1 (e ▸ hy)
      exact (List.mem_erase_of_ne hne).2 (hs y (List.mem_cons_of_mem _ hy)))
    have h2 := List.length_erase_of_mem hx
    have h3 := List.length_pos_of_mem hx
    simp only [List.length_cons]; omega
/-- A list in which each goes to the next one. -/
def Chain1 {α : Type} (r : α → α → Prop) : List α → Prop
  | [] => True
  | [_] => True
  | a :: b :: l => r a b ∧ Chain1 r (b :: l)
theorem chain_way {α : Type} {r : α → α → Prop} : ∀ {l : List α} {a b : α}, Chain1 r (a :: l) → b ∈ l → Way r a b
  | [], _, _, _, h => by cases h
  | c :: l, a, b, hc, hb => by
    rcases List.mem_cons.1 hb with rfl | hb
    · exact .one hc.1
    · exact .more hc.1 (chain_way hc.2 hb)
/-! Edges with kinds: at a level that lets a cycle be only where two reads that are written over stand side by side. -/
structure GEdge where
  f : Int
  t : Int
  k : Int
deriving DecidableEq
def ArcK (es : List GEdge) (snap : Bool) (u v : Int) : Prop :=
  (∃ e ∈ es, (snap = false ∨ e.k ≠ 3) ∧ e.f = u ∧ e.t = v) ∨ (snap = true ∧ ∃ e ∈ es, e.k ≠ 3 ∧ e.f = u ∧ ∃ g ∈ es, g.k = 3 ∧ g.f = e.t ∧ g.t = v)
end Go.Proofs.YtnacoplokjdglaaGreat
