/- Texts of one proof, one behind the other: GrCy2, DpCptP, DpCpt. -/
import Derived.Test.YtnacoplokjdglaaGreatKp1
import Derived.Test.YtnacoplokjdglaaGreatKp2
import Derived.Test.YtnacoplokjdglaaGreatKp3
import Derived.Test.YtnacoplokjdglaaGreatKp4
import Derived.Test.YtnacoplokjdglaaGreatKp5
import Derived.Test.YtnacoplokjdglaaGreatKp8
import Derived.Test.YtnacoplokjdglaaGreatKp9
import Derived.Test.YtnacoplokjdglaaGreatKp10
import Derived.Test.YtnacoplokjdglaaGreatKp11
set_option linter.all false
namespace Go.Proofs.YtnacoplokjdglaaGreat
open Go.RowKit Go.Maps
attribute [local go_sem] Oper.semAt_some

theorem nextT_bound {n : Nat} {arcs : List (Int × Int)} : ∀ m ∈ nextT n arcs, ∀ y ∈ m, 0 ≤ y ∧ y < n := by
  intro m hm y hy
  unfold nextT at hm
  obtain ⟨u, -, rfl⟩ := List.mem_map.1 hm
  exact rawRow_bound y ((sortC_mem _ _).1 hy)
theorem nextT_short {n : Nat} {arcs : List (Int × Int)} (h : arcs.length ≤ 1000000) : ∀ m ∈ nextT n arcs, m.length ≤ 1048576 := by
  intro m hm
  unfold nextT at hm
  obtain ⟨u, -, rfl⟩ := List.mem_map.1 hm
  have h1 := sortC_len (rawRow n arcs u)
  have h2 := rawRow_len n arcs u
  omega
def farD (D : List Int) (x : Int) : Int := (D[x.toNat]?).getD 0
theorem farD_at {D : List Int} {v : Nat} {d : Int} (h : D[v]? = some d) : farD D (v : Int) = d := by simp [farD, h]

theorem below_grownB {B b : Nat} {w A W : World} (h : Below B w A) (hg : A.grownBy W (some b)) (hb : B ≤ b) (hB : B ≤ w.heap.size) : Below B w W :=
  ⟨hg.os.trans h.os, hg.tape.trans h.tape, hg.output.trans h.output, Nat.le_trans h.size hg.size, fun j hj => (hg.block j (Nat.lt_of_lt_of_le hj (Nat.le_trans hB h.size)) (fun e => by have := Option.some.inj e; omega)).trans (h.block j hj)⟩
theorem grown_drewN {w4 W : World} {r : Option Nat} (h : w4.grownBy W r) (n : Nat) : w4.grownBy (W.drewN n) r := ⟨h.os, h.tape, h.output, h.size, h.block⟩
/-- The box of the length. -/
structure BoxL (w4 : World) (b9 : Nat) (L : Int) (wr : World) : Prop where
  gr : w4.grownBy wr (some b9)
  box : wr.heap[b9]? = some (.cells #[vi L] 3)
theorem BoxL.drewN {w4 W : World} {b9 : Nat} {L : Int} (h : BoxL w4 b9 L W) (n : Nat) : BoxL w4 b9 L (W.drewN n) := ⟨grown_drewN h.gr n, h.box⟩
theorem BoxL.set {w4 W : World} {b9 : Nat} {L : Int} (h : BoxL w4 b9 L W) (d : Int) : BoxL w4 b9 d (W.setCell ⟨b9, 0, none⟩ (vi d)) :=
  ⟨grown_setCell h.gr, by simp [World.setCell, Array.getElem?_modify, h.box]⟩
theorem BoxL.at {w4 W : World} {b9 : Nat} {L : Int} (h : BoxL w4 b9 L W) {j : Nat} {o : Obj} (hj : w4.heap[j]? = some o) (hne : j ≠ b9) : W.heap[j]? = some o :=
  (h.gr.block j (Array.getElem?_eq_some_iff.1 hj).1 (fun e => hne (Option.some.inj e))).trans hj

def boxN (w : World) (b : Nat) : Nat := match w.heap[b]? with
  | some (.cells cur _ _) => (intOf ((cur[0]?).getD (vi 0))).toNat
  | _ => 0
theorem boxN_of {w : World} {b : Nat} {L : Nat} (h : w.heap[b]? = some (.cells #[vi L] 3)) : boxN w b = L := by
  unfold boxN; rw [h]; simp [intOf]
theorem idxC_spec {q : Int → Bool} {l : List Int} (h : ∃ y ∈ l, q y = true) : ∃ (i : Nat) (y : Int), idxC q l = (i : Int) ∧ l[i]? = some y ∧ q y = true := by
  unfold idxC
  obtain ⟨y, hy, hq⟩ := h
  cases hf : l.findIdx? q with
  | none =>
    rw [List.findIdx?_eq_none_iff] at hf
    have := hf y hy
    rw [hq] at this
    cases this
  | some i =>
    rw [List.findIdx?_eq_some_iff_getElem] at hf
    obtain ⟨hi, h1, -⟩ := hf
    exact ⟨i, l[i], rfl, List.getElem?_eq_getElem hi, h1⟩
theorem cell_same {w W : World} (h : SameH w W) (a : Addr) : W.cell? a = w.cell? a := by simp [World.cell?, h.heap]
theorem SameH.trans {a b c : World} (h : SameH a b) (k : SameH b c) : SameH a c := ⟨k.heap.trans h.heap, by
  have e : b.heap.size = a.heap.size := by rw [h.heap]
  have := k.below
  rw [e] at this
  exact h.below.trans this⟩
theorem own_someB {w : World} {base e size n : Nat} {v : Value} {xs : List Value} (h : w.ownsRow base e size v n xs) (h0 : 0 < n) : ∃ g c, v = .slice (some ⟨g, 0, none⟩) n c := by
  rcases h.2 with ⟨hv, h1⟩ | ⟨g, cap, cur, hv, _⟩
  · omega
  · exact ⟨g, cap, hv⟩

theorem BoxL.grown {w4 A B : World} {b9 : Nat} {L : Int} {r : Option Nat} (h : BoxL w4 b9 L A) (hg : A.grownBy B r) (hr : ∀ g, r = some g → g ≠ b9 ∧ w4.heap.size ≤ g) : BoxL w4 b9 L B :=
  ⟨⟨hg.os.trans h.gr.os, hg.tape.trans h.gr.tape, hg.output.trans h.gr.output, Nat.le_trans h.gr.size hg.size, fun j hj hne => (hg.block j (Nat.lt_of_lt_of_le hj h.gr.size) (fun e => by have := (hr j e.symm).2; omega)).trans (h.gr.block j hj hne)⟩,
   (hg.block b9 (Array.getElem?_eq_some_iff.1 h.box).1 (fun e => (hr b9 e.symm).1 rfl)).trans h.box⟩

set_option maxRecDepth 100000 in
set_option maxHeartbeats 8000000 in
theorem cycle_callN (ni : Int) (arcs : List (Int × Int)) (v : Value) (w : World) (hr : RdArcs w v arcs) (hl : arcs.length ≤ 1000000) :
    Calls Tryz.prog 75 #[vi ni, v] w fun e w' => ∃ v' C, e = .returned v' ∧ w'.ownsRow w.heap.size 3 1 v' C.length ((C.map natI).flatMap viC) ∧ CycI (nextT (sizeM ni) arcs) (sizeM ni) C ∧ (C = [] → v' = .slice none 0 0) ∧ Below w.heap.size w w' := by
  have hsz := size_call ni w
  obtain ⟨n, hn⟩ : ∃ n, n = sizeM ni := ⟨_, rfl⟩
  rw [← hn] at hsz ⊢
  have hn4 : n ≤ 400 := by rw [hn]; exact sizeM_le ni
  clear hn
  have hnx := Lib.hid (next_callG n arcs v w hr hn4 hl)
  have HSH := Lib.hid (nextT_short (n := n) hl)
  have HSZ := Lib.hid hsz
  obtain ⟨T, hTe⟩ : ∃ T, T = nextT n arcs := ⟨_, rfl⟩
  have HLEN := Lib.hid (show T.length = n from by rw [hTe]; exact nextT_len n arcs)
  have HBD := Lib.hid (show ∀ m ∈ T, ∀ y ∈ m, 0 ≤ y ∧ y < n from by rw [hTe]; exact nextT_bound)
  rw [← hTe] at hnx HSH ⊢
  clear hTe hl hr hsz
  go_enter Tryz.func75, Tryz.ntmps75
  go_upto_region 3 with (first | (go_at_call 92; refine HSZ.out.mono ?_; rintro e1 w0 ⟨rfl, rfl⟩) | (go_at_call 93; refine hnx.out.mono ?_; rintro e1 w1 ⟨tb, vs, rfl, hT, hB⟩; have HT := Lib.hid hT; have HB := Lib.hid hB; clear hT hB))
  go_wp2_with fail
  go_loopw [20, 6] (fun i v wr => ∃ (k : Nat) (C : List Nat), k ≤ n ∧ i = vi k ∧ Hid (wr.ownsRow w1.heap.size 3 1 v C.length ((C.map natI).flatMap viC) ∧ (C = [] → v = .slice none 0 0) ∧ CycI T k C ∧ Below w1.heap.size w1 wr)) (fun i _ _ => n - (intOf i).toNat)
  case atStart => exact ⟨0, [], Nat.zero_le _, rfl, Lib.hid ⟨World.ownsRow_nil _ _ _ _, fun _ => rfl, CycI.start T, Below.refl _ _⟩⟩
  case round =>
    obtain ⟨wj, rfl⟩ : ∃ wj : World, wj = wr := ⟨_, rfl⟩
    obtain ⟨k, C, hk, rfl, HJ⟩ := hrel
    obtain ⟨av, cv, rfl⟩ := Gr.own_shape HJ.out.1
    by_cases hlt : k < n
    · have k1 : decide ((k : Int) < (n : Int)) = true := decide_eq_true (by omega)
      have k2 : (k : Int) < (n : Int) := by omega
      have k3 : (0 : Int) ≤ (k : Int) := by omega
      have hwk : IntKind.i64.wrap ((k : Int) + 1) = (k : Int) + 1 := IntWalk.i64_in _ (by omega)
      have HTJ := Lib.hid (HT.out.later HJ.out.2.2.2)
      have HFC := Lib.hid (far_call T k n wj HTJ.out HLEN.out hn4 hlt HBD.out HSH.out)
      obtain ⟨cl, hcl⟩ : ∃ cl, cl = C.length := ⟨_, rfl⟩
      have HCL := Lib.hid hcl
      rw [← hcl] at HJ ⊢
      clear hcl
      go_upto_region 9 with (go_at_call 94; refine HFC.out.mono ?_; rintro e2 w2 ⟨ob, D, rfl, hob, hD, hF, hB2⟩; have HOB := Lib.hid hob; have HD := Lib.hid hD; have HF := Lib.hid hF; have HB2 := Lib.hid hB2; clear hob hD hF hB2)
      have hobl : ob < w2.heap.size := (Array.getElem?_eq_some_iff.1 HD.out).1
      have e9 : (w2.alloc (.cells #[.slice (some ⟨ob, 0, none⟩) n n] 58)).heap.size = w2.heap.size + 1 := by simp
      have X9 := alloc_atG (w2.alloc (.cells #[.slice (some ⟨ob, 0, none⟩) n n] 58)) (.cells #[vi (-1)] 3)
      rw [e9] at X9
      have X8 := (Below.heap_alloc (w2.alloc (.cells #[.slice (some ⟨ob, 0, none⟩) n n] 58)) (.cells #[vi (-1)] 3) w2.heap.size (by rw [e9]; omega)).trans (alloc_atG w2 _)
      have HA4 := ((Below.refl w2.heap.size w2).alloc (Nat.le_refl _) (.cells #[.slice (some ⟨ob, 0, none⟩) n n] 58)).alloc (by simp) (.cells #[vi (-1)] 3)
      have XD := (HA4.block ob hobl).trans HD.out
      have HBJ := Lib.hid (HB2.out.trans (HA4.mono HB2.out.size))
      have HB4 := Lib.hid (HJ.out.2.2.2.trans (HBJ.out.mono HJ.out.2.2.2.size))
      have HO4 := Lib.hid (own_below HJ.out.1 HBJ.out)
      have HNB := Lib.hid (fun g hg => (HJ.out.1.lt g hg).2)
      have HZ1 := Lib.hid (show wj.heap.size ≤ w2.heap.size from HB2.out.size)
      have HZ2 := Lib.hid (show w1.heap.size ≤ wj.heap.size from HJ.out.2.2.2.size)
      have HZ3 := Lib.hid (show w2.heap.size + 1 < ((w2.alloc (.cells #[.slice (some ⟨ob, 0, none⟩) n n] 58)).alloc (.cells #[vi (-1)] 3)).heap.size from (Array.getElem?_eq_some_iff.1 X9).1)
      have HX8 := Lib.hid X8
      have HX9 := Lib.hid X9
      have HXD := Lib.hid XD
      have HOL := Lib.hid hobl
      have HCI := Lib.hid HJ.out.2.2.1
      have HNL := Lib.hid HJ.out.2.1
      clear HBJ X8 X9 HA4 XD e9 HFC HTJ HB2 HD hobl HJ HOB
      generalize (w2.alloc (.cells #[.slice (some ⟨ob, 0, none⟩) n n] 58)).alloc (.cells #[.int .i64 (-1)] 3) = w4 at *
      obtain ⟨b8, hb8⟩ : ∃ b8, b8 = w2.heap.size := ⟨_, rfl⟩
      rw [← hb8] at HX8 HX9 HOL HZ1 HZ3 ⊢
      clear hb8
      have HT4 := Lib.hid (HT.out.later HB4.out)
      obtain ⟨l, hl⟩ := some_at (show k < T.length by rw [HLEN.out]; exact hlt)
      obtain ⟨vk, hvk, hrow⟩ := HT.out.rows.get hl
      obtain ⟨ak, ck, rfl⟩ := Gr.own_shape (show World.ownsRow _ _ _ _ vk l.length _ from hrow)
      have td : w4.cell? ⟨tb, k, none⟩ = some (.slice ak l.length ck) := HT4.out.cell hvk
      have HROW := Lib.hid (fun W (h : Below w1.heap.size w1 W) => own_below hrow h)
      have HL := Lib.hid hl
      have hml := HSH.out l (List.mem_of_getElem? hl)
      have HLB := Lib.hid (HBD.out l (List.mem_of_getElem? hl))
      obtain ⟨ln, hln⟩ : ∃ ln, ln = l.length := ⟨_, rfl⟩
      have HLN := Lib.hid hln
      rw [← hln] at td hml
      clear hl hvk hrow hln
      go_wp2_with fail
      clear td
      go_loopw [31] (fun i wr => ∃ (j : Nat) (L : Int), j ≤ ln ∧ i = vi j ∧ Hid (MinI D l n j L ∧ BoxL w4 (b8 + 1) L wr)) (fun i _ => ln - (intOf i).toNat)
      case atStart => exact ⟨0, -1, Nat.zero_le _, rfl, Lib.hid ⟨MinI.start D l n, ⟨rfl, rfl, rfl, Nat.le_refl _, fun _ _ _ => rfl⟩, HX9.out⟩⟩
      case round =>
        obtain ⟨wi, rfl⟩ : ∃ wi : World, wi = wr := ⟨_, rfl⟩
        obtain ⟨j, L, hj, rfl, HI⟩ := hrel
        by_cases hjl : j < ln
        · have g1 : decide ((j : Int) < (ln : Int)) = true := decide_eq_true (by omega)
          have g2 : (j : Int) < (ln : Int) := by omega
          have g3 : (0 : Int) ≤ (j : Int) := by omega
          have hwj : IntKind.i64.wrap ((j : Int) + 1) = (j : Int) + 1 := IntWalk.i64_in _ (by omega)
          obtain ⟨y, hy⟩ := some_at (show j < l.length by rw [← HLN.out]; exact hjl)
          have hyb := HLB.out y (List.mem_of_getElem? hy)
          obtain ⟨u, rfl⟩ : ∃ u : Nat, y = (u : Int) := ⟨y.toNat, by omega⟩
          have hun : u < n := by omega
          have hu1 : (u : Int) < (n : Int) := by omega
          have hu2 : (0 : Int) ≤ (u : Int) := by omega
          have HBI := Lib.hid (below_grownB HB4.out HI.out.2.gr (by have := HZ1.out; have := HZ2.out; omega) (Nat.le_refl _))
          obtain ⟨g, rfl, y0⟩ := row_cell (HROW.out wi HBI.out) j _ hy
          obtain ⟨d, hd⟩ := some_at (show u < D.length by rw [HF.out.len, HLEN.out]; exact hun)
          have y1 : wi.cell? ⟨ob, u, none⟩ = some (vi d) := by rw [cell_ofG (HI.out.2.at HXD.out (by have := HOL.out; omega))]; simp [hd]
          have y2 : wi.cell? ⟨b8, 0, none⟩ = some (.slice (some ⟨ob, 0, none⟩) n n) := by rw [cell_ofG (HI.out.2.at HX8.out (by omega))]; rfl
          have y3 : wi.cell? ⟨b8 + 1, 0, none⟩ = some (vi L) := by rw [cell_ofG HI.out.2.box]; rfl
          have yf : ∀ q, (wi.drewN q).frozen? ⟨b8 + 1, 0, none⟩ = false := fun q => by
            have h := HI.out.2.box
            simp [World.frozen?, h]
          have hdn : d < n := by have := (HF.out.bnd u d hd).2; rw [HLEN.out] at this; omega
          have HY := Lib.hid hy
          have HDU := Lib.hid hd
          clear hy hyb hd
          by_cases h1 : 0 ≤ d
          · have d1 : decide (0 ≤ d) = true := decide_eq_true h1
            by_cases h2 : L < 0
            · have d2 : decide (L < 0) = true := decide_eq_true h2
              have HN := Lib.hid (fun q => And.intro (HI.out.1.take HY.out HDU.out h1 hdn) ((HI.out.2.drewN q).set d))
              go_upto_region 12 with fail
              go_quiet (fail)
              go_wp2
              exact ⟨⟨j + 1, d, by omega, by go_num, Lib.hid (HN.out _)⟩, by simp only [intOf]; omega⟩
            · have d2 : decide (L < 0) = false := decide_eq_false h2
              by_cases h3 : d < L
              · have d3 : decide (d < L) = true := decide_eq_true h3
                have HN := Lib.hid (fun q => And.intro (HI.out.1.take HY.out HDU.out h1 hdn) ((HI.out.2.drewN q).set d))
                go_upto_region 12 with fail
                go_quiet (fail)
                go_wp2
                exact ⟨⟨j + 1, d, by omega, by go_num, Lib.hid (HN.out _)⟩, by simp only [intOf]; omega⟩
              · have d3 : decide (d < L) = false := decide_eq_false h3
                have HN := Lib.hid (fun q => And.intro (HI.out.1.skip HY.out HDU.out (.inr ⟨by omega, by omega⟩)) (HI.out.2.drewN q))
                go_upto_region 12 with fail
                go_quiet (fail)
                go_wp2
                exact ⟨⟨j + 1, L, by omega, by go_num, Lib.hid (HN.out _)⟩, by simp only [intOf]; omega⟩
          · have d1 : decide (0 ≤ d) = false := decide_eq_false h1
            have HN := Lib.hid (fun q => And.intro (HI.out.1.skip HY.out HDU.out (.inl (by omega))) (HI.out.2.drewN q))
            go_upto_region 12 with fail
            go_quiet (fail)
            go_wp2
            exact ⟨⟨j + 1, L, by omega, by go_num, Lib.hid (HN.out _)⟩, by simp only [intOf]; omega⟩
        · have g1 : decide ((j : Int) < (ln : Int)) = false := decide_eq_false (by omega)
          have HBI := Lib.hid (below_grownB HB4.out HI.out.2.gr (by have := HZ1.out; have := HZ2.out; omega) (Nat.le_refl _))
          have HMI := Lib.hid (show MinI D l n l.length L from by have h := HI.out.1; rw [show j = l.length by have := HLN.out; omega] at h; exact h)
          have HOI := Lib.hid (HO4.out.kept HI.out.2.gr (by
            cases ho : (Value.slice av cl cv).ownBlock with
            | none => exact .inl rfl
            | some g => exact .inr (fun e => by have h1 := HNB.out g ho; have h2 := HZ1.out; have h3 := Option.some.inj e; omega)))
          have y3 : wi.cell? ⟨b8 + 1, 0, none⟩ = some (vi L) := by rw [cell_ofG HI.out.2.box]; rfl
          have hLb := HMI.out.bnd
          have hwL : IntKind.i64.wrap (L + 1) = L + 1 := IntWalk.i64_in _ (by omega)
          by_cases h2 : L < 0
          · have d2 : decide (L < 0) = true := decide_eq_true h2
            have HN := Lib.hid (HCI.out.none (HMI.out.none HF.out HL.out h2))
            go_wp2_with fail
            exact ⟨⟨k + 1, C, by omega, by go_num, Lib.hid ⟨by rw [← HCL.out]; exact HOI.out, HNL.out, HN.out, HBI.out⟩⟩, by simp only [intOf]; omega⟩
          · have d2 : decide (L < 0) = false := decide_eq_false h2
            by_cases hskip : C ≠ [] ∧ (cl : Int) ≤ L + 1
            · obtain ⟨hc0, hcl2⟩ := hskip
              have hcp : 0 < cl := by rw [HCL.out]; exact List.length_pos_iff.2 hc0
              obtain ⟨gb, cb, hgv⟩ := own_someB HOI.out hcp
              simp only [Value.slice.injEq] at hgv
              obtain ⟨rfl, -, -⟩ := hgv
              have d3 : decide ((cl : Int) ≤ L + 1) = true := decide_eq_true hcl2
              have HN := Lib.hid (show CycI T (k + 1) C from by
                obtain ⟨v, hv1, hv2⟩ := HMI.out.some_ (by omega)
                have hp : PathI T k D k L.toNat [k] := PathI.start ⟨l, HL.out, hv1⟩ (by rw [hv2]; congr 1; omega)
                obtain ⟨C', h3, h4⟩ := PathI.closed HF.out _ _ _ hp
                exact HCI.out.skip h3 hc0 (by rw [h4, ← HCL.out]; simp; omega))
              go_wp2_with fail
              exact ⟨⟨k + 1, C, by omega, by go_num, Lib.hid ⟨by rw [← HCL.out]; exact HOI.out, HNL.out, HN.out, HBI.out⟩⟩, by simp only [intOf]; omega⟩
            · obtain ⟨Ln, rfl⟩ : ∃ Ln : Nat, L = (Ln : Int) := ⟨L.toNat, by omega⟩
              have HP0 := Lib.hid (show PathI T k D k Ln [k] from by
                obtain ⟨v, hv1, hv2⟩ := HMI.out.some_ (by omega)
                exact PathI.start ⟨l, HL.out, hv1⟩ hv2)
              have hshape : (av = none ∧ cl = 0 ∧ cv = 0) ∨ (∃ gb, av = some ⟨gb, 0, none⟩ ∧ (Ln : Int) + 1 < cl) := by
                by_cases hC : C = []
                · have h := HNL.out hC
                  simp only [Value.slice.injEq] at h
                  exact .inl h
                · have hcp : 0 < cl := by rw [HCL.out]; exact List.length_pos_iff.2 hC
                  obtain ⟨gb, cb, hgv⟩ := own_someB HOI.out hcp
                  simp only [Value.slice.injEq] at hgv
                  refine .inr ⟨gb, hgv.1, ?_⟩
                  exact Int.not_le.1 (fun h => hskip ⟨hC, h⟩)
              have HTK := Lib.hid (show ∀ C', Closed (ArcT T) k C' → C'.length = Ln + 1 → CycI T (k + 1) C' from fun C' h3 h4 => HCI.out.take h3 (by
                rcases hshape with ⟨-, h0, -⟩ | ⟨gb, -, h0⟩
                · exact .inl (List.length_eq_zero_iff.1 (by rw [← HCL.out]; exact h0))
                · exact .inr (by rw [h4, ← HCL.out]; omega)))
              have HW4 := Lib.hid (show w4.heap.size ≤ wi.heap.size from HI.out.2.gr.size)
              have HOW5 := Lib.hid (show (wi.alloc (.cells #[vi k] 3)).ownsRow w4.heap.size 3 1 (.slice (some ⟨wi.heap.size, 0, none⟩) 1 1) 1 (([k].map natI).flatMap viC) from
                ⟨by simp [viC], .inr ⟨wi.heap.size, 1, #[vi k], rfl, HW4.out, alloc_atG _ _, Nat.le_refl _, by decide, by simp, by simp [viC, natI]⟩⟩)
              have HBX5 := Lib.hid (show BoxL w4 (b8 + 1) Ln (wi.alloc (.cells #[vi k] 3)) from ⟨grown_alloc HI.out.2.gr _, (Below.heap_alloc _ _ _ (Array.getElem?_eq_some_iff.1 HI.out.2.box).1).trans HI.out.2.box⟩)
              have hLn : Ln < n := by omega
              clear hskip HI hLb g1
              rcases hshape with h | h
              case' inl =>
                obtain ⟨rfl, rfl, rfl⟩ := h
                go_wp2_with fail
              case' inr =>
                obtain ⟨gb, rfl, hcl2⟩ := h
                have d3 : decide ((cl : Int) ≤ (Ln : Int) + 1) = false := decide_eq_false (by omega)
                go_wp2_with fail
              all_goals
                clear hwL y3 d2
                go_loopw [6, 12] (fun v a wr => ∃ (at_ L2 : Nat) (C2 : List Nat), a = vi at_ ∧ Hid (PathI T k D at_ L2 C2 ∧ C2.length + L2 = Ln + 1 ∧ wr.ownsRow w4.heap.size 3 1 v C2.length ((C2.map natI).flatMap viC) ∧ BoxL w4 (b8 + 1) (L2 : Int) wr)) (fun _ _ wr => boxN wr (b8 + 1))
                case atStart => exact ⟨k, Ln, [k], rfl, Lib.hid ⟨HP0.out, by simp; omega, HOW5.out, HBX5.out⟩⟩
                case round =>
                  obtain ⟨wx, rfl⟩ : ∃ wx : World, wx = wr := ⟨_, rfl⟩
                  obtain ⟨at_, L2, C2, rfl, HR⟩ := hrel
                  obtain ⟨a2, c2, rfl⟩ := Gr.own_shape HR.out.2.2.1
                  have z3 : wx.cell? ⟨b8 + 1, 0, none⟩ = some (vi L2) := by rw [cell_ofG HR.out.2.2.2.box]; rfl
                  have HBX := Lib.hid (below_grownB HB4.out HR.out.2.2.2.gr (by have := HZ1.out; have := HZ2.out; omega) (Nat.le_refl _))
                  have HN2 := Lib.hid (show C2 ≠ [] from fun e => by have := HR.out.1.head; rw [e] at this; simp at this)
                  obtain ⟨cm, hcm⟩ : ∃ cm, cm = C2.length := ⟨_, rfl⟩
                  have HCM := Lib.hid hcm
                  rw [← hcm] at HR ⊢
                  clear hcm
                  by_cases hL : L2 = 0
                  · have HFI := Lib.hid (show CycI T (k + 1) C2 from by
                      have h1 := HR.out.1
                      have h2 := HR.out.2.1
                      rw [hL] at h1 h2
                      exact HTK.out C2 (h1.done HF.out) (by rw [← HCM.out]; omega))
                    have g1 : decide ((0 : Int) < (L2 : Int)) = false := decide_eq_false (by omega)
                    have g1n : decide (0 < L2) = false := decide_eq_false (by omega)
                    have g1p : ¬ (0 < L2) := by omega
                    have HOX := Lib.hid (own_mono HR.out.2.2.1 HB4.out.size)
                    clear hL
                    go_wp2_with fail
                    exact ⟨⟨k + 1, C2, by omega, by go_num, Lib.hid ⟨by rw [← HCM.out]; exact HOX.out, fun e => absurd e HN2.out, HFI.out, HBX.out⟩⟩, by simp only [intOf]; omega⟩
                  · have g1 : decide ((0 : Int) < (L2 : Int)) = true := decide_eq_true (by omega)
                    have g1n : decide (0 < L2) = true := decide_eq_true (by omega)
                    have g1p : 0 < L2 := by omega
                    obtain ⟨L3, hL3⟩ : ∃ L3, L2 = L3 + 1 := ⟨L2 - 1, by omega⟩
                    have HL3 := Lib.hid hL3
                    have hL400 : L2 ≤ 1000 := by
                      have h1 := HR.out.2.1
                      have h2 := hn4
                      omega
                    have hwd : IntKind.i64.wrap ((L2 : Int) - 1) = (L3 : Int) := by rw [IntWalk.i64_in _ (by omega)]; omega
                    obtain ⟨vN, ⟨l2, hl2, hmem⟩, hdN⟩ := HR.out.1.next
                    have hatn : at_ < n := by rw [← HLEN.out]; exact (List.getElem?_eq_some_iff.1 hl2).1
                    have ha1 : (at_ : Int) < (n : Int) := by omega
                    have ha2 : (0 : Int) ≤ (at_ : Int) := by omega
                    obtain ⟨vr, hvr, hrow2⟩ := HT.out.rows.get hl2
                    obtain ⟨ar, cr, rfl⟩ := Gr.own_shape (show World.ownsRow _ _ _ _ vr l2.length _ from hrow2)
                    have t1 : wx.cell? ⟨tb, at_, none⟩ = some (.slice ar l2.length cr) := (HT.out.later HBX.out).cell hvr
                    have hml2 := HSH.out l2 (List.mem_of_getElem? hl2)
                    have HOWR := Lib.hid (own_below hrow2 HBX.out)
                    obtain ⟨i, vM, hix, hiM, hqM⟩ := idxC_spec (q := fun y => farD D y == (L2 : Int)) (l := l2) ⟨(vN : Int), hmem, by simp [farD_at hdN]⟩
                    have hMb := HBD.out l2 (List.mem_of_getElem? hl2) vM (List.mem_of_getElem? hiM)
                    obtain ⟨m, rfl⟩ : ∃ m : Nat, vM = (m : Int) := ⟨vM.toNat, by omega⟩
                    obtain ⟨dm, hdm⟩ := some_at (show m < D.length by rw [HF.out.len, HLEN.out]; omega)
                    have hdL : dm = (L2 : Int) := by simpa [farD_at hdm] using hqM
                    have hPM := HR.out.1
                    rw [hL3] at hPM
                    have HP2 := Lib.hid (hPM.more HF.out ⟨l2, hl2, List.mem_of_getElem? hiM⟩ (by rw [hdm, hdL, hL3]))
                    have HIX := Lib.hid (indexC_call ar cr l2 96 (.pointer (some ⟨b8, 0, none⟩)) (.pointer (some ⟨b8 + 1, 0, none⟩)) (fun y => farD D y == (L2 : Int)) wx HOWR.out (by omega) (enters_of Tryz.func96 (by kernel_rfl) rfl) (fun o ho W hS => by
                      have hb := HBD.out l2 (List.mem_of_getElem? hl2) o ho
                      obtain ⟨u, rfl⟩ : ∃ u : Nat, o = (u : Int) := ⟨o.toNat, by omega⟩
                      obtain ⟨du, hdu⟩ := some_at (show u < D.length by rw [HF.out.len, HLEN.out]; omega)
                      refine (cyc1_call u b8 (b8 + 1) ob n du L2 D W (by rw [hS.heap]; exact HR.out.2.2.2.at HX8.out (by omega)) (by rw [hS.heap]; exact HR.out.2.2.2.box) (by rw [hS.heap]; exact HR.out.2.2.2.at HXD.out (by have := HOL.out; omega)) (by omega) hdu).mono ?_
                      rintro e w' ⟨rfl, hs⟩
                      exact ⟨by simp only [farD_at hdu], hS.trans hs⟩))
                    obtain ⟨gr, rfl, t2⟩ := row_cell HOWR.out i _ hiM
                    have hil : i < l2.length := (List.getElem?_eq_some_iff.1 hiM).1
                    have HIXE := Lib.hid hix
                    obtain ⟨ll, hll⟩ : ∃ ll, ll = l2.length := ⟨_, rfl⟩
                    rw [← hll] at t1 hil HIX
                    have hi1 : (i : Int) < (ll : Int) := by omega
                    have hi2 : (0 : Int) ≤ (i : Int) := by omega
                    have hcm4 : cm + 1 ≤ 68719476736 := by have := HR.out.2.1; omega
                    clear hll hix hiM hqM hdm hdL hPM hl2 hmem hdN hvr hrow2 hMb hL3 hL
                    go_upto_region 21 with (go_at_call 95; refine HIX.out.mono ?_; rintro e6 w6 ⟨rfl, hs6⟩; rw [HIXE.out]; have HS6 := Lib.hid hs6; clear hs6)
                    have u1 : w6.cell? ⟨tb, at_, none⟩ = some (.slice (some ⟨gr, 0, none⟩) ll cr) := by rw [cell_same HS6.out]; exact t1
                    have u2 : w6.cell? ⟨gr, i, none⟩ = some (vi m) := by rw [cell_same HS6.out]; exact t2
                    have hal := (Below.refl w6.heap.size w6).alloc (Nat.le_refl _) (.cells #[vi m] 3)
                    have HOA := Lib.hid (own_below (own_below HR.out.2.2.1 HS6.out.below) hal)
                    have HGA := Lib.hid (show BoxL w4 (b8 + 1) L2 (w6.alloc (.cells #[vi m] 3)) from by
                      have h1 := HR.out.2.2.2
                      have hs := HS6.out
                      have hbx : w6.heap[b8 + 1]? = some (.cells #[vi L2] 3) := by rw [hs.heap]; exact h1.box
                      have h2 : w4.grownBy w6 (some (b8 + 1)) := ⟨hs.below.os.trans h1.gr.os, hs.below.tape.trans h1.gr.tape, hs.below.output.trans h1.gr.output, by rw [hs.heap]; exact h1.gr.size, fun j hj hne => by rw [hs.heap]; exact h1.gr.block j hj hne⟩
                      exact ⟨grown_alloc h2 _, (Below.heap_alloc _ _ _ (Array.getElem?_eq_some_iff.1 hbx).1).trans hbx⟩)
                    have hsz6 : w4.heap.size ≤ (w6.alloc (.cells #[vi m] 3)).heap.size := HGA.out.gr.size
                    clear hal t1 t2 z3
                    go_wp2_with (refine wpListAt rfl (.tmp 90) (.tmp 92) 58 rfl eltI w4.heap.size cm _ HOA.out rfl 1 [vi m] (src_new (cs := #[vi m]) rfl rfl) rfl (by intro q hq; simp at hq; subst hq; rfl) hcm4 (by omega) hsz6 ?_; intro v7 w7 ho7 hg7 hat7; obtain ⟨a7, c7, rfl⟩ := Gr.own_shape ho7; have HO7 := Lib.hid ho7; have HB7 := Lib.hid (BoxL.grown HGA.out hg7 (fun g hg => by have h1 := (HOA.out.lt g hg).1; have h2 := HZ3.out; omega)); have z7 : w7.cell? ⟨b8 + 1, 0, none⟩ = some (vi L2) := (by rw [cell_ofG HB7.out.box]; rfl); have f7 : w7.frozen? ⟨b8 + 1, 0, none⟩ = false := (by simp [World.frozen?, HB7.out.box]); clear ho7 hg7 hat7)
                    have HOF := Lib.hid (show (w7.setCell ⟨b8 + 1, 0, none⟩ (vi L3)).ownsRow w4.heap.size 3 1 (.slice a7 (cm + 1) c7) (C2 ++ [m]).length (((C2 ++ [m]).map natI).flatMap viC) from by
                      have h := HO7.out.kept (grown_setCell (i := 0) (v := vi L3) (ob := b8 + 1) ⟨rfl, rfl, rfl, Nat.le_refl _, fun _ _ _ => rfl⟩) (by
                        cases ho : (Value.slice a7 (cm + 1) c7).ownBlock with
                        | none => exact .inl rfl
                        | some g => exact .inr (fun e => by have h1 := (HO7.out.lt g ho).1; have h2 := HZ3.out; have h3 := Option.some.inj e; omega))
                      have e1 : (C2 ++ [m]).length = cm + 1 := by rw [HCM.out]; simp
                      have e2 : ((C2 ++ [m]).map natI).flatMap viC = (C2.map natI).flatMap viC ++ [vi m] := by simp [viC, natI]
                      rw [e1, e2]
                      exact h)
                    have HBF := Lib.hid (HB7.out.set (L3 : Int))
                    have HME := Lib.hid (show boxN (w7.setCell ⟨b8 + 1, 0, none⟩ (vi L3)) (b8 + 1) < boxN wx (b8 + 1) from by
                      rw [boxN_of HBF.out.box, boxN_of HR.out.2.2.2.box]; have := HL3.out; omega)
                    exact ⟨⟨m, L3, C2 ++ [m], rfl, Lib.hid ⟨HP2.out, by have h1 := HR.out.2.1; have h2 := HL3.out; rw [List.length_append, List.length_singleton]; have h3 := HCM.out; omega, HOF.out, HBF.out⟩⟩, HME.out⟩
    · have k1 : decide ((k : Int) < (n : Int)) = false := decide_eq_false (by omega)
      have hke : k = n := by omega
      have HFIN := Lib.hid (show CycI T n C from by rw [← hke]; exact HJ.out.2.2.1)
      have HOW := Lib.hid HJ.out.1
      have HNL := Lib.hid HJ.out.2.1
      have HBW := Lib.hid HJ.out.2.2.2
      clear hke HJ
      go_wp2_with fail
      go_ret
      exact ⟨_, C, rfl, own_mono HOW.out HB.out.size, HFIN.out, HNL.out, HB.out.trans (HBW.out.mono HB.out.size)⟩
end Go.Proofs.YtnacoplokjdglaaGreat

namespace Go.Proofs.YtnacoplokjdglaaGreat
open Go.RowKit Go.Maps
/-- Of the first m places those that differ from the one ahead. -/
def cptN (l : List GEdge) : Nat → List GEdge
  | 0 => []
  | m + 1 => match l[m]? with
    | none => cptN l m
    | some x => if 0 < m ∧ l[m - 1]? = some x then cptN l m else cptN l m ++ [x]
theorem cptN_same {l : List GEdge} {m : Nat} {x : GEdge} (h : l[m]? = some x) (h0 : 0 < m) (hp : l[m - 1]? = some x) : cptN l (m + 1) = cptN l m := by
  simp only [cptN, h]; rw [if_pos ⟨h0, hp⟩]
theorem cptN_new {l : List GEdge} {m : Nat} {x y : GEdge} (h : l[m]? = some x) (hp : l[m - 1]? = some y) (hne : x ≠ y) : cptN l (m + 1) = cptN l m ++ [x] := by
  simp only [cptN, h]; rw [if_neg (fun hh => hne (by have := hh.2; rw [hp] at this; exact (Option.some.inj this).symm))]
theorem cptN_one {l : List GEdge} {x : GEdge} (h : l[0]? = some x) : cptN l 1 = [x] := by
  simp only [cptN, h]; simp
theorem cptN_spec {l : List GEdge} (hs : l.Pairwise (fun x y => ¬ ltE y x)) : ∀ m, m ≤ l.length → (cptN l m).Pairwise ltE ∧ (∀ x, x ∈ cptN l m ↔ x ∈ l.take m)
  | 0, _ => ⟨List.Pairwise.nil, fun x => by simp [cptN]⟩
  | m + 1, hm => by
    obtain ⟨h1, h2⟩ := cptN_spec hs m (by omega)
    obtain ⟨x, hx⟩ := some_at (show m < l.length by omega)
    have ht : l.take (m + 1) = l.take m ++ [x] := take_at hx
    by_cases hd : 0 < m ∧ l[m - 1]? = some x
    · rw [cptN_same hx hd.1 hd.2]
      refine ⟨h1, fun y => ?_⟩
      rw [h2, ht, List.mem_append, List.mem_singleton]
      constructor
      · exact .inl
      · rintro (h | rfl)
        · exact h
        · have : (l.take m)[m - 1]? = some y := by rw [List.getElem?_take_of_lt (by omega)]; exact hd.2
          exact List.mem_of_getElem? this
    · have e : cptN l (m + 1) = cptN l m ++ [x] := by simp only [cptN, hx]; rw [if_neg hd]
      rw [e]
      refine ⟨List.pairwise_append.2 ⟨h1, List.pairwise_singleton _ _, fun y hy z hz => ?_⟩, fun y => by rw [List.mem_append, h2, ht, List.mem_append]⟩
      rw [List.mem_singleton.1 hz]
      have hy' := (h2 y).1 hy
      obtain ⟨j, hj⟩ := List.mem_iff_getElem?.1 hy'
      have hjm : j < m := by have := (List.getElem?_eq_some_iff.1 hj).1; simp at this; omega
      rw [List.getElem?_take_of_lt hjm] at hj
      -- by the place ahead
      obtain ⟨p, hp⟩ := some_at (show m - 1 < l.length by omega)
      have hpw := List.pairwise_iff_getElem.1 hs
      have le1 : ∀ (a b : Nat) u v, a < b → l[a]? = some u → l[b]? = some v → ¬ ltE v u := fun a b u v hab hu hv => by
        obtain ⟨ha, rfl⟩ := List.getElem?_eq_some_iff.1 hu
        obtain ⟨hb, rfl⟩ := List.getElem?_eq_some_iff.1 hv
        exact hpw a b ha hb hab
      have hpx : p ≠ x := fun e => hd ⟨by omega, by rw [hp, e]⟩
      have h3 := le1 (m - 1) m p x (by omega) hp hx
      have h4 : y = p ∨ ¬ ltE p y := by
        by_cases hjp : j = m - 1
        · subst hjp; rw [hj] at hp; exact .inl (Option.some.inj hp)
        · exact .inr (le1 j (m - 1) y p (by omega) hj hp)
      have h5 : ltE p x := by
        unfold ltE at *
        have : ¬ (p.f = x.f ∧ p.t = x.t ∧ p.k = x.k) := fun hh => hpx (by obtain ⟨a, b, c⟩ := p; obtain ⟨a', b', c'⟩ := x; simp at hh; simp [hh])
        omega
      rcases h4 with rfl | h4
      · exact h5
      · unfold ltE at *; omega
def cptL (l : List GEdge) : List GEdge := cptN l l.length
theorem cptL_spec {l : List GEdge} (hs : l.Pairwise (fun x y => ¬ ltE y x)) : (cptL l).Pairwise ltE ∧ ∀ x, x ∈ cptL l ↔ x ∈ l := by
  have h := cptN_spec hs l.length (Nat.le_refl _)
  rw [List.take_length] at h
  exact h
theorem cptL_short {l : List GEdge} (h : l.length < 2) : cptL l = l := by
  unfold cptL
  match l, h with
  | [], _ => rfl
  | [x], _ => exact cptN_one rfl

/-- A block of edges. -/
structure RowE (w0 W : World) (g cap : Nat) (d : List GEdge) : Prop where
  blk : ∃ cur : Array Value, W.heap[g]? = some (.cells cur 113) ∧ cur.size = cap * 3 ∧ ∀ (j : Nat) x, d[j]? = some x → cur[j * 3]? = some (vi x.f) ∧ cur[j * 3 + 1]? = some (vi x.t) ∧ cur[j * 3 + 2]? = some (vi x.k)
  len : d.length ≤ cap
  gr : w0.grownBy W (some g)
theorem RowE.drewN {w0 W : World} {g cap : Nat} {d : List GEdge} (h : RowE w0 W g cap d) (n : Nat) : RowE w0 (W.drewN n) g cap d := ⟨h.blk, h.len, grown_drewN h.gr n⟩
theorem RowE.cells {w0 W : World} {g cap : Nat} {d : List GEdge} (h : RowE w0 W g cap d) {j : Nat} {x : GEdge} (hj : d[j]? = some x) :
    W.cell? ⟨g, j * 3, none⟩ = some (vi x.f) ∧ W.cell? ⟨g, j * 3 + 1, none⟩ = some (vi x.t) ∧ W.cell? ⟨g, j * 3 + 2, none⟩ = some (vi x.k) := by
  obtain ⟨cur, h1, -, h3⟩ := h.blk
  obtain ⟨a, b, c⟩ := h3 j x hj
  exact ⟨by rw [cell_of h1]; exact a, by rw [cell_of h1]; exact b, by rw [cell_of h1]; exact c⟩
theorem RowE.free {w0 W : World} {g cap : Nat} {d : List GEdge} (h : RowE w0 W g cap d) (j : Nat) : W.frozen? ⟨g, j, none⟩ = false := by
  obtain ⟨cur, h1, -, -⟩ := h.blk
  simp [World.frozen?, h1]
theorem RowE.set {w0 W : World} {g cap : Nat} {d : List GEdge} (h : RowE w0 W g cap d) (i : Nat) (x : GEdge) (hi : i < d.length) :
    RowE w0 (((W.setCell ⟨g, i * 3, none⟩ (vi x.f)).setCell ⟨g, i * 3 + 1, none⟩ (vi x.t)).setCell ⟨g, i * 3 + 2, none⟩ (vi x.k)) g cap (d.set i x) := by
  obtain ⟨cur, h1, h2, h3⟩ := h.blk
  have hl := h.len
  refine ⟨⟨((cur.setIfInBounds (i * 3) (vi x.f)).setIfInBounds (i * 3 + 1) (vi x.t)).setIfInBounds (i * 3 + 2) (vi x.k), ?_, by simpa using h2, fun j y hj => ?_⟩, by simpa using hl, grown_setCell (grown_setCell (grown_setCell h.gr))⟩
  · simp [World.setCell, Array.getElem?_modify, h1]
  · by_cases hij : i = j
    · subst hij
      rw [List.getElem?_set_self hi] at hj
      cases hj
      have hc : i * 3 + 2 < cur.size := by omega
      refine ⟨?_, ?_, ?_⟩
      · rw [Array.getElem?_setIfInBounds_ne (by omega), Array.getElem?_setIfInBounds_ne (by omega), Array.getElem?_setIfInBounds_self_of_lt (by omega)]
      · rw [Array.getElem?_setIfInBounds_ne (by omega), Array.getElem?_setIfInBounds_self_of_lt (by simp; omega)]
      · rw [Array.getElem?_setIfInBounds_self_of_lt (by simp; omega)]
    · rw [List.getElem?_set_ne hij] at hj
      have := h3 j y hj
      refine ⟨?_, ?_, ?_⟩
      · rw [Array.getElem?_setIfInBounds_ne (by omega), Array.getElem?_setIfInBounds_ne (by omega), Array.getElem?_setIfInBounds_ne (by omega)]; exact this.1
      · rw [Array.getElem?_setIfInBounds_ne (by omega), Array.getElem?_setIfInBounds_ne (by omega), Array.getElem?_setIfInBounds_ne (by omega)]; exact this.2.1
      · rw [Array.getElem?_setIfInBounds_ne (by omega), Array.getElem?_setIfInBounds_ne (by omega), Array.getElem?_setIfInBounds_ne (by omega)]; exact this.2.2
/-- The places from p on are cleared. -/
theorem RowE.clear {w0 W : World} {g cap : Nat} {d : List GEdge} (h : RowE w0 W g cap d) (p : Nat) (L : List Value) (hL : p * 3 + L.length ≤ cap * 3) (hp : p ≤ d.length) : RowE w0 (W.setCells g (p * 3) L) g cap (d.take p) := by
  obtain ⟨cur, h1, h2, h3⟩ := h.blk
  have hl := h.len
  refine ⟨⟨_, setCells_blockG g 113 (0, 0) L (p * 3) W cur h1 (by omega), ?_, fun j x hj => ?_⟩, by simp; omega, ?_⟩
  · have : (splice cur.toList (p * 3) L).length = cur.toList.length := length_splice _ _ _ (by simp; omega)
    simp only [List.size_toArray, this]; simpa using h2
  · have hjp : j < p := by have := (List.getElem?_eq_some_iff.1 hj).1; simp at this; omega
    rw [List.getElem?_take_of_lt hjp] at hj
    have := h3 j x hj
    have e : ∀ i, i < p * 3 → (splice cur.toList (p * 3) L).toArray[i]? = cur[i]? := fun i hi => by
      rw [List.getElem?_toArray]
      unfold splice
      rw [List.getElem?_append_left (by simp; omega), List.getElem?_take_of_lt hi]; simp
    rw [e _ (by omega), e _ (by omega), e _ (by omega)]
    exact this
  · have hg := setCells_grownG g L (p * 3) W
    exact ⟨hg.os.trans h.gr.os, hg.tape.trans h.gr.tape, hg.output.trans h.gr.output, Nat.le_trans h.gr.size hg.size, fun j hj hne => (hg.block j (Nat.lt_of_lt_of_le hj h.gr.size) hne).trans (h.gr.block j hj hne)⟩
theorem RowE.own {w0 W : World} {g cap base : Nat} {d : List GEdge} (h : RowE w0 W g cap d) (hc : cap ≤ maxLen) (hg : base ≤ g) : OwE base W (.slice (some ⟨g, 0, none⟩) d.length cap) d := by
  obtain ⟨cur, h1, h2, h3⟩ := h.blk
  have hlen := flat_lenK edV 3 (fun _ => rfl) d
  refine ⟨hlen, .inr ⟨g, cap, cur, rfl, hg, h1, h.len, hc, h2, ?_⟩⟩
  have hl := h.len
  apply List.ext_getElem?
  intro t
  by_cases ht : t < d.length * 3
  · have hj : t / 3 < d.length := by omega
    obtain ⟨x, hx⟩ := some_at hj
    have e : t = t / 3 * 3 + t % 3 := by omega
    have hu : ∃ u, (edV x)[t % 3]? = some u ∧ cur[t / 3 * 3 + t % 3]? = some u := by
      have h4 := h3 _ x hx
      have h5 : t % 3 = 0 ∨ t % 3 = 1 ∨ t % 3 = 2 := by omega
      rcases h5 with h5 | h5 | h5 <;> rw [h5]
      · exact ⟨_, rfl, h4.1⟩
      · exact ⟨_, rfl, h4.2.1⟩
      · exact ⟨_, rfl, h4.2.2⟩
    obtain ⟨u, hu1, hu2⟩ := hu
    have h6 := flat_atK edV 3 (fun _ => rfl) d (t / 3) (t % 3) x u hx hu1
    rw [List.getElem?_take_of_lt ht]
    rw [← e] at h6 hu2
    rw [h6]; simpa using hu2
  · rw [List.getElem?_eq_none (by simp; omega), List.getElem?_eq_none (by rw [hlen]; omega)]
theorem OwE.row {base : Nat} {w : World} {v : Value} {l : List GEdge} (h : OwE base w v l) (h0 : 0 < l.length) : ∃ g cap, v = .slice (some ⟨g, 0, none⟩) l.length cap ∧ base ≤ g ∧ cap ≤ maxLen ∧ RowE w w g cap l := by
  rcases h.2 with ⟨_, h1⟩ | ⟨g, cap, cur, rfl, hg, hb, h1, h2, h3, h4⟩
  · omega
  · refine ⟨g, cap, rfl, hg, h2, ⟨cur, hb, h3, fun j x hj => ?_⟩, h1, ⟨rfl, rfl, rfl, Nat.le_refl _, fun _ _ _ => rfl⟩⟩
    have hjl := (List.getElem?_eq_some_iff.1 hj).1
    have key : ∀ i u, i < 3 → (edV x)[i]? = some u → cur[j * 3 + i]? = some u := fun i u hi hu => by
      have h5 := flat_atK edV 3 (fun _ => rfl) l j i x u hj hu
      rw [← h4, List.getElem?_take_of_lt (by omega)] at h5
      simpa using h5
    exact ⟨key 0 _ (by omega) rfl, key 1 _ (by omega) rfl, key 2 _ (by omega) rfl⟩
end Go.Proofs.YtnacoplokjdglaaGreat

namespace Go.Proofs.YtnacoplokjdglaaGreat
open Go.RowKit Go.Maps
attribute [local go_sem] Oper.semAt_some

theorem sizeE (w : World) : (sizeOf 113).run Tryz.prog w = .ok 3 w := by
  obtain ⟨i0, hi, _, hz1, _⟩ := info_parts Tryz.infoEdge
  simp [sizeOf, typeInfo, hi, hz1]
theorem run_dropE {g n c k : Nat} (hk : k < n) (hc : n ≤ c) (w : World) : (Instr.slice 65 (.slice (some ⟨g, 0, none⟩) n c) (some (.int .i64 k)) none none).run Tryz.prog w = .ok (.slice (some ⟨g, k * 3, none⟩) (n - k) (c - k)) w := by
  have he : Tryz.prog.elem 65 = 113 := by kernel_rfl
  rw [run_slice_l w _ _ _ _ (by rw [he]; exact Tryz.underlying65) .i64 _ (by omega) (by omega), he, sizeE]
  have h1 : ¬ c = k := by omega
  simp [Result.andThen, sliced, Addr.add, h1] <;> omega
theorem run_takeE {g n c k : Nat} (hk : k ≤ c) (w : World) : (Instr.slice 65 (.slice (some ⟨g, 0, none⟩) n c) none (some (.int .i64 k)) none).run Tryz.prog w = .ok (.slice (some ⟨g, 0, none⟩) k c) w := by
  have he : Tryz.prog.elem 65 = 113 := by kernel_rfl
  rw [run_slice_h w _ _ _ _ (by rw [he]; exact Tryz.underlying65) .i64 _ (by omega) (by omega), he, sizeE]
  simp [Result.andThen, sliced, Addr.add]
theorem run_clearE (w : World) (g o n c : Nat) (hn : 0 < n) (hc : ∀ j, j < n * 3 → (w.cell? ⟨g, o + j, none⟩).isSome = true) (hf : ∀ j, j < n * 3 → w.frozen? ⟨g, o + j, none⟩ = false) :
    ∃ L : List Value, L.length = n * 3 ∧ ∀ ty, (Builtin.clear_ #[65] ty #[.slice (some ⟨g, o, none⟩) n c]).run Tryz.prog w = .ok (.tuple #[]) (w.setCells g o L) := by
  have hv : ∀ w, (zeroValue 113).run Tryz.prog w = .ok (.agg #[vi 0, vi 0, vi 0]) w := fun w => by
    obtain ⟨i0, hi, hz, _, _⟩ := info_parts Tryz.infoEdge
    simp [zeroValue, typeInfo, hi, hz]
  have hzc : (Value.agg #[vi 0, vi 0, vi 0]).cells = #[vi 0, vi 0, vi 0] := rfl
  have hL : (Builtin.zeroCells #[vi 0, vi 0, vi 0] n).toList.length = n * 3 := by simp [Builtin.zeroCells]
  have hst := run_storeCells_cells (P := Tryz.prog) g o (Builtin.zeroCells #[vi 0, vi 0, vi 0] n).toList 0 w (by rw [hL]; simpa using hc) (by rw [hL]; simpa using hf) (by
    intro v hv'
    simp only [Builtin.zeroCells, Array.toList_map, List.mem_map] at hv'
    obtain ⟨i, -, rfl⟩ := hv'
    have h3 : i % 3 = 0 ∨ i % 3 = 1 ∨ i % 3 = 2 := by omega
    show ((#[vi 0, vi 0, vi 0] : Array Value)[i % 3]!).oneCell' = true
    rcases h3 with h | h | h <;> rw [h] <;> rfl)
  simp only [Nat.add_zero] at hst
  obtain ⟨m, rfl⟩ : ∃ m, n = m + 1 := ⟨n - 1, by omega⟩
  refine ⟨_, hL, fun ty => ?_⟩
  simp [Builtin.clear_, run_underlying Tryz.underlying65, hv, hzc, hst]

/-- The second loop: of the first m places those that are kept lie in front, behind them all is as it was. -/
structure CptI (l : List GEdge) (m p : Nat) (d : List GEdge) : Prop where
  len : d.length = l.length
  front : d.take p = cptN l m
  lt : p < m
  pl : p = (cptN l m).length
  rest : ∀ j, m - 1 ≤ j → d[j]? = l[j]?
theorem CptI.same {l d : List GEdge} {m p : Nat} {x : GEdge} (h : CptI l m p d) (hx : l[m]? = some x) (hp : l[m - 1]? = some x) : CptI l (m + 1) p d := by
  have h0 := h.lt
  have e := cptN_same hx (by omega) hp
  exact ⟨h.len, by rw [e]; exact h.front, by omega, by rw [e]; exact h.pl, fun j hj => h.rest j (by omega)⟩
theorem CptI.new {l d : List GEdge} {m p : Nat} {x y : GEdge} (h : CptI l m p d) (hx : l[m]? = some x) (hp : l[m - 1]? = some y) (hne : x ≠ y) : CptI l (m + 1) (p + 1) (d.set p x) := by
  have h0 := h.lt
  have hm := (List.getElem?_eq_some_iff.1 hx).1
  have e := cptN_new hx hp hne
  have hl := h.len
  refine ⟨by simp [hl], ?_, by omega, by rw [e, List.length_append, ← h.pl]; rfl, fun j hj => ?_⟩
  · rw [e, ← h.front]
    have : (d.set p x)[p]? = some x := List.getElem?_set_self (by omega)
    rw [take_at this, List.take_set_of_le (Nat.le_refl _)]
  · rw [List.getElem?_set_ne (by omega)]; exact h.rest j (by omega)
theorem CptI.start {l : List GEdge} {k : Nat} {x : GEdge} (h0 : 0 < k) (ha : cptN l k = l.take k) (hx : l[k]? = some x) (hp : l[k - 1]? = some x) : CptI l (k + 1) k l := by
  have e := cptN_same hx h0 hp
  have hk := (List.getElem?_eq_some_iff.1 hx).1
  exact ⟨rfl, by rw [e, ha], by omega, by rw [e, ha, List.length_take]; omega, fun _ _ => rfl⟩

set_option maxRecDepth 100000 in
set_option maxHeartbeats 8000000 in
theorem compactE_call {base : Nat} (v : Value) (l : List GEdge) (w : World) (h : OwE base w v l) (hlen : l.length ≤ 68719476736) (hbw : base ≤ w.heap.size) :
    Calls Tryz.prog 102 #[v] w fun e w' => ∃ v', e = .returned v' ∧ OwE base w' v' (cptL l) ∧ Below base w w' := by
  by_cases h2 : l.length < 2
  · have HE := Lib.hid (cptL_short h2)
    obtain ⟨a, c, rfl⟩ := Gr.own_shape h
    have d2 : decide ((l.length : Int) < 2) = true := decide_eq_true (by omega)
    have HH := Lib.hid h
    clear h
    go_enter Tryz.func102, Tryz.ntmps102
    go_wp2_with fail
    go_ret
    exact ⟨_, rfl, by rw [HE.out]; exact HH.out, Below.refl _ _⟩
  obtain ⟨g, cap, rfl, hg, hcm, hrow⟩ := OwE.row h (by omega)
  have d2 : decide ((l.length : Int) < 2) = false := decide_eq_false (by omega)
  have HR := Lib.hid hrow
  have hlc := hrow.len
  have HH := Lib.hid h
  have hbel : ∀ W d, RowE w W g cap d → Below base w W := fun W d hd => (Below.refl base w).grown hd.gr hbw (fun j hj => by cases hj; exact hg)
  have HBL := Lib.hid hbel
  have HQ := Lib.hid eqlE
  have HNQ := Lib.hid neqE
  clear h hrow hbel
  go_enter Tryz.func102, Tryz.ntmps102
  go_wp2_with fail
  go_loopw [3] (fun i wr => ∃ k : Nat, 1 ≤ k ∧ k ≤ l.length ∧ i = vi k ∧ Hid (RowE w wr g cap l ∧ cptN l k = l.take k)) (fun i _ => l.length - (intOf i).toNat)
  case atStart =>
    refine ⟨1, Nat.le_refl _, by omega, rfl, Lib.hid ⟨HR.out, ?_⟩⟩
    obtain ⟨x, hx⟩ := some_at (show 0 < l.length by omega)
    rw [cptN_one hx, take_at hx]; rfl
  case round =>
    obtain ⟨wj, rfl⟩ : ∃ wj : World, wj = wr := ⟨_, rfl⟩
    obtain ⟨k, hk1, hk, rfl, HJ⟩ := hrel
    by_cases hlt : k < l.length
    · have k1 : decide ((k : Int) < l.length) = true := decide_eq_true (by omega)
      have k2 : (k : Int) < l.length := by omega
      have k3 : (0 : Int) ≤ (k : Int) := by omega
      have k4 : (0 : Int) ≤ (k : Int) - 1 := by omega
      have k5 : (k : Int) - 1 < l.length := by omega
      obtain ⟨k', hk'⟩ : ∃ k' : Nat, k = k' + 1 := ⟨k - 1, by omega⟩
      have hwm : IntKind.i64.wrap ((k : Int) - 1) = (k' : Int) := by rw [IntWalk.i64_in _ (by omega)]; omega
      have hwk : IntKind.i64.wrap ((k : Int) + 1) = (k : Int) + 1 := IntWalk.i64_in _ (by omega)
      obtain ⟨x, hx⟩ := some_at hlt
      obtain ⟨y, hy⟩ := some_at (show k' < l.length by omega)
      obtain ⟨x0, x1, x2⟩ := HJ.out.1.cells hx
      obtain ⟨y0, y1, y2⟩ := HJ.out.1.cells hy
      have HX := Lib.hid hx
      have HY := Lib.hid hy
      have HK' := Lib.hid hk'
      have k6 : (k' : Int) < l.length := by omega
      clear hx hy hk'
      by_cases hxy : x = y
      case neg =>
        have q : ∀ W, (binOp .eql 113 (edA x) (edA y)).run Tryz.prog W = .ok (.bool false) W := fun W => by rw [HQ.out, decide_eq_false hxy]
        have HN := Lib.hid (show cptN l (k + 1) = l.take (k + 1) from by rw [cptN_new HX.out (by rw [HK'.out]; exact HY.out) hxy, take_at HX.out, HJ.out.2])
        clear hxy
        go_upto_region 6 with fail
        go_quiet (fail)
        go_wp2_with fail
        exact ⟨⟨k + 1, by omega, by omega, by go_num, Lib.hid ⟨HJ.out.1.drewN _, HN.out⟩⟩, by simp only [intOf]; omega⟩
      case pos =>
      subst hxy
      have q : ∀ W, (binOp .eql 113 (edA x) (edA x)).run Tryz.prog W = .ok (.bool true) W := fun W => by rw [HQ.out, decide_eq_true rfl]
      have hdr : ∀ W, (Instr.slice 65 (.slice (some ⟨g, 0, none⟩) l.length cap) (some (.int .i64 k)) none none).run Tryz.prog W = .ok (.slice (some ⟨g, k * 3, none⟩) (l.length - k) (cap - k)) W := fun W => run_dropE hlt hlc W
      have HI := Lib.hid (CptI.start (by omega) HJ.out.2 HX.out (by rw [HK'.out]; exact HY.out))
      obtain ⟨n2, hn2⟩ : ∃ n2, n2 = l.length - k := ⟨_, rfl⟩
      rw [← hn2] at hdr
      have HN2 := Lib.hid hn2
      have hn2p : 0 < n2 := by omega
      have hn2l : n2 ≤ l.length := by omega
      clear hn2
      go_upto_region 6 with fail
      go_quiet (fail)
      go_wp2_with fail
      have HR2 := Lib.hid (HJ.out.1.drewN nq)
      clear x0 x1 x2 y0 y1 y2 q hdr HJ
      generalize wj.drewN nq = w2 at *
      go_loopw [3, 5] (fun i m wr => ∃ (p j : Nat) (d : List GEdge), 1 ≤ j ∧ j ≤ n2 ∧ i = vi p ∧ m = vi j ∧ Hid (CptI l (k + j) p d ∧ RowE w wr g cap d)) (fun _ m _ => n2 - (intOf m).toNat)
      case atStart => exact ⟨k, 1, l, Nat.le_refl _, by omega, rfl, rfl, Lib.hid ⟨HI.out, HR2.out⟩⟩
      case round =>
        obtain ⟨wq, rfl⟩ : ∃ wq : World, wq = wr := ⟨_, rfl⟩
        obtain ⟨p, j, d, hj1, hj, rfl, rfl, HC⟩ := hrel
        clear k1 k2 k3 k4 k5 k6 hwm hwk
        by_cases hltj : j < n2
        · have j1 : decide ((j : Int) < n2) = true := decide_eq_true (by omega)
          have j2 : (j : Int) < n2 := by omega
          have j3 : (0 : Int) ≤ (j : Int) := by omega
          have j4 : (0 : Int) ≤ (j : Int) - 1 := by omega
          have j5 : (j : Int) - 1 < n2 := by omega
          obtain ⟨j', hj'⟩ : ∃ j' : Nat, j = j' + 1 := ⟨j - 1, by omega⟩
          have hwm : IntKind.i64.wrap ((j : Int) - 1) = (j' : Int) := by rw [IntWalk.i64_in _ (by omega)]; omega
          have hwk : IntKind.i64.wrap ((j : Int) + 1) = (j : Int) + 1 := IntWalk.i64_in _ (by omega)
          have j6 : (j' : Int) < n2 := by omega
          have hkj : k + j < l.length := by have := HN2.out; omega
          have hplt := HC.out.1.lt
          have hpw : IntKind.i64.wrap ((p : Int) + 1) = (p : Int) + 1 := IntWalk.i64_in _ (by omega)
          have p0 : (0 : Int) ≤ (p : Int) := by omega
          have p1 : (p : Int) < l.length := by omega
          obtain ⟨a, ha⟩ := some_at hkj
          obtain ⟨b, hb⟩ := some_at (show k + j' < l.length by omega)
          have hda : d[k + j]? = some a := (HC.out.1.rest (k + j) (by omega)).trans ha
          have hdb : d[k + j']? = some b := (HC.out.1.rest (k + j') (by omega)).trans hb
          obtain ⟨a0, a1, a2⟩ := HC.out.2.cells hda
          obtain ⟨b0, b1, b2⟩ := HC.out.2.cells hdb
          rw [Nat.add_mul] at a0 a1 a2 b0 b1 b2
          have HA := Lib.hid ha
          have HB := Lib.hid (show l[k + j - 1]? = some b from by rw [← hb]; congr 1; omega)
          have HDA := Lib.hid hda
          clear ha hb hda hdb hj'
          by_cases hab : a = b
          · have q : ∀ W, (binOp .neq 113 (edA a) (edA b)).run Tryz.prog W = .ok (.bool false) W := fun W => by rw [HNQ.out, decide_eq_true hab]; rfl
            have HCS := Lib.hid (HC.out.1.same HA.out (by rw [hab]; exact HB.out))
            clear hab
            go_upto_region 11 with fail
            go_quiet (fail)
            go_wp2_with fail
            exact ⟨⟨p, j + 1, d, by omega, by omega, rfl, by go_num, Lib.hid ⟨HCS.out, HC.out.2.drewN _⟩⟩, by simp only [intOf]; omega⟩
          · have q : ∀ W, (binOp .neq 113 (edA a) (edA b)).run Tryz.prog W = .ok (.bool true) W := fun W => by rw [HNQ.out, decide_eq_false hab]; rfl
            have HCS := Lib.hid (HC.out.1.new HA.out HB.out hab)
            have HPD := Lib.hid (show p < d.length from by rw [HC.out.1.len]; omega)
            have hpl : p < l.length := by omega
            clear hab
            go_upto_region 11 with fail
            go_quiet (fail)
            have HR3 := Lib.hid (HC.out.2.drewN nq)
            generalize wq.drewN nq = w3 at *
            obtain ⟨e, he⟩ := some_at HPD.out
            obtain ⟨e0, e1, e2⟩ := HR3.out.cells he
            have f0 := HR3.out.free (p * 3)
            have f1 := HR3.out.free (p * 3 + 1)
            have f2 := HR3.out.free (p * 3 + 2)
            obtain ⟨c0, c1, c2⟩ := HR3.out.cells HDA.out
            rw [Nat.add_mul] at c0 c1 c2
            have HR4 := Lib.hid (HR3.out.set p a HPD.out)
            clear he a0 a1 a2 b0 b1 b2
            go_wp2_with fail
            exact ⟨⟨p + 1, j + 1, d.set p a, by omega, by omega, by go_num, by go_num, Lib.hid ⟨HCS.out, HR4.out⟩⟩, by simp only [intOf]; omega⟩
        · have j1 : decide ((j : Int) < n2) = false := decide_eq_false (by omega)
          have hplt := HC.out.1.lt
          have hkj : k + j = l.length := by have := HN2.out; omega
          have hpl : p < l.length := by omega
          have HDL := Lib.hid HC.out.1.len
          obtain ⟨L, hL, hcl⟩ := run_clearE wq g (p * 3) (l.length - p) (cap - p) (by omega) (fun j hj => by
            have hjl : p + j / 3 < d.length := by rw [HDL.out]; omega
            obtain ⟨u, hu⟩ := some_at hjl
            obtain ⟨u0, u1, u2⟩ := HC.out.2.cells hu
            have h3 : j % 3 = 0 ∨ j % 3 = 1 ∨ j % 3 = 2 := by omega
            rcases h3 with h | h | h
            · rw [show p * 3 + j = (p + j / 3) * 3 by omega, u0]; rfl
            · rw [show p * 3 + j = (p + j / 3) * 3 + 1 by omega, u1]; rfl
            · rw [show p * 3 + j = (p + j / 3) * 3 + 2 by omega, u2]; rfl) (fun j hj => HC.out.2.free _)
          have hdr : ∀ W, (Instr.slice 65 (.slice (some ⟨g, 0, none⟩) l.length cap) (some (.int .i64 p)) none none).run Tryz.prog W = .ok (.slice (some ⟨g, p * 3, none⟩) (l.length - p) (cap - p)) W := fun W => run_dropE hpl hlc W
          have htk : ∀ W, (Instr.slice 65 (.slice (some ⟨g, 0, none⟩) l.length cap) none (some (.int .i64 p)) none).run Tryz.prog W = .ok (.slice (some ⟨g, 0, none⟩) p cap) W := fun W => run_takeE (by omega) W
          have HRC := Lib.hid (HC.out.2.clear p L (by omega) (by rw [HDL.out]; omega))
          have HTP := Lib.hid (show d.take p = cptL l from by rw [HC.out.1.front, hkj]; rfl)
          have HLP := Lib.hid (show (cptL l).length = p from by rw [← HTP.out, List.length_take, HDL.out]; omega)
          have HCL := Lib.hid hcl
          have hcl2 := hcl 0
          clear hL hcl hkj
          go_wp2_with fail
          go_ret
          have HRF := HRC.out
          rw [HTP.out] at HRF
          have HOF := HRF.own hcm hg
          rw [HLP.out] at HOF
          exact ⟨_, rfl, HOF, HBL.out _ _ HRF⟩
    · have k1 : decide ((k : Int) < l.length) = false := decide_eq_false (by omega)
      have HF := Lib.hid (show cptL l = l from by
        have hke : k = l.length := by omega
        have := HJ.out.2
        rw [hke, List.take_length] at this
        exact this)
      go_wp2_with fail
      go_ret
      exact ⟨_, rfl, by rw [HF.out]; exact HJ.out.1.own hcm hg, HBL.out _ _ HJ.out.1⟩
end Go.Proofs.YtnacoplokjdglaaGreat
