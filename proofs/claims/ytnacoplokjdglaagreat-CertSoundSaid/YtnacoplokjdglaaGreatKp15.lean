/- Texts of one proof, one behind the other: DpEdges, DpEdP, DpBroken, DpHead, DpFl, OfSet, DpSm. -/
import Derived.Test.YtnacoplokjdglaaGreatKp1
import Derived.Test.YtnacoplokjdglaaGreatKp2
import Derived.Test.YtnacoplokjdglaaGreatKp3
import Derived.Test.YtnacoplokjdglaaGreatKp4
import Derived.Test.YtnacoplokjdglaaGreatKp5
import Derived.Test.YtnacoplokjdglaaGreatKp6
import Derived.Test.YtnacoplokjdglaaGreatKp8
import Derived.Test.YtnacoplokjdglaaGreatKp9
import Derived.Test.YtnacoplokjdglaaGreatKp10
import Derived.Test.YtnacoplokjdglaaGreatKp11
import Derived.Test.YtnacoplokjdglaaGreatKp12
import Derived.Test.YtnacoplokjdglaaGreatKp13
import Derived.Test.YtnacoplokjdglaaGreatKp14
set_option linter.all false
namespace Go.Proofs.YtnacoplokjdglaaGreat
open Go.RowKit Go.Maps
attribute [local go_sem] Oper.semAt_some

def dnTo (dn : Nat → Bool) (n k : Nat) : List Bool := (List.range n).map (fun j => if j < k then dn j else false)
theorem dnTo_set (dn : Nat → Bool) (n k : Nat) : (dnTo dn n k).set k (dn k) = dnTo dn n (k + 1) := by
  have h := mapR_set n (fun j => if j < k then dn j else false) (fun j => if j < k + 1 then dn j else false) k (fun u hu => by
    by_cases h1 : u < k
    · rw [if_pos (by omega), if_pos h1]
    · rw [if_neg (by omega), if_neg h1])
  simp only [show k < k + 1 by omega, if_true] at h
  exact h
theorem dnTo_zero (dn : Nat → Bool) (n : Nat) : dnTo dn n 0 = List.replicate n false := by
  unfold dnTo
  apply List.ext_getElem?
  intro j
  rw [List.getElem?_map, List.getElem?_replicate]
  by_cases hj : j < n
  · rw [List.getElem?_range hj, if_pos hj]; simp
  · rw [List.getElem?_eq_none (by simp; omega), if_neg hj]; rfl
theorem dnTo_all (dn : Nat → Bool) (n : Nat) : dnTo dn n n = (List.range n).map dn := by
  unfold dnTo
  exact List.map_congr_left (fun x hx => by rw [if_pos (List.mem_range.1 hx)])
theorem BoolB.ownN {w : World} {b N : Nat} {S : List Bool} (h : BoolB w b S) (hl : S.length ≤ 4096) (hN : N ≤ b) : OwBs N w (.slice (some ⟨b, 0, none⟩) S.length S.length) S := by
  have hf := flat_bools S
  refine ⟨by rw [hf]; simp, .inr ⟨b, S.length, (S.map Value.bool).toArray, rfl, hN, h, Nat.le_refl _, by simp [maxLen]; omega, by simp, by rw [hf]; simp [List.take_of_length_le]⟩⟩
theorem edgeL_fin (ts : List GTxn) (L V : FaL) (h : ∀ p, p ∈ V ↔ p ∈ L) (e : GEdge) : e ∈ ((rdsL ts (dnM ts L)).flatMap wrEdge ++ ts.zipIdx.flatMap (rwT (dnM ts L) (rdsL ts (dnM ts L)))) ++ V.flatMap (factE ts (dnM ts L) (rdsL ts (dnM ts L))) ↔ e ∈ edgeL ts L := by
  unfold edgeL edge0
  simp only [List.mem_append, List.mem_flatMap, h]

set_option maxRecDepth 1000000 in
set_option maxHeartbeats 8000000 in
theorem edges_call (v mv : Value) (ts : List GTxn) (L : FaL) (c : Nat) (w : World) (hv : RdTxns w v ts) (hok : OkTxns ts) (htl : ts.length ≤ 4096) (hm : FaV w mv L) (hc : ∀ t ∈ ts, t.ops.length ≤ c) (hB : ts.length * c ≤ 100000000 ∧ ts.length * c + ts.length * (16 * (ts.length * c)) + L.length * (1 + ts.length * c) ≤ 800000000) :
    Calls Tryz.prog 77 #[v, mv] w (EdQ ts L w) := by
  obtain ⟨ta, nt, tc, rfl, rfl, hmm, -⟩ := hv.at
  have HV := Lib.hid hv
  have HM := Lib.hid hm
  have HOK := Lib.hid hok
  have HC := Lib.hid hc
  have HB := Lib.hid hB
  have er : ((List.replicate ts.length false).map Value.bool).toArray = Array.replicate ts.length (Value.bool false) := by simp
  have hmb := fun w => run_makeBools w ts.length hok.1
  rw [er] at hmb
  have HX0 := Lib.hid (alloc_at w (.cells #[.slice none 0 0] 65))
  have hw1 : (w.alloc (.cells #[.slice none 0 0] 65)).heap.size = w.heap.size + 1 := by simp
  have HX1 := Lib.hid (alloc_at (w.alloc (.cells #[.slice none 0 0] 65)) (.cells (Array.replicate ts.length (Value.bool false)) 4))
  have HX2 := Lib.hid ((Below.heap_alloc (w.alloc (.cells #[.slice none 0 0] 65)) (.cells (Array.replicate ts.length (Value.bool false)) 4) w.heap.size (by simp)).trans HX0.out)
  have HB2 := Lib.hid (((Below.refl w.heap.size w).alloc (Nat.le_refl _) (.cells #[.slice none 0 0] 65)).alloc (by simp) (.cells (Array.replicate ts.length (Value.bool false)) 4))
  rw [hw1] at HX1
  have ER := Lib.hid er
  clear hv hm hok hc hB er
  go_enter Tryz.func77, Tryz.ntmps77
  go_wp2_with fail
  clear hmb
  generalize (w.alloc (.cells #[.slice none 0 0] 65)).alloc (.cells (Array.replicate ts.length (Value.bool false)) 4) = w2 at *
  rename_i KB hKB
  have HKB := Lib.hid hKB
  clear hKB hw1
  refine wp_loopF 199 (fun m g wr => g 0 = .slice ta ts.length tc ∧ g 1 = mv ∧ g 5 = .pointer (some ⟨w.heap.size, 0, none⟩) ∧ g 6 = .slice (some ⟨w.heap.size + 1, 0, none⟩) ts.length ts.length ∧ g 32 = .int .i64 (ts.length : Int) ∧
    ∃ k : Nat, k ≤ ts.length ∧ m = ts.length - k ∧ g 33 = .int .i64 k ∧ wr.heap[w.heap.size]? = some (.cells #[.slice none 0 0] 65) ∧ BoolB wr (w.heap.size + 1) (dnTo (dnM ts L) ts.length k) ∧ Below w.heap.size w wr) _ rfl ts.length ?start ?round
  case start => exact ⟨rfl, rfl, rfl, rfl, rfl, 0, Nat.zero_le _, rfl, rfl, HX2.out, by unfold BoolB; rw [dnTo_zero, ER.out]; exact HX1.out, HB2.out⟩
  case round =>
    rintro gm g wr ⟨g0, g1, g5, g6, g32, k, hk, hgm, g33, hX, hD, hBw⟩ JJ KK HJ HKK
    have HJJ := Lib.hid HJ
    have HKK2 := Lib.hid HKK
    have HGM := Lib.hid hgm
    have HX := Lib.hid hX
    have HD := Lib.hid hD
    have HBw := Lib.hid hBw
    clear HJ hgm hX hD hBw HKK
    have hdl : (dnTo (dnM ts L) ts.length k).length = ts.length := by unfold dnTo; simp
    by_cases hlt : k < ts.length
    · rw [fr199, g0, g1, g5, g6, g32, g33]
      clear g0 g1 g5 g6 g32 g33
      have k1 : decide ((k : Int) < ts.length) = true := decide_eq_true (by omega)
      have k2 : (k : Int) < ts.length := by omega
      have k3 : (0 : Int) ≤ (k : Int) := by omega
      have hwk : IntKind.i64.wrap ((k : Int) + 1) = (k : Int) + 1 := IntWalk.i64_in _ (by omega)
      obtain ⟨x, hx⟩ := some_at (l := dnTo (dnM ts L) ts.length k) (k := k) (by rw [hdl]; exact hlt)
      have HXX := Lib.hid hx
      clear hx hdl
      go_wp2_with (go_at_call 41; refine (Is_callV _ ts mv L k wr (HV.out.later HBw.out) HOK.out htl (HM.out.later HBw.out) hlt).mono ?_; rintro e1 w3 ⟨rfl, hb3⟩; have HX3 := Lib.hid ((hb3.block w.heap.size (Array.getElem?_eq_some_iff.1 HX.out).1).trans HX.out); have HD3 := Lib.hid (HD.out.frame (hb3.block (w.heap.size + 1) HD.out.lt)); have HB3 := Lib.hid (HBw.out.trans (hb3.mono HBw.out.size)); have c3 := HD3.out.at HXX.out; have f3 := HD3.out.free k; clear hb3)
      obtain ⟨hD4, hg4⟩ := HD3.out.set k (dnM ts L k)
      rw [dnTo_set] at hD4
      refine HKK2.out _ _ (Handed.intro (ts.length - (k + 1)) (by rw [HGM.out]; omega) (HJJ.out _ _ _ rfl ⟨rfl, rfl, rfl, rfl, rfl, k + 1, by omega, rfl, ?_, ?_, hD4, ?_⟩))
      · show Value.int .i64 _ = _; go_num
      · exact (hg4.block w.heap.size (Array.getElem?_eq_some_iff.1 HX3.out).1 (by simp)).trans HX3.out
      · exact HB3.out.grown hg4 HB3.out.size (fun j hj => by cases hj; omega)
    · have k1 : decide ((k : Int) < ts.length) = false := decide_eq_false (by omega)
      have hcc : ∀ (l : List Value), l.length = 199 → slotsOf l 0 = .slice ta ts.length tc ∧ slotsOf l 1 = mv ∧ slotsOf l 5 = .pointer (some ⟨w.heap.size, 0, none⟩) ∧ slotsOf l 6 = .slice (some ⟨w.heap.size + 1, 0, none⟩) ts.length ts.length → Code.wp Tryz.prog cEd1 (bodyPost Tryz.prog Tryz.f77 (EdQ ts L w)) ⟨l.toArray, []⟩ wr := fun l hl' hc => by
        obtain ⟨t0, t1, t5, t6⟩ := hc
        rw [frN_of 199 l hl']
        have hke : k = ts.length := by omega
        refine edAA w w.heap.size ts L mv _ ta tc (dnM ts L) c _ wr ⟨⟨⟨.slice none 0 0, HX.out, World.ownsRow_nil _ _ _ _⟩, Nat.le_refl _⟩, ?_, World.ownsRow_nil _ _ _ _, HBw.out⟩ HV.out HOK.out htl HM.out HC.out HB.out (fun V h e => edgeL_fin ts L V h e) t0 t1 t5 t6
        have h := HD.out
        rw [hke, dnTo_all] at h
        have h2 := h.ownN (N := w.heap.size) (by simp; exact htl) (by omega)
        simpa [OwDn] using h2
      have HCC := Lib.hid hcc
      rw [fr199, g0, g1, g5, g6, g32, g33]
      clear hcc hdl g0 g1 g5 g6 g32 g33
      go_wp2_with fail
      exact HKB.out _ _ (HCC.out _ rfl ⟨rfl, rfl, rfl, rfl⟩)
end Go.Proofs.YtnacoplokjdglaaGreat

namespace Go.Proofs.YtnacoplokjdglaaGreat
open Go.RowKit Go.Maps

theorem zip_mem {α : Type} {l : List α} {p : α × Nat} : p ∈ l.zipIdx ↔ l[p.2]? = some p.1 := by
  obtain ⟨x, i⟩ := p
  rw [List.mem_zipIdx_iff_getElem?]
theorem mem_addE {f t k : Int} {e : GEdge} : e ∈ addE f t k ↔ f ≠ t ∧ e = ⟨f, t, k⟩ := by
  unfold addE; split <;> simp_all
theorem rds_mem {ts : List GTxn} {dn : Nat → Bool} {r : GRd} : r ∈ rdsL ts dn ↔ ∃ (i : Nat) (t : GTxn) (o : GOp), ts[i]? = some t ∧ o ∈ readsM t ∧ (srcM ts o.key o.val).2 = true ∧ ((srcM ts o.key o.val).1 < 0 ∨ dn (srcM ts o.key o.val).1.toNat = true) ∧ r = ⟨i, (srcM ts o.key o.val).1, o.key⟩ := by
  unfold rdsL readsOf
  simp only [List.mem_flatMap]
  constructor
  · rintro ⟨p, hp, o, ho, hr⟩
    unfold readOf at hr
    split at hr
    · rename_i hc
      simp only [List.mem_singleton] at hr
      simp only [Bool.and_eq_true, Bool.not_eq_true', Bool.and_eq_false_iff, decide_eq_false_iff_not, Bool.not_eq_false'] at hc
      refine ⟨p.2, p.1, o, zip_mem.1 hp, ho, hc.1, ?_, hr⟩
      rcases hc.2 with h | h
      · exact .inl (by omega)
      · exact .inr h
    · simp at hr
  · rintro ⟨i, t, o, ht, ho, h1, h2, rfl⟩
    refine ⟨(t, i), zip_mem.2 ht, o, ho, ?_⟩
    unfold readOf
    rw [if_pos]
    · simp
    · simp only [Bool.and_eq_true, Bool.not_eq_true', Bool.and_eq_false_iff, decide_eq_false_iff_not, Bool.not_eq_false']
      refine ⟨h1, ?_⟩
      rcases h2 with h | h
      · exact .inl (by omega)
      · exact .inr h
theorem src_lt {ts : List GTxn} {key val : Int} (h : (srcM ts key val).2 = true) : (srcM ts key val).1 = -1 ∧ val = 0 ∨ ∃ n : Nat, (srcM ts key val).1 = n ∧ n < ts.length ∧ val ≠ 0 ∧ getM (byN ts ts.length) (key, val) = some (n : Int) := by
  unfold srcM at *
  split at h
  · rename_i h0
    rw [if_pos h0]; exact .inl ⟨rfl, h0⟩
  · rename_i h0
    rw [if_neg h0]
    cases hg : getM (byN ts ts.length) (key, val) with
    | none => rw [hg] at h; cases h
    | some z =>
      obtain ⟨i, rfl, hi⟩ := byN_lt ts _ z ts.length (Nat.le_refl _) hg
      exact .inr ⟨i, rfl, hi, h0, rfl⟩
theorem has1_iff {ts : List GTxn} {dn : Nat → Bool} {key i : Int} : has1 ts dn key i = true ↔ ∃ (n : Nat) (t : GTxn), i = n ∧ ts[n]? = some t ∧ dn n = true ∧ t.ops.any (wkB key) = true := by
  unfold has1
  constructor
  · intro h
    simp only [Bool.and_eq_true, decide_eq_true_eq] at h
    obtain ⟨⟨⟨h1, h2⟩, h3⟩, h4⟩ := h
    obtain ⟨n, rfl⟩ : ∃ n : Nat, i = n := ⟨i.toNat, by omega⟩
    rw [Int.toNat_natCast] at h3 h4
    obtain ⟨t, ht⟩ : ∃ t, ts[n]? = some t := ⟨_, List.getElem?_eq_getElem (by omega)⟩
    rw [ht] at h4
    exact ⟨n, t, rfl, ht, h3, h4⟩
  · rintro ⟨n, t, rfl, ht, h3, h4⟩
    have hn := (List.getElem?_eq_some_iff.1 ht).1
    rw [Int.toNat_natCast, ht, h3]
    have h1 : decide ((0 : Int) ≤ (n : Int)) = true := decide_eq_true (by omega)
    have h2 : decide ((n : Int) < (ts.length : Int)) = true := decide_eq_true (by omega)
    rw [h1, h2]; simpa using h4
theorem edge_mem {ts : List GTxn} {L : FaL} {e : GEdge} : e ∈ edgeL ts L ↔
    (∃ r ∈ rdsL ts (dnM ts L), 0 ≤ r.of_ ∧ r.of_ ≠ r.by_ ∧ e = ⟨r.of_, r.by_, 2⟩) ∨
    (∃ (i : Nat) (t : GTxn) (o : GOp) (r : GRd), ts[i]? = some t ∧ dnM ts L i = true ∧ o ∈ writesM t.ops ∧ r ∈ rdsL ts (dnM ts L) ∧ r.of_ < 0 ∧ r.key = o.key ∧ r.by_ ≠ i ∧ e = ⟨r.by_, i, 3⟩) ∨
    (∃ p ∈ L, ∃ a b : Int, p.1.kind = 2 ∧ hasM ts (dnM ts L) p.1 = true ∧ (p.2 = true ∧ a = p.1.a ∧ b = p.1.b ∨ p.2 = false ∧ a = p.1.b ∧ b = p.1.a) ∧
      (a ≠ b ∧ e = ⟨a, b, 1⟩ ∨ ∃ r ∈ rdsL ts (dnM ts L), r.of_ = a ∧ r.key = p.1.key ∧ r.by_ ≠ b ∧ e = ⟨r.by_, b, 3⟩)) := by
  unfold edgeL edge0
  rw [List.mem_append, List.mem_append, or_assoc]
  refine or_congr ?_ (or_congr ?_ ?_)
  · rw [List.mem_flatMap]
    constructor
    · rintro ⟨r, hr, he⟩
      unfold wrEdge at he
      split at he
      · rename_i h0
        obtain ⟨h1, h2⟩ := mem_addE.1 he
        exact ⟨r, hr, h0, h1, h2⟩
      · simp at he
    · rintro ⟨r, hr, h0, h1, h2⟩
      refine ⟨r, hr, ?_⟩
      unfold wrEdge; rw [if_pos h0]; exact mem_addE.2 ⟨h1, h2⟩
  · rw [List.mem_flatMap]
    constructor
    · rintro ⟨p, hp, he⟩
      unfold rwT at he
      split at he
      · rename_i hd
        obtain ⟨o, ho, he⟩ := List.mem_flatMap.1 he
        obtain ⟨r, hr, he⟩ := List.mem_flatMap.1 he
        unfold rwR at he
        split at he
        · rename_i hc
          obtain ⟨h1, h2⟩ := mem_addE.1 he
          exact ⟨p.2, p.1, o, r, zip_mem.1 hp, hd, ho, hr, hc.1, hc.2, h1, h2⟩
        · simp at he
      · simp at he
    · rintro ⟨i, t, o, r, ht, hd, ho, hr, h1, h2, h3, h4⟩
      refine ⟨(t, i), zip_mem.2 ht, ?_⟩
      unfold rwT
      rw [if_pos hd]
      refine List.mem_flatMap.2 ⟨o, ho, List.mem_flatMap.2 ⟨r, hr, ?_⟩⟩
      unfold rwR; rw [if_pos ⟨h1, h2⟩]; exact mem_addE.2 ⟨h3, h4⟩
  · rw [List.mem_flatMap]
    have hw : ∀ (R : List GRd) (a b key : Int), e ∈ wwL R a b key ↔ (a ≠ b ∧ e = ⟨a, b, 1⟩ ∨ ∃ r ∈ R, r.of_ = a ∧ r.key = key ∧ r.by_ ≠ b ∧ e = ⟨r.by_, b, 3⟩) := fun R a b key => by
      unfold wwL
      rw [List.mem_append, mem_addE, List.mem_flatMap]
      refine or_congr Iff.rfl ?_
      constructor
      · rintro ⟨r, hr, he⟩
        unfold wwR at he
        split at he
        · rename_i hc
          obtain ⟨h1, h2⟩ := mem_addE.1 he
          exact ⟨r, hr, hc.1, hc.2, h1, h2⟩
        · simp at he
      · rintro ⟨r, hr, h1, h2, h3, h4⟩
        refine ⟨r, hr, ?_⟩
        unfold wwR; rw [if_pos ⟨h1, h2⟩]; exact mem_addE.2 ⟨h3, h4⟩
    constructor
    · rintro ⟨p, hp, he⟩
      unfold factE at he
      split at he
      · rename_i hc
        cases hs : p.2 with
        | true => rw [hs] at he; exact ⟨p, hp, _, _, hc.1, hc.2, .inl ⟨hs, rfl, rfl⟩, (hw _ _ _ _).1 he⟩
        | false => rw [hs] at he; exact ⟨p, hp, _, _, hc.1, hc.2, .inr ⟨hs, rfl, rfl⟩, (hw _ _ _ _).1 he⟩
      · simp at he
    · rintro ⟨p, hp, a, b, h1, h2, h3, h4⟩
      refine ⟨p, hp, ?_⟩
      unfold factE
      rw [if_pos ⟨h1, h2⟩]
      rcases h3 with ⟨hs, rfl, rfl⟩ | ⟨hs, rfl, rfl⟩
      · rw [hs]; exact (hw _ _ _ _).2 h4
      · rw [hs]; exact (hw _ _ _ _).2 h4
theorem rd_by {ts : List GTxn} {dn : Nat → Bool} {r : GRd} (h : r ∈ rdsL ts dn) : 0 ≤ r.by_ ∧ r.by_ < ts.length ∧ (r.of_ = -1 ∨ (0 ≤ r.of_ ∧ r.of_ < ts.length)) := by
  obtain ⟨i, t, o, ht, ho, h1, h2, rfl⟩ := rds_mem.1 h
  have hi := (List.getElem?_eq_some_iff.1 ht).1
  refine ⟨by simp, by simp; omega, ?_⟩
  rcases src_lt h1 with ⟨h, -⟩ | ⟨n, h, hn, -⟩
  · exact .inl h
  · exact .inr (by simp only; omega)
theorem hasM_in {ts : List GTxn} {dn : Nat → Bool} {c : GChoice} (h : hasM ts dn c = true) : (0 ≤ c.a ∧ c.a < ts.length) ∧ (0 ≤ c.b ∧ c.b < ts.length) := by
  unfold hasM at h
  simp only [Bool.and_eq_true] at h
  obtain ⟨h1, h2⟩ := h
  obtain ⟨n, t, hn, ht, -⟩ := has1_iff.1 h1
  obtain ⟨m, u, hm, hu, -⟩ := has1_iff.1 h2
  have := (List.getElem?_eq_some_iff.1 ht).1
  have := (List.getElem?_eq_some_iff.1 hu).1
  omega
theorem edge_in {ts : List GTxn} {L : FaL} {e : GEdge} (h : e ∈ edgeL ts L) : (0 ≤ e.f ∧ e.f < ts.length) ∧ (0 ≤ e.t ∧ e.t < ts.length) ∧ (e.k = 1 ∨ e.k = 2 ∨ e.k = 3) ∧ e.f ≠ e.t := by
  rcases edge_mem.1 h with ⟨r, hr, h0, h1, rfl⟩ | ⟨i, t, o, r, ht, hd, ho, hr, h1, h2, h3, rfl⟩ | ⟨p, hp, a, b, h1, h2, h3, ⟨h4, rfl⟩ | ⟨r, hr, h5, h6, h7, rfl⟩⟩
  · have := rd_by hr; exact ⟨by simp only; omega, by simp only; omega, .inr (.inl rfl), h1⟩
  · have := rd_by hr
    have := (List.getElem?_eq_some_iff.1 ht).1
    exact ⟨by simp only; omega, by simp only; omega, .inr (.inr rfl), h3⟩
  · have := hasM_in h2
    exact ⟨by simp only; omega, by simp only; omega, .inl rfl, h4⟩
  · have := hasM_in h2
    have := rd_by hr
    exact ⟨by simp only; omega, by simp only; omega, .inr (.inr rfl), h7⟩

/-- How many edges there can be. -/
def allE (n : Nat) : List GEdge := (List.range n).flatMap (fun a : Nat => (List.range n).flatMap (fun b : Nat => [⟨(a : Int), (b : Int), 1⟩, ⟨(a : Int), (b : Int), 2⟩, ⟨(a : Int), (b : Int), 3⟩]))
theorem sum_len {α : Type} (g : Nat → List α) (c : Nat) (h : ∀ i, (g i).length = c) (n : Nat) : ((List.range n).flatMap g).length = n * c := by
  induction n with
  | zero => simp
  | succ n ih => rw [List.range_succ, List.flatMap_append, List.length_append, ih, Nat.add_mul, Nat.one_mul]; simp [h]
theorem allE_len (n : Nat) : (allE n).length = n * (n * 3) := by
  unfold allE
  exact sum_len _ _ (fun a => sum_len _ 3 (fun b => rfl) n) n
theorem allE_mem {n : Nat} {e : GEdge} (h1 : 0 ≤ e.f ∧ e.f < n) (h2 : 0 ≤ e.t ∧ e.t < n) (h3 : e.k = 1 ∨ e.k = 2 ∨ e.k = 3) : e ∈ allE n := by
  obtain ⟨f, t, k⟩ := e
  simp only at h1 h2 h3
  unfold allE
  obtain ⟨f', rfl⟩ : ∃ m : Nat, f = m := ⟨f.toNat, by omega⟩
  obtain ⟨t', rfl⟩ : ∃ m : Nat, t = m := ⟨t.toNat, by omega⟩
  refine List.mem_flatMap.2 ⟨f', List.mem_range.2 (by omega), List.mem_flatMap.2 ⟨t', List.mem_range.2 (by omega), ?_⟩⟩
  rcases h3 with rfl | rfl | rfl <;> simp
theorem ltE_nodup {l : List GEdge} (h : l.Pairwise ltE) : l.Nodup := h.imp fun h e => by subst e; exact ltE_irr _ h
theorem edges_in {ts : List GTxn} {L : FaL} {l : List GEdge} (h : EdgesOf ts L l) : InN ts.length l := fun e he => by
  have := edge_in ((h.2 e).1 he)
  exact ⟨this.1, this.2.1⟩
theorem edges_len {ts : List GTxn} {L : FaL} {l : List GEdge} (h : EdgesOf ts L l) : l.length ≤ ts.length * (ts.length * 3) := by
  rw [← allE_len]
  refine nodup_len l _ (ltE_nodup h.1) (fun e he => ?_)
  have := edge_in ((h.2 e).1 he)
  exact allE_mem this.1 this.2.1 this.2.2.1
theorem lift1_len (es : List GEdge) (level : Int) (e : GEdge) (n : Nat) (hs : es.Pairwise ltE) (hi : InN n es) : (lift1 es level e).length ≤ 1 + n := by
  unfold lift1
  rw [List.length_append]
  have h1 : (if level ≠ 1 ∨ e.k ≠ 3 then [(e.f, e.t)] else []).length ≤ 1 := by split <;> simp
  have h2 : (if level ≠ 1 ∨ e.k = 3 then [] else es.flatMap (fun g => if g.k = 3 ∧ g.f = e.t then [(e.f, g.t)] else [])).length ≤ n := by
    split
    · simp
    · have e1 : es.flatMap (fun g => if g.k = 3 ∧ g.f = e.t then [(e.f, g.t)] else []) = (es.filter (fun g => decide (g.k = 3 ∧ g.f = e.t))).map (fun g => (e.f, g.t)) := by
        clear hs hi
        induction es with
        | nil => rfl
        | cons x es ih =>
          rw [List.flatMap_cons, ih, List.filter_cons]
          by_cases hc : x.k = 3 ∧ x.f = e.t
          · rw [if_pos hc, if_pos (decide_eq_true hc)]; rfl
          · rw [if_neg hc, if_neg (by simp [hc])]; rfl
      rw [e1, List.length_map]
      have hp := (hs.filter (fun g => decide (g.k = 3 ∧ g.f = e.t)))
      have hl := nodup_len ((es.filter (fun g => decide (g.k = 3 ∧ g.f = e.t))).map (·.t)) ((List.range n).map (fun i : Nat => (i : Int))) ?_ ?_
      · simpa using hl
      · rw [List.nodup_iff_pairwise_ne, List.pairwise_map]
        refine List.Pairwise.imp_of_mem ?_ hp
        intro a b ha hb hab
        have h3 := (List.mem_filter.1 ha).2
        have h4 := (List.mem_filter.1 hb).2
        simp only [decide_eq_true_eq] at h3 h4
        unfold ltE at hab
        omega
      · intro x hx
        obtain ⟨g, hg, rfl⟩ := List.mem_map.1 hx
        have := hi g (List.mem_filter.1 hg).1
        exact List.mem_map.2 ⟨g.t.toNat, List.mem_range.2 (by omega), by omega⟩
  omega
theorem lift_len {ts : List GTxn} {L : FaL} {l : List GEdge} (h : EdgesOf ts L l) (level : Int) (hn : ts.length ≤ 60) : l.length ≤ 1000000 ∧ (liftL l level).length ≤ 1000000 := by
  have h1 := edges_len h
  have h2 : ∀ m : List GEdge, (m.flatMap (lift1 l level)).length ≤ m.length * (1 + ts.length) := fun m => by
    induction m with
    | nil => simp
    | cons x m ih =>
      have := lift1_len l level x ts.length h.1 (edges_in h)
      rw [List.flatMap_cons, List.length_append, List.length_cons, Nat.add_mul, Nat.one_mul]; omega
  have h3 := h2 l
  have h4 : ts.length * 3 ≤ 180 := by omega
  have h5 := Nat.mul_le_mul hn h4
  have h6 := Nat.mul_le_mul (Nat.le_trans h1 h5) (show 1 + ts.length ≤ 61 by omega)
  unfold liftL
  omega
end Go.Proofs.YtnacoplokjdglaaGreat

namespace Go.Proofs.YtnacoplokjdglaaGreat
open Go.RowKit Go.Maps
attribute [local go_sem] Oper.semAt_some

theorem OwA.rd {base : Nat} {w : World} {v : Value} {l : List (Int × Int)} (h : OwA base w v l) : RdArcs w v l := by
  have h1 : RdS 2 (fun _ cs x => cs = arcV x) w v l := rds_of_own (V := arcV) (fun _ => rfl) h
  exact h1
def BrokenQN (ts : List GTxn) (L : FaL) (level : Int) (w : World) (e : Ending) (w' : World) : Prop :=
  ∃ v' l C, e = .returned v' ∧ EdgesOf ts L l ∧ w'.ownsRow w.heap.size 3 1 v' C.length ((C.map natI).flatMap viC) ∧ CycI (nextT (sizeM ts.length) (liftL l level)) (sizeM ts.length) C ∧ (C = [] → v' = .slice none 0 0) ∧ Below w.heap.size w w'
/-- How large a history may be. -/
structure SmallH (ts : List GTxn) (L : FaL) (c : Nat) : Prop where
  len : ts.length ≤ 60
  ops : ∀ t ∈ ts, t.ops.length ≤ c
  room : ts.length * c ≤ 100000000 ∧ ts.length * c + ts.length * (16 * (ts.length * c)) + L.length * (1 + ts.length * c) ≤ 800000000

set_option maxRecDepth 100000 in
set_option maxHeartbeats 4000000 in
theorem broken_callN (v mv : Value) (ts : List GTxn) (L : FaL) (c : Nat) (level : Int) (w : World) (hv : RdTxns w v ts) (hok : OkTxns ts) (hm : FaV w mv L) (hs : SmallH ts L c) :
    Calls Tryz.prog 52 #[v, mv, vi level] w (BrokenQN ts L level w) := by
  have HV := Lib.hid hv
  have HM := Lib.hid hm
  have HOK := Lib.hid hok
  have HS := Lib.hid hs
  obtain ⟨ta, nt, tc, rfl, rfl, hmm, -⟩ := hv.at
  clear hv hm hok hs
  go_enter Tryz.func52, Tryz.ntmps52
  go_wp2_with (first
    | (go_at_call 77; refine (edges_call _ mv ts L c w HV.out HOK.out (by have := HS.out.len; omega) HM.out HS.out.ops HS.out.room).mono ?_; rintro e1 w1 ⟨v1, l, rfl, ho1, he1, hb1⟩; have HO1 := Lib.hid ho1; have HE1 := Lib.hid he1; have HB1 := Lib.hid hb1; have HLL := Lib.hid (lift_len he1 level HS.out.len); clear ho1 he1 hb1)
    | (go_at_call 76; refine (lift_call v1 l level w1 HO1.out.rd HLL.out.1 (Nat.le_trans HLL.out.2 (by omega))).mono ?_; rintro e2 w2 ⟨v2, rfl, ho2, hb2⟩; have HO2 := Lib.hid ho2; have HB2 := Lib.hid (HB1.out.trans (hb2.mono HB1.out.size)); clear ho2 hb2)
    | (go_at_call 75; refine (cycle_callN (ts.length : Int) (liftL l level) v2 w2 HO2.out.rd HLL.out.2).mono ?_; rintro e3 w3 ⟨v3, C, rfl, ho3, hc3, hn3, hb3⟩; have HO3 := Lib.hid ho3; have HC3 := Lib.hid hc3; have HN3 := Lib.hid hn3; have HB3 := Lib.hid hb3; clear ho3 hc3 hn3 hb3))
  go_ret
  exact ⟨v3, l, C, rfl, HE1.out, own_mono HO3.out HB2.out.size, HC3.out, HN3.out, HB2.out.trans (HB3.out.mono HB2.out.size)⟩
def skewT : List GTxn := [⟨1, 1, [⟨1, 0, 0⟩, ⟨2, 1, 1⟩]⟩, ⟨2, 1, [⟨1, 1, 0⟩, ⟨2, 0, 2⟩]⟩]
def skewE : List GEdge := [⟨0, 1, 3⟩, ⟨1, 0, 3⟩]
end Go.Proofs.YtnacoplokjdglaaGreat

namespace Go.Proofs.YtnacoplokjdglaaGreat
open Go.RowKit Go.Maps
attribute [local go_sem] Oper.semAt_some

theorem arcT_iff {n : Nat} {arcs : List (Int × Int)} {u v : Nat} : ArcT (nextT n arcs) u v ↔ ((u : Int), (v : Int)) ∈ arcs ∧ u < n ∧ v < n := by
  constructor
  · rintro ⟨l, h1, h2⟩
    have hu : u < n := by have := (List.getElem?_eq_some_iff.1 h1).1; rwa [nextT_len] at this
    rw [nextT_at hu] at h1
    cases h1
    have := rawRow_mem.1 ((sortC_mem _ _).1 h2)
    exact ⟨this.1, hu, by omega⟩
  · rintro ⟨h1, hu, hv⟩
    exact ⟨_, nextT_at hu, (sortC_mem _ _).2 (rawRow_mem.2 ⟨h1, hu, by omega, by omega⟩)⟩
end Go.Proofs.YtnacoplokjdglaaGreat

namespace Go.Proofs.YtnacoplokjdglaaGreat
open Go.RowKit Go.Maps
attribute [local go_sem] Oper.semAt_some

def finB (key val : Int) (o : GOp) : Bool := o.key == key && o.val == val
def finalB (t : GTxn) (key val : Int) : Bool := (writesM t.ops).any (finB key val)
/-- What is wrong with a read. -/
def flawK (ts : List GTxn) (i : Nat) (o : GOp) : Int :=
  if o.val = 0 then 0 else if writerM ts o.key o.val < 0 ∨ writerM ts o.key o.val = i then 1
  else match ts[(writerM ts o.key o.val).toNat]? with
    | none => 1
    | some t => if t.state = 2 then 2 else if finalB t o.key o.val then 0 else 3
def flaw1 (ts : List GTxn) (i : Nat) (p : GOp × Nat) : List (Int × Int × Int) := if 0 < flawK ts i p.1 then [((i : Int), (p.2 : Int), flawK ts i p.1)] else []
def flawT (ts : List GTxn) (p : GTxn × Nat) : List (Int × Int × Int) := (readsM p.1).zipIdx.flatMap (flaw1 ts p.2)
def flawsM (ts : List GTxn) : List (Int × Int × Int) := ts.zipIdx.flatMap (flawT ts)

theorem rows_kept {N e k n N' e' k' m : Nat} {w w' : World} {v u : Value} {xs ys : List Value} (h : w.ownsRow N e k v n xs) (ho : w.ownsRow N' e' k' u m ys) (hne : e ≠ e') (hg : w.grownBy w' u.ownBlock) : w'.ownsRow N e k v n xs :=
  h.kept hg (by
    cases hv : v.ownBlock with
    | none => exact .inl rfl
    | some g =>
      refine .inr (fun e1 => ?_)
      rcases ho.2 with ⟨h1, _⟩ | ⟨g', cap, cur, h1, _, hh, _⟩
      · rw [h1] at e1; cases e1
      · rw [h1] at e1
        have e2 : g = g' := by simpa [Value.ownBlock] using e1
        subst e2
        exact rowNe h hh hne g hv rfl)

set_option maxRecDepth 100000 in
set_option maxHeartbeats 2000000 in
theorem final_call (c s : Int) (v : Value) (l : List GOp) (key val : Int) (w : World) (hv : RdOps w v l) (hl : l.length ≤ 1048576) :
    Calls Tryz.prog 47 #[.agg #[vi c, vi s, v], vi key, vi val] w fun e w' => e = .returned (.bool (finalB ⟨c, s, l⟩ key val)) ∧ Below w.heap.size w w' := by
  have HB0 := Lib.hid ((Below.refl w.heap.size w).alloc (Nat.le_refl _) (.cells #[vi c, vi s, v] 49))
  have HV := Lib.hid (hv.later HB0.out)
  have HX0 := Lib.hid (alloc_at w (.cells #[vi c, vi s, v] 49))
  obtain ⟨a, n, cp, rfl, rfl, hm, -⟩ := hv.at
  have HFB := Lib.hid (show finalB ⟨c, s, l⟩ key val = (writesM l).any (finB key val) from rfl)
  clear hv
  go_enter Tryz.func47, Tryz.ntmps47
  go_upto_region 1 with fail
  generalize w.alloc (.cells #[vi c, vi s, .slice a l.length cp] 49) = w0 at *
  have x0 : w0.cell? ⟨w.heap.size, 0, none⟩ = some (vi c) := by rw [cell_of HX0.out]; rfl
  have x1 : w0.cell? ⟨w.heap.size, 1, none⟩ = some (vi s) := by rw [cell_of HX0.out]; rfl
  have x2 : w0.cell? ⟨w.heap.size, 2, none⟩ = some (.slice a l.length cp) := by rw [cell_of HX0.out]; rfl
  go_wp2_with (go_at_call 35; refine (refWrites_call c s _ l w0 HV.out hl).mono ?_; rintro e1 w1 ⟨v1, rfl, ho1, hb1⟩; have HR1 := Lib.hid ho1.rd; obtain ⟨a1, n1, c1, rfl, e9, hwm, -⟩ := HR1.out.at; subst e9; have HB1 := Lib.hid (HB0.out.trans (hb1.mono HB0.out.size)); clear ho1 hb1)
  obtain ⟨ws, hws⟩ : ∃ ws, ws = writesM l := ⟨_, rfl⟩
  rw [← hws] at HR1 HFB hwm ⊢
  clear hws x0 x1 x2
  go_loopw [12] (fun i wr => ∃ k : Nat, k ≤ ws.length ∧ i = .int .i64 k ∧ Hid (Below w1.heap.size w1 wr ∧ (ws.take k).any (finB key val) = false)) (fun i _ => ws.length - (intOf i).toNat)
  case atStart => exact ⟨0, Nat.zero_le _, rfl, Lib.hid ⟨Below.refl _ _, rfl⟩⟩
  case round =>
    obtain ⟨wj, rfl⟩ : ∃ wj : World, wj = wr := ⟨_, rfl⟩
    obtain ⟨k, hk, rfl, HJ⟩ := hrel
    have HBJ := Lib.hid (HB1.out.trans (HJ.out.1.mono HB1.out.size))
    by_cases hlt : k < ws.length
    · have k1 : decide ((k : Int) < ws.length) = true := decide_eq_true (by omega)
      have k2 : (k : Int) < ws.length := by omega
      have hwk : IntKind.i64.wrap ((k : Int) + 1) = (k : Int) + 1 := IntWalk.i64_in _ (by omega)
      obtain ⟨o, ho⟩ := some_at hlt
      obtain ⟨_, _, _, e5, -, -, hcl⟩ := (HR1.out.later HJ.out.1).at
      cases e5
      obtain ⟨b, off, rfl, y0, y1, y2⟩ := hcl k o ho
      have HNX := Lib.hid (show (ws.take (k + 1)).any (finB key val) = ((ws.take k).any (finB key val) || finB key val o) from by rw [take_at ho, List.any_append]; simp)
      have HM := Lib.hid (List.mem_of_getElem? ho)
      have HX := Lib.hid (alloc_at wj (.cells #[vi o.kind, vi o.key, vi o.val] 51))
      have HBA := Lib.hid (HJ.out.1.alloc HJ.out.1.size (.cells #[vi o.kind, vi o.key, vi o.val] 51))
      have HBB := Lib.hid (HBJ.out.alloc HBJ.out.size (.cells #[vi o.kind, vi o.key, vi o.val] 51))
      clear hcl ho
      go_upto_region 4 with fail
      clear y0 y1 y2
      generalize wj.alloc (.cells #[vi o.kind, vi o.key, vi o.val] 51) = wa at *
      obtain ⟨ob, hob⟩ : ∃ ob, ob = wj.heap.size := ⟨_, rfl⟩
      rw [← hob] at HX ⊢
      clear hob
      have z1 : wa.cell? ⟨ob, 1, none⟩ = some (vi o.key) := by rw [cell_of HX.out]; rfl
      have z2 : wa.cell? ⟨ob, 2, none⟩ = some (vi o.val) := by rw [cell_of HX.out]; rfl
      cases h1 : (o.key == key) with
      | false =>
        have HF := Lib.hid (show finB key val o = false from by unfold finB; rw [h1]; rfl)
        go_wp2_with fail
        exact ⟨⟨k + 1, by omega, by go_num, Lib.hid ⟨HBA.out, by rw [HNX.out, HF.out, HJ.out.2]; rfl⟩⟩, by simp only [intOf]; omega⟩
      | true =>
        cases h2 : (o.val == val) with
        | false =>
          have HF := Lib.hid (show finB key val o = false from by unfold finB; rw [h1, h2]; rfl)
          go_wp2_with fail
          exact ⟨⟨k + 1, by omega, by go_num, Lib.hid ⟨HBA.out, by rw [HNX.out, HF.out, HJ.out.2]; rfl⟩⟩, by simp only [intOf]; omega⟩
        | true =>
          have HF := Lib.hid (show ws.any (finB key val) = true from List.any_eq_true.2 ⟨o, HM.out, by unfold finB; rw [h1, h2]; rfl⟩)
          go_wp2_with fail
          go_ret
          exact ⟨by rw [HFB.out, HF.out]; rfl, HBB.out⟩
    · have k1 : decide ((k : Int) < ws.length) = false := decide_eq_false (by omega)
      have HF := Lib.hid (show ws.any (finB key val) = false from by
        have h := HJ.out.2
        rw [List.take_of_length_le (by omega)] at h
        exact h)
      go_wp2_with fail
      go_ret
      exact ⟨by rw [HFB.out, HF.out]; rfl, HBJ.out⟩

def flV (x : Int × Int × Int) : List Value := [vi x.1, vi x.2.1, vi x.2.2]
theorem flV_one (x : Int × Int × Int) : ∀ u ∈ flV x, u.oneCell' = true := by
  intro u hu; simp [flV] at hu; rcases hu with rfl | rfl | rfl <;> rfl
theorem Tryz.infoFl : (Tryz.prog.info? 46).map (fun i => (i.zero, i.size, i.bytes)) = some (some (.agg #[vi 0, vi 0, vi 0]), 3, 24) := by kernel_rfl
theorem eltFl : Elt Tryz.prog 44 46 3 24 (.agg #[vi 0, vi 0, vi 0]) := by
  obtain ⟨i0, hi, hz0, hz1, hz2⟩ := info_parts Tryz.infoFl
  exact ⟨Tryz.underlying44, by decide, rfl, i0, hi, hz0, hz1, hz2⟩
def OwFl (base : Nat) (w : World) (v : Value) (l : List (Int × Int × Int)) : Prop := w.ownsRow base 46 3 v l.length (l.flatMap flV)
theorem flaw1_len (ts : List GTxn) (i : Nat) (p : GOp × Nat) : (flaw1 ts i p).length ≤ 1 := by unfold flaw1; split <;> simp
theorem zip_take {α : Type} {l : List α} {k : Nat} {x : α} (h : l[k]? = some x) : (l.take (k + 1)).zipIdx = (l.take k).zipIdx ++ [(x, k)] := by
  rw [take_at h, List.zipIdx_append]
  have : (l.take k).length = k := by
    have := (List.getElem?_eq_some_iff.1 h).1
    simp; omega
  simp [this]
theorem writerM_lt {ts : List GTxn} {key val : Int} : writerM ts key val = -1 ∨ ∃ n : Nat, writerM ts key val = n ∧ n < ts.length := by
  unfold writerM
  cases h : ts.findIdx? (fun t => t.ops.any (wroteB key val)) with
  | none => exact .inl rfl
  | some i =>
    rw [List.findIdx?_eq_some_iff_getElem] at h
    obtain ⟨hi, -⟩ := h
    exact .inr ⟨i, rfl, hi⟩
theorem flawK_bound (ts : List GTxn) (i : Nat) (o : GOp) : 0 ≤ flawK ts i o ∧ flawK ts i o ≤ 3 := by
  unfold flawK
  split
  · omega
  · split
    · omega
    · split
      · omega
      · split
        · omega
        · split <;> omega

set_option maxRecDepth 100000 in
set_option maxHeartbeats 8000000 in
theorem flaws_call (v : Value) (ts : List GTxn) (w : World) (hv : RdTxns w v ts) (hok : OkTxns ts) (htl : ts.length ≤ 4096) :
    Calls Tryz.prog 21 #[v] w fun e w' => ∃ v', e = .returned v' ∧ OwFl w.heap.size w' v' (flawsM ts) ∧ Below w.heap.size w w' := by
  have HV := Lib.hid hv
  have HOK := Lib.hid hok
  obtain ⟨ta, nt, tc, rfl, rfl, hm, -⟩ := hv.at
  have HN0 := Lib.hid (World.ownsRow_lit (base := w.heap.size) (e := 46) (size := 3) w #[] 0 (Nat.le_refl _) (by simp [maxLen]) rfl)
  have HB0 := Lib.hid ((Below.refl w.heap.size w).alloc (Nat.le_refl _) (.cells #[] 46))
  clear hv hok
  go_enter Tryz.func21, Tryz.ntmps21
  go_wp2_with fail
  generalize w.alloc (.cells #[] 46) = w0 at *
  go_loopw [3, 12] (fun x i wr => ∃ k : Nat, k ≤ ts.length ∧ i = .int .i64 k ∧ Hid (OwFl w.heap.size wr x ((ts.take k).zipIdx.flatMap (flawT ts)) ∧ Below w.heap.size w wr ∧ ((ts.take k).zipIdx.flatMap (flawT ts)).length ≤ k * 1048576)) (fun _ i _ => ts.length - (intOf i).toNat)
  case atStart => exact ⟨0, Nat.zero_le _, rfl, Lib.hid ⟨by simpa [OwFl] using HN0.out, HB0.out, by simp⟩⟩
  case round =>
    obtain ⟨wj, rfl⟩ : ∃ wj : World, wj = wr := ⟨_, rfl⟩
    obtain ⟨k, hk, rfl, HJ⟩ := hrel
    obtain ⟨F0, hF0⟩ : ∃ F0, F0 = (ts.take k).zipIdx.flatMap (flawT ts) := ⟨_, rfl⟩
    have HF0 := Lib.hid hF0
    rw [← hF0] at HJ
    obtain ⟨ax, cx, rfl⟩ := Gr.own_shape (show World.ownsRow _ _ _ _ _ F0.length _ from HJ.out.1)
    by_cases hlt : k < ts.length
    · have k1 : decide ((k : Int) < ts.length) = true := decide_eq_true (by omega)
      have k2 : (k : Int) < ts.length := by omega
      have k3 : (0 : Int) ≤ (k : Int) := by omega
      have hwk : IntKind.i64.wrap ((k : Int) + 1) = (k : Int) + 1 := IntWalk.i64_in _ (by omega)
      obtain ⟨t, ht⟩ := some_at hlt
      obtain ⟨_, _, _, e5, -, -, hcl⟩ := (HV.out.later HJ.out.2.1).at
      cases e5
      obtain ⟨gb, off, oa, oc, rfl, hr, c0, c1, c2⟩ := hcl k t ht
      have HRO := Lib.hid hr
      have hok2 := (HOK.out.2 t (List.mem_of_getElem? ht)).2
      have HNX := Lib.hid (show (ts.take (k + 1)).zipIdx.flatMap (flawT ts) = F0 ++ (readsM t).zipIdx.flatMap (flaw1 ts k) from by rw [zip_take ht, List.flatMap_append, hF0]; simp [flawT])
      have HRL := Lib.hid (show (readsM t).length ≤ 1048576 from by
        have h1 : (readsM t).length ≤ t.ops.length := by
          unfold readsM; split
          · exact readsS_le _
          · simp
        omega)
      have HF0L := Lib.hid (show F0.length ≤ 4294967296 from by
        have h1 := HJ.out.2.2
        have h2 := Nat.mul_le_mul_right 1048576 (show k ≤ 4096 by omega)
        omega)
      have HLK := Lib.hid HJ.out.2.2
      have HOF := Lib.hid HJ.out.1
      have HBJ := Lib.hid HJ.out.2.1
      clear hcl ht hr hF0 HJ
      go_wp2_with (go_at_call 45; refine (refReads_call t.client t.state _ t.ops wj HRO.out hok2).mono ?_; rintro e1 w1 ⟨v1, rfl, ho1, hb1⟩; have HR1 := Lib.hid (own_mono ho1 HBJ.out.size); obtain ⟨a1, n1, c1', rfl, e9, -, -⟩ := ho1.rd.at; subst e9; have HB1 := Lib.hid (HBJ.out.trans (hb1.mono HBJ.out.size)); have HO1 := Lib.hid (own_below HOF.out hb1); clear ho1 hb1)
      obtain ⟨rs, hrs⟩ : ∃ rs, rs = readsM t := ⟨_, rfl⟩
      have hrl : rs.length ≤ 1048576 := by rw [hrs]; exact HRL.out
      have HR2 := Lib.hid (show OwOps w.heap.size w1 (.slice a1 rs.length c1') rs from by rw [hrs]; exact HR1.out)
      rw [show (readsM t).length = rs.length from by rw [hrs]]
      rw [← hrs] at HNX
      clear hrs c0 c1 c2 HR1
      go_loopw [3, 21] (fun x i wr => ∃ j : Nat, j ≤ rs.length ∧ i = .int .i64 j ∧ Hid (OwFl w.heap.size wr x (F0 ++ (rs.take j).zipIdx.flatMap (flaw1 ts k)) ∧ OwOps w.heap.size wr (.slice a1 rs.length c1') rs ∧ Below w.heap.size w wr)) (fun _ i _ => rs.length - (intOf i).toNat)
      case atStart => exact ⟨0, Nat.zero_le _, rfl, Lib.hid ⟨by have h := HO1.out; unfold OwFl; simpa using h, HR2.out, HB1.out⟩⟩
      case round =>
        obtain ⟨wq, rfl⟩ : ∃ wq : World, wq = wr := ⟨_, rfl⟩
        obtain ⟨j, hj, rfl, HQ⟩ := hrel
        obtain ⟨F1, hF1⟩ : ∃ F1, F1 = F0 ++ (rs.take j).zipIdx.flatMap (flaw1 ts k) := ⟨_, rfl⟩
        have HF1 := Lib.hid hF1
        rw [← hF1] at HQ
        have hf1l : F1.length ≤ 4294967296 + 1048576 := by
          have h1 := flatMap_le 1 (flaw1_len ts k) (rs.take j).zipIdx
          have h2 : (rs.take j).zipIdx.length ≤ rs.length := by simp; omega
          have h3 := HF0L.out
          rw [hF1, List.length_append]; omega
        obtain ⟨aq, cq, rfl⟩ := Gr.own_shape (show World.ownsRow _ _ _ _ _ F1.length _ from HQ.out.1)
        have HO := Lib.hid (show wq.ownsRow w.heap.size 46 3 _ F1.length (F1.flatMap flV) from HQ.out.1)
        have HRq := Lib.hid HQ.out.2.1
        have HBq := Lib.hid HQ.out.2.2
        clear HQ hF1
        by_cases hltq : j < rs.length
        · have j1 : decide ((j : Int) < rs.length) = true := decide_eq_true (by omega)
          have j2 : (j : Int) < rs.length := by omega
          have hwj : IntKind.i64.wrap ((j : Int) + 1) = (j : Int) + 1 := IntWalk.i64_in _ (by omega)
          obtain ⟨o, ho⟩ := some_at hltq
          obtain ⟨_, _, _, e5, -, -, hcl⟩ := HRq.out.rd.at
          cases e5
          obtain ⟨b, off', rfl, y0, y1, y2⟩ := hcl j o ho
          have HNY := Lib.hid (show (rs.take (j + 1)).zipIdx.flatMap (flaw1 ts k) = (rs.take j).zipIdx.flatMap (flaw1 ts k) ++ flaw1 ts k (o, j) from by rw [zip_take ho, List.flatMap_append]; simp)
          have hBo := (Below.refl wq.heap.size wq).alloc (Nat.le_refl _) (.cells #[vi o.kind, vi o.key, vi o.val] 51)
          have HX := Lib.hid (alloc_at wq (.cells #[vi o.kind, vi o.key, vi o.val] 51))
          have HOa := Lib.hid (own_below HO.out hBo)
          have HRa := Lib.hid (HRq.out.laterD hBo)
          have HBa := Lib.hid (HBq.out.trans (hBo.mono HBq.out.size))
          clear hcl ho hBo
          go_upto_region 8 with fail
          clear y0 y1 y2
          generalize wq.alloc (.cells #[vi o.kind, vi o.key, vi o.val] 51) = wa at *
          obtain ⟨ob, hob⟩ : ∃ ob, ob = wq.heap.size := ⟨_, rfl⟩
          rw [← hob] at HX ⊢
          clear hob
          have x1 : wa.cell? ⟨ob, 1, none⟩ = some (vi o.key) := by rw [cell_of HX.out]; rfl
          have x2 : wa.cell? ⟨ob, 2, none⟩ = some (vi o.val) := by rw [cell_of HX.out]; rfl
          obtain ⟨wm, hwm⟩ : ∃ wm, wm = writerM ts o.key o.val := ⟨_, rfl⟩
          have HWM := Lib.hid hwm
          have HWB := Lib.hid (show wm = -1 ∨ ∃ n : Nat, wm = n ∧ n < ts.length from by rw [hwm]; exact writerM_lt)
          have HFK := Lib.hid (show flawK ts k o = if o.val = 0 then 0 else if wm < 0 ∨ wm = k then 1 else match ts[wm.toNat]? with | none => 1 | some t => if t.state = 2 then 2 else if finalB t o.key o.val then 0 else 3 from by rw [hwm]; unfold flawK; rfl)
          have HKB := Lib.hid (flawK_bound ts k o)
          clear hwm
          obtain ⟨K, hK⟩ : ∃ K, K = flawK ts k o := ⟨_, rfl⟩
          have HKD := Lib.hid hK
          rw [← hK] at HFK HKB
          clear hK
          go_upto_if 34 with (go_at_call 46; refine (writer_call _ ts o.key o.val wa (HV.out.later HBa.out)).mono ?_; rw [← HWM.out]; rintro e3 w3 ⟨rfl, hb3⟩; have HO3 := Lib.hid (own_below HOa.out hb3); have HR3 := Lib.hid (HRa.out.laterD hb3); have HB3 := Lib.hid (HBa.out.trans (hb3.mono HBa.out.size)); have HX3 := Lib.hid ((hb3.block ob (Array.getElem?_eq_some_iff.1 HX.out).1).trans HX.out); have x2 : w3.cell? ⟨ob, 2, none⟩ = some (vi o.val) := (by rw [cell_of HX3.out]; rfl); clear hb3)
          have x1 : w3.cell? ⟨ob, 1, none⟩ = some (vi o.key) := by rw [cell_of HX3.out]; rfl
          go_cut [8] (fun kv wx => kv = vi K ∧ Hid (wx.ownsRow w.heap.size 46 3 (.slice aq F1.length cq) F1.length (F1.flatMap flV) ∧ OwOps w.heap.size wx (.slice (some ⟨b, off', none⟩) rs.length c1') rs ∧ Below w.heap.size w wx))
          case first =>
            by_cases hv0 : o.val = 0
            · have d0 : (o.val != 0) = false := by simp [hv0]
              have HE := Lib.hid (show K = 0 from by rw [HFK.out, if_pos hv0])
              clear hv0
              go_wp2_with fail
              go_meet
              exact ⟨by rw [HE.out], Lib.hid ⟨HO3.out, HR3.out, HB3.out⟩⟩
            · have d0 : (o.val != 0) = true := by simp [hv0]
              have HV0 := Lib.hid hv0
              clear hv0
              rcases HWB.out with h1 | ⟨n, h1, hn⟩
              · subst h1
                have HE := Lib.hid (show K = 1 from by rw [HFK.out, if_neg HV0.out, if_pos (.inl (by omega))])
                go_wp2_with fail
                go_meet
                exact ⟨by rw [HE.out], Lib.hid ⟨HO3.out, HR3.out, HB3.out⟩⟩
              · subst h1
                have d1 : decide ((n : Int) < 0) = false := decide_eq_false (by omega)
                have n0 : (0 : Int) ≤ (n : Int) := by omega
                have n1 : (n : Int) < ts.length := by omega
                by_cases hnk : n = k
                · have d2 : ((n : Int) == (k : Int)) = true := by simp [hnk]
                  have HE := Lib.hid (show K = 1 from by rw [HFK.out, if_neg HV0.out, if_pos (.inr (by omega))])
                  clear hnk
                  go_wp2_with fail
                  go_meet
                  exact ⟨by rw [HE.out], Lib.hid ⟨HO3.out, HR3.out, HB3.out⟩⟩
                · have d2 : ((n : Int) == (k : Int)) = false := by simp; omega
                  obtain ⟨u, hu⟩ := some_at hn
                  obtain ⟨_, _, _, e7, -, -, hcl⟩ := (HV.out.later HB3.out).at
                  cases e7
                  obtain ⟨gb', off2, oa', oc', e8, hr', z0, z1, z2⟩ := hcl n u hu
                  cases e8
                  have HRU := Lib.hid hr'
                  have hok3 := (HOK.out.2 u (List.mem_of_getElem? hu)).2
                  have HE := Lib.hid (show K = if u.state = 2 then 2 else if finalB u o.key o.val then 0 else 3 from by rw [HFK.out, if_neg HV0.out, if_neg (by omega), Int.toNat_natCast, hu])
                  clear hcl hu hr' hnk
                  by_cases hs2 : u.state = 2
                  · have d3 : (u.state == 2) = true := by simp [hs2]
                    have HE2 := Lib.hid (show K = 2 from by rw [HE.out, if_pos hs2])
                    clear hs2
                    go_wp2_with fail
                    go_meet
                    exact ⟨by rw [HE2.out], Lib.hid ⟨HO3.out, HR3.out, HB3.out⟩⟩
                  · have d3 : (u.state == 2) = false := by simp [hs2]
                    have HE2 := Lib.hid (show K = if finalB u o.key o.val then 0 else 3 from by rw [HE.out, if_neg hs2])
                    clear hs2
                    have HRD := Lib.hid (show RdOps w3.drew (.slice oa' u.ops.length oc') u.ops from HRU.out)
                    cases hfb : finalB u o.key o.val with
                    | true =>
                      have HFB := Lib.hid (show finalB ⟨u.client, u.state, u.ops⟩ o.key o.val = true from hfb)
                      have HE3 := Lib.hid (show K = 0 from by rw [HE2.out, hfb]; rfl)
                      clear hfb
                      go_upto_region 15 with fail
                      go_still_tail 8, (by kernel_rfl)
                      change wpList _ _ _ _ _ w3.drew
                      go_wp2_with (go_at_call 47; refine (final_call u.client u.state _ u.ops o.key o.val _ HRD.out hok3).mono ?_; rw [HFB.out]; rintro e4 w4 ⟨rfl, hb4d⟩; have hb4 : Below w3.heap.size w3 w4 := ((Below.refl w3.heap.size w3).drew).trans hb4d; have HO4 := Lib.hid (own_below HO3.out hb4); have HR4 := Lib.hid (HR3.out.laterD hb4); have HB4 := Lib.hid (HB3.out.trans (hb4.mono HB3.out.size)); clear hb4 hb4d)
                      all_goals
                        go_meet
                        exact ⟨by rw [HE3.out], Lib.hid ⟨HO4.out, HR4.out, HB4.out⟩⟩
                    | false =>
                      have HFB := Lib.hid (show finalB ⟨u.client, u.state, u.ops⟩ o.key o.val = false from hfb)
                      have HE3 := Lib.hid (show K = 3 from by rw [HE2.out, hfb]; rfl)
                      clear hfb
                      go_upto_region 15 with fail
                      go_still_tail 8, (by kernel_rfl)
                      change wpList _ _ _ _ _ w3.drew
                      go_wp2_with (go_at_call 47; refine (final_call u.client u.state _ u.ops o.key o.val _ HRD.out hok3).mono ?_; rw [HFB.out]; rintro e4 w4 ⟨rfl, hb4d⟩; have hb4 : Below w3.heap.size w3 w4 := ((Below.refl w3.heap.size w3).drew).trans hb4d; have HO4 := Lib.hid (own_below HO3.out hb4); have HR4 := Lib.hid (HR3.out.laterD hb4); have HB4 := Lib.hid (HB3.out.trans (hb4.mono HB3.out.size)); clear hb4 hb4d)
                      all_goals
                        go_meet
                        exact ⟨by rw [HE3.out], Lib.hid ⟨HO4.out, HR4.out, HB4.out⟩⟩
          case rest =>
            obtain ⟨wx, rfl⟩ : ∃ wx : World, wx = wc := ⟨_, rfl⟩
            obtain ⟨rfl, HC⟩ := hcut
            have HO6 := Lib.hid HC.out.1
            have HR6 := Lib.hid HC.out.2.1
            have HB6 := Lib.hid HC.out.2.2
            clear HC
            have hkb := HKB.out
            by_cases hk0 : 0 < K
            · have d0 : decide (0 < K) = true := decide_eq_true hk0
              have HN1 := Lib.hid (show flaw1 ts k (o, j) = [((k : Int), (j : Int), K)] from by unfold flaw1; simp only [← HKD.out]; rw [if_pos hk0])
              clear hk0
              go_wp2_with (at_builtin; refine wpList_append_src rfl _ _ 44 rfl eltFl w.heap.size F1.length _ (World.ownsRow.alloc HO6.out _) rfl 1 (flV ((k : Int), (j : Int), K)) (src_new (cs := #[vi k, vi j, vi K]) rfl rfl) rfl (flV_one _) (by omega) (by omega) (by have := HB6.out.size; simp; omega) ?_; intro v7 w7 ho7 hg7 _; have HO7 := Lib.hid ho7; have HR7 := Lib.hid (rows_kept (World.ownsRow.alloc HR6.out _) (World.ownsRow.alloc HO6.out _) (by decide) hg7); have HB7 := Lib.hid ((HB6.out.alloc HB6.out.size _).grown hg7 (by have := HB6.out.size; simp; omega) (fun j hj => (World.ownsRow.lt HO6.out j hj).1)); clear ho7 hg7)
              exact ⟨⟨j + 1, by omega, by go_num, Lib.hid ⟨by rw [HNY.out, HN1.out, ← List.append_assoc, ← HF1.out]; unfold OwFl; have h := HO7.out; simpa using h, HR7.out, HB7.out⟩⟩, by simp only [intOf]; omega⟩
            · have d0 : decide (0 < K) = false := decide_eq_false hk0
              have HN1 := Lib.hid (show flaw1 ts k (o, j) = [] from by unfold flaw1; simp only [← HKD.out]; rw [if_neg hk0])
              clear hk0
              go_wp2_with fail
              exact ⟨⟨j + 1, by omega, by go_num, Lib.hid ⟨by rw [HNY.out, HN1.out, List.append_nil, ← HF1.out]; exact HO6.out, HR6.out, HB6.out⟩⟩, by simp only [intOf]; omega⟩
        · have j1 : decide ((j : Int) < rs.length) = false := decide_eq_false (by omega)
          have HFN := Lib.hid (show OwFl w.heap.size wq (.slice aq F1.length cq) ((ts.take (k + 1)).zipIdx.flatMap (flawT ts)) from by
            have hje : j = rs.length := by omega
            have h2 : (ts.take (k + 1)).zipIdx.flatMap (flawT ts) = F1 := by rw [HNX.out, HF1.out, hje, List.take_length]
            rw [h2]; exact HO.out)
          have HLN := Lib.hid (show ((ts.take (k + 1)).zipIdx.flatMap (flawT ts)).length ≤ (k + 1) * 1048576 from by
            have h1 := flatMap_le 1 (flaw1_len ts k) rs.zipIdx
            have h2 : rs.zipIdx.length = rs.length := by simp
            have h3 := HLK.out
            rw [HNX.out, List.length_append, Nat.add_mul, Nat.one_mul]; omega)
          go_wp2_with fail
          exact ⟨⟨k + 1, by omega, by go_num, Lib.hid ⟨HFN.out, HBq.out, HLN.out⟩⟩, by simp only [intOf]; omega⟩
    · have k1 : decide ((k : Int) < ts.length) = false := decide_eq_false (by omega)
      have HFN := Lib.hid (show OwFl w.heap.size wj (.slice ax F0.length cx) (flawsM ts) from by
        have hke : k = ts.length := by omega
        have h2 : F0 = flawsM ts := by rw [HF0.out, hke, List.take_length]; rfl
        rw [← h2]; exact HJ.out.1)
      have HBF := Lib.hid HJ.out.2.1
      clear HJ
      go_wp2_with fail
      go_ret
      exact ⟨_, rfl, HFN.out, HBF.out⟩
end Go.Proofs.YtnacoplokjdglaaGreat

namespace Go.Proofs.YtnacoplokjdglaaGreat
open Go.RowKit Go.Maps

theorem flat_set : ∀ (L : TxL) (k i : Nat) (u : Value) (p p' : GTxn × Value), L[k]? = some p → i < 3 → (txV p).set i u = txV p' → (L.flatMap txV).set (k * 3 + i) u = (L.set k p').flatMap txV := by
  intro L
  induction L with
  | nil => intro k i u p p' h; simp at h
  | cons q L ih =>
    intro k i u p p' h hi hs
    rw [List.flatMap_cons]
    cases k with
    | zero =>
      simp at h; subst h
      rw [List.set_append]
      rw [if_pos (by rw [txV_length]; omega), List.set_cons_zero, List.flatMap_cons, Nat.zero_mul, Nat.zero_add, hs]
    | succ k =>
      rw [List.set_append, if_neg (by rw [txV_length]; omega), txV_length, List.set_cons_succ, List.flatMap_cons]
      rw [show (k + 1) * 3 + i - 3 = k * 3 + i by omega, ih k i u p p' (by simpa using h) hi hs]

theorem OfS.out_shape {w A : World} {vo vf : Value} {L : TxL} {F : List Nat} (h : OfS w vo vf L F A) (h0 : 0 < L.length) : ∃ g cap, vo = .slice (some ⟨g, 0, none⟩) L.length cap := by
  rcases h.out.2 with ⟨_, h2⟩ | ⟨g, cap, _, hv, _⟩
  · omega
  · exact ⟨g, cap, hv⟩
theorem OfS.frm_shape {w A : World} {vo vf : Value} {L : TxL} {F : List Nat} (h : OfS w vo vf L F A) (h0 : 0 < F.length) : ∃ g cap, vf = .slice (some ⟨g, 0, none⟩) F.length cap := by
  rcases h.frm.2 with ⟨_, h2⟩ | ⟨g, cap, _, hv, _⟩
  · omega
  · exact ⟨g, cap, hv⟩

theorem OfS.frm_at {w A : World} {vo : Value} {L : TxL} {F : List Nat} {gf n cf : Nat} (h : OfS w vo (.slice (some ⟨gf, 0, none⟩) n cf) L F A) {k f : Nat} (hf : F[k]? = some f) : A.cell? ⟨gf, k, none⟩ = some (vi f) := by
  have := World.ownsRow.cells h.frm (g := gf) rfl k (vi f) (by simp [hf])
  rw [addr_add] at this
  simpa using this
theorem txV_at (L : TxL) {k i : Nat} {p : GTxn × Value} {u : Value} (hk : L[k]? = some p) (hu : (txV p)[i]? = some u) : (L.flatMap txV)[k * 3 + i]? = some u := flat_at txV_length L k i p u hk hu
theorem OfS.out_at {w A : World} {vf : Value} {L : TxL} {F : List Nat} {g n cap : Nat} (h : OfS w (.slice (some ⟨g, 0, none⟩) n cap) vf L F A) {k : Nat} {p : GTxn × Value} (hp : L[k]? = some p) {i : Nat} {u : Value} (hu : (txV p)[i]? = some u) : A.cell? ⟨g, k * 3 + i, none⟩ = some u := by
  have := World.ownsRow.cells h.out (g := g) rfl (k * 3 + i) u (txV_at L hp hu)
  rw [addr_add] at this
  simpa using this
theorem OfS.out_free {w A : World} {vf : Value} {L : TxL} {F : List Nat} {g n cap : Nat} (h : OfS w (.slice (some ⟨g, 0, none⟩) n cap) vf L F A) (hn : n = L.length) (j : Nat) : A.frozen? ⟨g, j, none⟩ = false := by
  subst hn; exact World.ownsRow.frozenAt h.out j
/-- A cell of a transaction is written. -/
theorem OfS.set {w A : World} {vf : Value} {L : TxL} {F : List Nat} {g n cap : Nat} (h : OfS w (.slice (some ⟨g, 0, none⟩) n cap) vf L F A) (hn : n = L.length) {k i : Nat} {p p' : GTxn × Value} {u : Value} (hp : L[k]? = some p) (hi : i < 3) (hs : (txV p).set i u = txV p') (ho : OwOps w.heap.size A p'.2 p'.1.ops) :
    OfS w (.slice (some ⟨g, 0, none⟩) n cap) vf (L.set k p') F (A.setCell ⟨g, k * 3 + i, none⟩ u) := by
  subst hn
  obtain ⟨h1, h2⟩ := World.ownsRow.stored h.out (k * 3 + i) u
  rw [flat_set L k i u p p' hp hi hs] at h1
  refine h.wrote (vo' := .slice (some ⟨g, 0, none⟩) L.length cap) h2 (by simpa using h1) fun q hq => ?_
  rcases List.mem_or_eq_of_mem_set hq with hq | rfl
  · exact h.ops q hq
  · exact ho
/-- A transaction is appended. -/
theorem OfS.push {w A B : World} {vo vo' vf : Value} {L : TxL} {F : List Nat} {p : GTxn × Value} (h : OfS w vo vf L F A) (hg : A.grownBy B vo.ownBlock) (ho : B.ownsRow w.heap.size 49 3 vo' (L.length + 1) (L.flatMap txV ++ txV p)) (hp : OwOps w.heap.size A p.2 p.1.ops) : OfS w vo' vf (L ++ [p]) F B := by
  refine h.wrote hg (by simpa using ho) fun q hq => ?_
  rw [List.mem_append] at hq
  rcases hq with hq | hq
  · exact h.ops q hq
  · simp at hq; subst hq; exact hp
theorem OfS.pushF {w A B : World} {vo vf vf' : Value} {L : TxL} {F : List Nat} {f : Nat} (h : OfS w vo vf L F A) (hg : A.grownBy B vf.ownBlock) (ho : B.ownsRow w.heap.size 3 1 vf' (F.length + 1) (F.map (fun n : Nat => vi (n : Int)) ++ [vi (f : Int)])) : OfS w vo vf' L (F ++ [f]) B :=
  h.from' hg (by simpa using ho)
theorem txV_one {p : GTxn × Value} {a : Option Addr} {n c : Nat} (h : p.2 = .slice a n c) : ∀ u ∈ txV p, u.oneCell' = true := by
  intro u hu
  simp [txV, h] at hu
  rcases hu with rfl | rfl | rfl <;> rfl

theorem OfS.shapes {w A : World} {vo vf : Value} {L : TxL} {F : List Nat} (h : OfS w vo vf L F A) (hl : L.length = F.length) : ∃ a c a2 c2, vo = .slice a F.length c ∧ vf = .slice a2 F.length c2 := by
  obtain ⟨a, len, c, h1, h2, -⟩ := rds_of_own (V := txV) txV_length h.out
  have h3 := h.frm.2
  subst h2
  rw [hl] at h1
  rcases h3 with ⟨h3, h0⟩ | ⟨g, cap, _, hv, _⟩
  · exact ⟨a, c, none, 0, h1, by rw [h3, h0]⟩
  · exact ⟨a, c, _, _, h1, hv⟩
theorem OfS.shapes_at {w A : World} {a a2 : Option Addr} {n c m c2 : Nat} {L : TxL} {F : List Nat} (h : OfS w (.slice a n c) (.slice a2 m c2) L F A) (hl : L.length = F.length) (h0 : 0 < F.length) : ∃ g gf, a = some ⟨g, 0, none⟩ ∧ a2 = some ⟨gf, 0, none⟩ := by
  obtain ⟨g, cap, e1⟩ := h.out_shape (by omega)
  obtain ⟨gf, cap2, e2⟩ := h.frm_shape h0
  simp only [Value.slice.injEq] at e1 e2
  exact ⟨g, gf, e1.1, e2.1⟩
theorem one_vi (n : Int) : ∀ u ∈ [vi n], u.oneCell' = true := by intro u hu; simp at hu; subst hu; rfl

/-- The box of the event stays. -/
theorem OfS.box {w A : World} {vf : Value} {L : TxL} {F : List Nat} {g n cap : Nat} (h : OfS w (.slice (some ⟨g, 0, none⟩) n cap) vf L F A) (hn : n = L.length) {bx : Nat} {cs : Array Value} (hb : A.heap[bx]? = some (.cells cs 53)) (j : Nat) (u : Value) : (A.setCell ⟨g, j, none⟩ u).heap[bx]? = some (.cells cs 53) := by
  subst hn
  exact own_box h.out hb (by decide) (World.ownsRow.stored h.out j u).2
end Go.Proofs.YtnacoplokjdglaaGreat

namespace Go.Proofs.YtnacoplokjdglaaGreat
open Go.RowKit Go.Maps

def allC (n : Nat) : List GChoice := (List.range n).map (fun i : Nat => (⟨1, 0, (i : Int), 0⟩ : GChoice)) ++ (List.range 16).flatMap (fun k : Nat => (List.range n).flatMap (fun a : Nat => (List.range n).map (fun b : Nat => (⟨2, (k : Int), (a : Int), (b : Int)⟩ : GChoice))))
theorem allC_len (n : Nat) : (allC n).length = n + 16 * (n * n) := by
  unfold allC
  rw [List.length_append, sum_len _ (n * n) (fun k => sum_len _ n (fun a => by simp) n)]
  simp
theorem allC_mem {n : Nat} {c : GChoice} (h : OkCh n c) : c ∈ allC n := by
  obtain ⟨k, y, a, b⟩ := c
  have h1 := h.key; have h2 := h.a; have h3 := h.b; have h4 := h.kind
  simp only at h1 h2 h3 h4
  obtain ⟨y', rfl⟩ : ∃ m : Nat, y = m := ⟨y.toNat, by omega⟩
  obtain ⟨a', rfl⟩ : ∃ m : Nat, a = m := ⟨a.toNat, by omega⟩
  obtain ⟨b', rfl⟩ : ∃ m : Nat, b = m := ⟨b.toNat, by omega⟩
  unfold allC
  rcases h4 with ⟨rfl, h5, h6⟩ | ⟨rfl, h5⟩
  · refine List.mem_append_left _ (List.mem_map.2 ⟨a', List.mem_range.2 (by omega), ?_⟩)
    rw [h5, h6]
  · exact List.mem_append_right _ (List.mem_flatMap.2 ⟨y', List.mem_range.2 (by omega), List.mem_flatMap.2 ⟨a', List.mem_range.2 (by omega), List.mem_map.2 ⟨b', List.mem_range.2 (by omega), rfl⟩⟩⟩)
theorem choices_small (ts : List GTxn) : (choicesM ts).length ≤ ts.length + 16 * (ts.length * ts.length) := by
  rw [← allC_len]
  exact nodup_len _ _ (choicesM_nodup ts) (fun c hc => allC_mem (choicesM_ok hc))
theorem small_good {ts : List GTxn} {L : FaL} (h : GoodTs ts) (hL : L.length ≤ (choicesM ts).length + 1) : SmallH ts L 12 := by
  have h1 := h.len
  have h2 := choices_small ts
  have h3 := Nat.mul_le_mul h1 h1
  have h4 : L.length ≤ 57661 := by omega
  have h5 : ts.length * 12 ≤ 720 := by omega
  refine ⟨h1, fun t ht => (h.txn t ht).2.2, by omega, ?_⟩
  have h6 := Nat.mul_le_mul h1 (Nat.mul_le_mul_left 16 h5)
  have h7 := Nat.mul_le_mul h4 (Nat.add_le_add_left h5 1)
  omega
/-- Facts that name choices of a history, each once. -/
structure FaOk (ts : List GTxn) (L : FaL) : Prop where
  mem : ∀ p ∈ L, p.1 ∈ choicesM ts
  nd : (L.map (·.1)).Nodup
theorem FaOk.len {ts : List GTxn} {L : FaL} (h : FaOk ts L) : L.length ≤ (choicesM ts).length := by
  have := nodup_len (L.map (·.1)) (choicesM ts) h.nd (fun x hx => by obtain ⟨p, hp, rfl⟩ := List.mem_map.1 hx; exact h.mem p hp)
  simpa using this
theorem FaOk.pw {ts : List GTxn} {L : FaL} (h : FaOk ts L) : L.Pairwise (fun p q => p.1 ≠ q.1) := by
  have := h.nd
  rw [List.nodup_iff_pairwise_ne, List.pairwise_map] at this
  exact this
end Go.Proofs.YtnacoplokjdglaaGreat
