/- Texts of one proof, one behind the other: DpEdges, DpEdP, DpBroken, DpHead, DpFl, OfSet, DpSm, DpBrk, ChAllP, CkP. -/
import Derived.Test.YtnacoplokjdglaaGreatKe1
import Derived.Test.YtnacoplokjdglaaGreatKe2
import Derived.Test.YtnacoplokjdglaaGreatKe3
import Derived.Test.YtnacoplokjdglaaGreatKe4
import Derived.Test.YtnacoplokjdglaaGreatKe5
import Derived.Test.YtnacoplokjdglaaGreatKe6
import Derived.Test.YtnacoplokjdglaaGreatKe7
import Derived.Test.YtnacoplokjdglaaGreatKe8
import Derived.Test.YtnacoplokjdglaaGreatKe9
import Derived.Test.YtnacoplokjdglaaGreatKe10
import Derived.Test.YtnacoplokjdglaaGreatKe11
import Derived.Test.YtnacoplokjdglaaGreatKe12
set_option linter.all false
namespace Go.Proofs.YtnacoplokjdglaaGreat
open Go.RowKit Go.Maps
attribute [local go_sem] Oper.semAt_some

def dnTo (dn : Nat → Bool) (n k : Nat) : List Bool := (List.range n).map (fun j => if j < k then dn j else false)
theorem dnTo_set (dn : Nat → Bool) (n k : Nat) : (dnTo dn n k).set k (dn k) = dnTo dn n (k + 1) := by
  have h := mapR_set n (fun j => if j < k then dn j else false) (fun j => if j < k + 1 then dn j else false) k (fun u hu => by
    by_cases h1 : u < k
    · rw [if_pos (by omega), if_pos h1]
    · rw [if_neg (by omega), if_neg h1])
  simp only [show k < k + 1 by omega, if_true] at h
  exact h
theorem dnTo_zero (dn : Nat → Bool) (n : Nat) : dnTo dn n 0 = List.replicate n false := by
  unfold dnTo
  apply List.ext_getElem?
  intro j
  rw [List.getElem?_map, List.getElem?_replicate]
  by_cases hj : j < n
  · rw [List.getElem?_range hj, if_pos hj]; simp
  · rw [List.getElem?_eq_none (by simp; omega), if_neg hj]; rfl
theorem dnTo_all (dn : Nat → Bool) (n : Nat) : dnTo dn n n = (List.range n).map dn := by
  unfold dnTo
  exact List.map_congr_left (fun x hx => by rw [if_pos (List.mem_range.1 hx)])
theorem BoolB.ownN {w : World} {b N : Nat} {S : List Bool} (h : BoolB w b S) (hl : S.length ≤ 4096) (hN : N ≤ b) : OwBs N w (.slice (some ⟨b, 0, none⟩) S.length S.length) S := by
  have hf := flat_bools S
  refine ⟨by rw [hf]; simp, .inr ⟨b, S.length, (S.map Value.bool).toArray, rfl, hN, h, Nat.le_refl _, by simp [maxLen]; omega, by simp, by rw [hf]; simp [List.take_of_length_le]⟩⟩
theorem edgeL_fin (ts : List GTxn) (L V : FaL) (h : ∀ p, p ∈ V ↔ p ∈ L) (e : GEdge) : e ∈ ((rdsL ts (dnM ts L)).flatMap wrEdge ++ ts.zipIdx.flatMap (rwT (dnM ts L) (rdsL ts (dnM ts L)))) ++ V.flatMap (factE ts (dnM ts L) (rdsL ts (dnM ts L))) ↔ e ∈ edgeL ts L := by
  unfold edgeL edge0
  simp only [List.mem_append, List.mem_flatMap, h]

set_option maxRecDepth 1000000 in
set_option maxHeartbeats 8000000 in
theorem edges_call (v mv : Value) (ts : List GTxn) (L : FaL) (c : Nat) (w : World) (hv : RdTxns w v ts) (hok : OkTxns ts) (htl : ts.length ≤ 4096) (hm : FaV w mv L) (hc : ∀ t ∈ ts, t.ops.length ≤ c) (hB : ts.length * c ≤ 100000000 ∧ ts.length * c + ts.length * (16 * (ts.length * c)) + L.length * (1 + ts.length * c) ≤ 800000000) :
    Calls Tryz.prog 77 #[v, mv] w (EdQ ts L w) := by
  obtain ⟨ta, nt, tc, rfl, rfl, hmm, -⟩ := hv.at
  have HV := Lib.hid hv
  have HM := Lib.hid hm
  have HOK := Lib.hid hok
  have HC := Lib.hid hc
  have HB := Lib.hid hB
  have er : ((List.replicate ts.length false).map Value.bool).toArray = Array.replicate ts.length (Value.bool false) := by simp
  have hmb := fun w => run_makeBools w ts.length hok.1
  rw [er] at hmb
  have HX0 := Lib.hid (alloc_at w (.cells #[.slice none 0 0] 65))
  have hw1 : (w.alloc (.cells #[.slice none 0 0] 65)).heap.size = w.heap.size + 1 := by simp
  have HX1 := Lib.hid (alloc_at (w.alloc (.cells #[.slice none 0 0] 65)) (.cells (Array.replicate ts.length (Value.bool false)) 4))
  have HX2 := Lib.hid ((Below.heap_alloc (w.alloc (.cells #[.slice none 0 0] 65)) (.cells (Array.replicate ts.length (Value.bool false)) 4) w.heap.size (by simp)).trans HX0.out)
  have HB2 := Lib.hid (((Below.refl w.heap.size w).alloc (Nat.le_refl _) (.cells #[.slice none 0 0] 65)).alloc (by simp) (.cells (Array.replicate ts.length (Value.bool false)) 4))
  rw [hw1] at HX1
  have ER := Lib.hid er
  clear hv hm hok hc hB er
  go_enter Tryz.func77, Tryz.ntmps77
  go_wp2_with fail
  clear hmb
  generalize (w.alloc (.cells #[.slice none 0 0] 65)).alloc (.cells (Array.replicate ts.length (Value.bool false)) 4) = w2 at *
  rename_i KB hKB
  have HKB := Lib.hid hKB
  clear hKB hw1
  refine wp_loopF 199 (fun m g wr => g 0 = .slice ta ts.length tc ∧ g 1 = mv ∧ g 5 = .pointer (some ⟨w.heap.size, 0, none⟩) ∧ g 6 = .slice (some ⟨w.heap.size + 1, 0, none⟩) ts.length ts.length ∧ g 32 = .int .i64 (ts.length : Int) ∧
    ∃ k : Nat, k ≤ ts.length ∧ m = ts.length - k ∧ g 33 = .int .i64 k ∧ wr.heap[w.heap.size]? = some (.cells #[.slice none 0 0] 65) ∧ BoolB wr (w.heap.size + 1) (dnTo (dnM ts L) ts.length k) ∧ Below w.heap.size w wr) _ rfl ts.length ?start ?round
  case start => exact ⟨rfl, rfl, rfl, rfl, rfl, 0, Nat.zero_le _, rfl, rfl, HX2.out, by unfold BoolB; rw [dnTo_zero, ER.out]; exact HX1.out, HB2.out⟩
  case round =>
    rintro gm g wr ⟨g0, g1, g5, g6, g32, k, hk, hgm, g33, hX, hD, hBw⟩ JJ KK HJ HKK
    have HJJ := Lib.hid HJ
    have HKK2 := Lib.hid HKK
    have HGM := Lib.hid hgm
    have HX := Lib.hid hX
    have HD := Lib.hid hD
    have HBw := Lib.hid hBw
    clear HJ hgm hX hD hBw HKK
    have hdl : (dnTo (dnM ts L) ts.length k).length = ts.length := by unfold dnTo; simp
    by_cases hlt : k < ts.length
    · rw [fr199, g0, g1, g5, g6, g32, g33]
      clear g0 g1 g5 g6 g32 g33
      have k1 : decide ((k : Int) < ts.length) = true := decide_eq_true (by omega)
      have k2 : (k : Int) < ts.length := by omega
      have k3 : (0 : Int) ≤ (k : Int) := by omega
      have hwk : IntKind.i64.wrap ((k : Int) + 1) = (k : Int) + 1 := IntWalk.i64_in _ (by omega)
      obtain ⟨x, hx⟩ := some_at (l := dnTo (dnM ts L) ts.length k) (k := k) (by rw [hdl]; exact hlt)
      have HXX := Lib.hid hx
      clear hx hdl
      go_wp2_with (go_at_call 41; refine (Is_callV _ ts mv L k wr (HV.out.later HBw.out) HOK.out htl (HM.out.later HBw.out) hlt).mono ?_; rintro e1 w3 ⟨rfl, hb3⟩; have HX3 := Lib.hid ((hb3.block w.heap.size (Array.getElem?_eq_some_iff.1 HX.out).1).trans HX.out); have HD3 := Lib.hid (HD.out.frame (hb3.block (w.heap.size + 1) HD.out.lt)); have HB3 := Lib.hid (HBw.out.trans (hb3.mono HBw.out.size)); have c3 := HD3.out.at HXX.out; have f3 := HD3.out.free k; clear hb3)
      obtain ⟨hD4, hg4⟩ := HD3.out.set k (dnM ts L k)
      rw [dnTo_set] at hD4
      refine HKK2.out _ _ (Handed.intro (ts.length - (k + 1)) (by rw [HGM.out]; omega) (HJJ.out _ _ _ rfl ⟨rfl, rfl, rfl, rfl, rfl, k + 1, by omega, rfl, ?_, ?_, hD4, ?_⟩))
      · show Value.int .i64 _ = _; go_num
      · exact (hg4.block w.heap.size (Array.getElem?_eq_some_iff.1 HX3.out).1 (by simp)).trans HX3.out
      · exact HB3.out.grown hg4 HB3.out.size (fun j hj => by cases hj; omega)
    · have k1 : decide ((k : Int) < ts.length) = false := decide_eq_false (by omega)
      have hcc : ∀ (l : List Value), l.length = 199 → slotsOf l 0 = .slice ta ts.length tc ∧ slotsOf l 1 = mv ∧ slotsOf l 5 = .pointer (some ⟨w.heap.size, 0, none⟩) ∧ slotsOf l 6 = .slice (some ⟨w.heap.size + 1, 0, none⟩) ts.length ts.length → Code.wp Tryz.prog cEd1 (bodyPost Tryz.prog Tryz.f77 (EdQ ts L w)) ⟨l.toArray, []⟩ wr := fun l hl' hc => by
        obtain ⟨t0, t1, t5, t6⟩ := hc
        rw [frN_of 199 l hl']
        have hke : k = ts.length := by omega
        refine edAA w w.heap.size ts L mv _ ta tc (dnM ts L) c _ wr ⟨⟨⟨.slice none 0 0, HX.out, World.ownsRow_nil _ _ _ _⟩, Nat.le_refl _⟩, ?_, World.ownsRow_nil _ _ _ _, HBw.out⟩ HV.out HOK.out htl HM.out HC.out HB.out (fun V h e => edgeL_fin ts L V h e) t0 t1 t5 t6
        have h := HD.out
        rw [hke, dnTo_all] at h
        have h2 := h.ownN (N := w.heap.size) (by simp; exact htl) (by omega)
        simpa [OwDn] using h2
      have HCC := Lib.hid hcc
      rw [fr199, g0, g1, g5, g6, g32, g33]
      clear hcc hdl g0 g1 g5 g6 g32 g33
      go_wp2_with fail
      exact HKB.out _ _ (HCC.out _ rfl ⟨rfl, rfl, rfl, rfl⟩)
end Go.Proofs.YtnacoplokjdglaaGreat

namespace Go.Proofs.YtnacoplokjdglaaGreat
open Go.RowKit Go.Maps

theorem zip_mem {α : Type} {l : List α} {p : α × Nat} : p ∈ l.zipIdx ↔ l[p.2]? = some p.1 := by
  obtain ⟨x, i⟩ := p
  rw [List.mem_zipIdx_iff_getElem?]
theorem mem_addE {f t k : Int} {e : GEdge} : e ∈ addE f t k ↔ f ≠ t ∧ e = ⟨f, t, k⟩ := by
  unfold addE; split <;> simp_all
theorem rds_mem {ts : List GTxn} {dn : Nat → Bool} {r : GRd} : r ∈ rdsL ts dn ↔ ∃ (i : Nat) (t : GTxn) (o : GOp), ts[i]? = some t ∧ o ∈ readsM t ∧ (srcM ts o.key o.val).2 = true ∧ ((srcM ts o.key o.val).1 < 0 ∨ dn (srcM ts o.key o.val).1.toNat = true) ∧ r = ⟨i, (srcM ts o.key o.val).1, o.key⟩ := by
  unfold rdsL readsOf
  simp only [List.mem_flatMap]
  constructor
  · rintro ⟨p, hp, o, ho, hr⟩
    unfold readOf at hr
    split at hr
    · rename_i hc
      simp only [List.mem_singleton] at hr
      simp only [Bool.and_eq_true, Bool.not_eq_true', Bool.and_eq_false_iff, decide_eq_false_iff_not, Bool.not_eq_false'] at hc
      refine ⟨p.2, p.1, o, zip_mem.1 hp, ho, hc.1, ?_, hr⟩
      rcases hc.2 with h | h
      · exact .inl (by omega)
      · exact .inr h
    · simp at hr
  · rintro ⟨i, t, o, ht, ho, h1, h2, rfl⟩
    refine ⟨(t, i), zip_mem.2 ht, o, ho, ?_⟩
    unfold readOf
    rw [if_pos]
    · simp
    · simp only [Bool.and_eq_true, Bool.not_eq_true', Bool.and_eq_false_iff, decide_eq_false_iff_not, Bool.not_eq_false']
      refine ⟨h1, ?_⟩
      rcases h2 with h | h
      · exact .inl (by omega)
      · exact .inr h
theorem src_lt {ts : List GTxn} {key val : Int} (h : (srcM ts key val).2 = true) : (srcM ts key val).1 = -1 ∧ val = 0 ∨ ∃ n : Nat, (srcM ts key val).1 = n ∧ n < ts.length ∧ val ≠ 0 ∧ getM (byN ts ts.length) (key, val) = some (n : Int) := by
  unfold srcM at *
  split at h
  · rename_i h0
    rw [if_pos h0]; exact .inl ⟨rfl, h0⟩
  · rename_i h0
    rw [if_neg h0]
    cases hg : getM (byN ts ts.length) (key, val) with
    | none => rw [hg] at h; cases h
    | some z =>
      obtain ⟨i, rfl, hi⟩ := byN_lt ts _ z ts.length (Nat.le_refl _) hg
      exact .inr ⟨i, rfl, hi, h0, rfl⟩
theorem has1_iff {ts : List GTxn} {dn : Nat → Bool} {key i : Int} : has1 ts dn key i = true ↔ ∃ (n : Nat) (t : GTxn), i = n ∧ ts[n]? = some t ∧ dn n = true ∧ t.ops.any (wkB key) = true := by
  unfold has1
  constructor
  · intro h
    simp only [Bool.and_eq_true, decide_eq_true_eq] at h
    obtain ⟨⟨⟨h1, h2⟩, h3⟩, h4⟩ := h
    obtain ⟨n, rfl⟩ : ∃ n : Nat, i = n := ⟨i.toNat, by omega⟩
    rw [Int.toNat_natCast] at h3 h4
    obtain ⟨t, ht⟩ : ∃ t, ts[n]? = some t := ⟨_, List.getElem?_eq_getElem (by omega)⟩
    rw [ht] at h4
    exact ⟨n, t, rfl, ht, h3, h4⟩
  · rintro ⟨n, t, rfl, ht, h3, h4⟩
    have hn := (List.getElem?_eq_some_iff.1 ht).1
    rw [Int.toNat_natCast, ht, h3]
    have h1 : decide ((0 : Int) ≤ (n : Int)) = true := decide_eq_true (by omega)
    have h2 : decide ((n : Int) < (ts.length : Int)) = true := decide_eq_true (by omega)
    rw [h1, h2]; simpa using h4
theorem edge_mem {ts : List GTxn} {L : FaL} {e : GEdge} : e ∈ edgeL ts L ↔
    (∃ r ∈ rdsL ts (dnM ts L), 0 ≤ r.of_ ∧ r.of_ ≠ r.by_ ∧ e = ⟨r.of_, r.by_, 2⟩) ∨
    (∃ (i : Nat) (t : GTxn) (o : GOp) (r : GRd), ts[i]? = some t ∧ dnM ts L i = true ∧ o ∈ writesM t.ops ∧ r ∈ rdsL ts (dnM ts L) ∧ r.of_ < 0 ∧ r.key = o.key ∧ r.by_ ≠ i ∧ e = ⟨r.by_, i, 3⟩) ∨
    (∃ p ∈ L, ∃ a b : Int, p.1.kind = 2 ∧ hasM ts (dnM ts L) p.1 = true ∧ (p.2 = true ∧ a = p.1.a ∧ b = p.1.b ∨ p.2 = false ∧ a = p.1.b ∧ b = p.1.a) ∧
      (a ≠ b ∧ e = ⟨a, b, 1⟩ ∨ ∃ r ∈ rdsL ts (dnM ts L), r.of_ = a ∧ r.key = p.1.key ∧ r.by_ ≠ b ∧ e = ⟨r.by_, b, 3⟩)) := by
  unfold edgeL edge0
  rw [List.mem_append, List.mem_append, or_assoc]
  refine or_congr ?_ (or_congr ?_ ?_)
  · rw [List.mem_flatMap]
    constructor
    · rintro ⟨r, hr, he⟩
      unfold wrEdge at he
      split at he
      · rename_i h0
        obtain ⟨h1, h2⟩ := mem_addE.1 he
        exact ⟨r, hr, h0, h1, h2⟩
      · simp at he
    · rintro ⟨r, hr, h0, h1, h2⟩
      refine ⟨r, hr, ?_⟩
      unfold wrEdge; rw [if_pos h0]; exact mem_addE.2 ⟨h1, h2⟩
  · rw [List.mem_flatMap]
    constructor
    · rintro ⟨p, hp, he⟩
      unfold rwT at he
      split at he
      · rename_i hd
        obtain ⟨o, ho, he⟩ := List.mem_flatMap.1 he
        obtain ⟨r, hr, he⟩ := List.mem_flatMap.1 he
        unfold rwR at he
        split at he
        · rename_i hc
          obtain ⟨h1, h2⟩ := mem_addE.1 he
          exact ⟨p.2, p.1, o, r, zip_mem.1 hp, hd, ho, hr, hc.1, hc.2, h1, h2⟩
        · simp at he
      · simp at he
    · rintro ⟨i, t, o, r, ht, hd, ho, hr, h1, h2, h3, h4⟩
      refine ⟨(t, i), zip_mem.2 ht, ?_⟩
      unfold rwT
      rw [if_pos hd]
      refine List.mem_flatMap.2 ⟨o, ho, List.mem_flatMap.2 ⟨r, hr, ?_⟩⟩
      unfold rwR; rw [if_pos ⟨h1, h2⟩]; exact mem_addE.2 ⟨h3, h4⟩
  · rw [List.mem_flatMap]
    have hw : ∀ (R : List GRd) (a b key : Int), e ∈ wwL R a b key ↔ (a ≠ b ∧ e = ⟨a, b, 1⟩ ∨ ∃ r ∈ R, r.of_ = a ∧ r.key = key ∧ r.by_ ≠ b ∧ e = ⟨r.by_, b, 3⟩) := fun R a b key => by
      unfold wwL
      rw [List.mem_append, mem_addE, List.mem_flatMap]
      refine or_congr Iff.rfl ?_
      constructor
      · rintro ⟨r, hr, he⟩
        unfold wwR at he
        split at he
        · rename_i hc
          obtain ⟨h1, h2⟩ := mem_addE.1 he
          exact ⟨r, hr, hc.1, hc.2, h1, h2⟩
        · simp at he
      · rintro ⟨r, hr, h1, h2, h3, h4⟩
        refine ⟨r, hr, ?_⟩
        unfold wwR; rw [if_pos ⟨h1, h2⟩]; exact mem_addE.2 ⟨h3, h4⟩
    constructor
    · rintro ⟨p, hp, he⟩
      unfold factE at he
      split at he
      · rename_i hc
        cases hs : p.2 with
        | true => rw [hs] at he; exact ⟨p, hp, _, _, hc.1, hc.2, .inl ⟨hs, rfl, rfl⟩, (hw _ _ _ _).1 he⟩
        | false => rw [hs] at he; exact ⟨p, hp, _, _, hc.1, hc.2, .inr ⟨hs, rfl, rfl⟩, (hw _ _ _ _).1 he⟩
      · simp at he
    · rintro ⟨p, hp, a, b, h1, h2, h3, h4⟩
      refine ⟨p, hp, ?_⟩
      unfold factE
      rw [if_pos ⟨h1, h2⟩]
      rcases h3 with ⟨hs, rfl, rfl⟩ | ⟨hs, rfl, rfl⟩
      · rw [hs]; exact (hw _ _ _ _).2 h4
      · rw [hs]; exact (hw _ _ _ _).2 h4
theorem rd_by {ts : List GTxn} {dn : Nat → Bool} {r : GRd} (h : r ∈ rdsL ts dn) : 0 ≤ r.by_ ∧ r.by_ < ts.length ∧ (r.of_ = -1 ∨ (0 ≤ r.of_ ∧ r.of_ < ts.length)) := by
  obtain ⟨i, t, o, ht, ho, h1, h2, rfl⟩ := rds_mem.1 h
  have hi := (List.getElem?_eq_some_iff.1 ht).1
  refine ⟨by simp, by simp; omega, ?_⟩
  rcases src_lt h1 with ⟨h, -⟩ | ⟨n, h, hn, -⟩
  · exact .inl h
  · exact .inr (by simp only; omega)
theorem hasM_in {ts : List GTxn} {dn : Nat → Bool} {c : GChoice} (h : hasM ts dn c = true) : (0 ≤ c.a ∧ c.a < ts.length) ∧ (0 ≤ c.b ∧ c.b < ts.length) := by
  unfold hasM at h
  simp only [Bool.and_eq_true] at h
  obtain ⟨h1, h2⟩ := h
  obtain ⟨n, t, hn, ht, -⟩ := has1_iff.1 h1
  obtain ⟨m, u, hm, hu, -⟩ := has1_iff.1 h2
  have := (List.getElem?_eq_some_iff.1 ht).1
  have := (List.getElem?_eq_some_iff.1 hu).1
  omega
theorem edge_in {ts : List GTxn} {L : FaL} {e : GEdge} (h : e ∈ edgeL ts L) : (0 ≤ e.f ∧ e.f < ts.length) ∧ (0 ≤ e.t ∧ e.t < ts.length) ∧ (e.k = 1 ∨ e.k = 2 ∨ e.k = 3) ∧ e.f ≠ e.t := by
  rcases edge_mem.1 h with ⟨r, hr, h0, h1, rfl⟩ | ⟨i, t, o, r, ht, hd, ho, hr, h1, h2, h3, rfl⟩ | ⟨p, hp, a, b, h1, h2, h3, ⟨h4, rfl⟩ | ⟨r, hr, h5, h6, h7, rfl⟩⟩
  · have := rd_by hr; exact ⟨by simp only; omega, by simp only; omega, .inr (.inl rfl), h1⟩
  · have := rd_by hr
    have := (List.getElem?_eq_some_iff.1 ht).1
    exact ⟨by simp only; omega, by simp only; omega, .inr (.inr rfl), h3⟩
  · have := hasM_in h2
    exact ⟨by simp only; omega, by simp only; omega, .inl rfl, h4⟩
  · have := hasM_in h2
    have := rd_by hr
    exact ⟨by simp only; omega, by simp only; omega, .inr (.inr rfl), h7⟩

/-- How many edges there can be. -/
def allE (n : Nat) : List GEdge := (List.range n).flatMap (fun a : Nat => (List.range n).flatMap (fun b : Nat => [⟨(a : Int), (b : Int), 1⟩, ⟨(a : Int), (b : Int), 2⟩, ⟨(a : Int), (b : Int), 3⟩]))
theorem sum_len {α : Type} (g : Nat → List α) (c : Nat) (h : ∀ i, (g i).length = c) (n : Nat) : ((List.range n).flatMap g).length = n * c := by
  induction n with
  | zero => simp
  | succ n ih => rw [List.range_succ, List.flatMap_append, List.length_append, ih, Nat.add_mul, Nat.one_mul]; simp [h]
theorem allE_len (n : Nat) : (allE n).length = n * (n * 3) := by
  unfold allE
  exact sum_len _ _ (fun a => sum_len _ 3 (fun b => rfl) n) n
theorem allE_mem {n : Nat} {e : GEdge} (h1 : 0 ≤ e.f ∧ e.f < n) (h2 : 0 ≤ e.t ∧ e.t < n) (h3 : e.k = 1 ∨ e.k = 2 ∨ e.k = 3) : e ∈ allE n := by
  obtain ⟨f, t, k⟩ := e
  simp only at h1 h2 h3
  unfold allE
  obtain ⟨f', rfl⟩ : ∃ m : Nat, f = m := ⟨f.toNat, by omega⟩
  obtain ⟨t', rfl⟩ : ∃ m : Nat, t = m := ⟨t.toNat, by omega⟩
  refine List.mem_flatMap.2 ⟨f', List.mem_range.2 (by omega), List.mem_flatMap.2 ⟨t', List.mem_range.2 (by omega), ?_⟩⟩
  rcases h3 with rfl | rfl | rfl <;> simp
theorem ltE_nodup {l : List GEdge} (h : l.Pairwise ltE) : l.Nodup := h.imp fun h e => by subst e; exact ltE_irr _ h
theorem edges_in {ts : List GTxn} {L : FaL} {l : List GEdge} (h : EdgesOf ts L l) : InN ts.length l := fun e he => by
  have := edge_in ((h.2 e).1 he)
  exact ⟨this.1, this.2.1⟩
theorem edges_len {ts : List GTxn} {L : FaL} {l : List GEdge} (h : EdgesOf ts L l) : l.length ≤ ts.length * (ts.length * 3) := by
  rw [← allE_len]
  refine nodup_len l _ (ltE_nodup h.1) (fun e he => ?_)
  have := edge_in ((h.2 e).1 he)
  exact allE_mem this.1 this.2.1 this.2.2.1
theorem lift1_len (es : List GEdge) (level : Int) (e : GEdge) (n : Nat) (hs : es.Pairwise ltE) (hi : InN n es) : (lift1 es level e).length ≤ 1 + n := by
  unfold lift1
  rw [List.length_append]
  have h1 : (if level ≠ 1 ∨ e.k ≠ 3 then [(e.f, e.t)] else []).length ≤ 1 := by split <;> simp
  have h2 : (if level ≠ 1 ∨ e.k = 3 then [] else es.flatMap (fun g => if g.k = 3 ∧ g.f = e.t then [(e.f, g.t)] else [])).length ≤ n := by
    split
    · simp
    · have e1 : es.flatMap (fun g => if g.k = 3 ∧ g.f = e.t then [(e.f, g.t)] else []) = (es.filter (fun g => decide (g.k = 3 ∧ g.f = e.t))).map (fun g => (e.f, g.t)) := by
        clear hs hi
        induction es with
        | nil => rfl
        | cons x es ih =>
          rw [List.flatMap_cons, ih, List.filter_cons]
          by_cases hc : x.k = 3 ∧ x.f = e.t
          · rw [if_pos hc, if_pos (decide_eq_true hc)]; rfl
          · rw [if_neg hc, if_neg (by simp [hc])]; rfl
      rw [e1, List.length_map]
      have hp := (hs.filter (fun g => decide (g.k = 3 ∧ g.f = e.t)))
      have hl := nodup_len ((es.filter (fun g => decide (g.k = 3 ∧ g.f = e.t))).map (·.t)) ((List.range n).map (fun i : Nat => (i : Int))) ?_ ?_
      · simpa using hl
      · rw [List.nodup_iff_pairwise_ne, List.pairwise_map]
        refine List.Pairwise.imp_of_mem ?_ hp
        intro a b ha hb hab
        have h3 := (List.mem_filter.1 ha).2
        have h4 := (List.mem_filter.1 hb).2
        simp only [decide_eq_true_eq] at h3 h4
        unfold ltE at hab
        omega
      · intro x hx
        obtain ⟨g, hg, rfl⟩ := List.mem_map.1 hx
        have := hi g (List.mem_filter.1 hg).1
        exact List.mem_map.2 ⟨g.t.toNat, List.mem_range.2 (by omega), by omega⟩
  omega
theorem lift_len {ts : List GTxn} {L : FaL} {l : List GEdge} (h : EdgesOf ts L l) (level : Int) (hn : ts.length ≤ 60) : l.length ≤ 1000000 ∧ (liftL l level).length ≤ 1000000 := by
  have h1 := edges_len h
  have h2 : ∀ m : List GEdge, (m.flatMap (lift1 l level)).length ≤ m.length * (1 + ts.length) := fun m => by
    induction m with
    | nil => simp
    | cons x m ih =>
      have := lift1_len l level x ts.length h.1 (edges_in h)
      rw [List.flatMap_cons, List.length_append, List.length_cons, Nat.add_mul, Nat.one_mul]; omega
  have h3 := h2 l
  have h4 : ts.length * 3 ≤ 180 := by omega
  have h5 := Nat.mul_le_mul hn h4
  have h6 := Nat.mul_le_mul (Nat.le_trans h1 h5) (show 1 + ts.length ≤ 61 by omega)
  unfold liftL
  omega
end Go.Proofs.YtnacoplokjdglaaGreat

namespace Go.Proofs.YtnacoplokjdglaaGreat
open Go.RowKit Go.Maps
attribute [local go_sem] Oper.semAt_some

theorem OwA.rd {base : Nat} {w : World} {v : Value} {l : List (Int × Int)} (h : OwA base w v l) : RdArcs w v l := by
  have h1 : RdS 2 (fun _ cs x => cs = arcV x) w v l := rds_of_own (V := arcV) (fun _ => rfl) h
  exact h1
def BrokenQN (ts : List GTxn) (L : FaL) (level : Int) (w : World) (e : Ending) (w' : World) : Prop :=
  ∃ v' l C, e = .returned v' ∧ EdgesOf ts L l ∧ w'.ownsRow w.heap.size 3 1 v' C.length ((C.map natI).flatMap viC) ∧ CycI (nextT (sizeM ts.length) (liftL l level)) (sizeM ts.length) C ∧ (C = [] → v' = .slice none 0 0) ∧ Below w.heap.size w w'
/-- How large a history may be. -/
structure SmallH (ts : List GTxn) (L : FaL) (c : Nat) : Prop where
  len : ts.length ≤ 60
  ops : ∀ t ∈ ts, t.ops.length ≤ c
  room : ts.length * c ≤ 100000000 ∧ ts.length * c + ts.length * (16 * (ts.length * c)) + L.length * (1 + ts.length * c) ≤ 800000000

set_option maxRecDepth 100000 in
set_option maxHeartbeats 4000000 in
theorem broken_callN (v mv : Value) (ts : List GTxn) (L : FaL) (c : Nat) (level : Int) (w : World) (hv : RdTxns w v ts) (hok : OkTxns ts) (hm : FaV w mv L) (hs : SmallH ts L c) :
    Calls Tryz.prog 52 #[v, mv, vi level] w (BrokenQN ts L level w) := by
  have HV := Lib.hid hv
  have HM := Lib.hid hm
  have HOK := Lib.hid hok
  have HS := Lib.hid hs
  obtain ⟨ta, nt, tc, rfl, rfl, hmm, -⟩ := hv.at
  clear hv hm hok hs
  go_enter Tryz.func52, Tryz.ntmps52
  go_wp2_with (first
    | (go_at_call 77; refine (edges_call _ mv ts L c w HV.out HOK.out (by have := HS.out.len; omega) HM.out HS.out.ops HS.out.room).mono ?_; rintro e1 w1 ⟨v1, l, rfl, ho1, he1, hb1⟩; have HO1 := Lib.hid ho1; have HE1 := Lib.hid he1; have HB1 := Lib.hid hb1; have HLL := Lib.hid (lift_len he1 level HS.out.len); clear ho1 he1 hb1)
    | (go_at_call 76; refine (lift_call v1 l level w1 HO1.out.rd HLL.out.1 (Nat.le_trans HLL.out.2 (by omega))).mono ?_; rintro e2 w2 ⟨v2, rfl, ho2, hb2⟩; have HO2 := Lib.hid ho2; have HB2 := Lib.hid (HB1.out.trans (hb2.mono HB1.out.size)); clear ho2 hb2)
    | (go_at_call 75; refine (cycle_callN (ts.length : Int) (liftL l level) v2 w2 HO2.out.rd HLL.out.2).mono ?_; rintro e3 w3 ⟨v3, C, rfl, ho3, hc3, hn3, hb3⟩; have HO3 := Lib.hid ho3; have HC3 := Lib.hid hc3; have HN3 := Lib.hid hn3; have HB3 := Lib.hid hb3; clear ho3 hc3 hn3 hb3))
  go_ret
  exact ⟨v3, l, C, rfl, HE1.out, own_mono HO3.out HB2.out.size, HC3.out, HN3.out, HB2.out.trans (HB3.out.mono HB2.out.size)⟩
def skewT : List GTxn := [⟨1, 1, [⟨1, 0, 0⟩, ⟨2, 1, 1⟩]⟩, ⟨2, 1, [⟨1, 1, 0⟩, ⟨2, 0, 2⟩]⟩]
def skewE : List GEdge := [⟨0, 1, 3⟩, ⟨1, 0, 3⟩]
end Go.Proofs.YtnacoplokjdglaaGreat

namespace Go.Proofs.YtnacoplokjdglaaGreat
open Go.RowKit Go.Maps
attribute [local go_sem] Oper.semAt_some

theorem arcT_iff {n : Nat} {arcs : List (Int × Int)} {u v : Nat} : ArcT (nextT n arcs) u v ↔ ((u : Int), (v : Int)) ∈ arcs ∧ u < n ∧ v < n := by
  constructor
  · rintro ⟨l, h1, h2⟩
    have hu : u < n := by have := (List.getElem?_eq_some_iff.1 h1).1; rwa [nextT_len] at this
    rw [nextT_at hu] at h1
    cases h1
    have := rawRow_mem.1 ((sortC_mem _ _).1 h2)
    exact ⟨this.1, hu, by omega⟩
  · rintro ⟨h1, hu, hv⟩
    exact ⟨_, nextT_at hu, (sortC_mem _ _).2 (rawRow_mem.2 ⟨h1, hu, by omega, by omega⟩)⟩
end Go.Proofs.YtnacoplokjdglaaGreat

namespace Go.Proofs.YtnacoplokjdglaaGreat
open Go.RowKit Go.Maps
attribute [local go_sem] Oper.semAt_some

def finB (key val : Int) (o : GOp) : Bool := o.key == key && o.val == val
def finalB (t : GTxn) (key val : Int) : Bool := (writesM t.ops).any (finB key val)
/-- What is wrong with a read. -/
def flawK (ts : List GTxn) (i : Nat) (o : GOp) : Int :=
  if o.val = 0 then 0 else if writerM ts o.key o.val < 0 ∨ writerM ts o.key o.val = i then 1
  else match ts[(writerM ts o.key o.val).toNat]? with
    | none => 1
    | some t => if t.state = 2 then 2 else if finalB t o.key o.val then 0 else 3
def flaw1 (ts : List GTxn) (i : Nat) (p : GOp × Nat) : List (Int × Int × Int) := if 0 < flawK ts i p.1 then [((i : Int), (p.2 : Int), flawK ts i p.1)] else []
def flawT (ts : List GTxn) (p : GTxn × Nat) : List (Int × Int × Int) := (readsM p.1).zipIdx.flatMap (flaw1 ts p.2)
def flawsM (ts : List GTxn) : List (Int × Int × Int) := ts.zipIdx.flatMap (flawT ts)

theorem rows_kept {N e k n N' e' k' m : Nat} {w w' : World} {v u : Value} {xs ys : List Value} (h : w.ownsRow N e k v n xs) (ho : w.ownsRow N' e' k' u m ys) (hne : e ≠ e') (hg : w.grownBy w' u.ownBlock) : w'.ownsRow N e k v n xs :=
  h.kept hg (by
    cases hv : v.ownBlock with
    | none => exact .inl rfl
    | some g =>
      refine .inr (fun e1 => ?_)
      rcases ho.2 with ⟨h1, _⟩ | ⟨g', cap, cur, h1, _, hh, _⟩
      · rw [h1] at e1; cases e1
      · rw [h1] at e1
        have e2 : g = g' := by simpa [Value.ownBlock] using e1
        subst e2
        exact rowNe h hh hne g hv rfl)

def flV (x : Int × Int × Int) : List Value := [vi x.1, vi x.2.1, vi x.2.2]
theorem flV_one (x : Int × Int × Int) : ∀ u ∈ flV x, u.oneCell' = true := by
  intro u hu; simp [flV] at hu; rcases hu with rfl | rfl | rfl <;> rfl
theorem flaw1_len (ts : List GTxn) (i : Nat) (p : GOp × Nat) : (flaw1 ts i p).length ≤ 1 := by unfold flaw1; split <;> simp
theorem zip_take {α : Type} {l : List α} {k : Nat} {x : α} (h : l[k]? = some x) : (l.take (k + 1)).zipIdx = (l.take k).zipIdx ++ [(x, k)] := by
  rw [take_at h, List.zipIdx_append]
  have : (l.take k).length = k := by
    have := (List.getElem?_eq_some_iff.1 h).1
    simp; omega
  simp [this]
end Go.Proofs.YtnacoplokjdglaaGreat

namespace Go.Proofs.YtnacoplokjdglaaGreat
open Go.RowKit Go.Maps

theorem flat_set : ∀ (L : TxL) (k i : Nat) (u : Value) (p p' : GTxn × Value), L[k]? = some p → i < 3 → (txV p).set i u = txV p' → (L.flatMap txV).set (k * 3 + i) u = (L.set k p').flatMap txV := by
  intro L
  induction L with
  | nil => intro k i u p p' h; simp at h
  | cons q L ih =>
    intro k i u p p' h hi hs
    rw [List.flatMap_cons]
    cases k with
    | zero =>
      simp at h; subst h
      rw [List.set_append]
      rw [if_pos (by rw [txV_length]; omega), List.set_cons_zero, List.flatMap_cons, Nat.zero_mul, Nat.zero_add, hs]
    | succ k =>
      rw [List.set_append, if_neg (by rw [txV_length]; omega), txV_length, List.set_cons_succ, List.flatMap_cons]
      rw [show (k + 1) * 3 + i - 3 = k * 3 + i by omega, ih k i u p p' (by simpa using h) hi hs]

theorem OfS.out_shape {w A : World} {vo vf : Value} {L : TxL} {F : List Nat} (h : OfS w vo vf L F A) (h0 : 0 < L.length) : ∃ g cap, vo = .slice (some ⟨g, 0, none⟩) L.length cap := by
  rcases h.out.2 with ⟨_, h2⟩ | ⟨g, cap, _, hv, _⟩
  · omega
  · exact ⟨g, cap, hv⟩
theorem txV_at (L : TxL) {k i : Nat} {p : GTxn × Value} {u : Value} (hk : L[k]? = some p) (hu : (txV p)[i]? = some u) : (L.flatMap txV)[k * 3 + i]? = some u := flat_at txV_length L k i p u hk hu
theorem OfS.out_at {w A : World} {vf : Value} {L : TxL} {F : List Nat} {g n cap : Nat} (h : OfS w (.slice (some ⟨g, 0, none⟩) n cap) vf L F A) {k : Nat} {p : GTxn × Value} (hp : L[k]? = some p) {i : Nat} {u : Value} (hu : (txV p)[i]? = some u) : A.cell? ⟨g, k * 3 + i, none⟩ = some u := by
  have := World.ownsRow.cells h.out (g := g) rfl (k * 3 + i) u (txV_at L hp hu)
  rw [addr_add] at this
  simpa using this
theorem OfS.out_free {w A : World} {vf : Value} {L : TxL} {F : List Nat} {g n cap : Nat} (h : OfS w (.slice (some ⟨g, 0, none⟩) n cap) vf L F A) (hn : n = L.length) (j : Nat) : A.frozen? ⟨g, j, none⟩ = false := by
  subst hn; exact World.ownsRow.frozenAt h.out j
/-- A cell of a transaction is written. -/
theorem OfS.set {w A : World} {vf : Value} {L : TxL} {F : List Nat} {g n cap : Nat} (h : OfS w (.slice (some ⟨g, 0, none⟩) n cap) vf L F A) (hn : n = L.length) {k i : Nat} {p p' : GTxn × Value} {u : Value} (hp : L[k]? = some p) (hi : i < 3) (hs : (txV p).set i u = txV p') (ho : OwOps w.heap.size A p'.2 p'.1.ops) :
    OfS w (.slice (some ⟨g, 0, none⟩) n cap) vf (L.set k p') F (A.setCell ⟨g, k * 3 + i, none⟩ u) := by
  subst hn
  obtain ⟨h1, h2⟩ := World.ownsRow.stored h.out (k * 3 + i) u
  rw [flat_set L k i u p p' hp hi hs] at h1
  refine h.wrote (vo' := .slice (some ⟨g, 0, none⟩) L.length cap) h2 (by simpa using h1) fun q hq => ?_
  rcases List.mem_or_eq_of_mem_set hq with hq | rfl
  · exact h.ops q hq
  · exact ho
/-- A transaction is appended. -/
theorem OfS.push {w A B : World} {vo vo' vf : Value} {L : TxL} {F : List Nat} {p : GTxn × Value} (h : OfS w vo vf L F A) (hg : A.grownBy B vo.ownBlock) (ho : B.ownsRow w.heap.size 49 3 vo' (L.length + 1) (L.flatMap txV ++ txV p)) (hp : OwOps w.heap.size A p.2 p.1.ops) : OfS w vo' vf (L ++ [p]) F B := by
  refine h.wrote hg (by simpa using ho) fun q hq => ?_
  rw [List.mem_append] at hq
  rcases hq with hq | hq
  · exact h.ops q hq
  · simp at hq; subst hq; exact hp
theorem txV_one {p : GTxn × Value} {a : Option Addr} {n c : Nat} (h : p.2 = .slice a n c) : ∀ u ∈ txV p, u.oneCell' = true := by
  intro u hu
  simp [txV, h] at hu
  rcases hu with rfl | rfl | rfl <;> rfl

end Go.Proofs.YtnacoplokjdglaaGreat

namespace Go.Proofs.YtnacoplokjdglaaGreat
open Go.RowKit Go.Maps

def allC (n : Nat) : List GChoice := (List.range n).map (fun i : Nat => (⟨1, 0, (i : Int), 0⟩ : GChoice)) ++ (List.range 16).flatMap (fun k : Nat => (List.range n).flatMap (fun a : Nat => (List.range n).map (fun b : Nat => (⟨2, (k : Int), (a : Int), (b : Int)⟩ : GChoice))))
theorem allC_len (n : Nat) : (allC n).length = n + 16 * (n * n) := by
  unfold allC
  rw [List.length_append, sum_len _ (n * n) (fun k => sum_len _ n (fun a => by simp) n)]
  simp
theorem allC_mem {n : Nat} {c : GChoice} (h : OkCh n c) : c ∈ allC n := by
  obtain ⟨k, y, a, b⟩ := c
  have h1 := h.key; have h2 := h.a; have h3 := h.b; have h4 := h.kind
  simp only at h1 h2 h3 h4
  obtain ⟨y', rfl⟩ : ∃ m : Nat, y = m := ⟨y.toNat, by omega⟩
  obtain ⟨a', rfl⟩ : ∃ m : Nat, a = m := ⟨a.toNat, by omega⟩
  obtain ⟨b', rfl⟩ : ∃ m : Nat, b = m := ⟨b.toNat, by omega⟩
  unfold allC
  rcases h4 with ⟨rfl, h5, h6⟩ | ⟨rfl, h5⟩
  · refine List.mem_append_left _ (List.mem_map.2 ⟨a', List.mem_range.2 (by omega), ?_⟩)
    rw [h5, h6]
  · exact List.mem_append_right _ (List.mem_flatMap.2 ⟨y', List.mem_range.2 (by omega), List.mem_flatMap.2 ⟨a', List.mem_range.2 (by omega), List.mem_map.2 ⟨b', List.mem_range.2 (by omega), rfl⟩⟩⟩)
theorem choices_small (ts : List GTxn) : (choicesM ts).length ≤ ts.length + 16 * (ts.length * ts.length) := by
  rw [← allC_len]
  exact nodup_len _ _ (choicesM_nodup ts) (fun c hc => allC_mem (choicesM_ok hc))
theorem small_good {ts : List GTxn} {L : FaL} (h : GoodTs ts) (hL : L.length ≤ (choicesM ts).length + 1) : SmallH ts L 12 := by
  have h1 := h.len
  have h2 := choices_small ts
  have h3 := Nat.mul_le_mul h1 h1
  have h4 : L.length ≤ 57661 := by omega
  have h5 : ts.length * 12 ≤ 720 := by omega
  refine ⟨h1, fun t ht => (h.txn t ht).2.2, by omega, ?_⟩
  have h6 := Nat.mul_le_mul h1 (Nat.mul_le_mul_left 16 h5)
  have h7 := Nat.mul_le_mul h4 (Nat.add_le_add_left h5 1)
  omega
/-- Facts that name choices of a history, each once. -/
structure FaOk (ts : List GTxn) (L : FaL) : Prop where
  mem : ∀ p ∈ L, p.1 ∈ choicesM ts
  nd : (L.map (·.1)).Nodup
theorem FaOk.len {ts : List GTxn} {L : FaL} (h : FaOk ts L) : L.length ≤ (choicesM ts).length := by
  have := nodup_len (L.map (·.1)) (choicesM ts) h.nd (fun x hx => by obtain ⟨p, hp, rfl⟩ := List.mem_map.1 hx; exact h.mem p hp)
  simpa using this
theorem FaOk.pw {ts : List GTxn} {L : FaL} (h : FaOk ts L) : L.Pairwise (fun p q => p.1 ≠ q.1) := by
  have := h.nd
  rw [List.nodup_iff_pairwise_ne, List.pairwise_map] at this
  exact this
end Go.Proofs.YtnacoplokjdglaaGreat

namespace Go.Proofs.YtnacoplokjdglaaGreat
open Go.RowKit Go.Maps

theorem Way.map {α β : Type} {r : α → α → Prop} {s : β → β → Prop} (f : α → β) (h : ∀ a b, r a b → s (f a) (f b)) {a b : α} (hw : Way r a b) : Way s (f a) (f b) := by
  induction hw with
  | one h1 => exact .one (h _ _ h1)
  | more h1 _ ih => exact .more (h _ _ h1) ih
theorem Rounds.map {α β : Type} {r : α → α → Prop} {s : β → β → Prop} (f : α → β) (h : ∀ a b, r a b → s (f a) (f b)) (hr : Rounds r) : Rounds s := by
  obtain ⟨a, hw⟩ := hr
  exact ⟨f a, hw.map f h⟩
theorem rounds_arcK {n : Nat} {l : List GEdge} (level : Int) (h : InN n l) : Rounds (ArcT (nextT n (liftL l level))) ↔ Rounds (ArcK l (level == 1)) := by
  constructor
  · exact Rounds.map (fun u : Nat => (u : Int)) (fun a b hab => (lift_mem l level _ _).1 (arcT_iff.1 hab).1)
  · refine Rounds.map Int.toNat (fun a b hab => ?_)
    have := (arcN_iff h level a b).2 hab
    obtain ⟨h1, h2, h3⟩ := this
    refine arcT_iff.2 ⟨?_, by omega, by omega⟩
    rw [show ((a.toNat : Nat) : Int) = a by omega, show ((b.toNat : Nat) : Int) = b by omega]
    exact h1
/-- The facts say a cycle that the level forbids. -/
def Brk (ts : List GTxn) (L : FaL) (level : Int) : Prop := ∃ l, EdgesOf ts L l ∧ Rounds (ArcK l (level == 1))
theorem brk_cyc {ts : List GTxn} {L : FaL} {level : Int} {l : List GEdge} {C : List Nat} (hn : ts.length ≤ 60) (he : EdgesOf ts L l) (hc : CycI (nextT (sizeM ts.length) (liftL l level)) (sizeM ts.length) C) : 0 < C.length ↔ Brk ts L level := by
  have hs : sizeM ts.length = ts.length := by unfold sizeM; rw [if_neg (by omega), if_neg (by omega)]; omega
  rw [hs] at hc
  have hl : (nextT ts.length (liftL l level)).length = ts.length := nextT_len _ _
  have hc' : CycI (nextT ts.length (liftL l level)) (nextT ts.length (liftL l level)).length C := by rw [hl]; exact hc
  have h1 := hc'.rounds
  rw [rounds_arcK level (edges_in he)] at h1
  constructor
  · intro h
    refine ⟨l, he, Classical.byContradiction fun hr => ?_⟩
    rw [h1.2 hr] at h
    simp at h
  · rintro ⟨l', he', hr⟩
    have : l' = l := edges_ext he'.1 he.1 (fun p => (he'.2 p).trans (he.2 p).symm)
    subst this
    rcases Nat.eq_zero_or_pos C.length with h0 | h0
    · exact absurd hr (h1.1 (List.length_eq_zero_iff.1 h0))
    · exact h0
/-- More facts: whoever is done stays done, each edge stays. -/
theorem dn_more {ts : List GTxn} {L H : FaL} (h : ∀ c b, getM L c = some b → getM H c = some b) (i : Nat) (hd : dnM ts L i = true) : dnM ts H i = true := by
  unfold dnM isM at *
  split at hd
  · rename_i hs; rw [if_pos hs]
  · rename_i hs
    rw [if_neg hs]
    split at hd
    · cases hd
    · rename_i h2
      rw [if_neg h2]
      simp only at hd ⊢
      cases hg : getM L ⟨1, 0, i, 0⟩ with
      | none => rw [hg] at hd; cases hd
      | some b => rw [h _ _ hg]; rw [hg] at hd; exact hd
theorem edge_more {ts : List GTxn} {L H : FaL} (hp : L.Pairwise (fun p q => p.1 ≠ q.1)) (h : ∀ c b, getM L c = some b → getM H c = some b) (e : GEdge) (he : e ∈ edgeL ts L) : e ∈ edgeL ts H := by
  have hr : ∀ r, r ∈ rdsL ts (dnM ts L) → r ∈ rdsL ts (dnM ts H) := fun r hr => by
    obtain ⟨i, t, o, h1, h2, h3, h4, h5⟩ := rds_mem.1 hr
    exact rds_mem.2 ⟨i, t, o, h1, h2, h3, h4.imp_right (dn_more h _), h5⟩
  have hm : ∀ c, hasM ts (dnM ts L) c = true → hasM ts (dnM ts H) c = true := fun c hc => by
    unfold hasM at *
    rw [Bool.and_eq_true, has1_iff, has1_iff] at *
    obtain ⟨⟨n, t, h1, h2, h3, h4⟩, ⟨m, u, h5, h6, h7, h8⟩⟩ := hc
    exact ⟨⟨n, t, h1, h2, dn_more h _ h3, h4⟩, ⟨m, u, h5, h6, dn_more h _ h7, h8⟩⟩
  rcases edge_mem.1 he with ⟨r, h1, h2, h3, h4⟩ | ⟨i, t, o, r, h1, h2, h3, h4, h5⟩ | ⟨p, h1, a, b, h2, h3, h4, h5⟩
  · exact edge_mem.2 (.inl ⟨r, hr r h1, h2, h3, h4⟩)
  · exact edge_mem.2 (.inr (.inl ⟨i, t, o, r, h1, dn_more h _ h2, h3, hr r h4, h5⟩))
  · refine edge_mem.2 (.inr (.inr ⟨p, getM_some (h _ _ (getM_of_mem hp h1)), a, b, h2, hm _ h3, h4, h5.imp_right ?_⟩))
    rintro ⟨r, h6, h7⟩
    exact ⟨r, hr r h6, h7⟩

end Go.Proofs.YtnacoplokjdglaaGreat

namespace Go.Proofs.YtnacoplokjdglaaGreat
open Go.RowKit Go.Maps

theorem countP_one {α : Type} [DecidableEq α] {p q : α → Bool} {c : α} (hq : ∀ d, q d = (decide (c = d) || p d)) (hp : p c = false) : ∀ {C : List α}, C.Nodup → (c ∈ C → C.countP q = C.countP p + 1) ∧ (c ∉ C → C.countP q = C.countP p)
  | [], _ => ⟨fun h => by simp at h, fun _ => rfl⟩
  | d :: C, hn => by
    rw [List.nodup_cons] at hn
    have ih := countP_one hq hp hn.2
    refine ⟨fun h => ?_, fun h => ?_⟩
    · by_cases hd : c = d
      · subst hd
        rw [List.countP_cons, List.countP_cons, (ih).2 hn.1, hq c, hp]
        simp
      · have hc : c ∈ C := by
          rcases List.mem_cons.1 h with h | h
          · exact absurd h hd
          · exact h
        rw [List.countP_cons, List.countP_cons, ih.1 hc, hq d]
        simp [hd]; omega
    · have h1 : c ≠ d := fun e => h (by rw [e]; exact List.mem_cons_self)
      have h2 : c ∉ C := fun e => h (List.mem_cons_of_mem _ e)
      rw [List.countP_cons, List.countP_cons, ih.2 h2, hq d]
      simp [h1]
theorem countP_lt {α : Type} {p : α → Bool} {c : α} {C : List α} (hc : c ∈ C) (hp : p c = false) : C.countP p < C.length := by
  rcases Nat.lt_or_ge (C.countP p) C.length with h | h
  · exact h
  · have := List.countP_eq_length.1 (Nat.le_antisymm List.countP_le_length h) c hc
    rw [hp] at this; cases this

/-- How many of a history's choices are said. -/
def saidN (ts : List GTxn) (L : FaL) : Nat := (choicesM ts).countP (fun c => (getM L c).isSome)
theorem nextM_some {ts : List GTxn} {L : FaL} {c : GChoice} (h : nextM ts L = some c) : c ∈ choicesM ts ∧ getM L c = none := by
  unfold nextM at h
  refine ⟨List.mem_of_find?_eq_some h, ?_⟩
  have h1 := List.find?_some h
  unfold openC at h1
  cases hg : getM L c with
  | none => rfl
  | some b => rw [hg] at h1; simp at h1
theorem said_next {ts : List GTxn} {L H : FaL} {c : GChoice} {so : Bool} (h : nextM ts L = some c) (hH : ∀ d, getM H d = if c = d then some so else getM L d) : saidN ts H = saidN ts L + 1 ∧ saidN ts L < (choicesM ts).length := by
  obtain ⟨h1, h2⟩ := nextM_some h
  refine ⟨(countP_one (c := c) (fun d => ?_) (by rw [h2]; rfl) (choicesM_nodup ts)).1 h1, countP_lt h1 (by rw [h2]; rfl)⟩
  rw [hH d]
  by_cases hd : c = d <;> simp [hd]
theorem said_nil (ts : List GTxn) : saidN ts [] = 0 := by
  unfold saidN
  rw [List.countP_eq_zero]
  intro c _
  simp [getM_nil]
end Go.Proofs.YtnacoplokjdglaaGreat

namespace Go.Proofs.YtnacoplokjdglaaGreat
open Go.RowKit Go.Maps
/-- The same facts, each choice once. -/
structure SameF (L H : FaL) : Prop where
  get : ∀ c, getM L c = getM H c
  len : H.length = L.length
theorem SameF.refl (L : FaL) : SameF L L := ⟨fun _ => rfl, rfl⟩
theorem isM_same {ts : List GTxn} {L H : FaL} (h : ∀ c, getM L c = getM H c) (i : Nat) : isM ts L i = isM ts H i := by unfold isM; rw [h]
theorem openC_same {ts : List GTxn} {L H : FaL} (h : ∀ c, getM L c = getM H c) (c : GChoice) : openC ts L c = openC ts H c := by
  unfold openC; rw [h, isM_same h, isM_same h]
theorem nextM_same {ts : List GTxn} {L H : FaL} (h : ∀ c, getM L c = getM H c) : nextM ts L = nextM ts H := by
  unfold nextM
  rw [show openC ts L = openC ts H from funext (openC_same h)]
theorem edges_same {ts : List GTxn} {L H : FaL} (hL : L.Pairwise (fun p q => p.1 ≠ q.1)) (hH : H.Pairwise (fun p q => p.1 ≠ q.1)) (h : ∀ c, getM L c = getM H c) {l : List GEdge} (he : EdgesOf ts H l) : EdgesOf ts L l :=
  ⟨he.1, fun e => (he.2 e).trans ⟨fun h1 => edge_more hH (fun c b hb => by rw [h]; exact hb) e h1, fun h1 => edge_more hL (fun c b hb => by rw [← h]; exact hb) e h1⟩⟩
theorem brk_same {ts : List GTxn} {L H : FaL} (hL : L.Pairwise (fun p q => p.1 ≠ q.1)) (hH : H.Pairwise (fun p q => p.1 ≠ q.1)) (h : ∀ c, getM L c = getM H c) {level : Int} : Brk ts L level ↔ Brk ts H level :=
  ⟨fun ⟨l, h1, h2⟩ => ⟨l, edges_same hH hL (fun c => (h c).symm) h1, h2⟩, fun ⟨l, h1, h2⟩ => ⟨l, edges_same hL hH h h1, h2⟩⟩
/-- A cycle that some facts say; empty: none. -/
def NodeC (ts : List GTxn) (L : FaL) (level : Int) (C : List Nat) : Prop := ∃ l, EdgesOf ts L l ∧ CycI (nextT (sizeM ts.length) (liftL l level)) (sizeM ts.length) C
theorem NodeC.brk {ts : List GTxn} {L : FaL} {level : Int} {C : List Nat} (hn : ts.length ≤ 60) (h : NodeC ts L level C) : 0 < C.length ↔ Brk ts L level := by
  obtain ⟨l, h1, h2⟩ := h
  exact brk_cyc hn h1 h2
theorem NodeC.same {ts : List GTxn} {L H : FaL} (hL : L.Pairwise (fun p q => p.1 ≠ q.1)) (hH : H.Pairwise (fun p q => p.1 ≠ q.1)) (h : ∀ c, getM L c = getM H c) {level : Int} {C : List Nat} (hc : NodeC ts H level C) : NodeC ts L level C := by
  obtain ⟨l, h1, h2⟩ := hc
  exact ⟨l, edges_same hL hH h h1, h2⟩

/-- The search through all choices. -/
inductive WT where
  | bad (L : FaL)
  | good (L : FaL)
  | node (L : FaL) (a b : WT)
open Classical in
noncomputable def treeM (ts : List GTxn) (level : Int) : Nat → FaL → WT
  | 0, L => if Brk ts L level then .bad L else .good L
  | n + 1, L => if Brk ts L level then .bad L else match nextM ts L with
    | none => .good L
    | some c => .node L (treeM ts level n ((c, true) :: L)) (treeM ts level n ((c, false) :: L))
/-- Is there an answer? -/
def WT.res : WT → Bool
  | .bad _ => false
  | .good _ => true
  | .node _ a b => a.res || b.res
/-- The steps until there is one. -/
def WT.size : WT → Nat
  | .bad _ => 1
  | .good _ => 1
  | .node _ a b => 1 + a.size + (if a.res then 0 else b.size)
def WT.found : WT → Option FaL
  | .bad _ => none
  | .good L => some L
  | .node _ a b => a.found.or b.found
/-- The cycles of the steps. -/
def Nodes (ts : List GTxn) (level : Int) : WT → List (List Nat) → Prop
  | .bad L, l => ∃ C, l = [C] ∧ C ≠ [] ∧ NodeC ts L level C
  | .good _, l => l = [[]]
  | .node _ a b, l => ∃ l1 l2, Nodes ts level a l1 ∧ Nodes ts level b l2 ∧ l = [] :: (l1 ++ l2)
theorem WT.size_pos : ∀ t : WT, 1 ≤ t.size
  | .bad _ => Nat.le_refl _
  | .good _ => Nat.le_refl _
  | .node _ a b => by unfold WT.size; omega
theorem WT.found_res : ∀ t : WT, t.found.isSome = t.res
  | .bad _ => rfl
  | .good _ => rfl
  | .node _ a b => by
    unfold WT.found WT.res
    rw [← WT.found_res a, ← WT.found_res b]
    cases a.found <;> rfl
theorem Nodes.len {ts : List GTxn} {level : Int} : ∀ {t : WT} {l : List (List Nat)}, t.res = false → Nodes ts level t l → l.length = t.size
  | .bad _, l, _, h => by obtain ⟨C, rfl, _⟩ := h; rfl
  | .good _, l, h, _ => by simp [WT.res] at h
  | .node _ a b, l, hr, h => by
    obtain ⟨l1, l2, h1, h2, rfl⟩ := h
    simp only [WT.res, Bool.or_eq_false_iff] at hr
    have g1 := Nodes.len hr.1 h1
    have g2 := Nodes.len hr.2 h2
    simp [WT.size, hr.1, g1, g2]; omega

/-- How a search ends that begins behind s steps, with so many allowed: is there an answer; the steps; were they too few. -/
def endB (t : WT) (s B : Int) : Bool := decide (s + t.size ≤ B) && t.res
def endS (t : WT) (s B : Int) : Int := if s + t.size ≤ B then s + t.size else max s B
def endO (t : WT) (s B : Int) : Bool := decide (B < s + t.size)

theorem tree_fuel {ts : List GTxn} {level : Int} : ∀ {n : Nat} {L : FaL}, (choicesM ts).length ≤ saidN ts L + n → treeM ts level n L = treeM ts level (n + 1) L
  | 0, L, h => by
    unfold treeM
    split
    · rfl
    · cases hn : nextM ts L with
      | none => rfl
      | some c =>
        have := (said_next (so := true) (H := (c, true) :: L) hn (fun d => getM_cons _ _ _)).2
        omega
  | n + 1, L, h => by
    rw [treeM, treeM]
    split
    · rfl
    · cases hn : nextM ts L with
      | none => rfl
      | some c =>
        have g := fun so : Bool => (said_next (so := so) (H := (c, so) :: L) hn (fun d => getM_cons _ _ _)).1
        simp only
        rw [tree_fuel (n := n) (L := (c, true) :: L) (by rw [g]; omega), tree_fuel (n := n) (L := (c, false) :: L) (by rw [g]; omega)]
theorem treeM_bad {ts : List GTxn} {level : Int} {n : Nat} {L : FaL} (h : Brk ts L level) : treeM ts level n L = .bad L := by cases n <;> (rw [treeM, if_pos h])
theorem treeM_good {ts : List GTxn} {level : Int} {n : Nat} {L : FaL} (h : ¬ Brk ts L level) (hn : nextM ts L = none) : treeM ts level n L = .good L := by
  cases n with
  | zero => rw [treeM, if_neg h]
  | succ n => rw [treeM, if_neg h, hn]
theorem treeM_node {ts : List GTxn} {level : Int} {n : Nat} {L : FaL} {c : GChoice} (h : ¬ Brk ts L level) (hn : nextM ts L = some c) : treeM ts level (n + 1) L = .node L (treeM ts level n ((c, true) :: L)) (treeM ts level n ((c, false) :: L)) := by
  rw [treeM, if_neg h, hn]
/-- Facts that name choices stay such. -/
theorem FaOk.nil (ts : List GTxn) : FaOk ts [] := ⟨(fun p h => by cases h), List.nodup_nil⟩
theorem FaOk.next {ts : List GTxn} {L : FaL} (h : FaOk ts L) {c : GChoice} {so : Bool} (hn : nextM ts L = some c) : FaOk ts ((c, so) :: L) := by
  obtain ⟨h1, h2⟩ := nextM_some hn
  refine ⟨fun p hp => ?_, ?_⟩
  · rcases List.mem_cons.1 hp with rfl | hp
    · exact h1
    · exact h.mem p hp
  · rw [List.map_cons, List.nodup_cons]
    refine ⟨fun hm => ?_, h.nd⟩
    obtain ⟨p, hp, hpc⟩ := List.mem_map.1 hm
    exact getM_none.1 h2 p hp hpc

/-! What the search says of facts that say all. -/
/-- The facts that a way through all choices says. -/
noncomputable def leafM (ts : List GTxn) (σ : GChoice → Bool) : Nat → FaL → FaL
  | 0, L => L
  | n + 1, L => match nextM ts L with
    | none => L
    | some c => leafM ts σ n ((c, σ c) :: L)
theorem leaf_more {ts : List GTxn} {σ : GChoice → Bool} : ∀ {n : Nat} {L : FaL}, FaOk ts L → FaOk ts (leafM ts σ n L) ∧ ∀ c b, getM L c = some b → getM (leafM ts σ n L) c = some b
  | 0, L, h => ⟨h, fun _ _ h => h⟩
  | n + 1, L, h => by
    unfold leafM
    cases hn : nextM ts L with
    | none => exact ⟨h, fun _ _ h => h⟩
    | some c =>
      obtain ⟨h1, h2⟩ := leaf_more (σ := σ) (n := n) (h.next (so := σ c) hn)
      refine ⟨h1, fun d b hd => h2 d b ?_⟩
      rw [getM_cons]
      split
      · rename_i e
        simp only at e
        subst e
        rw [(nextM_some hn).2] at hd; cases hd
      · exact hd
/-- What is found says all, and is unbroken. -/
theorem tree_found {ts : List GTxn} {level : Int} : ∀ {n : Nat} {L F : FaL}, FaOk ts L → (choicesM ts).length ≤ saidN ts L + n → (treeM ts level n L).found = some F →
    FaOk ts F ∧ ¬ Brk ts F level ∧ nextM ts F = none ∧ (∀ c b, getM L c = some b → getM F c = some b) ∧ ∃ σ, leafM ts σ n L = F
  | 0, L, F, hL, hn, h => by
    rw [treeM] at h
    split at h
    · cases h
    · rename_i hb
      simp only [WT.found, Option.some.injEq] at h
      subst h
      refine ⟨hL, hb, ?_, fun _ _ h => h, fun _ => true, rfl⟩
      cases hx : nextM ts L with
      | none => rfl
      | some c =>
        have := (said_next (so := true) (H := (c, true) :: L) hx (fun d => getM_cons _ _ _)).2
        omega
  | n + 1, L, F, hL, hn, h => by
    rw [treeM] at h
    split at h
    · cases h
    · rename_i hb
      cases hx : nextM ts L with
      | none =>
        rw [hx] at h
        simp only [WT.found, Option.some.injEq] at h
        subst h
        exact ⟨hL, hb, hx, fun _ _ h => h, fun _ => true, by rw [leafM, hx]⟩
      | some c =>
        rw [hx] at h
        have g := fun so : Bool => (said_next (so := so) (H := (c, so) :: L) hx (fun d => getM_cons _ _ _)).1
        have up : ∀ so : Bool, ∀ d b, getM L d = some b → getM ((c, so) :: L) d = some b := fun so d b hd => by
          rw [getM_cons]
          split
          · rename_i e
            simp only at e
            subst e
            rw [(nextM_some hx).2] at hd; cases hd
          · exact hd
        simp only [WT.found, Option.or_eq_some_iff] at h
        have key : ∀ so : Bool, (treeM ts level n ((c, so) :: L)).found = some F → FaOk ts F ∧ ¬ Brk ts F level ∧ nextM ts F = none ∧ (∀ c b, getM L c = some b → getM F c = some b) ∧ ∃ σ, leafM ts σ (n + 1) L = F := fun so hf => by
          obtain ⟨h1, h2, h3, h4, σ, h5⟩ := tree_found (hL.next (so := so) hx) (by rw [g]; omega) hf
          refine ⟨h1, h2, h3, fun d b hd => h4 d b (up so d b hd), fun d => (getM F d).getD false, ?_⟩
          have hc : getM F c = some so := h4 c so (by rw [getM_cons, if_pos rfl])
          have gen : ∀ {n : Nat} {M : FaL}, FaOk ts M → leafM ts σ n M = F → leafM ts (fun d => (getM F d).getD false) n M = F := by
            intro n
            induction n with
            | zero => intro M _ h; exact h
            | succ n ih =>
              intro M hM h
              rw [leafM] at h ⊢
              cases hy : nextM ts M with
              | none => rw [hy] at h; exact h
              | some d =>
                rw [hy] at h
                have hd : getM F d = some (σ d) := by
                  have := (leaf_more (σ := σ) (n := n) (hM.next (so := σ d) hy)).2 d (σ d) (by rw [getM_cons, if_pos rfl])
                  simp only at h
                  rwa [h] at this
                simp only [hd, Option.getD_some]
                exact ih (hM.next hy) h
          rw [leafM, hx]
          simp only [hc, Option.getD_some]
          exact gen (hL.next hx) h5
        rcases h with h | ⟨_, h⟩
        · exact key true h
        · exact key false h
end Go.Proofs.YtnacoplokjdglaaGreat
