/- Texts of one proof, one behind the other: DpEdP, Head, DpBroken, DpHead, RdEv, DpRow, DpL1. -/
import Derived.Test.YtefpmcbpodlabaaJa5
import Derived.Test.YtefpmcbpodlabaaJa2
import Derived.Test.YtefpmcbpodlabaaJa3
import Derived.Test.YtefpmcbpodlabaaJa12
import Derived.Test.YtefpmcbpodlabaaJa1
import Derived.Deep.Strs
import Derived.Test.YtefpmcbpodlabaaJa6
set_option linter.all false
/- What the edges of a history are, plain: bounds. Names no function. -/
namespace Go.Proofs.Ytefpmcbpodlabaa
open Go.RowKit Go.Maps

theorem zip_mem {α : Type} {l : List α} {p : α × Nat} : p ∈ l.zipIdx ↔ l[p.2]? = some p.1 := by
  obtain ⟨x, i⟩ := p
  rw [List.mem_zipIdx_iff_getElem?]
theorem mem_addE {f t k : Int} {e : GEdge} : e ∈ addE f t k ↔ f ≠ t ∧ e = ⟨f, t, k⟩ := by
  unfold addE; split <;> simp_all
theorem rds_mem {ts : List GTxn} {dn : Nat → Bool} {r : GRd} : r ∈ rdsL ts dn ↔ ∃ (i : Nat) (t : GTxn) (o : GOp), ts[i]? = some t ∧ o ∈ readsM t ∧ (srcM ts o.key o.val).2 = true ∧ ((srcM ts o.key o.val).1 < 0 ∨ dn (srcM ts o.key o.val).1.toNat = true) ∧ r = ⟨i, (srcM ts o.key o.val).1, o.key⟩ := by
  unfold rdsL readsOf
  simp only [List.mem_flatMap]
  constructor
  · rintro ⟨p, hp, o, ho, hr⟩
    unfold readOf at hr
    split at hr
    · rename_i hc
      simp only [List.mem_singleton] at hr
      simp only [Bool.and_eq_true, Bool.not_eq_true', Bool.and_eq_false_iff, decide_eq_false_iff_not, Bool.not_eq_false'] at hc
      refine ⟨p.2, p.1, o, zip_mem.1 hp, ho, hc.1, ?_, hr⟩
      rcases hc.2 with h | h
      · exact .inl (by omega)
      · exact .inr h
    · simp at hr
  · rintro ⟨i, t, o, ht, ho, h1, h2, rfl⟩
    refine ⟨(t, i), zip_mem.2 ht, o, ho, ?_⟩
    unfold readOf
    rw [if_pos]
    · simp
    · simp only [Bool.and_eq_true, Bool.not_eq_true', Bool.and_eq_false_iff, decide_eq_false_iff_not, Bool.not_eq_false']
      refine ⟨h1, ?_⟩
      rcases h2 with h | h
      · exact .inl (by omega)
      · exact .inr h
theorem src_lt {ts : List GTxn} {key val : Int} (h : (srcM ts key val).2 = true) : (srcM ts key val).1 = -1 ∧ val = 0 ∨ ∃ n : Nat, (srcM ts key val).1 = n ∧ n < ts.length ∧ val ≠ 0 ∧ getM (byN ts ts.length) (key, val) = some (n : Int) := by
  unfold srcM at *
  split at h
  · rename_i h0
    rw [if_pos h0]; exact .inl ⟨rfl, h0⟩
  · rename_i h0
    rw [if_neg h0]
    cases hg : getM (byN ts ts.length) (key, val) with
    | none => rw [hg] at h; cases h
    | some z =>
      obtain ⟨i, rfl, hi⟩ := byN_lt ts _ z ts.length (Nat.le_refl _) hg
      exact .inr ⟨i, rfl, hi, h0, rfl⟩
theorem has1_iff {ts : List GTxn} {dn : Nat → Bool} {key i : Int} : has1 ts dn key i = true ↔ ∃ (n : Nat) (t : GTxn), i = n ∧ ts[n]? = some t ∧ dn n = true ∧ t.ops.any (wkB key) = true := by
  unfold has1
  constructor
  · intro h
    simp only [Bool.and_eq_true, decide_eq_true_eq] at h
    obtain ⟨⟨⟨h1, h2⟩, h3⟩, h4⟩ := h
    obtain ⟨n, rfl⟩ : ∃ n : Nat, i = n := ⟨i.toNat, by omega⟩
    rw [Int.toNat_natCast] at h3 h4
    obtain ⟨t, ht⟩ : ∃ t, ts[n]? = some t := ⟨_, List.getElem?_eq_getElem (by omega)⟩
    rw [ht] at h4
    exact ⟨n, t, rfl, ht, h3, h4⟩
  · rintro ⟨n, t, rfl, ht, h3, h4⟩
    have hn := (List.getElem?_eq_some_iff.1 ht).1
    rw [Int.toNat_natCast, ht, h3]
    have h1 : decide ((0 : Int) ≤ (n : Int)) = true := decide_eq_true (by omega)
    have h2 : decide ((n : Int) < (ts.length : Int)) = true := decide_eq_true (by omega)
    rw [h1, h2]; simpa using h4
theorem edge_mem {ts : List GTxn} {L : FaL} {e : GEdge} : e ∈ edgeL ts L ↔
    (∃ r ∈ rdsL ts (dnM ts L), 0 ≤ r.of_ ∧ r.of_ ≠ r.by_ ∧ e = ⟨r.of_, r.by_, 2⟩) ∨
    (∃ (i : Nat) (t : GTxn) (o : GOp) (r : GRd), ts[i]? = some t ∧ dnM ts L i = true ∧ o ∈ writesM t.ops ∧ r ∈ rdsL ts (dnM ts L) ∧ r.of_ < 0 ∧ r.key = o.key ∧ r.by_ ≠ i ∧ e = ⟨r.by_, i, 3⟩) ∨
    (∃ p ∈ L, ∃ a b : Int, p.1.kind = 2 ∧ hasM ts (dnM ts L) p.1 = true ∧ (p.2 = true ∧ a = p.1.a ∧ b = p.1.b ∨ p.2 = false ∧ a = p.1.b ∧ b = p.1.a) ∧
      (a ≠ b ∧ e = ⟨a, b, 1⟩ ∨ ∃ r ∈ rdsL ts (dnM ts L), r.of_ = a ∧ r.key = p.1.key ∧ r.by_ ≠ b ∧ e = ⟨r.by_, b, 3⟩)) := by
  unfold edgeL edge0
  rw [List.mem_append, List.mem_append, or_assoc]
  refine or_congr ?_ (or_congr ?_ ?_)
  · rw [List.mem_flatMap]
    constructor
    · rintro ⟨r, hr, he⟩
      unfold wrEdge at he
      split at he
      · rename_i h0
        obtain ⟨h1, h2⟩ := mem_addE.1 he
        exact ⟨r, hr, h0, h1, h2⟩
      · simp at he
    · rintro ⟨r, hr, h0, h1, h2⟩
      refine ⟨r, hr, ?_⟩
      unfold wrEdge; rw [if_pos h0]; exact mem_addE.2 ⟨h1, h2⟩
  · rw [List.mem_flatMap]
    constructor
    · rintro ⟨p, hp, he⟩
      unfold rwT at he
      split at he
      · rename_i hd
        obtain ⟨o, ho, he⟩ := List.mem_flatMap.1 he
        obtain ⟨r, hr, he⟩ := List.mem_flatMap.1 he
        unfold rwR at he
        split at he
        · rename_i hc
          obtain ⟨h1, h2⟩ := mem_addE.1 he
          exact ⟨p.2, p.1, o, r, zip_mem.1 hp, hd, ho, hr, hc.1, hc.2, h1, h2⟩
        · simp at he
      · simp at he
    · rintro ⟨i, t, o, r, ht, hd, ho, hr, h1, h2, h3, h4⟩
      refine ⟨(t, i), zip_mem.2 ht, ?_⟩
      unfold rwT
      rw [if_pos hd]
      refine List.mem_flatMap.2 ⟨o, ho, List.mem_flatMap.2 ⟨r, hr, ?_⟩⟩
      unfold rwR; rw [if_pos ⟨h1, h2⟩]; exact mem_addE.2 ⟨h3, h4⟩
  · rw [List.mem_flatMap]
    have hw : ∀ (R : List GRd) (a b key : Int), e ∈ wwL R a b key ↔ (a ≠ b ∧ e = ⟨a, b, 1⟩ ∨ ∃ r ∈ R, r.of_ = a ∧ r.key = key ∧ r.by_ ≠ b ∧ e = ⟨r.by_, b, 3⟩) := fun R a b key => by
      unfold wwL
      rw [List.mem_append, mem_addE, List.mem_flatMap]
      refine or_congr Iff.rfl ?_
      constructor
      · rintro ⟨r, hr, he⟩
        unfold wwR at he
        split at he
        · rename_i hc
          obtain ⟨h1, h2⟩ := mem_addE.1 he
          exact ⟨r, hr, hc.1, hc.2, h1, h2⟩
        · simp at he
      · rintro ⟨r, hr, h1, h2, h3, h4⟩
        refine ⟨r, hr, ?_⟩
        unfold wwR; rw [if_pos ⟨h1, h2⟩]; exact mem_addE.2 ⟨h3, h4⟩
    constructor
    · rintro ⟨p, hp, he⟩
      unfold factE at he
      split at he
      · rename_i hc
        cases hs : p.2 with
        | true => rw [hs] at he; exact ⟨p, hp, _, _, hc.1, hc.2, .inl ⟨hs, rfl, rfl⟩, (hw _ _ _ _).1 he⟩
        | false => rw [hs] at he; exact ⟨p, hp, _, _, hc.1, hc.2, .inr ⟨hs, rfl, rfl⟩, (hw _ _ _ _).1 he⟩
      · simp at he
    · rintro ⟨p, hp, a, b, h1, h2, h3, h4⟩
      refine ⟨p, hp, ?_⟩
      unfold factE
      rw [if_pos ⟨h1, h2⟩]
      rcases h3 with ⟨hs, rfl, rfl⟩ | ⟨hs, rfl, rfl⟩
      · rw [hs]; exact (hw _ _ _ _).2 h4
      · rw [hs]; exact (hw _ _ _ _).2 h4
theorem rd_by {ts : List GTxn} {dn : Nat → Bool} {r : GRd} (h : r ∈ rdsL ts dn) : 0 ≤ r.by_ ∧ r.by_ < ts.length ∧ (r.of_ = -1 ∨ (0 ≤ r.of_ ∧ r.of_ < ts.length)) := by
  obtain ⟨i, t, o, ht, ho, h1, h2, rfl⟩ := rds_mem.1 h
  have hi := (List.getElem?_eq_some_iff.1 ht).1
  refine ⟨by simp, by simp; omega, ?_⟩
  rcases src_lt h1 with ⟨h, -⟩ | ⟨n, h, hn, -⟩
  · exact .inl h
  · exact .inr (by simp only; omega)
theorem hasM_in {ts : List GTxn} {dn : Nat → Bool} {c : GChoice} (h : hasM ts dn c = true) : (0 ≤ c.a ∧ c.a < ts.length) ∧ (0 ≤ c.b ∧ c.b < ts.length) := by
  unfold hasM at h
  simp only [Bool.and_eq_true] at h
  obtain ⟨h1, h2⟩ := h
  obtain ⟨n, t, hn, ht, -⟩ := has1_iff.1 h1
  obtain ⟨m, u, hm, hu, -⟩ := has1_iff.1 h2
  have := (List.getElem?_eq_some_iff.1 ht).1
  have := (List.getElem?_eq_some_iff.1 hu).1
  omega
theorem edge_in {ts : List GTxn} {L : FaL} {e : GEdge} (h : e ∈ edgeL ts L) : (0 ≤ e.f ∧ e.f < ts.length) ∧ (0 ≤ e.t ∧ e.t < ts.length) ∧ (e.k = 1 ∨ e.k = 2 ∨ e.k = 3) ∧ e.f ≠ e.t := by
  rcases edge_mem.1 h with ⟨r, hr, h0, h1, rfl⟩ | ⟨i, t, o, r, ht, hd, ho, hr, h1, h2, h3, rfl⟩ | ⟨p, hp, a, b, h1, h2, h3, ⟨h4, rfl⟩ | ⟨r, hr, h5, h6, h7, rfl⟩⟩
  · have := rd_by hr; exact ⟨by simp only; omega, by simp only; omega, .inr (.inl rfl), h1⟩
  · have := rd_by hr
    have := (List.getElem?_eq_some_iff.1 ht).1
    exact ⟨by simp only; omega, by simp only; omega, .inr (.inr rfl), h3⟩
  · have := hasM_in h2
    exact ⟨by simp only; omega, by simp only; omega, .inl rfl, h4⟩
  · have := hasM_in h2
    have := rd_by hr
    exact ⟨by simp only; omega, by simp only; omega, .inr (.inr rfl), h7⟩

/-- How many edges there can be. -/
def allE (n : Nat) : List GEdge := (List.range n).flatMap (fun a : Nat => (List.range n).flatMap (fun b : Nat => [⟨(a : Int), (b : Int), 1⟩, ⟨(a : Int), (b : Int), 2⟩, ⟨(a : Int), (b : Int), 3⟩]))
theorem sum_len {α : Type} (g : Nat → List α) (c : Nat) (h : ∀ i, (g i).length = c) (n : Nat) : ((List.range n).flatMap g).length = n * c := by
  induction n with
  | zero => simp
  | succ n ih => rw [List.range_succ, List.flatMap_append, List.length_append, ih, Nat.add_mul, Nat.one_mul]; simp [h]
theorem allE_len (n : Nat) : (allE n).length = n * (n * 3) := by
  unfold allE
  exact sum_len _ _ (fun a => sum_len _ 3 (fun b => rfl) n) n
theorem allE_mem {n : Nat} {e : GEdge} (h1 : 0 ≤ e.f ∧ e.f < n) (h2 : 0 ≤ e.t ∧ e.t < n) (h3 : e.k = 1 ∨ e.k = 2 ∨ e.k = 3) : e ∈ allE n := by
  obtain ⟨f, t, k⟩ := e
  simp only at h1 h2 h3
  unfold allE
  obtain ⟨f', rfl⟩ : ∃ m : Nat, f = m := ⟨f.toNat, by omega⟩
  obtain ⟨t', rfl⟩ : ∃ m : Nat, t = m := ⟨t.toNat, by omega⟩
  refine List.mem_flatMap.2 ⟨f', List.mem_range.2 (by omega), List.mem_flatMap.2 ⟨t', List.mem_range.2 (by omega), ?_⟩⟩
  rcases h3 with rfl | rfl | rfl <;> simp
theorem ltE_nodup {l : List GEdge} (h : l.Pairwise ltE) : l.Nodup := h.imp fun h e => by subst e; exact ltE_irr _ h
theorem edges_in {ts : List GTxn} {L : FaL} {l : List GEdge} (h : EdgesOf ts L l) : InN ts.length l := fun e he => by
  have := edge_in ((h.2 e).1 he)
  exact ⟨this.1, this.2.1⟩
theorem edges_len {ts : List GTxn} {L : FaL} {l : List GEdge} (h : EdgesOf ts L l) : l.length ≤ ts.length * (ts.length * 3) := by
  rw [← allE_len]
  refine nodup_len l _ (ltE_nodup h.1) (fun e he => ?_)
  have := edge_in ((h.2 e).1 he)
  exact allE_mem this.1 this.2.1 this.2.2.1
theorem lift1_len (es : List GEdge) (level : Int) (e : GEdge) (n : Nat) (hs : es.Pairwise ltE) (hi : InN n es) : (lift1 es level e).length ≤ 1 + n := by
  unfold lift1
  rw [List.length_append]
  have h1 : (if level ≠ 1 ∨ e.k ≠ 3 then [(e.f, e.t)] else []).length ≤ 1 := by split <;> simp
  have h2 : (if level ≠ 1 ∨ e.k = 3 then [] else es.flatMap (fun g => if g.k = 3 ∧ g.f = e.t then [(e.f, g.t)] else [])).length ≤ n := by
    split
    · simp
    · have e1 : es.flatMap (fun g => if g.k = 3 ∧ g.f = e.t then [(e.f, g.t)] else []) = (es.filter (fun g => decide (g.k = 3 ∧ g.f = e.t))).map (fun g => (e.f, g.t)) := by
        clear hs hi
        induction es with
        | nil => rfl
        | cons x es ih =>
          rw [List.flatMap_cons, ih, List.filter_cons]
          by_cases hc : x.k = 3 ∧ x.f = e.t
          · rw [if_pos hc, if_pos (decide_eq_true hc)]; rfl
          · rw [if_neg hc, if_neg (by simp [hc])]; rfl
      rw [e1, List.length_map]
      have hp := (hs.filter (fun g => decide (g.k = 3 ∧ g.f = e.t)))
      have hl := nodup_len ((es.filter (fun g => decide (g.k = 3 ∧ g.f = e.t))).map (·.t)) ((List.range n).map (fun i : Nat => (i : Int))) ?_ ?_
      · simpa using hl
      · rw [List.nodup_iff_pairwise_ne, List.pairwise_map]
        refine List.Pairwise.imp_of_mem ?_ hp
        intro a b ha hb hab
        have h3 := (List.mem_filter.1 ha).2
        have h4 := (List.mem_filter.1 hb).2
        simp only [decide_eq_true_eq] at h3 h4
        unfold ltE at hab
        omega
      · intro x hx
        obtain ⟨g, hg, rfl⟩ := List.mem_map.1 hx
        have := hi g (List.mem_filter.1 hg).1
        exact List.mem_map.2 ⟨g.t.toNat, List.mem_range.2 (by omega), by omega⟩
  omega
theorem lift_len {ts : List GTxn} {L : FaL} {l : List GEdge} (h : EdgesOf ts L l) (level : Int) (hn : ts.length ≤ 60) : l.length ≤ 1000000 ∧ (liftL l level).length ≤ 1000000 := by
  have h1 := edges_len h
  have h2 : ∀ m : List GEdge, (m.flatMap (lift1 l level)).length ≤ m.length * (1 + ts.length) := fun m => by
    induction m with
    | nil => simp
    | cons x m ih =>
      have := lift1_len l level x ts.length h.1 (edges_in h)
      rw [List.flatMap_cons, List.length_append, List.length_cons, Nat.add_mul, Nat.one_mul]; omega
  have h3 := h2 l
  have h4 : ts.length * 3 ≤ 180 := by omega
  have h5 := Nat.mul_le_mul hn h4
  have h6 := Nat.mul_le_mul (Nat.le_trans h1 h5) (show 1 + ts.length ≤ 61 by omega)
  unfold liftL
  omega
end Go.Proofs.Ytefpmcbpodlabaa

/- cruciblelaw09.head: the document's example. -/
namespace Go.Proofs.Ytefpmcbpodlabaa
open Go.RowKit Go.Maps

theorem rd_txns_own {A : World} {base : Nat} {v : Value} {L : TxL} (h : A.ownsRow base 46 3 v L.length (L.flatMap txV)) (ho : ∀ p ∈ L, RdOps A p.2 p.1.ops) : RdTxns A v (L.map (·.1)) := by
  obtain ⟨a, len, cap, h1, h2, h3, h4, h5, h6⟩ := rds_of_own (V := txV) txV_length h
  refine ⟨a, len, cap, h1, by simpa using h2, by simpa using h3, h4, h5, fun j x hj => ?_⟩
  rw [List.getElem?_map, Option.map_eq_some_iff] at hj
  obtain ⟨p, hp, rfl⟩ := hj
  obtain ⟨b, off, cs, ha, hl, hc, rfl⟩ := h6 j p hp
  exact ⟨b, off, _, ha, hl, hc, p.2, rfl, ho p (List.mem_of_getElem? hp)⟩

def headT : List GTxn := [⟨1, 0, [⟨2, 0, 5⟩]⟩, ⟨2, 1, [⟨2, 0, 6⟩]⟩]
def headC : List GChoice := [⟨1, 0, 0, 0⟩, ⟨2, 0, 0, 1⟩]
theorem head_choices : choicesM headT = headC := by rfl
theorem head_ok : OkTxns headT := by
  refine ⟨by decide, fun t ht => ?_⟩
  simp [headT] at ht
  rcases ht with rfl | rfl <;> exact ⟨fun o ho => by simp at ho; subst ho; simp [i64], by decide⟩

/-- The example lies in three new blocks. -/
theorem head_rd (w : World) : RdTxns (((w.alloc (.cells #[vi 2, vi 0, vi 5] 48)).alloc (.cells #[vi 2, vi 0, vi 6] 48)).alloc (.cells #[vi 1, vi 0, .slice (some ⟨w.heap.size, 0, none⟩) 1 1, vi 2, vi 1, .slice (some ⟨w.heap.size + 1, 0, none⟩) 1 1] 46)) (.slice (some ⟨w.heap.size + 2, 0, none⟩) 2 2) headT := by
  have h1 : OwOps w.heap.size (w.alloc (.cells #[vi 2, vi 0, vi 5] 48)) (.slice (some ⟨w.heap.size, 0, none⟩) 1 1) [⟨2, 0, 5⟩] := World.ownsRow_lit w #[vi 2, vi 0, vi 5] 1 (Nat.le_refl _) (by simp [maxLen]) rfl
  have h2 : OwOps w.heap.size ((w.alloc (.cells #[vi 2, vi 0, vi 5] 48)).alloc (.cells #[vi 2, vi 0, vi 6] 48)) (.slice (some ⟨w.heap.size + 1, 0, none⟩) 1 1) [⟨2, 0, 6⟩] := by
    have := World.ownsRow_lit (base := w.heap.size) (e := 48) (size := 3) (w.alloc (.cells #[vi 2, vi 0, vi 5] 48)) #[vi 2, vi 0, vi 6] 1 (by simp) (by simp [maxLen]) rfl
    simpa [OwOps, opV] using this
  have h3 := World.ownsRow_lit (base := w.heap.size) (e := 46) (size := 3) ((w.alloc (.cells #[vi 2, vi 0, vi 5] 48)).alloc (.cells #[vi 2, vi 0, vi 6] 48)) #[vi 1, vi 0, .slice (some ⟨w.heap.size, 0, none⟩) 1 1, vi 2, vi 1, .slice (some ⟨w.heap.size + 1, 0, none⟩) 1 1] 2 (by simp; omega) (by simp [maxLen]) rfl
  refine rd_txns_own (base := w.heap.size) (L := [(⟨1, 0, [⟨2, 0, 5⟩]⟩, .slice (some ⟨w.heap.size, 0, none⟩) 1 1), (⟨2, 1, [⟨2, 0, 6⟩]⟩, .slice (some ⟨w.heap.size + 1, 0, none⟩) 1 1)]) (by simpa [txV] using h3) fun p hp => ?_
  simp at hp
  rcases hp with rfl | rfl
  · exact OwOps.rd (World.ownsRow.alloc (World.ownsRow.alloc h1 _) _)
  · exact OwOps.rd (World.ownsRow.alloc h2 _)

set_option maxRecDepth 100000 in
set_option maxHeartbeats 1000000 in
theorem head_call (w : World) : Calls Try.prog 25 #[] w fun e w' => e = .returned (.bool true) ∧ Below w.heap.size w w' := by
  have HT := Lib.hid (head_rd w)
  have HB := Lib.hid ((((Below.refl w.heap.size w).alloc (Nat.le_refl _) (.cells #[vi 2, vi 0, vi 5] 48)).alloc (by simp) (.cells #[vi 2, vi 0, vi 6] 48)).alloc (by simp; omega) (.cells #[vi 1, vi 0, .slice (some ⟨w.heap.size, 0, none⟩) 1 1, vi 2, vi 1, .slice (some ⟨w.heap.size + 1, 0, none⟩) 1 1] 46))
  go_enter Try.func25, Try.ntmps25
  go_upto_region 2 with fail
  generalize ((w.alloc (.cells #[vi 2, vi 0, vi 5] 48)).alloc (.cells #[vi 2, vi 0, vi 6] 48)).alloc (.cells #[vi 1, vi 0, .slice (some ⟨w.heap.size, 0, none⟩) 1 1, vi 2, vi 1, .slice (some ⟨w.heap.size + 1, 0, none⟩) 1 1] 46) = w3 at *
  have hw3 := HB.out.size
  go_upto_region 3 with (go_at_call 32; refine (choices_call _ headT _ HT.out head_ok (by decide)).mono ?_; rw [head_choices]; rintro e w4 ⟨v1, rfl, ho, hb⟩; have hr := ho.rd; obtain ⟨a, len, cap, rfl, rfl, hm, hcl⟩ := hr.at)
  obtain ⟨b, off, rfl, m0, m1, m2, m3⟩ := hcl 0 ⟨1, 0, 0, 0⟩ rfl
  obtain ⟨_, _, e6, n0, n1, n2, n3⟩ := hcl 1 ⟨2, 0, 0, 1⟩ rfl
  cases e6
  have HB4 := Lib.hid (HB.out.trans (hb.mono hw3))
  have HT4 := Lib.hid (HT.out.later hb)
  have hl : headC.length = 2 := rfl
  clear hcl hm ho hr hb
  simp only [Nat.zero_mul, Nat.add_zero, Nat.one_mul, Nat.add_assoc, Nat.reduceAdd] at m0 m1 m2 m3 n0 n1 n2 n3
  go_wp2_with (go_at_call 55; refine (bound_call _ headT _ HT4.out head_ok (by decide)).mono ?_; rw [head_choices]; rintro e w5 ⟨rfl, hb5⟩)
  go_ret
  exact ⟨by rfl, HB4.out.trans (hb5.mono HB4.out.size)⟩
end Go.Proofs.Ytefpmcbpodlabaa

/- deps.Broken; cruciblelaw10's example and head. -/
namespace Go.Proofs.Ytefpmcbpodlabaa
open Go.RowKit Go.Maps
attribute [local go_sem] Oper.semAt_some

theorem OwA.rd {base : Nat} {w : World} {v : Value} {l : List (Int × Int)} (h : OwA base w v l) : RdArcs w v l := by
  have h1 : RdS 2 (fun _ cs x => cs = arcV x) w v l := rds_of_own (V := arcV) (fun _ => rfl) h
  exact h1
/-- What is known of what Broken hands back. -/
def BrokenQ (ts : List GTxn) (L : FaL) (level : Int) (w : World) (e : Ending) (w' : World) : Prop :=
  ∃ v' l C, e = .returned v' ∧ EdgesOf ts L l ∧ w'.ownsRow w.heap.size 3 1 v' C.length ((C.map natI).flatMap viC) ∧ CycI (nextT (sizeM ts.length) (liftL l level)) (sizeM ts.length) C ∧ Below w.heap.size w w'
/-- How large a history may be. -/
structure SmallH (ts : List GTxn) (L : FaL) (c : Nat) : Prop where
  len : ts.length ≤ 60
  ops : ∀ t ∈ ts, t.ops.length ≤ c
  room : ts.length * c ≤ 100000000 ∧ ts.length * c + ts.length * (16 * (ts.length * c)) + L.length * (1 + ts.length * c) ≤ 800000000

set_option maxRecDepth 100000 in
set_option maxHeartbeats 4000000 in
theorem broken_call (v mv : Value) (ts : List GTxn) (L : FaL) (c : Nat) (level : Int) (w : World) (hv : RdTxns w v ts) (hok : OkTxns ts) (hm : FaV w mv L) (hs : SmallH ts L c) :
    Calls Try.prog 19 #[v, mv, vi level] w (BrokenQ ts L level w) := by
  have HV := Lib.hid hv
  have HM := Lib.hid hm
  have HOK := Lib.hid hok
  have HS := Lib.hid hs
  obtain ⟨ta, nt, tc, rfl, rfl, hmm, -⟩ := hv.at
  clear hv hm hok hs
  go_enter Try.func19, Try.ntmps19
  go_wp2_with (first
    | (go_at_call 16; refine (edges_call _ mv ts L c w HV.out HOK.out (by have := HS.out.len; omega) HM.out HS.out.ops HS.out.room).mono ?_; rintro e1 w1 ⟨v1, l, rfl, ho1, he1, hb1⟩; have HO1 := Lib.hid ho1; have HE1 := Lib.hid he1; have HB1 := Lib.hid hb1; have HLL := Lib.hid (lift_len he1 level HS.out.len); clear ho1 he1 hb1)
    | (go_at_call 13; refine (lift_call v1 l level w1 HO1.out.rd HLL.out.1 (Nat.le_trans HLL.out.2 (by omega))).mono ?_; rintro e2 w2 ⟨v2, rfl, ho2, hb2⟩; have HO2 := Lib.hid ho2; have HB2 := Lib.hid (HB1.out.trans (hb2.mono HB1.out.size)); clear ho2 hb2)
    | (go_at_call 49; refine (cycle_call (ts.length : Int) (liftL l level) v2 w2 HO2.out.rd HLL.out.2).mono ?_; rintro e3 w3 ⟨v3, C, rfl, ho3, hc3, hb3⟩; have HO3 := Lib.hid ho3; have HC3 := Lib.hid hc3; have HB3 := Lib.hid hb3; clear ho3 hc3 hb3))
  go_ret
  exact ⟨v3, l, C, rfl, HE1.out, own_mono HO3.out HB2.out.size, HC3.out, HB2.out.trans (HB3.out.mono HB2.out.size)⟩

def skewT : List GTxn := [⟨1, 1, [⟨1, 0, 0⟩, ⟨2, 1, 1⟩]⟩, ⟨2, 1, [⟨1, 1, 0⟩, ⟨2, 0, 2⟩]⟩]
theorem skew_ok : OkTxns skewT := by
  refine ⟨by decide, fun t ht => ?_⟩
  simp [skewT] at ht
  rcases ht with rfl | rfl <;> exact ⟨fun o ho => by simp at ho; rcases ho with rfl | rfl <;> simp [i64], by decide⟩
theorem skew_small : SmallH skewT [] 2 := ⟨by decide, fun t ht => by simp [skewT] at ht; rcases ht with rfl | rfl <;> decide, by decide, by decide⟩
def skewE : List GEdge := [⟨0, 1, 3⟩, ⟨1, 0, 3⟩]
theorem skew_edges {l : List GEdge} (h : EdgesOf skewT [] l) : l = skewE := by
  have e0 : edgeL skewT [] = [⟨1, 0, 3⟩, ⟨0, 1, 3⟩] ∨ edgeL skewT [] = [⟨0, 1, 3⟩, ⟨1, 0, 3⟩] := by decide
  refine edges_ext h.1 ?_ (fun p => ?_)
  · simp [skewE, ltE]
  · rw [h.2]
    rcases e0 with e0 | e0 <;> rw [e0] <;> simp [skewE] <;> (constructor <;> (rintro (h | h) <;> simp [h]))
end Go.Proofs.Ytefpmcbpodlabaa

/- cruciblelaw10.skew and head. -/
namespace Go.Proofs.Ytefpmcbpodlabaa
open Go.RowKit Go.Maps
attribute [local go_sem] Oper.semAt_some

theorem arcT_iff {n : Nat} {arcs : List (Int × Int)} {u v : Nat} : ArcT (nextT n arcs) u v ↔ ((u : Int), (v : Int)) ∈ arcs ∧ u < n ∧ v < n := by
  constructor
  · rintro ⟨l, h1, h2⟩
    have hu : u < n := by have := (List.getElem?_eq_some_iff.1 h1).1; rwa [nextT_len] at this
    rw [nextT_at hu] at h1
    cases h1
    have := rawRow_mem.1 ((sortC_mem _ _).1 h2)
    exact ⟨this.1, hu, by omega⟩
  · rintro ⟨h1, hu, hv⟩
    exact ⟨_, nextT_at hu, (sortC_mem _ _).2 (rawRow_mem.2 ⟨h1, hu, by omega, by omega⟩)⟩
theorem skew_arc {u v : Nat} : ArcT (nextT 2 (liftL skewE 2)) u v ↔ (u = 0 ∧ v = 1) ∨ (u = 1 ∧ v = 0) := by
  rw [arcT_iff, lift_serial]
  simp [skewE]
  omega
theorem skew_closed {s : Nat} {C : List Nat} (h : Closed (ArcT (nextT 2 (liftL skewE 2))) s C) : C.length ≤ 2 ∧ (s = 0 → C = [0, 1]) := by
  have hc := h.chain
  have hh := h.head
  have hn := h.nodup
  match C, hc, hh, hn, h.shut with
  | [], _, hh, _, _ => simp at hh
  | [a], _, hh, _, hs =>
    have := skew_arc.1 (hs a rfl)
    simp at hh
    omega
  | [a, b], hc, hh, _, _ =>
    refine ⟨Nat.le_refl _, fun h0 => ?_⟩
    have := skew_arc.1 hc.1
    simp at hh
    have h1 : a = 0 := by omega
    have h2 : b = 1 := by omega
    rw [h1, h2]
  | a :: b :: c :: l, hc, _, hn, _ =>
    exfalso
    have h1 := skew_arc.1 hc.1
    have h2 := skew_arc.1 hc.2.1
    have h3 : a = c := by omega
    have := (List.nodup_cons.1 hn).1
    exact this (by rw [h3]; simp)
theorem skew_cycle {C : List Nat} (h : CycI (nextT 2 (liftL skewE 2)) 2 C) : C = [0, 1] := by
  have hw : ∀ s, s < 2 → Way (ArcT (nextT 2 (liftL skewE 2))) s s := fun s hs => by
    have h01 : ArcT (nextT 2 (liftL skewE 2)) 0 1 := skew_arc.2 (.inl ⟨rfl, rfl⟩)
    have h10 : ArcT (nextT 2 (liftL skewE 2)) 1 0 := skew_arc.2 (.inr ⟨rfl, rfl⟩)
    have : s = 0 ∨ s = 1 := by omega
    rcases this with rfl | rfl
    · exact .more h01 (.one h10)
    · exact .more h10 (.one h01)
  rcases h with ⟨h1, h2⟩ | ⟨s0, h1, h2, h3⟩
  · exact absurd (hw 0 (by omega)) (h2 0 (by omega))
  · have hs0 : s0 = 0 := by
      apply Classical.byContradiction
      intro hne
      obtain ⟨C1, h4, h5, h6⟩ := h3 0 (by omega) (hw 0 (by omega))
      have h7 := h6 (by omega)
      have h8 := (skew_closed h4).1
      have hc := h2.chain
      have hh := h2.head
      have hl : 2 ≤ C.length := by
        match C, hh, h2.shut with
        | [], hh, _ => simp at hh
        | [a], hh, hs =>
          have := skew_arc.1 (hs a rfl)
          simp at hh
          omega
        | a :: b :: l, _, _ => simp
      omega
    exact (skew_closed h2).2 hs0
theorem no_cycle {T : List (List Int)} {C : List Nat} {n : Nat} (h : CycI T n C) (hT : ∀ u v, ¬ ArcT T u v) : C = [] := by
  have hw : ∀ s, ¬ Way (ArcT T) s s := fun s hw => by
    cases hw with
    | one h => exact hT _ _ h
    | more h _ => exact hT _ _ h
  rcases h with ⟨h1, _⟩ | ⟨s0, h1, h2, h3⟩
  · exact h1
  · have hh := h2.head
    cases C with
    | nil => rfl
    | cons a l =>
      obtain ⟨b, hb⟩ : ∃ b, (a :: l).getLast? = some b := ⟨_, List.getLast?_eq_some_getLast (by simp)⟩
      exact absurd (h2.shut b hb) (hT _ _)
theorem skew_snap {C : List Nat} (h : CycI (nextT 2 (liftL skewE 1)) 2 C) : C = [] :=
  no_cycle h (fun u v huv => by
    have := arcT_iff.1 huv
    rw [lift_weak skewE (fun e he => by simp [skewE] at he; rcases he with rfl | rfl <;> rfl)] at this
    simp at this)

def skewA : List Value := [vi 1, vi 0, vi 0, vi 2, vi 1, vi 1]
theorem skew_rd (w : World) : RdTxns (((w.alloc (.cells #[vi 1, vi 0, vi 0, vi 2, vi 1, vi 1] 48)).alloc (.cells #[vi 1, vi 1, vi 0, vi 2, vi 0, vi 2] 48)).alloc (.cells #[vi 1, vi 1, .slice (some ⟨w.heap.size, 0, none⟩) 2 2, vi 2, vi 1, .slice (some ⟨w.heap.size + 1, 0, none⟩) 2 2] 46)) (.slice (some ⟨w.heap.size + 2, 0, none⟩) 2 2) skewT := by
  have h1 : OwOps w.heap.size (w.alloc (.cells #[vi 1, vi 0, vi 0, vi 2, vi 1, vi 1] 48)) (.slice (some ⟨w.heap.size, 0, none⟩) 2 2) [⟨1, 0, 0⟩, ⟨2, 1, 1⟩] := World.ownsRow_lit w #[vi 1, vi 0, vi 0, vi 2, vi 1, vi 1] 2 (Nat.le_refl _) (by simp [maxLen]) rfl
  have h2 : OwOps w.heap.size ((w.alloc (.cells #[vi 1, vi 0, vi 0, vi 2, vi 1, vi 1] 48)).alloc (.cells #[vi 1, vi 1, vi 0, vi 2, vi 0, vi 2] 48)) (.slice (some ⟨w.heap.size + 1, 0, none⟩) 2 2) [⟨1, 1, 0⟩, ⟨2, 0, 2⟩] := by
    have := World.ownsRow_lit (base := w.heap.size) (e := 48) (size := 3) (w.alloc (.cells #[vi 1, vi 0, vi 0, vi 2, vi 1, vi 1] 48)) #[vi 1, vi 1, vi 0, vi 2, vi 0, vi 2] 2 (by simp) (by simp [maxLen]) rfl
    simpa [OwOps, opV] using this
  have h3 := World.ownsRow_lit (base := w.heap.size) (e := 46) (size := 3) ((w.alloc (.cells #[vi 1, vi 0, vi 0, vi 2, vi 1, vi 1] 48)).alloc (.cells #[vi 1, vi 1, vi 0, vi 2, vi 0, vi 2] 48)) #[vi 1, vi 1, .slice (some ⟨w.heap.size, 0, none⟩) 2 2, vi 2, vi 1, .slice (some ⟨w.heap.size + 1, 0, none⟩) 2 2] 2 (by simp; omega) (by simp [maxLen]) rfl
  refine rd_txns_own (base := w.heap.size) (L := [(⟨1, 1, [⟨1, 0, 0⟩, ⟨2, 1, 1⟩]⟩, .slice (some ⟨w.heap.size, 0, none⟩) 2 2), (⟨2, 1, [⟨1, 1, 0⟩, ⟨2, 0, 2⟩]⟩, .slice (some ⟨w.heap.size + 1, 0, none⟩) 2 2)]) (by simpa [txV] using h3) fun p hp => ?_
  simp at hp
  rcases hp with rfl | rfl
  · exact OwOps.rd (World.ownsRow.alloc (World.ownsRow.alloc h1 _) _)
  · exact OwOps.rd (World.ownsRow.alloc h2 _)
set_option maxRecDepth 100000 in
set_option maxHeartbeats 1000000 in
theorem skew_call (w : World) : Calls Try.prog 36 #[] w fun e w' => ∃ v, e = .returned v ∧ RdTxns w' v skewT ∧ Below w.heap.size w w' := by
  have HT := Lib.hid (skew_rd w)
  have HB := Lib.hid ((((Below.refl w.heap.size w).alloc (Nat.le_refl _) (.cells #[vi 1, vi 0, vi 0, vi 2, vi 1, vi 1] 48)).alloc (by simp) (.cells #[vi 1, vi 1, vi 0, vi 2, vi 0, vi 2] 48)).alloc (by simp; omega) (.cells #[vi 1, vi 1, .slice (some ⟨w.heap.size, 0, none⟩) 2 2, vi 2, vi 1, .slice (some ⟨w.heap.size + 1, 0, none⟩) 2 2] 46))
  go_enter Try.func36, Try.ntmps36
  go_wp2_with fail
  go_ret
  exact ⟨_, rfl, HT.out, HB.out⟩

set_option maxRecDepth 100000 in
set_option maxHeartbeats 4000000 in
theorem head10_call (w : World) : Calls Try.prog 12 #[] w fun e w' => e = .returned (.bool true) ∧ Below w.heap.size w w' := by
  have HQ := Lib.hid eqlE
  have hs2 : sizeM skewT.length = 2 := by decide
  have HS2 := Lib.hid hs2
  clear hs2
  go_enter Try.func12, Try.ntmps12
  go_upto_region 2 with (first
    | (go_at_call 36; refine (skew_call w).mono ?_; rintro e1 w1 ⟨v1, rfl, h1, hb1⟩; have H1 := Lib.hid h1; have HB1 := Lib.hid hb1; clear h1 hb1)
    | (go_at_call 19; refine (broken_call v1 (.map none) skewT [] 2 2 w1 H1.out skew_ok (.inl ⟨rfl, rfl⟩) skew_small).mono ?_; rintro e2 w2 ⟨v2, l, C, rfl, he, ho, hc, hb2⟩; have hle := skew_edges he; subst hle; rw [HS2.out] at hc; have hC := skew_cycle hc; subst hC; have HO2 := Lib.hid ho; have HB2 := Lib.hid (HB1.out.trans (hb2.mono HB1.out.size)); clear he ho hc hb2))
  go_upto_region 3 with (first
    | (go_at_call 36; refine (skew_call w2).mono ?_; rintro e3 w3 ⟨v3, rfl, h3, hb3⟩; have H3 := Lib.hid h3; have HB3 := Lib.hid (HB2.out.trans (hb3.mono HB2.out.size)); have HO3 := Lib.hid (own_below HO2.out hb3); clear h3 hb3)
    | (go_at_call 16; refine (edges_call v3 (.map none) skewT [] 2 w3 H3.out skew_ok (by decide) (.inl ⟨rfl, rfl⟩) skew_small.ops skew_small.room).mono ?_; rintro e4 w4 ⟨v4, l, rfl, ho, he, hb4⟩; have hle := skew_edges he; subst hle; have HO4 := Lib.hid ho; have HB4 := Lib.hid (HB3.out.trans (hb4.mono HB3.out.size)); have HO5 := Lib.hid (own_below HO3.out hb4); clear ho he hb4))
  obtain ⟨ea, en, ec, rfl, e5, -, hce⟩ := HO4.out.rd.at
  subst e5
  obtain ⟨eb, eoff, rfl, m0, m1, m2⟩ := hce 0 ⟨0, 1, 3⟩ rfl
  obtain ⟨cg, cc, rfl⟩ := own_someB HO5.out (by simp)
  have n1 := World.ownsRow.cells HO5.out (g := cg) rfl 1 (vi 1) rfl
  rw [addr_add, Nat.zero_add] at n1
  have q : ∀ W, (binOp .eql 27 (edA ⟨0, 1, 3⟩) (.agg #[vi 0, vi 1, vi 3])).run Try.prog W = .ok (.bool true) W := fun W => by
    have := HQ.out ⟨0, 1, 3⟩ ⟨0, 1, 3⟩ W
    rw [decide_eq_true rfl] at this
    exact this
  simp only [Nat.zero_mul, Nat.add_zero] at m0 m1 m2
  clear hce
  have hl2 : skewE.length = 2 := rfl
  go_wp2_with (first
    | (go_at_call 36; refine (skew_call w4).mono ?_; rintro e5 w5 ⟨v5, rfl, h5, hb5⟩; have H5 := Lib.hid h5; have HB5 := Lib.hid (HB4.out.trans (hb5.mono HB4.out.size)); clear h5 hb5)
    | (go_at_call 19; refine (broken_call v5 (.map none) skewT [] 2 1 w5 H5.out skew_ok (.inl ⟨rfl, rfl⟩) skew_small).mono ?_; rintro e6 w6 ⟨v6, l, C, rfl, he, ho, hc, hb6⟩; have hle := skew_edges he; subst hle; rw [HS2.out] at hc; have hC := skew_snap hc; subst hC; obtain ⟨sa, sc, rfl⟩ := Gr.own_shape ho; have HB6 := Lib.hid (HB5.out.trans (hb6.mono HB5.out.size)); clear he ho hc hb6))
  go_ret
  exact ⟨rfl, HB6.out⟩
end Go.Proofs.Ytefpmcbpodlabaa

/- From the row's own reading of an argument of type []api.Event to the readable slice. Names no function. -/
namespace Go.Proofs.Ytefpmcbpodlabaa
open Go.RowKit
open Go.ChangeShapes Go.WideShapes

section
variable {H : Type} {enc : TypeId × Value → H} {w : World} {spare : Nat → Bool} {held : Bool}

theorem int_cell {m : Nat} {c : Value} {y : DataW H × List MemPlace} (h : DataW.trod enc Try.prog w 0 spare held m 3 [c] = some y) : ∃ n, c = vi n := by
  obtain ⟨n, hc, -, -⟩ := DataW.trod_int Try.underlying3 h
  exact ⟨n, by simpa using hc⟩

theorem cells_int : Try.prog.cellsOf 3 = 1 := by kernel_rfl
theorem cells_op : Try.prog.cellsOf 48 = 3 := by kernel_rfl
theorem cells_ops : Try.prog.cellsOf 44 = 1 := by kernel_rfl
theorem cells_event : Try.prog.cellsOf 119 = 3 := by kernel_rfl

set_option maxRecDepth 100000 in
theorem op_cells {m : Nat} {cs : List Value} {y : DataW H × List MemPlace} (hl : cs.length = 3) (h : DataW.trod enc Try.prog w 0 spare held m 48 cs = some y) : ∃ o, EOp w cs o := by
  obtain ⟨y0, y1, y2, n, -, -, h0, h1, h2⟩ := Deep.trod_struct3 Try.underlying48 h
  match cs, hl with
  | [c0, c1, c2], _ =>
    dsimp only at h0 h1 h2
    rw [cells_int] at h0 h1 h2
    obtain ⟨a, rfl⟩ := int_cell h0
    obtain ⟨b, rfl⟩ := int_cell h1
    obtain ⟨c, rfl⟩ := int_cell h2
    exact ⟨⟨a, b, c⟩, rfl⟩

set_option maxRecDepth 100000 in
theorem ops_read {m : Nat} {v : Value} {y : DataW H × List MemPlace} (h : DataW.trod enc Try.prog w 0 spare held m 44 [v] = some y) : ∃ l, RdOps w v l :=
  rds_of_trod Try.underlying44 cells_op (by omega) h fun _ _ _ hl hy => op_cells hl hy

set_option maxRecDepth 100000 in
theorem event_cells {m : Nat} {cs : List Value} {y : DataW H × List MemPlace} (hl : cs.length = 3) (h : DataW.trod enc Try.prog w 0 spare held m 119 cs = some y) : ∃ e, EEvent w cs e := by
  obtain ⟨y0, y1, y2, n, -, -, h0, h1, h2⟩ := Deep.trod_struct3 Try.underlying119 h
  match cs, hl with
  | [c0, c1, c2], _ =>
    dsimp only at h0 h1 h2
    rw [cells_int] at h0 h1
    rw [cells_ops] at h2
    obtain ⟨a, rfl⟩ := int_cell h0
    obtain ⟨b, rfl⟩ := int_cell h1
    obtain ⟨l, hr⟩ := ops_read h2
    exact ⟨⟨a, b, l⟩, c2, rfl, hr⟩

set_option maxRecDepth 100000 in
theorem events_of_trod {v : Value} {d : DataW H} {ps : List MemPlace} (hv : ∃ a l c, v = .slice a l c) (h : DataW.Trod enc Try.prog w 0 spare held 31 v d ps) : ∃ es, RdEvents w v es := by
  obtain ⟨fuel, hf⟩ := h
  obtain ⟨a, l, c, rfl⟩ := hv
  exact rds_of_trod Try.underlying31 cells_event (by omega) hf fun _ _ _ hl hy => event_cells hl hy
end
set_option maxRecDepth 100000 in
theorem events_of_row {H : Type} {enc : TypeId × Value → H} {w : World} {spare : Nat → Bool} {held : Bool} {base : Nat} {v : Value} {d : DataW H} {ps : List MemPlace} (hk : Value.okWide Try.prog w .any base 31 v) (h : DataW.Trod enc Try.prog w 0 spare held 31 v d ps) : ∃ es, RdEvents w v es :=
  events_of_trod (okWide_slice Try.underlying31 hk) h
end Go.Proofs.Ytefpmcbpodlabaa

/- From the row's own reading of an argument of type []api.Edge to the readable slice. Names no function. -/
namespace Go.Proofs.Ytefpmcbpodlabaa
open Go.RowKit
open Go.ChangeShapes Go.WideShapes

section
variable {H : Type} {enc : TypeId × Value → H} {w : World} {spare : Nat → Bool} {held : Bool}
theorem cells_edge : Try.prog.cellsOf 27 = 3 := by kernel_rfl
set_option maxRecDepth 100000 in
theorem edge_cells {m : Nat} {cs : List Value} {y : DataW H × List MemPlace} (hl : cs.length = 3) (h : DataW.trod enc Try.prog w 0 spare held m 27 cs = some y) : ∃ o, EEdge w cs o := by
  obtain ⟨y0, y1, y2, n, -, -, h0, h1, h2⟩ := Deep.trod_struct3 Try.underlying27 h
  match cs, hl with
  | [c0, c1, c2], _ =>
    dsimp only at h0 h1 h2
    rw [cells_int] at h0 h1 h2
    obtain ⟨a, rfl⟩ := int_cell h0
    obtain ⟨b, rfl⟩ := int_cell h1
    obtain ⟨c, rfl⟩ := int_cell h2
    exact ⟨⟨a, b, c⟩, rfl⟩
set_option maxRecDepth 100000 in
theorem edges_of_trod {v : Value} {d : DataW H} {ps : List MemPlace} (hv : ∃ a l c, v = .slice a l c) (h : DataW.Trod enc Try.prog w 0 spare held 22 v d ps) : ∃ es, RdEdges w v es := by
  obtain ⟨fuel, hf⟩ := h
  obtain ⟨a, l, c, rfl⟩ := hv
  exact rds_of_trod Try.underlying22 cells_edge (by omega) hf fun _ _ _ hl hy => edge_cells hl hy
end
set_option maxRecDepth 100000 in
theorem edges_of_row {H : Type} {enc : TypeId × Value → H} {w : World} {spare : Nat → Bool} {held : Bool} {base : Nat} {v : Value} {d : DataW H} {ps : List MemPlace} (hk : Value.okWide Try.prog w .any base 22 v) (h : DataW.Trod enc Try.prog w 0 spare held 22 v d ps) : ∃ es, RdEdges w v es :=
  edges_of_trod (okWide_slice Try.underlying22 hk) h
end Go.Proofs.Ytefpmcbpodlabaa

/- cruciblelaw10.DepsLifts. -/
namespace Go.Proofs.Ytefpmcbpodlabaa.depsLifts
open Go.RowKit Go.Maps Go.Proofs.Ytefpmcbpodlabaa
attribute [local go_sem] Oper.semAt_some

theorem weak_next {es : List GEdge} {k : Nat} {e : GEdge} (h : es[k]? = some e) : (es.take (k + 1)).filter (fun e => e.k == 3) = (es.take k).filter (fun e => e.k == 3) ++ (if e.k == 3 then [e] else []) := by
  rw [take_at h, List.filter_append]
  simp [List.filter_cons]

set_option maxRecDepth 100000 in
set_option maxHeartbeats 8000000 in
theorem walk (n : Int) (v : Value) (es : List GEdge) (w : World) (hv : RdEdges w v es) :
    Calls Try.prog 3 #[vi n, v] w fun e w' => e = .returned (.bool true) ∧ Below w.heap.size w w' := by
  obtain ⟨av, nv, cv, rfl, rfl, hm, -⟩ := hv.at
  have HV := Lib.hid hv
  clear hv
  go_enter Try.func3, Try.ntmps3
  by_cases h60 : es.length ≤ 60
  case neg =>
    have d60 : decide ((60 : Int) < es.length) = true := decide_eq_true (by omega)
    clear h60
    go_wp2_with (go_at_call 12; refine (head10_call w).mono ?_; rintro e1 w1 ⟨rfl, hb1⟩; have HB1 := Lib.hid hb1; clear hb1)
    go_ret
    exact ⟨rfl, HB1.out⟩
  case pos =>
  have d60 : decide ((60 : Int) < es.length) = false := decide_eq_false (by omega)
  have HSE := Lib.hid (lift_serial es)
  have hll := Lib.hid (show (liftL es 2).length = es.length from by rw [lift_serial]; simp)
  go_upto_region 8 with (first
    | (go_at_call 12; refine (head10_call w).mono ?_; rintro e1 w1 ⟨rfl, hb1⟩; have HB1 := Lib.hid hb1; clear hb1)
    | (go_at_call 13; refine (lift_call _ es 2 w1 (HV.out.later HB1.out) (by omega) (by rw [hll.out]; omega)).mono ?_; rintro e2 w2 ⟨v2, rfl, ho2, hb2⟩; have HO2 := Lib.hid ho2.rd; obtain ⟨a2, n2, c2, rfl, e9, -, -⟩ := HO2.out.at; rw [hll.out] at e9; subst e9; have HB2 := Lib.hid (HB1.out.trans (hb2.mono HB1.out.size)); clear ho2 hb2))
  go_wp2_with fail
  go_loopw [25] (fun i wr => ∃ k : Nat, k ≤ es.length ∧ i = .int .i64 k ∧ Hid (Below w2.heap.size w2 wr)) (fun i _ => es.length - (intOf i).toNat)
  case atStart => exact ⟨0, Nat.zero_le _, rfl, Lib.hid (Below.refl _ _)⟩
  case round =>
    obtain ⟨wj, rfl⟩ : ∃ wj : World, wj = wr := ⟨_, rfl⟩
    obtain ⟨k, hk, rfl, HJ⟩ := hrel
    have HBJ := Lib.hid (HB2.out.trans (HJ.out.mono HB2.out.size))
    by_cases hlt : k < es.length
    · have k1 : decide ((k : Int) < es.length) = true := decide_eq_true (by omega)
      have k2 : (k : Int) < es.length := by omega
      have k3 : (0 : Int) ≤ (k : Int) := by omega
      have hwk : IntKind.i64.wrap ((k : Int) + 1) = (k : Int) + 1 := IntWalk.i64_in _ (by omega)
      obtain ⟨e, he⟩ := some_at hlt
      obtain ⟨_, _, _, e5, -, -, hcl⟩ := (HV.out.later HBJ.out).at
      cases e5
      obtain ⟨b, off, rfl, c0, c1, c2'⟩ := hcl k e he
      obtain ⟨_, _, _, e6, -, -, hcl2⟩ := (HO2.out.later HJ.out).at
      cases e6
      obtain ⟨b2, off2, rfl, y0, y1⟩ := hcl2 k (e.f, e.t) (by rw [HSE.out, List.getElem?_map, he]; rfl)
      simp only at y0 y1
      have HX := Lib.hid (alloc_at wj (.cells #[vi e.f, vi e.t, vi e.k] 27))
      have HBA := Lib.hid (HJ.out.alloc HJ.out.size (.cells #[vi e.f, vi e.t, vi e.k] 27))
      have z0 := cell_later ((Below.refl wj.heap.size wj).alloc (Nat.le_refl _) (.cells #[vi e.f, vi e.t, vi e.k] 27)) y0
      have z1 := cell_later ((Below.refl wj.heap.size wj).alloc (Nat.le_refl _) (.cells #[vi e.f, vi e.t, vi e.k] 27)) y1
      clear hcl hcl2 he y0 y1
      go_upto_region 11 with fail
      clear c0 c1 c2'
      generalize wj.alloc (.cells #[vi e.f, vi e.t, vi e.k] 27) = wa at *
      obtain ⟨eb, heb⟩ : ∃ eb, eb = wj.heap.size := ⟨_, rfl⟩
      rw [← heb] at HX ⊢
      clear heb
      have x0 : wa.cell? ⟨eb, 0, none⟩ = some (vi e.f) := by rw [cell_of HX.out]; rfl
      have x1 : wa.cell? ⟨eb, 1, none⟩ = some (vi e.t) := by rw [cell_of HX.out]; rfl
      have b0 : (e.f != e.f) = false := by simp
      have b1 : (e.t != e.t) = false := by simp
      go_quiet (fail)
      go_wp2_with fail
      exact ⟨⟨k + 1, by omega, by go_num, Lib.hid (below_drewN HBA.out _)⟩, by simp only [intOf]; omega⟩
    · have k1 : decide ((k : Int) < es.length) = false := decide_eq_false (by omega)
      clear HJ
      have HN0 := Lib.hid (World.ownsRow_lit (base := w.heap.size) (e := 27) (size := 3) wj #[] 0 HBJ.out.size (by simp [maxLen]) rfl)
      have HB0 := Lib.hid (HBJ.out.alloc HBJ.out.size (.cells #[] 27))
      go_wp2_with fail
      generalize wj.alloc (.cells #[] 27) = w4 at *
      go_loopw [8, 52] (fun x i wr => ∃ k : Nat, k ≤ es.length ∧ i = .int .i64 k ∧ Hid (OwE w.heap.size wr x ((es.take k).filter (fun e => e.k == 3)) ∧ Below w.heap.size w wr)) (fun _ i _ => es.length - (intOf i).toNat)
      case atStart => exact ⟨0, Nat.zero_le _, rfl, Lib.hid ⟨by simpa [OwE] using HN0.out, HB0.out⟩⟩
      case round =>
        obtain ⟨wq, rfl⟩ : ∃ wq : World, wq = wr := ⟨_, rfl⟩
        obtain ⟨j, hj, rfl, HQ⟩ := hrel
        have hlq : ((es.take j).filter (fun e => e.k == 3)).length ≤ 60 := by
          have h1 := List.length_filter_le (fun e : GEdge => e.k == 3) (es.take j)
          have h2 : (es.take j).length ≤ j := List.length_take_le _ _
          omega
        obtain ⟨aq, cq, rfl⟩ := Gr.own_shape (show World.ownsRow _ _ _ _ _ ((es.take j).filter (fun e => e.k == 3)).length _ from HQ.out.1)
        have HO := Lib.hid (show wq.ownsRow w.heap.size 27 3 _ ((es.take j).filter (fun e => e.k == 3)).length (((es.take j).filter (fun e => e.k == 3)).flatMap edV) from HQ.out.1)
        have HBq := Lib.hid HQ.out.2
        obtain ⟨n1, hn1⟩ : ∃ n, n = ((es.take j).filter (fun e => e.k == 3)).length := ⟨_, rfl⟩
        have HN1 := Lib.hid hn1
        rw [← hn1] at HO hlq ⊢
        clear HQ hn1
        by_cases hltq : j < es.length
        · have j1 : decide ((j : Int) < es.length) = true := decide_eq_true (by omega)
          have j2 : (j : Int) < es.length := by omega
          have hwj : IntKind.i64.wrap ((j : Int) + 1) = (j : Int) + 1 := IntWalk.i64_in _ (by omega)
          obtain ⟨g, hg⟩ := some_at hltq
          obtain ⟨_, _, _, e5, -, -, hcl⟩ := (HV.out.later HBq.out).at
          cases e5
          obtain ⟨b, off, rfl, c0, c1, c2'⟩ := hcl j g hg
          have HNX := Lib.hid (weak_next hg)
          have HXg := Lib.hid (alloc_at wq (.cells #[vi g.f, vi g.t, vi g.k] 27))
          have HOg := Lib.hid (HO.out.alloc (.cells #[vi g.f, vi g.t, vi g.k] 27))
          have HBg := Lib.hid (HBq.out.alloc HBq.out.size (.cells #[vi g.f, vi g.t, vi g.k] 27))
          clear hcl hg
          go_upto_region 18 with fail
          clear c0 c1 c2'
          generalize wq.alloc (.cells #[vi g.f, vi g.t, vi g.k] 27) = wb at *
          obtain ⟨gb, hgb⟩ : ∃ gb, gb = wq.heap.size := ⟨_, rfl⟩
          rw [← hgb] at HXg ⊢
          clear hgb
          have y0 : wb.cell? ⟨gb, 0, none⟩ = some (vi g.f) := by rw [cell_of HXg.out]; rfl
          have y1 : wb.cell? ⟨gb, 1, none⟩ = some (vi g.t) := by rw [cell_of HXg.out]; rfl
          have y2 : wb.cell? ⟨gb, 2, none⟩ = some (vi g.k) := by rw [cell_of HXg.out]; rfl
          cases hg3 : (g.k == 3) with
          | true =>
            have HE := Lib.hid (show (if (g.k == 3) = true then [g] else []) = [g] from by rw [hg3]; rfl)
            go_wp2_with (at_builtin; refine wpList_append_src rfl _ _ 22 rfl eltEdge w.heap.size n1 _ (World.ownsRow.alloc HOg.out _) rfl 1 (edV g) (src_new (cs := #[vi g.f, vi g.t, vi g.k]) rfl rfl) rfl (edV_one _) (by omega) (by omega) (by have := HBg.out.size; simp; omega) ?_; intro v5 w5 ho5 hg5 _; have HO5 := Lib.hid ho5; have HB5 := Lib.hid ((HBg.out.alloc HBg.out.size _).grown hg5 (by have := HBg.out.size; simp; omega) (fun j hj => (World.ownsRow.lt HOg.out j hj).1)); clear ho5 hg5)
            exact ⟨⟨j + 1, by omega, by go_num, Lib.hid ⟨by rw [HNX.out, HE.out]; unfold OwE; have h := HO5.out; rw [HN1.out] at h; simpa using h, HB5.out⟩⟩, by simp only [intOf]; omega⟩
          | false =>
            have HE := Lib.hid (show (if (g.k == 3) = true then [g] else []) = [] from by rw [hg3]; rfl)
            go_wp2_with fail
            exact ⟨⟨j + 1, by omega, by go_num, Lib.hid ⟨by rw [HNX.out, HE.out, List.append_nil]; unfold OwE; have h := HOg.out; rw [HN1.out] at h; rw [HN1.out]; exact h, HBg.out⟩⟩, by simp only [intOf]; omega⟩
        · have j1 : decide ((j : Int) < es.length) = false := decide_eq_false (by omega)
          have HWK := Lib.hid (lift_weak ((es.take j).filter (fun e => e.k == 3)) (fun e he => by have := (List.mem_filter.1 he).2; simpa using this))
          have HRD := Lib.hid (show RdEdges wq (.slice aq n1 cq) ((es.take j).filter (fun e => e.k == 3)) from by
            have h := HO.out
            rw [HN1.out] at h ⊢
            exact OwE.rd h)
          go_wp2_with (go_at_call 13; refine (lift_call _ _ 1 wq HRD.out (by rw [← HN1.out]; omega) (by rw [HWK.out]; simp)).mono ?_; rintro e6 w6 ⟨v6, rfl, ho6, hb6⟩; rw [HWK.out] at ho6; obtain ⟨a6, c6, rfl⟩ := Gr.own_shape ho6; have HB6 := Lib.hid (HBq.out.trans (hb6.mono HBq.out.size)); clear ho6 hb6)
          go_ret
          exact ⟨rfl, HB6.out⟩
end Go.Proofs.Ytefpmcbpodlabaa.depsLifts
