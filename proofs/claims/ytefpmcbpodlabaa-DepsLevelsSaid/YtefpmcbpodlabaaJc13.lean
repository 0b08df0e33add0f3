/- Texts of one proof, one behind the other: DpEdP, Head, DpBroken, DpHead, DpFl, DpSome, OfSet. -/
import Derived.Test.YtefpmcbpodlabaaJc5
import Derived.Test.YtefpmcbpodlabaaJc2
import Derived.Test.YtefpmcbpodlabaaJc3
import Derived.Test.YtefpmcbpodlabaaJc12
import Derived.Test.YtefpmcbpodlabaaJc11
set_option linter.all false
/- What the edges of a history are, plain: bounds. Names no function. -/
namespace Go.Proofs.Ytefpmcbpodlabaa
open Go.RowKit Go.Maps

theorem zip_mem {α : Type} {l : List α} {p : α × Nat} : p ∈ l.zipIdx ↔ l[p.2]? = some p.1 := by
  obtain ⟨x, i⟩ := p
  rw [List.mem_zipIdx_iff_getElem?]
theorem mem_addE {f t k : Int} {e : GEdge} : e ∈ addE f t k ↔ f ≠ t ∧ e = ⟨f, t, k⟩ := by
  unfold addE; split <;> simp_all
theorem rds_mem {ts : List GTxn} {dn : Nat → Bool} {r : GRd} : r ∈ rdsL ts dn ↔ ∃ (i : Nat) (t : GTxn) (o : GOp), ts[i]? = some t ∧ o ∈ readsM t ∧ (srcM ts o.key o.val).2 = true ∧ ((srcM ts o.key o.val).1 < 0 ∨ dn (srcM ts o.key o.val).1.toNat = true) ∧ r = ⟨i, (srcM ts o.key o.val).1, o.key⟩ := by
  unfold rdsL readsOf
  simp only [List.mem_flatMap]
  constructor
  · rintro ⟨p, hp, o, ho, hr⟩
    unfold readOf at hr
    split at hr
    · rename_i hc
      simp only [List.mem_singleton] at hr
      simp only [Bool.and_eq_true, Bool.not_eq_true', Bool.and_eq_false_iff, decide_eq_false_iff_not, Bool.not_eq_false'] at hc
      refine ⟨p.2, p.1, o, zip_mem.1 hp, ho, hc.1, ?_, hr⟩
      rcases hc.2 with h | h
      · exact .inl (by omega)
      · exact .inr h
    · simp at hr
  · rintro ⟨i, t, o, ht, ho, h1, h2, rfl⟩
    refine ⟨(t, i), zip_mem.2 ht, o, ho, ?_⟩
    unfold readOf
    rw [if_pos]
    · simp
    · simp only [Bool.and_eq_true, Bool.not_eq_true', Bool.and_eq_false_iff, decide_eq_false_iff_not, Bool.not_eq_false']
      refine ⟨h1, ?_⟩
      rcases h2 with h | h
      · exact .inl (by omega)
      · exact .inr h
theorem src_lt {ts : List GTxn} {key val : Int} (h : (srcM ts key val).2 = true) : (srcM ts key val).1 = -1 ∧ val = 0 ∨ ∃ n : Nat, (srcM ts key val).1 = n ∧ n < ts.length ∧ val ≠ 0 ∧ getM (byN ts ts.length) (key, val) = some (n : Int) := by
  unfold srcM at *
  split at h
  · rename_i h0
    rw [if_pos h0]; exact .inl ⟨rfl, h0⟩
  · rename_i h0
    rw [if_neg h0]
    cases hg : getM (byN ts ts.length) (key, val) with
    | none => rw [hg] at h; cases h
    | some z =>
      obtain ⟨i, rfl, hi⟩ := byN_lt ts _ z ts.length (Nat.le_refl _) hg
      exact .inr ⟨i, rfl, hi, h0, rfl⟩
theorem has1_iff {ts : List GTxn} {dn : Nat → Bool} {key i : Int} : has1 ts dn key i = true ↔ ∃ (n : Nat) (t : GTxn), i = n ∧ ts[n]? = some t ∧ dn n = true ∧ t.ops.any (wkB key) = true := by
  unfold has1
  constructor
  · intro h
    simp only [Bool.and_eq_true, decide_eq_true_eq] at h
    obtain ⟨⟨⟨h1, h2⟩, h3⟩, h4⟩ := h
    obtain ⟨n, rfl⟩ : ∃ n : Nat, i = n := ⟨i.toNat, by omega⟩
    rw [Int.toNat_natCast] at h3 h4
    obtain ⟨t, ht⟩ : ∃ t, ts[n]? = some t := ⟨_, List.getElem?_eq_getElem (by omega)⟩
    rw [ht] at h4
    exact ⟨n, t, rfl, ht, h3, h4⟩
  · rintro ⟨n, t, rfl, ht, h3, h4⟩
    have hn := (List.getElem?_eq_some_iff.1 ht).1
    rw [Int.toNat_natCast, ht, h3]
    have h1 : decide ((0 : Int) ≤ (n : Int)) = true := decide_eq_true (by omega)
    have h2 : decide ((n : Int) < (ts.length : Int)) = true := decide_eq_true (by omega)
    rw [h1, h2]; simpa using h4
theorem edge_mem {ts : List GTxn} {L : FaL} {e : GEdge} : e ∈ edgeL ts L ↔
    (∃ r ∈ rdsL ts (dnM ts L), 0 ≤ r.of_ ∧ r.of_ ≠ r.by_ ∧ e = ⟨r.of_, r.by_, 2⟩) ∨
    (∃ (i : Nat) (t : GTxn) (o : GOp) (r : GRd), ts[i]? = some t ∧ dnM ts L i = true ∧ o ∈ writesM t.ops ∧ r ∈ rdsL ts (dnM ts L) ∧ r.of_ < 0 ∧ r.key = o.key ∧ r.by_ ≠ i ∧ e = ⟨r.by_, i, 3⟩) ∨
    (∃ p ∈ L, ∃ a b : Int, p.1.kind = 2 ∧ hasM ts (dnM ts L) p.1 = true ∧ (p.2 = true ∧ a = p.1.a ∧ b = p.1.b ∨ p.2 = false ∧ a = p.1.b ∧ b = p.1.a) ∧
      (a ≠ b ∧ e = ⟨a, b, 1⟩ ∨ ∃ r ∈ rdsL ts (dnM ts L), r.of_ = a ∧ r.key = p.1.key ∧ r.by_ ≠ b ∧ e = ⟨r.by_, b, 3⟩)) := by
  unfold edgeL edge0
  rw [List.mem_append, List.mem_append, or_assoc]
  refine or_congr ?_ (or_congr ?_ ?_)
  · rw [List.mem_flatMap]
    constructor
    · rintro ⟨r, hr, he⟩
      unfold wrEdge at he
      split at he
      · rename_i h0
        obtain ⟨h1, h2⟩ := mem_addE.1 he
        exact ⟨r, hr, h0, h1, h2⟩
      · simp at he
    · rintro ⟨r, hr, h0, h1, h2⟩
      refine ⟨r, hr, ?_⟩
      unfold wrEdge; rw [if_pos h0]; exact mem_addE.2 ⟨h1, h2⟩
  · rw [List.mem_flatMap]
    constructor
    · rintro ⟨p, hp, he⟩
      unfold rwT at he
      split at he
      · rename_i hd
        obtain ⟨o, ho, he⟩ := List.mem_flatMap.1 he
        obtain ⟨r, hr, he⟩ := List.mem_flatMap.1 he
        unfold rwR at he
        split at he
        · rename_i hc
          obtain ⟨h1, h2⟩ := mem_addE.1 he
          exact ⟨p.2, p.1, o, r, zip_mem.1 hp, hd, ho, hr, hc.1, hc.2, h1, h2⟩
        · simp at he
      · simp at he
    · rintro ⟨i, t, o, r, ht, hd, ho, hr, h1, h2, h3, h4⟩
      refine ⟨(t, i), zip_mem.2 ht, ?_⟩
      unfold rwT
      rw [if_pos hd]
      refine List.mem_flatMap.2 ⟨o, ho, List.mem_flatMap.2 ⟨r, hr, ?_⟩⟩
      unfold rwR; rw [if_pos ⟨h1, h2⟩]; exact mem_addE.2 ⟨h3, h4⟩
  · rw [List.mem_flatMap]
    have hw : ∀ (R : List GRd) (a b key : Int), e ∈ wwL R a b key ↔ (a ≠ b ∧ e = ⟨a, b, 1⟩ ∨ ∃ r ∈ R, r.of_ = a ∧ r.key = key ∧ r.by_ ≠ b ∧ e = ⟨r.by_, b, 3⟩) := fun R a b key => by
      unfold wwL
      rw [List.mem_append, mem_addE, List.mem_flatMap]
      refine or_congr Iff.rfl ?_
      constructor
      · rintro ⟨r, hr, he⟩
        unfold wwR at he
        split at he
        · rename_i hc
          obtain ⟨h1, h2⟩ := mem_addE.1 he
          exact ⟨r, hr, hc.1, hc.2, h1, h2⟩
        · simp at he
      · rintro ⟨r, hr, h1, h2, h3, h4⟩
        refine ⟨r, hr, ?_⟩
        unfold wwR; rw [if_pos ⟨h1, h2⟩]; exact mem_addE.2 ⟨h3, h4⟩
    constructor
    · rintro ⟨p, hp, he⟩
      unfold factE at he
      split at he
      · rename_i hc
        cases hs : p.2 with
        | true => rw [hs] at he; exact ⟨p, hp, _, _, hc.1, hc.2, .inl ⟨hs, rfl, rfl⟩, (hw _ _ _ _).1 he⟩
        | false => rw [hs] at he; exact ⟨p, hp, _, _, hc.1, hc.2, .inr ⟨hs, rfl, rfl⟩, (hw _ _ _ _).1 he⟩
      · simp at he
    · rintro ⟨p, hp, a, b, h1, h2, h3, h4⟩
      refine ⟨p, hp, ?_⟩
      unfold factE
      rw [if_pos ⟨h1, h2⟩]
      rcases h3 with ⟨hs, rfl, rfl⟩ | ⟨hs, rfl, rfl⟩
      · rw [hs]; exact (hw _ _ _ _).2 h4
      · rw [hs]; exact (hw _ _ _ _).2 h4
theorem rd_by {ts : List GTxn} {dn : Nat → Bool} {r : GRd} (h : r ∈ rdsL ts dn) : 0 ≤ r.by_ ∧ r.by_ < ts.length ∧ (r.of_ = -1 ∨ (0 ≤ r.of_ ∧ r.of_ < ts.length)) := by
  obtain ⟨i, t, o, ht, ho, h1, h2, rfl⟩ := rds_mem.1 h
  have hi := (List.getElem?_eq_some_iff.1 ht).1
  refine ⟨by simp, by simp; omega, ?_⟩
  rcases src_lt h1 with ⟨h, -⟩ | ⟨n, h, hn, -⟩
  · exact .inl h
  · exact .inr (by simp only; omega)
theorem hasM_in {ts : List GTxn} {dn : Nat → Bool} {c : GChoice} (h : hasM ts dn c = true) : (0 ≤ c.a ∧ c.a < ts.length) ∧ (0 ≤ c.b ∧ c.b < ts.length) := by
  unfold hasM at h
  simp only [Bool.and_eq_true] at h
  obtain ⟨h1, h2⟩ := h
  obtain ⟨n, t, hn, ht, -⟩ := has1_iff.1 h1
  obtain ⟨m, u, hm, hu, -⟩ := has1_iff.1 h2
  have := (List.getElem?_eq_some_iff.1 ht).1
  have := (List.getElem?_eq_some_iff.1 hu).1
  omega
theorem edge_in {ts : List GTxn} {L : FaL} {e : GEdge} (h : e ∈ edgeL ts L) : (0 ≤ e.f ∧ e.f < ts.length) ∧ (0 ≤ e.t ∧ e.t < ts.length) ∧ (e.k = 1 ∨ e.k = 2 ∨ e.k = 3) ∧ e.f ≠ e.t := by
  rcases edge_mem.1 h with ⟨r, hr, h0, h1, rfl⟩ | ⟨i, t, o, r, ht, hd, ho, hr, h1, h2, h3, rfl⟩ | ⟨p, hp, a, b, h1, h2, h3, ⟨h4, rfl⟩ | ⟨r, hr, h5, h6, h7, rfl⟩⟩
  · have := rd_by hr; exact ⟨by simp only; omega, by simp only; omega, .inr (.inl rfl), h1⟩
  · have := rd_by hr
    have := (List.getElem?_eq_some_iff.1 ht).1
    exact ⟨by simp only; omega, by simp only; omega, .inr (.inr rfl), h3⟩
  · have := hasM_in h2
    exact ⟨by simp only; omega, by simp only; omega, .inl rfl, h4⟩
  · have := hasM_in h2
    have := rd_by hr
    exact ⟨by simp only; omega, by simp only; omega, .inr (.inr rfl), h7⟩

/-- How many edges there can be. -/
def allE (n : Nat) : List GEdge := (List.range n).flatMap (fun a : Nat => (List.range n).flatMap (fun b : Nat => [⟨(a : Int), (b : Int), 1⟩, ⟨(a : Int), (b : Int), 2⟩, ⟨(a : Int), (b : Int), 3⟩]))
theorem sum_len {α : Type} (g : Nat → List α) (c : Nat) (h : ∀ i, (g i).length = c) (n : Nat) : ((List.range n).flatMap g).length = n * c := by
  induction n with
  | zero => simp
  | succ n ih => rw [List.range_succ, List.flatMap_append, List.length_append, ih, Nat.add_mul, Nat.one_mul]; simp [h]
theorem allE_len (n : Nat) : (allE n).length = n * (n * 3) := by
  unfold allE
  exact sum_len _ _ (fun a => sum_len _ 3 (fun b => rfl) n) n
theorem allE_mem {n : Nat} {e : GEdge} (h1 : 0 ≤ e.f ∧ e.f < n) (h2 : 0 ≤ e.t ∧ e.t < n) (h3 : e.k = 1 ∨ e.k = 2 ∨ e.k = 3) : e ∈ allE n := by
  obtain ⟨f, t, k⟩ := e
  simp only at h1 h2 h3
  unfold allE
  obtain ⟨f', rfl⟩ : ∃ m : Nat, f = m := ⟨f.toNat, by omega⟩
  obtain ⟨t', rfl⟩ : ∃ m : Nat, t = m := ⟨t.toNat, by omega⟩
  refine List.mem_flatMap.2 ⟨f', List.mem_range.2 (by omega), List.mem_flatMap.2 ⟨t', List.mem_range.2 (by omega), ?_⟩⟩
  rcases h3 with rfl | rfl | rfl <;> simp
theorem ltE_nodup {l : List GEdge} (h : l.Pairwise ltE) : l.Nodup := h.imp fun h e => by subst e; exact ltE_irr _ h
theorem edges_in {ts : List GTxn} {L : FaL} {l : List GEdge} (h : EdgesOf ts L l) : InN ts.length l := fun e he => by
  have := edge_in ((h.2 e).1 he)
  exact ⟨this.1, this.2.1⟩
theorem edges_len {ts : List GTxn} {L : FaL} {l : List GEdge} (h : EdgesOf ts L l) : l.length ≤ ts.length * (ts.length * 3) := by
  rw [← allE_len]
  refine nodup_len l _ (ltE_nodup h.1) (fun e he => ?_)
  have := edge_in ((h.2 e).1 he)
  exact allE_mem this.1 this.2.1 this.2.2.1
theorem lift1_len (es : List GEdge) (level : Int) (e : GEdge) (n : Nat) (hs : es.Pairwise ltE) (hi : InN n es) : (lift1 es level e).length ≤ 1 + n := by
  unfold lift1
  rw [List.length_append]
  have h1 : (if level ≠ 1 ∨ e.k ≠ 3 then [(e.f, e.t)] else []).length ≤ 1 := by split <;> simp
  have h2 : (if level ≠ 1 ∨ e.k = 3 then [] else es.flatMap (fun g => if g.k = 3 ∧ g.f = e.t then [(e.f, g.t)] else [])).length ≤ n := by
    split
    · simp
    · have e1 : es.flatMap (fun g => if g.k = 3 ∧ g.f = e.t then [(e.f, g.t)] else []) = (es.filter (fun g => decide (g.k = 3 ∧ g.f = e.t))).map (fun g => (e.f, g.t)) := by
        clear hs hi
        induction es with
        | nil => rfl
        | cons x es ih =>
          rw [List.flatMap_cons, ih, List.filter_cons]
          by_cases hc : x.k = 3 ∧ x.f = e.t
          · rw [if_pos hc, if_pos (decide_eq_true hc)]; rfl
          · rw [if_neg hc, if_neg (by simp [hc])]; rfl
      rw [e1, List.length_map]
      have hp := (hs.filter (fun g => decide (g.k = 3 ∧ g.f = e.t)))
      have hl := nodup_len ((es.filter (fun g => decide (g.k = 3 ∧ g.f = e.t))).map (·.t)) ((List.range n).map (fun i : Nat => (i : Int))) ?_ ?_
      · simpa using hl
      · rw [List.nodup_iff_pairwise_ne, List.pairwise_map]
        refine List.Pairwise.imp_of_mem ?_ hp
        intro a b ha hb hab
        have h3 := (List.mem_filter.1 ha).2
        have h4 := (List.mem_filter.1 hb).2
        simp only [decide_eq_true_eq] at h3 h4
        unfold ltE at hab
        omega
      · intro x hx
        obtain ⟨g, hg, rfl⟩ := List.mem_map.1 hx
        have := hi g (List.mem_filter.1 hg).1
        exact List.mem_map.2 ⟨g.t.toNat, List.mem_range.2 (by omega), by omega⟩
  omega
theorem lift_len {ts : List GTxn} {L : FaL} {l : List GEdge} (h : EdgesOf ts L l) (level : Int) (hn : ts.length ≤ 60) : l.length ≤ 1000000 ∧ (liftL l level).length ≤ 1000000 := by
  have h1 := edges_len h
  have h2 : ∀ m : List GEdge, (m.flatMap (lift1 l level)).length ≤ m.length * (1 + ts.length) := fun m => by
    induction m with
    | nil => simp
    | cons x m ih =>
      have := lift1_len l level x ts.length h.1 (edges_in h)
      rw [List.flatMap_cons, List.length_append, List.length_cons, Nat.add_mul, Nat.one_mul]; omega
  have h3 := h2 l
  have h4 : ts.length * 3 ≤ 180 := by omega
  have h5 := Nat.mul_le_mul hn h4
  have h6 := Nat.mul_le_mul (Nat.le_trans h1 h5) (show 1 + ts.length ≤ 61 by omega)
  unfold liftL
  omega
end Go.Proofs.Ytefpmcbpodlabaa

/- cruciblelaw09.head: the document's example. -/
namespace Go.Proofs.Ytefpmcbpodlabaa
open Go.RowKit Go.Maps

theorem rd_txns_own {A : World} {base : Nat} {v : Value} {L : TxL} (h : A.ownsRow base 46 3 v L.length (L.flatMap txV)) (ho : ∀ p ∈ L, RdOps A p.2 p.1.ops) : RdTxns A v (L.map (·.1)) := by
  obtain ⟨a, len, cap, h1, h2, h3, h4, h5, h6⟩ := rds_of_own (V := txV) txV_length h
  refine ⟨a, len, cap, h1, by simpa using h2, by simpa using h3, h4, h5, fun j x hj => ?_⟩
  rw [List.getElem?_map, Option.map_eq_some_iff] at hj
  obtain ⟨p, hp, rfl⟩ := hj
  obtain ⟨b, off, cs, ha, hl, hc, rfl⟩ := h6 j p hp
  exact ⟨b, off, _, ha, hl, hc, p.2, rfl, ho p (List.mem_of_getElem? hp)⟩

def headT : List GTxn := [⟨1, 0, [⟨2, 0, 5⟩]⟩, ⟨2, 1, [⟨2, 0, 6⟩]⟩]
def headC : List GChoice := [⟨1, 0, 0, 0⟩, ⟨2, 0, 0, 1⟩]
theorem head_choices : choicesM headT = headC := by rfl
theorem head_ok : OkTxns headT := by
  refine ⟨by decide, fun t ht => ?_⟩
  simp [headT] at ht
  rcases ht with rfl | rfl <;> exact ⟨fun o ho => by simp at ho; subst ho; simp [i64], by decide⟩

/-- The example lies in three new blocks. -/
theorem head_rd (w : World) : RdTxns (((w.alloc (.cells #[vi 2, vi 0, vi 5] 48)).alloc (.cells #[vi 2, vi 0, vi 6] 48)).alloc (.cells #[vi 1, vi 0, .slice (some ⟨w.heap.size, 0, none⟩) 1 1, vi 2, vi 1, .slice (some ⟨w.heap.size + 1, 0, none⟩) 1 1] 46)) (.slice (some ⟨w.heap.size + 2, 0, none⟩) 2 2) headT := by
  have h1 : OwOps w.heap.size (w.alloc (.cells #[vi 2, vi 0, vi 5] 48)) (.slice (some ⟨w.heap.size, 0, none⟩) 1 1) [⟨2, 0, 5⟩] := World.ownsRow_lit w #[vi 2, vi 0, vi 5] 1 (Nat.le_refl _) (by simp [maxLen]) rfl
  have h2 : OwOps w.heap.size ((w.alloc (.cells #[vi 2, vi 0, vi 5] 48)).alloc (.cells #[vi 2, vi 0, vi 6] 48)) (.slice (some ⟨w.heap.size + 1, 0, none⟩) 1 1) [⟨2, 0, 6⟩] := by
    have := World.ownsRow_lit (base := w.heap.size) (e := 48) (size := 3) (w.alloc (.cells #[vi 2, vi 0, vi 5] 48)) #[vi 2, vi 0, vi 6] 1 (by simp) (by simp [maxLen]) rfl
    simpa [OwOps, opV] using this
  have h3 := World.ownsRow_lit (base := w.heap.size) (e := 46) (size := 3) ((w.alloc (.cells #[vi 2, vi 0, vi 5] 48)).alloc (.cells #[vi 2, vi 0, vi 6] 48)) #[vi 1, vi 0, .slice (some ⟨w.heap.size, 0, none⟩) 1 1, vi 2, vi 1, .slice (some ⟨w.heap.size + 1, 0, none⟩) 1 1] 2 (by simp; omega) (by simp [maxLen]) rfl
  refine rd_txns_own (base := w.heap.size) (L := [(⟨1, 0, [⟨2, 0, 5⟩]⟩, .slice (some ⟨w.heap.size, 0, none⟩) 1 1), (⟨2, 1, [⟨2, 0, 6⟩]⟩, .slice (some ⟨w.heap.size + 1, 0, none⟩) 1 1)]) (by simpa [txV] using h3) fun p hp => ?_
  simp at hp
  rcases hp with rfl | rfl
  · exact OwOps.rd (World.ownsRow.alloc (World.ownsRow.alloc h1 _) _)
  · exact OwOps.rd (World.ownsRow.alloc h2 _)

set_option maxRecDepth 100000 in
set_option maxHeartbeats 1000000 in
theorem head_call (w : World) : Calls Try.prog 25 #[] w fun e w' => e = .returned (.bool true) ∧ Below w.heap.size w w' := by
  have HT := Lib.hid (head_rd w)
  have HB := Lib.hid ((((Below.refl w.heap.size w).alloc (Nat.le_refl _) (.cells #[vi 2, vi 0, vi 5] 48)).alloc (by simp) (.cells #[vi 2, vi 0, vi 6] 48)).alloc (by simp; omega) (.cells #[vi 1, vi 0, .slice (some ⟨w.heap.size, 0, none⟩) 1 1, vi 2, vi 1, .slice (some ⟨w.heap.size + 1, 0, none⟩) 1 1] 46))
  go_enter Try.func25, Try.ntmps25
  go_upto_region 2 with fail
  generalize ((w.alloc (.cells #[vi 2, vi 0, vi 5] 48)).alloc (.cells #[vi 2, vi 0, vi 6] 48)).alloc (.cells #[vi 1, vi 0, .slice (some ⟨w.heap.size, 0, none⟩) 1 1, vi 2, vi 1, .slice (some ⟨w.heap.size + 1, 0, none⟩) 1 1] 46) = w3 at *
  have hw3 := HB.out.size
  go_upto_region 3 with (go_at_call 32; refine (choices_call _ headT _ HT.out head_ok (by decide)).mono ?_; rw [head_choices]; rintro e w4 ⟨v1, rfl, ho, hb⟩; have hr := ho.rd; obtain ⟨a, len, cap, rfl, rfl, hm, hcl⟩ := hr.at)
  obtain ⟨b, off, rfl, m0, m1, m2, m3⟩ := hcl 0 ⟨1, 0, 0, 0⟩ rfl
  obtain ⟨_, _, e6, n0, n1, n2, n3⟩ := hcl 1 ⟨2, 0, 0, 1⟩ rfl
  cases e6
  have HB4 := Lib.hid (HB.out.trans (hb.mono hw3))
  have HT4 := Lib.hid (HT.out.later hb)
  have hl : headC.length = 2 := rfl
  clear hcl hm ho hr hb
  simp only [Nat.zero_mul, Nat.add_zero, Nat.one_mul, Nat.add_assoc, Nat.reduceAdd] at m0 m1 m2 m3 n0 n1 n2 n3
  go_wp2_with (go_at_call 55; refine (bound_call _ headT _ HT4.out head_ok (by decide)).mono ?_; rw [head_choices]; rintro e w5 ⟨rfl, hb5⟩)
  go_ret
  exact ⟨by rfl, HB4.out.trans (hb5.mono HB4.out.size)⟩
end Go.Proofs.Ytefpmcbpodlabaa

/- deps.Broken; cruciblelaw10's example and head. -/
namespace Go.Proofs.Ytefpmcbpodlabaa
open Go.RowKit Go.Maps
attribute [local go_sem] Oper.semAt_some

theorem OwA.rd {base : Nat} {w : World} {v : Value} {l : List (Int × Int)} (h : OwA base w v l) : RdArcs w v l := by
  have h1 : RdS 2 (fun _ cs x => cs = arcV x) w v l := rds_of_own (V := arcV) (fun _ => rfl) h
  exact h1
/-- What is known of what Broken hands back. -/
def BrokenQ (ts : List GTxn) (L : FaL) (level : Int) (w : World) (e : Ending) (w' : World) : Prop :=
  ∃ v' l C, e = .returned v' ∧ EdgesOf ts L l ∧ w'.ownsRow w.heap.size 3 1 v' C.length ((C.map natI).flatMap viC) ∧ CycI (nextT (sizeM ts.length) (liftL l level)) (sizeM ts.length) C ∧ Below w.heap.size w w'
/-- How large a history may be. -/
structure SmallH (ts : List GTxn) (L : FaL) (c : Nat) : Prop where
  len : ts.length ≤ 60
  ops : ∀ t ∈ ts, t.ops.length ≤ c
  room : ts.length * c ≤ 100000000 ∧ ts.length * c + ts.length * (16 * (ts.length * c)) + L.length * (1 + ts.length * c) ≤ 800000000

set_option maxRecDepth 100000 in
set_option maxHeartbeats 4000000 in
theorem broken_call (v mv : Value) (ts : List GTxn) (L : FaL) (c : Nat) (level : Int) (w : World) (hv : RdTxns w v ts) (hok : OkTxns ts) (hm : FaV w mv L) (hs : SmallH ts L c) :
    Calls Try.prog 19 #[v, mv, vi level] w (BrokenQ ts L level w) := by
  have HV := Lib.hid hv
  have HM := Lib.hid hm
  have HOK := Lib.hid hok
  have HS := Lib.hid hs
  obtain ⟨ta, nt, tc, rfl, rfl, hmm, -⟩ := hv.at
  clear hv hm hok hs
  go_enter Try.func19, Try.ntmps19
  go_wp2_with (first
    | (go_at_call 16; refine (edges_call _ mv ts L c w HV.out HOK.out (by have := HS.out.len; omega) HM.out HS.out.ops HS.out.room).mono ?_; rintro e1 w1 ⟨v1, l, rfl, ho1, he1, hb1⟩; have HO1 := Lib.hid ho1; have HE1 := Lib.hid he1; have HB1 := Lib.hid hb1; have HLL := Lib.hid (lift_len he1 level HS.out.len); clear ho1 he1 hb1)
    | (go_at_call 13; refine (lift_call v1 l level w1 HO1.out.rd HLL.out.1 (Nat.le_trans HLL.out.2 (by omega))).mono ?_; rintro e2 w2 ⟨v2, rfl, ho2, hb2⟩; have HO2 := Lib.hid ho2; have HB2 := Lib.hid (HB1.out.trans (hb2.mono HB1.out.size)); clear ho2 hb2)
    | (go_at_call 49; refine (cycle_call (ts.length : Int) (liftL l level) v2 w2 HO2.out.rd HLL.out.2).mono ?_; rintro e3 w3 ⟨v3, C, rfl, ho3, hc3, hb3⟩; have HO3 := Lib.hid ho3; have HC3 := Lib.hid hc3; have HB3 := Lib.hid hb3; clear ho3 hc3 hb3))
  go_ret
  exact ⟨v3, l, C, rfl, HE1.out, own_mono HO3.out HB2.out.size, HC3.out, HB2.out.trans (HB3.out.mono HB2.out.size)⟩

def skewT : List GTxn := [⟨1, 1, [⟨1, 0, 0⟩, ⟨2, 1, 1⟩]⟩, ⟨2, 1, [⟨1, 1, 0⟩, ⟨2, 0, 2⟩]⟩]
theorem skew_ok : OkTxns skewT := by
  refine ⟨by decide, fun t ht => ?_⟩
  simp [skewT] at ht
  rcases ht with rfl | rfl <;> exact ⟨fun o ho => by simp at ho; rcases ho with rfl | rfl <;> simp [i64], by decide⟩
theorem skew_small : SmallH skewT [] 2 := ⟨by decide, fun t ht => by simp [skewT] at ht; rcases ht with rfl | rfl <;> decide, by decide, by decide⟩
def skewE : List GEdge := [⟨0, 1, 3⟩, ⟨1, 0, 3⟩]
theorem skew_edges {l : List GEdge} (h : EdgesOf skewT [] l) : l = skewE := by
  have e0 : edgeL skewT [] = [⟨1, 0, 3⟩, ⟨0, 1, 3⟩] ∨ edgeL skewT [] = [⟨0, 1, 3⟩, ⟨1, 0, 3⟩] := by decide
  refine edges_ext h.1 ?_ (fun p => ?_)
  · simp [skewE, ltE]
  · rw [h.2]
    rcases e0 with e0 | e0 <;> rw [e0] <;> simp [skewE] <;> (constructor <;> (rintro (h | h) <;> simp [h]))
end Go.Proofs.Ytefpmcbpodlabaa

/- cruciblelaw10.skew and head. -/
namespace Go.Proofs.Ytefpmcbpodlabaa
open Go.RowKit Go.Maps
attribute [local go_sem] Oper.semAt_some

theorem arcT_iff {n : Nat} {arcs : List (Int × Int)} {u v : Nat} : ArcT (nextT n arcs) u v ↔ ((u : Int), (v : Int)) ∈ arcs ∧ u < n ∧ v < n := by
  constructor
  · rintro ⟨l, h1, h2⟩
    have hu : u < n := by have := (List.getElem?_eq_some_iff.1 h1).1; rwa [nextT_len] at this
    rw [nextT_at hu] at h1
    cases h1
    have := rawRow_mem.1 ((sortC_mem _ _).1 h2)
    exact ⟨this.1, hu, by omega⟩
  · rintro ⟨h1, hu, hv⟩
    exact ⟨_, nextT_at hu, (sortC_mem _ _).2 (rawRow_mem.2 ⟨h1, hu, by omega, by omega⟩)⟩
theorem skew_arc {u v : Nat} : ArcT (nextT 2 (liftL skewE 2)) u v ↔ (u = 0 ∧ v = 1) ∨ (u = 1 ∧ v = 0) := by
  rw [arcT_iff, lift_serial]
  simp [skewE]
  omega
theorem skew_closed {s : Nat} {C : List Nat} (h : Closed (ArcT (nextT 2 (liftL skewE 2))) s C) : C.length ≤ 2 ∧ (s = 0 → C = [0, 1]) := by
  have hc := h.chain
  have hh := h.head
  have hn := h.nodup
  match C, hc, hh, hn, h.shut with
  | [], _, hh, _, _ => simp at hh
  | [a], _, hh, _, hs =>
    have := skew_arc.1 (hs a rfl)
    simp at hh
    omega
  | [a, b], hc, hh, _, _ =>
    refine ⟨Nat.le_refl _, fun h0 => ?_⟩
    have := skew_arc.1 hc.1
    simp at hh
    have h1 : a = 0 := by omega
    have h2 : b = 1 := by omega
    rw [h1, h2]
  | a :: b :: c :: l, hc, _, hn, _ =>
    exfalso
    have h1 := skew_arc.1 hc.1
    have h2 := skew_arc.1 hc.2.1
    have h3 : a = c := by omega
    have := (List.nodup_cons.1 hn).1
    exact this (by rw [h3]; simp)
theorem skew_cycle {C : List Nat} (h : CycI (nextT 2 (liftL skewE 2)) 2 C) : C = [0, 1] := by
  have hw : ∀ s, s < 2 → Way (ArcT (nextT 2 (liftL skewE 2))) s s := fun s hs => by
    have h01 : ArcT (nextT 2 (liftL skewE 2)) 0 1 := skew_arc.2 (.inl ⟨rfl, rfl⟩)
    have h10 : ArcT (nextT 2 (liftL skewE 2)) 1 0 := skew_arc.2 (.inr ⟨rfl, rfl⟩)
    have : s = 0 ∨ s = 1 := by omega
    rcases this with rfl | rfl
    · exact .more h01 (.one h10)
    · exact .more h10 (.one h01)
  rcases h with ⟨h1, h2⟩ | ⟨s0, h1, h2, h3⟩
  · exact absurd (hw 0 (by omega)) (h2 0 (by omega))
  · have hs0 : s0 = 0 := by
      apply Classical.byContradiction
      intro hne
      obtain ⟨C1, h4, h5, h6⟩ := h3 0 (by omega) (hw 0 (by omega))
      have h7 := h6 (by omega)
      have h8 := (skew_closed h4).1
      have hc := h2.chain
      have hh := h2.head
      have hl : 2 ≤ C.length := by
        match C, hh, h2.shut with
        | [], hh, _ => simp at hh
        | [a], hh, hs =>
          have := skew_arc.1 (hs a rfl)
          simp at hh
          omega
        | a :: b :: l, _, _ => simp
      omega
    exact (skew_closed h2).2 hs0
theorem no_cycle {T : List (List Int)} {C : List Nat} {n : Nat} (h : CycI T n C) (hT : ∀ u v, ¬ ArcT T u v) : C = [] := by
  have hw : ∀ s, ¬ Way (ArcT T) s s := fun s hw => by
    cases hw with
    | one h => exact hT _ _ h
    | more h _ => exact hT _ _ h
  rcases h with ⟨h1, _⟩ | ⟨s0, h1, h2, h3⟩
  · exact h1
  · have hh := h2.head
    cases C with
    | nil => rfl
    | cons a l =>
      obtain ⟨b, hb⟩ : ∃ b, (a :: l).getLast? = some b := ⟨_, List.getLast?_eq_some_getLast (by simp)⟩
      exact absurd (h2.shut b hb) (hT _ _)
theorem skew_snap {C : List Nat} (h : CycI (nextT 2 (liftL skewE 1)) 2 C) : C = [] :=
  no_cycle h (fun u v huv => by
    have := arcT_iff.1 huv
    rw [lift_weak skewE (fun e he => by simp [skewE] at he; rcases he with rfl | rfl <;> rfl)] at this
    simp at this)

def skewA : List Value := [vi 1, vi 0, vi 0, vi 2, vi 1, vi 1]
theorem skew_rd (w : World) : RdTxns (((w.alloc (.cells #[vi 1, vi 0, vi 0, vi 2, vi 1, vi 1] 48)).alloc (.cells #[vi 1, vi 1, vi 0, vi 2, vi 0, vi 2] 48)).alloc (.cells #[vi 1, vi 1, .slice (some ⟨w.heap.size, 0, none⟩) 2 2, vi 2, vi 1, .slice (some ⟨w.heap.size + 1, 0, none⟩) 2 2] 46)) (.slice (some ⟨w.heap.size + 2, 0, none⟩) 2 2) skewT := by
  have h1 : OwOps w.heap.size (w.alloc (.cells #[vi 1, vi 0, vi 0, vi 2, vi 1, vi 1] 48)) (.slice (some ⟨w.heap.size, 0, none⟩) 2 2) [⟨1, 0, 0⟩, ⟨2, 1, 1⟩] := World.ownsRow_lit w #[vi 1, vi 0, vi 0, vi 2, vi 1, vi 1] 2 (Nat.le_refl _) (by simp [maxLen]) rfl
  have h2 : OwOps w.heap.size ((w.alloc (.cells #[vi 1, vi 0, vi 0, vi 2, vi 1, vi 1] 48)).alloc (.cells #[vi 1, vi 1, vi 0, vi 2, vi 0, vi 2] 48)) (.slice (some ⟨w.heap.size + 1, 0, none⟩) 2 2) [⟨1, 1, 0⟩, ⟨2, 0, 2⟩] := by
    have := World.ownsRow_lit (base := w.heap.size) (e := 48) (size := 3) (w.alloc (.cells #[vi 1, vi 0, vi 0, vi 2, vi 1, vi 1] 48)) #[vi 1, vi 1, vi 0, vi 2, vi 0, vi 2] 2 (by simp) (by simp [maxLen]) rfl
    simpa [OwOps, opV] using this
  have h3 := World.ownsRow_lit (base := w.heap.size) (e := 46) (size := 3) ((w.alloc (.cells #[vi 1, vi 0, vi 0, vi 2, vi 1, vi 1] 48)).alloc (.cells #[vi 1, vi 1, vi 0, vi 2, vi 0, vi 2] 48)) #[vi 1, vi 1, .slice (some ⟨w.heap.size, 0, none⟩) 2 2, vi 2, vi 1, .slice (some ⟨w.heap.size + 1, 0, none⟩) 2 2] 2 (by simp; omega) (by simp [maxLen]) rfl
  refine rd_txns_own (base := w.heap.size) (L := [(⟨1, 1, [⟨1, 0, 0⟩, ⟨2, 1, 1⟩]⟩, .slice (some ⟨w.heap.size, 0, none⟩) 2 2), (⟨2, 1, [⟨1, 1, 0⟩, ⟨2, 0, 2⟩]⟩, .slice (some ⟨w.heap.size + 1, 0, none⟩) 2 2)]) (by simpa [txV] using h3) fun p hp => ?_
  simp at hp
  rcases hp with rfl | rfl
  · exact OwOps.rd (World.ownsRow.alloc (World.ownsRow.alloc h1 _) _)
  · exact OwOps.rd (World.ownsRow.alloc h2 _)
set_option maxRecDepth 100000 in
set_option maxHeartbeats 1000000 in
theorem skew_call (w : World) : Calls Try.prog 36 #[] w fun e w' => ∃ v, e = .returned v ∧ RdTxns w' v skewT ∧ Below w.heap.size w w' := by
  have HT := Lib.hid (skew_rd w)
  have HB := Lib.hid ((((Below.refl w.heap.size w).alloc (Nat.le_refl _) (.cells #[vi 1, vi 0, vi 0, vi 2, vi 1, vi 1] 48)).alloc (by simp) (.cells #[vi 1, vi 1, vi 0, vi 2, vi 0, vi 2] 48)).alloc (by simp; omega) (.cells #[vi 1, vi 1, .slice (some ⟨w.heap.size, 0, none⟩) 2 2, vi 2, vi 1, .slice (some ⟨w.heap.size + 1, 0, none⟩) 2 2] 46))
  go_enter Try.func36, Try.ntmps36
  go_wp2_with fail
  go_ret
  exact ⟨_, rfl, HT.out, HB.out⟩

set_option maxRecDepth 100000 in
set_option maxHeartbeats 4000000 in
theorem head10_call (w : World) : Calls Try.prog 12 #[] w fun e w' => e = .returned (.bool true) ∧ Below w.heap.size w w' := by
  have HQ := Lib.hid eqlE
  have hs2 : sizeM skewT.length = 2 := by decide
  have HS2 := Lib.hid hs2
  clear hs2
  go_enter Try.func12, Try.ntmps12
  go_upto_region 2 with (first
    | (go_at_call 36; refine (skew_call w).mono ?_; rintro e1 w1 ⟨v1, rfl, h1, hb1⟩; have H1 := Lib.hid h1; have HB1 := Lib.hid hb1; clear h1 hb1)
    | (go_at_call 19; refine (broken_call v1 (.map none) skewT [] 2 2 w1 H1.out skew_ok (.inl ⟨rfl, rfl⟩) skew_small).mono ?_; rintro e2 w2 ⟨v2, l, C, rfl, he, ho, hc, hb2⟩; have hle := skew_edges he; subst hle; rw [HS2.out] at hc; have hC := skew_cycle hc; subst hC; have HO2 := Lib.hid ho; have HB2 := Lib.hid (HB1.out.trans (hb2.mono HB1.out.size)); clear he ho hc hb2))
  go_upto_region 3 with (first
    | (go_at_call 36; refine (skew_call w2).mono ?_; rintro e3 w3 ⟨v3, rfl, h3, hb3⟩; have H3 := Lib.hid h3; have HB3 := Lib.hid (HB2.out.trans (hb3.mono HB2.out.size)); have HO3 := Lib.hid (own_below HO2.out hb3); clear h3 hb3)
    | (go_at_call 16; refine (edges_call v3 (.map none) skewT [] 2 w3 H3.out skew_ok (by decide) (.inl ⟨rfl, rfl⟩) skew_small.ops skew_small.room).mono ?_; rintro e4 w4 ⟨v4, l, rfl, ho, he, hb4⟩; have hle := skew_edges he; subst hle; have HO4 := Lib.hid ho; have HB4 := Lib.hid (HB3.out.trans (hb4.mono HB3.out.size)); have HO5 := Lib.hid (own_below HO3.out hb4); clear ho he hb4))
  obtain ⟨ea, en, ec, rfl, e5, -, hce⟩ := HO4.out.rd.at
  subst e5
  obtain ⟨eb, eoff, rfl, m0, m1, m2⟩ := hce 0 ⟨0, 1, 3⟩ rfl
  obtain ⟨cg, cc, rfl⟩ := own_someB HO5.out (by simp)
  have n1 := World.ownsRow.cells HO5.out (g := cg) rfl 1 (vi 1) rfl
  rw [addr_add, Nat.zero_add] at n1
  have q : ∀ W, (binOp .eql 27 (edA ⟨0, 1, 3⟩) (.agg #[vi 0, vi 1, vi 3])).run Try.prog W = .ok (.bool true) W := fun W => by
    have := HQ.out ⟨0, 1, 3⟩ ⟨0, 1, 3⟩ W
    rw [decide_eq_true rfl] at this
    exact this
  simp only [Nat.zero_mul, Nat.add_zero] at m0 m1 m2
  clear hce
  have hl2 : skewE.length = 2 := rfl
  go_wp2_with (first
    | (go_at_call 36; refine (skew_call w4).mono ?_; rintro e5 w5 ⟨v5, rfl, h5, hb5⟩; have H5 := Lib.hid h5; have HB5 := Lib.hid (HB4.out.trans (hb5.mono HB4.out.size)); clear h5 hb5)
    | (go_at_call 19; refine (broken_call v5 (.map none) skewT [] 2 1 w5 H5.out skew_ok (.inl ⟨rfl, rfl⟩) skew_small).mono ?_; rintro e6 w6 ⟨v6, l, C, rfl, he, ho, hc, hb6⟩; have hle := skew_edges he; subst hle; rw [HS2.out] at hc; have hC := skew_snap hc; subst hC; obtain ⟨sa, sc, rfl⟩ := Gr.own_shape ho; have HB6 := Lib.hid (HB5.out.trans (hb6.mono HB5.out.size)); clear he ho hc hb6))
  go_ret
  exact ⟨rfl, HB6.out⟩
end Go.Proofs.Ytefpmcbpodlabaa

/- crucibleref08.Flaws: reads that nothing can explain. -/
namespace Go.Proofs.Ytefpmcbpodlabaa
open Go.RowKit Go.Maps
attribute [local go_sem] Oper.semAt_some

def finB (key val : Int) (o : GOp) : Bool := o.key == key && o.val == val
def finalB (t : GTxn) (key val : Int) : Bool := (writesM t.ops).any (finB key val)
/-- What is wrong with a read. -/
def flawK (ts : List GTxn) (i : Nat) (o : GOp) : Int :=
  if o.val = 0 then 0 else if writerM ts o.key o.val < 0 ∨ writerM ts o.key o.val = i then 1
  else match ts[(writerM ts o.key o.val).toNat]? with
    | none => 1
    | some t => if t.state = 2 then 2 else if finalB t o.key o.val then 0 else 3
def flaw1 (ts : List GTxn) (i : Nat) (p : GOp × Nat) : List (Int × Int × Int) := if 0 < flawK ts i p.1 then [((i : Int), (p.2 : Int), flawK ts i p.1)] else []
def flawT (ts : List GTxn) (p : GTxn × Nat) : List (Int × Int × Int) := (readsM p.1).zipIdx.flatMap (flaw1 ts p.2)
def flawsM (ts : List GTxn) : List (Int × Int × Int) := ts.zipIdx.flatMap (flawT ts)

theorem rows_kept {N e k n N' e' k' m : Nat} {w w' : World} {v u : Value} {xs ys : List Value} (h : w.ownsRow N e k v n xs) (ho : w.ownsRow N' e' k' u m ys) (hne : e ≠ e') (hg : w.grownBy w' u.ownBlock) : w'.ownsRow N e k v n xs :=
  h.kept hg (by
    cases hv : v.ownBlock with
    | none => exact .inl rfl
    | some g =>
      refine .inr (fun e1 => ?_)
      rcases ho.2 with ⟨h1, _⟩ | ⟨g', cap, cur, h1, _, hh, _⟩
      · rw [h1] at e1; cases e1
      · rw [h1] at e1
        have e2 : g = g' := by simpa [Value.ownBlock] using e1
        subst e2
        exact rowNe h hh hne g hv rfl)

set_option maxRecDepth 100000 in
set_option maxHeartbeats 2000000 in
theorem final_call (c s : Int) (v : Value) (l : List GOp) (key val : Int) (w : World) (hv : RdOps w v l) (hl : l.length ≤ 1048576) :
    Calls Try.prog 72 #[.agg #[vi c, vi s, v], vi key, vi val] w fun e w' => e = .returned (.bool (finalB ⟨c, s, l⟩ key val)) ∧ Below w.heap.size w w' := by
  have HB0 := Lib.hid ((Below.refl w.heap.size w).alloc (Nat.le_refl _) (.cells #[vi c, vi s, v] 46))
  have HV := Lib.hid (hv.later HB0.out)
  have HX0 := Lib.hid (alloc_at w (.cells #[vi c, vi s, v] 46))
  obtain ⟨a, n, cp, rfl, rfl, hm, -⟩ := hv.at
  have HFB := Lib.hid (show finalB ⟨c, s, l⟩ key val = (writesM l).any (finB key val) from rfl)
  clear hv
  go_enter Try.func72, Try.ntmps72
  go_upto_region 1 with fail
  generalize w.alloc (.cells #[vi c, vi s, .slice a l.length cp] 46) = w0 at *
  have x0 : w0.cell? ⟨w.heap.size, 0, none⟩ = some (vi c) := by rw [cell_of HX0.out]; rfl
  have x1 : w0.cell? ⟨w.heap.size, 1, none⟩ = some (vi s) := by rw [cell_of HX0.out]; rfl
  have x2 : w0.cell? ⟨w.heap.size, 2, none⟩ = some (.slice a l.length cp) := by rw [cell_of HX0.out]; rfl
  go_wp2_with (go_at_call 74; refine (refWrites_call c s _ l w0 HV.out hl).mono ?_; rintro e1 w1 ⟨v1, rfl, ho1, hb1⟩; have HR1 := Lib.hid ho1.rd; obtain ⟨a1, n1, c1, rfl, e9, hwm, -⟩ := HR1.out.at; subst e9; have HB1 := Lib.hid (HB0.out.trans (hb1.mono HB0.out.size)); clear ho1 hb1)
  obtain ⟨ws, hws⟩ : ∃ ws, ws = writesM l := ⟨_, rfl⟩
  rw [← hws] at HR1 HFB hwm ⊢
  clear hws x0 x1 x2
  go_loopw [12] (fun i wr => ∃ k : Nat, k ≤ ws.length ∧ i = .int .i64 k ∧ Hid (Below w1.heap.size w1 wr ∧ (ws.take k).any (finB key val) = false)) (fun i _ => ws.length - (intOf i).toNat)
  case atStart => exact ⟨0, Nat.zero_le _, rfl, Lib.hid ⟨Below.refl _ _, rfl⟩⟩
  case round =>
    obtain ⟨wj, rfl⟩ : ∃ wj : World, wj = wr := ⟨_, rfl⟩
    obtain ⟨k, hk, rfl, HJ⟩ := hrel
    have HBJ := Lib.hid (HB1.out.trans (HJ.out.1.mono HB1.out.size))
    by_cases hlt : k < ws.length
    · have k1 : decide ((k : Int) < ws.length) = true := decide_eq_true (by omega)
      have k2 : (k : Int) < ws.length := by omega
      have hwk : IntKind.i64.wrap ((k : Int) + 1) = (k : Int) + 1 := IntWalk.i64_in _ (by omega)
      obtain ⟨o, ho⟩ := some_at hlt
      obtain ⟨_, _, _, e5, -, -, hcl⟩ := (HR1.out.later HJ.out.1).at
      cases e5
      obtain ⟨b, off, rfl, y0, y1, y2⟩ := hcl k o ho
      have HNX := Lib.hid (show (ws.take (k + 1)).any (finB key val) = ((ws.take k).any (finB key val) || finB key val o) from by rw [take_at ho, List.any_append]; simp)
      have HM := Lib.hid (List.mem_of_getElem? ho)
      have HX := Lib.hid (alloc_at wj (.cells #[vi o.kind, vi o.key, vi o.val] 48))
      have HBA := Lib.hid (HJ.out.1.alloc HJ.out.1.size (.cells #[vi o.kind, vi o.key, vi o.val] 48))
      have HBB := Lib.hid (HBJ.out.alloc HBJ.out.size (.cells #[vi o.kind, vi o.key, vi o.val] 48))
      clear hcl ho
      go_upto_region 4 with fail
      clear y0 y1 y2
      generalize wj.alloc (.cells #[vi o.kind, vi o.key, vi o.val] 48) = wa at *
      obtain ⟨ob, hob⟩ : ∃ ob, ob = wj.heap.size := ⟨_, rfl⟩
      rw [← hob] at HX ⊢
      clear hob
      have z1 : wa.cell? ⟨ob, 1, none⟩ = some (vi o.key) := by rw [cell_of HX.out]; rfl
      have z2 : wa.cell? ⟨ob, 2, none⟩ = some (vi o.val) := by rw [cell_of HX.out]; rfl
      cases h1 : (o.key == key) with
      | false =>
        have HF := Lib.hid (show finB key val o = false from by unfold finB; rw [h1]; rfl)
        go_wp2_with fail
        exact ⟨⟨k + 1, by omega, by go_num, Lib.hid ⟨HBA.out, by rw [HNX.out, HF.out, HJ.out.2]; rfl⟩⟩, by simp only [intOf]; omega⟩
      | true =>
        cases h2 : (o.val == val) with
        | false =>
          have HF := Lib.hid (show finB key val o = false from by unfold finB; rw [h1, h2]; rfl)
          go_wp2_with fail
          exact ⟨⟨k + 1, by omega, by go_num, Lib.hid ⟨HBA.out, by rw [HNX.out, HF.out, HJ.out.2]; rfl⟩⟩, by simp only [intOf]; omega⟩
        | true =>
          have HF := Lib.hid (show ws.any (finB key val) = true from List.any_eq_true.2 ⟨o, HM.out, by unfold finB; rw [h1, h2]; rfl⟩)
          go_wp2_with fail
          go_ret
          exact ⟨by rw [HFB.out, HF.out]; rfl, HBB.out⟩
    · have k1 : decide ((k : Int) < ws.length) = false := decide_eq_false (by omega)
      have HF := Lib.hid (show ws.any (finB key val) = false from by
        have h := HJ.out.2
        rw [List.take_of_length_le (by omega)] at h
        exact h)
      go_wp2_with fail
      go_ret
      exact ⟨by rw [HFB.out, HF.out]; rfl, HBJ.out⟩

def flV (x : Int × Int × Int) : List Value := [vi x.1, vi x.2.1, vi x.2.2]
theorem flV_one (x : Int × Int × Int) : ∀ u ∈ flV x, u.oneCell' = true := by
  intro u hu; simp [flV] at hu; rcases hu with rfl | rfl | rfl <;> rfl
theorem Try.infoFl : (Try.prog.info? 126).map (fun i => (i.zero, i.size, i.bytes)) = some (some (.agg #[vi 0, vi 0, vi 0]), 3, 24) := by kernel_rfl
theorem eltFl : Elt Try.prog 81 126 3 24 (.agg #[vi 0, vi 0, vi 0]) := by
  obtain ⟨i0, hi, hz0, hz1, hz2⟩ := info_parts Try.infoFl
  exact ⟨Try.underlying81, by decide, rfl, i0, hi, hz0, hz1, hz2⟩
def OwFl (base : Nat) (w : World) (v : Value) (l : List (Int × Int × Int)) : Prop := w.ownsRow base 126 3 v l.length (l.flatMap flV)
theorem flaw1_len (ts : List GTxn) (i : Nat) (p : GOp × Nat) : (flaw1 ts i p).length ≤ 1 := by unfold flaw1; split <;> simp
theorem zip_take {α : Type} {l : List α} {k : Nat} {x : α} (h : l[k]? = some x) : (l.take (k + 1)).zipIdx = (l.take k).zipIdx ++ [(x, k)] := by
  rw [take_at h, List.zipIdx_append]
  have : (l.take k).length = k := by
    have := (List.getElem?_eq_some_iff.1 h).1
    simp; omega
  simp [this]
theorem writerM_lt {ts : List GTxn} {key val : Int} : writerM ts key val = -1 ∨ ∃ n : Nat, writerM ts key val = n ∧ n < ts.length := by
  unfold writerM
  cases h : ts.findIdx? (fun t => t.ops.any (wroteB key val)) with
  | none => exact .inl rfl
  | some i =>
    rw [List.findIdx?_eq_some_iff_getElem] at h
    obtain ⟨hi, -⟩ := h
    exact .inr ⟨i, rfl, hi⟩
theorem flawK_bound (ts : List GTxn) (i : Nat) (o : GOp) : 0 ≤ flawK ts i o ∧ flawK ts i o ≤ 3 := by
  unfold flawK
  split
  · omega
  · split
    · omega
    · split
      · omega
      · split
        · omega
        · split <;> omega

set_option maxRecDepth 100000 in
set_option maxHeartbeats 8000000 in
theorem flaws_call (v : Value) (ts : List GTxn) (w : World) (hv : RdTxns w v ts) (hok : OkTxns ts) (htl : ts.length ≤ 4096) :
    Calls Try.prog 38 #[v] w fun e w' => ∃ v', e = .returned v' ∧ OwFl w.heap.size w' v' (flawsM ts) ∧ Below w.heap.size w w' := by
  have HV := Lib.hid hv
  have HOK := Lib.hid hok
  obtain ⟨ta, nt, tc, rfl, rfl, hm, -⟩ := hv.at
  have HN0 := Lib.hid (World.ownsRow_lit (base := w.heap.size) (e := 126) (size := 3) w #[] 0 (Nat.le_refl _) (by simp [maxLen]) rfl)
  have HB0 := Lib.hid ((Below.refl w.heap.size w).alloc (Nat.le_refl _) (.cells #[] 126))
  clear hv hok
  go_enter Try.func38, Try.ntmps38
  go_wp2_with fail
  generalize w.alloc (.cells #[] 126) = w0 at *
  go_loopw [3, 12] (fun x i wr => ∃ k : Nat, k ≤ ts.length ∧ i = .int .i64 k ∧ Hid (OwFl w.heap.size wr x ((ts.take k).zipIdx.flatMap (flawT ts)) ∧ Below w.heap.size w wr ∧ ((ts.take k).zipIdx.flatMap (flawT ts)).length ≤ k * 1048576)) (fun _ i _ => ts.length - (intOf i).toNat)
  case atStart => exact ⟨0, Nat.zero_le _, rfl, Lib.hid ⟨by simpa [OwFl] using HN0.out, HB0.out, by simp⟩⟩
  case round =>
    obtain ⟨wj, rfl⟩ : ∃ wj : World, wj = wr := ⟨_, rfl⟩
    obtain ⟨k, hk, rfl, HJ⟩ := hrel
    obtain ⟨F0, hF0⟩ : ∃ F0, F0 = (ts.take k).zipIdx.flatMap (flawT ts) := ⟨_, rfl⟩
    have HF0 := Lib.hid hF0
    rw [← hF0] at HJ
    obtain ⟨ax, cx, rfl⟩ := Gr.own_shape (show World.ownsRow _ _ _ _ _ F0.length _ from HJ.out.1)
    by_cases hlt : k < ts.length
    · have k1 : decide ((k : Int) < ts.length) = true := decide_eq_true (by omega)
      have k2 : (k : Int) < ts.length := by omega
      have k3 : (0 : Int) ≤ (k : Int) := by omega
      have hwk : IntKind.i64.wrap ((k : Int) + 1) = (k : Int) + 1 := IntWalk.i64_in _ (by omega)
      obtain ⟨t, ht⟩ := some_at hlt
      obtain ⟨_, _, _, e5, -, -, hcl⟩ := (HV.out.later HJ.out.2.1).at
      cases e5
      obtain ⟨gb, off, oa, oc, rfl, hr, c0, c1, c2⟩ := hcl k t ht
      have HRO := Lib.hid hr
      have hok2 := (HOK.out.2 t (List.mem_of_getElem? ht)).2
      have HNX := Lib.hid (show (ts.take (k + 1)).zipIdx.flatMap (flawT ts) = F0 ++ (readsM t).zipIdx.flatMap (flaw1 ts k) from by rw [zip_take ht, List.flatMap_append, hF0]; simp [flawT])
      have HRL := Lib.hid (show (readsM t).length ≤ 1048576 from by
        have h1 : (readsM t).length ≤ t.ops.length := by
          unfold readsM; split
          · exact readsS_le _
          · simp
        omega)
      have HF0L := Lib.hid (show F0.length ≤ 4294967296 from by
        have h1 := HJ.out.2.2
        have h2 := Nat.mul_le_mul_right 1048576 (show k ≤ 4096 by omega)
        omega)
      have HLK := Lib.hid HJ.out.2.2
      have HOF := Lib.hid HJ.out.1
      have HBJ := Lib.hid HJ.out.2.1
      clear hcl ht hr hF0 HJ
      go_wp2_with (go_at_call 70; refine (refReads_call t.client t.state _ t.ops wj HRO.out hok2).mono ?_; rintro e1 w1 ⟨v1, rfl, ho1, hb1⟩; have HR1 := Lib.hid (own_mono ho1 HBJ.out.size); obtain ⟨a1, n1, c1', rfl, e9, -, -⟩ := ho1.rd.at; subst e9; have HB1 := Lib.hid (HBJ.out.trans (hb1.mono HBJ.out.size)); have HO1 := Lib.hid (own_below HOF.out hb1); clear ho1 hb1)
      obtain ⟨rs, hrs⟩ : ∃ rs, rs = readsM t := ⟨_, rfl⟩
      have hrl : rs.length ≤ 1048576 := by rw [hrs]; exact HRL.out
      have HR2 := Lib.hid (show OwOps w.heap.size w1 (.slice a1 rs.length c1') rs from by rw [hrs]; exact HR1.out)
      rw [show (readsM t).length = rs.length from by rw [hrs]]
      rw [← hrs] at HNX
      clear hrs c0 c1 c2 HR1
      go_loopw [3, 21] (fun x i wr => ∃ j : Nat, j ≤ rs.length ∧ i = .int .i64 j ∧ Hid (OwFl w.heap.size wr x (F0 ++ (rs.take j).zipIdx.flatMap (flaw1 ts k)) ∧ OwOps w.heap.size wr (.slice a1 rs.length c1') rs ∧ Below w.heap.size w wr)) (fun _ i _ => rs.length - (intOf i).toNat)
      case atStart => exact ⟨0, Nat.zero_le _, rfl, Lib.hid ⟨by have h := HO1.out; unfold OwFl; simpa using h, HR2.out, HB1.out⟩⟩
      case round =>
        obtain ⟨wq, rfl⟩ : ∃ wq : World, wq = wr := ⟨_, rfl⟩
        obtain ⟨j, hj, rfl, HQ⟩ := hrel
        obtain ⟨F1, hF1⟩ : ∃ F1, F1 = F0 ++ (rs.take j).zipIdx.flatMap (flaw1 ts k) := ⟨_, rfl⟩
        have HF1 := Lib.hid hF1
        rw [← hF1] at HQ
        have hf1l : F1.length ≤ 4294967296 + 1048576 := by
          have h1 := flatMap_le 1 (flaw1_len ts k) (rs.take j).zipIdx
          have h2 : (rs.take j).zipIdx.length ≤ rs.length := by simp; omega
          have h3 := HF0L.out
          rw [hF1, List.length_append]; omega
        obtain ⟨aq, cq, rfl⟩ := Gr.own_shape (show World.ownsRow _ _ _ _ _ F1.length _ from HQ.out.1)
        have HO := Lib.hid (show wq.ownsRow w.heap.size 126 3 _ F1.length (F1.flatMap flV) from HQ.out.1)
        have HRq := Lib.hid HQ.out.2.1
        have HBq := Lib.hid HQ.out.2.2
        clear HQ hF1
        by_cases hltq : j < rs.length
        · have j1 : decide ((j : Int) < rs.length) = true := decide_eq_true (by omega)
          have j2 : (j : Int) < rs.length := by omega
          have hwj : IntKind.i64.wrap ((j : Int) + 1) = (j : Int) + 1 := IntWalk.i64_in _ (by omega)
          obtain ⟨o, ho⟩ := some_at hltq
          obtain ⟨_, _, _, e5, -, -, hcl⟩ := HRq.out.rd.at
          cases e5
          obtain ⟨b, off', rfl, y0, y1, y2⟩ := hcl j o ho
          have HNY := Lib.hid (show (rs.take (j + 1)).zipIdx.flatMap (flaw1 ts k) = (rs.take j).zipIdx.flatMap (flaw1 ts k) ++ flaw1 ts k (o, j) from by rw [zip_take ho, List.flatMap_append]; simp)
          have hBo := (Below.refl wq.heap.size wq).alloc (Nat.le_refl _) (.cells #[vi o.kind, vi o.key, vi o.val] 48)
          have HX := Lib.hid (alloc_at wq (.cells #[vi o.kind, vi o.key, vi o.val] 48))
          have HOa := Lib.hid (own_below HO.out hBo)
          have HRa := Lib.hid (HRq.out.laterD hBo)
          have HBa := Lib.hid (HBq.out.trans (hBo.mono HBq.out.size))
          clear hcl ho hBo
          go_upto_region 8 with fail
          clear y0 y1 y2
          generalize wq.alloc (.cells #[vi o.kind, vi o.key, vi o.val] 48) = wa at *
          obtain ⟨ob, hob⟩ : ∃ ob, ob = wq.heap.size := ⟨_, rfl⟩
          rw [← hob] at HX ⊢
          clear hob
          have x1 : wa.cell? ⟨ob, 1, none⟩ = some (vi o.key) := by rw [cell_of HX.out]; rfl
          have x2 : wa.cell? ⟨ob, 2, none⟩ = some (vi o.val) := by rw [cell_of HX.out]; rfl
          obtain ⟨wm, hwm⟩ : ∃ wm, wm = writerM ts o.key o.val := ⟨_, rfl⟩
          have HWM := Lib.hid hwm
          have HWB := Lib.hid (show wm = -1 ∨ ∃ n : Nat, wm = n ∧ n < ts.length from by rw [hwm]; exact writerM_lt)
          have HFK := Lib.hid (show flawK ts k o = if o.val = 0 then 0 else if wm < 0 ∨ wm = k then 1 else match ts[wm.toNat]? with | none => 1 | some t => if t.state = 2 then 2 else if finalB t o.key o.val then 0 else 3 from by rw [hwm]; unfold flawK; rfl)
          have HKB := Lib.hid (flawK_bound ts k o)
          clear hwm
          obtain ⟨K, hK⟩ : ∃ K, K = flawK ts k o := ⟨_, rfl⟩
          have HKD := Lib.hid hK
          rw [← hK] at HFK HKB
          clear hK
          go_upto_if 34 with (go_at_call 71; refine (writer_call _ ts o.key o.val wa (HV.out.later HBa.out)).mono ?_; rw [← HWM.out]; rintro e3 w3 ⟨rfl, hb3⟩; have HO3 := Lib.hid (own_below HOa.out hb3); have HR3 := Lib.hid (HRa.out.laterD hb3); have HB3 := Lib.hid (HBa.out.trans (hb3.mono HBa.out.size)); have HX3 := Lib.hid ((hb3.block ob (Array.getElem?_eq_some_iff.1 HX.out).1).trans HX.out); have x2 : w3.cell? ⟨ob, 2, none⟩ = some (vi o.val) := (by rw [cell_of HX3.out]; rfl); clear hb3)
          have x1 : w3.cell? ⟨ob, 1, none⟩ = some (vi o.key) := by rw [cell_of HX3.out]; rfl
          go_cut [8] (fun kv wx => kv = vi K ∧ Hid (wx.ownsRow w.heap.size 126 3 (.slice aq F1.length cq) F1.length (F1.flatMap flV) ∧ OwOps w.heap.size wx (.slice (some ⟨b, off', none⟩) rs.length c1') rs ∧ Below w.heap.size w wx))
          case first =>
            by_cases hv0 : o.val = 0
            · have d0 : (o.val != 0) = false := by simp [hv0]
              have HE := Lib.hid (show K = 0 from by rw [HFK.out, if_pos hv0])
              clear hv0
              go_wp2_with fail
              go_meet
              exact ⟨by rw [HE.out], Lib.hid ⟨HO3.out, HR3.out, HB3.out⟩⟩
            · have d0 : (o.val != 0) = true := by simp [hv0]
              have HV0 := Lib.hid hv0
              clear hv0
              rcases HWB.out with h1 | ⟨n, h1, hn⟩
              · subst h1
                have HE := Lib.hid (show K = 1 from by rw [HFK.out, if_neg HV0.out, if_pos (.inl (by omega))])
                go_wp2_with fail
                go_meet
                exact ⟨by rw [HE.out], Lib.hid ⟨HO3.out, HR3.out, HB3.out⟩⟩
              · subst h1
                have d1 : decide ((n : Int) < 0) = false := decide_eq_false (by omega)
                have n0 : (0 : Int) ≤ (n : Int) := by omega
                have n1 : (n : Int) < ts.length := by omega
                by_cases hnk : n = k
                · have d2 : ((n : Int) == (k : Int)) = true := by simp [hnk]
                  have HE := Lib.hid (show K = 1 from by rw [HFK.out, if_neg HV0.out, if_pos (.inr (by omega))])
                  clear hnk
                  go_wp2_with fail
                  go_meet
                  exact ⟨by rw [HE.out], Lib.hid ⟨HO3.out, HR3.out, HB3.out⟩⟩
                · have d2 : ((n : Int) == (k : Int)) = false := by simp; omega
                  obtain ⟨u, hu⟩ := some_at hn
                  obtain ⟨_, _, _, e7, -, -, hcl⟩ := (HV.out.later HB3.out).at
                  cases e7
                  obtain ⟨gb', off2, oa', oc', e8, hr', z0, z1, z2⟩ := hcl n u hu
                  cases e8
                  have HRU := Lib.hid hr'
                  have hok3 := (HOK.out.2 u (List.mem_of_getElem? hu)).2
                  have HE := Lib.hid (show K = if u.state = 2 then 2 else if finalB u o.key o.val then 0 else 3 from by rw [HFK.out, if_neg HV0.out, if_neg (by omega), Int.toNat_natCast, hu])
                  clear hcl hu hr' hnk
                  by_cases hs2 : u.state = 2
                  · have d3 : (u.state == 2) = true := by simp [hs2]
                    have HE2 := Lib.hid (show K = 2 from by rw [HE.out, if_pos hs2])
                    clear hs2
                    go_wp2_with fail
                    go_meet
                    exact ⟨by rw [HE2.out], Lib.hid ⟨HO3.out, HR3.out, HB3.out⟩⟩
                  · have d3 : (u.state == 2) = false := by simp [hs2]
                    have HE2 := Lib.hid (show K = if finalB u o.key o.val then 0 else 3 from by rw [HE.out, if_neg hs2])
                    clear hs2
                    have HRD := Lib.hid (show RdOps w3.drew (.slice oa' u.ops.length oc') u.ops from HRU.out)
                    cases hfb : finalB u o.key o.val with
                    | true =>
                      have HFB := Lib.hid (show finalB ⟨u.client, u.state, u.ops⟩ o.key o.val = true from hfb)
                      have HE3 := Lib.hid (show K = 0 from by rw [HE2.out, hfb]; rfl)
                      clear hfb
                      go_upto_region 15 with fail
                      go_still_tail 8, (by kernel_rfl)
                      change wpList _ _ _ _ _ w3.drew
                      go_wp2_with (go_at_call 72; refine (final_call u.client u.state _ u.ops o.key o.val _ HRD.out hok3).mono ?_; rw [HFB.out]; rintro e4 w4 ⟨rfl, hb4d⟩; have hb4 : Below w3.heap.size w3 w4 := ((Below.refl w3.heap.size w3).drew).trans hb4d; have HO4 := Lib.hid (own_below HO3.out hb4); have HR4 := Lib.hid (HR3.out.laterD hb4); have HB4 := Lib.hid (HB3.out.trans (hb4.mono HB3.out.size)); clear hb4 hb4d)
                      all_goals
                        go_meet
                        exact ⟨by rw [HE3.out], Lib.hid ⟨HO4.out, HR4.out, HB4.out⟩⟩
                    | false =>
                      have HFB := Lib.hid (show finalB ⟨u.client, u.state, u.ops⟩ o.key o.val = false from hfb)
                      have HE3 := Lib.hid (show K = 3 from by rw [HE2.out, hfb]; rfl)
                      clear hfb
                      go_upto_region 15 with fail
                      go_still_tail 8, (by kernel_rfl)
                      change wpList _ _ _ _ _ w3.drew
                      go_wp2_with (go_at_call 72; refine (final_call u.client u.state _ u.ops o.key o.val _ HRD.out hok3).mono ?_; rw [HFB.out]; rintro e4 w4 ⟨rfl, hb4d⟩; have hb4 : Below w3.heap.size w3 w4 := ((Below.refl w3.heap.size w3).drew).trans hb4d; have HO4 := Lib.hid (own_below HO3.out hb4); have HR4 := Lib.hid (HR3.out.laterD hb4); have HB4 := Lib.hid (HB3.out.trans (hb4.mono HB3.out.size)); clear hb4 hb4d)
                      all_goals
                        go_meet
                        exact ⟨by rw [HE3.out], Lib.hid ⟨HO4.out, HR4.out, HB4.out⟩⟩
          case rest =>
            obtain ⟨wx, rfl⟩ : ∃ wx : World, wx = wc := ⟨_, rfl⟩
            obtain ⟨rfl, HC⟩ := hcut
            have HO6 := Lib.hid HC.out.1
            have HR6 := Lib.hid HC.out.2.1
            have HB6 := Lib.hid HC.out.2.2
            clear HC
            have hkb := HKB.out
            by_cases hk0 : 0 < K
            · have d0 : decide (0 < K) = true := decide_eq_true hk0
              have HN1 := Lib.hid (show flaw1 ts k (o, j) = [((k : Int), (j : Int), K)] from by unfold flaw1; simp only [← HKD.out]; rw [if_pos hk0])
              clear hk0
              go_wp2_with (at_builtin; refine wpList_append_src rfl _ _ 81 rfl eltFl w.heap.size F1.length _ (World.ownsRow.alloc HO6.out _) rfl 1 (flV ((k : Int), (j : Int), K)) (src_new (cs := #[vi k, vi j, vi K]) rfl rfl) rfl (flV_one _) (by omega) (by omega) (by have := HB6.out.size; simp; omega) ?_; intro v7 w7 ho7 hg7 _; have HO7 := Lib.hid ho7; have HR7 := Lib.hid (rows_kept (World.ownsRow.alloc HR6.out _) (World.ownsRow.alloc HO6.out _) (by decide) hg7); have HB7 := Lib.hid ((HB6.out.alloc HB6.out.size _).grown hg7 (by have := HB6.out.size; simp; omega) (fun j hj => (World.ownsRow.lt HO6.out j hj).1)); clear ho7 hg7)
              exact ⟨⟨j + 1, by omega, by go_num, Lib.hid ⟨by rw [HNY.out, HN1.out, ← List.append_assoc, ← HF1.out]; unfold OwFl; have h := HO7.out; simpa using h, HR7.out, HB7.out⟩⟩, by simp only [intOf]; omega⟩
            · have d0 : decide (0 < K) = false := decide_eq_false hk0
              have HN1 := Lib.hid (show flaw1 ts k (o, j) = [] from by unfold flaw1; simp only [← HKD.out]; rw [if_neg hk0])
              clear hk0
              go_wp2_with fail
              exact ⟨⟨j + 1, by omega, by go_num, Lib.hid ⟨by rw [HNY.out, HN1.out, List.append_nil, ← HF1.out]; exact HO6.out, HR6.out, HB6.out⟩⟩, by simp only [intOf]; omega⟩
        · have j1 : decide ((j : Int) < rs.length) = false := decide_eq_false (by omega)
          have HFN := Lib.hid (show OwFl w.heap.size wq (.slice aq F1.length cq) ((ts.take (k + 1)).zipIdx.flatMap (flawT ts)) from by
            have hje : j = rs.length := by omega
            have h2 : (ts.take (k + 1)).zipIdx.flatMap (flawT ts) = F1 := by rw [HNX.out, HF1.out, hje, List.take_length]
            rw [h2]; exact HO.out)
          have HLN := Lib.hid (show ((ts.take (k + 1)).zipIdx.flatMap (flawT ts)).length ≤ (k + 1) * 1048576 from by
            have h1 := flatMap_le 1 (flaw1_len ts k) rs.zipIdx
            have h2 : rs.zipIdx.length = rs.length := by simp
            have h3 := HLK.out
            rw [HNX.out, List.length_append, Nat.add_mul, Nat.one_mul]; omega)
          go_wp2_with fail
          exact ⟨⟨k + 1, by omega, by go_num, Lib.hid ⟨HFN.out, HBq.out, HLN.out⟩⟩, by simp only [intOf]; omega⟩
    · have k1 : decide ((k : Int) < ts.length) = false := decide_eq_false (by omega)
      have HFN := Lib.hid (show OwFl w.heap.size wj (.slice ax F0.length cx) (flawsM ts) from by
        have hke : k = ts.length := by omega
        have h2 : F0 = flawsM ts := by rw [HF0.out, hke, List.take_length]; rfl
        rw [← h2]; exact HJ.out.1)
      have HBF := Lib.hid HJ.out.2.1
      clear HJ
      go_wp2_with fail
      go_ret
      exact ⟨_, rfl, HFN.out, HBF.out⟩
end Go.Proofs.Ytefpmcbpodlabaa

/- cruciblelaw10.some: facts about a history, as a map and as a list that say the same. -/
namespace Go.Proofs.Ytefpmcbpodlabaa
open Go.RowKit Go.Maps

def Some10Q (C : List GChoice) (w : World) (e : Ending) (w' : World) : Prop := ∃ (L : FaL) (m : Nat) (v : Value), e = .returned (.tuple #[.map (some m), v]) ∧ w.heap.size ≤ m ∧ MapF w' m L ∧ RdSaid w' v L ∧ (L.map (·.1)).Nodup ∧ L.length ≤ C.length ∧ (∀ p ∈ L, p.1 ∈ C) ∧ Below w.heap.size w w'

set_option maxRecDepth 100000 in
set_option maxHeartbeats 4000000 in
theorem some10_call (v u : Value) (ts : List GTxn) (picks : List Int) (w : World) (hv : RdTxns w v ts) (hok : OkTxns ts) (htl : ts.length ≤ 4096) (hun : Uniq ts) (hu : RdInts w u picks) :
    Calls Try.prog 15 #[v, u] w (Some10Q (choicesM ts) w) := by
  have HV := Lib.hid hv
  have HOK := Lib.hid hok
  have HU := Lib.hid hu
  have HE := Lib.hid (choices_eq hun).symm
  obtain ⟨ua, ul, uc, rfl, rfl, hum, -⟩ := hu.at
  have hmm := @run_makeMap Try.prog
  have hM0 : MapF (w.alloc (.map #[] 0)) w.heap.size [] := MapT.made w
  have HO0 := Lib.hid (World.ownsRow_lit (base := w.heap.size) (e := 87) (size := 5) (w.alloc (.map #[] 0)) #[] 0 (by simp) (by simp [maxLen]) rfl)
  have HB0 := Lib.hid (((Below.refl w.heap.size w).alloc (Nat.le_refl _) (.map #[] 0)).alloc (by simp) (.cells #[] 87))
  have HM0 := Lib.hid (hM0.frame (Below.heap_alloc (w.alloc (.map #[] 0)) (.cells #[] 87) _ (by simp)))
  clear hv hok hun hu hM0
  go_enter Try.func15, Try.ntmps15
  go_upto_region 3 with fail
  have HST := Lib.hid (show SomeS w [] w.heap.size 0 (.slice (some ⟨w.heap.size + 1, 0, none⟩) 0 0) [] ((w.alloc (.map #[] 0)).alloc (.cells #[] 87)) from ⟨HM0.out, by simpa [OwSaid] using HO0.out, HB0.out, by simp, by simp, by simp⟩)
  clear hmm
  generalize (w.alloc (.map #[] 0)).alloc (.cells #[] 87) = w0 at *
  go_wp2_with (go_at_call 39; refine (refChoices_call _ ts _ (HV.out.later HB0.out) HOK.out htl).mono ?_; rw [HE.out]; rintro e w2 ⟨v2, rfl, ho2, hb2⟩; have HC2 := Lib.hid ho2.rd; have HO2 := Lib.hid ho2; have HB2 := Lib.hid hb2; have HS2 := Lib.hid (HST.out.later hb2); obtain ⟨a2, len2, cap2, rfl, rfl, hm2, -⟩ := HC2.out.at; clear hb2 ho2)
  have HND := Lib.hid (choicesM_nodup ts)
  have HCO := Lib.hid (fun c (h : c ∈ choicesM ts) => choicesM_ok h)
  have hCl := choicesM_le ts htl
  generalize choicesM ts = C at *
  go_loopw [7, 8, 9, 10, 16] (fun gv _ _ _ n wr => ∃ (k : Nat) (L : FaL), k ≤ C.length ∧ n = .int .i64 k ∧ SomeS w C w.heap.size k gv L wr ∧ OwCh 85 w0.heap.size wr (.slice a2 C.length cap2) C) (fun _ _ _ _ n _ => C.length - (intOf n).toNat)
  case atStart => exact ⟨0, [], Nat.zero_le _, rfl, ⟨HS2.out.map, HS2.out.row, HS2.out.below, by simp, by simp, by simp⟩, HO2.out⟩
  case round =>
    obtain ⟨wk, rfl⟩ : ∃ wk : World, wk = wr := ⟨_, rfl⟩
    obtain ⟨k, L, hk, rfl, hst, hoc⟩ := hrel
    have HSk := Lib.hid hst
    have HOk := Lib.hid hoc
    have HBk := Lib.hid hst.below
    have hwk := hst.below.size
    have hLk := hst.len
    have hml := hst.map.lt
    obtain ⟨_, _, _, e5, -, -, hcl⟩ := hoc.rd.at
    cases e5
    clear hst hoc
    by_cases hlt : k < C.length
    · obtain ⟨c, hc⟩ := some_at hlt
      obtain ⟨b, off, rfl, k0, k1, k2, k3⟩ := hcl k c hc
      have HSM := Lib.hid ((HCO.out c (List.mem_of_getElem? hc)).small htl)
      have hkI : (k : Int) < (C.length : Int) := by omega
      have hk0 : (0 : Int) ≤ (k : Int) := by omega
      have HP := Lib.hid hc
      have HSo := Lib.hid (HSk.out.later ((Below.refl wk.heap.size wk).alloc (Nat.le_refl _) (.cells #[vi c.kind, vi c.key, vi c.a, vi c.b] 85)))
      have HOo := Lib.hid (HOk.out.alloc (.cells #[vi c.kind, vi c.key, vi c.a, vi c.b] 85))
      have HXo := Lib.hid (alloc_at wk (.cells #[vi c.kind, vi c.key, vi c.a, vi c.b] 85))
      have hwo : (wk.alloc (.cells #[vi c.kind, vi c.key, vi c.a, vi c.b] 85)).heap.size = wk.heap.size + 1 := by simp
      have HUo := Lib.hid ((HU.out.later HBk.out).later ((Below.refl wk.heap.size wk).alloc (Nat.le_refl _) (.cells #[vi c.kind, vi c.key, vi c.a, vi c.b] 85)))
      clear hcl hc
      go_upto_region 7 with fail
      clear k0 k1 k2 k3
      generalize wk.alloc (.cells #[vi c.kind, vi c.key, vi c.a, vi c.b] 85) = wo at *
      go_upto_if 24 with fail
      go_cut [10] (fun pv wx => (∃ p : Int, pv = .int .i64 p) ∧ wx = wo)
      case first =>
        by_cases hpl : (k : Int) < (picks.length : Int)
        · obtain ⟨x, hx⟩ := some_at (l := picks) (k := k) (by omega)
          obtain ⟨_, _, _, e5, -, -, hul⟩ := HUo.out.at
          cases e5
          obtain ⟨ub, uo, rfl, x0, -⟩ := hul k x hx
          clear hul hx
          go_wp2_with fail
          go_meet
          exact ⟨⟨_, rfl⟩, rfl⟩
        · go_wp2_with fail
          go_meet
          exact ⟨⟨_, rfl⟩, rfl⟩
      case rest =>
        obtain ⟨⟨p, rfl⟩, hwx⟩ := hcut
        replace hwx := hwx.symm
        subst hwx
        have q0 : wo.cell? ⟨wk.heap.size, 0, none⟩ = some (vi c.kind) := by rw [cell_of HXo.out]; rfl
        have q1 : wo.cell? ⟨wk.heap.size, 1, none⟩ = some (vi c.key) := by rw [cell_of HXo.out]; rfl
        have q2 : wo.cell? ⟨wk.heap.size, 2, none⟩ = some (vi c.a) := by rw [cell_of HXo.out]; rfl
        have q3 : wo.cell? ⟨wk.heap.size, 3, none⟩ = some (vi c.b) := by rw [cell_of HXo.out]; rfl
        by_cases hp2 : p < 2
        · obtain ⟨kl, hkl⟩ := choiceKey HSM.out
          have HK := Lib.hid hkl
          clear hkl
          go_upto_region 11 with (at_mapUpdate; refine wpList_mapUpdate_T (b := w.heap.size) (eK := chK) (eV := Value.bool) rfl _ _ _ rfl choiceKeyed chK_inj Try.underlying37 HSo.out.map rfl c HK.out rfl (p == 1) rfl ?_; intro w4 hM4 hg4)
          have HX4 := Lib.hid ((hg4.block wk.heap.size (by omega) (by simp; omega)).trans HXo.out)
          have hw4 := hg4.size
          have HR4 := Lib.hid (show OwSaid w.heap.size w4 u7 L from World.ownsRow.kept HSo.out.row hg4 (.inr (fun e => map_apart HSo.out.row HSo.out.map e.symm)))
          have HO4 := Lib.hid (World.ownsRow.kept HOo.out hg4 (.inr (fun e => map_apart HOo.out HSo.out.map e.symm)))
          have HG4 := Lib.hid hg4
          have HM4 := Lib.hid hM4
          clear q0 q1 q2 q3 hg4 hM4
          have q0 : w4.cell? ⟨wk.heap.size, 0, none⟩ = some (vi c.kind) := by rw [cell_of HX4.out]; rfl
          have q1 : w4.cell? ⟨wk.heap.size, 1, none⟩ = some (vi c.key) := by rw [cell_of HX4.out]; rfl
          have q2 : w4.cell? ⟨wk.heap.size, 2, none⟩ = some (vi c.a) := by rw [cell_of HX4.out]; rfl
          have q3 : w4.cell? ⟨wk.heap.size, 3, none⟩ = some (vi c.b) := by rw [cell_of HX4.out]; rfl
          go_upto_region 12 with (at_builtin; refine wpList_append_src rfl _ _ 38 rfl eltSaid w.heap.size L.length _ (HR4.out.alloc _) rfl 1 (saidV (c, p == 1)) (src_new (cs := #[vi c.kind, vi c.key, vi c.a, vi c.b, .bool (p == 1)]) rfl rfl) rfl (saidV_one _) (by omega) (by omega) (by simp; omega) ?_; intro v5 w5 ho5 hg5 _)
          have HS5 := Lib.hid (HSo.out.push HND.out HP.out (Nat.le_refl _) HG4.out HM4.out _ hg5 ho5)
          have HO5 := Lib.hid (World.ownsRow.kept (HO4.out.alloc _) hg5 (own_apart HR4.out HO4.out (by decide)))
          clear ho5 hg5
          go_wp2_with fail
          go_roundw
          case rel => exact ⟨k + 1, _, by omega, by go_num, HS5.out, HO5.out⟩
          case measure => simp [intOf]; omega
        · go_wp2_with fail
          go_roundw
          case rel => exact ⟨k + 1, L, by omega, by go_num, HSo.out.skip, HOo.out⟩
          case measure => simp [intOf]; omega
    · obtain rfl : k = C.length := by omega
      go_wp2_with fail
      go_ret2
      exact ⟨L, w.heap.size, _, rfl, Nat.le_refl _, HSk.out.map, HSk.out.row.rd, HSk.out.keys, HSk.out.len, (fun p hp => by obtain ⟨j, -, hj⟩ := HSk.out.mem p hp; exact List.mem_of_getElem? hj), HBk.out⟩
end Go.Proofs.Ytefpmcbpodlabaa

/- Writing a transaction of the slice that crucibleref05.Of makes. Names no function. -/
namespace Go.Proofs.Ytefpmcbpodlabaa
open Go.RowKit Go.Maps

theorem flat_set : ∀ (L : TxL) (k i : Nat) (u : Value) (p p' : GTxn × Value), L[k]? = some p → i < 3 → (txV p).set i u = txV p' → (L.flatMap txV).set (k * 3 + i) u = (L.set k p').flatMap txV := by
  intro L
  induction L with
  | nil => intro k i u p p' h; simp at h
  | cons q L ih =>
    intro k i u p p' h hi hs
    rw [List.flatMap_cons]
    cases k with
    | zero =>
      simp at h; subst h
      rw [List.set_append]
      rw [if_pos (by rw [txV_length]; omega), List.set_cons_zero, List.flatMap_cons, Nat.zero_mul, Nat.zero_add, hs]
    | succ k =>
      rw [List.set_append, if_neg (by rw [txV_length]; omega), txV_length, List.set_cons_succ, List.flatMap_cons]
      rw [show (k + 1) * 3 + i - 3 = k * 3 + i by omega, ih k i u p p' (by simpa using h) hi hs]

theorem OfS.out_shape {w A : World} {vo vf : Value} {L : TxL} {F : List Nat} (h : OfS w vo vf L F A) (h0 : 0 < L.length) : ∃ g cap, vo = .slice (some ⟨g, 0, none⟩) L.length cap := by
  rcases h.out.2 with ⟨_, h2⟩ | ⟨g, cap, _, hv, _⟩
  · omega
  · exact ⟨g, cap, hv⟩
theorem OfS.frm_shape {w A : World} {vo vf : Value} {L : TxL} {F : List Nat} (h : OfS w vo vf L F A) (h0 : 0 < F.length) : ∃ g cap, vf = .slice (some ⟨g, 0, none⟩) F.length cap := by
  rcases h.frm.2 with ⟨_, h2⟩ | ⟨g, cap, _, hv, _⟩
  · omega
  · exact ⟨g, cap, hv⟩

theorem OfS.frm_at {w A : World} {vo : Value} {L : TxL} {F : List Nat} {gf n cf : Nat} (h : OfS w vo (.slice (some ⟨gf, 0, none⟩) n cf) L F A) {k f : Nat} (hf : F[k]? = some f) : A.cell? ⟨gf, k, none⟩ = some (vi f) := by
  have := World.ownsRow.cells h.frm (g := gf) rfl k (vi f) (by simp [hf])
  rw [addr_add] at this
  simpa using this
theorem txV_at (L : TxL) {k i : Nat} {p : GTxn × Value} {u : Value} (hk : L[k]? = some p) (hu : (txV p)[i]? = some u) : (L.flatMap txV)[k * 3 + i]? = some u := flat_at txV_length L k i p u hk hu
theorem OfS.out_at {w A : World} {vf : Value} {L : TxL} {F : List Nat} {g n cap : Nat} (h : OfS w (.slice (some ⟨g, 0, none⟩) n cap) vf L F A) {k : Nat} {p : GTxn × Value} (hp : L[k]? = some p) {i : Nat} {u : Value} (hu : (txV p)[i]? = some u) : A.cell? ⟨g, k * 3 + i, none⟩ = some u := by
  have := World.ownsRow.cells h.out (g := g) rfl (k * 3 + i) u (txV_at L hp hu)
  rw [addr_add] at this
  simpa using this
theorem OfS.out_free {w A : World} {vf : Value} {L : TxL} {F : List Nat} {g n cap : Nat} (h : OfS w (.slice (some ⟨g, 0, none⟩) n cap) vf L F A) (hn : n = L.length) (j : Nat) : A.frozen? ⟨g, j, none⟩ = false := by
  subst hn; exact World.ownsRow.frozenAt h.out j
/-- A cell of a transaction is written. -/
theorem OfS.set {w A : World} {vf : Value} {L : TxL} {F : List Nat} {g n cap : Nat} (h : OfS w (.slice (some ⟨g, 0, none⟩) n cap) vf L F A) (hn : n = L.length) {k i : Nat} {p p' : GTxn × Value} {u : Value} (hp : L[k]? = some p) (hi : i < 3) (hs : (txV p).set i u = txV p') (ho : OwOps w.heap.size A p'.2 p'.1.ops) :
    OfS w (.slice (some ⟨g, 0, none⟩) n cap) vf (L.set k p') F (A.setCell ⟨g, k * 3 + i, none⟩ u) := by
  subst hn
  obtain ⟨h1, h2⟩ := World.ownsRow.stored h.out (k * 3 + i) u
  rw [flat_set L k i u p p' hp hi hs] at h1
  refine h.wrote (vo' := .slice (some ⟨g, 0, none⟩) L.length cap) h2 (by simpa using h1) fun q hq => ?_
  rcases List.mem_or_eq_of_mem_set hq with hq | rfl
  · exact h.ops q hq
  · exact ho
/-- A transaction is appended. -/
theorem OfS.push {w A B : World} {vo vo' vf : Value} {L : TxL} {F : List Nat} {p : GTxn × Value} (h : OfS w vo vf L F A) (hg : A.grownBy B vo.ownBlock) (ho : B.ownsRow w.heap.size 46 3 vo' (L.length + 1) (L.flatMap txV ++ txV p)) (hp : OwOps w.heap.size A p.2 p.1.ops) : OfS w vo' vf (L ++ [p]) F B := by
  refine h.wrote hg (by simpa using ho) fun q hq => ?_
  rw [List.mem_append] at hq
  rcases hq with hq | hq
  · exact h.ops q hq
  · simp at hq; subst hq; exact hp
theorem OfS.pushF {w A B : World} {vo vf vf' : Value} {L : TxL} {F : List Nat} {f : Nat} (h : OfS w vo vf L F A) (hg : A.grownBy B vf.ownBlock) (ho : B.ownsRow w.heap.size 3 1 vf' (F.length + 1) (F.map (fun n : Nat => vi (n : Int)) ++ [vi (f : Int)])) : OfS w vo vf' L (F ++ [f]) B :=
  h.from' hg (by simpa using ho)
theorem txV_one {p : GTxn × Value} {a : Option Addr} {n c : Nat} (h : p.2 = .slice a n c) : ∀ u ∈ txV p, u.oneCell' = true := by
  intro u hu
  simp [txV, h] at hu
  rcases hu with rfl | rfl | rfl <;> rfl

theorem OfS.shapes {w A : World} {vo vf : Value} {L : TxL} {F : List Nat} (h : OfS w vo vf L F A) (hl : L.length = F.length) : ∃ a c a2 c2, vo = .slice a F.length c ∧ vf = .slice a2 F.length c2 := by
  obtain ⟨a, len, c, h1, h2, -⟩ := rds_of_own (V := txV) txV_length h.out
  have h3 := h.frm.2
  subst h2
  rw [hl] at h1
  rcases h3 with ⟨h3, h0⟩ | ⟨g, cap, _, hv, _⟩
  · exact ⟨a, c, none, 0, h1, by rw [h3, h0]⟩
  · exact ⟨a, c, _, _, h1, hv⟩
theorem OfS.shapes_at {w A : World} {a a2 : Option Addr} {n c m c2 : Nat} {L : TxL} {F : List Nat} (h : OfS w (.slice a n c) (.slice a2 m c2) L F A) (hl : L.length = F.length) (h0 : 0 < F.length) : ∃ g gf, a = some ⟨g, 0, none⟩ ∧ a2 = some ⟨gf, 0, none⟩ := by
  obtain ⟨g, cap, e1⟩ := h.out_shape (by omega)
  obtain ⟨gf, cap2, e2⟩ := h.frm_shape h0
  simp only [Value.slice.injEq] at e1 e2
  exact ⟨g, gf, e1.1, e2.1⟩
theorem OfInv.state {es : List GEvent} {i k f : Nat} {L : List GTxn} {F : List Nat} {t : GTxn} {s : Int} (h : OfInv es i L F) (ht : L[k]? = some t) (hf : F[k]? = some f) (hs : 0 ≤ s ∧ s ≤ 2) : OfInv es i (L.set k ⟨t.client, s, t.ops⟩) F := by
  obtain ⟨-, h2, h3, e, h4, h5, h6, h7⟩ := h.txn k t f ht hf
  exact h.set (e := e) hf hs h2 h3 h4 h5 h6 h7
theorem one_vi (n : Int) : ∀ u ∈ [vi n], u.oneCell' = true := by intro u hu; simp at hu; subst hu; rfl

/-- The box of the event stays. -/
theorem OfS.box {w A : World} {vf : Value} {L : TxL} {F : List Nat} {g n cap : Nat} (h : OfS w (.slice (some ⟨g, 0, none⟩) n cap) vf L F A) (hn : n = L.length) {bx : Nat} {cs : Array Value} (hb : A.heap[bx]? = some (.cells cs 119)) (j : Nat) (u : Value) : (A.setCell ⟨g, j, none⟩ u).heap[bx]? = some (.cells cs 119) := by
  subst hn
  exact own_box h.out hb (by decide) (World.ownsRow.stored h.out j u).2
end Go.Proofs.Ytefpmcbpodlabaa
