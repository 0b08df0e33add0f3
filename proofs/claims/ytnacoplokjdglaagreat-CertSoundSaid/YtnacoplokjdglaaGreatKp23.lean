/- Texts of one proof, one behind the other: DpEqv, DpBadP, DpBadA. -/
import Derived.Test.YtnacoplokjdglaaGreatKp1
import Derived.Test.YtnacoplokjdglaaGreatKp2
import Derived.Test.YtnacoplokjdglaaGreatKp3
import Derived.Test.YtnacoplokjdglaaGreatKp4
import Derived.Test.YtnacoplokjdglaaGreatKp5
import Derived.Test.YtnacoplokjdglaaGreatKp6
import Derived.Test.YtnacoplokjdglaaGreatKp8
import Derived.Test.YtnacoplokjdglaaGreatKp9
import Derived.Test.YtnacoplokjdglaaGreatKp10
import Derived.Test.YtnacoplokjdglaaGreatKp11
import Derived.Test.YtnacoplokjdglaaGreatKp12
import Derived.Test.YtnacoplokjdglaaGreatKp13
import Derived.Test.YtnacoplokjdglaaGreatKp14
import Derived.Test.YtnacoplokjdglaaGreatKp15
import Derived.Test.YtnacoplokjdglaaGreatKp16
import Derived.Test.YtnacoplokjdglaaGreatKp22
set_option linter.all false
namespace Go.Proofs.YtnacoplokjdglaaGreat
open Go.RowKit Go.Maps

theorem kE_mem {ts : List GTxn} {G : FaL} {a b m : Nat} {e : GEdge} : e ∈ kE ts G a b m ↔ ∃ k : Nat, 1 ≤ k ∧ k ≤ m ∧ hasAll ts G a b k = true ∧ e = ⟨a, b, k⟩ := by
  unfold kE
  rw [List.mem_flatMap]
  constructor
  · rintro ⟨j, hj, he⟩
    split at he
    · rename_i hh
      simp only [List.mem_singleton] at he
      exact ⟨j + 1, by omega, by have := List.mem_range.1 hj; omega, hh, he⟩
    · simp at he
  · rintro ⟨k, h1, h2, h3, h4⟩
    refine ⟨k - 1, List.mem_range.2 (by omega), ?_⟩
    rw [show k - 1 + 1 = k by omega, if_pos h3]
    simp [h4]
theorem refE_mem {ts : List GTxn} {G : FaL} {e : GEdge} : e ∈ refE ts G ↔ ∃ a b k : Nat, a < ts.length ∧ b < ts.length ∧ 1 ≤ k ∧ k ≤ 3 ∧ hasAll ts G a b k = true ∧ e = ⟨a, b, k⟩ := by
  unfold refE aE bE
  simp only [List.mem_flatMap, List.mem_range, kE_mem]
  constructor
  · rintro ⟨a, ha, b, hb, k, h1, h2, h3, h4⟩; exact ⟨a, b, k, ha, hb, h1, h2, h3, h4⟩
  · rintro ⟨a, b, k, ha, hb, h1, h2, h3, h4⟩; exact ⟨a, ha, b, hb, k, h1, h2, h3, h4⟩
theorem refE_up (ts : List GTxn) (G : FaL) : (refE ts G).Pairwise ltE := by
  unfold refE aE
  rw [List.pairwise_flatMap]
  refine ⟨fun a ha => ?_, List.pairwise_lt_range.imp fun {a c} h x hx y hy => ?_⟩
  · unfold bE
    rw [List.pairwise_flatMap]
    refine ⟨fun b hb => ?_, List.pairwise_lt_range.imp fun {b d} h x hx y hy => ?_⟩
    · unfold kE
      rw [List.pairwise_flatMap]
      refine ⟨fun j hj => by split <;> simp, List.pairwise_lt_range.imp fun {i j} h x hx y hy => ?_⟩
      split at hx
      · split at hy
        · simp only [List.mem_singleton] at hx hy
          subst hx hy
          exact .inr ⟨rfl, .inr ⟨rfl, by simp only; omega⟩⟩
        · simp at hy
      · simp at hx
    · obtain ⟨k, _, _, _, rfl⟩ := kE_mem.1 hx
      obtain ⟨k', _, _, _, rfl⟩ := kE_mem.1 hy
      exact .inr ⟨rfl, .inl (by simp only; omega)⟩
  · unfold bE at hx hy
    simp only [List.mem_flatMap, List.mem_range, kE_mem] at hx hy
    obtain ⟨b, _, k, _, _, _, rfl⟩ := hx
    obtain ⟨b', _, k', _, _, _, rfl⟩ := hy
    exact .inl (by simp only; omega)

section
variable {ts : List GTxn} {L : FaL}
theorem dn_iff (hg : GoodTs ts) (i : Nat) : dnM ts L i = true ↔ isI ts L i = 1 := by
  have := isI_one hg.uniq L i
  unfold dnM
  rw [← this]
  simp
theorem reads_state {t : GTxn} {o : GOp} (h : o ∈ readsM t) : t.state = 1 := by
  unfold readsM at h
  split at h
  · assumption
  · simp at h
theorem done_dn (hg : GoodTs ts) {i : Nat} {t : GTxn} (ht : ts[i]? = some t) (hs : t.state = 1) : isI ts L i = 1 := by
  have hi := (List.getElem?_eq_some_iff.1 ht).1
  unfold isI
  have : (refSureN ts ts.length)[i]?.getD false = true := by
    unfold refSureN
    rw [List.getElem?_map, List.getElem?_range hi]
    show refSure1 ts i = true
    unfold refSure1 stOf
    rw [ht]
    simp [hs]
  rw [this]; rfl
theorem wr_of_wrote {t : GTxn} {key val : Int} (h : t.ops.any (wroteB key val) = true) : wrB t key = true := by
  obtain ⟨o, ho, hh⟩ := List.any_eq_true.1 h
  refine List.any_eq_true.2 ⟨o, ho, ?_⟩
  simp [wroteB] at hh
  simp [wkB, hh]
theorem writer_some {key val : Int} {n : Nat} (h : writerM ts key val = n) : ∃ t, ts[n]? = some t ∧ t.ops.any (wroteB key val) = true := by
  unfold writerM at h
  cases hf : ts.findIdx? (fun t => t.ops.any (wroteB key val)) with
  | none =>
    rw [hf] at h
    have h' : (-1 : Int) = (n : Int) := h
    omega
  | some i =>
    rw [hf] at h
    have h' : (i : Int) = (n : Int) := h
    have : i = n := by omega
    subst this
    rw [List.findIdx?_eq_some_iff_getElem] at hf
    obtain ⟨hi, h1, -⟩ := hf
    exact ⟨_, List.getElem?_eq_getElem hi, h1⟩
theorem src_writer (hg : GoodTs ts) (key val : Int) (h0 : val ≠ 0) : (∃ n : Nat, writerM ts key val = n ∧ srcM ts key val = ((n : Int), true)) ∨ (writerM ts key val = -1 ∧ (srcM ts key val).2 = false) := by
  rcases by_writer hg.uniq key val with ⟨h1, h2⟩ | ⟨i, t, ht, h1, h2⟩
  · refine .inr ⟨h2, ?_⟩
    unfold srcM; rw [if_neg h0, h1]
  · refine .inl ⟨i, h2, ?_⟩
    unfold srcM; rw [if_neg h0, h1]
theorem writesM_key {t : GTxn} (hg : GoodTs ts) (ht : t ∈ ts) {key : Int} : (∃ o ∈ writesM t.ops, o.key = key) ↔ wrB t key = true := by
  constructor
  · rintro ⟨o, ho, rfl⟩
    refine List.any_eq_true.2 ⟨o, writesM_mem ho, ?_⟩
    unfold writesM writesTo at ho
    obtain ⟨k, -, hk⟩ := List.mem_filterMap.1 ho
    have := (lastW_mem hk).2
    simp [hitB] at this
    simp [wkB, this.1]
  · intro h
    obtain ⟨o, ho, hh⟩ := List.any_eq_true.1 h
    simp [wkB] at hh
    have hgo := (hg.txn t ht).2.1 o ho
    obtain ⟨k, hk, hk16⟩ : ∃ k : Nat, key = k ∧ k < 16 := ⟨key.toNat, by have := hgo.key0; have := hh.2; omega, by have := hgo.key1; have := hh.2; omega⟩
    have h1 := refWk_eq t.ops k hk16
    have h2 : t.ops.any (hitK (k : Int)) = true := by rw [← hk]; exact h
    rw [h2] at h1
    unfold refWk at h1
    obtain ⟨p, hp, hpk⟩ := List.any_eq_true.1 h1
    exact ⟨p, hp, by rw [hk]; simpa using hpk⟩
theorem fact_get (hf : FaOk ts L) {c : GChoice} {b : Bool} : getM L c = some b ↔ (c, b) ∈ L :=
  ⟨getM_some, fun h => getM_of_mem hf.pw h⟩
/-- The facts say that one stands ahead of another one. -/
theorem ahead_iff (hf : FaOk ts L) {key a b : Int} (hab : a ≠ b) : aheadB L key a b = true ↔ ∃ p ∈ L, p.1.kind = 2 ∧ p.1.key = key ∧ (p.2 = true ∧ a = p.1.a ∧ b = p.1.b ∨ p.2 = false ∧ a = p.1.b ∧ b = p.1.a) := by
  have g1 : ∀ c, (getI L c == 1) = true ↔ getM L c = some true := fun c => by
    unfold getI; cases getM L c with | none => simp | some x => cases x <;> simp
  have g0 : ∀ c, (getI L c == 0) = true ↔ getM L c = some false := fun c => by
    unfold getI; cases getM L c with | none => simp | some x => cases x <;> simp
  unfold aheadB
  constructor
  · intro h
    split at h
    · exact ⟨_, (fact_get hf).1 ((g1 _).1 h), rfl, rfl, .inl ⟨rfl, rfl, rfl⟩⟩
    · exact ⟨_, (fact_get hf).1 ((g0 _).1 h), rfl, rfl, .inr ⟨rfl, rfl, rfl⟩⟩
  · rintro ⟨⟨c, s⟩, hp, hk, hky, h⟩
    have hok := choicesM_ok (hf.mem _ hp)
    have hk' : c.kind = 2 := hk
    have hlt : c.a < c.b := by
      rcases hok.kind with ⟨h1, _⟩ | ⟨_, h2⟩
      · have h1' : c.kind = 1 := h1
        omega
      · exact h2
    clear hk'
    obtain ⟨ck, cy, ca, cb⟩ := c
    simp only at hk hky h hlt
    subst hk hky
    rcases h with ⟨rfl, rfl, rfl⟩ | ⟨rfl, rfl, rfl⟩
    · rw [if_pos hlt]; exact (g1 _).2 ((fact_get hf).2 hp)
    · rw [if_neg (by omega)]; exact (g0 _).2 ((fact_get hf).2 hp)
theorem hasM_iff (hg : GoodTs ts) {c : GChoice} : hasM ts (dnM ts L) c = true ↔ ∃ (a b : Nat) (ta tb : GTxn), c.a = a ∧ c.b = b ∧ ts[a]? = some ta ∧ ts[b]? = some tb ∧ isI ts L a = 1 ∧ isI ts L b = 1 ∧ wrB ta c.key = true ∧ wrB tb c.key = true := by
  unfold hasM
  rw [Bool.and_eq_true, has1_iff, has1_iff]
  constructor
  · rintro ⟨⟨a, ta, h1, h2, h3, h4⟩, ⟨b, tb, h5, h6, h7, h8⟩⟩
    exact ⟨a, b, ta, tb, h1, h5, h2, h6, (dn_iff hg a).1 h3, (dn_iff hg b).1 h7, h4, h8⟩
  · rintro ⟨a, b, ta, tb, h1, h5, h2, h6, h3, h7, h4, h8⟩
    exact ⟨⟨a, ta, h1, h2, (dn_iff hg a).2 h3, h4⟩, ⟨b, tb, h5, h6, (dn_iff hg b).2 h7, h8⟩⟩
theorem hasAll_iff {a b k : Nat} : hasAll ts L a b k = true ↔ ∃ ta tb, ts[a]? = some ta ∧ ts[b]? = some tb ∧ a ≠ b ∧ isI ts L a = 1 ∧ isI ts L b = 1 ∧ (if k = 1 then hasR1 L ta tb a b else if k = 2 then hasR2 ts tb a else hasR3 ts L ta tb b) = true := by
  unfold hasAll
  cases hta : ts[a]? with
  | none => simp
  | some ta =>
    cases htb : ts[b]? with
    | none => simp
    | some tb =>
      simp only
      by_cases hno : a = b ∨ isI ts L a ≠ 1 ∨ isI ts L b ≠ 1
      · rw [if_pos hno]
        constructor
        · intro h; cases h
        · rintro ⟨_, _, h1, h2, h3, h4, h5, -⟩
          rcases hno with h | h | h
          · exact absurd h h3
          · exact absurd h4 h
          · exact absurd h5 h
      · rw [if_neg hno]
        constructor
        · intro h
          exact ⟨ta, tb, rfl, rfl, fun h => hno (.inl h), Classical.byContradiction fun h => hno (.inr (.inl h)), Classical.byContradiction fun h => hno (.inr (.inr h)), h⟩
        · rintro ⟨_, _, h1, h2, _, _, _, h⟩
          cases h1; cases h2; exact h

theorem wr_key (hg : GoodTs ts) {t : GTxn} (ht : t ∈ ts) {key : Int} (h : wrB t key = true) : 0 ≤ key ∧ key ≤ 15 := by
  obtain ⟨o, ho, hh⟩ := List.any_eq_true.1 h
  simp [wkB] at hh
  have hgo := (hg.txn t ht).2.1 o ho
  have := hgo.key0; have := hgo.key1; have := hh.2
  omega
theorem rds_of (hg : GoodTs ts) {a : Nat} {ta : GTxn} {o : GOp} (hta : ts[a]? = some ta) (ho : o ∈ readsM ta) (h0 : o.val = 0) : (⟨a, -1, o.key⟩ : GRd) ∈ rdsL ts (dnM ts L) := by
  have hs : srcM ts o.key o.val = (-1, true) := by unfold srcM; rw [if_pos h0]
  exact rds_mem.2 ⟨a, ta, o, hta, ho, by rw [hs], by rw [hs]; exact .inl (by decide), by rw [hs]⟩
theorem rds_wr (hg : GoodTs ts) {a n : Nat} {ta : GTxn} {o : GOp} (hta : ts[a]? = some ta) (ho : o ∈ readsM ta) (h0 : o.val ≠ 0) (hn : writerM ts o.key o.val = n) (hd : isI ts L n = 1) : (⟨a, n, o.key⟩ : GRd) ∈ rdsL ts (dnM ts L) := by
  rcases src_writer hg o.key o.val h0 with ⟨m, h1, h2⟩ | ⟨h1, -⟩
  · have hmn : m = n := by omega
    subst hmn
    exact rds_mem.2 ⟨a, ta, o, hta, ho, by rw [h2], by rw [h2]; exact .inr ((dn_iff hg m).2 hd), by rw [h2]⟩
  · omega
/-- A read that has a source. -/
theorem rds_cases (hg : GoodTs ts) {r : GRd} (h : r ∈ rdsL ts (dnM ts L)) : ∃ (a : Nat) (ta : GTxn) (o : GOp), ts[a]? = some ta ∧ o ∈ readsM ta ∧ r.by_ = a ∧ r.key = o.key ∧ isI ts L a = 1 ∧
    (o.val = 0 ∧ r.of_ = -1 ∨ ∃ n : Nat, o.val ≠ 0 ∧ writerM ts o.key o.val = n ∧ r.of_ = n ∧ isI ts L n = 1) := by
  obtain ⟨a, ta, o, hta, ho, h1, h2, rfl⟩ := rds_mem.1 h
  refine ⟨a, ta, o, hta, ho, rfl, rfl, done_dn hg hta (reads_state ho), ?_⟩
  by_cases h0 : o.val = 0
  · refine .inl ⟨h0, ?_⟩
    show (srcM ts o.key o.val).1 = -1
    unfold srcM; rw [if_pos h0]
  · rcases src_writer hg o.key o.val h0 with ⟨n, h3, h4⟩ | ⟨-, h4⟩
    · refine .inr ⟨n, h0, h3, ?_, ?_⟩
      · show (srcM ts o.key o.val).1 = n
        rw [h4]
      · rw [h4] at h2
        rcases h2 with h2 | h2
        · simp only at h2; omega
        · exact (dn_iff hg n).1 h2
    · rw [h4] at h1; cases h1
theorem has1_eqv (hg : GoodTs ts) (hf : FaOk ts L) {a b : Nat} {ta tb : GTxn} (hta : ts[a]? = some ta) (htb : ts[b]? = some tb) (hab : a ≠ b) (hda : isI ts L a = 1) (hdb : isI ts L b = 1) :
    hasR1 L ta tb a b = true ↔ ∃ p ∈ L, p.1.kind = 2 ∧ hasM ts (dnM ts L) p.1 = true ∧ (p.2 = true ∧ (a : Int) = p.1.a ∧ (b : Int) = p.1.b ∨ p.2 = false ∧ (a : Int) = p.1.b ∧ (b : Int) = p.1.a) := by
  have hab' : (a : Int) ≠ b := by omega
  unfold hasR1
  rw [List.any_eq_true]
  constructor
  · rintro ⟨key, hk, hh⟩
    simp only [ww1, Bool.and_eq_true] at hh
    obtain ⟨h1, h2, h3⟩ := hh
    obtain ⟨p, hp, h4, h5, h6⟩ := (ahead_iff hf hab').1 h3
    refine ⟨p, hp, h4, (hasM_iff hg).2 ?_, h6⟩
    rcases h6 with ⟨-, h7, h8⟩ | ⟨-, h7, h8⟩
    · exact ⟨a, b, ta, tb, h7.symm, h8.symm, hta, htb, hda, hdb, by rw [h5]; exact h1, by rw [h5]; exact h2⟩
    · exact ⟨b, a, tb, ta, h8.symm, h7.symm, htb, hta, hdb, hda, by rw [h5]; exact h2, by rw [h5]; exact h1⟩
  · rintro ⟨p, hp, h4, hm, h6⟩
    obtain ⟨x, y, tx, ty, e1, e2, htx, hty, -, -, w1, w2⟩ := (hasM_iff hg).1 hm
    have hw : wrB ta p.1.key = true ∧ wrB tb p.1.key = true := by
      rcases h6 with ⟨-, h7, h8⟩ | ⟨-, h7, h8⟩
      · have h9 : x = a := by omega
        have h10 : y = b := by omega
        subst h9 h10
        rw [hta] at htx; rw [htb] at hty
        cases htx; cases hty
        exact ⟨w1, w2⟩
      · have h9 : x = b := by omega
        have h10 : y = a := by omega
        subst h9 h10
        rw [htb] at htx; rw [hta] at hty
        cases htx; cases hty
        exact ⟨w2, w1⟩
    have hk := wr_key hg (List.mem_of_getElem? hta) hw.1
    obtain ⟨k, hkk⟩ : ∃ k : Nat, p.1.key = k := ⟨p.1.key.toNat, by omega⟩
    refine ⟨k, List.mem_range.2 (by omega), ?_⟩
    simp only [ww1, Bool.and_eq_true]
    rw [← hkk]
    exact ⟨hw.1, hw.2, (ahead_iff hf hab').2 ⟨p, hp, h4, rfl, h6⟩⟩
theorem refE_iff (hg : GoodTs ts) (hf : FaOk ts L) (e : GEdge) : e ∈ refE ts L ↔ e ∈ edgeL ts L := by
  rw [refE_mem, edge_mem]
  constructor
  · rintro ⟨a, b, k, ha, hb, h1, h3, hh, rfl⟩
    obtain ⟨ta, tb, hta, htb, hab, hda, hdb, hk⟩ := hasAll_iff.1 hh
    have h4 : k = 1 ∨ k = 2 ∨ k = 3 := by omega
    rcases h4 with rfl | rfl | rfl
    · rw [if_pos rfl] at hk
      obtain ⟨p, hp, h5, h6, h7⟩ := (has1_eqv hg hf hta htb hab hda hdb).1 hk
      exact .inr (.inr ⟨p, hp, a, b, h5, h6, h7, .inl ⟨by omega, rfl⟩⟩)
    · rw [if_neg (by decide), if_pos rfl] at hk
      obtain ⟨o, ho, hr⟩ := List.any_eq_true.1 hk
      simp only [r2B, Bool.and_eq_true, bne_iff_ne, ne_eq, beq_iff_eq] at hr
      exact .inl ⟨_, rds_wr hg htb ho hr.1 hr.2 hda, by simp, by simp only; omega, rfl⟩
    · rw [if_neg (by decide), if_neg (by decide)] at hk
      obtain ⟨o, ho, hr⟩ := List.any_eq_true.1 hk
      simp only [r3B, r3W, Bool.and_eq_true, Bool.or_eq_true, bne_iff_ne, ne_eq, beq_iff_eq, decide_eq_true_eq] at hr
      obtain ⟨hw, hr⟩ := hr
      by_cases h0 : o.val = 0
      · obtain ⟨o', ho', hk'⟩ := (writesM_key hg (List.mem_of_getElem? htb)).2 hw
        exact .inr (.inl ⟨b, tb, o', _, htb, (dn_iff hg b).2 hdb, ho', rds_of hg hta ho h0, by simp, by simp only; exact hk'.symm, by simp only; omega, rfl⟩)
      · obtain ⟨h5, h6, h7, h8⟩ := hr.resolve_left h0
        obtain ⟨n, hn⟩ : ∃ n : Nat, writerM ts o.key o.val = n := ⟨(writerM ts o.key o.val).toNat, by omega⟩
        rw [hn] at h6 h7 h8
        rw [Int.toNat_natCast] at h7
        have hv0 : o.val ≠ 0 := h0
        obtain ⟨tn, htn, hwn⟩ := writer_some hn
        obtain ⟨p, hp, h9, h10, h11⟩ := (ahead_iff hf (by omega : (n : Int) ≠ b)).1 h8
        refine .inr (.inr ⟨p, hp, n, b, h9, (hasM_iff hg).2 ?_, h11, .inr ⟨_, rds_wr hg hta ho hv0 hn h7, rfl, h10.symm, by simp only; omega, rfl⟩⟩)
        have hwn' := wr_of_wrote hwn
        rcases h11 with ⟨-, h12, h13⟩ | ⟨-, h12, h13⟩
        · exact ⟨n, b, tn, tb, h12.symm, h13.symm, htn, htb, h7, hdb, by rw [h10]; exact hwn', by rw [h10]; exact hw⟩
        · exact ⟨b, n, tb, tn, h13.symm, h12.symm, htb, htn, hdb, h7, by rw [h10]; exact hw, by rw [h10]; exact hwn'⟩
  · rintro (⟨r, hr, h0, h1, rfl⟩ | ⟨b, tb, o', r, htb, hd, ho', hr, h1, h2, h3, rfl⟩ | ⟨p, hp, A, B, h1, h2, h3, ⟨h4, rfl⟩ | ⟨r, hr, h5, h6, h7, rfl⟩⟩)
    · obtain ⟨b, tb, o, htb, ho, e1, e2, hdb, ⟨h5, h6⟩ | ⟨n, h5, h6, h7, h8⟩⟩ := rds_cases hg hr
      · omega
      · obtain ⟨tn, htn, -⟩ := writer_some h6
        refine ⟨n, b, 2, (List.getElem?_eq_some_iff.1 htn).1, (List.getElem?_eq_some_iff.1 htb).1, by omega, by omega, hasAll_iff.2 ⟨tn, tb, htn, htb, by omega, h8, hdb, ?_⟩, by rw [h7, e1]; rfl⟩
        rw [if_neg (by decide), if_pos rfl]
        exact List.any_eq_true.2 ⟨o, ho, by simp only [r2B, Bool.and_eq_true, bne_iff_ne, ne_eq, beq_iff_eq]; exact ⟨h5, h6⟩⟩
    · obtain ⟨a, ta, o, hta, ho, e1, e2, hda, ⟨h5, h6⟩ | ⟨n, h5, h6, h7, h8⟩⟩ := rds_cases hg hr
      · refine ⟨a, b, 3, (List.getElem?_eq_some_iff.1 hta).1, (List.getElem?_eq_some_iff.1 htb).1, by omega, by omega, hasAll_iff.2 ⟨ta, tb, hta, htb, by omega, hda, (dn_iff hg b).1 hd, ?_⟩, by rw [e1]; rfl⟩
        rw [if_neg (by decide), if_neg (by decide)]
        have hw := (writesM_key hg (List.mem_of_getElem? htb)).1 ⟨o', ho', (h2.symm.trans e2)⟩
        exact List.any_eq_true.2 ⟨o, ho, by unfold r3B; rw [hw, h5]; rfl⟩
      · omega
    · obtain ⟨x, y, tx, ty, e1, e2, htx, hty, d1, d2, w1, w2⟩ := (hasM_iff hg).1 h2
      obtain ⟨a, b, ta, tb, ha, hb, hta, htb, hda, hdb⟩ : ∃ (a b : Nat) (ta tb : GTxn), A = a ∧ B = b ∧ ts[a]? = some ta ∧ ts[b]? = some tb ∧ isI ts L a = 1 ∧ isI ts L b = 1 := by
        rcases h3 with ⟨-, h5, h6⟩ | ⟨-, h5, h6⟩
        · exact ⟨x, y, tx, ty, by omega, by omega, htx, hty, d1, d2⟩
        · exact ⟨y, x, ty, tx, by omega, by omega, hty, htx, d2, d1⟩
      subst ha hb
      refine ⟨a, b, 1, (List.getElem?_eq_some_iff.1 hta).1, (List.getElem?_eq_some_iff.1 htb).1, by omega, by omega, hasAll_iff.2 ⟨ta, tb, hta, htb, by omega, hda, hdb, ?_⟩, rfl⟩
      rw [if_pos rfl]
      exact (has1_eqv hg hf hta htb (by omega) hda hdb).2 ⟨p, hp, h1, h2, h3⟩
    · obtain ⟨x, y, tx, ty, e1, e2, htx, hty, d1, d2, w1, w2⟩ := (hasM_iff hg).1 h2
      obtain ⟨n', b, tn, tb, ha, hb, htn, htb, hdn, hdb, hwb⟩ : ∃ (a b : Nat) (ta tb : GTxn), A = a ∧ B = b ∧ ts[a]? = some ta ∧ ts[b]? = some tb ∧ isI ts L a = 1 ∧ isI ts L b = 1 ∧ wrB tb p.1.key = true := by
        rcases h3 with ⟨-, h8, h9⟩ | ⟨-, h8, h9⟩
        · exact ⟨x, y, tx, ty, by omega, by omega, htx, hty, d1, d2, w2⟩
        · exact ⟨y, x, ty, tx, by omega, by omega, hty, htx, d2, d1, w1⟩
      have hABne : A ≠ B := by
        have hok := choicesM_ok (hf.mem p hp)
        have hlt : p.1.a < p.1.b := by
          rcases hok.kind with ⟨h8, _⟩ | ⟨_, h8⟩
          · omega
          · exact h8
        rcases h3 with ⟨-, h8, h9⟩ | ⟨-, h8, h9⟩ <;> omega
      subst ha hb
      obtain ⟨a, ta, o, hta, ho, e3, e4, hda, ⟨h8, h9⟩ | ⟨n, h8, h9, h10, h11⟩⟩ := rds_cases hg hr
      · omega
      · have hnn : n = n' := by omega
        subst hnn
        refine ⟨a, b, 3, (List.getElem?_eq_some_iff.1 hta).1, (List.getElem?_eq_some_iff.1 htb).1, by omega, by omega, hasAll_iff.2 ⟨ta, tb, hta, htb, by omega, hda, hdb, ?_⟩, by rw [e3]; rfl⟩
        rw [if_neg (by decide), if_neg (by decide)]
        refine List.any_eq_true.2 ⟨o, ho, ?_⟩
        have hkk : p.1.key = o.key := by rw [← h6, e4]
        have hah := (ahead_iff hf hABne).2 ⟨p, hp, h1, hkk, h3⟩
        unfold r3B r3W
        rw [h9, Int.toNat_natCast, h11, hah, ← hkk, hwb, decide_eq_true (by omega : (0 : Int) ≤ (n : Int))]
        have : ((n : Int) != (b : Int)) = true := by simpa using hABne
        rw [this]; simp
theorem refE_edges (hg : GoodTs ts) (hf : FaOk ts L) : EdgesOf ts L (refE ts L) := ⟨refE_up ts L, refE_iff hg hf⟩
end
end Go.Proofs.YtnacoplokjdglaaGreat

namespace Go.Proofs.YtnacoplokjdglaaGreat
open Go.RowKit Go.Maps

def nowK (e : GEdge) : Nat := if e.k = 3 then 1 else 0
def st1 (level : Int) (e : GEdge) (l a b : Nat) : Bool := decide ((a : Int) = 2 * e.f + l ∧ (b : Int) = 2 * e.t + nowK e) && !(level == 1 && (l == 1 && nowK e == 1))
def stE (level : Int) (a b : Nat) (e : GEdge) : Bool := st1 level e 0 a b || st1 level e 1 a b
def stS (es : List GEdge) (level : Int) (a b : Nat) : Bool := es.any (stE level a b)
def StS (es : List GEdge) (level : Int) (a b : Nat) : Prop := stS es level a b = true
theorem stS_iff {es : List GEdge} {level : Int} {a b : Nat} : StS es level a b ↔ ∃ e ∈ es, ∃ l : Nat, l < 2 ∧ (a : Int) = 2 * e.f + l ∧ (b : Int) = 2 * e.t + nowK e ∧ ¬ (level = 1 ∧ l = 1 ∧ e.k = 3) := by
  have hn : ∀ e : GEdge, (nowK e == 1) = decide (e.k = 3) := fun e => by unfold nowK; split <;> simp_all
  have h1 : ∀ (e : GEdge) (l : Nat), st1 level e l a b = true ↔ (a : Int) = 2 * e.f + l ∧ (b : Int) = 2 * e.t + nowK e ∧ ¬ (level = 1 ∧ l = 1 ∧ e.k = 3) := fun e l => by
    unfold st1
    rw [hn]
    simp only [Bool.and_eq_true, Bool.not_eq_true', Bool.and_eq_false_iff, decide_eq_true_eq, decide_eq_false_iff_not, beq_eq_false_iff_ne, ne_eq, and_assoc]
    refine and_congr Iff.rfl (and_congr Iff.rfl ?_)
    constructor
    · rintro (h | h | h) ⟨h2, h3, h4⟩
      · exact h h2
      · exact h h3
      · exact h h4
    · intro h
      by_cases h2 : level = 1
      · by_cases h3 : l = 1
        · exact .inr (.inr fun h4 => h ⟨h2, h3, h4⟩)
        · exact .inr (.inl h3)
      · exact .inl h2
  unfold StS stS
  rw [List.any_eq_true]
  constructor
  · rintro ⟨e, he, hh⟩
    unfold stE at hh
    rcases Bool.or_eq_true _ _ ▸ hh with h | h
    · exact ⟨e, he, 0, by omega, (h1 e 0).1 h⟩
    · exact ⟨e, he, 1, by omega, (h1 e 1).1 h⟩
  · rintro ⟨e, he, l, hl, hh⟩
    refine ⟨e, he, ?_⟩
    unfold stE
    rw [Bool.or_eq_true]
    have : l = 0 ∨ l = 1 := by omega
    rcases this with rfl | rfl
    · exact .inl ((h1 e 0).2 hh)
    · exact .inr ((h1 e 1).2 hh)
theorem stS_lt {es : List GEdge} {level : Int} {n a b : Nat} (h : InN n es) (hs : StS es level a b) : a < 2 * n ∧ b < 2 * n := by
  obtain ⟨e, he, l, hl, h1, h2, -⟩ := stS_iff.1 hs
  have := h e he
  have : nowK e ≤ 1 := by unfold nowK; split <;> omega
  omega
theorem rounds_states {es : List GEdge} {level : Int} {n : Nat} (h : InN n es) : Rounds (StS es level) ↔ Rounds (StepK es (level == 1)) := by
  constructor
  · refine Rounds.map (fun a : Nat => (((a / 2 : Nat) : Int), a % 2 == 1)) (fun a b hs => ?_)
    obtain ⟨e, he, l, hl, h1, h2, h3⟩ := stS_iff.1 hs
    have hin := h e he
    have hk : nowK e ≤ 1 := by unfold nowK; split <;> omega
    have hkk : nowK e = 1 ↔ e.k = 3 := by unfold nowK; split <;> simp_all
    refine ⟨e, he, by simp only; omega, by simp only; omega, ?_, ?_⟩
    · show (b % 2 == 1) = (e.k == 3)
      rw [Bool.eq_iff_iff, beq_iff_eq, beq_iff_eq, ← hkk]; omega
    · rintro ⟨h4, h5, h6⟩
      simp only [beq_iff_eq] at h4 h5 h6
      exact h3 ⟨h4, by omega, hkk.1 (by omega)⟩
  · refine Rounds.map (fun x : Int × Bool => (2 * x.1).toNat + (if x.2 then 1 else 0)) (fun x y hs => ?_)
    obtain ⟨e, he, h1, h2, h3, h4⟩ := hs
    have hin := h e he
    obtain ⟨x1, x2⟩ := x
    obtain ⟨y1, y2⟩ := y
    simp only at h1 h2 h3 h4
    subst h1 h2
    refine stS_iff.2 ⟨e, he, (if x2 then 1 else 0), by split <;> omega, ?_, ?_, ?_⟩
    · simp only; split <;> omega
    · simp only
      have : (if y2 = true then 1 else 0) = nowK e := by
        rw [h3]; unfold nowK
        by_cases hk : e.k = 3 <;> simp [hk]
      rw [this]; omega
    · rintro ⟨h5, h6, h7⟩
      refine h4 ⟨by simpa using h5, ?_, by rw [h3, h7]; rfl⟩
      cases x2 with
      | true => rfl
      | false => simp at h6
theorem rounds_closed {es : List GEdge} {level : Int} {n : Nat} (h : InN n es) : Rounds (StS es level) ↔ ∃ i, i < 2 * n ∧ WayB (StS es level) (2 * n) i i := by
  constructor
  · rintro ⟨a, hw⟩
    have ha : a < 2 * n := by
      cases hw with
      | one h1 => exact (stS_lt h h1).1
      | more h1 _ => exact (stS_lt h h1).1
    exact ⟨a, ha, hw.wayB (fun a b hab => (stS_lt h hab).2)⟩
  · rintro ⟨i, -, hw⟩
    exact ⟨i, hw.way⟩

/-- A table of bools, row by row in the blocks behind its own. -/
structure MatB (tb m : Nat) (M : Nat → Nat → Bool) (W : World) : Prop where
  tab : W.heap[tb]? = some (.cells ((List.range m).map (fun i => Value.slice (some ⟨tb + 1 + i, 0, none⟩) m m)).toArray 34)
  row : ∀ i, i < m → W.heap[tb + 1 + i]? = some (.cells ((List.range m).map (fun j => Value.bool (M i j))).toArray 4)
section
variable {tb m : Nat} {M : Nat → Nat → Bool} {A B : World}
theorem MatB.congr {M' : Nat → Nat → Bool} (h : MatB tb m M A) (he : ∀ a b, a < m → b < m → M a b = M' a b) : MatB tb m M' A :=
  ⟨h.tab, fun i hi => by rw [h.row i hi]; congr 3; exact List.map_congr_left (fun j hj => by rw [he i j hi (List.mem_range.1 hj)])⟩
theorem MatB.later (h : MatB tb m M A) (hb : Below A.heap.size A B) : MatB tb m M B :=
  ⟨(hb.block tb (Array.getElem?_eq_some_iff.1 h.tab).1).trans h.tab, fun i hi => (hb.block _ (Array.getElem?_eq_some_iff.1 (h.row i hi)).1).trans (h.row i hi)⟩
theorem MatB.tcell (h : MatB tb m M A) {i : Nat} (hi : i < m) : A.cell? ⟨tb, i, none⟩ = some (.slice (some ⟨tb + 1 + i, 0, none⟩) m m) := by
  rw [cell_of h.tab]; simp [hi]
theorem MatB.rcell (h : MatB tb m M A) {i j : Nat} (hi : i < m) (hj : j < m) : A.cell? ⟨tb + 1 + i, j, none⟩ = some (.bool (M i j)) := by
  rw [cell_of (h.row i hi)]; simp [hj]
theorem MatB.free (h : MatB tb m M A) {i : Nat} (hi : i < m) (j : Nat) : A.frozen? ⟨tb + 1 + i, j, none⟩ = false := by
  simp [World.frozen?, h.row i hi]
theorem MatB.set (h : MatB tb m M A) {i j : Nat} (hi : i < m) (hj : j < m) : MatB tb m (fun a b => if a = i ∧ b = j then true else M a b) (A.setCell ⟨tb + 1 + i, j, none⟩ (.bool true)) := by
  refine ⟨?_, fun a ha => ?_⟩
  · rw [Below.heap_setCell _ _ _ tb (by simp only; omega)]; exact h.tab
  · by_cases hai : a = i
    · subst hai
      have hr := h.row a ha
      have e0 : (A.setCell ⟨tb + 1 + a, j, none⟩ (.bool true)).heap[tb + 1 + a]? = some (.cells (((List.range m).map (fun b => Value.bool (M a b))).set j (.bool true)).toArray 4) := by
        simp [World.setCell, Array.getElem?_modify, hr]
      rw [e0]
      have e := mapR_set m (fun b => Value.bool (M a b)) (fun b => Value.bool (if a = a ∧ b = j then true else M a b)) j (fun u hu => by rw [if_neg (fun h => hu h.2)])
      have e1 : ((List.range m).map (fun b => Value.bool (M a b))).set j (.bool true) = (List.range m).map (fun b => Value.bool (if a = a ∧ b = j then true else M a b)) := by
        rw [← e]; congr 1; simp
      rw [e1]
    · rw [Below.heap_setCell _ _ _ (tb + 1 + a) (by simp only; omega), h.row a ha]
      congr 3
      exact List.map_congr_left (fun b _ => by rw [if_neg (fun h => hai h.1)])
end
/-- One pass of the closure. -/
structure PassI (S : Nat → Nat → Prop) (m k i j : Nat) (M : Nat → Nat → Bool) : Prop where
  lo : ∀ a b, a < m → b < m → WayB S k a b → M a b = true
  hi : ∀ a b, a < m → b < m → M a b = true → WayB S (k + 1) a b
  rows : ∀ a b, a < i → a < m → b < m → WayB S (k + 1) a b → M a b = true
  cols : ∀ b, b < j → b < m → i < m → WayB S (k + 1) i b → M i b = true
def FullI (S : Nat → Nat → Prop) (m k : Nat) (M : Nat → Nat → Bool) : Prop := ∀ a b, a < m → b < m → (M a b = true ↔ WayB S k a b)
theorem FullI.start {S : Nat → Nat → Prop} {m k : Nat} {M : Nat → Nat → Bool} (h : FullI S m k M) : PassI S m k 0 0 M :=
  ⟨fun a b ha hb hw => (h a b ha hb).2 hw, fun a b ha hb hm => ((h a b ha hb).1 hm).mono (by omega), fun a b h => absurd h (Nat.not_lt_zero _), fun b h => absurd h (Nat.not_lt_zero _)⟩
theorem PassI.row {S : Nat → Nat → Prop} {m k i : Nat} {M : Nat → Nat → Bool} (h : PassI S m k i m M) : PassI S m k (i + 1) 0 M :=
  ⟨h.lo, h.hi, fun a b hai ha hb hw => by
    by_cases hl : a < i
    · exact h.rows a b hl ha hb hw
    · obtain rfl : a = i := by omega
      exact h.cols b hb hb ha hw, fun b h => absurd h (Nat.not_lt_zero _)⟩
theorem PassI.full {S : Nat → Nat → Prop} {m k : Nat} {M : Nat → Nat → Bool} (h : PassI S m k m 0 M) : FullI S m (k + 1) M :=
  fun a b ha hb => ⟨h.hi a b ha hb, h.rows a b ha ha hb⟩
theorem PassI.skip {S : Nat → Nat → Prop} {m k i j : Nat} {M : Nat → Nat → Bool} (h : PassI S m k i j M) (hi : i < m) (hj : j < m) (hk : k < m) (hn : ¬ (M i k = true ∧ M k j = true)) : PassI S m k i (j + 1) M :=
  ⟨h.lo, h.hi, h.rows, fun b hb hbm him hw => by
    by_cases hl : b < j
    · exact h.cols b hl hbm him hw
    · obtain rfl : b = j := by omega
      rcases hw.split with h1 | ⟨h1, h2⟩
      · exact h.lo i b him hbm h1
      · exact absurd ⟨h.lo i k him hk h1, h.lo k b hk hbm h2⟩ hn⟩
theorem PassI.put {S : Nat → Nat → Prop} {m k i j : Nat} {M : Nat → Nat → Bool} (h : PassI S m k i j M) (hi : i < m) (hj : j < m) (hk : k < m) (h1 : M i k = true) (h2 : M k j = true) : PassI S m k i (j + 1) (fun a b => if a = i ∧ b = j then true else M a b) := by
  have hm : ∀ a b, M a b = true → (if a = i ∧ b = j then true else M a b) = true := fun a b hab => by split <;> simp_all
  refine ⟨fun a b ha hb hw => hm a b (h.lo a b ha hb hw), fun a b ha hb hab => ?_, fun a b hai ha hb hw => hm a b (h.rows a b hai ha hb hw), fun b hb hbm him hw => ?_⟩
  · split at hab
    · rename_i hc
      obtain ⟨rfl, rfl⟩ := hc
      exact .more (h.hi a k ha hk h1) (by omega) (h.hi k b hk hb h2)
    · exact h.hi a b ha hb hab
  · by_cases hl : b < j
    · exact hm i b (h.cols b hl hbm him hw)
    · obtain rfl : b = j := by omega
      simp
theorem full_start {S : Nat → Nat → Prop} {m : Nat} {M : Nat → Nat → Bool} (h : ∀ a b, a < m → b < m → (M a b = true ↔ S a b)) : FullI S m 0 M := fun a b ha hb => by
  rw [h a b ha hb]
  constructor
  · exact .one
  · intro hw
    cases hw with
    | one h1 => exact h1
    | more _ hb _ => exact absurd hb (Nat.not_lt_zero _)
end Go.Proofs.YtnacoplokjdglaaGreat

namespace Go.Proofs.YtnacoplokjdglaaGreat
open Go.RowKit Go.Maps

theorem Tryz.infoBools : (Tryz.prog.info? 34).map (fun i => (i.zero, i.size, i.bytes)) = some (some (.slice none 0 0), 1, 24) := by kernel_rfl
theorem run_makeTab (w : World) (n : Nat) (hn : n ≤ 1048576) : (Instr.makeSlice 111 (.int .i64 (n : Int)) (.int .i64 (n : Int))).run Tryz.prog w = .ok (.slice (some ⟨w.heap.size, 0, none⟩) n n) (w.alloc (.cells (Array.replicate n (.slice none 0 0)) 34)) := by
  obtain ⟨i, hi, h2⟩ := Option.map_eq_some_iff.1 Tryz.infoBools
  simp only [Prod.mk.injEq] at h2
  obtain ⟨hz, hs, hb⟩ := h2
  have := run_makeSlice (P := Tryz.prog) w 111 34 i (.slice none 0 0) Tryz.underlying111 hi hz .i64 .i64 n n (by omega) (Int.le_refl _) (by rw [hs]; omega) (by rw [hb]; omega) (by omega)
  rw [this, hs]
  have e : madeCells (Value.slice none 0 0).cells ((n : Int).toNat * 1) = (List.replicate n (.slice none 0 0)).toArray := by
    apply Array.toList_inj.1
    rw [show (Value.slice none 0 0).cells = #[Value.slice none 0 0] from rfl, toList_madeCells_one]
    simp
  rw [e]; simp
theorem run_makeBoolR (w : World) (n : Nat) (hn : n ≤ 1048576) : (Instr.makeSlice 34 (.int .i64 (n : Int)) (.int .i64 (n : Int))).run Tryz.prog w = .ok (.slice (some ⟨w.heap.size, 0, none⟩) n n) (w.alloc (.cells (Array.replicate n (Value.bool false)) 4)) := by
  rw [run_makeBools w n hn]
  simp
structure MatP (tb m k : Nat) (W : World) : Prop where
  tab : W.heap[tb]? = some (.cells ((List.range m).map (fun i => if i < k then Value.slice (some ⟨tb + 1 + i, 0, none⟩) m m else Value.slice none 0 0)).toArray 34)
  row : ∀ i, i < k → W.heap[tb + 1 + i]? = some (.cells ((List.range m).map (fun _ => Value.bool false)).toArray 4)
  size : W.heap.size = tb + 1 + k
section
variable {tb m k : Nat} {A : World}
theorem MatP.start (w : World) (m : Nat) : MatP w.heap.size m 0 (w.alloc (.cells (Array.replicate m (.slice none 0 0)) 34)) := by
  refine ⟨?_, fun i h => absurd h (Nat.not_lt_zero _), by simp⟩
  rw [alloc_at]
  congr 2
  apply Array.ext'
  simp
  apply List.ext_getElem?
  intro j
  rw [List.getElem?_map, List.getElem?_replicate]
  by_cases hj : j < m
  · rw [List.getElem?_range hj, if_pos hj]; rfl
  · rw [List.getElem?_eq_none (by simp; omega), if_neg hj]; rfl
theorem MatP.free (h : MatP tb m k A) (o : Obj) (j : Nat) : (A.alloc o).frozen? ⟨tb, j, none⟩ = false := by
  have e : (A.alloc o).heap[tb]? = A.heap[tb]? := Below.heap_alloc A o tb (Array.getElem?_eq_some_iff.1 h.tab).1
  simp only [World.frozen?, e, h.tab]
  simp
theorem MatP.cell (h : MatP tb m k A) (hk : k < m) (o : Obj) : (A.alloc o).cell? ⟨tb, k, none⟩ = some (.slice none 0 0) := by
  have e : (A.alloc o).heap[tb]? = A.heap[tb]? := Below.heap_alloc A o tb (Array.getElem?_eq_some_iff.1 h.tab).1
  rw [cell_of (e.trans h.tab)]
  simp [hk]
theorem MatP.next (h : MatP tb m k A) (hk : k < m) : MatP tb m (k + 1) ((A.alloc (.cells (Array.replicate m (Value.bool false)) 4)).setCell ⟨tb, k, none⟩ (.slice (some ⟨A.heap.size, 0, none⟩) m m)) := by
  have ht := (Array.getElem?_eq_some_iff.1 h.tab).1
  have e : (A.alloc (.cells (Array.replicate m (Value.bool false)) 4)).heap[tb]? = A.heap[tb]? := Below.heap_alloc A _ tb ht
  refine ⟨?_, fun i hi => ?_, ?_⟩
  · have e0 : ((A.alloc (.cells (Array.replicate m (Value.bool false)) 4)).setCell ⟨tb, k, none⟩ (.slice (some ⟨A.heap.size, 0, none⟩) m m)).heap[tb]? = some (.cells (((List.range m).map (fun i => if i < k then Value.slice (some ⟨tb + 1 + i, 0, none⟩) m m else Value.slice none 0 0)).set k (.slice (some ⟨A.heap.size, 0, none⟩) m m)).toArray 34) := by
      simp only [World.setCell, Array.getElem?_modify, e, h.tab]
      simp
    rw [e0]
    have e2 := mapR_set m (fun i => if i < k then Value.slice (some ⟨tb + 1 + i, 0, none⟩) m m else Value.slice none 0 0) (fun i => if i < k + 1 then Value.slice (some ⟨tb + 1 + i, 0, none⟩) m m else Value.slice none 0 0) k (fun u hu => by
      by_cases h1 : u < k
      · rw [if_pos h1, if_pos (by omega)]
      · rw [if_neg h1, if_neg (by omega)])
    rw [← e2, if_pos (Nat.lt_succ_self k), h.size]
  · rw [Below.heap_setCell _ _ _ (tb + 1 + i) (by simp only; omega)]
    by_cases h1 : i < k
    · rw [Below.heap_alloc A _ _ (by rw [h.size]; omega)]
      exact h.row i h1
    · obtain rfl : i = k := by omega
      rw [← h.size, alloc_at]
      congr 2
      apply Array.ext'
      simp only [Array.toList_replicate]
      apply List.ext_getElem?
      intro j
      rw [List.getElem?_map, List.getElem?_replicate]
      by_cases hj : j < m
      · rw [List.getElem?_range hj, if_pos hj]; rfl
      · rw [List.getElem?_eq_none (by simp; omega), if_neg hj]; rfl
  · simp [World.setCell, h.size]; omega
theorem MatP.full (h : MatP tb m m A) : MatB tb m (fun _ _ => false) A := by
  refine ⟨?_, h.row⟩
  rw [h.tab]
  congr 3
  exact List.map_congr_left (fun i hi => by rw [if_pos (List.mem_range.1 hi)])
end
/-- Below, behind a store in the table. -/
theorem below_row {tb base : Nat} {w A : World} (hb : Below base w A) (ht : base ≤ tb) (i j : Nat) (v : Value) : Below base w (A.setCell ⟨tb + 1 + i, j, none⟩ v) := hb.setCell (by simp only; omega) v
end Go.Proofs.YtnacoplokjdglaaGreat
