/- Texts of one proof, one behind the other: ShSim, ShStep, Rn21P, Rn21A, Rn21B. -/
import Derived.Test.YtdkkpkgfiodlbaaJb11
import Derived.Test.YtdkkpkgfiodlbaaJb12
import Derived.Test.YtdkkpkgfiodlbaaJb19
set_option linter.all false
/- Two shards that were given the same commands: what they answer. -/
namespace Go.Proofs.Ytdkkpkgfiodlbaa
open Go.RowKit Go.Maps

def prR (y : Int × RV) : Int × Rdy := (y.1, y.2.r)
theorem getM_pr (R : RdyL) (k : Int) : getM (R.map prR) k = (getM R k).map (·.r) := by
  unfold getM
  rw [List.find?_map, Option.map_map, Option.map_map]
  rfl
theorem putM_pr (R : RdyL) (k : Int) (y : RV) : (putM R k y).map prR = putM (R.map prR) k y.r := by
  unfold putM
  rw [getM_pr, Option.isSome_map]
  split
  · rw [List.map_map, List.map_map]
    apply List.map_congr_left
    intro p _
    show prR (if p.1 = k then (k, y) else p) = if (prR p).1 = k then (k, y.r) else prR p
    by_cases h : p.1 = k
    · rw [if_pos h, if_pos (show (prR p).1 = k from h)]; rfl
    · rw [if_neg h, if_neg (show ¬ (prR p).1 = k from h)]
  · rw [List.map_append]; rfl
theorem delM_pr (R : RdyL) (k : Int) : (delM R k).map prR = delM (R.map prR) k := by
  unfold delM
  rw [List.filter_map]; rfl
structure Sim2 (K1 : KeysL) (R1 : RdyL) (E1 D1 : EndL) (n1 : Int) (K2 : KeysL) (R2 : RdyL) (E2 D2 : EndL) (n2 : Int) : Prop where
  k : ∀ key, verOf K1 key = verOf K2 key
  r : R1.map prR = R2.map prR
  e : E1 = E2
  d : D1 = D2
  n : n1 = n2
theorem Sim2.start : Sim2 [] [] [] [] 0 [] [] [] [] 0 := ⟨fun _ => rfl, rfl, rfl, rfl, rfl⟩
def BlkP (P : List (Int × Rdy)) (but : Int) (q : Rdy → Bool) (r : Int × Bool) : Prop :=
  (r = (0, false) ∧ ∀ x ∈ P, x.1 ≠ but → q x.2 = false) ∨ (∃ x ∈ P, x.1 ≠ but ∧ q x.2 = true ∧ r = (x.1, true) ∧ ∀ y ∈ P, y.1 ≠ but → q y.2 = true → x.1 ≤ y.1)
theorem blk_pr {R : RdyL} {but : Int} {q : Rdy → Bool} {r : Int × Bool} (h : Blk R but q r) : BlkP (R.map prR) but q r := by
  rcases h with ⟨h1, h2⟩ | ⟨x, hx, h1, h2, h3, h4⟩
  · refine .inl ⟨h1, fun x hx => ?_⟩
    obtain ⟨y, hy, rfl⟩ := List.mem_map.1 hx
    exact h2 y hy
  · refine .inr ⟨prR x, List.mem_map.2 ⟨x, hx, rfl⟩, h1, h2, h3, fun y hy => ?_⟩
    obtain ⟨z, hz, rfl⟩ := List.mem_map.1 hy
    exact h4 z hz
theorem BlkP.uniq {P : List (Int × Rdy)} {but : Int} {q : Rdy → Bool} {a b : Int × Bool} (ha : BlkP P but q a) (hb : BlkP P but q b) : a = b := by
  rcases ha with ⟨h1, h2⟩ | ⟨x, hx, h1, h2, h3, h4⟩
  · rcases hb with ⟨g1, _⟩ | ⟨y, hy, g1, g2, _, _⟩
    · rw [h1, g1]
    · rw [h2 y hy g1] at g2; cases g2
  · rcases hb with ⟨_, g2⟩ | ⟨y, hy, g1, g2, g3, g4⟩
    · rw [g2 x hx h1] at h2; cases h2
    · have e1 := h4 y hy g1 g2
      have e2 := g4 x hx h1 h2
      have e : x.1 = y.1 := by omega
      rw [h3, g3, e]
theorem ReadM.uniq {K1 K2 : KeysL} {R1 R2 : RdyL} (hk : ∀ key, verOf K1 key = verOf K2 key) (hr : R1.map prR = R2.map prR) {bugs txn key t v1 b1 e1 v2 b2 e2 : Int} (h1 : ReadM K1 R1 bugs txn key t v1 b1 e1) (h2 : ReadM K2 R2 bugs txn key t v2 b2 e2) : v1 = v2 ∧ b1 = b2 ∧ e1 = e2 := by
  obtain ⟨i1, o1, hb1, c1⟩ := h1
  obtain ⟨i2, o2, hb2, c2⟩ := h2
  have hu := BlkP.uniq (blk_pr hb1) (hr ▸ blk_pr hb2)
  cases hu
  rcases c1 with ⟨p1, p2, rfl, rfl, rfl⟩ | ⟨p1, rfl, rfl, rfl⟩
  · rcases c2 with ⟨_, _, rfl, rfl, rfl⟩ | ⟨q1, rfl, rfl, rfl⟩
    · exact ⟨rfl, rfl, rfl⟩
    · rcases q1 with q1 | q1
      · rw [p1] at q1; cases q1
      · rw [p2] at q1; cases q1
  · rcases c2 with ⟨q1, q2, rfl, rfl, rfl⟩ | ⟨_, rfl, rfl, rfl⟩
    · rcases p1 with p1 | p1
      · rw [q1] at p1; cases p1
      · rw [q2] at p1; cases p1
    · exact ⟨by rw [hk key], rfl, rfl⟩
theorem GetsM.uniq {K1 K2 : KeysL} {R1 R2 : RdyL} (hk : ∀ key, verOf K1 key = verOf K2 key) (hr : R1.map prR = R2.map prR) {bugs txn t : Int} {ks v1 v2 : List Int} (h1 : GetsM K1 R1 bugs txn t ks v1) (h2 : GetsM K2 R2 bugs txn t ks v2) : v1 = v2 := by
  apply List.ext_getElem?
  intro j
  by_cases hj : j < ks.length
  · obtain ⟨k, hk'⟩ := some_at hj
    obtain ⟨x, hx⟩ := some_at (show j < v1.length by rw [h1.1]; exact hj)
    obtain ⟨y, hy⟩ := some_at (show j < v2.length by rw [h2.1]; exact hj)
    obtain ⟨_, g1⟩ := h1.2 j k x hk' hx
    obtain ⟨_, g2⟩ := h2.2 j k y hk' hy
    rw [hx, hy, (g1.uniq hk hr g2).1]
  · rw [List.getElem?_eq_none (by rw [h1.1]; omega), List.getElem?_eq_none (by rw [h2.1]; omega)]
theorem sorted_eq : ∀ {a b : List Int}, a.Perm b → a.Pairwise (fun x y => x ≤ y) → b.Pairwise (fun x y => x ≤ y) → a = b := fun hp h1 h2 =>
  hp.eq_of_pairwise (fun _ _ _ _ h3 h4 => Int.le_antisymm h3 h4) h1 h2
theorem WaitsM.uniq {R1 R2 : RdyL} (hr : R1.map prR = R2.map prR) {l1 l2 : List Rdy} (h1 : WaitsM R1 l1) (h2 : WaitsM R2 l2) : l1 = l2 := by
  obtain ⟨k1, p1, s1, rfl⟩ := h1
  obtain ⟨k2, p2, s2, rfl⟩ := h2
  have hm : R1.map (·.1) = R2.map (·.1) := by
    have := congrArg (List.map (fun x : Int × Rdy => x.1)) hr
    rw [List.map_map, List.map_map] at this; exact this
  have hk : k1 = k2 := sorted_eq (p1.trans (hm ▸ p2.symm)) s1 s2
  subst hk
  apply List.map_congr_left
  intro k _
  have hg := getM_pr R1 k
  rw [hr, getM_pr R2 k] at hg
  cases h1 : getM R1 k with
  | none =>
    rw [h1] at hg
    cases h2 : getM R2 k with
    | none => rfl
    | some y => rw [h2] at hg; cases hg
  | some x =>
    rw [h1] at hg
    cases h2 : getM R2 k with
    | none => rw [h2] at hg; cases hg
    | some y => rw [h2] at hg; exact (Option.some.inj hg).symm
theorem LockP.uniq {R1 R2 : RdyL} (hr : R1.map prR = R2.map prR) {b e m1 m2 : Int} (h1 : LockP R1 b e m1) (h2 : LockP R2 b e m2) : m1 = m2 := by
  by_cases he : e = 60
  · obtain ⟨L1, w1, rfl⟩ := h1.2 he
    obtain ⟨L2, w2, rfl⟩ := h2.2 he
    rw [w1.uniq hr w2]
  · rw [h1.1 he, h2.1 he]
theorem PrepM.uniq {K1 K2 : KeysL} {R1 R2 : RdyL} (hk : ∀ key, verOf K1 key = verOf K2 key) (hr : R1.map prR = R2.map prR) {E : EndL} {serial : Bool} {bugs : Int} {r : Rdy} {b1 e1 b2 e2 : Int} {S1 S2 : RdyL} (h1 : PrepM serial bugs K1 R1 E r b1 e1 S1) (h2 : PrepM serial bugs K2 R2 E r b2 e2 S2) : b1 = b2 ∧ e1 = e2 ∧ S1.map prR = S2.map prR := by
  have hR : (getM R2 r.txn).isSome = (getM R1 r.txn).isSome := by
    have h := getM_pr R1 r.txn
    rw [hr, getM_pr R2 r.txn] at h
    have h' := congrArg Option.isSome h
    rw [Option.isSome_map, Option.isSome_map] at h'
    exact h'
  have hW : lostW K2 bugs r = lostW K1 bugs r := by unfold lostW; simp only [hk]
  have hL : lostR K2 serial bugs r = lostR K1 serial bugs r := by unfold lostR; simp only [hk]
  unfold PrepM at h2
  rw [hR, hW, hL] at h2
  rcases h1 with ⟨a1, rfl, rfl, rfl⟩ | ⟨a1, a2, rfl, rfl, rfl⟩ | ⟨a1, a2, a3, rfl, rfl, rfl⟩ | ⟨a1, a2, a3, a4, i1, o1, x1, c1⟩ <;>
  rcases h2 with ⟨g1, rfl, rfl, rfl⟩ | ⟨g1, g2, rfl, rfl, rfl⟩ | ⟨g1, g2, g3, rfl, rfl, rfl⟩ | ⟨g1, g2, g3, g4, i2, o2, x2, c2⟩
  case inr.inr.inr.inr.inr.inr =>
    have hu := BlkP.uniq (blk_pr x1) (hr ▸ blk_pr x2)
    cases hu
    rcases c1 with ⟨p1, p2, rfl, rfl, rfl⟩ | ⟨p1, rfl, rfl, wv, rv, rfl⟩
    · rcases c2 with ⟨_, _, rfl, rfl, rfl⟩ | ⟨q1, _⟩
      · exact ⟨rfl, rfl, hr⟩
      · rcases q1 with q1 | q1
        · rw [p1] at q1; cases q1
        · rw [p2] at q1; cases q1
    · rcases c2 with ⟨q1, q2, _⟩ | ⟨_, rfl, rfl, wv', rv', rfl⟩
      · rcases p1 with p1 | p1
        · rw [q1] at p1; cases p1
        · rw [q2] at p1; cases p1
      · exact ⟨rfl, rfl, by rw [putM_pr, putM_pr, hr]⟩
  all_goals first
    | exact ⟨rfl, rfl, hr⟩
    | exact absurd (a1.symm.trans g1) (by decide)
    | exact absurd (a2.symm.trans g2) (by decide)
    | exact absurd a3 (by rw [g3, g4]; decide)
    | exact absurd g3 (by rw [a3, a4]; decide)
theorem writesOf_pr (R : RdyL) (e : EndM) : writesOf R e = if e.commit then (match getM (R.map prR) e.txn with | some r => r.writes | none => []) else [] := by
  unfold writesOf
  rw [getM_pr]
  cases getM R e.txn <;> rfl
theorem FinM.uniq {K1 K2 : KeysL} {R1 R2 : RdyL} (hk : ∀ key, verOf K1 key = verOf K2 key) (hr : R1.map prR = R2.map prR) {E : EndL} {e : EndM} {L1 L2 : KeysL} {S1 S2 : RdyL} {F1 F2 : EndL} (h1 : FinM K1 R1 E e L1 S1 F1) (h2 : FinM K2 R2 E e L2 S2 F2) : (∀ key, verOf L1 key = verOf L2 key) ∧ S1.map prR = S2.map prR ∧ F1 = F2 := by
  rcases h1 with ⟨a1, rfl, rfl, rfl⟩ | ⟨a1, rfl, rfl, a2⟩ <;> rcases h2 with ⟨g1, rfl, rfl, rfl⟩ | ⟨g1, rfl, rfl, g2⟩
  · exact ⟨hk, hr, rfl⟩
  · exact absurd (a1.symm.trans g1) (by decide)
  · exact absurd (a1.symm.trans g1) (by decide)
  · refine ⟨fun key => ?_, by rw [delM_pr, delM_pr, hr], rfl⟩
    rw [a2 key, g2 key, hk key, writesOf_pr R1, writesOf_pr R2, hr]
def StepP (serial : Bool) (bugs stamps : Int) (c : Cmd21) (now : Int) (K : KeysL) (R : RdyL) (E D : EndL) (a : Ans) (now' : Int) (K' : KeysL) (R' : RdyL) (E' D' : EndL) : Prop :=
  (c.k = 1 ∧ StampP stamps now K R E D a now' K' R' E' D') ∨ (c.k = 2 ∧ GetP bugs now K R E D c.r a now' K' R' E' D') ∨ (c.k = 3 ∧ PrepP serial bugs now K R E D c.r a now' K' R' E' D') ∨ (c.k = 4 ∧ DecideP bugs now K R E D c.e a now' K' R' E' D') ∨ (c.k = 5 ∧ FinishP now K R E D c.e a now' K' R' E' D') ∨ (¬ (1 ≤ c.k ∧ c.k ≤ 5) ∧ BadP now K R E D a now' K' R' E' D')
theorem GetP.uniq {K1 K2 : KeysL} {R1 R2 : RdyL} (hk : ∀ key, verOf K1 key = verOf K2 key) (hr : R1.map prR = R2.map prR) {E D : EndL} {bugs n : Int} {r : Rdy} {a1 a2 : Ans} {n1' n2' : Int} {L1 L2 : KeysL} {S1 S2 : RdyL} {F1 F2 G1 G2 : EndL} (h1 : GetP bugs n K1 R1 E D r a1 n1' L1 S1 F1 G1) (h2 : GetP bugs n K2 R2 E D r a2 n2' L2 S2 F2 G2) : a1 = a2 ∧ Sim2 L1 S1 F1 G1 n1' L2 S2 F2 G2 n2' := by
  obtain ⟨p1, rfl, rfl, rfl, rfl, rfl⟩ := h1
  obtain ⟨p2, rfl, rfl, rfl, rfl, rfl⟩ := h2
  refine ⟨?_, hk, hr, rfl, rfl, rfl⟩
  have stop : ∀ {K1 K2 : KeysL} {R1 R2 : RdyL}, (∀ key, verOf K1 key = verOf K2 key) → R1.map prR = R2.map prR → ∀ {ks vals : List Int} {j : Nat} {k v by_ err : Int}, GetsM K1 R1 bugs r.txn r.start ks vals → ks[j]? = some k → ReadM K2 R2 bugs r.txn k r.start v by_ err → err = 0 := by
    intro K1 K2 R1 R2 hk hr ks vals j k v by_ err hg hj hm
    obtain ⟨x, hx⟩ := some_at (show j < vals.length by rw [hg.1]; exact (List.getElem?_eq_some_iff.1 hj).1)
    obtain ⟨_, g⟩ := hg.2 j k x hj hx
    exact (g.uniq hk hr hm).2.2.symm
  have tk : ∀ {j i : Nat} {k : Int}, r.reads[j]? = some k → j < i → (r.reads.take i)[j]? = some k := fun h hji => by rw [List.getElem?_take_of_lt hji]; exact h
  rcases p1 with ⟨v1, rfl, g1⟩ | ⟨j1, k1, v1, b1, e1, m1, vs1, g1, hj1, r1, he1, rfl, l1⟩ <;> rcases p2 with ⟨v2, rfl, g2⟩ | ⟨j2, k2, v2, b2, e2, m2, vs2, g2, hj2, r2, he2, rfl, l2⟩
  · rw [g1.uniq hk hr g2]
  · exact absurd (stop hk hr g1 hj2 r2) he2
  · exact absurd (stop (fun key => (hk key).symm) hr.symm g2 hj1 r1) he1
  · have hj : j1 = j2 := by
      rcases Nat.lt_trichotomy j1 j2 with h | h | h
      · exact absurd (stop (fun key => (hk key).symm) hr.symm g2 (tk hj1 h) r1) he1
      · exact h
      · exact absurd (stop hk hr g1 (tk hj2 h) r2) he2
    subst hj
    rw [hj1] at hj2
    cases hj2
    obtain ⟨_, rfl, rfl⟩ := r1.uniq hk hr r2
    rw [l1.uniq hr l2]
theorem StepP.uniq {serial : Bool} {bugs stamps : Int} {c : Cmd21} {K1 K2 : KeysL} {R1 R2 : RdyL} {E1 E2 D1 D2 : EndL} {n1 n2 : Int} (hs : Sim2 K1 R1 E1 D1 n1 K2 R2 E2 D2 n2) {a1 a2 : Ans} {n1' n2' : Int} {L1 L2 : KeysL} {S1 S2 : RdyL} {F1 F2 G1 G2 : EndL} (h1 : StepP serial bugs stamps c n1 K1 R1 E1 D1 a1 n1' L1 S1 F1 G1) (h2 : StepP serial bugs stamps c n2 K2 R2 E2 D2 a2 n2' L2 S2 F2 G2) : a1 = a2 ∧ Sim2 L1 S1 F1 G1 n1' L2 S2 F2 G2 n2' := by
  obtain ⟨hk, hr, rfl, rfl, rfl⟩ := hs
  rcases h1 with ⟨c1, h1⟩ | ⟨c1, h1⟩ | ⟨c1, h1⟩ | ⟨c1, h1⟩ | ⟨c1, h1⟩ | ⟨c1, h1⟩ <;> rcases h2 with ⟨c2, h2⟩ | ⟨c2, h2⟩ | ⟨c2, h2⟩ | ⟨c2, h2⟩ | ⟨c2, h2⟩ | ⟨c2, h2⟩ <;> try (exfalso; omega)
  · obtain ⟨p1, rfl, rfl, rfl, rfl⟩ := h1
    obtain ⟨p2, rfl, rfl, rfl, rfl⟩ := h2
    rcases p1 with ⟨q1, rfl, rfl⟩ | ⟨q1, rfl, rfl⟩ <;> rcases p2 with ⟨q2, rfl, rfl⟩ | ⟨q2, rfl, rfl⟩ <;> try (exfalso; omega)
    · exact ⟨rfl, hk, hr, rfl, rfl, rfl⟩
    · exact ⟨rfl, hk, hr, rfl, rfl, rfl⟩
  · exact h1.uniq hk hr h2
  · obtain ⟨b1, e1, m1, rfl, p1, l1, rfl, rfl, rfl, rfl⟩ := h1
    obtain ⟨b2, e2, m2, rfl, p2, l2, rfl, rfl, rfl, rfl⟩ := h2
    obtain ⟨rfl, rfl, hS⟩ := p1.uniq hk hr p2
    rw [l1.uniq hS l2]
    exact ⟨rfl, hk, hS, rfl, rfl, rfl⟩
  · obtain ⟨p1, rfl, rfl, rfl, rfl⟩ := h1
    obtain ⟨p2, rfl, rfl, rfl, rfl⟩ := h2
    rcases p1 with ⟨x, hx, ho, rfl, rfl⟩ | ⟨ho, rfl, rfl⟩ <;> rcases p2 with ⟨y, hy, go, rfl, rfl⟩ | ⟨go, rfl, rfl⟩
    · rw [hx] at hy; cases hy
      exact ⟨rfl, hk, hr, rfl, rfl, rfl⟩
    · rcases go with go | go
      · rw [hx] at go; cases go
      · rw [ho] at go; cases go
    · rcases ho with ho | ho
      · rw [hy] at ho; cases ho
      · rw [go] at ho; cases ho
    · exact ⟨rfl, hk, hr, rfl, rfl, rfl⟩
  · obtain ⟨rfl, rfl, p1, rfl⟩ := h1
    obtain ⟨rfl, rfl, p2, rfl⟩ := h2
    obtain ⟨q1, q2, q3⟩ := p1.uniq hk hr p2
    exact ⟨rfl, q1, q2, q3, rfl, rfl⟩
  · obtain ⟨rfl, rfl, rfl, rfl, rfl, rfl⟩ := h1
    obtain ⟨rfl, rfl, rfl, rfl, rfl, rfl⟩ := h2
    exact ⟨rfl, hk, hr, rfl, rfl, rfl⟩
end Go.Proofs.Ytdkkpkgfiodlbaa

/- A shard's step: what it answers is a number's worth; whatever command. -/
namespace Go.Proofs.Ytdkkpkgfiodlbaa
open Go.RowKit Go.Maps
/-- The numbers that a shard holds lie in their bounds. -/
structure ShJ (K : KeysL) (R : RdyL) (D : EndL) : Prop where
  k : ∀ key, ∀ x ∈ verOf K key, i64 x.2
  r : ∀ y ∈ R, i64 y.1 ∧ i64 y.2.r.home ∧ ∀ o ∈ y.2.r.writes, i64 o.val
  d : ∀ y ∈ D, EndOk y.2
theorem ShJ.start : ShJ [] [] [] := ⟨fun _ x hx => by simp [verOf, curK, getM, nilK] at hx, (fun y hy => by cases hy), (fun y hy => by cases hy)⟩
theorem i64_0 : i64 0 := by unfold i64; omega
theorem i64_small (z : Int) (h : 0 ≤ z ∧ z ≤ 1000) : i64 z := by unfold i64; omega
theorem finV_mem {t key : Int} {x : Ver} : ∀ {ops : List GOp} {vs : List Ver}, x ∈ finV t key ops vs → x ∈ vs ∨ ∃ o ∈ ops, x.2 = o.val
  | [], vs, h => .inl h
  | o :: ops, vs, h => by
    have h' : x ∈ finV t key ops (if o.key = key then insV vs t o.val else vs) := h
    rcases finV_mem h' with h1 | ⟨o', h1, h2⟩
    · split at h1
      · rcases insV_mem h1 with h2 | h2
        · exact .inr ⟨o, List.mem_cons_self, by rw [h2]⟩
        · exact .inl h2
      · exact .inl h1
    · exact .inr ⟨o', List.mem_cons_of_mem _ h1, h2⟩
theorem valAt_i64 {vs : List Ver} {t : Int} (h : ∀ x ∈ vs, i64 x.2) : i64 (valAt vs t) := by
  unfold valAt
  cases hf : (revL vs).find? (fun p => decide (p.2.1 ≤ t)) with
  | none => exact i64_0
  | some p =>
    have hm := List.mem_of_find?_eq_some hf
    unfold revL at hm
    rw [List.mem_reverse] at hm
    obtain ⟨q, hq, rfl⟩ := List.mem_map.1 hm
    exact h q.1 (List.fst_mem_of_mem_zipIdx hq)
theorem Blk.i64 {R : RdyL} {but : Int} {q : Rdy → Bool} {id : Int} {ok : Bool} (h : Blk R but q (id, ok)) (hr : ∀ y ∈ R, i64 y.1) : i64 id := by
  rcases h with ⟨h1, _⟩ | ⟨x, hx, _, _, h3, _⟩
  · cases h1; exact i64_0
  · cases h3; exact hr x hx
theorem ReadM.i64 {K : KeysL} {R : RdyL} {bugs txn key t v by_ err : Int} (h : ReadM K R bugs txn key t v by_ err) (hk : ∀ key, ∀ x ∈ verOf K key, i64 x.2) (hr : ∀ y ∈ R, i64 y.1) : i64 v ∧ i64 by_ ∧ (err = 0 ∨ err = 60) := by
  obtain ⟨id, ok, hb, h⟩ := h
  rcases h with ⟨_, _, rfl, rfl, rfl⟩ | ⟨_, rfl, rfl, rfl⟩
  · exact ⟨i64_0, hb.i64 hr, .inr rfl⟩
  · exact ⟨valAt_i64 (hk key), i64_0, .inl rfl⟩
theorem GetsM.i64 {K : KeysL} {R : RdyL} {bugs txn t : Int} {ks vals : List Int} (h : GetsM K R bugs txn t ks vals) (hk : ∀ key, ∀ x ∈ verOf K key, i64 x.2) (hr : ∀ y ∈ R, i64 y.1) : ∀ v ∈ vals, i64 v := by
  intro v hv
  obtain ⟨j, hj⟩ := List.mem_iff_getElem?.1 hv
  obtain ⟨k, hk'⟩ := some_at (show j < ks.length by rw [← h.1]; exact (List.getElem?_eq_some_iff.1 hj).1)
  obtain ⟨_, hm⟩ := h.2 j k v hk' hj
  exact (hm.i64 hk hr).1
theorem homeL_i64 {by_ : Int} : ∀ {L : List Rdy} {z : Int}, i64 z → (∀ y ∈ L, i64 y.home) → i64 (L.foldl (fun h y => if y.txn = by_ then y.home else h) z)
  | [], z, hz, _ => hz
  | y :: L, z, hz, h => by
    show i64 (L.foldl _ (if y.txn = by_ then y.home else z))
    refine homeL_i64 ?_ (fun x hx => h x (List.mem_cons_of_mem _ hx))
    split
    · exact h y List.mem_cons_self
    · exact hz
theorem LockP.i64 {R : RdyL} {by_ err home : Int} (h : LockP R by_ err home) (hr : ∀ y ∈ R, i64 y.2.r.home) : i64 home := by
  by_cases he : err = 60
  · obtain ⟨L, ⟨ks, _, _, rfl⟩, rfl⟩ := h.2 he
    refine homeL_i64 i64_0 (fun y hy => ?_)
    obtain ⟨k, _, rfl⟩ := List.mem_map.1 hy
    cases hg : getM R k with
    | none => exact i64_0
    | some z => exact hr _ (getM_some hg)
  · rw [h.1 he]; exact i64_0
theorem PrepM.i64 {serial : Bool} {bugs : Int} {K : KeysL} {R : RdyL} {E : EndL} {r : Rdy} {by_ err : Int} {R' : RdyL} (h : PrepM serial bugs K R E r by_ err R') (hr : ∀ y ∈ R, i64 y.1) : i64 by_ ∧ i64 err := by
  rcases h with ⟨_, rfl, rfl, _⟩ | ⟨_, _, rfl, rfl, _⟩ | ⟨_, _, _, rfl, rfl, _⟩ | ⟨_, _, _, _, id, ok, hb, ⟨_, _, rfl, rfl, _⟩ | ⟨_, rfl, rfl, _⟩⟩
  · exact ⟨i64_0, by unfold Proofs.Ytdkkpkgfiodlbaa.i64; omega⟩
  · exact ⟨i64_0, i64_0⟩
  · exact ⟨i64_0, by unfold Proofs.Ytdkkpkgfiodlbaa.i64; omega⟩
  · exact ⟨hb.i64 hr, by unfold Proofs.Ytdkkpkgfiodlbaa.i64; omega⟩
  · exact ⟨i64_0, i64_0⟩
theorem PrepM.mem {serial : Bool} {bugs : Int} {K : KeysL} {R : RdyL} {E : EndL} {r : Rdy} {by_ err : Int} {R' : RdyL} (h : PrepM serial bugs K R E r by_ err R') : ∀ y ∈ R', y ∈ R ∨ (y.1 = r.txn ∧ y.2.r = r) := by
  intro y hy
  rcases h with ⟨_, _, _, rfl⟩ | ⟨_, _, _, _, rfl⟩ | ⟨_, _, _, _, _, rfl⟩ | ⟨_, _, _, _, id, ok, hb, ⟨_, _, _, _, rfl⟩ | ⟨_, _, _, wv, rv, rfl⟩⟩
  · exact .inl hy
  · exact .inl hy
  · exact .inl hy
  · exact .inl hy
  · rcases mem_putM hy with rfl | hy
    · exact .inr ⟨rfl, rfl⟩
    · exact .inl hy
theorem zeroE_ok : EndOk zeroE' := ⟨i64_0, i64_0⟩
/-- The numbers stay within their bounds, and the answer's are. -/
theorem StepP.ok {serial : Bool} {bugs stamps : Int} {c : Cmd21} {now : Int} {K : KeysL} {R : RdyL} {E D : EndL} {a : Ans} {now' : Int} {K' : KeysL} {R' : RdyL} {E' D' : EndL} (h : StepP serial bugs stamps c now K R E D a now' K' R' E' D') (hi : CmdI c) (hj : ShJ K R D) (h0 : 0 ≤ now ∧ now ≤ 1000000) : AnsI a ∧ ShJ K' R' D' ∧ (now' = now ∨ now' = now + 1) := by
  have hr1 : ∀ y ∈ R, i64 y.1 := fun y hy => (hj.r y hy).1
  rcases h with ⟨c1, h⟩ | ⟨c1, h⟩ | ⟨c1, h⟩ | ⟨c1, h⟩ | ⟨c1, h⟩ | ⟨c1, h⟩
  · obtain ⟨p, rfl, rfl, rfl, rfl⟩ := h
    rcases p with ⟨_, rfl, rfl⟩ | ⟨_, rfl, rfl⟩
    · exact ⟨⟨i64_0, (fun v hv => by cases hv), ⟨by show _ ≤ now + 1; omega, by show now + 1 ≤ _; omega⟩, i64_0, i64_0, zeroE_ok, by simp⟩, hj, .inr rfl⟩
    · exact ⟨⟨i64_small 63 (by decide), (fun v hv => by cases hv), i64_0, i64_0, i64_0, zeroE_ok, by simp⟩, hj, .inl rfl⟩
  · obtain ⟨p, rfl, rfl, rfl, rfl, rfl⟩ := h
    rcases p with ⟨vs, rfl, g⟩ | ⟨j, k, v, b, e, m, vs, _, _, rm, _, rfl, lk⟩
    · exact ⟨⟨i64_0, g.i64 hj.k hr1, i64_0, i64_0, i64_0, zeroE_ok, by show vs.length ≤ 50; rw [g.1]; have := hi.lr; omega⟩, hj, .inl rfl⟩
    · obtain ⟨_, q2, q3⟩ := rm.i64 hj.k hr1
      refine ⟨⟨?_, (fun v hv => by cases hv), i64_0, q2, lk.i64 (fun y hy => (hj.r y hy).2.1), zeroE_ok, by simp⟩, hj, .inl rfl⟩
      rcases q3 with rfl | rfl
      · exact i64_0
      · exact i64_small 60 (by decide)
  · obtain ⟨b, e, m, rfl, p, lk, rfl, rfl, rfl, rfl⟩ := h
    have hJ : ∀ y ∈ R', i64 y.1 ∧ i64 y.2.r.home ∧ ∀ o ∈ y.2.r.writes, i64 o.val := fun y hy => by
      rcases p.mem y hy with h1 | ⟨h1, h2⟩
      · exact hj.r y h1
      · rw [h1, h2]
        refine ⟨hi.r.txn, hi.r.home, fun o ho => ?_⟩
        obtain ⟨o', ho', rfl⟩ := List.mem_map.1 ho
        exact (hi.r.ws o' ho').2.2
    obtain ⟨q1, q2⟩ := p.i64 hr1
    exact ⟨⟨q2, (fun v hv => by cases hv), i64_0, q1, lk.i64 (fun y hy => (hJ y hy).2.1), zeroE_ok, by simp⟩, ⟨hj.k, hJ, hj.d⟩, .inl rfl⟩
  · obtain ⟨p, rfl, rfl, rfl, rfl⟩ := h
    rcases p with ⟨x, hx, _, rfl, rfl⟩ | ⟨_, rfl, rfl⟩
    · exact ⟨⟨i64_0, (fun v hv => by cases hv), i64_0, i64_0, i64_0, hj.d _ (getM_some hx), by simp⟩, hj, .inl rfl⟩
    · refine ⟨⟨i64_0, (fun v hv => by cases hv), i64_0, i64_0, i64_0, hi.endOk, by simp⟩, ⟨hj.k, hj.r, fun y hy => ?_⟩, .inl rfl⟩
      rcases mem_putM hy with rfl | hy
      · exact hi.endOk
      · exact hj.d y hy
  · obtain ⟨rfl, rfl, p, rfl⟩ := h
    refine ⟨⟨i64_0, (fun v hv => by cases hv), i64_0, i64_0, i64_0, zeroE_ok, by simp⟩, ?_, .inl rfl⟩
    rcases p with ⟨_, rfl, rfl, _⟩ | ⟨_, rfl, _, hk⟩
    · exact hj
    · refine ⟨fun key x hx => ?_, fun y hy => hj.r y (mem_delM hy), hj.d⟩
      rw [hk key] at hx
      rcases finV_mem hx with h1 | ⟨o, h1, h2⟩
      · exact hj.k key x h1
      · rw [h2]
        unfold writesOf at h1
        split at h1
        · cases hg : getM R c.e.txn with
          | none => rw [hg] at h1; cases h1
          | some y => rw [hg] at h1; exact (hj.r _ (getM_some hg)).2.2 o h1
        · cases h1
  · obtain ⟨rfl, rfl, rfl, rfl, rfl, rfl⟩ := h
    exact ⟨⟨i64_small 14 (by decide), (fun v hv => by cases hv), i64_0, i64_0, i64_0, zeroE_ok, by simp⟩, hj, .inl rfl⟩
theorem StepP.inv {serial : Bool} {bugs stamps : Int} {c : Cmd21} {now : Int} {K : KeysL} {R : RdyL} {E D : EndL} {a : Ans} {now' : Int} {K' : KeysL} {R' : RdyL} {E' D' : EndL} (h : StepP serial bugs stamps c now K R E D a now' K' R' E' D') (hi : CmdI c) {n : Nat} (hI : ShI n K R) : ShI (n + 1) K' R' := by
  rcases h with ⟨c1, h⟩ | ⟨c1, h⟩ | ⟨c1, h⟩ | ⟨c1, h⟩ | ⟨c1, h⟩ | ⟨c1, h⟩
  · obtain ⟨_, rfl, rfl, _, _⟩ := h; exact hI.more
  · obtain ⟨_, _, rfl, rfl, _, _⟩ := h; exact hI.more
  · obtain ⟨_, _, _, _, hp, _, _, rfl, _, _⟩ := h
    exact hI.prep (r := killK c.r) (by rw [killK_len]; exact hi.lw) hi.lr (killK_small hi.r) hp
  · obtain ⟨_, _, rfl, rfl, _⟩ := h; exact hI.more
  · obtain ⟨_, _, hf, _⟩ := h; exact hI.fin hf
  · obtain ⟨_, _, rfl, rfl, _, _⟩ := h; exact hI.more
theorem ShT.step {N base p ps mk mr me md : Nat} {serial : Bool} {bugs stamps now : Int} {K : KeysL} {R : RdyL} {E D : EndL} (c : Cmd21) {v : Value} (w : World) (h : ShT N base p ps mk mr me md serial bugs stamps now K R E D w) (hi : CmdI c)
    (hv : Src w v 1 (btBytes (cmdL c)).length ((btBytes (cmdL c)).map u8)) {n : Nat} (hn : n ≤ 900) (hI : ShI n K R) (h0 : 0 ≤ now ∧ now ≤ 1000000) :
    Calls Try.prog 11 #[.pointer (some ⟨p, 0, none⟩), v] w (AppT N base p ps mk mr me md serial bugs stamps (StepP serial bugs stamps c now K R E D) w) := by
  by_cases k1 : c.k = 1
  · exact (h.stamp c w hi k1 hv h0).mono fun _ _ hq => hq.imp fun a n' K' R' E' D' hp => .inl ⟨k1, hp⟩
  by_cases k2 : c.k = 2
  · exact (h.get c w hi k2 hv hn hI).mono fun _ _ hq => hq.imp fun a n' K' R' E' D' hp => .inr (.inl ⟨k2, hp⟩)
  by_cases k3 : c.k = 3
  · exact (h.prep c w hi k3 hv hn hI).mono fun _ _ hq => hq.imp fun a n' K' R' E' D' hp => .inr (.inr (.inl ⟨k3, hp⟩))
  by_cases k4 : c.k = 4
  · exact (h.dec4 c w hi k4 hv).mono fun _ _ hq => hq.imp fun a n' K' R' E' D' hp => .inr (.inr (.inr (.inl ⟨k4, hp⟩)))
  by_cases k5 : c.k = 5
  · exact (h.finish c w hi k5 hv (by omega) hI).mono fun _ _ hq => hq.imp fun a n' K' R' E' D' hp => .inr (.inr (.inr (.inr (.inl ⟨k5, hp⟩))))
  · exact (h.bad c w hi (by omega) hv).mono fun _ _ hq => hq.imp fun a n' K' R' E' D' hp => .inr (.inr (.inr (.inr (.inr ⟨by omega, hp⟩))))
end Go.Proofs.Ytdkkpkgfiodlbaa

/- Layer 21's reference, plain, and the shard beside it: each command keeps them alike, each answer is the same. Names no function. -/
namespace Go.Proofs.Ytdkkpkgfiodlbaa
open Go.RowKit Go.Maps
/-- The reference's state. -/
structure ShM where
  s : RSt
  stamps : Int
  now : Int
  ds : List EndM
def homeM (ws : List Rdy) (by_ : Int) : Int := ((ws.find? (fun w => w.txn == by_)).map (·.home)).getD 0
/-- The first read that is in somebody's way. -/
def getErr (s : RSt) (txn t : Int) : List Int → Option (Int × Int)
  | [] => none
  | k :: ks => if (rnReadV s txn k t).2.2 = 0 then getErr s txn t ks else some ((rnReadV s txn k t).2.1, (rnReadV s txn k t).2.2)
def stamp21 (m : ShM) : ShM × Ans := if m.stamps ≤ m.now then (m, ⟨63, [], 0, 0, 0, zeroE'⟩) else (⟨m.s, m.stamps, m.now + 1, m.ds⟩, ⟨0, [], m.now + 1, 0, 0, zeroE'⟩)
def get21 (m : ShM) (r : Rdy) : ShM × Ans := match getErr m.s r.txn r.start r.reads with
  | some (by_, err) => (m, ⟨err, [], 0, by_, homeM m.s.ws by_, zeroE'⟩)
  | none => (m, ⟨0, r.reads.map (fun k => (rnReadV m.s r.txn k r.start).1), 0, 0, 0, zeroE'⟩)
def prep21 (m : ShM) (r : Rdy) : ShM × Ans :=
  (⟨(rnPrepV m.s r).1, m.stamps, m.now, m.ds⟩, ⟨(rnPrepV m.s r).2.2, [], 0, (rnPrepV m.s r).2.1, if (rnPrepV m.s r).2.2 = 60 then homeM m.s.ws (rnPrepV m.s r).2.1 else 0, zeroE'⟩)
def dec21 (m : ShM) (e : EndM) : ShM × Ans :=
  if offR m.s.bugs 32 = true ∧ (m.ds.find? (fun d => d.txn == e.txn)).isSome = true then (m, ⟨0, [], 0, 0, 0, (m.ds.find? (fun d => d.txn == e.txn)).getD zeroE'⟩)
  else (⟨m.s, m.stamps, m.now, m.ds.filter (fun d => d.txn != e.txn) ++ [e]⟩, ⟨0, [], 0, 0, 0, e⟩)
def fin21 (m : ShM) (e : EndM) : ShM × Ans := (⟨rnFinish m.s e, m.stamps, m.now, m.ds⟩, ⟨0, [], 0, 0, 0, zeroE'⟩)
def apply21M (m : ShM) (k : Int) (r : Rdy) (e : EndM) : ShM × Ans :=
  if k = 1 then stamp21 m else if k = 2 then get21 m r else if k = 3 then prep21 m r else if k = 4 then dec21 m e else fin21 m e

/-- The shard's state and the reference's, side by side. -/
structure Sim21 (K : KeysL) (R : RdyL) (E D : EndL) (now : Int) (m : ShM) : Prop where
  s : Sim K R E m.s
  d : ∀ t, getM D t = m.ds.find? (fun x => x.txn == t)
  now : now = m.now
  dis : R.Pairwise (fun p q => p.1 ≠ q.1)
theorem getErr_spec (s : RSt) (txn t : Int) : ∀ (ks : List Int), (getErr s txn t ks = none ∧ ∀ k ∈ ks, (rnReadV s txn k t).2.2 = 0) ∨
    ∃ (j : Nat) (k : Int), ks[j]? = some k ∧ (∀ (i : Nat) (x : Int), i < j → ks[i]? = some x → (rnReadV s txn x t).2.2 = 0) ∧ (rnReadV s txn k t).2.2 ≠ 0 ∧ getErr s txn t ks = some ((rnReadV s txn k t).2.1, (rnReadV s txn k t).2.2)
  | [] => .inl ⟨rfl, fun k hk => by cases hk⟩
  | k :: ks => by
    unfold getErr
    by_cases h0 : (rnReadV s txn k t).2.2 = 0
    · rw [if_pos h0]
      rcases getErr_spec s txn t ks with ⟨h1, h2⟩ | ⟨j, x, h1, h2, h3, h4⟩
      · refine .inl ⟨h1, fun x hx => ?_⟩
        rcases List.mem_cons.1 hx with rfl | hx
        · exact h0
        · exact h2 x hx
      · refine .inr ⟨j + 1, x, by simpa using h1, fun i y hi hy => ?_, h3, h4⟩
        cases i with
        | zero => simp at hy; subst hy; exact h0
        | succ i => exact h2 i y (by omega) (by simpa using hy)
    · rw [if_neg h0]
      exact .inr ⟨0, k, rfl, fun i y hi _ => by omega, h0, rfl⟩
theorem home_eq {by_ : Int} : ∀ {ws : List Rdy} (z : Int), ws.Pairwise (fun x y => x.txn < y.txn) → ws.foldl (fun h y => if y.txn = by_ then y.home else h) z = ((ws.find? (fun w => w.txn == by_)).map (·.home)).getD z
  | [], _, _ => rfl
  | w :: ws, z, h => by
    have h' := List.pairwise_cons.1 h
    rw [List.foldl_cons, List.find?_cons]
    by_cases hw : w.txn = by_
    · have hb : (w.txn == by_) = true := by simpa using hw
      rw [if_pos hw, hb]
      rw [home_eq _ h'.2]
      have : ws.find? (fun w => w.txn == by_) = none := by
        rw [List.find?_eq_none]
        intro y hy he
        have h1 := h'.1 y hy
        have h2 : y.txn = by_ := by simpa using he
        omega
      rw [this]; rfl
    · have hb : (w.txn == by_) = false := by simpa using hw
      rw [if_neg hw, hb]
      exact home_eq _ h'.2
theorem Sim21.lock {K : KeysL} {R : RdyL} {E D : EndL} {now : Int} {m : ShM} (h : Sim21 K R E D now m) {by_ err home : Int} (hl : LockP R by_ err home) : home = if err = 60 then homeM m.s.ws by_ else 0 := by
  by_cases he : err = 60
  · rw [if_pos he]
    obtain ⟨L, hw, rfl⟩ := hl.2 he
    rw [h.s.waits h.dis hw]
    unfold homeL homeM
    exact home_eq 0 h.s.ws
  · rw [if_neg he]; exact hl.1 he
theorem ReadM.err {K : KeysL} {R : RdyL} {bugs txn key t v by_ err : Int} (h : ReadM K R bugs txn key t v by_ err) : err = 0 ∨ err = 60 := by
  obtain ⟨id, ok, -, h | h⟩ := h
  · exact .inr h.2.2.2.2
  · exact .inl h.2.2.2
/-- A command, at both. -/
theorem Sim21.step {K : KeysL} {R : RdyL} {E D : EndL} {now : Int} {m : ShM} (h : Sim21 K R E D now m) (hb : 0 ≤ m.s.bugs ∧ m.s.bugs ≤ 63) {c : Cmd21} (hk : 1 ≤ c.k ∧ c.k ≤ 5) {a : Ans} {now' : Int} {K' : KeysL} {R' : RdyL} {E' D' : EndL} (hd' : R'.Pairwise (fun p q => p.1 ≠ q.1))
    (hs : StepP m.s.serial m.s.bugs m.stamps c now K R E D a now' K' R' E' D') : (apply21M m c.k (killK c.r) c.e).2 = a ∧ Sim21 K' R' E' D' now' (apply21M m c.k (killK c.r) c.e).1 := by
  obtain ⟨-, -, -, o32⟩ := off_bit hb
  unfold apply21M
  rcases hs with ⟨h1, h2⟩ | ⟨h1, h2⟩ | ⟨h1, h2⟩ | ⟨h1, h2⟩ | ⟨h1, h2⟩ | ⟨h1, h2⟩
  · rw [if_pos h1]
    obtain ⟨h3, rfl, rfl, rfl, rfl⟩ := h2
    unfold stamp21
    rcases h3 with ⟨h4, rfl, rfl⟩ | ⟨h4, rfl, rfl⟩
    · rw [if_neg (by rw [← h.now]; omega)]
      exact ⟨by rw [← h.now], h.s, h.d, by rw [← h.now], h.dis⟩
    · rw [if_pos (by rw [← h.now]; exact h4)]
      exact ⟨rfl, h⟩
  · rw [if_neg (by omega), if_pos h1]
    obtain ⟨h3, rfl, rfl, rfl, rfl, rfl⟩ := h2
    have gets : ∀ {ks vals : List Int}, GetsM K' R' m.s.bugs c.r.txn c.r.start ks vals → (∀ (i : Nat) (x : Int), ks[i]? = some x → (rnReadV m.s c.r.txn x c.r.start).2.2 = 0) ∧ vals = ks.map (fun k => (rnReadV m.s c.r.txn k c.r.start).1) := by
      intro ks vals hg
      have hat : ∀ (i : Nat) (x : Int), ks[i]? = some x → ∃ v, vals[i]? = some v ∧ (rnReadV m.s c.r.txn x c.r.start).2.2 = 0 ∧ (rnReadV m.s c.r.txn x c.r.start).1 = v := fun i x hx => by
        have hi : i < vals.length := by rw [hg.1]; exact (List.getElem?_eq_some_iff.1 hx).1
        obtain ⟨v, hv⟩ := some_at hi
        obtain ⟨by_, hr⟩ := hg.2 i x v hx hv
        have := h.s.read hb hr
        exact ⟨v, hv, by rw [this], by rw [this]⟩
      refine ⟨fun i x hx => (hat i x hx).choose_spec.2.1, ?_⟩
      apply List.ext_getElem?
      intro i
      rw [List.getElem?_map]
      cases hx : ks[i]? with
      | none =>
        rw [List.getElem?_eq_none_iff] at hx
        rw [Option.map_none, List.getElem?_eq_none_iff, hg.1]; exact hx
      | some x =>
        obtain ⟨v, hv, -, h4⟩ := hat i x hx
        rw [hv, Option.map_some, h4]
    have hkr : (killK c.r).reads = c.r.reads ∧ (killK c.r).txn = c.r.txn ∧ (killK c.r).start = c.r.start := ⟨rfl, rfl, rfl⟩
    unfold get21
    rw [hkr.1, hkr.2.1, hkr.2.2]
    rcases h3 with ⟨vals, rfl, hg⟩ | ⟨j, k, v, by_, err, home, vals, hg, hj, hr, he, rfl, hlk⟩
    · obtain ⟨g1, rfl⟩ := gets hg
      rcases getErr_spec m.s c.r.txn c.r.start c.r.reads with ⟨e1, -⟩ | ⟨i, x, e1, -, e3, -⟩
      · rw [e1]; exact ⟨rfl, h⟩
      · exact absurd (g1 i x e1) e3
    · obtain ⟨g1, -⟩ := gets hg
      have hrd := h.s.read hb hr
      rcases getErr_spec m.s c.r.txn c.r.start c.r.reads with ⟨-, e2⟩ | ⟨i, x, e1, e2, e3, e4⟩
      · have := e2 k (List.mem_of_getElem? hj)
        rw [hrd] at this
        exact absurd this he
      · have hij : i = j := by
          rcases Nat.lt_trichotomy i j with h5 | h5 | h5
          · have := g1 i x (by rw [List.getElem?_take_of_lt h5]; exact e1)
            exact absurd this e3
          · exact h5
          · have := e2 j k h5 hj
            rw [hrd] at this
            exact absurd this he
        subst hij
        rw [hj] at e1
        cases e1
        rw [e4, hrd]
        have h60 : err = 60 := by
          rcases ReadM.err hr with h6 | h6
          · exact absurd h6 he
          · exact h6
        have := h.lock hlk
        rw [if_pos h60] at this
        exact ⟨by rw [this], h⟩
  · rw [if_neg (by omega), if_neg (by omega), if_pos h1]
    obtain ⟨by_, err, home, rfl, hp, hlk, rfl, rfl, rfl, rfl⟩ := h2
    obtain ⟨q1, q2⟩ := h.s.prep hb hp
    have e1 : (rnPrepV m.s (killK c.r)).2.1 = by_ := by rw [q1]
    have e2 : (rnPrepV m.s (killK c.r)).2.2 = err := by rw [q1]
    unfold prep21
    rw [e1, e2]
    refine ⟨?_, q2, h.d, h.now, hd'⟩
    have hR : err = 60 → R' = R := fun he => by
      rcases hp with ⟨_, _, h6, rfl⟩ | ⟨_, _, _, h6, rfl⟩ | ⟨_, _, _, _, h6, rfl⟩ | ⟨_, _, _, _, id, ok, _, h7⟩
      · rfl
      · rfl
      · rfl
      · rcases h7 with ⟨_, _, _, _, rfl⟩ | ⟨_, _, h6, _⟩
        · rfl
        · omega
    have hh : home = if err = 60 then homeM m.s.ws by_ else 0 := by
      by_cases he : err = 60
      · have hlk' := hlk
        rw [hR he] at hlk'
        exact h.lock hlk'
      · rw [if_neg he]; exact hlk.1 he
    rw [hh]
  · rw [if_neg (by omega), if_neg (by omega), if_neg (by omega), if_pos h1]
    obtain ⟨h3, rfl, rfl, rfl, rfl⟩ := h2
    unfold dec21
    rw [o32] at h3
    rcases h3 with ⟨x, h4, h5, rfl, rfl⟩ | ⟨h4, rfl, rfl⟩
    · rw [h.d] at h4
      rw [if_pos ⟨h5, by rw [h4]; rfl⟩, h4]
      exact ⟨rfl, h⟩
    · rw [if_neg (by
        rintro ⟨h5, h6⟩
        rcases h4 with h4 | h4
        · rw [h.d] at h4; rw [h4] at h6; cases h6
        · rw [h4] at h5; cases h5)]
      refine ⟨rfl, h.s, fun t => ?_, h.now, h.dis⟩
      rw [getM_put, h.d, List.find?_append]
      by_cases he : c.e.txn = t
      · rw [if_pos he]
        subst he
        have : (m.ds.filter (fun d => d.txn != c.e.txn)).find? (fun x => x.txn == c.e.txn) = none := by
          rw [List.find?_eq_none]
          intro y hy hyt
          have := (List.mem_filter.1 hy).2
          simp at this hyt
          exact this hyt
        rw [this]; simp
      · rw [if_neg he]
        have h9 : (c.e.txn == t) = false := by simpa using he
        have : (m.ds.filter (fun d => d.txn != c.e.txn)).find? (fun x => x.txn == t) = m.ds.find? (fun x => x.txn == t) := by
          rw [List.find?_filter]
          congr 1
          funext x
          by_cases hx : x.txn = t
          · have : (x.txn != c.e.txn) = true := by rw [bne_iff_ne, hx]; exact fun e => he e.symm
            cases hq : (x.txn == t) <;> simp_all
          · simp [hx]
        rw [this]
        simp [h9]
  · rw [if_neg (by omega), if_neg (by omega), if_neg (by omega), if_neg (by omega)]
    obtain ⟨rfl, rfl, hf, rfl⟩ := h2
    exact ⟨rfl, h.s.fin hf, h.d, h.now, hd'⟩
  · exact absurd hk h1
theorem Sim21.start (serial : Bool) (bugs stamps : Int) : Sim21 [] [] [] [] 0 ⟨⟨serial, bugs, [], [], []⟩, stamps, 0, []⟩ := ⟨Sim.start serial bugs, fun _ => rfl, rfl, List.Pairwise.nil⟩
end Go.Proofs.Ytdkkpkgfiodlbaa

/- Layer 21's reference in memory: New, home; the law's plain and same. -/
namespace Go.Proofs.Ytdkkpkgfiodlbaa
open Go.RowKit Go.Maps
attribute [local go_sem] Oper.semAt_some

/-- The reference's state, and the slice values that its lists lie in. -/
structure RSh where
  vv : Value
  wv : Value
  ev : Value
  dv : Value
  m : ShM
def RSh.st (x : RSh) : RSV := ⟨x.vv, x.wv, x.ev, x.m.s⟩
def shC (x : RSh) : Array Value := #[.bool x.m.s.serial, vi x.m.s.bugs, x.vv, x.wv, x.ev, vi x.m.stamps, vi x.m.now, x.dv]
def shV (x : RSh) : Value := .agg (shC x)
structure RdSh (W : World) (x : RSh) : Prop where
  st : RdSt W x.st
  ds : RdEn W x.dv x.m.ds
theorem RdSh.later {A B : World} {x : RSh} (h : RdSh A x) (hb : Below A.heap.size A B) : RdSh B x := ⟨h.st.later hb, h.ds.later hb⟩
theorem RdSh.same {A B : World} {x : RSh} (h : RdSh A x) (hs : ∀ j, j < A.heap.size → B.heap[j]? = A.heap[j]?) : RdSh B x := ⟨RdSt.same h.st hs, RdS.same h.ds hs fun _ _ h => h⟩
theorem RdSh.le {A B : World} {x : RSh} (h : RdSh A x) (hs : CLe A B) : RdSh B x := ⟨RdSt.le h.st hs, RdS.le h.ds hs fun _ _ h => h⟩
/-- A is a part of w: what can be read there reads the same in w. -/
structure ALe (A w : World) : Prop where
  le : CLe A w
  size : A.heap.size ≤ w.heap.size
theorem ALe.of_below {A w : World} (h : Below A.heap.size A w) : ALe A w := ⟨CLe.of_below h, h.size⟩
theorem ALe.trans {A w W : World} (h : ALe A w) (k : Below A.heap.size w W) : ALe A W := ⟨fun b o v hv => by
  have h1 := World.block_lt_of_cell? A _ hv
  exact (World.cell?_of_block (a := ⟨b, o, none⟩) (k.block b h1)).trans (h.le b o v hv), Nat.le_trans h.size k.size⟩
theorem ALe.drew {A w : World} (h : ALe A w) : ALe A w.drew := h.trans (Below.refl _ _).drew
theorem RdSh.ale {A w : World} {x : RSh} (h : RdSh A x) (k : ALe A w) : RdSh w x := h.le k.le
theorem RdSt.ale {A w : World} {x : RSV} (h : RdSt A x) (k : ALe A w) : RdSt w x := h.le k.le
theorem RdEn.ale {A w : World} {v : Value} {l : List EndM} (h : RdEn A v l) (k : ALe A w) : RdEn w v l := RdS.le h k.le fun _ _ h => h
/-- A row of numbers that can be read. -/
abbrev RdV (w : World) (v : Value) (l : List Int) : Prop := RdS 1 (fun _ cs x => cs = viC x) w v l
theorem RdV.later {A B : World} {v : Value} {l : List Int} (h : RdV A v l) (hb : Below A.heap.size A B) : RdV B v l := RdS.below h hb fun _ _ h => h
theorem RdV.el {w : World} {a : Option Addr} {n c : Nat} {l : List Int} (h : RdV w (.slice a n c) l) {k : Nat} {x : Int} (ho : l[k]? = some x) : ∃ b off, a = some ⟨b, off, none⟩ ∧ w.cell? ⟨b, off + k, none⟩ = some (vi x) := by
  obtain ⟨a', len, cap, h1, h2, h3, h4, h5, h6⟩ := h
  simp only [Value.slice.injEq] at h1
  obtain ⟨rfl, -, -⟩ := h1
  obtain ⟨b, off, cs, ha, hl, hc, rfl⟩ := h6 k x ho
  exact ⟨b, off, ha, by simpa [viC] using hc 0 _ rfl⟩
theorem rdv_nil (w : World) : RdV w (.slice none 0 0) [] := ⟨none, 0, 0, rfl, rfl, by simp, Nat.le_refl _, fun _ => ⟨rfl, rfl⟩, fun j x hj => by simp at hj⟩
theorem RdSh.shapes {A : World} {x : RSh} (h : RdSh A x) : ∃ a1 c1 a2 c2 a3 c3 a4 c4, x = ⟨.slice a1 x.m.s.vs.length c1, .slice a2 x.m.s.ws.length c2, .slice a3 x.m.s.es.length c3, .slice a4 x.m.ds.length c4, x.m⟩ ∧ x.m.s.ws.length ≤ 9223372036854775807 ∧ x.m.ds.length ≤ 9223372036854775807 := by
  obtain ⟨vv, wv, ev, dv, m⟩ := x
  obtain ⟨a1, n1, c1, h1, rfl, hm1, -⟩ := (show RdVer3 A vv m.s.vs from h.st.vs).at
  obtain ⟨a2, n2, c2, h2, rfl, hm2, -⟩ := (show RdRdy A wv m.s.ws from h.st.ws).at
  obtain ⟨a3, n3, c3, h3, rfl, hm3, -⟩ := (show RdEn A ev m.s.es from h.st.es).at
  obtain ⟨a4, n4, c4, h4, rfl, hm4, -⟩ := (show RdEn A dv m.ds from h.ds).at
  subst h1 h2 h3 h4
  exact ⟨a1, c1, a2, c2, a3, c3, a4, c4, rfl, hm2, hm4⟩
theorem rd_nilSh (w : World) (serial : Bool) (bugs stamps : Int) : RdSh w ⟨.slice none 0 0, .slice none 0 0, .slice none 0 0, .slice none 0 0, ⟨⟨serial, bugs, [], [], []⟩, stamps, 0, []⟩⟩ :=
  ⟨⟨⟨none, 0, 0, rfl, rfl, by simp [RSh.st], Nat.le_refl _, fun _ => ⟨rfl, rfl⟩, fun j x hj => by simp [RSh.st] at hj⟩, ⟨none, 0, 0, rfl, rfl, by simp [RSh.st], Nat.le_refl _, fun _ => ⟨rfl, rfl⟩, fun j x hj => by simp [RSh.st] at hj⟩, ⟨none, 0, 0, rfl, rfl, by simp [RSh.st], Nat.le_refl _, fun _ => ⟨rfl, rfl⟩, fun j x hj => by simp [RSh.st] at hj⟩⟩, ⟨none, 0, 0, rfl, rfl, by simp, Nat.le_refl _, fun _ => ⟨rfl, rfl⟩, fun j x hj => by simp at hj⟩⟩

set_option maxRecDepth 1000000 in
set_option maxHeartbeats 8000000 in
theorem new21_call (serial : Bool) (bugs stamps : Int) (w : World) : Calls Try.prog 15 #[.bool serial, vi bugs, vi stamps] w fun e w' =>
    e = .returned (.agg #[.bool serial, vi bugs, .slice none 0 0, .slice none 0 0, .slice none 0 0, vi stamps, vi 0, .slice none 0 0]) ∧ Below w.heap.size w w' := by
  go_enter Try.func15, Try.ntmps15
  go_wp2_with fail
  refine bodyPost_ret (v := .agg #[.bool serial, vi bugs, .slice none 0 0, .slice none 0 0, .slice none 0 0, vi stamps, vi 0, .slice none 0 0]) (by simp [results, Try.results15, go_sem]) rfl ⟨rfl, ?_⟩
  exact (Below.refl _ _).alloc (Nat.le_refl _) _

theorem home_next {ws : List Rdy} {by_ : Int} {k : Nat} {r : Rdy} (h : ws[k]? = some r) (hn : ∀ x ∈ ws.take k, (x.txn == by_) = false) (hq : (r.txn == by_) = true) : homeM ws by_ = r.home := by
  unfold homeM
  have e : ws = ws.take k ++ r :: ws.drop (k + 1) := by
    have := List.take_append_drop k ws
    rw [List.drop_eq_getElem_cons (List.getElem?_eq_some_iff.1 h).1, (List.getElem?_eq_some_iff.1 h).2] at this
    exact this.symm
  rw [e, List.find?_append, List.find?_eq_none.2 (fun x hx => by rw [hn x hx]; decide), List.find?_cons, hq]
  rfl
theorem home_none {ws : List Rdy} {by_ : Int} {k : Nat} (hn : ∀ x ∈ ws.take k, (x.txn == by_) = false) (hk : ¬ k < ws.length) : homeM ws by_ = 0 := by
  unfold homeM
  rw [List.take_of_length_le (by omega)] at hn
  rw [List.find?_eq_none.2 (fun x hx => by rw [hn x hx]; decide)]; rfl

set_option maxRecDepth 1000000 in
set_option maxHeartbeats 8000000 in
theorem home21_call (x : RSh) (by_ : Int) (w : World) (hx : RdSh w x) :
    Calls Try.prog 38 #[shV x, vi by_] w fun e w' => e = .returned (vi (homeM x.m.s.ws by_)) ∧ Below w.heap.size w w' := by
  obtain ⟨a1, c1, a2, c2, a3, c3, a4, c4, hxe, hm2, -⟩ := hx.shapes
  have HX := Lib.hid (show RdRdy w (.slice a2 x.m.s.ws.length c2) x.m.s.ws from by
    have h := hx.st.ws
    unfold RSh.st at h
    rw [hxe] at h; exact h)
  have hsv : shV x = .agg #[.bool x.m.s.serial, vi x.m.s.bugs, .slice a1 x.m.s.vs.length c1, .slice a2 x.m.s.ws.length c2, .slice a3 x.m.s.es.length c3, vi x.m.stamps, vi x.m.now, .slice a4 x.m.ds.length c4] := by unfold shV shC; rw [hxe]
  rw [hsv]
  have HB := Lib.hid ((Below.refl w.heap.size w).alloc (Nat.le_refl _) (.cells #[.bool x.m.s.serial, vi x.m.s.bugs, .slice a1 x.m.s.vs.length c1, .slice a2 x.m.s.ws.length c2, .slice a3 x.m.s.es.length c3, vi x.m.stamps, vi x.m.now, .slice a4 x.m.ds.length c4] 54))
  clear hxe hsv hx
  go_enter Try.func38, Try.ntmps38
  go_wp2_with fail
  generalize w.alloc (.cells #[.bool x.m.s.serial, vi x.m.s.bugs, .slice a1 x.m.s.vs.length c1, .slice a2 x.m.s.ws.length c2, .slice a3 x.m.s.es.length c3, vi x.m.stamps, vi x.m.now, .slice a4 x.m.ds.length c4] 54) = w1 at *
  go_loopw [11] (fun i wr => ∃ k : Nat, k ≤ x.m.s.ws.length ∧ i = vi k ∧ Hid (Below w.heap.size w wr) ∧ Hid (∀ r ∈ x.m.s.ws.take k, (r.txn == by_) = false)) (fun i _ => x.m.s.ws.length - (intOf i).toNat)
  case atStart => exact ⟨0, Nat.zero_le _, rfl, HB, Lib.hid (by simp)⟩
  case round =>
    obtain ⟨wj, rfl⟩ : ∃ wj : World, wj = wr := ⟨_, rfl⟩
    obtain ⟨k, hk, rfl, HJ, HN⟩ := hrel
    by_cases hlt : k < x.m.s.ws.length
    · have k1 : decide ((k : Int) < x.m.s.ws.length) = true := decide_eq_true (by omega)
      have k2 : (k : Int) < x.m.s.ws.length := by omega
      have hwk : IntKind.i64.wrap ((k : Int) + 1) = (k : Int) + 1 := IntWalk.i64_in _ (by omega)
      obtain ⟨r, hr⟩ := some_at hlt
      obtain ⟨b, off, rw_, rr, ha, hrs, c0, c1', c2', c3', c4'⟩ := (HX.out.later HJ.out).el hr
      subst ha
      obtain ⟨b1, l1, e1, rfl, -, -, -⟩ := (show RdOps wj rw_ r.writes from hrs.ws).at
      obtain ⟨b2, l2, e2, rfl, -, -, -⟩ := (show RdInts wj rr r.reads from hrs.rs).at
      have HR := Lib.hid hr
      have hsz := HJ.out.size
      clear hr hrs
      cases hq : (r.txn == by_) with
      | true =>
        go_wp2_with fail
        go_ret
        exact ⟨by rw [home_next HR.out HN.out hq]; rfl, HJ.out.alloc hsz _⟩
      | false =>
        go_wp2_with fail
        exact ⟨⟨k + 1, by omega, by go_num, Lib.hid (HJ.out.alloc hsz _), Lib.hid (any_take HN.out HR.out hq)⟩, by simp only [intOf]; omega⟩
    · have k1 : decide ((k : Int) < x.m.s.ws.length) = false := decide_eq_false (by omega)
      go_wp2_with fail
      go_ret
      exact ⟨by rw [home_none HN.out hlt]; rfl, HJ.out⟩

theorem rn_set8 {W : World} {b : Nat} {c0 c1 c2 c3 c4 c5 c6 c7 : Value} {T : TypeId} (v0 v1 v2 v3 v4 v5 v6 v7 : Value) (h : W.heap[b]? = some (.cells #[c0, c1, c2, c3, c4, c5, c6, c7] T)) : ((((((((W.setCell ⟨b, 0, none⟩ v0).setCell ⟨b, 1, none⟩ v1).setCell ⟨b, 2, none⟩ v2).setCell ⟨b, 3, none⟩ v3).setCell ⟨b, 4, none⟩ v4).setCell ⟨b, 5, none⟩ v5).setCell ⟨b, 6, none⟩ v6).setCell ⟨b, 7, none⟩ v7).heap[b]? = some (.cells #[v0, v1, v2, v3, v4, v5, v6, v7] T) := by
  have h0 := h
  have h1 : (W.setCell ⟨b, 0, none⟩ v0).heap[b]? = some (.cells #[v0, c1, c2, c3, c4, c5, c6, c7] T) := by rw [rn_set v0 h0]; rfl
  have h2 : ((W.setCell ⟨b, 0, none⟩ v0).setCell ⟨b, 1, none⟩ v1).heap[b]? = some (.cells #[v0, v1, c2, c3, c4, c5, c6, c7] T) := by rw [rn_set v1 h1]; rfl
  have h3 : (((W.setCell ⟨b, 0, none⟩ v0).setCell ⟨b, 1, none⟩ v1).setCell ⟨b, 2, none⟩ v2).heap[b]? = some (.cells #[v0, v1, v2, c3, c4, c5, c6, c7] T) := by rw [rn_set v2 h2]; rfl
  have h4 : ((((W.setCell ⟨b, 0, none⟩ v0).setCell ⟨b, 1, none⟩ v1).setCell ⟨b, 2, none⟩ v2).setCell ⟨b, 3, none⟩ v3).heap[b]? = some (.cells #[v0, v1, v2, v3, c4, c5, c6, c7] T) := by rw [rn_set v3 h3]; rfl
  have h5 : (((((W.setCell ⟨b, 0, none⟩ v0).setCell ⟨b, 1, none⟩ v1).setCell ⟨b, 2, none⟩ v2).setCell ⟨b, 3, none⟩ v3).setCell ⟨b, 4, none⟩ v4).heap[b]? = some (.cells #[v0, v1, v2, v3, v4, c5, c6, c7] T) := by rw [rn_set v4 h4]; rfl
  have h6 : ((((((W.setCell ⟨b, 0, none⟩ v0).setCell ⟨b, 1, none⟩ v1).setCell ⟨b, 2, none⟩ v2).setCell ⟨b, 3, none⟩ v3).setCell ⟨b, 4, none⟩ v4).setCell ⟨b, 5, none⟩ v5).heap[b]? = some (.cells #[v0, v1, v2, v3, v4, v5, c6, c7] T) := by rw [rn_set v5 h5]; rfl
  have h7 : (((((((W.setCell ⟨b, 0, none⟩ v0).setCell ⟨b, 1, none⟩ v1).setCell ⟨b, 2, none⟩ v2).setCell ⟨b, 3, none⟩ v3).setCell ⟨b, 4, none⟩ v4).setCell ⟨b, 5, none⟩ v5).setCell ⟨b, 6, none⟩ v6).heap[b]? = some (.cells #[v0, v1, v2, v3, v4, v5, v6, c7] T) := by rw [rn_set v6 h6]; rfl
  have h8 : ((((((((W.setCell ⟨b, 0, none⟩ v0).setCell ⟨b, 1, none⟩ v1).setCell ⟨b, 2, none⟩ v2).setCell ⟨b, 3, none⟩ v3).setCell ⟨b, 4, none⟩ v4).setCell ⟨b, 5, none⟩ v5).setCell ⟨b, 6, none⟩ v6).setCell ⟨b, 7, none⟩ v7).heap[b]? = some (.cells #[v0, v1, v2, v3, v4, v5, v6, v7] T) := by rw [rn_set v7 h7]; rfl
  exact h8
theorem rn_oth8 {W : World} {b j : Nat} {v0 v1 v2 v3 v4 v5 v6 v7 : Value} (hj : j ≠ b) : ((((((((W.setCell ⟨b, 0, none⟩ v0).setCell ⟨b, 1, none⟩ v1).setCell ⟨b, 2, none⟩ v2).setCell ⟨b, 3, none⟩ v3).setCell ⟨b, 4, none⟩ v4).setCell ⟨b, 5, none⟩ v5).setCell ⟨b, 6, none⟩ v6).setCell ⟨b, 7, none⟩ v7).heap[j]? = W.heap[j]? := by
  rw [Below.heap_setCell _ _ _ _ hj, Below.heap_setCell _ _ _ _ hj, Below.heap_setCell _ _ _ _ hj, Below.heap_setCell _ _ _ _ hj, Below.heap_setCell _ _ _ _ hj, Below.heap_setCell _ _ _ _ hj, Below.heap_setCell _ _ _ _ hj, Below.heap_setCell _ _ _ _ hj]
theorem rn_below8 {W : World} {b N : Nat} (v0 v1 v2 v3 v4 v5 v6 v7 : Value) (h : N ≤ b) : Below N W ((((((((W.setCell ⟨b, 0, none⟩ v0).setCell ⟨b, 1, none⟩ v1).setCell ⟨b, 2, none⟩ v2).setCell ⟨b, 3, none⟩ v3).setCell ⟨b, 4, none⟩ v4).setCell ⟨b, 5, none⟩ v5).setCell ⟨b, 6, none⟩ v6).setCell ⟨b, 7, none⟩ v7) :=
  (((((((((Below.refl N W).setCell h _).setCell h _).setCell h _).setCell h _).setCell h _).setCell h _).setCell h _).setCell h _)
theorem rn_set9 {W : World} {b : Nat} {c0 c1 c2 c3 c4 c5 c6 c7 c8 : Value} {T : TypeId} (v0 v1 v2 v3 v4 v5 v6 v7 v8 : Value) (h : W.heap[b]? = some (.cells #[c0, c1, c2, c3, c4, c5, c6, c7, c8] T)) : (((((((((W.setCell ⟨b, 0, none⟩ v0).setCell ⟨b, 1, none⟩ v1).setCell ⟨b, 2, none⟩ v2).setCell ⟨b, 3, none⟩ v3).setCell ⟨b, 4, none⟩ v4).setCell ⟨b, 5, none⟩ v5).setCell ⟨b, 6, none⟩ v6).setCell ⟨b, 7, none⟩ v7).setCell ⟨b, 8, none⟩ v8).heap[b]? = some (.cells #[v0, v1, v2, v3, v4, v5, v6, v7, v8] T) := by
  have h0 := h
  have h1 : (W.setCell ⟨b, 0, none⟩ v0).heap[b]? = some (.cells #[v0, c1, c2, c3, c4, c5, c6, c7, c8] T) := by rw [rn_set v0 h0]; rfl
  have h2 : ((W.setCell ⟨b, 0, none⟩ v0).setCell ⟨b, 1, none⟩ v1).heap[b]? = some (.cells #[v0, v1, c2, c3, c4, c5, c6, c7, c8] T) := by rw [rn_set v1 h1]; rfl
  have h3 : (((W.setCell ⟨b, 0, none⟩ v0).setCell ⟨b, 1, none⟩ v1).setCell ⟨b, 2, none⟩ v2).heap[b]? = some (.cells #[v0, v1, v2, c3, c4, c5, c6, c7, c8] T) := by rw [rn_set v2 h2]; rfl
  have h4 : ((((W.setCell ⟨b, 0, none⟩ v0).setCell ⟨b, 1, none⟩ v1).setCell ⟨b, 2, none⟩ v2).setCell ⟨b, 3, none⟩ v3).heap[b]? = some (.cells #[v0, v1, v2, v3, c4, c5, c6, c7, c8] T) := by rw [rn_set v3 h3]; rfl
  have h5 : (((((W.setCell ⟨b, 0, none⟩ v0).setCell ⟨b, 1, none⟩ v1).setCell ⟨b, 2, none⟩ v2).setCell ⟨b, 3, none⟩ v3).setCell ⟨b, 4, none⟩ v4).heap[b]? = some (.cells #[v0, v1, v2, v3, v4, c5, c6, c7, c8] T) := by rw [rn_set v4 h4]; rfl
  have h6 : ((((((W.setCell ⟨b, 0, none⟩ v0).setCell ⟨b, 1, none⟩ v1).setCell ⟨b, 2, none⟩ v2).setCell ⟨b, 3, none⟩ v3).setCell ⟨b, 4, none⟩ v4).setCell ⟨b, 5, none⟩ v5).heap[b]? = some (.cells #[v0, v1, v2, v3, v4, v5, c6, c7, c8] T) := by rw [rn_set v5 h5]; rfl
  have h7 : (((((((W.setCell ⟨b, 0, none⟩ v0).setCell ⟨b, 1, none⟩ v1).setCell ⟨b, 2, none⟩ v2).setCell ⟨b, 3, none⟩ v3).setCell ⟨b, 4, none⟩ v4).setCell ⟨b, 5, none⟩ v5).setCell ⟨b, 6, none⟩ v6).heap[b]? = some (.cells #[v0, v1, v2, v3, v4, v5, v6, c7, c8] T) := by rw [rn_set v6 h6]; rfl
  have h8 : ((((((((W.setCell ⟨b, 0, none⟩ v0).setCell ⟨b, 1, none⟩ v1).setCell ⟨b, 2, none⟩ v2).setCell ⟨b, 3, none⟩ v3).setCell ⟨b, 4, none⟩ v4).setCell ⟨b, 5, none⟩ v5).setCell ⟨b, 6, none⟩ v6).setCell ⟨b, 7, none⟩ v7).heap[b]? = some (.cells #[v0, v1, v2, v3, v4, v5, v6, v7, c8] T) := by rw [rn_set v7 h7]; rfl
  have h9 : (((((((((W.setCell ⟨b, 0, none⟩ v0).setCell ⟨b, 1, none⟩ v1).setCell ⟨b, 2, none⟩ v2).setCell ⟨b, 3, none⟩ v3).setCell ⟨b, 4, none⟩ v4).setCell ⟨b, 5, none⟩ v5).setCell ⟨b, 6, none⟩ v6).setCell ⟨b, 7, none⟩ v7).setCell ⟨b, 8, none⟩ v8).heap[b]? = some (.cells #[v0, v1, v2, v3, v4, v5, v6, v7, v8] T) := by rw [rn_set v8 h8]; rfl
  exact h9
theorem rn_oth9 {W : World} {b j : Nat} {v0 v1 v2 v3 v4 v5 v6 v7 v8 : Value} (hj : j ≠ b) : (((((((((W.setCell ⟨b, 0, none⟩ v0).setCell ⟨b, 1, none⟩ v1).setCell ⟨b, 2, none⟩ v2).setCell ⟨b, 3, none⟩ v3).setCell ⟨b, 4, none⟩ v4).setCell ⟨b, 5, none⟩ v5).setCell ⟨b, 6, none⟩ v6).setCell ⟨b, 7, none⟩ v7).setCell ⟨b, 8, none⟩ v8).heap[j]? = W.heap[j]? := by
  rw [Below.heap_setCell _ _ _ _ hj, Below.heap_setCell _ _ _ _ hj, Below.heap_setCell _ _ _ _ hj, Below.heap_setCell _ _ _ _ hj, Below.heap_setCell _ _ _ _ hj, Below.heap_setCell _ _ _ _ hj, Below.heap_setCell _ _ _ _ hj, Below.heap_setCell _ _ _ _ hj, Below.heap_setCell _ _ _ _ hj]
theorem rn_below9 {W : World} {b N : Nat} (v0 v1 v2 v3 v4 v5 v6 v7 v8 : Value) (h : N ≤ b) : Below N W (((((((((W.setCell ⟨b, 0, none⟩ v0).setCell ⟨b, 1, none⟩ v1).setCell ⟨b, 2, none⟩ v2).setCell ⟨b, 3, none⟩ v3).setCell ⟨b, 4, none⟩ v4).setCell ⟨b, 5, none⟩ v5).setCell ⟨b, 6, none⟩ v6).setCell ⟨b, 7, none⟩ v7).setCell ⟨b, 8, none⟩ v8) :=
  ((((((((((Below.refl N W).setCell h _).setCell h _).setCell h _).setCell h _).setCell h _).setCell h _).setCell h _).setCell h _).setCell h _)
end Go.Proofs.Ytdkkpkgfiodlbaa

/- Layer 21's law: plain, a command as the reference reads it. -/
namespace Go.Proofs.Ytdkkpkgfiodlbaa
open Go.RowKit Go.Maps
attribute [local go_sem] Oper.semAt_some

theorem own_set9 {W : World} {N e n m b : Nat} {v v0 v1 v2 v3 v4 v5 v6 v7 v8 : Value} {xs : List Value} (h : W.ownsRow N e n v m xs) (hb : some b ≠ v.ownBlock) :
    (((((((((W.setCell ⟨b, 0, none⟩ v0).setCell ⟨b, 1, none⟩ v1).setCell ⟨b, 2, none⟩ v2).setCell ⟨b, 3, none⟩ v3).setCell ⟨b, 4, none⟩ v4).setCell ⟨b, 5, none⟩ v5).setCell ⟨b, 6, none⟩ v6).setCell ⟨b, 7, none⟩ v7).setCell ⟨b, 8, none⟩ v8).ownsRow N e n v m xs :=
  own_set_ne (own_set_ne (own_set_ne (own_set_ne (own_set_ne (own_set_ne (own_set_ne (own_set_ne (own_set_ne h hb) hb) hb) hb) hb) hb) hb) hb) hb
def killO (o : GOp) : GOp := ⟨2, o.key, o.val⟩
structure PlI (w : World) (k : Int) (r : Rdy) (e : EndM) (wv rv : Value) (N : Nat) (j : Nat) (v : Value) (W : World) : Prop where
  cmd : W.heap[w.heap.size]? = some (.cells #[vi k, vi r.txn, vi r.home, vi r.start, wv, rv, vi e.txn, .bool e.commit, vi e.at_] 33)
  res : W.heap[w.heap.size + 1]? = some (.cells #[vi 0, vi 0, vi 0, vi 0, .slice none 0 0, .slice none 0 0, vi 0, .bool false, vi 0] 63)
  box : W.heap[w.heap.size + 2]? = some (.cells #[vi r.txn, vi r.home, vi r.start, v, rv] 61)
  row : W.ownsRow N 104 3 v j (((r.writes.take j).map killO).flatMap opV)
  below : Below w.heap.size w W
  base : w.heap.size + 2 < N ∧ N ≤ W.heap.size
theorem PlI.later {w : World} {k : Int} {r : Rdy} {e : EndM} {wv rv v : Value} {N j : Nat} {A B : World} (h : PlI w k r e wv rv N j v A) (hb : Below A.heap.size A B) : PlI w k r e wv rv N j v B :=
  ⟨(hb.block _ (Array.getElem?_eq_some_iff.1 h.cmd).1).trans h.cmd, (hb.block _ (Array.getElem?_eq_some_iff.1 h.res).1).trans h.res, (hb.block _ (Array.getElem?_eq_some_iff.1 h.box).1).trans h.box, own_below h.row hb, h.below.trans (hb.mono h.below.size), ⟨h.base.1, Nat.le_trans h.base.2 hb.size⟩⟩
theorem PlI.push {w : World} {k : Int} {r : Rdy} {e : EndM} {wv rv v v' : Value} {N j : Nat} {A B : World} {o : GOp} (h : PlI w k r e wv rv N j v A) (ho : r.writes[j]? = some o) (hg : A.grownBy B v.ownBlock) (hr : B.ownsRow N 104 3 v' (j + 1) (((r.writes.take j).map killO).flatMap opV ++ opV (killO o))) :
    B.cell? ⟨w.heap.size + 2, 3, none⟩ = some v ∧ B.frozen? ⟨w.heap.size + 2, 3, none⟩ = false ∧ PlI w k r e wv rv N (j + 1) v' (B.setCell ⟨w.heap.size + 2, 3, none⟩ v') := by
  have n0 := own_neR h.row h.cmd (by decide)
  have n1 := own_neR h.row h.res (by decide)
  have n2 := own_neR h.row h.box (by decide)
  have b0 := (hg.block _ (Array.getElem?_eq_some_iff.1 h.cmd).1 n0).trans h.cmd
  have b1 := (hg.block _ (Array.getElem?_eq_some_iff.1 h.res).1 n1).trans h.res
  have b2 := (hg.block _ (Array.getElem?_eq_some_iff.1 h.box).1 n2).trans h.box
  refine ⟨by rw [cell_of b2]; rfl, free_of b2 3, ?_, ?_, ?_, ?_, ?_, h.base.1, ?_⟩
  · rw [Below.heap_setCell _ _ _ _ (show w.heap.size ≠ w.heap.size + 2 by omega)]; exact b0
  · rw [Below.heap_setCell _ _ _ _ (show w.heap.size + 1 ≠ w.heap.size + 2 by omega)]; exact b1
  · rw [rn_set v' b2]; rfl
  · have := own_set_ne (b := w.heap.size + 2) (o := 3) (u := v') hr (own_neR hr b2 (by decide))
    rw [List.take_add_one, ho]
    simpa using this
  · exact (h.below.grown hg (h.below.size) (fun g hgg => by
      have := (h.row.lt g hgg).1
      have := h.base.1; omega)).setCell (show w.heap.size ≤ w.heap.size + 2 by omega) _
  · show N ≤ (B.setCell _ _).heap.size
    have := hg.size
    have := h.base.2
    simp [World.setCell]; omega

set_option maxRecDepth 1000000 in
set_option maxHeartbeats 16000000 in
theorem plain_call (c : Cmd21) (wv rv : Value) (w : World) (hr : RdyS w ⟨wv, rv, c.r⟩) (hl : c.r.writes.length ≤ 1000) :
    Calls Try.prog 17 #[cmdV c wv rv] w fun e w' => ∃ wv', e = .returned (cmdV ⟨c.k, killK c.r, c.e⟩ wv' rv) ∧ RdyS w' ⟨wv', rv, killK c.r⟩ ∧ Below w.heap.size w w' := by
  obtain ⟨k, r, e⟩ := c
  obtain ⟨aw, nw, cw, hwv, rfl, -, -⟩ := (show RdOps w wv r.writes from hr.ws).at
  obtain ⟨ar, nr, cr, hrv, rfl, -, -⟩ := (show RdInts w rv r.reads from hr.rs).at
  subst hwv hrv
  have HR := Lib.hid hr
  simp only at hl
  clear hr
  have HP := Lib.hid (show PlI w k r e (.slice aw r.writes.length cw) (.slice ar r.reads.length cr) (w.heap.size + 3) 0 (.slice none 0 0)
      (((w.alloc (.cells #[vi k, vi r.txn, vi r.home, vi r.start, .slice aw r.writes.length cw, .slice ar r.reads.length cr, vi e.txn, .bool e.commit, vi e.at_] 33)).alloc (.cells #[vi 0, vi 0, vi 0, vi 0, .slice none 0 0, .slice none 0 0, vi 0, .bool false, vi 0] 63)).alloc (.cells #[vi r.txn, vi r.home, vi r.start, .slice none 0 0, .slice ar r.reads.length cr] 61)) from by
    refine ⟨?_, ?_, ?_, World.ownsRow_nil _ _ _ _, (((Below.refl _ _).alloc (Nat.le_refl _) _).alloc (by simp) _).alloc (by simp <;> omega) _, by omega, by simp⟩
    · rw [heap_al, if_neg (by rw [size_al, size_al]; omega), heap_al, if_neg (by rw [size_al]; omega)]; exact alloc_at w _
    · rw [heap_al, if_neg (by simp), ← size_al w (.cells #[vi k, vi r.txn, vi r.home, vi r.start, .slice aw r.writes.length cw, .slice ar r.reads.length cr, vi e.txn, .bool e.commit, vi e.at_] 33)]; exact alloc_at _ _
    · exact heap_top (by simp))
  unfold cmdV cmdC
  go_enter Try.func17, Try.ntmps17
  go_upto_region 3 with fail
  generalize (((w.alloc (.cells #[vi k, vi r.txn, vi r.home, vi r.start, .slice aw r.writes.length cw, .slice ar r.reads.length cr, vi e.txn, .bool e.commit, vi e.at_] 33)).alloc (.cells #[vi 0, vi 0, vi 0, vi 0, .slice none 0 0, .slice none 0 0, vi 0, .bool false, vi 0] 63)).alloc (.cells #[vi r.txn, vi r.home, vi r.start, .slice none 0 0, .slice ar r.reads.length cr] 61)) = w3 at *
  have x4 : w3.cell? ⟨w.heap.size, 4, none⟩ = some (.slice aw r.writes.length cw) := by rw [cell_of HP.out.cmd]; rfl
  obtain ⟨X, hX⟩ : ∃ X, X = w.heap.size := ⟨_, rfl⟩
  obtain ⟨N, hN⟩ : ∃ N, N = w.heap.size + 3 := ⟨_, rfl⟩
  rw [← hN] at HP
  rw [← hX] at x4 ⊢
  have HX := Lib.hid hX
  clear hX hN
  go_wp2_with fail
  clear x4
  go_loopw [13] (fun i wr => ∃ (j : Nat) (v : Value), j ≤ r.writes.length ∧ i = vi j ∧ Hid (PlI w k r e (.slice aw r.writes.length cw) (.slice ar r.reads.length cr) N j v wr)) (fun i _ => r.writes.length - (intOf i).toNat)
  case atStart => exact ⟨0, _, Nat.zero_le _, rfl, HP⟩
  case round =>
    obtain ⟨wj, rfl⟩ : ∃ wj : World, wj = wr := ⟨_, rfl⟩
    obtain ⟨j, v, hj, rfl, HJ⟩ := hrel
    clear HP
    obtain ⟨av, cv, rfl⟩ := own_shape HJ.out.row
    by_cases hlt : j < r.writes.length
    · have k1 : decide ((j : Int) < r.writes.length) = true := decide_eq_true (by omega)
      have k2 : (j : Int) < r.writes.length := by omega
      have hwk : IntKind.i64.wrap ((j : Int) + 1) = (j : Int) + 1 := IntWalk.i64_in _ (by omega)
      obtain ⟨o, ho⟩ := some_at hlt
      obtain ⟨g, off, ha, c0, c1, c2⟩ := (show RdOps wj (.slice aw r.writes.length cw) r.writes from (HR.out.later HJ.out.below).ws).el ho
      subst ha
      have HO := Lib.hid ho
      have HQ := Lib.hid (HJ.out.later (((Below.refl wj.heap.size wj).alloc (Nat.le_refl _) (.cells #[vi o.kind, vi o.key, vi o.val] 104)).alloc (by simp) (.cells #[vi 2, vi o.key, vi o.val] 104)))
      have hAB := alloc_at wj (.cells #[vi o.kind, vi o.key, vi o.val] 104)
      have hone : ∀ u ∈ opV (killO o), u.oneCell' = true := by intro u hu; simp [opV] at hu; rcases hu with rfl | rfl | rfl <;> rfl
      have hxl : X + 1 + 1 < wj.heap.size := by have := (Array.getElem?_eq_some_iff.1 HJ.out.box).1; have := HX.out; omega
      have hsn : Src ((wj.alloc (.cells #[vi o.kind, vi o.key, vi o.val] 104)).alloc (.cells #[vi 2, vi o.key, vi o.val] 104)) (.slice (some ⟨wj.heap.size + 1, 0, none⟩) 1 1) 3 1 (opV (killO o)) := src_new (cs := #[vi 2, vi o.key, vi o.val]) rfl (by simp)
      have HSN := Lib.hid hsn
      clear ho hsn
      have b3 : wj.cell? ⟨X + 1 + 1, 3, none⟩ = some (.slice av j cv) := by
        have := HJ.out.box
        rw [← HX.out] at this
        rw [cell_of this]; rfl
      have hll : j ≤ 1000 := by omega
      have hNs := HQ.out.base.2
      go_wp2_with (refine wpList_append_src rfl _ _ 26 rfl eltOp N j _ HQ.out.row rfl 1 (opV (killO o)) HSN.out rfl hone (by omega) (by omega) hNs ?_; intro v7 w7 ho7 hg7 _; obtain ⟨z3, zf, hP7⟩ := HQ.out.push HO.out hg7 ho7; have HP7 := Lib.hid hP7; rw [← HX.out] at z3 zf; obtain ⟨a7, c7, rfl⟩ := own_shape ho7; clear ho7 hg7 hP7)
      have HP8 := HP7
      rw [← HX.out] at HP8
      exact ⟨⟨j + 1, _, by omega, by go_num, HP8⟩, by simp only [intOf]; omega⟩
    · have k1 : decide ((j : Int) < r.writes.length) = false := decide_eq_false (by omega)
      obtain rfl : j = r.writes.length := by omega
      have hc := HJ.out.cmd
      have hb := HJ.out.box
      have hz := HJ.out.res
      rw [← HX.out] at hc hb hz
      have x0 : wj.cell? ⟨X, 0, none⟩ = some (vi k) := by rw [cell_of hc]; rfl
      have x6 : wj.cell? ⟨X, 6, none⟩ = some (vi e.txn) := by rw [cell_of hc]; rfl
      have x7 : wj.cell? ⟨X, 7, none⟩ = some (.bool e.commit) := by rw [cell_of hc]; rfl
      have x8 : wj.cell? ⟨X, 8, none⟩ = some (vi e.at_) := by rw [cell_of hc]; rfl
      have b0 : wj.cell? ⟨X + 1 + 1, 0, none⟩ = some (vi r.txn) := by rw [cell_of hb]; rfl
      have b1 : wj.cell? ⟨X + 1 + 1, 1, none⟩ = some (vi r.home) := by rw [cell_of hb]; rfl
      have b2 : wj.cell? ⟨X + 1 + 1, 2, none⟩ = some (vi r.start) := by rw [cell_of hb]; rfl
      have b3 : wj.cell? ⟨X + 1 + 1, 3, none⟩ = some (.slice av r.writes.length cv) := by rw [cell_of hb]; rfl
      have b4 : wj.cell? ⟨X + 1 + 1, 4, none⟩ = some (.slice ar r.reads.length cr) := by rw [cell_of hb]; rfl
      have q0 : wj.cell? ⟨X + 1, 0, none⟩ = some (vi 0) := by rw [cell_of hz]; rfl
      have q1 : wj.cell? ⟨X + 1, 1, none⟩ = some (vi 0) := by rw [cell_of hz]; rfl
      have q2 : wj.cell? ⟨X + 1, 2, none⟩ = some (vi 0) := by rw [cell_of hz]; rfl
      have q3 : wj.cell? ⟨X + 1, 3, none⟩ = some (vi 0) := by rw [cell_of hz]; rfl
      have q4 : wj.cell? ⟨X + 1, 4, none⟩ = some (.slice none 0 0) := by rw [cell_of hz]; rfl
      have q5 : wj.cell? ⟨X + 1, 5, none⟩ = some (.slice none 0 0) := by rw [cell_of hz]; rfl
      have q6 : wj.cell? ⟨X + 1, 6, none⟩ = some (vi 0) := by rw [cell_of hz]; rfl
      have q7 : wj.cell? ⟨X + 1, 7, none⟩ = some (.bool false) := by rw [cell_of hz]; rfl
      have q8 : wj.cell? ⟨X + 1, 8, none⟩ = some (vi 0) := by rw [cell_of hz]; rfl
      have qf : ∀ j, wj.frozen? ⟨X + 1, j, none⟩ = false := fun j => free_of hz j
      have hS := rn_set9 (vi k) (vi r.txn) (vi r.home) (vi r.start) (.slice av r.writes.length cv) (.slice ar r.reads.length cr) (vi e.txn) (.bool e.commit) (vi e.at_) hz
      have hBf := rn_below9 (W := wj) (b := X + 1) (N := w.heap.size) (vi k) (vi r.txn) (vi r.home) (vi r.start) (.slice av r.writes.length cv) (.slice ar r.reads.length cr) (vi e.txn) (.bool e.commit) (vi e.at_) (by have := HX.out; omega)
      have hrow : wj.ownsRow N 104 3 (.slice av r.writes.length cv) (r.writes.map killO).length ((r.writes.map killO).flatMap opV) := by have := HJ.out.row; rw [List.take_of_length_le (Nat.le_refl _)] at this; simpa using this
      have HS := Lib.hid hS
      have HBF := Lib.hid hBf
      have hne := own_neR HJ.out.row hz (by decide)
      have HOW := Lib.hid (own_set9 (v0 := vi k) (v1 := vi r.txn) (v2 := vi r.home) (v3 := vi r.start) (v4 := .slice av r.writes.length cv) (v5 := .slice ar r.reads.length cr) (v6 := vi e.txn) (v7 := .bool e.commit) (v8 := vi e.at_) hrow hne)
      clear hS hBf hrow hne hc hb hz
      go_wp2_with fail
      generalize (((((((((wj.setCell ⟨X + 1, 0, none⟩ (vi k)).setCell ⟨X + 1, 1, none⟩ (vi r.txn)).setCell ⟨X + 1, 2, none⟩ (vi r.home)).setCell ⟨X + 1, 3, none⟩ (vi r.start)).setCell ⟨X + 1, 4, none⟩ (.slice av r.writes.length cv)).setCell ⟨X + 1, 5, none⟩ (.slice ar r.reads.length cr)).setCell ⟨X + 1, 6, none⟩ (vi e.txn)).setCell ⟨X + 1, 7, none⟩ (.bool e.commit)).setCell ⟨X + 1, 8, none⟩ (vi e.at_)) = wz at *
      have r0 : wz.cell? ⟨X + 1, 0, none⟩ = some (vi k) := by rw [cell_of HS.out]; rfl
      have r1 : wz.cell? ⟨X + 1, 1, none⟩ = some (vi r.txn) := by rw [cell_of HS.out]; rfl
      have r2 : wz.cell? ⟨X + 1, 2, none⟩ = some (vi r.home) := by rw [cell_of HS.out]; rfl
      have r3 : wz.cell? ⟨X + 1, 3, none⟩ = some (vi r.start) := by rw [cell_of HS.out]; rfl
      have r4 : wz.cell? ⟨X + 1, 4, none⟩ = some (.slice av r.writes.length cv) := by rw [cell_of HS.out]; rfl
      have r5 : wz.cell? ⟨X + 1, 5, none⟩ = some (.slice ar r.reads.length cr) := by rw [cell_of HS.out]; rfl
      have r6 : wz.cell? ⟨X + 1, 6, none⟩ = some (vi e.txn) := by rw [cell_of HS.out]; rfl
      have r7 : wz.cell? ⟨X + 1, 7, none⟩ = some (.bool e.commit) := by rw [cell_of HS.out]; rfl
      have r8 : wz.cell? ⟨X + 1, 8, none⟩ = some (vi e.at_) := by rw [cell_of HS.out]; rfl
      refine bodyPost_ret (v := cmdV ⟨k, killK r, e⟩ (.slice av r.writes.length cv) (.slice ar r.reads.length cr)) (by simp [results, Try.results17, go_sem, r0, r1, r2, r3, r4, r5, r6, r7, r8, cmdV, cmdC, killK]) rfl ⟨_, rfl, ⟨?_, (HR.out.later (HJ.out.below.trans HBF.out)).rs⟩, HJ.out.below.trans HBF.out⟩
      exact own_rds (enc := opV) (E := EOp) (fun _ => rfl) HOW.out (fun _ _ => rfl)
end Go.Proofs.Ytdkkpkgfiodlbaa
