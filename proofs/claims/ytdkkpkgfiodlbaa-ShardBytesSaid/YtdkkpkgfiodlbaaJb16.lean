/- Texts of one proof, one behind the other: RnOf, Frames. -/
import Derived.Test.YtdkkpkgfiodlbaaJb15
import Derived.Test.YtdkkpkgfiodlbaaJb8
import Derived.Test.YtdkkpkgfiodlbaaJb1
import Derived.Deep.CutBlock
import Derived.Deep.LoopGhost
set_option linter.all false
/- Layer 19's reference: Of, plain: a key's versions by rising times. Names no function. -/
namespace Go.Proofs.Ytdkkpkgfiodlbaa
open Go.RowKit Go.Maps
/-- Where a version finds its place, looked for from behind. -/
def downV (l : List Ver) (t : Int) : Nat → Nat
  | 0 => 0
  | k + 1 => match l[k]? with
    | some y => if t < y.1 then downV l t k else k + 1
    | none => k + 1
def insAt (l : List Ver) (t v : Int) : List Ver := l.take (downV l t l.length) ++ [(t, v)] ++ l.drop (downV l t l.length)
def ofStep (key : Int) (l : List Ver) (v : Ver3) : List Ver := if v.key == key then insAt l v.at_ v.val else l
def ofV (vs : List Ver3) (key : Int) : List Ver := vs.foldl (ofStep key) []
theorem downV_le (l : List Ver) (t : Int) : ∀ k, downV l t k ≤ k
  | 0 => Nat.le_refl _
  | k + 1 => by
    unfold downV
    split
    · split
      · exact Nat.le_succ_of_le (downV_le l t k)
      · exact Nat.le_refl _
    · exact Nat.le_refl _
theorem ofV_len (key : Int) : ∀ (vs : List Ver3) (b : List Ver), (vs.foldl (ofStep key) b).length ≤ b.length + vs.length
  | [], b => Nat.le_refl _
  | v :: vs, b => by
    rw [List.foldl_cons]
    refine Nat.le_trans (ofV_len key vs _) ?_
    have : (ofStep key b v).length ≤ b.length + 1 := by
      unfold ofStep
      split
      · unfold insAt
        have := downV_le b v.at_ b.length
        simp; omega
      · omega
    simp only [List.length_cons]; omega
theorem insAt_mem (l : List Ver) (t v : Int) (p : Ver) : p ∈ insAt l t v ↔ p = (t, v) ∨ p ∈ l := by
  unfold insAt
  have h := List.take_append_drop (downV l t l.length) l
  constructor
  · intro hp
    simp only [List.mem_append, List.mem_singleton] at hp
    rcases hp with (hp | hp) | hp
    · exact .inr (List.mem_of_mem_take hp)
    · exact .inl hp
    · exact .inr (List.mem_of_mem_drop hp)
  · rintro (hp | hp)
    · simp [hp]
    · rw [← h] at hp
      simp only [List.mem_append, List.mem_singleton]
      rcases List.mem_append.1 hp with hp | hp
      · exact .inl (.inl hp)
      · exact .inr hp
theorem ofV_mem (key : Int) (p : Ver) : ∀ (vs : List Ver3) (b : List Ver), p ∈ vs.foldl (ofStep key) b ↔ p ∈ b ∨ ⟨key, p.1, p.2⟩ ∈ vs
  | [], b => by simp
  | v :: vs, b => by
    rw [List.foldl_cons, ofV_mem key p vs]
    unfold ofStep
    obtain ⟨k, t, x⟩ := v
    obtain ⟨p1, p2⟩ := p
    by_cases hk : k = key
    · subst hk
      simp only [beq_self_eq_true, if_true, insAt_mem, List.mem_cons, Ver3.mk.injEq, Prod.mk.injEq, true_and]
      constructor
      · rintro ((h | h) | h)
        · exact .inr (.inl h)
        · exact .inl h
        · exact .inr (.inr h)
      · rintro (h | h | h)
        · exact .inl (.inr h)
        · exact .inl (.inl h)
        · exact .inr h
    · have : (k == key) = false := by simpa using hk
      simp only [this, List.mem_cons, Ver3.mk.injEq]
      constructor
      · rintro (h | h)
        · exact .inl h
        · exact .inr (.inr h)
      · rintro (h | h | h)
        · exact .inl h
        · exact absurd h.1.symm hk
        · exact .inr h
theorem downV_low {l : List Ver} {t : Int} : ∀ k, ∀ (j : Nat) (y : Ver), downV l t k ≤ j → j < k → l[j]? = some y → t < y.1
  | 0, j, y, _, h, _ => by omega
  | k + 1, j, y, h1, h2, h3 => by
    unfold downV at h1
    cases hk : l[k]? with
    | none => rw [hk] at h1; simp only at h1; omega
    | some z =>
      rw [hk] at h1
      simp only at h1
      split at h1
      · rename_i hz
        by_cases hj : j = k
        · subst hj; rw [hk] at h3; cases h3; exact hz
        · exact downV_low k j y h1 (by omega) h3
      · omega
theorem downV_top {l : List Ver} {t : Int} : ∀ k, 0 < downV l t k → ∃ y, l[downV l t k - 1]? = some y ∧ ¬ t < y.1 ∨ l[downV l t k - 1]? = none
  | 0, h => by simp [downV] at h
  | k + 1, h => by
    unfold downV at h ⊢
    cases hk : l[k]? with
    | none => exact ⟨(0, 0), .inr (by simpa using hk)⟩
    | some z =>
      rw [hk] at h
      simp only at h ⊢
      split at h
      · rename_i hz
        rw [if_pos hz]
        exact downV_top k h
      · rename_i hz
        rw [if_neg hz]
        exact ⟨z, .inl ⟨by simpa using hk, hz⟩⟩
/-- A version at a time that is not there yet finds its place among rising ones. -/
theorem insAt_srt {l : List Ver} (hs : Srt l) {t v : Int} (hn : ∀ y ∈ l, y.1 ≠ t) : Srt (insAt l t v) := by
  unfold insAt Srt
  obtain ⟨k, hk⟩ : ∃ k, k = downV l t l.length := ⟨_, rfl⟩
  have hle : k ≤ l.length := by rw [hk]; exact downV_le l t l.length
  have hlow : ∀ (j : Nat) (y : Ver), k ≤ j → j < l.length → l[j]? = some y → t < y.1 := fun j y h1 h2 h3 => downV_low l.length j y (by rw [← hk]; exact h1) h2 h3
  have hup : ∀ y ∈ l.take k, y.1 < t := by
    intro y hy
    by_cases h0 : k = 0
    · subst h0; simp at hy
    · obtain ⟨z, hz⟩ := downV_top (l := l) (t := t) l.length (by rw [← hk]; omega)
      rw [← hk] at hz
      rcases hz with ⟨hz, hzt⟩ | hz
      · have hzm := List.mem_of_getElem? hz
        have hzn := hn z hzm
        have hzt' : z.1 < t := by omega
        obtain ⟨j, hj⟩ := List.mem_iff_getElem?.1 hy
        have hjk : j < k := by have := (List.getElem?_eq_some_iff.1 hj).1; rw [List.length_take] at this; omega
        rw [List.getElem?_take_of_lt hjk] at hj
        by_cases hjl : j = k - 1
        · subst hjl; rw [hz] at hj; cases hj; exact hzt'
        · have h1 := List.pairwise_iff_getElem.1 hs j (k - 1) (by omega) (by omega) (by omega)
          rw [List.getElem?_eq_getElem (by omega)] at hj hz
          have e1 := Option.some.inj hj
          have e2 := Option.some.inj hz
          rw [e1, e2] at h1
          omega
      · rw [List.getElem?_eq_none_iff] at hz; omega
  rw [← hk]
  refine List.pairwise_append.2 ⟨List.pairwise_append.2 ⟨hs.take, List.pairwise_singleton _ _, fun x hx y hy => ?_⟩, hs.drop, fun x hx y hy => ?_⟩
  · rw [List.mem_singleton.1 hy]; exact hup x hx
  · obtain ⟨j, hj⟩ := List.mem_iff_getElem?.1 hy
    rw [List.getElem?_drop] at hj
    have hty : t < y.1 := hlow (k + j) y (by omega) (List.getElem?_eq_some_iff.1 hj).1 hj
    rcases List.mem_append.1 hx with hx | hx
    · have := hup x hx; omega
    · rw [List.mem_singleton.1 hx]; exact hty
/-- One version a key and time. -/
def Uniq3 (vs : List Ver3) : Prop := vs.Pairwise (fun x y => ¬ (x.key = y.key ∧ x.at_ = y.at_))
theorem ofV_srt (key : Int) : ∀ (vs : List Ver3) (b : List Ver), Srt b → Uniq3 vs → (∀ v ∈ vs, v.key = key → ∀ y ∈ b, y.1 ≠ v.at_) → Srt (vs.foldl (ofStep key) b)
  | [], b, hb, _, _ => hb
  | v :: vs, b, hb, hu, hn => by
    rw [List.foldl_cons]
    have hu' := List.pairwise_cons.1 hu
    refine ofV_srt key vs _ ?_ hu'.2 (fun v' hv' hk y hy => ?_)
    · unfold ofStep
      split
      · rename_i hk
        exact insAt_srt hb (hn v List.mem_cons_self (by simpa using hk))
      · exact hb
    · unfold ofStep at hy
      split at hy
      · rename_i hkv
        rcases (insAt_mem _ _ _ _).1 hy with rfl | hy
        · intro e
          exact hu'.1 v' hv' ⟨by rw [hk]; simpa using hkv, e⟩
        · exact hn v' (List.mem_cons_of_mem _ hv') hk y hy
      · exact hn v' (List.mem_cons_of_mem _ hv') hk y hy
/-- Two rising rows with the same versions are one. -/
theorem srt_ext : ∀ {a b : List Ver}, Srt a → Srt b → (∀ p, p ∈ a ↔ p ∈ b) → a = b
  | [], [], _, _, _ => rfl
  | [], y :: b, _, _, h => by have := (h y).2 List.mem_cons_self; simp at this
  | x :: a, [], _, _, h => by have := (h x).1 List.mem_cons_self; simp at this
  | x :: a, y :: b, ha, hb, h => by
    have ha' := List.pairwise_cons.1 ha
    have hb' := List.pairwise_cons.1 hb
    have hxy : x = y := by
      rcases List.mem_cons.1 ((h x).1 List.mem_cons_self) with e | hx
      · exact e
      · rcases List.mem_cons.1 ((h y).2 List.mem_cons_self) with e | hy
        · exact e.symm
        · have h1 := ha'.1 y hy
          have h2 := hb'.1 x hx
          omega
    subst hxy
    congr 1
    refine srt_ext ha'.2 hb'.2 (fun p => ?_)
    constructor
    · intro hp
      rcases List.mem_cons.1 ((h p).1 (List.mem_cons_of_mem _ hp)) with rfl | h1
      · have := ha'.1 p hp; omega
      · exact h1
    · intro hp
      rcases List.mem_cons.1 ((h p).2 (List.mem_cons_of_mem _ hp)) with rfl | h1
      · have := hb'.1 p hp; omega
      · exact h1
theorem putV3_mem (vs : List Ver3) (key t v : Int) (x : Ver3) : x ∈ putV3 vs key t v ↔ x = ⟨key, t, v⟩ ∨ (x ∈ vs ∧ ¬ (x.key = key ∧ x.at_ = t)) := by
  unfold putV3
  simp only [List.mem_append, List.mem_filter, List.mem_singleton, Bool.or_eq_true, bne_iff_ne]
  constructor
  · rintro (⟨h1, h2⟩ | h)
    · exact .inr ⟨h1, fun ⟨a, b⟩ => by rcases h2 with h2 | h2 <;> contradiction⟩
    · exact .inl h
  · rintro (h | ⟨h1, h2⟩)
    · exact .inr h
    · refine .inl ⟨h1, ?_⟩
      by_cases hk : x.key = key
      · exact .inr fun e => h2 ⟨hk, e⟩
      · exact .inl hk
theorem putV3_uniq {vs : List Ver3} (h : Uniq3 vs) (key t v : Int) : Uniq3 (putV3 vs key t v) := by
  unfold putV3 Uniq3
  refine List.pairwise_append.2 ⟨h.filter _, List.pairwise_singleton _ _, fun x hx y hy => ?_⟩
  rw [List.mem_singleton.1 hy]
  have h2 := (List.mem_filter.1 hx).2
  simp only [Bool.or_eq_true, bne_iff_ne] at h2
  rintro ⟨a, b⟩
  rcases h2 with h2 | h2 <;> contradiction
theorem insV_mem_iff {y : Ver} {t v : Int} : ∀ {l : List Ver}, Srt l → (y ∈ insV l t v ↔ y = (t, v) ∨ (y ∈ l ∧ y.1 ≠ t))
  | [], _ => by simp [insV]
  | x :: l, h => by
    have h' := List.pairwise_cons.1 h
    unfold insV
    by_cases h1 : x.1 < t
    · rw [if_pos h1, List.mem_cons, insV_mem_iff h'.2, List.mem_cons]
      constructor
      · rintro (rfl | h2 | h2)
        · exact .inr ⟨.inl rfl, by omega⟩
        · exact .inl h2
        · exact .inr ⟨.inr h2.1, h2.2⟩
      · rintro (h2 | ⟨rfl | h2, h3⟩)
        · exact .inr (.inl h2)
        · exact .inl rfl
        · exact .inr (.inr ⟨h2, h3⟩)
    · rw [if_neg h1]
      by_cases h2 : x.1 = t
      · rw [if_pos h2, List.mem_cons, List.mem_cons]
        constructor
        · rintro (h3 | h3)
          · exact .inl h3
          · have := h'.1 y h3
            exact .inr ⟨.inr h3, by omega⟩
        · rintro (h3 | ⟨rfl | h3, h4⟩)
          · exact .inl h3
          · exact absurd h2 h4
          · exact .inr h3
      · rw [if_neg h2, List.mem_cons]
        constructor
        · rintro (h3 | h3)
          · exact .inl h3
          · refine .inr ⟨h3, ?_⟩
            rcases List.mem_cons.1 h3 with rfl | h4
            · exact h2
            · have := h'.1 y h4; omega
        · rintro (h3 | ⟨h3, _⟩)
          · exact .inl h3
          · exact .inr h3
theorem ofV_put {vs : List Ver3} (hu : Uniq3 vs) (k t v key : Int) : ofV (putV3 vs k t v) key = if k = key then insV (ofV vs key) t v else ofV vs key := by
  have hs : Srt (ofV vs key) := ofV_srt key vs [] List.Pairwise.nil hu (fun _ _ _ y hy => by cases hy)
  have hs' : Srt (ofV (putV3 vs k t v) key) := ofV_srt key _ [] List.Pairwise.nil (putV3_uniq hu k t v) (fun _ _ _ y hy => by cases hy)
  have hm : ∀ p : Ver, p ∈ ofV vs key ↔ ⟨key, p.1, p.2⟩ ∈ vs := fun p => by unfold ofV; rw [ofV_mem]; simp
  have hm' : ∀ p : Ver, p ∈ ofV (putV3 vs k t v) key ↔ ⟨key, p.1, p.2⟩ ∈ putV3 vs k t v := fun p => by unfold ofV; rw [ofV_mem]; simp
  split
  · rename_i hk
    subst hk
    refine srt_ext hs' (insV_srt hs) (fun p => ?_)
    rw [hm', putV3_mem, insV_mem_iff hs, hm]
    simp [Prod.ext_iff]
  · rename_i hk
    refine srt_ext hs' hs (fun p => ?_)
    rw [hm', putV3_mem, hm]
    constructor
    · rintro (h | h)
      · simp only [Ver3.mk.injEq] at h; exact absurd h.1.symm hk
      · exact h.1
    · intro h
      exact .inr ⟨h, fun e => hk e.1.symm⟩
theorem ofV_finW3 (e : EndM) : ∀ (ops : List GOp) (vs : List Ver3), Uniq3 vs → Uniq3 (finW3 e vs ops) ∧ ∀ key, ofV (finW3 e vs ops) key = if e.commit then finV e.at_ key ops (ofV vs key) else ofV vs key
  | [], vs, h => ⟨h, fun key => by cases e.commit <;> rfl⟩
  | o :: ops, vs, h => by
    show Uniq3 (finW3 e (if e.commit then putV3 vs o.key e.at_ o.val else vs) ops) ∧ ∀ key, ofV (finW3 e (if e.commit then putV3 vs o.key e.at_ o.val else vs) ops) key = _
    cases hc : e.commit with
    | false =>
      obtain ⟨h1, h2⟩ := ofV_finW3 e ops vs h
      refine ⟨h1, fun key => ?_⟩
      have := h2 key
      rw [hc] at this
      exact this
    | true =>
      obtain ⟨h1, h2⟩ := ofV_finW3 e ops (putV3 vs o.key e.at_ o.val) (putV3_uniq h _ _ _)
      refine ⟨h1, fun key => ?_⟩
      have := h2 key
      rw [hc, ofV_put h] at this
      exact this
end Go.Proofs.Ytdkkpkgfiodlbaa

/- Frames as functions: a loop or a cut whose relation forgets all slots but those it names, by one letter for the whole frame. Names no program. -/
namespace Go.Proofs.Ytdkkpkgfiodlbaa
open Go.RowKit
/-- A frame of n slots, slot by slot. -/
def frN (n : Nat) (f : Nat → Value) : Act := ⟨((List.range n).map f).toArray, []⟩
/-- What lies in the slots of a frame that is written out. -/
def slotsOf (l : List Value) : Nat → Value := fun i => (l[i]?).getD undef
theorem frN_of (n : Nat) (l : List Value) (h : l.length = n) : (⟨l.toArray, []⟩ : Act) = frN n (slotsOf l) := by
  have : (List.range n).map (slotsOf l) = l := by
    apply List.ext_getElem?
    intro i
    rw [List.getElem?_map]
    by_cases hi : i < n
    · rw [List.getElem?_range hi, Option.map_some]
      unfold slotsOf
      rw [List.getElem?_eq_getElem (by omega)]; rfl
    · rw [List.getElem?_eq_none (by simp; omega), List.getElem?_eq_none (by omega)]; rfl
  unfold frN; rw [this]

theorem wp_fr {P : Program} {c : Code} {Q : Exit → Act → World → Prop} {w : World} (n : Nat) (l : List Value) (hl : l.length = n) (h : c.wp P Q (frN n (slotsOf l)) w) : c.wp P Q ⟨l.toArray, []⟩ w := by
  rw [frN_of n l hl]; exact h

theorem wp_cutF {P : Program} {s : Code} {K : Act → World → Prop} {Q' : Exit → Act → World → Prop} {a : Act} {w : World} (n : Nat) (R : (Nat → Value) → World → Prop)
    (rest : ∀ f w', R f w' → K (frN n f) w')
    (first : ∀ (J K' : Act → World → Prop), (∀ (l : List Value) w', l.length = n → R (slotsOf l) w' → J ⟨l.toArray, []⟩ w') → (∀ a' w', Met J a' w' → K' a' w') → s.wp P (Exit.then K' Q') a w) : s.wp P (Exit.then K Q') a w :=
  wp_cut (fun a' w' => ∃ f, a' = frN n f ∧ R f w') (fun _ _ ⟨f, e, h⟩ => e ▸ rest f _ h)
    (fun J K' h1 h2 => first J K' (fun l w' hl hr => h1 _ _ ⟨_, frN_of n l hl, hr⟩) h2)

theorem wp_loopF {P : Program} {c : Code} {Q : Exit → Act → World → Prop} {w : World} (n : Nat) (R : Nat → (Nat → Value) → World → Prop) (l0 : List Value) (hl : l0.length = n) (m0 : Nat) (h0 : R m0 (slotsOf l0) w)
    (round : ∀ m f w, R m f w → ∀ (J : Nat → Act → World → Prop) (K : Act → World → Prop), (∀ k (l : List Value) w', l.length = n → R k (slotsOf l) w' → J k ⟨l.toArray, []⟩ w') → (∀ a' w', Handed J m a' w' → K a' w') → c.wp P (Exit.then K Q) (frN n f) w) : (Code.loop c).wp P Q ⟨l0.toArray, []⟩ w :=
  wp_loop_ghost_k (fun m a' w' => ∃ f, a' = frN n f ∧ R m f w') m0 ⟨_, frN_of n l0 hl, h0⟩
    (fun m a' w' ⟨f, e, h⟩ J K h1 h2 => e ▸ round m f w' h J K (fun k l w'' hl hr => h1 k _ _ ⟨_, frN_of n l hl, hr⟩) h2)

/-- What holds of the plain end; no other end. -/
def OnlyN (K : Act → World → Prop) : Exit → Act → World → Prop
  | .normal, a, w => K a w
  | _, _, _ => False
theorem wp_onlyN {P : Program} {c : Code} {K : Act → World → Prop} {Q : Exit → Act → World → Prop} {a : Act} {w : World} (h : c.wp P (OnlyN K) a w) (hK : ∀ a w, K a w → Q .normal a w) : c.wp P Q a w :=
  wp_mono h (fun e a w hq => by
    cases e with
    | normal => exact hK _ _ hq
    | exit id => exact hq.elim
    | goto l => exact hq.elim
    | ret => exact hq.elim
    | panic ch => exact hq.elim
    | outgrown => exact hq.elim)

section codes
def blockOf (n : Nat) : Code → Option Code
  | .block m c => if m = n then some (.block m c) else blockOf n c
  | .seq a b => match blockOf n a with
    | some c => some c
    | none => blockOf n b
  | .cond _ a b => match blockOf n a with
    | some c => some c
    | none => blockOf n b
  | .loop c => blockOf n c
  | .scope c => blockOf n c
  | _ => none
def endsIn (n : Nat) : Code → Bool
  | .block m _ => m == n
  | .seq _ b => endsIn n b
  | _ => false
/-- What follows a block in its sequence. -/
def afterBlock (n : Nat) : Code → Option Code
  | .seq a b => if endsIn n a then some b else match afterBlock n a with
    | some c => some c
    | none => afterBlock n b
  | .block _ c => afterBlock n c
  | .cond _ a b => match afterBlock n a with
    | some c => some c
    | none => afterBlock n b
  | .loop c => afterBlock n c
  | .scope c => afterBlock n c
  | _ => none
end codes
end Go.Proofs.Ytdkkpkgfiodlbaa
