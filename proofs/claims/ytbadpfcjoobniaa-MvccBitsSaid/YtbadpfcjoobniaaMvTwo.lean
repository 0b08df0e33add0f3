/- Two transactions that are in each other's way: never both done. No walk. -/
import Derived.Test.YtbadpfcjoobniaaMvHead
import Derived.Test.YtbadpfcjoobniaaMvRow
namespace Go.Proofs.Ytbadpfcjoobniaa
open Go.RowKit Go.Maps

/-- All versions of one key behind writes at one time, where there were none. -/
theorem finV_nil (t key : Int) : ∀ (ops : List GOp) (vs : List Ver), (vs = [] ∨ ∃ v, vs = [(t, v)]) → (finV t key ops vs = [] ∧ vs = [] ∧ ∀ o ∈ ops, o.key ≠ key) ∨ ∃ v, finV t key ops vs = [(t, v)]
  | [], vs, h => by
    rcases h with rfl | ⟨v, rfl⟩
    · exact .inl ⟨rfl, rfl, fun o ho => by cases ho⟩
    · exact .inr ⟨v, rfl⟩
  | o :: ops, vs, h => by
    have key1 : ∀ v, finV t key (o :: ops) v = finV t key ops (if o.key = key then insV v t o.val else v) := fun v => rfl
    rw [key1]
    by_cases ho : o.key = key
    · rw [if_pos ho]
      have hi : insV vs t o.val = [(t, o.val)] := by
        rcases h with rfl | ⟨v, rfl⟩
        · rfl
        · simp [insV]
      rw [hi]
      rcases finV_nil t key ops [(t, o.val)] (.inr ⟨_, rfl⟩) with ⟨_, h2, _⟩ | h2
      · cases h2
      · exact .inr h2
    · rw [if_neg ho]
      rcases finV_nil t key ops vs h with ⟨h1, h2, h3⟩ | h1
      · refine .inl ⟨h1, h2, fun x hx => ?_⟩
        rcases List.mem_cons.1 hx with rfl | hx
        · exact ho
        · exact h3 x hx
      · exact .inr h1
theorem finV_has {t key : Int} {ops : List GOp} (h : ∃ o ∈ ops, o.key = key) : ∃ v, finV t key ops [] = [(t, v)] := by
  rcases finV_nil t key ops [] (.inl rfl) with ⟨_, _, h3⟩ | h1
  · obtain ⟨o, ho, hk⟩ := h
    exact absurd hk (h3 o ho)
  · exact h1

/-- In each other's way. -/
structure Cross (serial : Bool) (a b : Rdy) : Prop where
  ta : a.txn = 1
  tb : b.txn = 2
  ab : wayB a (lookP serial 0) b = true
  ba : wayB b (lookP serial 0) a = true
  la : ∀ (t : Int) (K : KeysL), 10 < t → KFin [] K t a.writes → lostW K 0 b = true ∨ lostR K serial 0 b = true
  lb : ∀ (t : Int) (K : KeysL), 10 < t → KFin [] K t b.writes → lostW K 0 a = true ∨ lostR K serial 0 a = true

def pickR (a b : Rdy) (c : Int) : Rdy := if c = 1 then a else b
/-- What the store holds: nobody is done, and one waits at most; or one is done. -/
def TwoI (a b : Rdy) (d : Int) (K : KeysL) (R : RdyL) (E : EndL) : Prop :=
  (d = 0 ∧ K = [] ∧ E = [] ∧ (R = [] ∨ ∃ c wv rv, (c = 1 ∨ c = 2) ∧ R = [(c, ⟨wv, rv, pickR a b c⟩)])) ∨
  (d = 1 ∧ R = [] ∧ ∃ c t, (c = 1 ∨ c = 2) ∧ E = [(c, ⟨c, true, t⟩)] ∧ 10 < t ∧ KFin [] K t (pickR a b c).writes)

theorem two_prep {serial : Bool} {a b : Rdy} (hc : Cross serial a b) {d : Int} {K : KeysL} {R : RdyL} {E : EndL} (h : TwoI a b d K R E) {c by_ err : Int} (hcc : c = 1 ∨ c = 2) {R' : RdyL} (hp : PrepM serial 0 K R E (pickR a b c) by_ err R') : TwoI a b d K R' E := by
  have ht : (pickR a b c).txn = c := by rcases hcc with rfl | rfl; exact hc.ta; exact hc.tb
  rcases h with ⟨rfl, rfl, rfl, hR⟩ | ⟨rfl, rfl, c2, t, hc2, rfl, htt, hk⟩
  · rcases hp with ⟨h, _⟩ | ⟨_, _, _, _, rfl⟩ | ⟨_, _, _, _, _, rfl⟩ | ⟨_, hn, _, _, id, ok, hb, h⟩
    · cases h
    · exact .inl ⟨rfl, rfl, rfl, hR⟩
    · exact .inl ⟨rfl, rfl, rfl, hR⟩
    · rcases h with ⟨_, _, _, _, rfl⟩ | ⟨hno, _, _, wv, rv, rfl⟩
      · exact .inl ⟨rfl, rfl, rfl, hR⟩
      · rcases hR with rfl | ⟨c2, wv2, rv2, hc2, rfl⟩
        · exact .inl ⟨rfl, rfl, rfl, .inr ⟨c, wv, rv, hcc, by rw [ht]; rfl⟩⟩
        · exfalso
          have hne : c2 ≠ c := by
            rintro rfl
            rw [ht] at hn
            simp [getM] at hn
          have hway : wayB (pickR a b c) (lookP serial 0) (pickR a b c2) = true := by
            rcases hcc with rfl | rfl <;> rcases hc2 with rfl | rfl
            · exact absurd rfl hne
            · exact hc.ab
            · exact hc.ba
            · exact absurd rfl hne
          rcases hno with hno | hno
          · subst hno
            rcases hb with ⟨_, hb⟩ | ⟨x, _, _, _, hb, _⟩
            · have := hb _ (List.mem_singleton.2 rfl) (by rw [ht]; exact hne)
              have h2 : wayB (pickR a b c) (lookP serial 0) (pickR a b c2) = false := this
              rw [hway] at h2; cases h2
            · cases hb
          · rw [off_1] at hno; cases hno
  · have hlost : c ≠ c2 → lostW K 0 (pickR a b c) = true ∨ lostR K serial 0 (pickR a b c) = true := fun hne => by
      rcases hcc with rfl | rfl <;> rcases hc2 with rfl | rfl
      · exact absurd rfl hne
      · exact hc.lb t K htt hk
      · exact hc.la t K htt hk
      · exact absurd rfl hne
    have keep : TwoI a b 1 K [] [(c2, ⟨c2, true, t⟩)] := .inr ⟨rfl, rfl, c2, t, hc2, rfl, htt, hk⟩
    rcases hp with ⟨_, _, _, rfl⟩ | ⟨_, _, _, _, rfl⟩ | ⟨_, _, _, _, _, rfl⟩ | ⟨he, _, h1, h2, _⟩
    · exact keep
    · exact keep
    · exact keep
    · exfalso
      have hne : c ≠ c2 := by
        rintro rfl
        rw [ht] at he
        simp [getM] at he
      rcases hlost hne with h | h
      · rw [h] at h1; cases h1
      · rw [h] at h2; cases h2
theorem two_fin {a b : Rdy} {K : KeysL} {R : RdyL} {E : EndL} {c t : Int} {wv rv : Value} (hcc : c = 1 ∨ c = 2) (ht : 10 < t) (h : FinM [] [(c, ⟨wv, rv, pickR a b c⟩)] [] ⟨c, true, t⟩ K R E) : TwoI a b 1 K R E := by
  rcases h with ⟨h, _⟩ | ⟨_, rfl, rfl, hk⟩
  · cases h
  · refine .inr ⟨rfl, by simp [delM], c, t, hcc, rfl, ht, ?_⟩
    have : writesOf [(c, (⟨wv, rv, pickR a b c⟩ : RV))] ⟨c, true, t⟩ = (pickR a b c).writes := by simp [writesOf, getM]
    rw [this] at hk
    exact hk
/-- Who waits, where one waits at most. -/
theorem waits_one {c : Int} {y : RV} {l : List Rdy} (h : WaitsM [(c, y)] l) : l = [y.r] := by
  obtain ⟨ks, hp, _, rfl⟩ := h
  have : ks = [c] := List.perm_singleton.1 (by simpa using hp)
  subst this
  simp [getM]
theorem waits_none {l : List Rdy} (h : WaitsM [] l) : l = [] := by
  obtain ⟨ks, hp, _, rfl⟩ := h
  have : ks = [] := List.perm_nil.1 (by simpa using hp)
  subst this; rfl
theorem two_mem {a b : Rdy} {d : Int} {K : KeysL} {R : RdyL} {E : EndL} (h : TwoI a b d K R E) {y : Int × RV} (hy : y ∈ R) : ∃ c, (c = 1 ∨ c = 2) ∧ y.1 = c ∧ y.2.r = pickR a b c := by
  rcases h with ⟨_, _, _, hR⟩ | ⟨_, rfl, _⟩
  · rcases hR with rfl | ⟨c, wv, rv, hc, rfl⟩
    · cases hy
    · simp at hy; subst hy; exact ⟨c, hc, rfl, rfl⟩
  · cases hy
theorem two_srt {a b : Rdy} {d : Int} {K : KeysL} {R : RdyL} {E : EndL} (h : TwoI a b d K R E) : ∀ key, Srt (verOf K key) := fun key => by
  rcases h with ⟨_, rfl, _⟩ | ⟨_, _, c, t, _, _, _, hk⟩
  · exact List.Pairwise.nil
  · rw [hk key]; exact finV_srt _ _ _ _ List.Pairwise.nil
theorem two_len {a b : Rdy} {d : Int} {K : KeysL} {R : RdyL} {E : EndL} (h : TwoI a b d K R E) (key : Int) : (verOf K key).length ≤ 1 ∧ (d = 0 → (verOf K key).length = 0) ∧ (d = 1 → (∃ o ∈ a.writes, o.key = key) → (∃ o ∈ b.writes, o.key = key) → (verOf K key).length = 1) ∧ R.length ≤ 1 ∧ (d = 0 ∨ d = 1) := by
  rcases h with ⟨rfl, rfl, _, hR⟩ | ⟨rfl, rfl, c, t, hc, _, _, hk⟩
  · refine ⟨by simp [verOf, curK, getM, nilK], fun _ => by simp [verOf, curK, getM, nilK], (fun h => absurd h (by decide)), ?_, .inl rfl⟩
    rcases hR with rfl | ⟨c, wv, rv, _, rfl⟩ <;> simp
  · rw [hk key]
    have h0 : verOf ([] : KeysL) key = [] := rfl
    rw [h0]
    refine ⟨?_, (fun h => absurd h (by decide)), fun _ h1 h2 => ?_, by simp, .inr rfl⟩
    · rcases finV_nil t key (pickR a b c).writes [] (.inl rfl) with ⟨h, _⟩ | ⟨v, h⟩ <;> rw [h] <;> simp
    · obtain ⟨v, h⟩ := finV_has (t := t) (show ∃ o ∈ (pickR a b c).writes, o.key = key by rcases hc with rfl | rfl; exact h1; exact h2)
      rw [h]; rfl

theorem later_one {K : KeysL} {t key : Int} {ops : List GOp} (hk : KFin [] K t ops) (ht : 10 < t) (ho : ∃ o ∈ ops, o.key = key) : laterB (verOf K key) 10 = true := by
  rw [hk key]
  have h0 : verOf ([] : KeysL) key = [] := rfl
  rw [h0]
  obtain ⟨v, h⟩ := finV_has (t := t) ho
  rw [h]
  simp [laterB]; exact ht
/-- Two that write one key. -/
theorem cross_first (serial : Bool) (a b : Rdy) (key : Int) (h1 : a.txn = 1) (h2 : b.txn = 2) (sa : a.start = 10) (sb : b.start = 10) (wa : ∃ o ∈ a.writes, o.key = key) (wb : ∃ o ∈ b.writes, o.key = key) : Cross serial a b := by
  have wri : ∀ x : Rdy, (∃ o ∈ x.writes, o.key = key) → writesB x key = true := fun x ⟨o, ho, hk⟩ => by
    unfold writesB; rw [List.any_eq_true]; exact ⟨o, ho, by simp [keyB, hk]⟩
  have way : ∀ (x y : Rdy) (look : Bool), (∃ o ∈ x.writes, o.key = key) → (∃ o ∈ y.writes, o.key = key) → wayB x look y = true := fun x y look ⟨o, ho, hk⟩ hy => by
    unfold wayB
    rw [Bool.or_eq_true, List.any_eq_true]
    exact .inl ⟨o, ho, by unfold wayO; rw [hk, wri y hy]; rfl⟩
  have lost : ∀ (x y : Rdy) (t : Int) (K : KeysL), y.start = 10 → (∃ o ∈ x.writes, o.key = key) → (∃ o ∈ y.writes, o.key = key) → 10 < t → KFin [] K t x.writes → lostW K 0 y = true := fun x y t K hs hx ⟨o, ho, hk⟩ ht hf => by
    unfold lostW
    rw [off_1, Bool.true_and, List.any_eq_true]
    exact ⟨o, ho, by rw [hk, hs]; exact later_one hf ht hx⟩
  exact ⟨h1, h2, way a b _ wa wb, way b a _ wb wa, fun t K ht hk => .inl (lost a b t K sb wa wb ht hk), fun t K ht hk => .inl (lost b a t K sa wb wa ht hk)⟩
/-- Two, each of whom has read what the other one writes, at Serial. -/
theorem cross_serial (a b : Rdy) (k1 k2 : Int) (h1 : a.txn = 1) (h2 : b.txn = 2) (sa : a.start = 10) (sb : b.start = 10) (ra : k1 ∈ a.reads) (wa : ∃ o ∈ a.writes, o.key = k2) (rb : k2 ∈ b.reads) (wb : ∃ o ∈ b.writes, o.key = k1) : Cross true a b := by
  have hl : lookP true 0 = true := by unfold lookP; rw [off_4]; rfl
  have way : ∀ (x y : Rdy) (k : Int), (∃ o ∈ x.writes, o.key = k) → k ∈ y.reads → wayB x true y = true := fun x y k ⟨o, ho, hk⟩ hy => by
    unfold wayB
    rw [Bool.or_eq_true, List.any_eq_true]
    refine .inl ⟨o, ho, ?_⟩
    unfold wayO
    rw [Bool.or_eq_true]
    exact .inr (by rw [Bool.true_and, List.any_eq_true]; exact ⟨k, hy, by simp [hk]⟩)
  have lost : ∀ (x y : Rdy) (k t : Int) (K : KeysL), y.start = 10 → (∃ o ∈ x.writes, o.key = k) → k ∈ y.reads → 10 < t → KFin [] K t x.writes → lostR K true 0 y = true := fun x y k t K hs hx hy ht hf => by
    unfold lostR
    rw [hl, Bool.true_and, List.any_eq_true]
    exact ⟨k, hy, by rw [hs]; exact later_one hf ht hx⟩
  exact ⟨h1, h2, by rw [hl]; exact way a b k2 wa rb, by rw [hl]; exact way b a k1 wb ra, fun t K ht hk => .inr (lost a b k2 t K sb wa rb ht hk), fun t K ht hk => .inr (lost b a k1 t K sa wb ra ht hk)⟩
end Go.Proofs.Ytbadpfcjoobniaa
