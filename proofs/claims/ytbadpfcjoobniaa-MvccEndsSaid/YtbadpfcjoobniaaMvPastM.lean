/- What was read once is read so for ever: the plain law. No walk. -/
import Derived.Test.YtbadpfcjoobniaaMvBig
namespace Go.Proofs.Ytbadpfcjoobniaa
open Go.RowKit Go.Maps

theorem find_rev {α : Type} (p : α → Bool) (l : List α) : l.reverse.find? p = (l.filter p).getLast? := by
  induction l with
  | nil => rfl
  | cons x l ih =>
    rw [List.reverse_cons, List.find?_append, ih, List.filter_cons]
    by_cases hx : p x = true
    · rw [if_pos hx]
      cases h : (l.filter p).getLast? with
      | none =>
        have : l.filter p = [] := by simpa using h
        rw [this]; simp [hx]
      | some y => simp [List.getLast?_cons, h]
    · rw [if_neg hx]; simp [hx]
theorem valAt_eq (vs : List Ver) (t : Int) : valAt vs t = (((vs.filter (fun x => decide (x.1 ≤ t))).getLast?).map (·.2)).getD 0 := by
  unfold valAt revL
  rw [find_rev]
  have h : (vs.zipIdx.map (fun p => (p.2, p.1))).filter (fun p : Nat × Ver => decide (p.2.1 ≤ t)) = (vs.zipIdx.filter (fun p => decide (p.1.1 ≤ t))).map (fun p => (p.2, p.1)) := by
    rw [List.filter_map]; rfl
  rw [h, List.getLast?_map]
  have h2 : vs.filter (fun x => decide (x.1 ≤ t)) = (vs.zipIdx.filter (fun p => decide (p.1.1 ≤ t))).map (·.1) := by
    conv => lhs; rw [← List.zipIdx_map_fst 0 vs]
    rw [List.filter_map]; rfl
  rw [h2, List.getLast?_map]
  cases (vs.zipIdx.filter (fun p => decide (p.1.1 ≤ t))).getLast? <;> rfl
theorem filter_ins : ∀ (vs : List Ver) (t a v : Int), a < t → (insV vs t v).filter (fun x => decide (x.1 ≤ a)) = vs.filter (fun x => decide (x.1 ≤ a))
  | [], t, a, v, h => by
    have : ¬ t ≤ a := by omega
    simp [insV, this]
  | x :: vs, t, a, v, h => by
    have hn : ¬ t ≤ a := by omega
    have ih := filter_ins vs t a v h
    unfold insV
    split
    · rw [List.filter_cons, List.filter_cons, ih]
    · split
      · rename_i h1 h2
        have : ¬ x.1 ≤ a := by omega
        simp [List.filter_cons, hn, this]
      · simp [List.filter_cons, hn]
theorem valAt_fin (t a key : Int) (h : a < t) : ∀ (ops : List GOp) (vs : List Ver), valAt (finV t key ops vs) a = valAt vs a
  | [], vs => rfl
  | o :: ops, vs => by
    have e : finV t key (o :: ops) vs = finV t key ops (if o.key = key then insV vs t o.val else vs) := rfl
    rw [e, valAt_fin t a key h ops]
    split
    · rw [valAt_eq, valAt_eq, filter_ins vs t a o.val h]
    · rfl
theorem finV_other (t key : Int) : ∀ (ops : List GOp) (vs : List Ver), (∀ o ∈ ops, o.key ≠ key) → finV t key ops vs = vs
  | [], vs, _ => rfl
  | o :: ops, vs, h => by
    have e : finV t key (o :: ops) vs = finV t key ops (if o.key = key then insV vs t o.val else vs) := rfl
    rw [e, if_neg (h o (by simp)), finV_other t key ops vs (fun x hx => h x (by simp [hx]))]

/-- One who waits, as the law lets in. -/
structure SmallR (r : Rdy) : Prop where
  ws : r.writes.length ≤ 20
  rs : r.reads.length ≤ 20
  key : ∀ o ∈ r.writes, i64 o.key
  txn : i64 r.txn
  ne : r.txn ≠ -1
/-- What holds between two steps: n steps are over. -/
structure PastI (n : Nat) (known : Bool) (was key a : Int) (K : KeysL) (R : RdyL) : Prop where
  srt : ∀ k, Srt (verOf K k)
  len : ∀ k, (verOf K k).length ≤ 20 * n
  rlen : R.length ≤ n
  small : ∀ y ∈ R, SmallR y.2.r ∧ y.1 = y.2.r.txn
  val : known = true → valAt (verOf K key) a = was
  free : known = true → ∀ y ∈ R, writesB y.2.r key = true → ¬ y.2.r.start < a
theorem PastI.start (key a : Int) : PastI 0 false 0 key a [] [] :=
  ⟨fun _ => List.Pairwise.nil, fun _ => by simp [verOf, curK, getM, nilK], by simp, (fun y hy => by cases hy), (fun h => by cases h), (fun h => by cases h)⟩
theorem PastI.more {n : Nat} {known : Bool} {was key a : Int} {K : KeysL} {R : RdyL} (h : PastI n known was key a K R) : PastI (n + 1) known was key a K R :=
  ⟨h.srt, fun k => by have := h.len k; omega, by have := h.rlen; omega, h.small, h.val, h.free⟩
theorem past_prep {n : Nat} {known serial : Bool} {was key a bugs : Int} {K : KeysL} {R : RdyL} {E : EndL} (h : PastI n known was key a K R) {r : Rdy} (hr : SmallR r) (hk : known = true → ¬ r.start < a) {by_ err : Int} {R' : RdyL} (hp : PrepM serial bugs K R E r by_ err R') : PastI (n + 1) known was key a K R' := by
  have hput : ∀ wv rv, PastI (n + 1) known was key a K (putM R r.txn ⟨wv, rv, r⟩) := fun wv rv => by
    refine ⟨h.srt, fun k => by have := h.len k; omega, ?_, fun y hy => ?_, h.val, fun hkn y hy hw => ?_⟩
    · rw [putM_length]; have := h.rlen; split <;> omega
    · rcases mem_putM hy with rfl | hy
      · exact ⟨hr, rfl⟩
      · exact h.small y hy
    · rcases mem_putM hy with rfl | hy
      · exact hk hkn
      · exact h.free hkn y hy hw
  rcases hp with ⟨_, _, _, rfl⟩ | ⟨_, _, _, _, rfl⟩ | ⟨_, _, _, _, _, rfl⟩ | ⟨_, _, _, _, id, ok, _, h2⟩
  · exact h.more
  · exact h.more
  · exact h.more
  · rcases h2 with ⟨_, _, _, _, rfl⟩ | ⟨_, _, _, wv, rv, rfl⟩
    · exact h.more
    · exact hput wv rv
theorem past_fin {n : Nat} {known : Bool} {was key a : Int} {K : KeysL} {R : RdyL} {E : EndL} (h : PastI n known was key a K R) {e : EndM} (he : ∀ y, getM R e.txn = some y → y.r.start < e.at_) {K' : KeysL} {R' : RdyL} {E' : EndL} (hf : FinM K R E e K' R' E') : PastI (n + 1) known was key a K' R' := by
  rcases hf with ⟨_, rfl, rfl, _⟩ | ⟨_, rfl, _, hk⟩
  · exact h.more
  · have hw : (writesOf R e).length ≤ 20 := by
      unfold writesOf
      split
      · cases hg : getM R e.txn with
        | none => simp
        | some y => exact (h.small _ (getM_some hg)).1.ws
      · simp
    refine ⟨fun k => by rw [hk k]; exact finV_srt _ _ _ _ (h.srt k), fun k => ?_, ?_, fun y hy => h.small y (mem_delM hy), fun hkn => ?_, fun hkn y hy => h.free hkn y (mem_delM hy)⟩
    · rw [hk k]
      have := finV_len e.at_ k (writesOf R e) (verOf K k)
      have := h.len k
      omega
    · have : (delM R e.txn).length ≤ R.length := List.length_filter_le _ _
      have := h.rlen; omega
    · rw [hk key, ← h.val hkn]
      unfold writesOf
      split
      · cases hg : getM R e.txn with
        | none => rfl
        | some y =>
          by_cases hw : writesB y.r key = true
          · exact valAt_fin _ _ _ (by have := h.free hkn _ (getM_some hg) hw; have := he y hg; simp only at *; omega) _ _
          · rw [finV_other]
            intro o ho hok
            apply hw
            unfold writesB
            rw [List.any_eq_true]
            exact ⟨o, ho, by simp [keyB, hok]⟩
      · rfl
theorem past_read {n : Nat} {known : Bool} {was key a : Int} {K : KeysL} {R : RdyL} (h : PastI n known was key a K R) {v by_ err : Int} (hr : ReadM K R 0 (-1) key a v by_ err) :
    (err = 0 ∧ (known = true → v = was) ∧ PastI (n + 1) true v key a K R) ∨ (err = 60 ∧ known = false ∧ by_ ≠ -1) := by
  obtain ⟨id, ok, hb, h2⟩ := hr
  have hne : ∀ y ∈ R, y.1 ≠ -1 := fun y hy => by have := h.small y hy; rw [this.2]; exact this.1.ne
  rcases hb with ⟨hb, hn⟩ | ⟨x, hx, hxn, hq, he, _⟩
  · cases hb
    rcases h2 with ⟨h2, _⟩ | ⟨_, rfl, _, rfl⟩
    · cases h2
    · refine .inl ⟨rfl, fun hkn => h.val hkn, ⟨h.srt, fun k => by have := h.len k; omega, by have := h.rlen; omega, h.small, fun _ => rfl, fun _ y hy hw hs => ?_⟩⟩
      have := hn y hy (hne y hy)
      simp [hw, hs] at this
  · cases he
    rcases h2 with ⟨_, _, _, rfl, rfl⟩ | ⟨h2, _⟩
    · refine .inr ⟨rfl, ?_, hne x hx⟩
      cases hkn : known with
      | false => rfl
      | true =>
        rw [Bool.and_eq_true] at hq
        have := h.free hkn x hx hq.1
        simp at hq
        exact absurd hq.2 this
    · rcases h2 with h2 | h2
      · cases h2
      · rw [off_2] at h2; cases h2
/-- .. with its number among those who wait: the one that the map holds. -/
theorem waits_at {R : RdyL} {l : List Rdy} (h : WaitsM R l) (hs : ∀ y ∈ R, y.1 = y.2.r.txn) (hp : R.Pairwise (fun p q => p.1 ≠ q.1)) {x : Rdy} (hx : x ∈ l) : ∃ y, getM R x.txn = some y ∧ y.r = x := by
  obtain ⟨ks, hk, _, rfl⟩ := h
  obtain ⟨k, hkm, rfl⟩ := List.mem_map.1 hx
  obtain ⟨y, hy, rfl⟩ := List.mem_map.1 (hk.mem_iff.1 hkm)
  have hg : getM R y.1 = some y.2 := by
    cases hg : getM R y.1 with
    | none => exact absurd rfl (getM_none.1 hg y hy)
    | some z =>
      have hz := getM_some hg
      obtain ⟨i, hi⟩ := List.mem_iff_getElem?.1 hy
      obtain ⟨j, hj⟩ := List.mem_iff_getElem?.1 hz
      obtain ⟨i1, i2⟩ := List.getElem?_eq_some_iff.1 hi
      obtain ⟨j1, j2⟩ := List.getElem?_eq_some_iff.1 hj
      rcases Nat.lt_trichotomy i j with h3 | h3 | h3
      · exact absurd (by rw [i2, j2]) (List.pairwise_iff_getElem.1 hp i j i1 j1 h3)
      · subst h3; rw [hi] at hj
        have h4 := congrArg Prod.snd (Option.some.inj hj)
        rw [h4]
      · exact absurd (by rw [i2, j2]) (List.pairwise_iff_getElem.1 hp j i j1 i1 h3)
  rw [hg]
  simp only [Option.getD_some]
  rw [← hs y hy, hg]
  exact ⟨y.2, rfl, rfl⟩
theorem waits_all {R : RdyL} {l : List Rdy} (h : WaitsM R l) {k : Int} {y : RV} (hg : getM R k = some y) : y.r ∈ l := by
  obtain ⟨ks, hk, _, rfl⟩ := h
  exact List.mem_map.2 ⟨k, hk.mem_iff.2 (List.mem_map.2 ⟨_, getM_some hg, rfl⟩), by rw [hg]; rfl⟩
end Go.Proofs.Ytbadpfcjoobniaa
