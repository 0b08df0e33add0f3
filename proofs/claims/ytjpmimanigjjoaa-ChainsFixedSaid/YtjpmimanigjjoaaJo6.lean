/- Texts of one proof, one behind the other: SureEq, Fact, Get, Is, Next, Some. -/
import Derived.Test.YtjpmimanigjjoaaJo5
import Derived.Test.YtjpmimanigjjoaaJo4
set_option linter.all false
/- flaws.Sure and its reference say the same of transactions whose written values are all different. Names no function. -/
namespace Go.Proofs.Ytjpmimanigjjoaa
open Go.RowKit Go.Maps

theorem foldBy_any (n : Nat) (key val : Int) : ∀ (l : List GOp) (L : ByL), getM (l.foldl (stepBy n) L) (key, val) = if l.any (wroteB key val) then some (n : Int) else getM L (key, val) := by
  intro l
  induction l with
  | nil => intro L; rfl
  | cons o l ih =>
    intro L
    rw [List.foldl_cons, ih, List.any_cons]
    cases h1 : l.any (wroteB key val)
    · simp only [Bool.or_false, Bool.false_eq_true, if_false]
      unfold stepBy wroteB
      by_cases hk : o.kind = 2
      · rw [if_pos hk, getM_put]
        by_cases h2 : o.key = key <;> by_cases h3 : o.val = val <;> simp [hk, h2, h3]
      · simp [hk]
    · simp

theorem byN_none {ts : List GTxn} {key val : Int} : ∀ n, n ≤ ts.length → (∀ (j : Nat) (u : GTxn), j < n → ts[j]? = some u → u.ops.any (wroteB key val) = false) → getM (byN ts n) (key, val) = none := by
  intro n
  induction n with
  | zero => intro _ _; rfl
  | succ n ih =>
    intro hn h
    obtain ⟨t, ht⟩ := some_at hn
    rw [byN_succ ht, foldBy_any, h n t (by omega) ht]
    exact ih (by omega) fun j u hj hu => h j u (by omega) hu
theorem byN_one {ts : List GTxn} {key val : Int} {i : Nat} {t : GTxn} (ht : ts[i]? = some t) (hh : t.ops.any (wroteB key val) = true) :
    ∀ n, n ≤ ts.length → i < n → (∀ (j : Nat) (u : GTxn), j ≠ i → ts[j]? = some u → u.ops.any (wroteB key val) = false) → getM (byN ts n) (key, val) = some (i : Int) := by
  intro n
  induction n with
  | zero => intro _ h; omega
  | succ n ih =>
    intro hn hi h
    obtain ⟨u, hu⟩ := some_at hn
    rw [byN_succ hu, foldBy_any]
    by_cases he : n = i
    · subst he
      rw [ht] at hu; cases hu
      rw [hh]; rfl
    · rw [h n u he hu]
      exact ih (by omega) (by omega) h

theorem wrote_val {key val : Int} {l : List GOp} (h : l.any (wroteB key val) = true) : ∃ o ∈ l, o.kind = 2 ∧ o.val = val := by
  rw [List.any_eq_true] at h
  obtain ⟨o, ho, hh⟩ := h
  simp [wroteB] at hh
  exact ⟨o, ho, hh.1.1, hh.2⟩

/-- Both ways to name who wrote a value to a key. -/
theorem by_writer {ts : List GTxn} (hu : Uniq ts) (key val : Int) : (getM (byN ts ts.length) (key, val) = none ∧ writerM ts key val = -1) ∨ ∃ (i : Nat) (t : GTxn), ts[i]? = some t ∧ getM (byN ts ts.length) (key, val) = some (i : Int) ∧ writerM ts key val = i := by
  by_cases h : ∃ (i : Nat) (t : GTxn), ts[i]? = some t ∧ t.ops.any (wroteB key val) = true
  · obtain ⟨i, t, ht, hh⟩ := h
    have hno : ∀ (j : Nat) (u : GTxn), j ≠ i → ts[j]? = some u → u.ops.any (wroteB key val) = false := by
      intro j u hj hju
      cases hc : u.ops.any (wroteB key val) with
      | false => rfl
      | true =>
        obtain ⟨o, ho, hk, hv⟩ := wrote_val hh
        obtain ⟨p, hp, hk', hv'⟩ := wrote_val hc
        exact absurd (hu j i u t hju ht p hp o ho hk' hk (by rw [hv, hv'])) hj
    have hlt := (List.getElem?_eq_some_iff.1 ht).1
    exact .inr ⟨i, t, ht, byN_one ht hh _ (Nat.le_refl _) hlt hno, writerM_at ht hh fun j u hj hju => hno j u (by omega) hju⟩
  · have hno : ∀ (j : Nat) (u : GTxn), ts[j]? = some u → u.ops.any (wroteB key val) = false := by
      intro j u hju
      cases hc : u.ops.any (wroteB key val) with
      | false => rfl
      | true => exact absurd ⟨j, u, hju, hc⟩ h
    exact .inl ⟨byN_none _ (Nat.le_refl _) fun j u _ hju => hno j u hju, writerM_none hno⟩

theorem getB_set (L : List Bool) (j i : Nat) (b : Bool) (hi : i < L.length) : ((L.set j b)[i]?).getD false = if j = i then b else (L[i]?).getD false := by
  rw [List.getElem?_set]
  by_cases h : j = i
  · subst h; simp [hi]
  · simp [h]

theorem sureR_at {ts : List GTxn} (hu : Uniq ts) (L : List Bool) (o : GOp) (i : Nat) (hi : i < L.length) (_hl : L.length = ts.length) :
    ((sureR (byN ts ts.length) ts L o)[i]?).getD false = ((L[i]?).getD false || hitS ts (stOf ts i) i o) := by
  unfold sureR hitS
  rcases by_writer hu o.key o.val with ⟨h1, h2⟩ | ⟨j, t, hj, h1, h2⟩
  · rw [h1, h2]
    have : ((-1 : Int) == (i : Int)) = false := by rw [beq_eq_false_iff_ne]; omega
    simp [this]
  · rw [h1, h2]
    simp only [Int.toNat_natCast, hj, Option.map_some]
    by_cases hji : j = i
    · subst hji
      have hst : stOf ts j = t.state := by simp [stOf, hj]
      rw [hst]
      by_cases hv : o.val = 0 <;> by_cases hs : t.state = 0
      · simp [hv]
      · simp [hv]
      · rw [if_pos ⟨hv, by rw [hs]⟩, getB_set _ _ _ _ hi]; simp [hv, hs]
      · rw [if_neg (fun h => hs (by simpa using h.2))]; simp [hs]
    · have : ((j : Int) == (i : Int)) = false := by rw [beq_eq_false_iff_ne]; omega
      rw [this, Bool.and_false, Bool.or_false]
      split
      · rw [getB_set _ _ _ _ hi, if_neg hji]
      · rfl

theorem foldR_at {ts : List GTxn} (hu : Uniq ts) (i : Nat) : ∀ (l : List GOp) (L : List Bool), i < L.length → L.length = ts.length →
    ((l.foldl (sureR (byN ts ts.length) ts) L)[i]?).getD false = ((L[i]?).getD false || l.any (hitS ts (stOf ts i) i)) := by
  intro l
  induction l with
  | nil => intro L _ _; simp
  | cons o l ih =>
    intro L hi hl
    rw [List.foldl_cons, ih _ (by rw [sureR_length]; exact hi) (by rw [sureR_length]; exact hl), sureR_at hu L o i hi hl, List.any_cons, Bool.or_assoc]

theorem sureN_at {ts : List GTxn} (hu : Uniq ts) (i : Nat) (hi : i < ts.length) : ∀ n, n ≤ ts.length →
    ((sureN ts n)[i]?).getD false = ((decide (i < n) && stOf ts i == 1) || (ts.take n).any (hitT ts (stOf ts i) i)) := by
  intro n
  induction n with
  | zero => intro _; simp [sureN, hi]
  | succ n ih =>
    intro hn
    obtain ⟨t, ht⟩ := some_at hn
    have hl := sureN_length ts n (by omega)
    rw [sureN_succ ht]; unfold sureT
    rw [foldR_at hu i _ _ (by rw [List.length_set, hl]; exact hi) (by rw [List.length_set, hl]), getB_set _ _ _ _ (by rw [hl]; exact hi), take_at ht, List.any_append]
    simp only [List.any_cons, List.any_nil, Bool.or_false]
    rw [show (readsM t).any (hitS ts (stOf ts i) i) = hitT ts (stOf ts i) i t from rfl, ← Bool.or_assoc]
    congr 1
    by_cases h : n = i
    · subst h
      rw [if_pos rfl, ih (by omega)]
      have hst : stOf ts n = t.state := by simp [stOf, ht]
      simp only [hst, Nat.lt_irrefl, decide_false, Bool.false_and, Bool.false_or, Nat.lt_succ_self, decide_true, Bool.true_and]
      exact Bool.or_comm _ _
    · rw [if_neg h, ih (by omega)]
      have : decide (i < n) = decide (i < n + 1) := by rw [decide_eq_decide]; omega
      rw [this]

/-- Both ways to say who must have been done. -/
theorem sure_eq {ts : List GTxn} (hu : Uniq ts) : sureM ts = refSureN ts ts.length := by
  apply List.ext_getElem?
  intro i
  by_cases hi : i < ts.length
  · have h1 := sureN_at hu i hi ts.length (Nat.le_refl _)
    have hl : i < (sureM ts).length := by rw [sureM_length]; exact hi
    have hl2 : i < (refSureN ts ts.length).length := by rw [refSureN_length]; exact hi
    rw [List.getElem?_eq_getElem hl, List.getElem?_eq_getElem hl2]
    have h2 : (sureN ts ts.length)[i]? = some (sureM ts)[i] := List.getElem?_eq_getElem hl
    rw [h2] at h1
    simp only [Option.getD_some, List.take_length, hi, decide_true, Bool.true_and] at h1
    rw [h1]
    simp [refSureN, refSure1]
  · rw [List.getElem?_eq_none (by rw [sureM_length]; omega), List.getElem?_eq_none (by rw [refSureN_length]; omega)]

theorem choices_eq {ts : List GTxn} (hu : Uniq ts) : choicesM ts = refChoicesM ts := by unfold choicesM refChoicesM; rw [sure_eq hu]
end Go.Proofs.Ytjpmimanigjjoaa

/- Facts: choices with what is said of them, as a map and as a list. Names no function. -/
namespace Go.Proofs.Ytjpmimanigjjoaa
open Go.RowKit Go.Maps

deriving instance DecidableEq for GChoice

theorem choiceKeyed : Keyed Try.prog 43 := Keyed.of_law (deep_law_laid laidOutP (m := 2) (by omega) (of_decide_eq_true (by kernel_rfl)) (by kernel_rfl) (by rw [Try.underlying43]))

abbrev chK (c : GChoice) : Value := .agg #[vi c.kind, vi c.key, vi c.a, vi c.b]
theorem chK_inj (x y : GChoice) (h : chK x = chK y) : x = y := by
  obtain ⟨a, b, c, d⟩ := x; obtain ⟨a', b', c', d'⟩ := y
  simp [chK] at h; obtain ⟨rfl, rfl, rfl, rfl⟩ := h; rfl
def SmallCh (c : GChoice) : Prop := i64 c.kind ∧ i64 c.key ∧ i64 c.a ∧ i64 c.b

theorem choiceLits {c : GChoice} (h : SmallCh c) (d : Nat) : Try.prog.keyLits (d + 1 + 1) 43 [vi c.kind, vi c.key, vi c.a, vi c.b] = some [.int .i64 c.kind, .int .i64 c.key, .int .i64 c.a, .int .i64 c.b] := by
  have hc : Try.prog.cellsOf 43 = 4 := by kernel_rfl
  have hi : Try.prog.cellsOf 3 = 1 := by kernel_rfl
  obtain ⟨h1, h2, h3, h4⟩ := h
  unfold Program.keyLits
  rw [Try.underlying43]
  simp [hc, hi, lit_int h1, lit_int h2, lit_int h3, lit_int h4]
theorem choiceKey {c : GChoice} (h : SmallCh c) : ∃ kl, keyOf Try.prog 43 (chK c) = some kl := by
  have hk : Try.prog.keyType 43 = true := by kernel_rfl
  have hc : Try.prog.cellsOf 43 = 4 := by kernel_rfl
  obtain ⟨d, hd⟩ : ∃ d, Try.prog.types.size = d + 1 := ⟨Try.prog.types.size - 1, by have : 0 < Try.prog.types.size := of_decide_eq_true (by kernel_rfl); omega⟩
  have hf : (chK c).formed Try.prog 43 = true := by simp [Value.formed, Try.underlying43, hc]
  have hl := choiceLits h d
  unfold keyOf
  rw [Try.underlying43, hd]
  simp [hk, hf, Value.cells, hl]

abbrev FaL := List (GChoice × Bool)
abbrev MapF (w : World) (b : Nat) (L : FaL) : Prop := MapT Try.prog 43 chK Value.bool w b L
def saidV (p : GChoice × Bool) : List Value := [vi p.1.kind, vi p.1.key, vi p.1.a, vi p.1.b, .bool p.2]
theorem saidV_length (p : GChoice × Bool) : (saidV p).length = 5 := rfl
theorem saidV_one (p : GChoice × Bool) : ∀ u ∈ saidV p, u.oneCell' = true := by
  intro u hu; simp [saidV] at hu; rcases hu with rfl | rfl | rfl | rfl | rfl <;> rfl
abbrev RdSaid (w : World) (v : Value) (G : FaL) : Prop := RdS 5 (fun _ cs x => cs = saidV x) w v G
def OwSaid (base : Nat) (w : World) (v : Value) (G : FaL) : Prop := w.ownsRow base 83 5 v G.length (G.flatMap saidV)
theorem OwSaid.rd {base : Nat} {w : World} {v : Value} {G : FaL} (h : OwSaid base w v G) : RdSaid w v G := rds_of_own saidV_length h
theorem RdSaid.later {w w' : World} {v : Value} {G : FaL} (h : RdSaid w v G) (hb : Below w.heap.size w w') : RdSaid w' v G := RdS.below h hb fun _ _ h => h
theorem RdSaid.at {w : World} {v : Value} {l : FaL} (h : RdSaid w v l) : ∃ a len cap, v = .slice a len cap ∧ len = l.length ∧ l.length ≤ 9223372036854775807 ∧
    ∀ j x, l[j]? = some x → ∃ b off, a = some ⟨b, off, none⟩ ∧ w.cell? ⟨b, off + j * 5, none⟩ = some (vi x.1.kind) ∧ w.cell? ⟨b, off + j * 5 + 1, none⟩ = some (vi x.1.key) ∧ w.cell? ⟨b, off + j * 5 + 2, none⟩ = some (vi x.1.a) ∧ w.cell? ⟨b, off + j * 5 + 3, none⟩ = some (vi x.1.b) ∧ w.cell? ⟨b, off + j * 5 + 4, none⟩ = some (.bool x.2) := by
  obtain ⟨a, len, cap, h1, h2, h3, h4, h5, h6⟩ := h
  refine ⟨a, len, cap, h1, h2, h3, fun j x hj => ?_⟩
  obtain ⟨b, off, cs, ha, hl, hc, rfl⟩ := h6 j x hj
  exact ⟨b, off, ha, by simpa using hc 0 _ rfl, by simpa [Nat.add_assoc] using hc 1 _ rfl, by simpa [Nat.add_assoc] using hc 2 _ rfl, by simpa [Nat.add_assoc] using hc 3 _ rfl, by simpa [Nat.add_assoc] using hc 4 _ rfl⟩
theorem Try.infoSaid : (Try.prog.info? 83).map (fun i => (i.zero, i.size, i.bytes)) = some (some (.agg #[vi 0, vi 0, vi 0, vi 0, .bool false]), 5, 40) := by kernel_rfl
theorem eltSaid : Elt Try.prog 30 83 5 40 (.agg #[vi 0, vi 0, vi 0, vi 0, .bool false]) := by
  obtain ⟨i0, hi, hz0, hz1, hz2⟩ := info_parts Try.infoSaid
  exact ⟨Try.underlying30, by decide, rfl, i0, hi, hz0, hz1, hz2⟩

/-- What crucibleref09.Get says. -/
def getI (G : FaL) (c : GChoice) : Int := match getM G c with
  | some true => 1
  | some false => 0
  | none => -1
theorem getI_one (G : FaL) (c : GChoice) : (getI G c == 1) = (getM G c).getD false := by unfold getI; cases getM G c with | none => rfl | some b => cases b <;> rfl
theorem getI_some (G : FaL) (c : GChoice) : decide (0 ≤ getI G c) = (getM G c).isSome := by unfold getI; cases getM G c with | none => rfl | some b => cases b <;> rfl
theorem getI_bound (G : FaL) (c : GChoice) : -1 ≤ getI G c ∧ getI G c ≤ 1 := by unfold getI; cases getM G c with | none => exact ⟨by decide, by decide⟩ | some b => cases b <;> exact ⟨by decide, by decide⟩

/-- What a choice of a history looks like. -/
structure OkCh (n : Nat) (c : GChoice) : Prop where
  key : 0 ≤ c.key ∧ c.key < 16
  a : 0 ≤ c.a ∧ c.a < n
  b : 0 ≤ c.b ∧ c.b < n
  kind : c.kind = 1 ∧ c.key = 0 ∧ c.b = 0 ∨ c.kind = 2 ∧ c.a < c.b
theorem OkCh.small {n : Nat} {c : GChoice} (h : OkCh n c) (hn : n ≤ 4096) : SmallCh c := by
  have := h.key; have := h.a; have := h.b; have := h.kind
  unfold SmallCh i64; omega

theorem cmS_mem {S : List Bool} {ts : List GTxn} {c : GChoice} {n : Nat} (h : c ∈ cmS S ts n) : ∃ i : Nat, i < n ∧ i < ts.length ∧ c = ⟨1, 0, i, 0⟩ := by
  unfold cmS at h
  rw [List.mem_filterMap] at h
  obtain ⟨i, hi, h⟩ := h
  rw [List.mem_range] at hi
  cases ht : ts[i]? with
  | none => simp [ht] at h
  | some t =>
    have := (List.getElem?_eq_some_iff.1 ht).1
    simp only [ht, Option.bind_some] at h
    split at h
    · simp at h; exact ⟨i, hi, this, h.symm⟩
    · simp at h
theorem befA_mem {ts : List GTxn} {key b n : Nat} {c : GChoice} (h : c ∈ befA ts key b n) : ∃ a : Nat, a < n ∧ c = ⟨2, key, a, b⟩ := by
  unfold befA at h
  rw [List.mem_filterMap] at h
  obtain ⟨a, ha, h⟩ := h
  rw [List.mem_range] at ha
  split at h
  · simp at h; exact ⟨a, ha, h.symm⟩
  · simp at h
theorem befB_mem {ts : List GTxn} {key n : Nat} {c : GChoice} (h : c ∈ befB ts key n) : ∃ a b : Nat, a < b ∧ b < n ∧ c = ⟨2, key, a, b⟩ := by
  unfold befB at h
  rw [List.mem_flatMap] at h
  obtain ⟨b, hb, h⟩ := h
  rw [List.mem_range] at hb
  obtain ⟨a, ha, rfl⟩ := befA_mem h
  exact ⟨a, b, ha, hb, rfl⟩
theorem befK_mem {ts : List GTxn} {n : Nat} {c : GChoice} (h : c ∈ befK ts n) : ∃ key a b : Nat, key < n ∧ a < b ∧ b < ts.length ∧ c = ⟨2, key, a, b⟩ := by
  unfold befK at h
  rw [List.mem_flatMap] at h
  obtain ⟨k, hk, h⟩ := h
  rw [List.mem_range] at hk
  obtain ⟨a, b, ha, hb, rfl⟩ := befB_mem h
  exact ⟨k, a, b, hk, ha, hb, rfl⟩
theorem choicesM_ok {ts : List GTxn} {c : GChoice} (h : c ∈ choicesM ts) : OkCh ts.length c := by
  unfold choicesM at h
  rw [List.mem_append] at h
  rcases h with h | h
  · obtain ⟨i, h1, h2, rfl⟩ := cmS_mem h
    exact ⟨⟨by simp, by simp⟩, ⟨by simp, by simpa using h2⟩, ⟨by simp, by simp; omega⟩, .inl ⟨rfl, rfl, rfl⟩⟩
  · obtain ⟨k, a, b, h1, h2, h3, rfl⟩ := befK_mem h
    exact ⟨⟨by simp, by simp; omega⟩, ⟨by simp, by simp; omega⟩, ⟨by simp, by simp; omega⟩, .inr ⟨rfl, by simp; omega⟩⟩

theorem cmS_nodup (S : List Bool) (ts : List GTxn) : ∀ n, (cmS S ts n).Nodup := by
  intro n
  induction n with
  | zero => simp [cmS]
  | succ n ih =>
    cases ht : ts[n]? with
    | none =>
      have : cmS S ts (n + 1) = cmS S ts n := by simp [cmS, List.range_succ, ht]
      rw [this]; exact ih
    | some t =>
      rw [cmS_succ ht, List.nodup_append]
      refine ⟨ih, by split <;> simp, fun c hc d hd => ?_⟩
      obtain ⟨i, h1, _, rfl⟩ := cmS_mem hc
      split at hd
      · simp at hd; subst hd; simp; omega
      · simp at hd
theorem befA_nodup (ts : List GTxn) (key b : Nat) : ∀ n, (befA ts key b n).Nodup := by
  intro n
  induction n with
  | zero => simp [befA]
  | succ n ih =>
    rw [befA_succ, List.nodup_append]
    refine ⟨ih, by split <;> simp, fun c hc d hd => ?_⟩
    obtain ⟨i, h1, rfl⟩ := befA_mem hc
    split at hd
    · simp at hd; subst hd; simp; omega
    · simp at hd
theorem befB_nodup (ts : List GTxn) (key : Nat) : ∀ n, (befB ts key n).Nodup := by
  intro n
  induction n with
  | zero => simp [befB]
  | succ n ih =>
    rw [befB_succ, List.nodup_append]
    refine ⟨ih, befA_nodup _ _ _ _, fun c hc d hd => ?_⟩
    obtain ⟨a, b, h1, h2, rfl⟩ := befB_mem hc
    obtain ⟨a', h3, rfl⟩ := befA_mem hd
    simp; omega
theorem befK_nodup (ts : List GTxn) : ∀ n, (befK ts n).Nodup := by
  intro n
  induction n with
  | zero => simp [befK]
  | succ n ih =>
    rw [befK_succ, List.nodup_append]
    refine ⟨ih, befB_nodup _ _ _, fun c hc d hd => ?_⟩
    obtain ⟨k, a, b, h1, _, _, rfl⟩ := befK_mem hc
    obtain ⟨a', b', _, _, rfl⟩ := befB_mem hd
    simp; omega
theorem choicesM_nodup (ts : List GTxn) : (choicesM ts).Nodup := by
  unfold choicesM
  rw [List.nodup_append]
  refine ⟨cmS_nodup _ _ _, befK_nodup _ _, fun c hc d hd => ?_⟩
  obtain ⟨i, _, _, rfl⟩ := cmS_mem hc
  obtain ⟨k, a, b, _, _, _, rfl⟩ := befK_mem hd
  simp

/-- Who is done, and whether that is known. -/
def deadB (ts : List GTxn) (i : Nat) : Bool := stOf ts i == 2 || (ts[i]?.map (fun t => (writesM t.ops).length == 0)).getD false
def isM (ts : List GTxn) (L : FaL) (i : Nat) : Bool × Bool :=
  if (sureM ts)[i]?.getD false then (true, true) else if deadB ts i then (false, true) else ((getM L ⟨1, 0, i, 0⟩).getD false, (getM L ⟨1, 0, i, 0⟩).isSome)
def isI (ts : List GTxn) (L : FaL) (i : Nat) : Int :=
  if (refSureN ts ts.length)[i]?.getD false then 1 else if deadB ts i then 0 else getI L ⟨1, 0, i, 0⟩
theorem isI_one {ts : List GTxn} (hu : Uniq ts) (L : FaL) (i : Nat) : (isI ts L i == 1) = (isM ts L i).1 := by
  unfold isI isM
  rw [sure_eq hu]
  split
  · rfl
  · split
    · rfl
    · exact getI_one _ _
theorem isI_some {ts : List GTxn} (hu : Uniq ts) (L : FaL) (i : Nat) : decide (0 ≤ isI ts L i) = (isM ts L i).2 := by
  unfold isI isM
  rw [sure_eq hu]
  split
  · rfl
  · split
    · rfl
    · exact getI_some _ _
theorem isI_bound (ts : List GTxn) (L : FaL) (i : Nat) : -1 ≤ isI ts L i ∧ isI ts L i ≤ 1 := by
  unfold isI
  split
  · exact ⟨by decide, by decide⟩
  · split
    · exact ⟨by decide, by decide⟩
    · exact getI_bound _ _

/-- Is a choice open, and does it count? -/
def openC (ts : List GTxn) (L : FaL) (c : GChoice) : Bool := (getM L c).isNone && (c.kind != 2 || (isM ts L c.a.toNat).1 && (isM ts L c.b.toNat).1)
/-- chains.Next. -/
def nextM (ts : List GTxn) (L : FaL) : Option GChoice := (choicesM ts).find? (openC ts L)
end Go.Proofs.Ytjpmimanigjjoaa

/- crucibleref09.Get. -/
namespace Go.Proofs.Ytjpmimanigjjoaa
open Go.RowKit Go.Maps

theorem GChoice.ext' {x y : GChoice} (h0 : x.kind = y.kind) (h1 : x.key = y.key) (h2 : x.a = y.a) (h3 : x.b = y.b) : x = y := by
  cases x; cases y; simp at h0 h1 h2 h3; subst h0; subst h1; subst h2; subst h3; rfl
theorem getM_first {G : FaL} {c : GChoice} {k : Nat} {p : GChoice × Bool} (hp : G[k]? = some p) (hc : p.1 = c) (hno : ∀ (j : Nat) (q : GChoice × Bool), j < k → G[j]? = some q → q.1 ≠ c) : getM G c = some p.2 := by
  induction G generalizing k with
  | nil => simp at hp
  | cons q G ih =>
    rw [getM_cons]
    cases k with
    | zero => simp at hp; subst hp; rw [if_pos hc]
    | succ k =>
      rw [if_neg (hno 0 q (by omega) rfl)]
      exact ih (by simpa using hp) fun j q' hj hq => hno (j + 1) q' (by omega) (by simpa using hq)
theorem getM_no {G : FaL} {c : GChoice} (hno : ∀ (j : Nat) (q : GChoice × Bool), j < G.length → G[j]? = some q → q.1 ≠ c) : getM G c = none := by
  rw [getM_none]
  intro p hp
  obtain ⟨j, hj⟩ := List.mem_iff_getElem?.1 hp
  exact hno j p (List.getElem?_eq_some_iff.1 hj).1 hj

set_option maxRecDepth 100000 in
set_option maxHeartbeats 4000000 in
theorem get_call (v : Value) (G : FaL) (c : GChoice) (w : World) (hv : RdSaid w v G) :
    Calls Try.prog 56 #[v, chK c] w fun e w' => e = .returned (vi (getI G c)) ∧ Below w.heap.size w w' := by
  have HV := Lib.hid hv
  obtain ⟨a, len, cap, rfl, rfl, hm, -⟩ := hv.at
  clear hv
  have HB1 := Lib.hid ((Below.refl w.heap.size w).alloc (Nat.le_refl _) (.cells #[vi c.kind, vi c.key, vi c.a, vi c.b] 81))
  have q0 : (w.alloc (.cells #[vi c.kind, vi c.key, vi c.a, vi c.b] 81)).cell? ⟨w.heap.size, 0, none⟩ = some (vi c.kind) := by rw [cell_of (alloc_at _ _)]; rfl
  have q1 : (w.alloc (.cells #[vi c.kind, vi c.key, vi c.a, vi c.b] 81)).cell? ⟨w.heap.size, 1, none⟩ = some (vi c.key) := by rw [cell_of (alloc_at _ _)]; rfl
  have q2 : (w.alloc (.cells #[vi c.kind, vi c.key, vi c.a, vi c.b] 81)).cell? ⟨w.heap.size, 2, none⟩ = some (vi c.a) := by rw [cell_of (alloc_at _ _)]; rfl
  have q3 : (w.alloc (.cells #[vi c.kind, vi c.key, vi c.a, vi c.b] 81)).cell? ⟨w.heap.size, 3, none⟩ = some (vi c.b) := by rw [cell_of (alloc_at _ _)]; rfl
  have hw1 : (w.alloc (.cells #[vi c.kind, vi c.key, vi c.a, vi c.b] 81)).heap.size = w.heap.size + 1 := by simp
  have Q0 := Lib.hid q0
  have Q1 := Lib.hid q1
  have Q2 := Lib.hid q2
  have Q3 := Lib.hid q3
  clear q0 q1 q2 q3
  go_enter Try.func56, Try.ntmps56
  go_wp2_with fail
  generalize w.alloc (.cells #[vi c.kind, vi c.key, vi c.a, vi c.b] 81) = w1 at *
  go_loopw [6, 9] (fun _ n wr => ∃ k : Nat, k ≤ G.length ∧ n = .int .i64 k ∧ Hid (∀ (j : Nat) (q : GChoice × Bool), j < k → G[j]? = some q → q.1 ≠ c) ∧ Below w1.heap.size w1 wr) (fun _ n _ => G.length - (intOf n).toNat)
  case atStart => exact ⟨0, Nat.zero_le _, rfl, Lib.hid (fun j q h => absurd h (Nat.not_lt_zero _)), Below.refl _ _⟩
  case round =>
    obtain ⟨wk, rfl⟩ : ∃ wk : World, wk = wr := ⟨_, rfl⟩
    obtain ⟨k, hk, rfl, HN, hb⟩ := hrel
    have HBk := Lib.hid hb
    have hwk := hb.size
    have hwq : w.heap.size < wk.heap.size := by omega
    have q0 := cell_later hb Q0.out
    have q1 := cell_later hb Q1.out
    have q2 := cell_later hb Q2.out
    have q3 := cell_later hb Q3.out
    have HBW := Lib.hid (HB1.out.trans (hb.mono HB1.out.size))
    clear hb
    by_cases hlt : k < G.length
    · obtain ⟨p, hp⟩ := some_at hlt
      obtain ⟨_, _, _, e5, -, -, hcl⟩ := HV.out.at
      cases e5
      obtain ⟨b, off, rfl, k0', k1', k2', k3', k4'⟩ := hcl k p hp
      have k0 := cell_later HBW.out k0'
      have k1 := cell_later HBW.out k1'
      have k2 := cell_later HBW.out k2'
      have k3 := cell_later HBW.out k3'
      have k4 := cell_later HBW.out k4'
      have hkI : (k : Int) < (G.length : Int) := by omega
      have HP := Lib.hid hp
      clear hcl hp k0' k1' k2' k3' k4'
      go_upto_region 4 with fail
      go_cut [16] (fun r wx => r = .bool (decide (p.1 = c)) ∧ wx = wk.alloc (.cells #[vi p.1.kind, vi p.1.key, vi p.1.a, vi p.1.b, .bool p.2] 83))
      case first =>
        by_cases hpc : p.1 = c
        · have hd : decide (p.1 = c) = true := by simp [hpc]
          have f0 : (p.1.kind == c.kind) = true := by simp [hpc]
          have f1 : (p.1.key == c.key) = true := by simp [hpc]
          have f2 : (p.1.a == c.a) = true := by simp [hpc]
          have f3 : (p.1.b == c.b) = true := by simp [hpc]
          clear hpc
          go_wp2_with fail
          go_meet
          exact ⟨by rw [hd], rfl⟩
        · have hd : decide (p.1 = c) = false := by simp [hpc]
          by_cases g0 : p.1.kind = c.kind
          case neg =>
            have f0 : (p.1.kind == c.kind) = false := by simp [g0]
            clear hpc g0
            go_wp2_with fail
            go_meet
            exact ⟨by rw [hd], rfl⟩
          have f0 : (p.1.kind == c.kind) = true := by simp [g0]
          have G0 := Lib.hid g0
          clear g0
          by_cases g1 : p.1.key = c.key
          case neg =>
            have f1 : (p.1.key == c.key) = false := by simp [g1]
            clear hpc g1
            go_wp2_with fail
            go_meet
            exact ⟨by rw [hd], rfl⟩
          have f1 : (p.1.key == c.key) = true := by simp [g1]
          have G1 := Lib.hid g1
          clear g1
          by_cases g2 : p.1.a = c.a
          case neg =>
            have f2 : (p.1.a == c.a) = false := by simp [g2]
            clear hpc g2
            go_wp2_with fail
            go_meet
            exact ⟨by rw [hd], rfl⟩
          have f2 : (p.1.a == c.a) = true := by simp [g2]
          have G2 := Lib.hid g2
          clear g2
          by_cases g3 : p.1.b = c.b
          case neg =>
            have f3 : (p.1.b == c.b) = false := by simp [g3]
            clear hpc g3
            go_wp2_with fail
            go_meet
            exact ⟨by rw [hd], rfl⟩
          have f3 : (p.1.b == c.b) = true := by simp [g3]
          have G3 := Lib.hid g3
          clear g3
          exact absurd (GChoice.ext' G0.out G1.out G2.out G3.out) hpc
      case rest =>
        obtain ⟨rfl, rfl⟩ := hcut
        by_cases hpc : p.1 = c
        · have hd : decide (p.1 = c) = true := by simp [hpc]
          have he := Lib.hid (getM_first HP.out hpc HN.out)
          rw [hd]
          clear hpc
          cases hs : p.2 with
          | true =>
            rw [hs] at he
            have hg : getI G c = 1 := by unfold getI; rw [he.out]
            go_wp2_with fail
            go_ret
            exact ⟨by rw [hg]; rfl, HBW.out.trans ((Below.refl wk.heap.size wk).alloc (Nat.le_refl _) _ |>.mono HBW.out.size)⟩
          | false =>
            rw [hs] at he
            have hg : getI G c = 0 := by unfold getI; rw [he.out]
            go_wp2_with fail
            go_ret
            exact ⟨by rw [hg]; rfl, HBW.out.trans ((Below.refl wk.heap.size wk).alloc (Nat.le_refl _) _ |>.mono HBW.out.size)⟩
        · have hd : decide (p.1 = c) = false := by simp [hpc]
          rw [hd]
          have HPC := Lib.hid hpc
          clear hpc
          go_wp2_with fail
          go_roundw
          case rel =>
            refine ⟨k + 1, by omega, by go_num, Lib.hid ?_, HBk.out.alloc hwk _⟩
            intro j q hj hq
            rcases Nat.lt_or_ge j k with h | h
            · exact HN.out j q h hq
            · obtain rfl : j = k := by omega
              rw [HP.out] at hq; cases hq; exact HPC.out
          case measure => simp [intOf]; omega
    · obtain rfl : k = G.length := by omega
      have he : getI G c = -1 := by unfold getI; rw [getM_no HN.out]
      go_wp2_with fail
      go_ret
      exact ⟨by rw [he]; rfl, HBW.out⟩
end Go.Proofs.Ytjpmimanigjjoaa

/- chains.is, chains.Is and crucibleref09.Is. -/
namespace Go.Proofs.Ytjpmimanigjjoaa
open Go.RowKit Go.Maps

theorem isM_sure {ts : List GTxn} {L : FaL} {i : Nat} (h : (sureM ts)[i]? = some true) : isM ts L i = (true, true) := by unfold isM; rw [h]; rfl
theorem isM_dead {ts : List GTxn} {L : FaL} {i : Nat} (h : (sureM ts)[i]? = some false) (hd : deadB ts i = true) : isM ts L i = (false, true) := by unfold isM; rw [h, hd]; rfl
theorem isM_fact {ts : List GTxn} {L : FaL} {i : Nat} (h : (sureM ts)[i]? = some false) (hd : deadB ts i = false) : isM ts L i = ((getM L ⟨1, 0, i, 0⟩).getD false, (getM L ⟨1, 0, i, 0⟩).isSome) := by unfold isM; rw [h, hd]; rfl
theorem deadB_at {ts : List GTxn} {i : Nat} {t : GTxn} (h : ts[i]? = some t) : deadB ts i = (t.state == 2 || ((writesM t.ops).length : Int) == 0) := by
  unfold deadB stOf; rw [h]
  have : (((writesM t.ops).length : Int) == 0) = ((writesM t.ops).length == 0) := by rw [Bool.eq_iff_iff]; simp
  rw [this]; rfl
theorem small_commit {i : Nat} (h : i ≤ 4096) : SmallCh ⟨1, 0, i, 0⟩ := by
  unfold SmallCh i64; simp only; omega

theorem zero_bool (w : World) : (zeroValue 4).run Try.prog w = .ok (.bool false) w := by kernel_rfl

/-- A bool of a row that stands in a block. -/
theorem lookup_fact {w : World} {m : Nat} {L : FaL} (h : MapF w m L) {c : GChoice} (hc : SmallCh c) :
    (Instr.lookup 29 (.map (some m)) (chK c) true).run Try.prog w = .ok (.tuple #[.bool ((getM L c).getD false), .bool (getM L c).isSome]) w ∧ (Instr.lookup 29 (.map (some m)) (chK c) false).run Try.prog w = .ok (.bool ((getM L c).getD false)) w := by
  obtain ⟨kl, hkl⟩ := choiceKey hc
  obtain ⟨h1, h2⟩ := h.lookup choiceKeyed chK_inj (t := 29) (e := 4) Try.underlying29 c hkl (zero_bool w)
  have he : ((getM L c).map Value.bool).getD (.bool false) = .bool ((getM L c).getD false) := by cases getM L c <;> rfl
  rw [he] at h1 h2
  exact ⟨h2, h1⟩

set_option maxRecDepth 100000 in
set_option maxHeartbeats 4000000 in
theorem is_call (v : Value) (ts : List GTxn) (sv : Value) (m : Nat) (L : FaL) (i : Nat) (w : World) (hv : RdTxns w v ts) (hok : OkTxns ts) (htl : ts.length ≤ 4096) (hs : OwBs 0 w sv (sureM ts)) (hm : MapF w m L) (hi : i < ts.length) :
    Calls Try.prog 28 #[v, sv, .map (some m), .int .i64 i] w fun e w' => e = .returned (.tuple #[.bool (isM ts L i).1, .bool (isM ts L i).2]) ∧ Below w.heap.size w w' := by
  have HV := Lib.hid hv
  have HOK := Lib.hid hok
  have HM := Lib.hid hm
  have HS := Lib.hid hs
  obtain ⟨a, len, cap, rfl, rfl, hmm, hcl⟩ := hv.at
  obtain ⟨t, ht⟩ := some_at hi
  obtain ⟨b, off, oa, oc, rfl, hr, k0, k1, k2⟩ := hcl i t ht
  obtain ⟨sa, sc, rfl, hsc⟩ := OwBs.at hs
  have hsl := sureM_length ts
  obtain ⟨x, hx⟩ := some_at (l := sureM ts) (k := i) (by rw [hsl]; exact hi)
  obtain ⟨sb, so, rfl, x0⟩ := hsc i x hx
  rw [hsl]
  have HR := Lib.hid hr
  have HX := Lib.hid hx
  have HD := Lib.hid (deadB_at ht)
  have hok2 := (HOK.out.2 t (List.mem_of_getElem? ht)).2
  have hiI : (i : Int) < (ts.length : Int) := by omega
  clear hv hok hs hm hcl hsc hr hx ht hsl
  go_enter Try.func28, Try.ntmps28
  cases x with
  | true =>
    have he := Lib.hid (isM_sure (L := L) HX.out)
    go_wp2_with fail
    go_ret2
    exact ⟨by rw [he.out]; rfl, Below.refl _ _⟩
  | false =>
    go_upto_region 3 with fail
    go_cut [17] (fun r wx => r = .bool (deadB ts i) ∧ Below w.heap.size w wx)
    case first =>
      by_cases hs2 : t.state = 2
      · have h2 := beq_t hs2
        rw [h2] at HD
        clear hs2
        go_wp2_with fail
        go_meet
        exact ⟨by rw [HD.out]; rfl, Below.refl _ _⟩
      · have h2 := beq_f hs2
        rw [h2] at HD
        clear hs2
        go_wp2_with (go_at_call 36; refine (writes_call t.client t.state _ t.ops _ HR.out hok2).mono ?_; rintro e w2 ⟨v2, rfl, ho2, hb2⟩; have hr2 := ho2.rd; obtain ⟨a2, len2, cap2, rfl, rfl, hm2, -⟩ := hr2.at)
        go_meet
        exact ⟨by rw [HD.out]; first | rfl | simp, hb2⟩
    case rest =>
      obtain ⟨wx, rfl⟩ : ∃ wx : World, wx = wc := ⟨_, rfl⟩
      obtain ⟨rfl, hb⟩ := hcut
      have HB := Lib.hid hb
      cases hd : deadB ts i with
      | true =>
        have he := Lib.hid (isM_dead (L := L) HX.out hd)
        clear hd
        go_wp2_with fail
        go_ret2
        exact ⟨by rw [he.out]; rfl, HB.out⟩
      | false =>
        have he := Lib.hid (isM_fact (L := L) HX.out hd)
        have hl := (lookup_fact (HM.out.below hb HM.out.lt) (small_commit (i := i) (by omega))).1
        clear hd hb
        go_wp2_with fail
        go_ret2
        exact ⟨by rw [he.out]; rfl, HB.out⟩

theorem flat_bools : ∀ S : List Bool, S.flatMap bV = S.map Value.bool
  | [] => rfl
  | x :: S => by rw [List.flatMap_cons, flat_bools S]; rfl
/-- A slice of bools that flaws.Sure made, as an owned row. -/
theorem BoolB.own {w : World} {b : Nat} {S : List Bool} (h : BoolB w b S) (hl : S.length ≤ 4096) : OwBs 0 w (.slice (some ⟨b, 0, none⟩) S.length S.length) S := by
  have hf := flat_bools S
  refine ⟨by rw [hf]; simp, .inr ⟨b, S.length, (S.map Value.bool).toArray, rfl, Nat.zero_le _, h, Nat.le_refl _, by simp [maxLen]; omega, by simp, by rw [hf]; simp [List.take_of_length_le]⟩⟩

set_option maxRecDepth 100000 in
set_option maxHeartbeats 4000000 in
theorem Is_call (v : Value) (ts : List GTxn) (m : Nat) (L : FaL) (i : Nat) (w : World) (hv : RdTxns w v ts) (hok : OkTxns ts) (htl : ts.length ≤ 4096) (hm : MapF w m L) (hi : i < ts.length) :
    Calls Try.prog 18 #[v, .map (some m), .int .i64 i] w fun e w' => e = .returned (.tuple #[.bool (isM ts L i).1, .bool (isM ts L i).2]) ∧ Below w.heap.size w w' := by
  have HV := Lib.hid hv
  have HOK := Lib.hid hok
  have HM := Lib.hid hm
  have hsl := sureM_length ts
  clear hv hok hm
  go_enter Try.func18, Try.ntmps18
  go_wp2_with (first
    | (go_at_call 27; refine (sure_call _ _ _ HV.out HOK.out).mono ?_; rintro e w1 ⟨sb, rfl, hsb, hS, hb1⟩; have HB1 := Lib.hid hb1; have HS := Lib.hid (hS.own (by omega)); rw [hsl] at HS; have HV1 := Lib.hid (HV.out.later hb1); have HM1 := Lib.hid (HM.out.below hb1 HM.out.lt); clear hb1 hS)
    | (go_at_call 28; refine (is_call _ ts _ m L i _ HV1.out HOK.out htl HS.out HM1.out hi).mono ?_; rintro e w2 ⟨rfl, hb2⟩))
  go_ret2
  exact ⟨by rfl, HB1.out.trans (hb2.mono HB1.out.size)⟩

set_option maxRecDepth 100000 in
set_option maxHeartbeats 4000000 in
theorem refIs_call (v g : Value) (ts : List GTxn) (L : FaL) (i : Nat) (w : World) (hv : RdTxns w v ts) (hok : OkTxns ts) (hg : RdSaid w g L) (hi : i < ts.length) :
    Calls Try.prog 33 #[v, g, .int .i64 i] w fun e w' => e = .returned (vi (isI ts L i)) ∧ Below w.heap.size w w' := by
  have HV := Lib.hid hv
  have HOK := Lib.hid hok
  have HG := Lib.hid hg
  obtain ⟨a, len, cap, rfl, rfl, hmm, hcl⟩ := hv.at
  obtain ⟨t, ht⟩ := some_at hi
  obtain ⟨b, off, oa, oc, rfl, hr, k0', k1', k2'⟩ := hcl i t ht
  have HR := Lib.hid hr
  have K0 := Lib.hid k0'
  have K1 := Lib.hid k1'
  have K2 := Lib.hid k2'
  have HD := Lib.hid (deadB_at ht)
  have HSL := Lib.hid (refSureN_length ts ts.length)
  have hok2 := (HOK.out.2 t (List.mem_of_getElem? ht)).2
  have hiI : (i : Int) < (ts.length : Int) := by omega
  clear hv hok hg hcl hr k0' k1' k2' ht
  go_enter Try.func33, Try.ntmps33
  have HI := Lib.hid (show isI ts L i = (if (refSureN ts ts.length)[i]?.getD false then 1 else if deadB ts i then 0 else getI L ⟨1, 0, i, 0⟩) from rfl)
  obtain ⟨x, hx⟩ := some_at (l := refSureN ts ts.length) (k := i) (by rw [HSL.out]; exact hi)
  rw [hx] at HI
  have HX := Lib.hid hx
  clear hx
  cases x with
  | true =>
    go_wp2_with (go_at_call 48; refine (refSure_call _ ts _ HV.out HOK.out).mono ?_; rintro e w1 ⟨sv, rfl, hS, hb1⟩; obtain ⟨sa, sc, hsv, hsc⟩ := OwBs.at hS; rw [HSL.out] at hsv; subst hsv; obtain ⟨sb, so, rfl, x0⟩ := hsc i _ HX.out; have HB1 := Lib.hid hb1; have HG1 := Lib.hid (HG.out.later hb1); have HR1 := Lib.hid (HR.out.later hb1); have k0 := cell_later hb1 K0.out; have k1 := cell_later hb1 K1.out; have k2 := cell_later hb1 K2.out; clear hb1 hS hsc)
    go_ret
    exact ⟨by rw [HI.out]; rfl, HB1.out⟩
  | false =>
    go_upto_region 3 with (go_at_call 48; refine (refSure_call _ ts _ HV.out HOK.out).mono ?_; rintro e w1 ⟨sv, rfl, hS, hb1⟩; obtain ⟨sa, sc, hsv, hsc⟩ := OwBs.at hS; rw [HSL.out] at hsv; subst hsv; obtain ⟨sb, so, rfl, x0⟩ := hsc i _ HX.out; have HB1 := Lib.hid hb1; have HG1 := Lib.hid (HG.out.later hb1); have HR1 := Lib.hid (HR.out.later hb1); have k0 := cell_later hb1 K0.out; have k1 := cell_later hb1 K1.out; have k2 := cell_later hb1 K2.out; clear hb1 hS hsc)
    go_cut [26] (fun r wx => r = .bool (deadB ts i) ∧ Below w1.heap.size w1 wx)
    case first =>
      by_cases hs2 : t.state = 2
      · have h2 := beq_t hs2
        rw [h2] at HD
        clear hs2
        go_wp2_with fail
        go_meet
        exact ⟨by rw [HD.out]; rfl, Below.refl _ _⟩
      · have h2 := beq_f hs2
        rw [h2] at HD
        clear hs2
        go_wp2_with (go_at_call 49; refine (refWrites_call t.client t.state _ t.ops _ HR1.out hok2).mono ?_; rintro e w2 ⟨v2, rfl, ho2, hb2⟩; have hr2 := ho2.rd; obtain ⟨a2, len2, cap2, rfl, rfl, hm2, -⟩ := hr2.at)
        go_meet
        exact ⟨by rw [HD.out]; first | rfl | simp, hb2⟩
    case rest =>
      obtain ⟨wx, rfl⟩ : ∃ wx : World, wx = wc := ⟨_, rfl⟩
      obtain ⟨rfl, hb⟩ := hcut
      have HB := Lib.hid (HB1.out.trans (hb.mono HB1.out.size))
      have HG2 := Lib.hid (HG1.out.later hb)
      clear hb
      cases hd : deadB ts i with
      | true =>
        rw [hd] at HI
        clear hd
        go_wp2_with fail
        go_ret
        exact ⟨by rw [HI.out]; rfl, HB.out⟩
      | false =>
        rw [hd] at HI
        clear hd
        go_wp2_with (go_at_call 56; refine (get_call _ L ⟨1, 0, i, 0⟩ _ HG2.out).mono ?_; rintro e w3 ⟨rfl, hb3⟩)
        go_ret
        exact ⟨by rw [HI.out]; rfl, HB.out.trans (hb3.mono HB.out.size)⟩
end Go.Proofs.Ytjpmimanigjjoaa

/- chains.Next. -/
namespace Go.Proofs.Ytjpmimanigjjoaa
open Go.RowKit Go.Maps

theorem find_first {α : Type} {f : α → Bool} {C : List α} {k : Nat} {c : α} (hc : C[k]? = some c) (hf : f c = true) (hno : ∀ (j : Nat) (d : α), j < k → C[j]? = some d → f d = false) : C.find? f = some c := by
  induction C generalizing k with
  | nil => simp at hc
  | cons d C ih =>
    cases k with
    | zero => simp at hc; subst hc; simp [hf]
    | succ k =>
      have h0 := hno 0 d (by omega) rfl
      rw [List.find?_cons, h0]
      exact ih (by simpa using hc) fun j d' hj hd => hno (j + 1) d' (by omega) (by simpa using hd)
theorem find_no {α : Type} {f : α → Bool} {C : List α} (hno : ∀ (j : Nat) (d : α), j < C.length → C[j]? = some d → f d = false) : C.find? f = none := by
  rw [List.find?_eq_none]
  intro d hd
  obtain ⟨j, hj⟩ := List.mem_iff_getElem?.1 hd
  rw [hno j d (List.getElem?_eq_some_iff.1 hj).1 hj]
  simp
/-- No one of the first k choices is open and counts. -/
def ShutK (f : GChoice → Bool) (C : List GChoice) (k : Nat) : Prop := ∀ (j : Nat) (d : GChoice), j < k → C[j]? = some d → f d = false
theorem ShutK.next {f : GChoice → Bool} {C : List GChoice} {k : Nat} {c : GChoice} (h : ShutK f C k) (hc : C[k]? = some c) (hf : f c = false) : ShutK f C (k + 1) := by
  intro j d hj hd
  rcases Nat.lt_or_ge j k with h' | h'
  · exact h j d h' hd
  · obtain rfl : j = k := by omega
    rw [hc] at hd; cases hd; exact hf

def zeroC : GChoice := ⟨0, 0, 0, 0⟩
def NextQ (o : Option GChoice) (w : World) (e : Ending) (w' : World) : Prop := e = .returned (.tuple #[chK (o.getD zeroC), .bool o.isSome]) ∧ Below w.heap.size w w'

set_option maxRecDepth 100000 in
set_option maxHeartbeats 4000000 in
theorem next_call (v : Value) (ts : List GTxn) (m : Nat) (L : FaL) (w : World) (hv : RdTxns w v ts) (hok : OkTxns ts) (htl : ts.length ≤ 4096) (hm : MapF w m L) :
    Calls Try.prog 16 #[v, .map (some m)] w (NextQ (nextM ts L) w) := by
  have HB0 := Lib.hid ((Below.refl w.heap.size w).alloc (Nat.le_refl _) (.cells #[vi 0, vi 0, vi 0, vi 0] 43))
  have HV := Lib.hid (hv.later HB0.out)
  have HOK := Lib.hid hok
  have HM := Lib.hid (hm.below HB0.out hm.lt)
  have hsl := sureM_length ts
  have HX0 := Lib.hid (alloc_at w (.cells #[vi 0, vi 0, vi 0, vi 0] 43))
  have hw0 : (w.alloc (.cells #[vi 0, vi 0, vi 0, vi 0] 43)).heap.size = w.heap.size + 1 := by simp
  clear hv hok hm
  go_enter Try.func16, Try.ntmps16
  go_upto_region 1 with fail
  generalize w.alloc (.cells #[vi 0, vi 0, vi 0, vi 0] 43) = w0 at *
  go_wp2_with (first
    | (go_at_call 27; refine (sure_call _ _ _ HV.out HOK.out).mono ?_; rintro e w1 ⟨sb, rfl, hsb, hS, hb1⟩; have HB1 := Lib.hid hb1; have HS := Lib.hid (hS.own (by omega)); rw [hsl] at HS; have HV1 := Lib.hid (HV.out.later hb1); have HM1 := Lib.hid (HM.out.below hb1 HM.out.lt); clear hb1 hS)
    | (go_at_call 15; refine (choices_call _ ts _ HV1.out HOK.out htl).mono ?_; rintro e w2 ⟨v2, rfl, ho2, hb2⟩; have HC2 := Lib.hid ho2.rd; have HS2 := Lib.hid (own_below HS.out hb2); have HV2 := Lib.hid (HV1.out.later hb2); have HM2 := Lib.hid (HM1.out.below hb2 HM1.out.lt); have HB2 := Lib.hid (HB1.out.trans (hb2.mono HB1.out.size)); obtain ⟨a2, len2, cap2, rfl, rfl, hm2, -⟩ := HC2.out.at; clear hb2 ho2))
  have HCO := Lib.hid (fun c (h : c ∈ choicesM ts) => choicesM_ok h)
  have HNX := Lib.hid (show nextM ts L = (choicesM ts).find? (openC ts L) from rfl)
  generalize choicesM ts = C at *
  have hw2 := HB2.out.size
  have HX2 := Lib.hid ((HB2.out.block w.heap.size (by omega)).trans HX0.out)
  go_loopw [8, 9, 10, 11, 12, 13, 14, 20] (fun _ _ _ _ _ _ _ n wr => ∃ k : Nat, k ≤ C.length ∧ n = .int .i64 k ∧ Hid (ShutK (openC ts L) C k) ∧ Below w2.heap.size w2 wr) (fun _ _ _ _ _ _ _ n _ => C.length - (intOf n).toNat)
  case atStart => exact ⟨0, Nat.zero_le _, rfl, Lib.hid (fun j d h => absurd h (Nat.not_lt_zero _)), Below.refl _ _⟩
  case round =>
    obtain ⟨wk, rfl⟩ : ∃ wk : World, wk = wr := ⟨_, rfl⟩
    obtain ⟨k, hk, rfl, HN, hb⟩ := hrel
    have HBk := Lib.hid hb
    have hwk := hb.size
    have HXk := Lib.hid ((hb.block w.heap.size (by omega)).trans HX2.out)
    clear hb
    by_cases hlt : k < C.length
    · obtain ⟨c, hc⟩ := some_at hlt
      have hco := HCO.out c (List.mem_of_getElem? hc)
      obtain ⟨kd, ky, ca, cb⟩ := c
      obtain ⟨an, rfl⟩ := Int.eq_ofNat_of_zero_le hco.a.1
      obtain ⟨bn, rfl⟩ := Int.eq_ofNat_of_zero_le hco.b.1
      have han : an < ts.length := by have := hco.a.2; simpa using this
      have hbn : bn < ts.length := by have := hco.b.2; simpa using this
      have hkd : kd = 1 ∨ kd = 2 := by rcases hco.kind with h | h; exact .inl h.1; exact .inr h.1
      have HSM := Lib.hid (hco.small htl)
      obtain ⟨_, _, _, e5, -, -, hcl⟩ := HC2.out.at
      cases e5
      obtain ⟨b, off, rfl, k0', k1', k2', k3'⟩ := hcl k _ hc
      have k0 := cell_later HBk.out k0'
      have k1 := cell_later HBk.out k1'
      have k2 := cell_later HBk.out k2'
      have k3 := cell_later HBk.out k3'
      have hkI : (k : Int) < (C.length : Int) := by omega
      have HP := Lib.hid hc
      have HOC := Lib.hid (show openC ts L ⟨kd, ky, an, bn⟩ = ((getM L ⟨kd, ky, an, bn⟩).isNone && (kd != 2 || (isM ts L an).1 && (isM ts L bn).1)) from rfl)
      have HBo := Lib.hid (HBk.out.alloc hwk (.cells #[vi kd, vi ky, vi an, vi bn] 43))
      have HXo := Lib.hid (alloc_at wk (.cells #[vi kd, vi ky, vi an, vi bn] 43))
      have hwo : (wk.alloc (.cells #[vi kd, vi ky, vi an, vi bn] 43)).heap.size = wk.heap.size + 1 := by simp
      have HXr := Lib.hid ((Below.heap_alloc wk (.cells #[vi kd, vi ky, vi an, vi bn] 43) w.heap.size (by omega)).trans HXk.out)
      clear hcl hc hco k0' k1' k2' k3'
      go_upto_region 5 with fail
      clear k0 k1 k2 k3
      generalize wk.alloc (.cells #[vi kd, vi ky, vi an, vi bn] 43) = wo at *
      have q0 : wo.cell? ⟨wk.heap.size, 0, none⟩ = some (vi kd) := by rw [cell_of HXo.out]; rfl
      have q1 : wo.cell? ⟨wk.heap.size, 1, none⟩ = some (vi ky) := by rw [cell_of HXo.out]; rfl
      have q2 : wo.cell? ⟨wk.heap.size, 2, none⟩ = some (vi an) := by rw [cell_of HXo.out]; rfl
      have q3 : wo.cell? ⟨wk.heap.size, 3, none⟩ = some (vi bn) := by rw [cell_of HXo.out]; rfl
      have HMo := Lib.hid (HM2.out.below HBo.out HM2.out.lt)
      have hlk := (lookup_fact HMo.out HSM.out).1
      have HQ0 := Lib.hid q0
      have HQ1 := Lib.hid q1
      have HQ2 := Lib.hid q2
      have HQ3 := Lib.hid q3
      cases hg : getM L ⟨kd, ky, an, bn⟩ with
      | some bb =>
        rw [hg] at hlk HOC
        clear hg
        go_wp2_with fail
        go_roundw
        case rel => exact ⟨k + 1, by omega, by go_num, Lib.hid (HN.out.next HP.out HOC.out), HBo.out⟩
        case measure => simp [intOf]; omega
      | none =>
        rw [hg] at hlk HOC
        clear hg
        rcases hkd with rfl | rfl
        · have he := Lib.hid (HNX.out.trans (find_first HP.out HOC.out HN.out))
          have HBZ := Lib.hid HBo.out
          have r0 : wo.cell? ⟨w.heap.size, 0, none⟩ = some (vi 0) := by rw [cell_of HXr.out]; rfl
          have r1 : wo.cell? ⟨w.heap.size, 1, none⟩ = some (vi 0) := by rw [cell_of HXr.out]; rfl
          have r2 : wo.cell? ⟨w.heap.size, 2, none⟩ = some (vi 0) := by rw [cell_of HXr.out]; rfl
          have r3 : wo.cell? ⟨w.heap.size, 3, none⟩ = some (vi 0) := by rw [cell_of HXr.out]; rfl
          have fz := fun j => free_of HXr.out j
          go_wp2_with fail
          refine bodyPost_ret (v := .tuple #[chK ⟨1, ky, an, bn⟩, .bool true]) (by simp [results, Try.results16, go_sem, r0, r1, r2, r3]) rfl ⟨by rw [he.out]; rfl, ?_⟩
          exact ((((HB0.out.trans ((HB2.out.trans (HBZ.out.mono HB2.out.size)).mono HB0.out.size)).setCell (Nat.le_refl _) _).setCell (Nat.le_refl _) _).setCell (Nat.le_refl _) _).setCell (Nat.le_refl _) _
        · have HVo := Lib.hid (HV2.out.later HBo.out)
          have HSo := Lib.hid (own_below HS2.out HBo.out)
          go_upto_region 9 with (go_at_call 28; refine (is_call _ ts _ m L an _ HVo.out HOK.out htl HSo.out HMo.out han).mono ?_; rintro e w5 ⟨rfl, hb5⟩)
          have HB5 := Lib.hid hb5
          have HV5 := Lib.hid (HVo.out.later hb5)
          have HS5 := Lib.hid (own_below HSo.out hb5)
          have HM5 := Lib.hid (HMo.out.below hb5 HMo.out.lt)
          replace q3 := cell_later hb5 HQ3.out
          clear hb5
          go_upto_region 10 with (go_at_call 28; refine (is_call _ ts _ m L bn _ HV5.out HOK.out htl HS5.out HM5.out hbn).mono ?_; rintro e w6 ⟨rfl, hb6⟩)
          have HB6 := Lib.hid (HB5.out.trans (hb6.mono HB5.out.size))
          have HBZ := Lib.hid (HBo.out.trans (HB6.out.mono HBo.out.size))
          clear hb6 q0 q1 q2 q3
          cases hA : (isM ts L an).1 with
          | false =>
            rw [hA] at HOC
            clear hA
            go_wp2_with fail
            go_roundw
            case rel => exact ⟨k + 1, by omega, by go_num, Lib.hid (HN.out.next HP.out HOC.out), HBZ.out⟩
            case measure => simp [intOf]; omega
          | true =>
            rw [hA] at HOC
            clear hA
            cases hC : (isM ts L bn).1 with
            | false =>
              rw [hC] at HOC
              clear hC
              go_wp2_with fail
              go_roundw
              case rel => exact ⟨k + 1, by omega, by go_num, Lib.hid (HN.out.next HP.out HOC.out), HBZ.out⟩
              case measure => simp [intOf]; omega
            | true =>
              rw [hC] at HOC
              clear hC
              have he := Lib.hid (HNX.out.trans (find_first HP.out HOC.out HN.out))
              have HX6 := Lib.hid ((HB6.out.block w.heap.size (by omega)).trans HXr.out)
              have q0 := cell_later HB6.out HQ0.out
              have q1 := cell_later HB6.out HQ1.out
              have q2 := cell_later HB6.out HQ2.out
              have q3 := cell_later HB6.out HQ3.out
              have r0 : w6.cell? ⟨w.heap.size, 0, none⟩ = some (vi 0) := by rw [cell_of HX6.out]; rfl
              have r1 : w6.cell? ⟨w.heap.size, 1, none⟩ = some (vi 0) := by rw [cell_of HX6.out]; rfl
              have r2 : w6.cell? ⟨w.heap.size, 2, none⟩ = some (vi 0) := by rw [cell_of HX6.out]; rfl
              have r3 : w6.cell? ⟨w.heap.size, 3, none⟩ = some (vi 0) := by rw [cell_of HX6.out]; rfl
              have fz := fun j => free_of HX6.out j
              go_wp2_with fail
              refine bodyPost_ret (v := .tuple #[chK ⟨2, ky, an, bn⟩, .bool true]) (by simp [results, Try.results16, go_sem, r0, r1, r2, r3]) rfl ⟨by rw [he.out]; rfl, ?_⟩
              exact ((((HB0.out.trans ((HB2.out.trans (HBZ.out.mono HB2.out.size)).mono HB0.out.size)).setCell (Nat.le_refl _) _).setCell (Nat.le_refl _) _).setCell (Nat.le_refl _) _).setCell (Nat.le_refl _) _
    · obtain rfl : k = C.length := by omega
      have he := Lib.hid (HNX.out.trans (find_no HN.out))
      have q0 : wk.cell? ⟨w.heap.size, 0, none⟩ = some (vi 0) := by rw [cell_of HXk.out]; rfl
      have q1 : wk.cell? ⟨w.heap.size, 1, none⟩ = some (vi 0) := by rw [cell_of HXk.out]; rfl
      have q2 : wk.cell? ⟨w.heap.size, 2, none⟩ = some (vi 0) := by rw [cell_of HXk.out]; rfl
      have q3 : wk.cell? ⟨w.heap.size, 3, none⟩ = some (vi 0) := by rw [cell_of HXk.out]; rfl
      have fz := fun j => free_of HXk.out j
      go_wp2_with fail
      refine bodyPost_ret (v := .tuple #[chK zeroC, .bool false]) (by simp [results, Try.results16, go_sem, q0, q1, q2, q3, zeroC]) rfl ⟨by rw [he.out]; rfl, ?_⟩
      exact ((((HB0.out.trans ((HB2.out.trans (HBk.out.mono HB2.out.size)).mono HB0.out.size)).setCell (Nat.le_refl _) _).setCell (Nat.le_refl _) _).setCell (Nat.le_refl _) _).setCell (Nat.le_refl _) _
end Go.Proofs.Ytjpmimanigjjoaa

/- cruciblelaw09.some: facts about a history, as a map and as a list that say the same. -/
namespace Go.Proofs.Ytjpmimanigjjoaa
open Go.RowKit Go.Maps

abbrev RdInts (w : World) (v : Value) (xs : List Int) : Prop := RdS 1 EInt w v xs
theorem RdInts.at {w : World} {v : Value} {xs : List Int} (h : RdInts w v xs) : ∃ a len cap, v = .slice a len cap ∧ len = xs.length ∧ xs.length ≤ 9223372036854775807 ∧ ∀ j x, xs[j]? = some x → ∃ b off, a = some ⟨b, off, none⟩ ∧ w.cell? ⟨b, off + j, none⟩ = some (.int .i64 x) ∧ i64 x := by
  obtain ⟨a, len, cap, h1, h2, h3, h4, h5, h6⟩ := h
  refine ⟨a, len, cap, h1, h2, h3, fun j x hj => ?_⟩
  obtain ⟨b, off, cs, ha, hl, hc, rfl, hx⟩ := h6 j x hj
  exact ⟨b, off, ha, by have := hc 0 _ rfl; simpa using this, hx⟩
theorem RdInts.later {w w' : World} {v : Value} {xs : List Int} (h : RdInts w v xs) (hb : Below w.heap.size w w') : RdInts w' v xs := RdS.below h hb fun _ _ h => h
theorem map_apart {w : World} {b n m g : Nat} {e : TypeId} {v : Value} {xs : List Value} {L : FaL} (h : w.ownsRow b e n v m xs) (hM : MapF w g L) : some g ≠ v.ownBlock := by
  obtain ⟨es, clock, hb, _⟩ := hM
  rcases h.2 with ⟨hv, _⟩ | ⟨g', cap, cur, hv, _, hh, _⟩
  · rw [hv]; simp [Value.ownBlock]
  · rw [hv]
    intro e1
    have : g = g' := by simpa [Value.ownBlock] using e1
    subst this
    rw [hb] at hh
    simp at hh
theorem putM_new {L : FaL} {c : GChoice} {b : Bool} (h : getM L c = none) : putM L c b = L ++ [(c, b)] := by unfold putM; rw [h]; rfl

/-- What is kept of the facts made of the first k choices. -/
structure SomeS (w : World) (C : List GChoice) (m : Nat) (k : Nat) (v : Value) (L : FaL) (W : World) : Prop where
  map : MapF W m L
  row : OwSaid w.heap.size W v L
  below : Below w.heap.size w W
  len : L.length ≤ k
  keys : (L.map (·.1)).Nodup
  mem : ∀ p ∈ L, ∃ j, j < k ∧ C[j]? = some p.1
theorem SomeS.later {w A B : World} {C : List GChoice} {m k : Nat} {v : Value} {L : FaL} (h : SomeS w C m k v L A) (hb : Below A.heap.size A B) : SomeS w C m k v L B :=
  ⟨h.map.below hb h.map.lt, own_below h.row hb, h.below.trans (hb.mono h.below.size), h.len, h.keys, h.mem⟩
theorem SomeS.skip {w A : World} {C : List GChoice} {m k : Nat} {v : Value} {L : FaL} (h : SomeS w C m k v L A) : SomeS w C m (k + 1) v L A :=
  ⟨h.map, h.row, h.below, by have := h.len; omega, h.keys, fun p hp => by obtain ⟨j, h1, h2⟩ := h.mem p hp; exact ⟨j, by omega, h2⟩⟩
theorem SomeS.none {w A : World} {C : List GChoice} {m k : Nat} {v : Value} {L : FaL} {c : GChoice} (h : SomeS w C m k v L A) (hC : C.Nodup) (hc : C[k]? = some c) : getM L c = none := by
  rw [getM_none]
  intro p hp hpc
  obtain ⟨j, h1, h2⟩ := h.mem p hp
  rw [hpc] at h2
  obtain ⟨a1, a2⟩ := List.getElem?_eq_some_iff.1 hc
  obtain ⟨b1, b2⟩ := List.getElem?_eq_some_iff.1 h2
  have := List.getElem_inj (h₀ := b1) (h₁ := a1) (h := hC) |>.1 (by rw [b2, a2])
  omega
theorem SomeS.push {w A B D : World} {C : List GChoice} {m k : Nat} {v v' : Value} {L : FaL} {c : GChoice} {b : Bool} (h : SomeS w C m k v L A) (hC : C.Nodup) (hc : C[k]? = some c) (hm : w.heap.size ≤ m)
    (hg : A.grownBy B (some m)) (hM : MapF B m (putM L c b)) (o : Obj) (hg2 : (B.alloc o).grownBy D v.ownBlock) (hr : D.ownsRow w.heap.size 83 5 v' (L.length + 1) (L.flatMap saidV ++ saidV (c, b))) : SomeS w C m (k + 1) v' (L ++ [(c, b)]) D := by
  have hn := h.none hC hc
  rw [putM_new hn] at hM
  have hrow : OwSaid w.heap.size B v L := World.ownsRow.kept h.row hg (.inr (fun e => map_apart h.row h.map e.symm))
  have hM2 : MapF (B.alloc o) m (L ++ [(c, b)]) := hM.frame (Below.heap_alloc _ _ _ hM.lt)
  refine ⟨hM2.kept hg2 (map_apart (hrow.alloc o) hM2), by simpa [OwSaid] using hr, ?_, by have := h.len; simp; omega, ?_, ?_⟩
  · exact ((h.below.grown hg h.below.size (fun j hj => by cases hj; exact hm)).alloc (Nat.le_trans h.below.size hg.size) o).grown hg2 (by have := h.below.size; have := hg.size; simp; omega) (fun j hj => (World.ownsRow.lt hrow j hj).1)
  · rw [List.map_append, List.nodup_append]
    refine ⟨h.keys, by simp, fun x hx y hy => ?_⟩
    simp at hy; subst hy
    rw [List.mem_map] at hx
    obtain ⟨p, hp, rfl⟩ := hx
    exact getM_none.1 hn p hp
  · intro p hp
    rw [List.mem_append] at hp
    rcases hp with hp | hp
    · obtain ⟨j, h1, h2⟩ := h.mem p hp; exact ⟨j, by omega, h2⟩
    · simp at hp; subst hp; exact ⟨k, by omega, hc⟩

def SomeQ (C : List GChoice) (w : World) (e : Ending) (w' : World) : Prop := ∃ (L : FaL) (m : Nat) (v : Value), e = .returned (.tuple #[.map (some m), v]) ∧ w.heap.size ≤ m ∧ MapF w' m L ∧ RdSaid w' v L ∧ (L.map (·.1)).Nodup ∧ L.length ≤ C.length ∧ Below w.heap.size w w'

set_option maxRecDepth 100000 in
set_option maxHeartbeats 4000000 in
theorem some_call (v u : Value) (ts : List GTxn) (picks : List Int) (w : World) (hv : RdTxns w v ts) (hok : OkTxns ts) (htl : ts.length ≤ 4096) (hun : Uniq ts) (hu : RdInts w u picks) :
    Calls Try.prog 10 #[v, u] w (SomeQ (choicesM ts) w) := by
  have HV := Lib.hid hv
  have HOK := Lib.hid hok
  have HU := Lib.hid hu
  have HE := Lib.hid (choices_eq hun).symm
  obtain ⟨ua, ul, uc, rfl, rfl, hum, -⟩ := hu.at
  have hmm := @run_makeMap Try.prog
  have hM0 : MapF (w.alloc (.map #[] 0)) w.heap.size [] := MapT.made w
  have HO0 := Lib.hid (World.ownsRow_lit (base := w.heap.size) (e := 83) (size := 5) (w.alloc (.map #[] 0)) #[] 0 (by simp) (by simp [maxLen]) rfl)
  have HB0 := Lib.hid (((Below.refl w.heap.size w).alloc (Nat.le_refl _) (.map #[] 0)).alloc (by simp) (.cells #[] 83))
  have HM0 := Lib.hid (hM0.frame (Below.heap_alloc (w.alloc (.map #[] 0)) (.cells #[] 83) _ (by simp)))
  clear hv hok hun hu hM0
  go_enter Try.func10, Try.ntmps10
  go_upto_region 3 with fail
  have HST := Lib.hid (show SomeS w [] w.heap.size 0 (.slice (some ⟨w.heap.size + 1, 0, none⟩) 0 0) [] ((w.alloc (.map #[] 0)).alloc (.cells #[] 83)) from ⟨HM0.out, by simpa [OwSaid] using HO0.out, HB0.out, by simp, by simp, by simp⟩)
  clear hmm
  generalize (w.alloc (.map #[] 0)).alloc (.cells #[] 83) = w0 at *
  go_wp2_with (go_at_call 26; refine (refChoices_call _ ts _ (HV.out.later HB0.out) HOK.out htl).mono ?_; rw [HE.out]; rintro e w2 ⟨v2, rfl, ho2, hb2⟩; have HC2 := Lib.hid ho2.rd; have HO2 := Lib.hid ho2; have HB2 := Lib.hid hb2; have HS2 := Lib.hid (HST.out.later hb2); obtain ⟨a2, len2, cap2, rfl, rfl, hm2, -⟩ := HC2.out.at; clear hb2 ho2)
  have HND := Lib.hid (choicesM_nodup ts)
  have HCO := Lib.hid (fun c (h : c ∈ choicesM ts) => choicesM_ok h)
  have hCl := choicesM_le ts htl
  generalize choicesM ts = C at *
  go_loopw [7, 8, 9, 10, 16] (fun gv _ _ _ n wr => ∃ (k : Nat) (L : FaL), k ≤ C.length ∧ n = .int .i64 k ∧ SomeS w C w.heap.size k gv L wr ∧ OwCh 81 w0.heap.size wr (.slice a2 C.length cap2) C) (fun _ _ _ _ n _ => C.length - (intOf n).toNat)
  case atStart => exact ⟨0, [], Nat.zero_le _, rfl, ⟨HS2.out.map, HS2.out.row, HS2.out.below, by simp, by simp, by simp⟩, HO2.out⟩
  case round =>
    obtain ⟨wk, rfl⟩ : ∃ wk : World, wk = wr := ⟨_, rfl⟩
    obtain ⟨k, L, hk, rfl, hst, hoc⟩ := hrel
    have HSk := Lib.hid hst
    have HOk := Lib.hid hoc
    have HBk := Lib.hid hst.below
    have hwk := hst.below.size
    have hLk := hst.len
    have hml := hst.map.lt
    obtain ⟨_, _, _, e5, -, -, hcl⟩ := hoc.rd.at
    cases e5
    clear hst hoc
    by_cases hlt : k < C.length
    · obtain ⟨c, hc⟩ := some_at hlt
      obtain ⟨b, off, rfl, k0, k1, k2, k3⟩ := hcl k c hc
      have HSM := Lib.hid ((HCO.out c (List.mem_of_getElem? hc)).small htl)
      have hkI : (k : Int) < (C.length : Int) := by omega
      have hk0 : (0 : Int) ≤ (k : Int) := by omega
      have HP := Lib.hid hc
      have HSo := Lib.hid (HSk.out.later ((Below.refl wk.heap.size wk).alloc (Nat.le_refl _) (.cells #[vi c.kind, vi c.key, vi c.a, vi c.b] 81)))
      have HOo := Lib.hid (HOk.out.alloc (.cells #[vi c.kind, vi c.key, vi c.a, vi c.b] 81))
      have HXo := Lib.hid (alloc_at wk (.cells #[vi c.kind, vi c.key, vi c.a, vi c.b] 81))
      have hwo : (wk.alloc (.cells #[vi c.kind, vi c.key, vi c.a, vi c.b] 81)).heap.size = wk.heap.size + 1 := by simp
      have HUo := Lib.hid ((HU.out.later HBk.out).later ((Below.refl wk.heap.size wk).alloc (Nat.le_refl _) (.cells #[vi c.kind, vi c.key, vi c.a, vi c.b] 81)))
      clear hcl hc
      go_upto_region 7 with fail
      clear k0 k1 k2 k3
      generalize wk.alloc (.cells #[vi c.kind, vi c.key, vi c.a, vi c.b] 81) = wo at *
      go_upto_if 24 with fail
      go_cut [10] (fun pv wx => (∃ p : Int, pv = .int .i64 p) ∧ wx = wo)
      case first =>
        by_cases hpl : (k : Int) < (picks.length : Int)
        · obtain ⟨x, hx⟩ := some_at (l := picks) (k := k) (by omega)
          obtain ⟨_, _, _, e5, -, -, hul⟩ := HUo.out.at
          cases e5
          obtain ⟨ub, uo, rfl, x0, -⟩ := hul k x hx
          clear hul hx
          go_wp2_with fail
          go_meet
          exact ⟨⟨_, rfl⟩, rfl⟩
        · go_wp2_with fail
          go_meet
          exact ⟨⟨_, rfl⟩, rfl⟩
      case rest =>
        obtain ⟨⟨p, rfl⟩, hwx⟩ := hcut
        replace hwx := hwx.symm
        subst hwx
        have q0 : wo.cell? ⟨wk.heap.size, 0, none⟩ = some (vi c.kind) := by rw [cell_of HXo.out]; rfl
        have q1 : wo.cell? ⟨wk.heap.size, 1, none⟩ = some (vi c.key) := by rw [cell_of HXo.out]; rfl
        have q2 : wo.cell? ⟨wk.heap.size, 2, none⟩ = some (vi c.a) := by rw [cell_of HXo.out]; rfl
        have q3 : wo.cell? ⟨wk.heap.size, 3, none⟩ = some (vi c.b) := by rw [cell_of HXo.out]; rfl
        by_cases hp2 : p < 2
        · obtain ⟨kl, hkl⟩ := choiceKey HSM.out
          have HK := Lib.hid hkl
          clear hkl
          go_upto_region 11 with (at_mapUpdate; refine wpList_mapUpdate_T (b := w.heap.size) (eK := chK) (eV := Value.bool) rfl _ _ _ rfl choiceKeyed chK_inj Try.underlying29 HSo.out.map rfl c HK.out rfl (p == 1) rfl ?_; intro w4 hM4 hg4)
          have HX4 := Lib.hid ((hg4.block wk.heap.size (by omega) (by simp; omega)).trans HXo.out)
          have hw4 := hg4.size
          have HR4 := Lib.hid (show OwSaid w.heap.size w4 u7 L from World.ownsRow.kept HSo.out.row hg4 (.inr (fun e => map_apart HSo.out.row HSo.out.map e.symm)))
          have HO4 := Lib.hid (World.ownsRow.kept HOo.out hg4 (.inr (fun e => map_apart HOo.out HSo.out.map e.symm)))
          have HG4 := Lib.hid hg4
          have HM4 := Lib.hid hM4
          clear q0 q1 q2 q3 hg4 hM4
          have q0 : w4.cell? ⟨wk.heap.size, 0, none⟩ = some (vi c.kind) := by rw [cell_of HX4.out]; rfl
          have q1 : w4.cell? ⟨wk.heap.size, 1, none⟩ = some (vi c.key) := by rw [cell_of HX4.out]; rfl
          have q2 : w4.cell? ⟨wk.heap.size, 2, none⟩ = some (vi c.a) := by rw [cell_of HX4.out]; rfl
          have q3 : w4.cell? ⟨wk.heap.size, 3, none⟩ = some (vi c.b) := by rw [cell_of HX4.out]; rfl
          go_upto_region 12 with (at_builtin; refine wpList_append_src rfl _ _ 30 rfl eltSaid w.heap.size L.length _ (HR4.out.alloc _) rfl 1 (saidV (c, p == 1)) (src_new (cs := #[vi c.kind, vi c.key, vi c.a, vi c.b, .bool (p == 1)]) rfl rfl) rfl (saidV_one _) (by omega) (by omega) (by simp; omega) ?_; intro v5 w5 ho5 hg5 _)
          have HS5 := Lib.hid (HSo.out.push HND.out HP.out (Nat.le_refl _) HG4.out HM4.out _ hg5 ho5)
          have HO5 := Lib.hid (World.ownsRow.kept (HO4.out.alloc _) hg5 (own_apart HR4.out HO4.out (by decide)))
          clear ho5 hg5
          go_wp2_with fail
          go_roundw
          case rel => exact ⟨k + 1, _, by omega, by go_num, HS5.out, HO5.out⟩
          case measure => simp [intOf]; omega
        · go_wp2_with fail
          go_roundw
          case rel => exact ⟨k + 1, L, by omega, by go_num, HSo.out.skip, HOo.out⟩
          case measure => simp [intOf]; omega
    · obtain rfl : k = C.length := by omega
      go_wp2_with fail
      go_ret2
      exact ⟨L, w.heap.size, _, rfl, Nat.le_refl _, HSk.out.map, HSk.out.row.rd, HSk.out.keys, HSk.out.len, HBk.out⟩
end Go.Proofs.Ytjpmimanigjjoaa
