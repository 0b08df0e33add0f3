/- Facts: choices with what is said of them, as a map and as a list. Names no function. -/
import Derived.Test.YtafboehdihokhaaBound
import Derived.Test.YtafboehdihokhaaRange
import Derived.Test.YtafboehdihokhaaSureEq
namespace Go.Proofs.Ytafboehdihokhaa
open Go.RowKit Go.Maps

deriving instance DecidableEq for GChoice

theorem choiceKeyed : Keyed Try.prog 32 := Keyed.of_law (deep_law_laid laidOutP (m := 2) (by omega) (of_decide_eq_true (by kernel_rfl)) (by kernel_rfl) (by rw [Try.underlying32]))

abbrev chK (c : GChoice) : Value := .agg #[vi c.kind, vi c.key, vi c.a, vi c.b]
theorem chK_inj (x y : GChoice) (h : chK x = chK y) : x = y := by
  obtain ⟨a, b, c, d⟩ := x; obtain ⟨a', b', c', d'⟩ := y
  simp [chK] at h; obtain ⟨rfl, rfl, rfl, rfl⟩ := h; rfl
def SmallCh (c : GChoice) : Prop := i64 c.kind ∧ i64 c.key ∧ i64 c.a ∧ i64 c.b

theorem choiceLits {c : GChoice} (h : SmallCh c) (d : Nat) : Try.prog.keyLits (d + 1 + 1) 32 [vi c.kind, vi c.key, vi c.a, vi c.b] = some [.int .i64 c.kind, .int .i64 c.key, .int .i64 c.a, .int .i64 c.b] := by
  have hc : Try.prog.cellsOf 32 = 4 := by kernel_rfl
  have hi : Try.prog.cellsOf 3 = 1 := by kernel_rfl
  obtain ⟨h1, h2, h3, h4⟩ := h
  unfold Program.keyLits
  rw [Try.underlying32]
  simp [hc, hi, lit_int h1, lit_int h2, lit_int h3, lit_int h4]
theorem choiceKey {c : GChoice} (h : SmallCh c) : ∃ kl, keyOf Try.prog 32 (chK c) = some kl := by
  have hk : Try.prog.keyType 32 = true := by kernel_rfl
  have hc : Try.prog.cellsOf 32 = 4 := by kernel_rfl
  obtain ⟨d, hd⟩ : ∃ d, Try.prog.types.size = d + 1 := ⟨Try.prog.types.size - 1, by have : 0 < Try.prog.types.size := of_decide_eq_true (by kernel_rfl); omega⟩
  have hf : (chK c).formed Try.prog 32 = true := by simp [Value.formed, Try.underlying32, hc]
  have hl := choiceLits h d
  unfold keyOf
  rw [Try.underlying32, hd]
  simp [hk, hf, Value.cells, hl]

abbrev FaL := List (GChoice × Bool)
abbrev MapF (w : World) (b : Nat) (L : FaL) : Prop := MapT Try.prog 32 chK Value.bool w b L
def saidV (p : GChoice × Bool) : List Value := [vi p.1.kind, vi p.1.key, vi p.1.a, vi p.1.b, .bool p.2]
theorem saidV_length (p : GChoice × Bool) : (saidV p).length = 5 := rfl
theorem saidV_one (p : GChoice × Bool) : ∀ u ∈ saidV p, u.oneCell' = true := by
  intro u hu; simp [saidV] at hu; rcases hu with rfl | rfl | rfl | rfl | rfl <;> rfl
abbrev RdSaid (w : World) (v : Value) (G : FaL) : Prop := RdS 5 (fun _ cs x => cs = saidV x) w v G
def OwSaid (base : Nat) (w : World) (v : Value) (G : FaL) : Prop := w.ownsRow base 76 5 v G.length (G.flatMap saidV)
theorem OwSaid.rd {base : Nat} {w : World} {v : Value} {G : FaL} (h : OwSaid base w v G) : RdSaid w v G := rds_of_own saidV_length h
theorem RdSaid.later {w w' : World} {v : Value} {G : FaL} (h : RdSaid w v G) (hb : Below w.heap.size w w') : RdSaid w' v G := RdS.below h hb fun _ _ h => h
theorem RdSaid.at {w : World} {v : Value} {l : FaL} (h : RdSaid w v l) : ∃ a len cap, v = .slice a len cap ∧ len = l.length ∧ l.length ≤ 9223372036854775807 ∧
    ∀ j x, l[j]? = some x → ∃ b off, a = some ⟨b, off, none⟩ ∧ w.cell? ⟨b, off + j * 5, none⟩ = some (vi x.1.kind) ∧ w.cell? ⟨b, off + j * 5 + 1, none⟩ = some (vi x.1.key) ∧ w.cell? ⟨b, off + j * 5 + 2, none⟩ = some (vi x.1.a) ∧ w.cell? ⟨b, off + j * 5 + 3, none⟩ = some (vi x.1.b) ∧ w.cell? ⟨b, off + j * 5 + 4, none⟩ = some (.bool x.2) := by
  obtain ⟨a, len, cap, h1, h2, h3, h4, h5, h6⟩ := h
  refine ⟨a, len, cap, h1, h2, h3, fun j x hj => ?_⟩
  obtain ⟨b, off, cs, ha, hl, hc, rfl⟩ := h6 j x hj
  exact ⟨b, off, ha, by simpa using hc 0 _ rfl, by simpa [Nat.add_assoc] using hc 1 _ rfl, by simpa [Nat.add_assoc] using hc 2 _ rfl, by simpa [Nat.add_assoc] using hc 3 _ rfl, by simpa [Nat.add_assoc] using hc 4 _ rfl⟩
theorem Try.infoSaid : (Try.prog.info? 76).map (fun i => (i.zero, i.size, i.bytes)) = some (some (.agg #[vi 0, vi 0, vi 0, vi 0, .bool false]), 5, 40) := by kernel_rfl
theorem eltSaid : Elt Try.prog 39 76 5 40 (.agg #[vi 0, vi 0, vi 0, vi 0, .bool false]) := by
  obtain ⟨i0, hi, hz0, hz1, hz2⟩ := info_parts Try.infoSaid
  exact ⟨Try.underlying39, by decide, rfl, i0, hi, hz0, hz1, hz2⟩

/-- What crucibleref09.Get says. -/
def getI (G : FaL) (c : GChoice) : Int := match getM G c with
  | some true => 1
  | some false => 0
  | none => -1
theorem getI_one (G : FaL) (c : GChoice) : (getI G c == 1) = (getM G c).getD false := by unfold getI; cases getM G c with | none => rfl | some b => cases b <;> rfl
theorem getI_some (G : FaL) (c : GChoice) : decide (0 ≤ getI G c) = (getM G c).isSome := by unfold getI; cases getM G c with | none => rfl | some b => cases b <;> rfl
theorem getI_bound (G : FaL) (c : GChoice) : -1 ≤ getI G c ∧ getI G c ≤ 1 := by unfold getI; cases getM G c with | none => exact ⟨by decide, by decide⟩ | some b => cases b <;> exact ⟨by decide, by decide⟩

/-- What a choice of a history looks like. -/
structure OkCh (n : Nat) (c : GChoice) : Prop where
  key : 0 ≤ c.key ∧ c.key < 16
  a : 0 ≤ c.a ∧ c.a < n
  b : 0 ≤ c.b ∧ c.b < n
  kind : c.kind = 1 ∧ c.key = 0 ∧ c.b = 0 ∨ c.kind = 2 ∧ c.a < c.b
theorem OkCh.small {n : Nat} {c : GChoice} (h : OkCh n c) (hn : n ≤ 4096) : SmallCh c := by
  have := h.key; have := h.a; have := h.b; have := h.kind
  unfold SmallCh i64; omega

theorem cmS_mem {S : List Bool} {ts : List GTxn} {c : GChoice} {n : Nat} (h : c ∈ cmS S ts n) : ∃ i : Nat, i < n ∧ i < ts.length ∧ c = ⟨1, 0, i, 0⟩ := by
  unfold cmS at h
  rw [List.mem_filterMap] at h
  obtain ⟨i, hi, h⟩ := h
  rw [List.mem_range] at hi
  cases ht : ts[i]? with
  | none => simp [ht] at h
  | some t =>
    have := (List.getElem?_eq_some_iff.1 ht).1
    simp only [ht, Option.bind_some] at h
    split at h
    · simp at h; exact ⟨i, hi, this, h.symm⟩
    · simp at h
theorem befA_mem {ts : List GTxn} {key b n : Nat} {c : GChoice} (h : c ∈ befA ts key b n) : ∃ a : Nat, a < n ∧ c = ⟨2, key, a, b⟩ := by
  unfold befA at h
  rw [List.mem_filterMap] at h
  obtain ⟨a, ha, h⟩ := h
  rw [List.mem_range] at ha
  split at h
  · simp at h; exact ⟨a, ha, h.symm⟩
  · simp at h
theorem befB_mem {ts : List GTxn} {key n : Nat} {c : GChoice} (h : c ∈ befB ts key n) : ∃ a b : Nat, a < b ∧ b < n ∧ c = ⟨2, key, a, b⟩ := by
  unfold befB at h
  rw [List.mem_flatMap] at h
  obtain ⟨b, hb, h⟩ := h
  rw [List.mem_range] at hb
  obtain ⟨a, ha, rfl⟩ := befA_mem h
  exact ⟨a, b, ha, hb, rfl⟩
theorem befK_mem {ts : List GTxn} {n : Nat} {c : GChoice} (h : c ∈ befK ts n) : ∃ key a b : Nat, key < n ∧ a < b ∧ b < ts.length ∧ c = ⟨2, key, a, b⟩ := by
  unfold befK at h
  rw [List.mem_flatMap] at h
  obtain ⟨k, hk, h⟩ := h
  rw [List.mem_range] at hk
  obtain ⟨a, b, ha, hb, rfl⟩ := befB_mem h
  exact ⟨k, a, b, hk, ha, hb, rfl⟩
theorem choicesM_ok {ts : List GTxn} {c : GChoice} (h : c ∈ choicesM ts) : OkCh ts.length c := by
  unfold choicesM at h
  rw [List.mem_append] at h
  rcases h with h | h
  · obtain ⟨i, h1, h2, rfl⟩ := cmS_mem h
    exact ⟨⟨by simp, by simp⟩, ⟨by simp, by simpa using h2⟩, ⟨by simp, by simp; omega⟩, .inl ⟨rfl, rfl, rfl⟩⟩
  · obtain ⟨k, a, b, h1, h2, h3, rfl⟩ := befK_mem h
    exact ⟨⟨by simp, by simp; omega⟩, ⟨by simp, by simp; omega⟩, ⟨by simp, by simp; omega⟩, .inr ⟨rfl, by simp; omega⟩⟩

theorem cmS_nodup (S : List Bool) (ts : List GTxn) : ∀ n, (cmS S ts n).Nodup := by
  intro n
  induction n with
  | zero => simp [cmS]
  | succ n ih =>
    cases ht : ts[n]? with
    | none =>
      have : cmS S ts (n + 1) = cmS S ts n := by simp [cmS, List.range_succ, ht]
      rw [this]; exact ih
    | some t =>
      rw [cmS_succ ht, List.nodup_append]
      refine ⟨ih, by split <;> simp, fun c hc d hd => ?_⟩
      obtain ⟨i, h1, _, rfl⟩ := cmS_mem hc
      split at hd
      · simp at hd; subst hd; simp; omega
      · simp at hd
theorem befA_nodup (ts : List GTxn) (key b : Nat) : ∀ n, (befA ts key b n).Nodup := by
  intro n
  induction n with
  | zero => simp [befA]
  | succ n ih =>
    rw [befA_succ, List.nodup_append]
    refine ⟨ih, by split <;> simp, fun c hc d hd => ?_⟩
    obtain ⟨i, h1, rfl⟩ := befA_mem hc
    split at hd
    · simp at hd; subst hd; simp; omega
    · simp at hd
theorem befB_nodup (ts : List GTxn) (key : Nat) : ∀ n, (befB ts key n).Nodup := by
  intro n
  induction n with
  | zero => simp [befB]
  | succ n ih =>
    rw [befB_succ, List.nodup_append]
    refine ⟨ih, befA_nodup _ _ _ _, fun c hc d hd => ?_⟩
    obtain ⟨a, b, h1, h2, rfl⟩ := befB_mem hc
    obtain ⟨a', h3, rfl⟩ := befA_mem hd
    simp; omega
theorem befK_nodup (ts : List GTxn) : ∀ n, (befK ts n).Nodup := by
  intro n
  induction n with
  | zero => simp [befK]
  | succ n ih =>
    rw [befK_succ, List.nodup_append]
    refine ⟨ih, befB_nodup _ _ _, fun c hc d hd => ?_⟩
    obtain ⟨k, a, b, h1, _, _, rfl⟩ := befK_mem hc
    obtain ⟨a', b', _, _, rfl⟩ := befB_mem hd
    simp; omega
theorem choicesM_nodup (ts : List GTxn) : (choicesM ts).Nodup := by
  unfold choicesM
  rw [List.nodup_append]
  refine ⟨cmS_nodup _ _ _, befK_nodup _ _, fun c hc d hd => ?_⟩
  obtain ⟨i, _, _, rfl⟩ := cmS_mem hc
  obtain ⟨k, a, b, _, _, _, rfl⟩ := befK_mem hd
  simp

/-- Who is done, and whether that is known. -/
def deadB (ts : List GTxn) (i : Nat) : Bool := stOf ts i == 2 || (ts[i]?.map (fun t => (writesM t.ops).length == 0)).getD false
def isM (ts : List GTxn) (L : FaL) (i : Nat) : Bool × Bool :=
  if (sureM ts)[i]?.getD false then (true, true) else if deadB ts i then (false, true) else ((getM L ⟨1, 0, i, 0⟩).getD false, (getM L ⟨1, 0, i, 0⟩).isSome)
def isI (ts : List GTxn) (L : FaL) (i : Nat) : Int :=
  if (refSureN ts ts.length)[i]?.getD false then 1 else if deadB ts i then 0 else getI L ⟨1, 0, i, 0⟩
theorem isI_one {ts : List GTxn} (hu : Uniq ts) (L : FaL) (i : Nat) : (isI ts L i == 1) = (isM ts L i).1 := by
  unfold isI isM
  rw [sure_eq hu]
  split
  · rfl
  · split
    · rfl
    · exact getI_one _ _
theorem isI_some {ts : List GTxn} (hu : Uniq ts) (L : FaL) (i : Nat) : decide (0 ≤ isI ts L i) = (isM ts L i).2 := by
  unfold isI isM
  rw [sure_eq hu]
  split
  · rfl
  · split
    · rfl
    · exact getI_some _ _
theorem isI_bound (ts : List GTxn) (L : FaL) (i : Nat) : -1 ≤ isI ts L i ∧ isI ts L i ≤ 1 := by
  unfold isI
  split
  · exact ⟨by decide, by decide⟩
  · split
    · exact ⟨by decide, by decide⟩
    · exact getI_bound _ _

/-- Is a choice open, and does it count? -/
def openC (ts : List GTxn) (L : FaL) (c : GChoice) : Bool := (getM L c).isNone && (c.kind != 2 || (isM ts L c.a.toNat).1 && (isM ts L c.b.toNat).1)
/-- chains.Next. -/
def nextM (ts : List GTxn) (L : FaL) : Option GChoice := (choicesM ts).find? (openC ts L)
end Go.Proofs.Ytafboehdihokhaa
