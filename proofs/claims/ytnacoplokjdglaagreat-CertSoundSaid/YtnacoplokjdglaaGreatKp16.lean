/- Texts of one proof, one behind the other: DpBrk, ChAllP, CkP, CkW, HxP, HsChk, HsAns. -/
import Derived.Lib.SliceRun
import Derived.Test.YtnacoplokjdglaaGreatKp1
import Derived.Test.YtnacoplokjdglaaGreatKp2
import Derived.Test.YtnacoplokjdglaaGreatKp3
import Derived.Test.YtnacoplokjdglaaGreatKp4
import Derived.Test.YtnacoplokjdglaaGreatKp5
import Derived.Test.YtnacoplokjdglaaGreatKp6
import Derived.Test.YtnacoplokjdglaaGreatKp8
import Derived.Test.YtnacoplokjdglaaGreatKp9
import Derived.Test.YtnacoplokjdglaaGreatKp10
import Derived.Test.YtnacoplokjdglaaGreatKp11
import Derived.Test.YtnacoplokjdglaaGreatKp12
import Derived.Test.YtnacoplokjdglaaGreatKp13
import Derived.Test.YtnacoplokjdglaaGreatKp14
import Derived.Test.YtnacoplokjdglaaGreatKp15
set_option linter.all false
namespace Go.Proofs.YtnacoplokjdglaaGreat
open Go.RowKit Go.Maps

theorem Way.map {α β : Type} {r : α → α → Prop} {s : β → β → Prop} (f : α → β) (h : ∀ a b, r a b → s (f a) (f b)) {a b : α} (hw : Way r a b) : Way s (f a) (f b) := by
  induction hw with
  | one h1 => exact .one (h _ _ h1)
  | more h1 _ ih => exact .more (h _ _ h1) ih
theorem Rounds.map {α β : Type} {r : α → α → Prop} {s : β → β → Prop} (f : α → β) (h : ∀ a b, r a b → s (f a) (f b)) (hr : Rounds r) : Rounds s := by
  obtain ⟨a, hw⟩ := hr
  exact ⟨f a, hw.map f h⟩
theorem rounds_arcK {n : Nat} {l : List GEdge} (level : Int) (h : InN n l) : Rounds (ArcT (nextT n (liftL l level))) ↔ Rounds (ArcK l (level == 1)) := by
  constructor
  · exact Rounds.map (fun u : Nat => (u : Int)) (fun a b hab => (lift_mem l level _ _).1 (arcT_iff.1 hab).1)
  · refine Rounds.map Int.toNat (fun a b hab => ?_)
    have := (arcN_iff h level a b).2 hab
    obtain ⟨h1, h2, h3⟩ := this
    refine arcT_iff.2 ⟨?_, by omega, by omega⟩
    rw [show ((a.toNat : Nat) : Int) = a by omega, show ((b.toNat : Nat) : Int) = b by omega]
    exact h1
/-- The facts say a cycle that the level forbids. -/
def Brk (ts : List GTxn) (L : FaL) (level : Int) : Prop := ∃ l, EdgesOf ts L l ∧ Rounds (ArcK l (level == 1))
theorem brk_cyc {ts : List GTxn} {L : FaL} {level : Int} {l : List GEdge} {C : List Nat} (hn : ts.length ≤ 60) (he : EdgesOf ts L l) (hc : CycI (nextT (sizeM ts.length) (liftL l level)) (sizeM ts.length) C) : 0 < C.length ↔ Brk ts L level := by
  have hs : sizeM ts.length = ts.length := by unfold sizeM; rw [if_neg (by omega), if_neg (by omega)]; omega
  rw [hs] at hc
  have hl : (nextT ts.length (liftL l level)).length = ts.length := nextT_len _ _
  have hc' : CycI (nextT ts.length (liftL l level)) (nextT ts.length (liftL l level)).length C := by rw [hl]; exact hc
  have h1 := hc'.rounds
  rw [rounds_arcK level (edges_in he)] at h1
  constructor
  · intro h
    refine ⟨l, he, Classical.byContradiction fun hr => ?_⟩
    rw [h1.2 hr] at h
    simp at h
  · rintro ⟨l', he', hr⟩
    have : l' = l := edges_ext he'.1 he.1 (fun p => (he'.2 p).trans (he.2 p).symm)
    subst this
    rcases Nat.eq_zero_or_pos C.length with h0 | h0
    · exact absurd hr (h1.1 (List.length_eq_zero_iff.1 h0))
    · exact h0
/-- More facts: whoever is done stays done, each edge stays. -/
theorem dn_more {ts : List GTxn} {L H : FaL} (h : ∀ c b, getM L c = some b → getM H c = some b) (i : Nat) (hd : dnM ts L i = true) : dnM ts H i = true := by
  unfold dnM isM at *
  split at hd
  · rename_i hs; rw [if_pos hs]
  · rename_i hs
    rw [if_neg hs]
    split at hd
    · cases hd
    · rename_i h2
      rw [if_neg h2]
      simp only at hd ⊢
      cases hg : getM L ⟨1, 0, i, 0⟩ with
      | none => rw [hg] at hd; cases hd
      | some b => rw [h _ _ hg]; rw [hg] at hd; exact hd
theorem edge_more {ts : List GTxn} {L H : FaL} (hp : L.Pairwise (fun p q => p.1 ≠ q.1)) (h : ∀ c b, getM L c = some b → getM H c = some b) (e : GEdge) (he : e ∈ edgeL ts L) : e ∈ edgeL ts H := by
  have hr : ∀ r, r ∈ rdsL ts (dnM ts L) → r ∈ rdsL ts (dnM ts H) := fun r hr => by
    obtain ⟨i, t, o, h1, h2, h3, h4, h5⟩ := rds_mem.1 hr
    exact rds_mem.2 ⟨i, t, o, h1, h2, h3, h4.imp_right (dn_more h _), h5⟩
  have hm : ∀ c, hasM ts (dnM ts L) c = true → hasM ts (dnM ts H) c = true := fun c hc => by
    unfold hasM at *
    rw [Bool.and_eq_true, has1_iff, has1_iff] at *
    obtain ⟨⟨n, t, h1, h2, h3, h4⟩, ⟨m, u, h5, h6, h7, h8⟩⟩ := hc
    exact ⟨⟨n, t, h1, h2, dn_more h _ h3, h4⟩, ⟨m, u, h5, h6, dn_more h _ h7, h8⟩⟩
  rcases edge_mem.1 he with ⟨r, h1, h2, h3, h4⟩ | ⟨i, t, o, r, h1, h2, h3, h4, h5⟩ | ⟨p, h1, a, b, h2, h3, h4, h5⟩
  · exact edge_mem.2 (.inl ⟨r, hr r h1, h2, h3, h4⟩)
  · exact edge_mem.2 (.inr (.inl ⟨i, t, o, r, h1, dn_more h _ h2, h3, hr r h4, h5⟩))
  · refine edge_mem.2 (.inr (.inr ⟨p, getM_some (h _ _ (getM_of_mem hp h1)), a, b, h2, hm _ h3, h4, h5.imp_right ?_⟩))
    rintro ⟨r, h6, h7⟩
    exact ⟨r, hr r h6, h7⟩

end Go.Proofs.YtnacoplokjdglaaGreat

namespace Go.Proofs.YtnacoplokjdglaaGreat
open Go.RowKit Go.Maps

theorem nextM_some {ts : List GTxn} {L : FaL} {c : GChoice} (h : nextM ts L = some c) : c ∈ choicesM ts ∧ getM L c = none := by
  unfold nextM at h
  refine ⟨List.mem_of_find?_eq_some h, ?_⟩
  have h1 := List.find?_some h
  unfold openC at h1
  cases hg : getM L c with
  | none => rfl
  | some b => rw [hg] at h1; simp at h1
end Go.Proofs.YtnacoplokjdglaaGreat

namespace Go.Proofs.YtnacoplokjdglaaGreat
open Go.RowKit Go.Maps
/-- The same facts, each choice once. -/
structure SameF (L H : FaL) : Prop where
  get : ∀ c, getM L c = getM H c
  len : H.length = L.length
theorem SameF.refl (L : FaL) : SameF L L := ⟨fun _ => rfl, rfl⟩
theorem isM_same {ts : List GTxn} {L H : FaL} (h : ∀ c, getM L c = getM H c) (i : Nat) : isM ts L i = isM ts H i := by unfold isM; rw [h]
theorem openC_same {ts : List GTxn} {L H : FaL} (h : ∀ c, getM L c = getM H c) (c : GChoice) : openC ts L c = openC ts H c := by
  unfold openC; rw [h, isM_same h, isM_same h]
theorem nextM_same {ts : List GTxn} {L H : FaL} (h : ∀ c, getM L c = getM H c) : nextM ts L = nextM ts H := by
  unfold nextM
  rw [show openC ts L = openC ts H from funext (openC_same h)]
theorem edges_same {ts : List GTxn} {L H : FaL} (hL : L.Pairwise (fun p q => p.1 ≠ q.1)) (hH : H.Pairwise (fun p q => p.1 ≠ q.1)) (h : ∀ c, getM L c = getM H c) {l : List GEdge} (he : EdgesOf ts H l) : EdgesOf ts L l :=
  ⟨he.1, fun e => (he.2 e).trans ⟨fun h1 => edge_more hH (fun c b hb => by rw [h]; exact hb) e h1, fun h1 => edge_more hL (fun c b hb => by rw [← h]; exact hb) e h1⟩⟩
theorem brk_same {ts : List GTxn} {L H : FaL} (hL : L.Pairwise (fun p q => p.1 ≠ q.1)) (hH : H.Pairwise (fun p q => p.1 ≠ q.1)) (h : ∀ c, getM L c = getM H c) {level : Int} : Brk ts L level ↔ Brk ts H level :=
  ⟨fun ⟨l, h1, h2⟩ => ⟨l, edges_same hH hL (fun c => (h c).symm) h1, h2⟩, fun ⟨l, h1, h2⟩ => ⟨l, edges_same hL hH h h1, h2⟩⟩
/-- A cycle that some facts say; empty: none. -/
def NodeC (ts : List GTxn) (L : FaL) (level : Int) (C : List Nat) : Prop := ∃ l, EdgesOf ts L l ∧ CycI (nextT (sizeM ts.length) (liftL l level)) (sizeM ts.length) C
theorem NodeC.brk {ts : List GTxn} {L : FaL} {level : Int} {C : List Nat} (hn : ts.length ≤ 60) (h : NodeC ts L level C) : 0 < C.length ↔ Brk ts L level := by
  obtain ⟨l, h1, h2⟩ := h
  exact brk_cyc hn h1 h2
/-- Facts that name choices stay such. -/
theorem FaOk.nil (ts : List GTxn) : FaOk ts [] := ⟨(fun p h => by cases h), List.nodup_nil⟩
theorem FaOk.next {ts : List GTxn} {L : FaL} (h : FaOk ts L) {c : GChoice} {so : Bool} (hn : nextM ts L = some c) : FaOk ts ((c, so) :: L) := by
  obtain ⟨h1, h2⟩ := nextM_some hn
  refine ⟨fun p hp => ?_, ?_⟩
  · rcases List.mem_cons.1 hp with rfl | hp
    · exact h1
    · exact h.mem p hp
  · rw [List.map_cons, List.nodup_cons]
    refine ⟨fun hm => ?_, h.nd⟩
    obtain ⟨p, hp, hpc⟩ := List.mem_map.1 hm
    exact getM_none.1 h2 p hp hpc

end Go.Proofs.YtnacoplokjdglaaGreat

namespace Go.Proofs.YtnacoplokjdglaaGreat
open Go.RowKit Go.Maps
attribute [local go_sem] Oper.semAt_some

abbrev TrL := List (Value × List Nat)
section
variable {N p : Nat} {tsv : Value} {level B s : Int} {vt fm : Value} {out : Bool} {T : TrL} {W W' : World}
end
theorem SameF.next {L H H1 : FaL} {c : GChoice} {so : Bool} (h : SameF L H) (hg : ∀ k, getM H1 k = if c = k then some so else getM H k) (hl : H1.length = H.length + 1) : SameF ((c, so) :: L) H1 :=
  ⟨fun k => by rw [getM_cons, hg k, h.get k], by rw [hl, h.len]; rfl⟩

theorem Tryz.infoNode : (Tryz.prog.info? 70).map (fun i => (i.zero, i.size, i.bytes)) = some (some (.agg #[.slice none 0 0]), 1, 24) := by kernel_rfl
end Go.Proofs.YtnacoplokjdglaaGreat

namespace Go.Proofs.YtnacoplokjdglaaGreat
open Go.RowKit Go.Maps
/-- An operation of an event of kind k that may be. -/
structure RightOp (k : Int) (o : GOp) : Prop where
  good : GoodOp o
  wr : o.kind = 2 → o.val ≠ 0
  rd : o.kind = 1 → k = 1 → o.val = 0
/-- An event that may be, exactly. -/
structure RightEv (e : GEvent) : Prop where
  good : GoodEv e
  full : e.kind = 1 ∨ e.kind = 2 → e.ops ≠ []
  ops : ∀ o ∈ e.ops, RightOp e.kind o

/-- The last value written to a key. -/
def lstW : List GOp → Int → Option Int
  | [], _ => none
  | o :: l, key => (lstW l key).or (if o.kind = 2 ∧ o.key = key then some o.val else none)
theorem lstW_append (l m : List GOp) (key : Int) : lstW (l ++ m) key = (lstW m key).or (lstW l key) := by
  induction l with
  | nil => simp [lstW]
  | cons o l ih => rw [List.cons_append, lstW, ih, lstW, Option.or_assoc]
theorem lstW_snoc (l : List GOp) (o : GOp) (key : Int) : lstW (l ++ [o]) key = if o.kind = 2 ∧ o.key = key then some o.val else lstW l key := by
  rw [lstW_append]
  simp only [lstW, Option.none_or]
  split <;> simp
/-- Each read that its own transaction wrote ahead of sees that, as far as place n. -/
def OwnN (l : List GOp) (n : Nat) : Prop := ∀ (i : Nat) (o : GOp) (v : Int), i < n → l[i]? = some o → o.kind ≠ 2 → lstW (l.take i) o.key = some v → v = o.val
theorem OwnN.next {l : List GOp} {n : Nat} {o : GOp} (h : OwnN l n) (ho : l[n]? = some o) (hk : ∀ v, o.kind ≠ 2 → lstW (l.take n) o.key = some v → v = o.val) : OwnN l (n + 1) := by
  intro i o' v hlt ho' h2 hv
  rcases Nat.lt_or_ge i n with h' | h'
  · exact h i o' v h' ho' h2 hv
  · obtain rfl : i = n := by omega
    rw [ho] at ho'; cases ho'
    exact hk v h2 hv
/-- What was told is an end of what was asked. -/
def AnsOK (asked told : List GOp) : Prop := asked.length = told.length ∧ ShapeN asked told told.length ∧ OwnN told told.length
def EndOK (asked : List GOp) (e : GEvent) : Prop := if e.kind = 2 then AnsOK asked e.ops else e.ops = []
def endT (t : GTxn) (e : GEvent) : GTxn := if e.kind = 2 then ⟨t.client, 1, e.ops⟩ else if e.kind = 3 then ⟨t.client, 2, t.ops⟩ else t

/-- The written values, and those that some operations write; none: one is written twice. -/
def addW : List (Int × Bool) → List GOp → Option (List (Int × Bool))
  | wr, [] => some wr
  | wr, o :: l => if o.kind = 2 then (if (getM wr o.val).getD false then none else addW (putM wr o.val true) l) else addW wr l
/-- What is known behind some events. -/
structure HSt where
  ts : List GTxn
  op : List (Int × Int)
  wr : List (Int × Bool)
open Classical in
noncomputable def stepH (s : HSt) (e : GEvent) : Option HSt :=
  if RightEv e then
    match getM s.op e.client with
    | none => if e.kind = 1 then (addW s.wr e.ops).map (fun wr => ⟨s.ts ++ [⟨e.client, 0, e.ops⟩], putM s.op e.client s.ts.length, wr⟩) else none
    | some k => if e.kind = 1 then none else
      match s.ts[k.toNat]? with
      | none => none
      | some t => if EndOK t.ops e then some ⟨s.ts.set k.toNat (endT t e), delM s.op e.client, s.wr⟩ else none
  else none
noncomputable def runH : HSt → List GEvent → Option HSt
  | s, [] => some s
  | s, e :: es => (stepH s e).bind fun s' => runH s' es
def hst0 : HSt := ⟨[], [], []⟩
/-- The transactions of a history; none: it is no history. -/
noncomputable def histH (es : List GEvent) : Option (List GTxn) := (runH hst0 es).map (·.ts)

theorem runH_append (s : HSt) (es fs : List GEvent) : runH s (es ++ fs) = (runH s es).bind fun s' => runH s' fs := by
  induction es generalizing s with
  | nil => rfl
  | cons e es ih =>
    rw [List.cons_append, runH, runH, Option.bind_assoc]
    congr 1
    funext s'
    exact ih s'
theorem runH_next {es : List GEvent} {i : Nat} {e : GEvent} {s : HSt} (h : runH hst0 (es.take i) = some s) (he : es[i]? = some e) : runH hst0 (es.take (i + 1)) = stepH s e := by
  rw [take_at he, runH_append, h]
  simp only [Option.bind_some, runH]
  cases stepH s e <;> rfl
theorem runH_none {es : List GEvent} {i : Nat} (h : runH hst0 (es.take i) = none) : histH es = none := by
  unfold histH
  have : runH hst0 es = none := by
    rw [← List.take_append_drop i es, runH_append, h]; rfl
  rw [this]; rfl
theorem stepH_wrong {s : HSt} {e : GEvent} (h : ¬ RightEv e) : stepH s e = none := by unfold stepH; rw [if_neg h]
theorem stepH_new {s : HSt} {e : GEvent} (h : RightEv e) (hk : getM s.op e.client = none) (h1 : e.kind = 1) : stepH s e = (addW s.wr e.ops).map (fun wr => ⟨s.ts ++ [⟨e.client, 0, e.ops⟩], putM s.op e.client s.ts.length, wr⟩) := by
  unfold stepH; rw [if_pos h, hk]; simp only; rw [if_pos h1]
theorem stepH_idle {s : HSt} {e : GEvent} (hk : getM s.op e.client = none) (h1 : e.kind ≠ 1) : stepH s e = none := by
  unfold stepH
  simp [hk, h1]
theorem stepH_busy {s : HSt} {e : GEvent} {k : Int} (hk : getM s.op e.client = some k) (h1 : e.kind = 1) : stepH s e = none := by
  unfold stepH
  simp [hk, h1]
theorem stepH_end {s : HSt} {e : GEvent} {k : Int} {t : GTxn} (h : RightEv e) (hk : getM s.op e.client = some k) (h1 : e.kind ≠ 1) (ht : s.ts[k.toNat]? = some t) (ho : EndOK t.ops e) : stepH s e = some ⟨s.ts.set k.toNat (endT t e), delM s.op e.client, s.wr⟩ := by
  unfold stepH; rw [if_pos h, hk]; simp only; rw [if_neg h1, ht]; simp only; rw [if_pos ho]
theorem stepH_other {s : HSt} {e : GEvent} {k : Int} {t : GTxn} (hk : getM s.op e.client = some k) (ht : s.ts[k.toNat]? = some t) (ho : ¬ EndOK t.ops e) : stepH s e = none := by
  unfold stepH
  split
  · rw [hk]; simp only
    split
    · rfl
    · rw [ht]; simp only; rw [if_neg ho]
  · rfl
/-- What a step that is one gives. -/
theorem stepH_some {s s' : HSt} {e : GEvent} (h : stepH s e = some s') : RightEv e ∧ (getM s.op e.client = none ∧ e.kind = 1 ∧ (∃ wr, addW s.wr e.ops = some wr ∧ s' = ⟨s.ts ++ [⟨e.client, 0, e.ops⟩], putM s.op e.client s.ts.length, wr⟩) ∨
    ∃ k t, getM s.op e.client = some k ∧ e.kind ≠ 1 ∧ s.ts[k.toNat]? = some t ∧ EndOK t.ops e ∧ s' = ⟨s.ts.set k.toNat (endT t e), delM s.op e.client, s.wr⟩) := by
  unfold stepH at h
  split at h
  · rename_i hr
    refine ⟨hr, ?_⟩
    cases hk : getM s.op e.client with
    | none =>
      rw [hk] at h
      simp only at h
      split at h
      · rename_i h1
        rw [Option.map_eq_some_iff] at h
        obtain ⟨wr, hw, rfl⟩ := h
        exact .inl ⟨rfl, h1, wr, hw, rfl⟩
      · cases h
    | some k =>
      rw [hk] at h
      simp only at h
      split at h
      · cases h
      · rename_i h1
        cases ht : s.ts[k.toNat]? with
        | none => rw [ht] at h; cases h
        | some t =>
          rw [ht] at h
          simp only at h
          split at h
          · rename_i ho
            cases h
            exact .inr ⟨k, t, rfl, h1, ht, ho, rfl⟩
          · cases h
  · cases h

/-! The written values. -/
def isWr (wr : List (Int × Bool)) (v : Int) : Prop := (getM wr v).getD false = true
theorem isWr_put {wr : List (Int × Bool)} {v x : Int} : isWr (putM wr v true) x ↔ v = x ∨ isWr wr x := by
  unfold isWr
  rw [getM_put]
  split <;> simp_all
/-- Operations that write nothing twice. -/
def FreshW (wr : List (Int × Bool)) (l : List GOp) : Prop := ∀ (i : Nat) (o : GOp), l[i]? = some o → o.kind = 2 → ¬ isWr wr o.val ∧ ∀ (j : Nat) (p : GOp), j < i → l[j]? = some p → p.kind = 2 → p.val ≠ o.val
theorem addW_some {l : List GOp} : ∀ {wr wr' : List (Int × Bool)}, addW wr l = some wr' → FreshW wr l ∧ ∀ v, isWr wr' v ↔ isWr wr v ∨ ∃ o ∈ l, o.kind = 2 ∧ o.val = v := by
  induction l with
  | nil => intro wr wr' h; simp only [addW] at h; cases h; exact ⟨fun i o h => by simp at h, fun v => by simp⟩
  | cons o l ih =>
    intro wr wr' h
    rw [addW] at h
    split at h
    · rename_i h2
      split at h
      · cases h
      · rename_i hn
        obtain ⟨k1, k2⟩ := ih h
        refine ⟨fun i q hi hq => ?_, fun v => ?_⟩
        · cases i with
          | zero => simp at hi; subst hi; exact ⟨hn, fun j p hj => by omega⟩
          | succ i =>
            have := k1 i q (by simpa using hi) hq
            refine ⟨fun hw => this.1 (isWr_put.2 (.inr hw)), fun j p hj hp hp2 => ?_⟩
            cases j with
            | zero => simp at hp; subst hp; exact fun e => this.1 (isWr_put.2 (.inl e))
            | succ j => exact this.2 j p (by omega) (by simpa using hp) hp2
        · rw [k2, isWr_put]
          simp only [List.mem_cons, exists_eq_or_imp, h2, true_and]
          constructor
          · rintro ((rfl | h) | h)
            · exact .inr (.inl rfl)
            · exact .inl h
            · exact .inr (.inr h)
          · rintro (h | rfl | h)
            · exact .inl (.inr h)
            · exact .inl (.inl rfl)
            · exact .inr h
    · rename_i h2
      obtain ⟨k1, k2⟩ := ih h
      refine ⟨fun i q hi hq => ?_, fun v => ?_⟩
      · cases i with
        | zero => simp at hi; subst hi; exact absurd hq h2
        | succ i =>
          have := k1 i q (by simpa using hi) hq
          refine ⟨this.1, fun j p hj hp hp2 => ?_⟩
          cases j with
          | zero => simp at hp; subst hp; exact absurd hp2 h2
          | succ j => exact this.2 j p (by omega) (by simpa using hp) hp2
      · rw [k2]
        simp [h2]
theorem addW_none {l : List GOp} : ∀ {wr : List (Int × Bool)}, addW wr l = none → ¬ FreshW wr l := by
  induction l with
  | nil => intro wr h; simp [addW] at h
  | cons o l ih =>
    intro wr h hf
    rw [addW] at h
    split at h
    · rename_i h2
      split at h
      · rename_i hn
        exact (hf 0 o rfl h2).1 hn
      · refine ih h fun i q hi hq => ?_
        have := hf (i + 1) q (by simpa using hi) hq
        refine ⟨fun hw => ?_, fun j p hj hp hp2 => this.2 (j + 1) p (by omega) (by simpa using hp) hp2⟩
        rcases isWr_put.1 hw with e | hw
        · exact this.2 0 o (by omega) rfl h2 e
        · exact this.1 hw
    · refine ih h fun i q hi hq => ?_
      have := hf (i + 1) q (by simpa using hi) hq
      exact ⟨this.1, fun j p hj hp hp2 => this.2 (j + 1) p (by omega) (by simpa using hp) hp2⟩

/-! What holds of the transactions behind some events. -/
structure HInv (s : HSt) (n : Nat) : Prop where
  len : s.ts.length ≤ n
  txn : ∀ t ∈ s.ts, (0 ≤ t.state ∧ t.state ≤ 2) ∧ (∀ o ∈ t.ops, GoodOp o) ∧ t.ops.length ≤ 12
  wr : ∀ t ∈ s.ts, ∀ o ∈ t.ops, o.kind = 2 → isWr s.wr o.val
  uniq : Uniq s.ts
  op : ∀ c k, getM s.op c = some k → 0 ≤ k ∧ k.toNat < s.ts.length
theorem shape_writes {l m : List GOp} (h : l.length = m.length) (hs : ShapeN l m m.length) : ∀ o ∈ m, o.kind = 2 → ∃ p ∈ l, p.kind = 2 ∧ p.val = o.val := by
  intro o ho h2
  obtain ⟨i, hi⟩ := List.mem_iff_getElem?.1 ho
  have hlt := (List.getElem?_eq_some_iff.1 hi).1
  obtain ⟨p, hp⟩ := some_at (l := l) (k := i) (by omega)
  obtain ⟨h3, _, h5⟩ := hs i o p hlt hi hp
  exact ⟨p, List.mem_of_getElem? hp, by rw [← h3]; exact h2, (h5 h2).symm⟩
theorem endT_ops (t : GTxn) (e : GEvent) (h : EndOK t.ops e) : ∀ o ∈ (endT t e).ops, o.kind = 2 → ∃ p ∈ t.ops, p.kind = 2 ∧ p.val = o.val := by
  intro o ho h2
  unfold endT at ho
  unfold EndOK at h
  split at ho
  · rename_i hk
    rw [if_pos hk] at h
    exact shape_writes h.1 h.2.1 o ho h2
  · split at ho <;> exact ⟨o, ho, h2, rfl⟩
theorem HInv.step {s s' : HSt} {n : Nat} {e : GEvent} (h : HInv s n) (hs : stepH s e = some s') : HInv s' (n + 1) := by
  obtain ⟨hr, ⟨hk, h1, wr, hw, rfl⟩ | ⟨k, t, hk, h1, ht, ho, rfl⟩⟩ := stepH_some hs
  · obtain ⟨hf, hin⟩ := addW_some hw
    refine ⟨by have := h.len; simp; omega, fun t ht => ?_, fun t ht o ho h2 => ?_, ?_, fun c k hc => ?_⟩
    · rcases List.mem_append.1 ht with ht | ht
      · exact h.txn t ht
      · simp at ht; subst ht; exact ⟨⟨Int.le_refl _, by show (0 : Int) ≤ 2; decide⟩, fun o ho => (hr.ops o ho).good, hr.good.len⟩
    · rw [hin]
      rcases List.mem_append.1 ht with ht | ht
      · exact .inl (h.wr t ht o ho h2)
      · simp at ht; subst ht; exact .inr ⟨o, ho, h2, rfl⟩
    · have key : ∀ t ∈ s.ts, ∀ o ∈ t.ops, ∀ p ∈ e.ops, o.kind = 2 → p.kind = 2 → o.val ≠ p.val := by
        intro t ht o ho p hp h2 h3 hv
        obtain ⟨i, hi⟩ := List.mem_iff_getElem?.1 hp
        have := (hf i p hi h3).1
        rw [← hv] at this
        exact this (h.wr t ht o ho h2)
      intro a b t u ha hb o ho p hp h2 h3 hv
      rw [List.getElem?_append] at ha hb
      split at ha <;> split at hb
      · exact h.uniq a b t u ha hb o ho p hp h2 h3 hv
      · have hu := List.mem_of_getElem? hb
        simp at hu; subst hu
        exact absurd hv (key t (List.mem_of_getElem? ha) o ho p hp h2 h3)
      · have hu := List.mem_of_getElem? ha
        simp at hu; subst hu
        exact absurd hv.symm (key u (List.mem_of_getElem? hb) p hp o ho h3 h2)
      · have h4 := (List.getElem?_eq_some_iff.1 ha).1
        have h5 := (List.getElem?_eq_some_iff.1 hb).1
        simp at h4 h5; omega
    · rw [getM_put] at hc
      split at hc
      · cases hc; simp
      · have := h.op c k hc; simp; omega
  · have hk' := h.op _ _ hk
    have htm := List.mem_of_getElem? ht
    have hto := h.txn t htm
    have hee := endT_ops t e ho
    refine ⟨by have := h.len; simp; omega, fun u hu => ?_, fun u hu o ho h2 => ?_, ?_, fun c k hc => ?_⟩
    · rcases List.mem_or_eq_of_mem_set hu with hu | rfl
      · exact h.txn u hu
      · unfold endT
        split
        · exact ⟨⟨by show (0 : Int) ≤ 1; decide, by show (1 : Int) ≤ 2; decide⟩, fun o ho => (hr.ops o ho).good, hr.good.len⟩
        · split
          · exact ⟨⟨by show (0 : Int) ≤ 2; decide, by show (2 : Int) ≤ 2; decide⟩, hto.2.1, hto.2.2⟩
          · exact hto
    · rcases List.mem_or_eq_of_mem_set hu with hu | rfl
      · exact h.wr u hu o ho h2
      · obtain ⟨p, hp, h3, h4⟩ := hee o ho h2
        rw [← h4]; exact h.wr t htm p hp h3
    · intro a b x y ha hb o ho p hp h2 h3 hv
      rw [List.getElem?_set] at ha hb
      split at ha <;> split at hb
      · omega
      · rename_i e1 e2
        subst e1
        rw [if_pos hk'.2] at ha
        cases ha
        obtain ⟨q, hq, h5, h6⟩ := hee o ho h2
        exact h.uniq _ _ t y ht hb q hq p hp h5 h3 (h6.trans hv)
      · rename_i e1 e2
        subst e2
        rw [if_pos hk'.2] at hb
        cases hb
        obtain ⟨q, hq, h5, h6⟩ := hee p hp h3
        exact h.uniq _ _ x t ha ht o ho q hq h2 h5 (hv.trans h6.symm)
      · exact h.uniq a b x y ha hb o ho p hp h2 h3 hv
    · rw [getM_del] at hc
      split at hc
      · cases hc
      · have := h.op c k hc; simpa using this
theorem HInv.start : HInv hst0 0 := ⟨Nat.le_refl _, (fun t h => by cases h), (fun t h => by cases h), (fun i j t u h => by simp [hst0] at h), (fun c k h => by simp [hst0, getM_nil] at h)⟩
theorem runH_inv {es : List GEvent} : ∀ {i : Nat} {s : HSt}, i ≤ es.length → runH hst0 (es.take i) = some s → HInv s i := by
  intro i
  induction i with
  | zero => intro s _ h; simp [runH] at h; subst h; exact HInv.start
  | succ i ih =>
    intro s hi h
    obtain ⟨e, he⟩ := some_at (l := es) (k := i) (by omega)
    cases hr : runH hst0 (es.take i) with
    | none => rw [take_at he, runH_append, hr] at h; cases h
    | some s0 =>
      rw [runH_next hr he] at h
      exact (ih (by omega) hr).step h
theorem HInv.good {s : HSt} {n : Nat} (h : HInv s n) (hn : n ≤ 60) : GoodTs s.ts := ⟨by have := h.len; omega, h.txn, h.uniq⟩
theorem hist_good {es : List GEvent} {ts : List GTxn} (hes : es.length ≤ 60) (h : histH es = some ts) : GoodTs ts ∧ ts.length ≤ es.length := by
  unfold histH at h
  rw [Option.map_eq_some_iff] at h
  obtain ⟨s, hs, rfl⟩ := h
  have hi := runH_inv (es := es) (i := es.length) (Nat.le_refl _) (by rw [List.take_length]; exact hs)
  exact ⟨hi.good hes, hi.len⟩
end Go.Proofs.YtnacoplokjdglaaGreat

namespace Go.Proofs.YtnacoplokjdglaaGreat
open Go.RowKit Go.Maps
/-- What hist.check answers. -/
def ChkQ (e : GEvent) (w : World) (r : Ending) (w' : World) : Prop := ∃ n : Int, r = .returned (.int .i64 n) ∧ (n = 0 ↔ RightEv e) ∧ Below w.heap.size w w'
theorem ChkQ.bad {e : GEvent} {w w' : World} {r : Ending} {n : Int} (h : r = .returned (.int .i64 n)) (h0 : n ≠ 0) (hn : ¬ RightEv e) (hb : Below w.heap.size w w') : ChkQ e w r w' := ⟨n, h, ⟨(fun h => absurd h h0), fun h => absurd h hn⟩, hb⟩
theorem ChkQ.good {e : GEvent} {w w' : World} {r : Ending} (h : r = .returned (.int .i64 0)) (hg : RightEv e) (hb : Below w.heap.size w w') : ChkQ e w r w' := ⟨0, h, ⟨fun _ => hg, fun _ => rfl⟩, hb⟩

set_option maxRecDepth 100000 in
set_option maxHeartbeats 4000000 in
theorem check_call (e : GEvent) (v : Value) (w : World) (hv : RdOps w v e.ops) :
    Calls Tryz.prog 57 #[.agg #[vi e.kind, vi e.client, v]] w (ChkQ e w) := by
  obtain ⟨kind, client, l⟩ := e
  have hB : Below w.heap.size w (w.alloc (.cells #[vi kind, vi client, v] 53)) := (Below.refl _ _).alloc (Nat.le_refl _) _
  have hV := hv.later hB
  have HV := Lib.hid hV
  have HB := Lib.hid hB
  obtain ⟨a, len, cap, rfl, rfl, hm, -⟩ := hv.at
  clear hv hV hB
  show Calls Tryz.prog 57 #[.agg #[vi kind, vi client, .slice a l.length cap]] w _
  go_enter Tryz.func57, Tryz.ntmps57
  by_cases a1 : kind < 1
  · go_wp2_with fail
    go_ret
    exact .bad rfl (by decide) (fun h => absurd (show 1 ≤ kind from h.good.kind0) (by omega)) HB.out
  by_cases a2 : kind > 4
  · go_wp2_with fail
    go_ret
    exact .bad rfl (by decide) (fun h => absurd (show kind ≤ 4 from h.good.kind1) (by omega)) HB.out
  by_cases a3 : client < 1
  · go_wp2_with fail
    go_ret
    exact .bad rfl (by decide) (fun h => absurd (show 1 ≤ client from h.good.cl0) (by omega)) HB.out
  by_cases a4 : client > 16
  · go_wp2_with fail
    go_ret
    exact .bad rfl (by decide) (fun h => absurd (show client ≤ 16 from h.good.cl1) (by omega)) HB.out
  by_cases a5 : (l.length : Int) > 12
  · go_wp2_with fail
    go_ret
    exact .bad rfl (by decide) (fun h => absurd (show l.length ≤ 12 from h.good.len) (by omega)) HB.out
  go_upto_region 3 with fail
  go_cut [43] (fun r wx => (∃ b, r = .bool b ∧ (b = true → ¬ RightEv ⟨kind, client, l⟩) ∧ (b = false → kind = 1 ∨ kind = 2 → l ≠ [])) ∧ wx = w.alloc (.cells #[vi kind, vi client, .slice a l.length cap] 53))
  case first =>
    by_cases b3 : kind = 3
    · have c3 := bne_f b3
      have K := Lib.hid b3
      clear b3
      go_wp2_with fail
      go_meet
      exact ⟨⟨false, rfl, (fun h => by cases h), fun _ h => absurd h (by have := K.out; omega)⟩, rfl⟩
    · have c3 := bne_t b3
      have K := Lib.hid b3
      clear b3
      by_cases b4 : kind = 4
      · have c4 := bne_f b4
        have K2 := Lib.hid b4
        clear b4
        go_wp2_with fail
        go_meet
        exact ⟨⟨false, rfl, (fun h => by cases h), fun _ h => absurd h (by have := K2.out; omega)⟩, rfl⟩
      · have c4 := bne_t b4
        have K2 := Lib.hid b4
        clear b4
        by_cases b1 : (l.length : Int) = 0
        · have c1 := beq_t b1
          have L0 := Lib.hid (show l = [] from List.length_eq_zero_iff.1 (by omega))
          have K3 := Lib.hid (show kind = 1 ∨ kind = 2 by have := K.out; have := K2.out; omega)
          clear b1
          go_wp2_with fail
          go_meet
          exact ⟨⟨true, rfl, (fun _ h => h.full K3.out L0.out), fun h => by cases h⟩, rfl⟩
        · have c1 := beq_f b1
          have L0 := Lib.hid (show l ≠ [] from fun h => b1 (by rw [h]; rfl))
          clear b1
          go_wp2_with fail
          go_meet
          exact ⟨⟨false, rfl, (fun h => by cases h), fun _ _ => L0.out⟩, rfl⟩
  case rest =>
    obtain ⟨⟨b, rfl, hbt, hbf⟩, rfl⟩ := hcut
    cases b with
    | true =>
      have HBT := Lib.hid (hbt rfl)
      clear hbt hbf
      go_wp2_with fail
      go_ret
      exact .bad rfl (by decide) HBT.out HB.out
    | false =>
      have HBF := Lib.hid (hbf rfl)
      clear hbt hbf
      have HB1 := Lib.hid (show Below w.heap.size w (w.alloc (.cells #[vi kind, vi client, .slice a l.length cap] 53)) from HB.out)
      have q0 : (w.alloc (.cells #[vi kind, vi client, .slice a l.length cap] 53)).cell? ⟨w.heap.size, 0, none⟩ = some (vi kind) := by rw [cell_of (alloc_at _ _)]; rfl
      have hw1 : (w.alloc (.cells #[vi kind, vi client, .slice a l.length cap] 53)).heap.size = w.heap.size + 1 := by simp
      have Q0 := Lib.hid q0
      clear q0
      go_wp2_with fail
      generalize w.alloc (.cells #[vi kind, vi client, .slice a l.length cap] 53) = w1 at *
      go_loopw [47] (fun i wr => ∃ k : Nat, k ≤ l.length ∧ i = .int .i64 k ∧ Hid (∀ j o, j < k → l[j]? = some o → RightOp kind o) ∧ Below w1.heap.size w1 wr) (fun i _ => l.length - (intOf i).toNat)
      case atStart => exact ⟨0, Nat.zero_le _, rfl, Lib.hid (fun j u hj => absurd hj (Nat.not_lt_zero _)), Below.refl _ _⟩
      case round =>
        obtain ⟨wk, rfl⟩ : ∃ wk : World, wk = wr := ⟨_, rfl⟩
        obtain ⟨k, hk, rfl, HN, hb⟩ := hrel
        have HBk := Lib.hid hb
        have hwk := hb.size
        have hwk2 : w.heap.size < wk.heap.size := by omega
        have q1 := cell_later hb Q0.out
        clear hb
        by_cases hlt : k < l.length
        · obtain ⟨o, ho⟩ := some_at hlt
          obtain ⟨_, _, _, e5, -, -, hcl⟩ := HV.out.at
          cases e5
          obtain ⟨b, off, rfl, k0', k1', k2'⟩ := hcl k o ho
          have k0 := cell_later HBk.out k0'
          have k1 := cell_later HBk.out k1'
          have k2 := cell_later HBk.out k2'
          have HO := Lib.hid (List.mem_of_getElem? ho)
          have HNX := Lib.hid (show RightOp kind o → ∀ j o, j < k + 1 → l[j]? = some o → RightOp kind o from fun hr j o' hj ho' => by
            rcases Nat.lt_or_ge j k with h | h
            · exact HN.out j o' h ho'
            · obtain rfl : j = k := by omega
              rw [ho] at ho'; cases ho'; exact hr)
          have HBA := Lib.hid (HB1.out.trans ((HBk.out.alloc hwk (.cells #[vi o.kind, vi o.key, vi o.val] 51)).mono HB1.out.size))
          have hkI : (k : Int) < (l.length : Int) := by omega
          clear hcl ho k0' k1' k2'
          by_cases g1 : o.kind = 1
          · have G1 := Lib.hid g1
            have e1 := beq_t g1
            have e1' := bne_f g1
            clear g1
            by_cases d1 : o.key < 0
            · have HNO := Lib.hid (show ¬ RightEv ⟨kind, client, l⟩ from fun h => absurd (h.ops o HO.out).good.key0 (by omega))
              go_wp2_with fail
              go_ret
              exact .bad rfl (by decide) HNO.out HBA.out
            by_cases d2 : o.key ≥ 16
            · have HNO := Lib.hid (show ¬ RightEv ⟨kind, client, l⟩ from fun h => absurd (h.ops o HO.out).good.key1 (by omega))
              go_wp2_with fail
              go_ret
              exact .bad rfl (by decide) HNO.out HBA.out
            by_cases d3 : o.val < 0
            · have HNO := Lib.hid (show ¬ RightEv ⟨kind, client, l⟩ from fun h => absurd (h.ops o HO.out).good.val0 (by omega))
              go_wp2_with fail
              go_ret
              exact .bad rfl (by decide) HNO.out HBA.out
            by_cases d4 : o.val ≥ 1099511627776
            · have HNO := Lib.hid (show ¬ RightEv ⟨kind, client, l⟩ from fun h => absurd (h.ops o HO.out).good.val1 (by omega))
              go_wp2_with fail
              go_ret
              exact .bad rfl (by decide) HNO.out HBA.out
            have HGO := Lib.hid (show GoodOp o from ⟨.inl G1.out, by omega, by omega, by omega, by omega⟩)
            have G2 := Lib.hid (show o.kind ≠ 2 from by have := G1.out; omega)
            by_cases g4 : kind = 1
            · have f4 := beq_t g4
              have G4 := Lib.hid g4
              clear g4
              by_cases g3 : o.val = 0
              · have f3 := bne_f g3
                have HR := Lib.hid (HNX.out ⟨HGO.out, fun h => absurd h G2.out, fun _ _ => g3⟩)
                clear g3
                go_wp2_with fail
                go_roundw
                case rel => exact ⟨k + 1, by omega, by go_num, HR, HBk.out.alloc hwk _⟩
                case measure => simp [intOf]; omega
              · have f3 := bne_t g3
                have HNO := Lib.hid (show ¬ RightEv ⟨kind, client, l⟩ from fun h => g3 ((h.ops o HO.out).rd G1.out G4.out))
                clear g3
                go_wp2_with fail
                go_ret
                exact .bad rfl (by decide) HNO.out HBA.out
            · have f4 := beq_f g4
              have HR := Lib.hid (HNX.out ⟨HGO.out, fun h => absurd h G2.out, fun _ h => absurd h g4⟩)
              clear g4
              go_wp2_with fail
              go_roundw
              case rel => exact ⟨k + 1, by omega, by go_num, HR, HBk.out.alloc hwk _⟩
              case measure => simp [intOf]; omega
          · have G1 := Lib.hid g1
            have e1 := beq_f g1
            have e1' := bne_t g1
            clear g1
            by_cases g2 : o.kind = 2
            · have G2 := Lib.hid g2
              have e2 := bne_f g2
              clear g2
              by_cases d1 : o.key < 0
              · have HNO := Lib.hid (show ¬ RightEv ⟨kind, client, l⟩ from fun h => absurd (h.ops o HO.out).good.key0 (by omega))
                go_wp2_with fail
                go_ret
                exact .bad rfl (by decide) HNO.out HBA.out
              by_cases d2 : o.key ≥ 16
              · have HNO := Lib.hid (show ¬ RightEv ⟨kind, client, l⟩ from fun h => absurd (h.ops o HO.out).good.key1 (by omega))
                go_wp2_with fail
                go_ret
                exact .bad rfl (by decide) HNO.out HBA.out
              by_cases d3 : o.val < 1
              · have HNO := Lib.hid (show ¬ RightEv ⟨kind, client, l⟩ from fun h => absurd (h.ops o HO.out).good.val0 (by have := (h.ops o HO.out).wr G2.out; omega))
                go_wp2_with fail
                go_ret
                exact .bad rfl (by decide) HNO.out HBA.out
              by_cases d4 : o.val ≥ 1099511627776
              · have HNO := Lib.hid (show ¬ RightEv ⟨kind, client, l⟩ from fun h => absurd (h.ops o HO.out).good.val1 (by omega))
                go_wp2_with fail
                go_ret
                exact .bad rfl (by decide) HNO.out HBA.out
              have HR := Lib.hid (HNX.out ⟨⟨.inr G2.out, by omega, by omega, by omega, by omega⟩, fun _ => by omega, fun h => absurd h G1.out⟩)
              cases f4 : kind == 1 with
              | true =>
                go_wp2_with fail
                go_roundw
                case rel => exact ⟨k + 1, by omega, by go_num, HR, HBk.out.alloc hwk _⟩
                case measure => simp [intOf]; omega
              | false =>
                go_wp2_with fail
                go_roundw
                case rel => exact ⟨k + 1, by omega, by go_num, HR, HBk.out.alloc hwk _⟩
                case measure => simp [intOf]; omega
            · have e2 := bne_t g2
              have HNO := Lib.hid (show ¬ RightEv ⟨kind, client, l⟩ from fun h => ((h.ops o HO.out).good.kind).elim G1.out g2)
              clear g2
              go_wp2_with fail
              go_ret
              exact .bad rfl (by decide) HNO.out HBA.out
        · obtain rfl : k = l.length := by omega
          have HALL := Lib.hid (show ∀ o ∈ l, RightOp kind o from fun o ho => by
            obtain ⟨j, hj, rfl⟩ := List.mem_iff_getElem.1 ho
            exact HN.out j _ hj (List.getElem?_eq_getElem hj))
          go_wp2_with fail
          go_ret
          exact .good rfl ⟨⟨by show 1 ≤ kind; omega, by show kind ≤ 4; omega, by show 1 ≤ client; omega, by show client ≤ 16; omega, by show l.length ≤ 12; omega, fun o ho => (HALL.out o ho).good⟩, HBF.out, HALL.out⟩ (HB1.out.trans (HBk.out.mono HB1.out.size))
end Go.Proofs.YtnacoplokjdglaaGreat

namespace Go.Proofs.YtnacoplokjdglaaGreat
open Go.RowKit Go.Maps
/-- What was written so far, by keys. -/
def ownP (l : List GOp) : List (Int × Int) := l.foldl (fun s o => if o.kind = 2 then putM s o.key o.val else s) []
theorem ownP_next {l : List GOp} {k : Nat} {o : GOp} (h : l[k]? = some o) : ownP (l.take (k + 1)) = if o.kind = 2 then putM (ownP (l.take k)) o.key o.val else ownP (l.take k) := by
  unfold ownP; rw [take_at h, List.foldl_append]; rfl
theorem ownP_get (l : List GOp) : ∀ (n : Nat) (key : Int), getM (ownP (l.take n)) key = lstW (l.take n) key := by
  intro n
  induction n with
  | zero => intro key; rfl
  | succ n ih =>
    intro key
    cases ho : l[n]? with
    | none =>
      have : l.take (n + 1) = l.take n := by rw [List.take_of_length_le (by have := List.getElem?_eq_none_iff.1 ho; omega), List.take_of_length_le (by have := List.getElem?_eq_none_iff.1 ho; omega)]
      rw [this]; exact ih key
    | some o =>
      rw [ownP_next ho, take_at ho, lstW_snoc]
      by_cases h2 : o.kind = 2
      · rw [if_pos h2, getM_put, ih]
        by_cases hk : o.key = key
        · rw [if_pos hk, if_pos ⟨h2, hk⟩]
        · rw [if_neg hk, if_neg (fun h => hk h.2)]
      · rw [if_neg h2, ih, if_neg (fun h => h2 h.1)]

/-- What hist.answer answers. -/
def AnsHQ (l : List GOp) (e : GEvent) (w : World) (r : Ending) (w' : World) : Prop := ∃ n : Int, r = .returned (.int .i64 n) ∧ (n = 0 ↔ EndOK l e) ∧ Below w.heap.size w w'
theorem AnsHQ.bad {l : List GOp} {e : GEvent} {w w' : World} {r : Ending} {n : Int} (h : r = .returned (.int .i64 n)) (hn : n ≠ 0) (hno : ¬ EndOK l e) (hb : Below w.heap.size w w') : AnsHQ l e w r w' := ⟨n, h, ⟨fun h => absurd h hn, fun h => absurd h hno⟩, hb⟩
theorem AnsHQ.good {l : List GOp} {e : GEvent} {w w' : World} {r : Ending} (h : r = .returned (.int .i64 0)) (ho : EndOK l e) (hb : Below w.heap.size w w') : AnsHQ l e w r w' := ⟨0, h, ⟨fun _ => ho, fun _ => rfl⟩, hb⟩

set_option maxRecDepth 100000 in
set_option maxHeartbeats 8000000 in
theorem answerH_call (v u : Value) (l : List GOp) (e : GEvent) (w : World) (hv : RdOps w v l) (hu : RdOps w u e.ops) (hr : RightEv e) :
    Calls Tryz.prog 59 #[v, .agg #[vi e.kind, vi e.client, u]] w (AnsHQ l e w) := by
  obtain ⟨kind, client, m⟩ := e
  have HB0 := Lib.hid ((Below.refl w.heap.size w).alloc (Nat.le_refl _) (.cells #[vi kind, vi client, u] 53))
  have HV := Lib.hid hv
  have HU := Lib.hid hu
  have HR := Lib.hid hr
  obtain ⟨a, len, cap, rfl, rfl, hm1, -⟩ := hv.at
  obtain ⟨a2, len2, cap2, rfl, rfl, hm2, -⟩ := hu.at
  have hml : m.length ≤ 12 := hr.good.len
  have hmm := @run_makeMap Tryz.prog
  clear hv hu hr
  show Calls Tryz.prog 59 #[.slice a l.length cap, .agg #[vi kind, vi client, .slice a2 m.length cap2]] w _
  go_enter Tryz.func59, Tryz.ntmps59
  by_cases h2 : kind = 2
  · have c2 := bne_f h2
    have H2 := Lib.hid h2
    have HEO := Lib.hid (show EndOK l ⟨kind, client, m⟩ = AnsOK l m from by unfold EndOK; rw [if_pos h2])
    clear h2
    by_cases hl : (l.length : Int) = (m.length : Int)
    · have HL := Lib.hid (show l.length = m.length by omega)
      have hlb : ((l.length : Int) != (m.length : Int)) = false := bne_f hl
      clear hl
      go_wp2_with fail
      have HX0 := Lib.hid (show ((w.alloc (.cells #[vi kind, vi client, .slice a2 m.length cap2] 53)).alloc (.map #[] 0)).heap[w.heap.size]? = some (.cells #[vi kind, vi client, .slice a2 m.length cap2] 53) from (Below.heap_alloc _ _ _ (by simp)).trans (alloc_at w _))
      have HM0 := Lib.hid (MapT.made (P := Tryz.prog) (k := 3) (eK := vi) (eV := vi) (w.alloc (.cells #[vi kind, vi client, .slice a2 m.length cap2] 53)))
      have HBA := Lib.hid (HB0.out.alloc (by simp) (.map #[] 0))
      have hw1 : ((w.alloc (.cells #[vi kind, vi client, .slice a2 m.length cap2] 53)).alloc (.map #[] 0)).heap.size = w.heap.size + 2 := by simp
      have hw0 : (w.alloc (.cells #[vi kind, vi client, .slice a2 m.length cap2] 53)).heap.size = w.heap.size + 1 := by simp
      rw [hw0] at HM0
      clear hmm hw0
      generalize ((w.alloc (.cells #[vi kind, vi client, .slice a2 m.length cap2] 53)).alloc (.map #[] 0)) = w1 at *
      go_loopw [6, 7, 8, 9, 10, 28] (fun _ _ _ _ _ n wr => ∃ k : Nat, k ≤ m.length ∧ n = .int .i64 k ∧ Hid (ShapeN l m k ∧ OwnN m k) ∧ Hid (MapT Tryz.prog 3 vi vi wr (w.heap.size + 1) (ownP (m.take k))) ∧ w.heap.size + 2 ≤ wr.heap.size ∧ Hid (Below (w.heap.size + 1) w1 wr)) (fun _ _ _ _ _ n _ => m.length - (intOf n).toNat)
      case atStart => exact ⟨0, Nat.zero_le _, rfl, Lib.hid ⟨fun i o p h => absurd h (Nat.not_lt_zero _), fun i o v h => absurd h (Nat.not_lt_zero _)⟩, HM0, by omega, Lib.hid (Below.refl _ _)⟩
      case round =>
        obtain ⟨wk, rfl⟩ : ∃ wk : World, wk = wr := ⟨_, rfl⟩
        obtain ⟨k, hk, rfl, HF, HM, hwk, HBk⟩ := hrel
        have HBW := Lib.hid (HBA.out.trans (HBk.out.mono (by omega)))
        by_cases hlt : k < m.length
        · have hkM : (k : Int) < (m.length : Int) := by omega
          have hkL : (k : Int) < (l.length : Int) := by have := HL.out; omega
          obtain ⟨o, ho⟩ := some_at hlt
          obtain ⟨p, hp⟩ := some_at (l := l) (k := k) (by have := HL.out; omega)
          obtain ⟨_, _, _, e5, -, -, hcl⟩ := (HU.out.later HBW.out).at
          cases e5
          obtain ⟨b, off, rfl, k0, k1, k2⟩ := hcl k o ho
          obtain ⟨_, _, _, e5, -, -, hcl2⟩ := (HV.out.later HBW.out).at
          cases e5
          obtain ⟨b2, off2, rfl, m0, m1, m2⟩ := hcl2 k p hp
          have HO := Lib.hid ho
          have HP := Lib.hid hp
          have HGO := Lib.hid (HR.out.good.ops o (List.mem_of_getElem? ho))
          have HK := Lib.hid (intKey (n := o.key) (by have := HGO.out.key0; have := HGO.out.key1; unfold i64; omega))
          clear hcl hcl2 ho hp
          have m0' : ∀ o', (wk.alloc o').cell? ⟨b2, off2 + k * 3, none⟩ = some (vi p.kind) := fun o' => by rw [World.cell?_alloc_past _ _ _ (World.block_lt_of_cell? wk _ m0)]; exact m0
          have m1' : ∀ o', (wk.alloc o').cell? ⟨b2, off2 + k * 3 + 1, none⟩ = some (vi p.key) := fun o' => by rw [World.cell?_alloc_past _ _ _ (World.block_lt_of_cell? wk _ m1)]; exact m1
          have m2' : ∀ o', (wk.alloc o').cell? ⟨b2, off2 + k * 3 + 2, none⟩ = some (vi p.val) := fun o' => by rw [World.cell?_alloc_past _ _ _ (World.block_lt_of_cell? wk _ m2)]; exact m2
          have hz1 : wk.heap.size < (wk.alloc (.cells #[vi o.kind, vi o.key, vi o.val] 51)).heap.size := by simp
          go_upto_region 12 with fail
          have HXo := Lib.hid (show ((wk.alloc (.cells #[vi o.kind, vi o.key, vi o.val] 51)).alloc (.cells #[vi p.kind, vi p.key, vi p.val] 51)).heap[wk.heap.size]? = some (.cells #[vi o.kind, vi o.key, vi o.val] 51) from (Below.heap_alloc _ _ _ (by simp)).trans (alloc_at wk _))
          have HXp := Lib.hid (show ((wk.alloc (.cells #[vi o.kind, vi o.key, vi o.val] 51)).alloc (.cells #[vi p.kind, vi p.key, vi p.val] 51)).heap[wk.heap.size + 1]? = some (.cells #[vi p.kind, vi p.key, vi p.val] 51) from by have := alloc_at (wk.alloc (.cells #[vi o.kind, vi o.key, vi o.val] 51)) (.cells #[vi p.kind, vi p.key, vi p.val] 51); simpa using this)
          have HB2 := Lib.hid ((HBk.out.alloc (by have := HBk.out.size; omega) (.cells #[vi o.kind, vi o.key, vi o.val] 51)).alloc (by have := HBk.out.size; simp; omega) (.cells #[vi p.kind, vi p.key, vi p.val] 51))
          have HM2 := Lib.hid (HM.out.frame (w' := (wk.alloc (.cells #[vi o.kind, vi o.key, vi o.val] 51)).alloc (.cells #[vi p.kind, vi p.key, vi p.val] 51)) (by rw [Below.heap_alloc _ _ _ (by simp; omega), Below.heap_alloc _ _ _ (by omega)]))
          have hsz2 : ((wk.alloc (.cells #[vi o.kind, vi o.key, vi o.val] 51)).alloc (.cells #[vi p.kind, vi p.key, vi p.val] 51)).heap.size = wk.heap.size + 2 := by simp
          clear k0 k1 k2 m0 m1 m2 m0' m1' m2' hz1
          generalize (wk.alloc (.cells #[vi o.kind, vi o.key, vi o.val] 51)).alloc (.cells #[vi p.kind, vi p.key, vi p.val] 51) = w2 at *
          have HBX := Lib.hid (HBA.out.trans (HB2.out.mono (by omega)))
          have q0 : w2.cell? ⟨wk.heap.size, 0, none⟩ = some (vi o.kind) := by rw [cell_of HXo.out]; rfl
          have q1 : w2.cell? ⟨wk.heap.size, 1, none⟩ = some (vi o.key) := by rw [cell_of HXo.out]; rfl
          have q2 : w2.cell? ⟨wk.heap.size, 2, none⟩ = some (vi o.val) := by rw [cell_of HXo.out]; rfl
          have p0 : w2.cell? ⟨wk.heap.size + 1, 0, none⟩ = some (vi p.kind) := by rw [cell_of HXp.out]; rfl
          have p1 : w2.cell? ⟨wk.heap.size + 1, 1, none⟩ = some (vi p.key) := by rw [cell_of HXp.out]; rfl
          have p2 : w2.cell? ⟨wk.heap.size + 1, 2, none⟩ = some (vi p.val) := by rw [cell_of HXp.out]; rfl
          by_cases d1 : o.kind = p.kind
          case neg =>
            have e1 := bne_t d1
            have HNO := Lib.hid (show ¬ EndOK l ⟨kind, client, m⟩ from by rw [HEO.out]; exact fun h => d1 (h.2.1 k o p hlt HO.out HP.out).1)
            clear d1
            go_wp2_with fail
            go_ret
            exact .bad rfl (by decide) HNO.out HBX.out
          have e1 := bne_f d1
          have D1 := Lib.hid d1
          clear d1
          by_cases d2 : o.key = p.key
          case neg =>
            have e2 := bne_t d2
            have HNO := Lib.hid (show ¬ EndOK l ⟨kind, client, m⟩ from by rw [HEO.out]; exact fun h => d2 (h.2.1 k o p hlt HO.out HP.out).2.1)
            clear d2
            go_wp2_with fail
            go_ret
            exact .bad rfl (by decide) HNO.out HBX.out
          have e2 := bne_f d2
          have D2 := Lib.hid d2
          clear d2
          have hlk := (MapT.lookup intKeyed vi_inj (t := 115) (e := 3) Tryz.underlying115 HM2.out o.key HK.out (zeroI w2)).2
          have HGE := Lib.hid (ownP_get m k o.key)
          by_cases d3 : o.kind = 2
          · have e3 := beq_t d3
            have D3 := Lib.hid d3
            have HNX := Lib.hid (show ownP (m.take (k + 1)) = putM (ownP (m.take k)) o.key o.val from by rw [ownP_next HO.out, if_pos d3])
            clear d3
            by_cases d4 : o.val = p.val
            case neg =>
              have e4 := bne_t d4
              have HNO := Lib.hid (show ¬ EndOK l ⟨kind, client, m⟩ from by rw [HEO.out]; exact fun h => d4 ((h.2.1 k o p hlt HO.out HP.out).2.2 D3.out))
              clear d4
              go_wp2_with fail
              go_ret
              exact .bad rfl (by decide) HNO.out HBX.out
            have e4 := bne_f d4
            have HSN := Lib.hid (show ShapeN l m (k + 1) ∧ OwnN m (k + 1) from ⟨HF.out.1.next HO.out HP.out ⟨D1.out, D2.out, fun _ => d4⟩, HF.out.2.next HO.out (fun v h => absurd D3.out h)⟩)
            clear d4
            go_wp2_with (at_mapUpdate; refine wpList_mapUpdate_T (b := w.heap.size + 1) (eK := vi) (eV := vi) rfl _ _ _ rfl intKeyed vi_inj Tryz.underlying115 HM2.out rfl o.key HK.out rfl o.val rfl ?_; intro w3 hM3 hg3)
            go_roundw
            case rel =>
              refine ⟨k + 1, by omega, by go_num, HSN, Lib.hid ?_, by have := hg3.size; omega, Lib.hid (HB2.out.grown hg3 (by have := HB2.out.size; omega) (fun j hj => by cases hj; omega))⟩
              rw [HNX.out]; exact hM3
            case measure => simp [intOf]; omega
          · have e3 := beq_f d3
            have D3 := Lib.hid d3
            have HNX := Lib.hid (show ownP (m.take (k + 1)) = ownP (m.take k) from by rw [ownP_next HO.out, if_neg d3])
            have HSN := Lib.hid (show ShapeN l m (k + 1) from HF.out.1.next HO.out HP.out ⟨D1.out, D2.out, fun h => absurd h d3⟩)
            clear d3
            cases hg : getM (ownP (m.take k)) o.key with
            | none =>
              rw [hg] at hlk
              have HON := Lib.hid (show OwnN m (k + 1) from HF.out.2.next HO.out (fun v _ hv => by rw [← HGE.out, hg] at hv; cases hv))
              simp only [Option.map_none, Option.getD_none, Option.isSome_none] at hlk
              clear hg
              go_wp2_with fail
              go_roundw
              case rel => exact ⟨k + 1, by omega, by go_num, Lib.hid ⟨HSN.out, HON.out⟩, Lib.hid (by rw [HNX.out]; exact HM2.out), by omega, HB2⟩
              case measure => simp [intOf]; omega
            | some y =>
              rw [hg] at hlk
              simp only [Option.map_some, Option.getD_some, Option.isSome_some] at hlk
              by_cases d4 : y = o.val
              · have e4 := bne_f d4
                have HON := Lib.hid (show OwnN m (k + 1) from HF.out.2.next HO.out (fun v _ hv => by rw [← HGE.out, hg] at hv; cases hv; exact d4))
                clear hg d4
                go_wp2_with fail
                go_roundw
                case rel => exact ⟨k + 1, by omega, by go_num, Lib.hid ⟨HSN.out, HON.out⟩, Lib.hid (by rw [HNX.out]; exact HM2.out), by omega, HB2⟩
                case measure => simp [intOf]; omega
              · have e4 := bne_t d4
                have HNO := Lib.hid (show ¬ EndOK l ⟨kind, client, m⟩ from by
                  rw [HEO.out]
                  exact fun h => d4 (h.2.2 k o y hlt HO.out D3.out (by rw [← HGE.out]; exact hg)))
                clear hg d4
                go_wp2_with fail
                go_ret
                exact .bad rfl (by decide) HNO.out HBX.out
        · obtain rfl : k = m.length := by omega
          have HE := Lib.hid (show EndOK l ⟨kind, client, m⟩ from by rw [HEO.out]; exact ⟨HL.out, HF.out.1, HF.out.2⟩)
          go_wp2_with fail
          go_ret
          exact .good rfl HE.out HBW.out
    · have hlb : ((l.length : Int) != (m.length : Int)) = true := bne_t hl
      have HNO := Lib.hid (show ¬ EndOK l ⟨kind, client, m⟩ from by rw [HEO.out]; exact fun h => hl (by rw [h.1]))
      clear hl
      go_wp2_with fail
      go_ret
      exact .bad rfl (by decide) HNO.out HB0.out
  · have c2 := bne_t h2
    have HEO := Lib.hid (show EndOK l ⟨kind, client, m⟩ = (m = []) from by unfold EndOK; rw [if_neg h2])
    clear h2
    by_cases h0 : (m.length : Int) = 0
    · have c3 := bne_f h0
      have HE := Lib.hid (show EndOK l ⟨kind, client, m⟩ from by rw [HEO.out]; exact List.length_eq_zero_iff.1 (by omega))
      clear h0
      go_wp2_with fail
      go_ret
      exact .good rfl HE.out HB0.out
    · have c3 := bne_t h0
      have HE := Lib.hid (show ¬ EndOK l ⟨kind, client, m⟩ from by rw [HEO.out]; exact fun h => h0 (by rw [h]; rfl))
      clear h0
      go_wp2_with fail
      go_ret
      exact .bad rfl (by decide) HE.out HB0.out

set_option maxRecDepth 100000 in
set_option maxHeartbeats 1000000 in
theorem cloneH_call (v : Value) (l : List GOp) (w : World) (hv : RdOps w v l) (hl : l.length ≤ 1048576) :
    Calls Tryz.prog 58 #[v] w fun e w' => ∃ v', e = .returned v' ∧ OwOps w.heap.size w' v' l ∧ Below w.heap.size w w' := by
  have HO0 := Lib.hid (World.ownsRow_lit (base := w.heap.size) (e := 51) (size := 3) w #[] 0 (Nat.le_refl _) (by simp [maxLen]) rfl)
  have HB0 := Lib.hid ((Below.refl w.heap.size w).alloc (Nat.le_refl _) (.cells #[] 51))
  have HS := Lib.hid (RdOps.src (hv.later HB0.out))
  obtain ⟨a, len, cap, rfl, rfl, hm, hn⟩ : ∃ a len cap, v = .slice a len cap ∧ len = l.length ∧ l.length ≤ 9223372036854775807 ∧ (a = none → len = 0 ∧ cap = 0) := by
    obtain ⟨a, len, cap, h1, h2, h3, -, h5, -⟩ := hv
    exact ⟨a, len, cap, h1, h2, h3, h5⟩
  clear hv
  have qT : ∀ (w : World) (a : Option Addr) (n c : Nat), (binOp .eql 47 (.slice a n c) (.slice none 0 0)).run Tryz.prog w = .ok (.bool a.isNone) w := fun w a n c => Lib.run_eql_slice_nil w _ _ a n c 0 0 Tryz.underlying47
  cases a with
  | none =>
    obtain ⟨h0, rfl⟩ := hn rfl
    have hbs : l = [] := List.length_eq_zero_iff.1 h0
    subst hbs
    go_enter Tryz.func58, Tryz.ntmps58
    go_wp2_with fail
    go_ret
    exact ⟨_, rfl, World.ownsRow_nil _ _ _ _, Below.refl _ _⟩
  | some ad =>
    go_enter Tryz.func58, Tryz.ntmps58
    go_wp2_with (at_builtin; refine wpList_append_src rfl _ _ 47 rfl eltOp w.heap.size 0 [] HO0.out rfl l.length _ HS.out rfl opV_one (by omega) (by omega) (by simp) ?_; intro v1 w1 hown hg _)
    go_ret
    exact ⟨_, rfl, by simpa [OwOps] using hown, HB0.out.grown hg (by simp) (by simp [Value.ownBlock])⟩
end Go.Proofs.YtnacoplokjdglaaGreat
