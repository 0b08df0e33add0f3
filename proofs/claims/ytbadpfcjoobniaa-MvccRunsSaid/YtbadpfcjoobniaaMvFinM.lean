/- What Finish makes of the versions; what turns. No walk. -/
import Derived.Test.YtbadpfcjoobniaaMvPrep3
import Derived.Test.YtbadpfcjoobniaaMvBin
namespace Go.Proofs.Ytbadpfcjoobniaa
open Go.RowKit Go.Maps

/-- Only these blocks turn. -/
structure Turns (bs : List Nat) (w w' : World) : Prop where
  os : w'.os = w.os
  tape : w'.tape = w.tape
  output : w'.output = w.output
  size : w.heap.size ≤ w'.heap.size
  block : ∀ k, k < w.heap.size → k ∉ bs → w'.heap[k]? = w.heap[k]?
theorem Turns.refl (bs : List Nat) (w : World) : Turns bs w w := ⟨rfl, rfl, rfl, Nat.le_refl _, fun _ _ _ => rfl⟩
theorem Turns.trans {bs : List Nat} {a b c : World} (h : Turns bs a b) (k : Turns bs b c) : Turns bs a c :=
  ⟨k.os.trans h.os, k.tape.trans h.tape, k.output.trans h.output, Nat.le_trans h.size k.size, fun j hj hn => (k.block j (Nat.lt_of_lt_of_le hj h.size) hn).trans (h.block j hj hn)⟩
theorem Turns.below {bs : List Nat} {a b : World} (h : Below a.heap.size a b) : Turns bs a b := ⟨h.os, h.tape, h.output, h.size, fun j hj _ => h.block j hj⟩
theorem Turns.later {bs : List Nat} {a b c : World} (h : Turns bs a b) (k : Below b.heap.size b c) : Turns bs a c := h.trans (Turns.below k)
theorem Turns.grown {bs : List Nat} {a b : World} {m : Nat} (h : a.grownBy b (some m)) (hm : m ∈ bs) : Turns bs a b :=
  ⟨h.os, h.tape, h.output, h.size, fun j hj hn => h.block j hj (fun e => hn (by cases e; exact hm))⟩
theorem Turns.mono {bs cs : List Nat} {a b : World} (h : Turns bs a b) (hs : ∀ k ∈ bs, k ∈ cs) : Turns cs a b := ⟨h.os, h.tape, h.output, h.size, fun j hj hn => h.block j hj (fun hb => hn (hs j hb))⟩
/-- Where only maps turn all cells stay. -/
theorem Turns.solid {bs : List Nat} {a b : World} (h : Turns bs a b) (hm : ∀ k ∈ bs, ∃ es c, a.heap[k]? = some (.map es c)) : Solid a b := fun j cs T fz hj =>
  (h.block j (Array.getElem?_eq_some_iff.1 hj).1 (fun hb => by obtain ⟨es, c, he⟩ := hm j hb; rw [he] at hj; cases hj)).trans hj
theorem MvS.maps {base p mk mr me : Nat} {serial : Bool} {bugs : Int} {K : KeysL} {R : RdyL} {E : EndL} {W : World} (h : MvS base p mk mr me serial bugs K R E W) : ∀ k ∈ [mk, mr, me], ∃ es c, W.heap[k]? = some (.map es c) := by
  intro k hk
  simp at hk
  rcases hk with rfl | rfl | rfl
  · exact h.keys.obj
  · exact h.ready.obj
  · exact h.ends.obj

def insV : List Ver → Int → Int → List Ver
  | [], t, v => [(t, v)]
  | x :: l, t, v => if x.1 < t then x :: insV l t v else if x.1 = t then (t, v) :: l else (t, v) :: x :: l
def Srt (l : List Ver) : Prop := l.Pairwise (fun x y => x.1 < y.1)

theorem insV_at : ∀ (l : List Ver) (t v : Int) (i : Nat), i ≤ l.length → (∀ j x, j < i → l[j]? = some x → x.1 < t) → (∀ j x, i ≤ j → l[j]? = some x → t ≤ x.1) →
    insV l t v = if sameB l i t then l.set i (t, v) else l.take i ++ (t, v) :: l.drop i
  | [], t, v, i, hi, _, _ => by
    obtain rfl : i = 0 := by simpa using hi
    rfl
  | x :: l, t, v, 0, hi, _, h2 => by
    have h0 := h2 0 x (Nat.le_refl _) rfl
    unfold insV sameB
    rw [if_neg (by omega)]
    by_cases hx : x.1 = t <;> simp [hx]
  | x :: l, t, v, i + 1, hi, h1, h2 => by
    have h0 := h1 0 x (by omega) rfl
    have ih := insV_at l t v i (by simpa using hi) (fun j y hj hy => h1 (j + 1) y (by omega) (by simpa using hy)) (fun j y hj hy => h2 (j + 1) y (by omega) (by simpa using hy))
    have hs : sameB (x :: l) (i + 1) t = sameB l i t := by unfold sameB; simp
    unfold insV
    rw [if_pos h0, ih, hs]
    by_cases hb : sameB l i t = true <;> simp [hb]

theorem insV_len : ∀ (l : List Ver) (t v : Int), (insV l t v).length ≤ l.length + 1
  | [], _, _ => by simp [insV]
  | x :: l, t, v => by
    have := insV_len l t v
    unfold insV
    split
    · simp; exact this
    · split <;> simp
theorem insV_mem {y : Ver} : ∀ {l : List Ver} {t v : Int}, y ∈ insV l t v → y = (t, v) ∨ y ∈ l
  | [], t, v, h => .inl (by simpa [insV] using h)
  | x :: l, t, v, h => by
    unfold insV at h
    split at h
    · rcases List.mem_cons.1 h with h | h
      · exact .inr (by simp [h])
      · rcases insV_mem h with h | h
        · exact .inl h
        · exact .inr (by simp [h])
    · split at h
      · rcases List.mem_cons.1 h with h | h
        · exact .inl h
        · exact .inr (by simp [h])
      · rcases List.mem_cons.1 h with h | h
        · exact .inl h
        · exact .inr h
theorem insV_srt : ∀ {l : List Ver} {t v : Int}, Srt l → Srt (insV l t v)
  | [], t, v, _ => by simp [insV, Srt]
  | x :: l, t, v, h => by
    have h' := List.pairwise_cons.1 h
    unfold insV
    split
    · rename_i hx
      refine List.pairwise_cons.2 ⟨fun y hy => ?_, insV_srt h'.2⟩
      rcases insV_mem hy with rfl | hy
      · exact hx
      · exact h'.1 y hy
    · split
      · rename_i hx he
        exact List.pairwise_cons.2 ⟨fun y hy => by have := h'.1 y hy; show t < y.1; omega, h'.2⟩
      · rename_i hx he
        refine List.pairwise_cons.2 ⟨fun y hy => ?_, h⟩
        rcases List.mem_cons.1 hy with rfl | hy
        · show t < y.1; omega
        · have := h'.1 y hy; show t < y.1; omega

/-- One key's versions behind some writes at a time. -/
def finV (t : Int) (key : Int) (ops : List GOp) (vs : List Ver) : List Ver := ops.foldl (fun vs o => if o.key = key then insV vs t o.val else vs) vs
theorem finV_snoc (t key : Int) (ops : List GOp) (o : GOp) (vs : List Ver) : finV t key (ops ++ [o]) vs = if o.key = key then insV (finV t key ops vs) t o.val else finV t key ops vs := by
  unfold finV; rw [List.foldl_append]; rfl
theorem finV_len (t key : Int) : ∀ (ops : List GOp) (vs : List Ver), (finV t key ops vs).length ≤ vs.length + ops.length
  | [], vs => by simp [finV]
  | o :: ops, vs => by
    have h1 := finV_len t key ops (if o.key = key then insV vs t o.val else vs)
    have h2 := insV_len vs t o.val
    unfold finV at h1 ⊢
    rw [List.foldl_cons]
    refine Nat.le_trans h1 ?_
    split <;> simp <;> omega
theorem finV_srt (t key : Int) : ∀ (ops : List GOp) (vs : List Ver), Srt vs → Srt (finV t key ops vs)
  | [], vs, h => h
  | o :: ops, vs, h => by
    unfold finV
    rw [List.foldl_cons]
    exact finV_srt t key ops _ (by split; exact insV_srt h; exact h)
/-- All keys' versions behind some writes at a time. -/
def KFin (K K' : KeysL) (t : Int) (ops : List GOp) : Prop := ∀ key, verOf K' key = finV t key ops (verOf K key)
theorem KFin.nil (K : KeysL) (t : Int) : KFin K K t [] := fun _ => rfl
theorem verOf_put (K : KeysL) (k key : Int) (v : Value) (vs : List Ver) : verOf (putM K k (v, vs)) key = if k = key then vs else verOf K key := by
  unfold verOf curK; rw [getM_put]; split <;> rfl
theorem KFin.snoc {K K' : KeysL} {t : Int} {ops : List GOp} (h : KFin K K' t ops) (o : GOp) (v : Value) : KFin K (putM K' o.key (v, insV (verOf K' o.key) t o.val)) t (ops ++ [o]) := fun key => by
  rw [verOf_put, finV_snoc, ← h key]
  split
  · rename_i e; rw [e]
  · rfl
def writesOf (R : RdyL) (e : EndM) : List GOp := if e.commit then (match getM R e.txn with | some y => y.r.writes | none => []) else []
def FinM (K : KeysL) (R : RdyL) (E : EndL) (e : EndM) (K' : KeysL) (R' : RdyL) (E' : EndL) : Prop :=
  ((getM E e.txn).isSome = true ∧ K' = K ∧ R' = R ∧ E' = E) ∨
  ((getM E e.txn).isSome = false ∧ R' = delM R e.txn ∧ E' = putM E e.txn e ∧ KFin K K' e.at_ (writesOf R e))

theorem mem_delM {κ ν : Type} [DecidableEq κ] {L : List (κ × ν)} {k : κ} {x : κ × ν} (h : x ∈ delM L k) : x ∈ L := (List.mem_filter.1 h).1
theorem MvS.putK {base p mk mr me : Nat} {serial : Bool} {bugs : Int} {K : KeysL} {R : RdyL} {E : EndL} {A B : World} {key : Int} {y : KV} (h : MvS base p mk mr me serial bugs K R E A) (hm : MapK B mk (putM K key y)) (hg : A.grownBy B (some mk)) (hy : RdVer A y.1 y.2) : MvS base p mk mr me serial bugs (putM K key y) R E B := by
  obtain ⟨es, c, ho⟩ := h.keys.obj
  have hs : Solid A B := (Solid.refl A).map ho hg
  refine ⟨hs _ _ _ _ h.blk, hm, h.ready.kept hg (fun e => h.kr (by cases e; rfl)), h.ends.kept hg (fun e => h.ke (by cases e; rfl)), fun x hx => ?_, fun x hx => (h.rrow x hx).solid hs, h.bp, h.bk, h.br, h.be, h.kr, h.ke, h.re⟩
  rcases mem_putM hx with rfl | hx
  · exact hy.solid hs
  · exact (h.krow x hx).solid hs
theorem MvS.delR {base p mk mr me : Nat} {serial : Bool} {bugs : Int} {K : KeysL} {R : RdyL} {E : EndL} {A B : World} {txn : Int} (h : MvS base p mk mr me serial bugs K R E A) (hm : MapR B mr (delM R txn)) (hg : A.grownBy B (some mr)) : MvS base p mk mr me serial bugs K (delM R txn) E B := by
  obtain ⟨es, c, ho⟩ := h.ready.obj
  have hs : Solid A B := (Solid.refl A).map ho hg
  exact ⟨hs _ _ _ _ h.blk, h.keys.kept hg (fun e => h.kr (by cases e; rfl)), hm, h.ends.kept hg (fun e => h.re (by cases e; rfl)), fun x hx => (h.krow x hx).solid hs, fun x hx => (h.rrow x (mem_delM hx)).solid hs, h.bp, h.bk, h.br, h.be, h.kr, h.ke, h.re⟩
theorem MvS.putE {base p mk mr me : Nat} {serial : Bool} {bugs : Int} {K : KeysL} {R : RdyL} {E : EndL} {A B : World} {txn : Int} {y : EndM} (h : MvS base p mk mr me serial bugs K R E A) (hm : MapE B me (putM E txn y)) (hg : A.grownBy B (some me)) : MvS base p mk mr me serial bugs K R (putM E txn y) B := by
  obtain ⟨es, c, ho⟩ := h.ends.obj
  have hs : Solid A B := (Solid.refl A).map ho hg
  exact ⟨hs _ _ _ _ h.blk, h.keys.kept hg (fun e => h.ke (by cases e; rfl)), h.ready.kept hg (fun e => h.re (by cases e; rfl)), hm, fun x hx => (h.krow x hx).solid hs, fun x hx => (h.rrow x hx).solid hs, h.bp, h.bk, h.br, h.be, h.kr, h.ke, h.re⟩
theorem put_keys {base p mk mr me : Nat} {serial : Bool} {bugs : Int} {K : KeysL} {R : RdyL} {E : EndL} {B : World} {key : Int} {y : KV} (h : MvS base p mk mr me serial bugs K R E B) (ht : i64 key) (hy : RdVer B y.1 y.2) :
    ∃ w', (Instr.mapUpdate 91 (.map (some mk)) (vi key) y.1).run Try.prog B = .ok () w' ∧ Hid (MvS base p mk mr me serial bugs (putM K key y) R E w' ∧ Turns [mk, mr, me] B w' ∧ Solid B w') := by
  obtain ⟨kl, hkl⟩ := intKey ht
  obtain ⟨w', hrun, hm, hg⟩ := h.keys.update (eV := fun x : KV => x.1) intKeyed vi_inj (t := 91) (e := 46) Try.underlying91 key hkl y
  obtain ⟨es, c, ho⟩ := h.keys.obj
  exact ⟨w', hrun, Lib.hid ⟨h.putK hm hg hy, Turns.grown hg (by simp), (Solid.refl B).map ho hg⟩⟩
theorem del_ready {base p mk mr me : Nat} {serial : Bool} {bugs : Int} {K : KeysL} {R : RdyL} {E : EndL} {B : World} {txn : Int} (h : MvS base p mk mr me serial bugs K R E B) (ht : i64 txn) (ty : TypeId) :
    ∃ w', (Builtin.delete_ #[92, 3] ty #[.map (some mr), vi txn]).run Try.prog B = .ok (.tuple #[]) w' ∧ Hid (MvS base p mk mr me serial bugs K (delM R txn) E w' ∧ Turns [mk, mr, me] B w' ∧ Solid B w') := by
  obtain ⟨kl, hkl⟩ := intKey ht
  obtain ⟨w', hrun, hm, hg, -⟩ := h.ready.delete (eV := rdyV) intKeyed vi_inj (t := 92) (e := 29) Try.underlying92 txn hkl ty
  obtain ⟨es, c, ho⟩ := h.ready.obj
  exact ⟨w', hrun, Lib.hid ⟨h.delR hm hg, Turns.grown hg (by simp), (Solid.refl B).map ho hg⟩⟩
theorem put_ends {base p mk mr me : Nat} {serial : Bool} {bugs : Int} {K : KeysL} {R : RdyL} {E : EndL} {B : World} {y : EndM} (h : MvS base p mk mr me serial bugs K R E B) (ht : i64 y.txn) :
    ∃ w', (Instr.mapUpdate 93 (.map (some me)) (vi y.txn) (.agg #[vi y.txn, .bool y.commit, vi y.at_])).run Try.prog B = .ok () w' ∧ Hid (MvS base p mk mr me serial bugs K R (putM E y.txn y) w' ∧ Turns [mk, mr, me] B w' ∧ Solid B w') := by
  obtain ⟨kl, hkl⟩ := intKey ht
  obtain ⟨w', hrun, hm, hg⟩ := h.ends.update (eV := endV) intKeyed vi_inj (t := 93) (e := 31) Try.underlying93 y.txn hkl y
  obtain ⟨es, c, ho⟩ := h.ends.obj
  exact ⟨w', hrun, Lib.hid ⟨h.putE hm hg, Turns.grown hg (by simp), (Solid.refl B).map ho hg⟩⟩
end Go.Proofs.Ytbadpfcjoobniaa
