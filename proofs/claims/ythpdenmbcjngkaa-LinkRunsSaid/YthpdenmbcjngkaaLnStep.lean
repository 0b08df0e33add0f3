/- Steps of a region that draws: an append that says where its row lies, an entry of a map found and stored to. And what a net is behind them. Names no function. -/
import Derived.Test.YthpdenmbcjngkaaLnNet
import Derived.Maps.AppendAt
namespace Go.Proofs.Ythpdenmbcjngkaa
open Go.RowKit Go.Maps

theorem step_append_at {P : Program} {w : World} {ops : Array Oper} {o : Oper} {a : Act} {K : Act → World → Prop} {Q : Exit → Act → World → Prop} {E : Prop} (hgd : o.guard = none) (s x : Operand) (t : TypeId)
    (ho : o.op = .call { callee := .builtin .append, args := #[s, x], argTypes := #[t, t] })
    {e : TypeId} {size bytes : Nat} {z : Value} (he : Elt P t e size bytes z) (base : Nat)
    {v : Value} (n : Nat) (xs : List Value) (hown : w.ownsRow base e size v n xs) (hs : a.eval s = v)
    {ad : Addr} {c : Nat} (m : Nat) (news : List Value) (hsrc : Src w (.slice (some ad) m c) size m news) (hx : a.eval x = .slice (some ad) m c) (h1 : ∀ u ∈ news, u.oneCell' = true)
    (hsz : n + m ≤ 68719476736) (hbytes : bytes ≤ 2048) (hbase : base ≤ w.heap.size)
    (h : ∀ v' w', w'.ownsRow base e size v' (n + m) (xs ++ news) → w.grownBy w' v.ownBlock → (v'.ownBlock = v.ownBlock ∨ v'.ownBlock = some w.heap.size) → K (a.put o.dst v') w') :
    if Region.wanted o (yielded ops a.tmps) = true then Oper.wp P o a w K Q else E := by
  have hw : Region.wanted o (yielded ops a.tmps) = true := by simp [Region.wanted, hgd]
  rw [if_pos hw]
  obtain ⟨ht, h0, hzs, i, hi, hz, his, hib⟩ := he
  obtain ⟨ad', c', hv, hl, -, hsome⟩ := hsrc
  cases hv
  obtain ⟨v', w', hr, h2, h3, h4, h5⟩ := run_append_own_at (P := P) w base t o.type e i z size bytes ht hi hz his hib hzs h0 v n xs hown ad m c news hl (hsome ad rfl) h1 (by simp only [maxLen]; omega) (Nat.le_trans (Nat.mul_le_mul hsz hbytes) (by decide)) hbase
  unfold Oper.wp execOp
  simp only [ho, resolve, invoke, builtin, Sem.run_bind, Sem.run_pure, Result.andThen_ok, List.map_toArray, List.map_cons, List.map_nil, hs, hx, hr]
  exact h v' w' h2 h3 h5

section maps
variable {κ ν : Type} [DecidableEq κ] {P : Program} {k e t : TypeId} {eK : κ → Value} {eV : ν → Value} {w : World} {b : Nat} {L : List (κ × ν)}
theorem step_mapEntry_T {ops : Array Oper} {o : Oper} {a : Act} {K : Act → World → Prop} {Q : Exit → Act → World → Prop} {E : Prop} (hgd : o.guard = none) (m x : Operand) (hop : o.op = Op.mapEntry t m x)
    (hK : Keyed P k) (hinj : ∀ x y, eK x = eK y → x = y) (ht : P.underlying t = some (.map k e)) (hT : MapT P k eK eV w b L) (hm : a.eval m = .map (some b)) (key : κ) {kl : Lit} (hkl : keyOf P k (eK key) = some kl) (hx : a.eval x = eK key)
    (z : ν) (hz : (zeroValue e).run P w = .ok (eV z) w) (h : ∀ w' stamp, EntryT P k eK eV w' b (putM L key ((getM L key).getD z)) key stamp → w.grownBy w' (some b) → w'.heap.size = w.heap.size → K (a.put o.dst (.tuple #[eV ((getM L key).getD z), goInt (stamp : Nat)])) w') :
    if Region.wanted o (yielded ops a.tmps) = true then Oper.wp P o a w K Q else E := by
  have hw : Region.wanted o (yielded ops a.tmps) = true := by simp [Region.wanted, hgd]
  rw [if_pos hw]
  obtain ⟨w', stamp, hrun, r1, r2, r3⟩ := hT.mapEntry hK hinj ht key hkl z hz
  unfold Oper.wp
  simp [execOp, hop, hm, hx, hrun, Result.andThen]
  exact h w' stamp r1 r2 r3
theorem step_entryStore_T {ops : Array Oper} {o : Oper} {a : Act} {K : Act → World → Prop} {Q : Exit → Act → World → Prop} {E : Prop} (hgd : o.guard = none) (m x y : Operand) (hop : o.op = Op.entryStore t m x y)
    (hinj : ∀ x y, eK x = eK y → x = y) {key : κ} {stamp : Nat} (hT : EntryT P k eK eV w b L key stamp) (hm : a.eval m = .map (some b)) (hx : a.eval x = goInt (stamp : Nat))
    (v : ν) (hv : a.eval y = eV v) (hin : (getM L key).isSome = true) (h : ∀ w', MapT P k eK eV w' b (putM L key v) → w.grownBy w' (some b) → w'.heap.size = w.heap.size → K (a.put o.dst undef) w') :
    if Region.wanted o (yielded ops a.tmps) = true then Oper.wp P o a w K Q else E := by
  have hw : Region.wanted o (yielded ops a.tmps) = true := by simp [Region.wanted, hgd]
  rw [if_pos hw]
  obtain ⟨w', hrun, r1, r2, r3⟩ := hT.store (t := t) hinj v hin
  unfold Oper.wp
  simp [execOp, hop, hm, hx, hv, hrun, Result.andThen]
  exact h w' r1 r2 r3
end maps

def nilW : Way := (.slice none 0 0, [])
/-- The way of a link that is to be appended to. -/
def curW (L : Ways) (l : LK) : Way := (getM L l).getD nilW

theorem nilW_S (base : Nat) (W : World) : WayS base W nilW := ⟨by simpa [nilW] using World.ownsRow_nil W base 30 1, fun m hm => by cases hm⟩
theorem apart_nil (v : Value) : Apart v nilW.1 := fun g _ => by simp [nilW, Value.ownBlock]
theorem nil_apart (v : Value) : Apart nilW.1 v := fun g h => by simp [nilW, Value.ownBlock] at h

theorem NetB.curS {base p mw ma : Nat} {L : Ways} {C : List (LK × Bool)} {n lost : Int} {A : World} (h : NetB base p mw ma L C n lost A) (l : LK) : WayS base A (curW L l) := by
  unfold curW
  cases hg : getM L l with
  | none => exact nilW_S _ _
  | some x => exact h.way (l, x) (getM_some hg)

/-- Cells that are no row of messages and no net stay as they were. -/
def Stays (w w' : World) : Prop := ∀ (j : Nat) (cs : Array Value) (T : TypeId), w.heap[j]? = some (.cells cs T) → T ≠ 30 → T ≠ 56 → w'.heap[j]? = some (.cells cs T)
theorem Stays.refl (w : World) : Stays w w := fun _ _ _ h _ _ => h
theorem Stays.trans {a b c : World} (h : Stays a b) (k : Stays b c) : Stays a c := fun j cs T h1 h2 h3 => k j cs T (h j cs T h1 h2 h3) h2 h3
theorem Stays.later {w A B : World} (h : Stays w A) (hb : Below A.heap.size A B) : Stays w B := fun j cs T h1 h2 h3 => by
  have := h j cs T h1 h2 h3
  exact (hb.block j (Array.getElem?_eq_some_iff.1 this).1).trans this
theorem Stays.grown {w A B : World} (h : Stays w A) {r : Option Nat} (hg : A.grownBy B r) (hr : ∀ j, r = some j → ∀ cs T, A.heap[j]? = some (.cells cs T) → T = 30 ∨ T = 56) : Stays w B := fun j cs T h1 h2 h3 => by
  have h4 := h j cs T h1 h2 h3
  refine (hg.block j (Array.getElem?_eq_some_iff.1 h4).1 fun e => ?_).trans h4
  rcases hr j e.symm cs T h4 with h5 | h5
  · exact h2 h5
  · exact h3 h5
theorem vac_map {A : World} {m c : Nat} {es : Array MapEntry} (h : A.heap[m]? = some (.map es c)) : ∀ j, some m = some j → ∀ cs T, A.heap[j]? = some (.cells cs T) → T = 30 ∨ T = 56 := by
  intro j hj cs T h1; cases hj; rw [h] at h1; cases h1
theorem vac_row {A : World} {b n m : Nat} {v : Value} {xs : List Value} (h : A.ownsRow b 30 n v m xs) : ∀ j, v.ownBlock = some j → ∀ cs T, A.heap[j]? = some (.cells cs T) → T = 30 ∨ T = 56 := by
  intro j hj cs T h1
  rcases h.2 with ⟨hv, _⟩ | ⟨g, cap, cur, hv, _, hh, _⟩
  · rw [hv] at hj; simp [Value.ownBlock] at hj
  · rw [hv] at hj
    have : g = j := by simpa [Value.ownBlock] using hj
    subst this
    rw [h1] at hh
    simp at hh
    exact .inl hh.2
theorem vac_net {A : World} {p : Nat} {cs0 : Array Value} (h : A.heap[p]? = some (.cells cs0 56)) : ∀ j, some p = some j → ∀ cs T, A.heap[j]? = some (.cells cs T) → T = 30 ∨ T = 56 := by
  intro j hj cs T h1; cases hj; rw [h] at h1; simp at h1; exact .inr h1.2.symm

/-- An entry was found, or laid. -/
theorem NetB.entry {base p mw ma : Nat} {L : Ways} {C : List (LK × Bool)} {n lost : Int} {A B : World} {l : LK} (h : NetB base p mw ma L C n lost A) (hg : A.grownBy B (some mw)) (hM : MapW B mw (putM L l (curW L l))) : NetB base p mw ma (putM L l (curW L l)) C n lost B := by
  obtain ⟨es1, c1, ho1⟩ := h.ways.obj
  have hkw : ∀ x, WayS base A x → WayS base B x := fun x hx => hx.kept hg ⟨_, ho1, fun cs => by simp⟩ (fun e => row_not hx.row ho1 (fun cs => by simp) e.symm)
  have hp : p ≠ mw := fun e => by rw [← e, h.blk] at ho1; cases ho1
  refine ⟨(hg.block p (Array.getElem?_eq_some_iff.1 h.blk).1 (by simpa using hp)).trans h.blk, hM, h.apart.kept hg (by have := h.wa; simp; omega), ?_, ?_, h.bp, h.bw, h.ba, h.wa⟩
  · intro x hx
    cases hgl : getM L l with
    | none =>
      rw [putM_fresh hgl, List.mem_append] at hx
      rcases hx with hx | hx
      · exact hkw _ (h.way x hx)
      · simp at hx; subst hx; exact hkw _ (h.curS l)
    | some y =>
      have : curW L l = y := by unfold curW; rw [hgl]; rfl
      rw [this, putM_same h.ways.pairwise hgl] at hx
      exact hkw _ (h.way x hx)
  · cases hgl : getM L l with
    | none =>
      have : curW L l = nilW := by unfold curW; rw [hgl]; rfl
      rw [this, putM_fresh hgl, List.pairwise_append]
      exact ⟨h.rows, List.pairwise_singleton _ _, fun x _ y hy => by simp at hy; subst hy; exact apart_nil _⟩
    | some y =>
      have : curW L l = y := by unfold curW; rw [hgl]; rfl
      rw [this, putM_same h.ways.pairwise hgl]
      exact h.rows

/-- A row was written anew, and its entry stored to. -/
theorem NetB.changed {base p mw ma : Nat} {M N : Ways} {C : List (LK × Bool)} {n lost : Int} {A B D : World} {l : LK} {x y' : Way} (h : NetB base p mw ma (M ++ (l, x) :: N) C n lost A)
    (hmsg : ∀ m ∈ y'.2, OwB base A m.1 m.2) (hg : A.grownBy B x.1.ownBlock) (hrow : B.ownsRow base 30 1 y'.1 y'.2.length (y'.2.map (·.1))) (hat : y'.1.ownBlock = x.1.ownBlock ∨ y'.1.ownBlock = some A.heap.size)
    (hg2 : B.grownBy D (some mw)) (hM : MapW D mw (M ++ (l, y') :: N)) : NetB base p mw ma (M ++ (l, y') :: N) C n lost D := by
  have hx := h.way (l, x) (by simp)
  obtain ⟨es1, c1, ho1⟩ := h.ways.obj
  obtain ⟨es2, c2, ho2⟩ := h.apart.obj
  have hpw : p ≠ mw := fun e => by rw [← e, h.blk] at ho1; cases ho1
  have n1 : some p ≠ x.1.ownBlock := row_not hx.row h.blk (fun cs => by simp)
  have n2 : some mw ≠ x.1.ownBlock := row_not hx.row ho1 (fun cs => by simp)
  have n3 : some ma ≠ x.1.ownBlock := row_not hx.row ho2 (fun cs => by simp)
  have hmwB : B.heap[mw]? = some (.map es1 c1) := (hg.block mw (Array.getElem?_eq_some_iff.1 ho1).1 n2).trans ho1
  have objr : ∀ j, x.1.ownBlock = some j → ∃ o, A.heap[j]? = some o ∧ ∀ cs, o ≠ .cells cs 5 := by
    intro j hj
    rcases hx.row.2 with ⟨hv, _⟩ | ⟨g, cap, cur, hv, _, hh, _⟩
    · rw [hv] at hj; simp [Value.ownBlock] at hj
    · rw [hv] at hj
      have : g = j := by simpa [Value.ownBlock] using hj
      subst this
      exact ⟨_, hh, fun cs => by simp⟩
  have msg1 : ∀ {m : Value} {b : List Int}, OwB base A m b → OwB base D m b := fun hm => (OwB.kept hm hg objr).kept hg2 fun j hj => by cases hj; exact ⟨_, hmwB, fun cs => by simp⟩
  have other : ∀ y : Way, WayS base A y → Apart y.1 x.1 → WayS base D y := by
    intro y hy ha
    have r1 : B.ownsRow base 30 1 y.1 y.2.length (y.2.map (·.1)) := World.ownsRow.kept hy.row hg (by
      cases hv : y.1.ownBlock with
      | none => exact .inl rfl
      | some g => exact .inr (fun e => ha g hv e.symm))
    exact ⟨World.ownsRow.kept r1 hg2 (.inr (fun e => row_not r1 hmwB (fun cs => by simp) e.symm)), fun m hm => msg1 (hy.msgs m hm)⟩
  have hr := h.rows
  rw [List.pairwise_append, List.pairwise_cons] at hr
  obtain ⟨hrM, ⟨hrx, hrN⟩, hrMN⟩ := hr
  have symm : ∀ {u v : Value}, Apart u v → Apart v u := fun h g hg e => h g e hg
  have newA : ∀ y ∈ M ++ N, Apart y.2.1 y'.1 := by
    intro y hy g hgy e
    have hyL : y ∈ M ++ (l, x) :: N := by
      rw [List.mem_append] at hy ⊢
      rcases hy with hy | hy
      · exact .inl hy
      · exact .inr (List.mem_cons_of_mem _ hy)
    rcases hat with hat | hat
    · have ha : Apart y.2.1 x.1 := by
        rw [List.mem_append] at hy
        rcases hy with hy | hy
        · exact hrMN y hy (l, x) (by simp)
        · exact symm (hrx y hy)
      rw [hat] at e
      exact ha g hgy e
    · rw [hat] at e
      have := ((h.way y hyL).row.lt g hgy).2
      have : A.heap.size = g := by simpa using e
      omega
  have rowD : D.ownsRow base 30 1 y'.1 y'.2.length (y'.2.map (·.1)) := World.ownsRow.kept hrow hg2 (.inr (fun e => row_not hrow hmwB (fun cs => by simp) e.symm))
  refine ⟨?_, hM, (h.apart.kept hg n3).kept hg2 (by have := h.wa; simp; omega), ?_, ?_, h.bp, h.bw, h.ba, h.wa⟩
  · have hb1 := (hg.block p (Array.getElem?_eq_some_iff.1 h.blk).1 n1).trans h.blk
    exact (hg2.block p (Array.getElem?_eq_some_iff.1 hb1).1 (by simpa using hpw)).trans hb1
  · intro y hy
    rw [List.mem_append] at hy
    rcases hy with hy | hy
    · exact other y.2 (h.way y (by simp [hy])) (hrMN y hy (l, x) (by simp))
    · rcases List.mem_cons.1 hy with rfl | hy
      · exact ⟨rowD, fun m hm => msg1 (hmsg m hm)⟩
      · exact other y.2 (h.way y (by simp [hy])) (symm (hrx y hy))
  · rw [List.pairwise_append, List.pairwise_cons]
    refine ⟨hrM, ⟨fun y hy => symm (newA y (by simp [hy])), hrN⟩, fun y hy z hz => ?_⟩
    rcases List.mem_cons.1 hz with rfl | hz
    · exact newA y (by simp [hy])
    · exact hrMN y hy z (List.mem_cons_of_mem _ hz)

/-- A message was appended to the row of an entry, and the entry stored to. -/
theorem NetB.sent {base p mw ma : Nat} {M N : Ways} {C : List (LK × Bool)} {n lost : Int} {A B D : World} {l : LK} {x : Way} {v' v2 : Value} {bs : List Int} (h : NetB base p mw ma (M ++ (l, x) :: N) C n lost A)
    (hmsg : OwB base A v2 bs) (hg : A.grownBy B x.1.ownBlock) (hrow : B.ownsRow base 30 1 v' (x.2.length + 1) (x.2.map (·.1) ++ [v2])) (hat : v'.ownBlock = x.1.ownBlock ∨ v'.ownBlock = some A.heap.size)
    (hg2 : B.grownBy D (some mw)) (hM : MapW D mw (M ++ (l, (v', x.2 ++ [(v2, bs)])) :: N)) : NetB base p mw ma (M ++ (l, (v', x.2 ++ [(v2, bs)])) :: N) C n lost D :=
  h.changed (fun m hm => by
    rw [List.mem_append] at hm
    rcases hm with hm | hm
    · exact (h.way (l, x) (by simp)).msgs m hm
    · simp at hm; subst hm; exact hmsg) hg (by simpa using hrow) hat hg2 hM

/-- An entry was deleted. -/
theorem NetB.dropped {base p mw ma : Nat} {M N : Ways} {C : List (LK × Bool)} {n lost : Int} {A B : World} {l : LK} {x : Way} (h : NetB base p mw ma (M ++ (l, x) :: N) C n lost A) (hg : A.grownBy B (some mw)) (hM : MapW B mw (M ++ N)) : NetB base p mw ma (M ++ N) C n lost B := by
  obtain ⟨es1, c1, ho1⟩ := h.ways.obj
  have hp : p ≠ mw := fun e => by rw [← e, h.blk] at ho1; cases ho1
  have sub : ∀ y ∈ M ++ N, y ∈ M ++ (l, x) :: N := fun y hy => by
    rw [List.mem_append] at hy ⊢
    rcases hy with hy | hy
    · exact .inl hy
    · exact .inr (List.mem_cons_of_mem _ hy)
  have hr := h.rows
  rw [List.pairwise_append, List.pairwise_cons] at hr
  obtain ⟨hrM, ⟨_, hrN⟩, hrMN⟩ := hr
  refine ⟨(hg.block p (Array.getElem?_eq_some_iff.1 h.blk).1 (by simpa using hp)).trans h.blk, hM, h.apart.kept hg (by have := h.wa; simp; omega), fun y hy => ?_, ?_, h.bp, h.bw, h.ba, h.wa⟩
  · have hy' := h.way y (sub y hy)
    exact hy'.kept hg ⟨_, ho1, fun cs => by simp⟩ (fun e => row_not hy'.row ho1 (fun cs => by simp) e.symm)
  · rw [List.pairwise_append]
    exact ⟨hrM, hrN, fun y hy z hz => hrMN y hy z (List.mem_cons_of_mem _ hz)⟩
end Go.Proofs.Ythpdenmbcjngkaa
