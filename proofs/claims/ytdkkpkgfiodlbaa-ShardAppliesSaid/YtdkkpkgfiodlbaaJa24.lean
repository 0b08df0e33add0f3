/- Texts of one proof, one behind the other: Rn21V, Rn21S, Rn21N, Rn21W. -/
import Derived.Test.YtdkkpkgfiodlbaaJa23
import Derived.Test.YtdkkpkgfiodlbaaJa18
import Derived.Test.YtdkkpkgfiodlbaaJa15
import Derived.Test.YtdkkpkgfiodlbaaJa20
import Derived.Test.YtdkkpkgfiodlbaaJa6
set_option linter.all false
/- The law ShardApplies: what holds between two commands. Names no function. -/
namespace Go.Proofs.Ytdkkpkgfiodlbaa
open Go.RowKit Go.Maps
/-- A world without what lies in some blocks. -/
def erB (bs : List Nat) (W : World) : World := { W with heap := W.heap.mapIdx fun j o => if j ∈ bs then .cells #[] 0 else o }
theorem erB_at (bs : List Nat) (W : World) (j : Nat) : (erB bs W).heap[j]? = (W.heap[j]?).map (fun o => if j ∈ bs then .cells #[] 0 else o) := by
  unfold erB; simp only [Array.getElem?_mapIdx]
theorem erB_size (bs : List Nat) (W : World) : (erB bs W).heap.size = W.heap.size := by unfold erB; simp
theorem erB_off {bs : List Nat} {W : World} {j : Nat} (h : j ∉ bs) : (erB bs W).heap[j]? = W.heap[j]? := by
  rw [erB_at]
  cases W.heap[j]? with
  | none => rfl
  | some o => simp [h]
theorem erB_cell {bs : List Nat} {W : World} {b o : Nat} {v : Value} (h : (erB bs W).cell? ⟨b, o, none⟩ = some v) : b ∉ bs ∧ W.cell? ⟨b, o, none⟩ = some v := by
  by_cases hb : b ∈ bs
  · have h1 := World.block_lt_of_cell? _ _ h
    have h2 : (erB bs W).heap[b]? = some (.cells #[] 0) := by
      rw [erB_at]
      rw [erB_size] at h1
      rw [Array.getElem?_eq_getElem h1]; simp [hb]
    rw [cell_of h2] at h
    simp at h
  · exact ⟨hb, (World.cell?_of_block (a := ⟨b, o, none⟩) (erB_off hb).symm).trans h⟩
theorem erB_le (bs : List Nat) (W : World) : ALe (erB bs W) W := ⟨fun _ _ _ h => (erB_cell h).2, by rw [erB_size]; exact Nat.le_refl _⟩
theorem erB_mono {bs : List Nat} {A B : World} (h : ∀ j, j < A.heap.size → j ∉ bs → B.heap[j]? = A.heap[j]?) : CLe (erB bs A) (erB bs B) := fun b o v hv => by
  obtain ⟨h1, h2⟩ := erB_cell hv
  have h3 := World.block_lt_of_cell? A _ h2
  refine (World.cell?_of_block (a := ⟨b, o, none⟩) (erB_off h1)).trans ?_
  exact (World.cell?_of_block (a := ⟨b, o, none⟩) (h b h3 h1)).trans h2

/-- How much the reference's state holds. -/
structure Pl21 (k : Nat) (m : ShM) : Prop where
  vs : m.s.vs.length ≤ 20 * k
  ws : m.s.ws.length ≤ k
  es : m.s.es.length ≤ k
  ds : m.ds.length ≤ k
  wr : ∀ q ∈ m.s.ws, q.writes.length ≤ 20
  srt : m.s.ws.Pairwise (fun x y => x.txn < y.txn)
  once : m.ds.Pairwise (fun a c => a.txn ≠ c.txn)
theorem Pl21.more {k : Nat} {m : ShM} (h : Pl21 k m) : Pl21 (k + 1) m := ⟨by have := h.vs; omega, by have := h.ws; omega, by have := h.es; omega, by have := h.ds; omega, h.wr, h.srt, h.once⟩
theorem fin_len21 {e : EndM} {vs : List Ver3} {ws : List Rdy} (hws : ws.Pairwise (fun x y => x.txn < y.txn)) (hs : ∀ r ∈ ws, r.writes.length ≤ 20) : (finAll e vs ws).length ≤ vs.length + 20 := by
  by_cases h : ∃ r ∈ ws, r.txn = e.txn
  · obtain ⟨r, hr, he⟩ := h
    rw [finAll_one e vs hws hr he]
    exact Nat.le_trans (finW3_len e r.writes vs) (by have := hs r hr; omega)
  · rw [finAll_none e ws vs (fun r hr he => h ⟨r, hr, he⟩)]; omega
theorem Pl21.s {k : Nat} {m : ShM} (h : Pl21 k m) {s : RSt} {n : Int} {ds : List EndM} (h1 : s.vs.length ≤ 20 * k) (h2 : s.ws.length ≤ k) (h3 : s.es.length ≤ k) (h4 : ∀ q ∈ s.ws, q.writes.length ≤ 20) (h5 : s.ws.Pairwise (fun x y => x.txn < y.txn)) (h6 : ds = m.ds) : Pl21 k ⟨s, m.stamps, n, ds⟩ :=
  ⟨h1, h2, h3, by rw [h6]; exact h.ds, h4, h5, by rw [h6]; exact h.once⟩
theorem Pl21.step {n : Nat} {m : ShM} (h : Pl21 n m) (k : Int) (r : Rdy) (e : EndM) (hr : r.writes.length ≤ 20) (hs : (apply21M m k r e).1.s.ws.Pairwise (fun x y => x.txn < y.txn)) :
    Pl21 (n + 1) (apply21M m k r e).1 ∧ (apply21M m k r e).1.s.serial = m.s.serial ∧ (apply21M m k r e).1.s.bugs = m.s.bugs ∧ (apply21M m k r e).1.stamps = m.stamps := by
  have hp : ∀ s' : RSt, s'.ws.Pairwise (fun x y => x.txn < y.txn) → s'.vs.length ≤ 20 * (n + 1) → s'.ws.length ≤ n + 1 → s'.es.length ≤ n + 1 → (∀ q ∈ s'.ws, q.writes.length ≤ 20) → Pl21 (n + 1) ⟨s', m.stamps, m.now, m.ds⟩ :=
    fun s' h5 h1 h2 h3 h4 => h.more.s h1 h2 h3 h4 h5 rfl
  unfold apply21M at hs ⊢
  by_cases k1 : k = 1
  · rw [if_pos k1]
    unfold stamp21
    split
    · exact ⟨h.more, rfl, rfl, rfl⟩
    · exact ⟨⟨h.more.vs, h.more.ws, h.more.es, h.more.ds, h.wr, h.srt, h.once⟩, rfl, rfl, rfl⟩
  rw [if_neg k1] at hs ⊢
  by_cases k2 : k = 2
  · rw [if_pos k2]
    unfold get21
    split
    · exact ⟨h.more, rfl, rfl, rfl⟩
    · exact ⟨h.more, rfl, rfl, rfl⟩
  rw [if_neg k2] at hs ⊢
  by_cases k3 : k = 3
  · rw [if_pos k3] at hs ⊢
    unfold prep21 at hs ⊢
    have hq : (rnPrepV m.s r).1.serial = m.s.serial ∧ (rnPrepV m.s r).1.bugs = m.s.bugs ∧ (rnPrepV m.s r).1.ws.length ≤ n + 1 ∧ (rnPrepV m.s r).1.vs = m.s.vs ∧ (rnPrepV m.s r).1.es = m.s.es ∧ (∀ q ∈ (rnPrepV m.s r).1.ws, q.writes.length ≤ 20) := by
      have h1 := h.ws
      unfold rnPrepV
      repeat' split
      all_goals first
        | exact ⟨rfl, rfl, Nat.le_succ_of_le h1, rfl, rfl, h.wr⟩
        | (refine ⟨rfl, rfl, ?_, rfl, rfl, fun q hq => ?_⟩
           · show (insR m.s.ws r).length ≤ n + 1
             rw [insR_eq, insW_len]; omega
           · have hq' : q ∈ insR m.s.ws r := hq
             rw [insR_eq] at hq'
             rcases (insW_mem r q m.s.ws).1 hq' with rfl | h2
             · exact hr
             · exact h.wr q h2)
    obtain ⟨q1, q2, q3, q4, q5, q6⟩ := hq
    exact ⟨hp _ hs (by rw [q4]; have := h.vs; omega) q3 (by rw [q5]; have := h.es; omega) q6, q1, q2, rfl⟩
  rw [if_neg k3] at hs ⊢
  by_cases k4 : k = 4
  · rw [if_pos k4]
    unfold dec21
    split
    · exact ⟨h.more, rfl, rfl, rfl⟩
    · refine ⟨⟨h.more.vs, h.more.ws, h.more.es, ?_, h.wr, h.srt, ?_⟩, rfl, rfl, rfl⟩
      · simp only [List.length_append, List.length_singleton]
        have := List.length_filter_le (fun d : EndM => d.txn != e.txn) m.ds
        have := h.ds
        omega
      · refine List.pairwise_append.2 ⟨h.once.filter _, List.pairwise_singleton _ _, fun a ha c hc => ?_⟩
        rw [List.mem_singleton.1 hc]
        have := (List.mem_filter.1 ha).2
        simpa using this
  · rw [if_neg k4] at hs ⊢
    unfold fin21 at hs ⊢
    have hq : (rnFinish m.s e).serial = m.s.serial ∧ (rnFinish m.s e).bugs = m.s.bugs ∧ (rnFinish m.s e).ws.length ≤ n + 1 ∧ (rnFinish m.s e).vs.length ≤ 20 * (n + 1) ∧ (rnFinish m.s e).es.length ≤ n + 1 ∧ (∀ q ∈ (rnFinish m.s e).ws, q.writes.length ≤ 20) := by
      have h1 := h.vs
      have h2 := h.ws
      have h3 := h.es
      unfold rnFinish
      split
      · exact ⟨rfl, rfl, by omega, by omega, by omega, h.wr⟩
      · refine ⟨rfl, rfl, ?_, ?_, ?_, ?_⟩
        · exact Nat.le_trans (List.length_filter_le _ _) (by omega)
        · exact Nat.le_trans (fin_len21 h.srt h.wr) (by omega)
        · simp; exact h3
        · exact fun r hr => h.wr r (List.mem_filter.1 hr).1
    obtain ⟨q1, q2, q3, q4, q5, q6⟩ := hq
    exact ⟨hp _ hs q4 q3 q5 q6, q1, q2, rfl⟩

/-- k commands are over. -/
structure AppI (N base p ps mk mr me md X : Nat) (sr : Bool) (bugs st : Int) (k : Nat) (now : Int) (K : KeysL) (R : RdyL) (E D : EndL) (x : RSh) (W : World) : Prop where
  sh : ShT N base p ps mk mr me md sr bugs st now K R E D W
  i : ShI k K R
  j : ShJ K R D
  sim : Sim21 K R E D now x.m
  box : W.heap[X]? = some (.cells (shC x) 54)
  rd : RdSh (erB [p, md, mk, mr, me, X] W) x
  ser : x.m.s.serial = sr
  bg : x.m.s.bugs = bugs
  stp : x.m.stamps = st
  pl : Pl21 k x.m
  now0 : 0 ≤ now ∧ now ≤ k
  nx : N ≤ X
section
variable {N base p ps mk mr me md X : Nat} {sr : Bool} {bugs st now : Int} {k : Nat} {K : KeysL} {R : RdyL} {E D : EndL} {x : RSh} {A B : World}
theorem AppI.more (h : AppI N base p ps mk mr me md X sr bugs st k now K R E D x A) : AppI N base p ps mk mr me md X sr bugs st (k + 1) now K R E D x A :=
  ⟨h.sh, h.i.more, h.j, h.sim, h.box, h.rd, h.ser, h.bg, h.stp, h.pl.more, ⟨h.now0.1, by have := h.now0.2; omega⟩, h.nx⟩
theorem AppI.later (h : AppI N base p ps mk mr me md X sr bugs st k now K R E D x A) (hb : Below A.heap.size A B) : AppI N base p ps mk mr me md X sr bugs st k now K R E D x B :=
  ⟨h.sh.later hb, h.i, h.j, h.sim, (hb.block X (Array.getElem?_eq_some_iff.1 h.box).1).trans h.box, h.rd.le (erB_mono fun j hj _ => hb.block j hj), h.ser, h.bg, h.stp, h.pl, h.now0, h.nx⟩
theorem AppI.xne (h : AppI N base p ps mk mr me md X sr bugs st k now K R E D x A) : X ∉ [p, md, mk, mr, me] := h.sh.b.out h.nx
theorem AppI.bd (h : AppI N base p ps mk mr me md X sr bugs st k now K R E D x A) (hk : k ≤ 60) (hb : 0 ≤ bugs ∧ bugs ≤ 63) : ApBd x.m :=
  ⟨by rw [← h.sim.now]; have := h.now0; omega, by rw [h.bg]; exact hb, by have := h.pl.vs; omega, by have := h.pl.ws; omega, by have := h.pl.es; omega, fun q hq => by have := h.pl.wr q hq; omega, by have := h.pl.ds; omega⟩
theorem AppI.shapes (h : AppI N base p ps mk mr me md X sr bugs st k now K R E D x A) : ∃ a1 c1 a2 c2 a3 c3 a4 c4, x = ⟨.slice a1 x.m.s.vs.length c1, .slice a2 x.m.s.ws.length c2, .slice a3 x.m.s.es.length c3, .slice a4 x.m.ds.length c4, x.m⟩ := by
  obtain ⟨a1, c1, a2, c2, a3, c3, a4, c4, hx, -, -⟩ := h.rd.shapes
  exact ⟨a1, c1, a2, c2, a3, c3, a4, c4, hx⟩
/-- What stays of the reference while the shard does a command. -/
theorem AppI.turn (h : AppI N base p ps mk mr me md X sr bugs st k now K R E D x A) (ht : Turns [p, md, mk, mr, me] A B) : B.heap[X]? = some (.cells (shC x) 54) ∧ RdSh (erB [p, md, mk, mr, me, X] B) x :=
  ⟨(ht.block X (Array.getElem?_eq_some_iff.1 h.box).1 h.xne).trans h.box, h.rd.le (erB_mono fun j hj hn => ht.block j hj (fun hm => hn (by simp at hm ⊢; omega)))⟩
theorem own_other {n e m g b : Nat} {v : Value} {xs : List Value} {cs : Array Value} {T : TypeId} (h : A.ownsRow b e n v m xs) (hX : A.heap[g]? = some (.cells cs T)) (hT : T ≠ e) (ho : ∀ j, j ≠ g → B.heap[j]? = A.heap[j]?) : B.ownsRow b e n v m xs :=
  Bt.own_frame h (fun j hj => ho j (fun e => by
    subst e
    rcases h.2 with ⟨hv, _⟩ | ⟨g', cap, cur, hv, _, hh, _⟩
    · rw [hv] at hj; cases hj
    · rw [hv] at hj; simp only [Value.ownBlock, Option.some.injEq] at hj; subst hj; rw [hX] at hh; cases hh; exact hT rfl))
/-- A box of the reference is written. -/
theorem ShT.other (h : ShT N base p ps mk mr me md sr bugs st now K R E D A) {cs : Array Value} (hX : A.heap[X]? = some (.cells cs 54)) (hs : A.heap.size ≤ B.heap.size) (ho : ∀ j, j ≠ X → B.heap[j]? = A.heap[j]?) : ShT N base p ps mk mr me md sr bugs st now K R E D B := by
  have hc : ∀ {j : Nat} {cs : Array Value} {T : TypeId}, A.heap[j]? = some (.cells cs T) → T ≠ 54 → B.heap[j]? = some (.cells cs T) := fun {j cs T} h1 h2 => (ho j (fun e => by rw [e, hX] at h1; cases h1; exact h2 rfl)).trans h1
  have hm : ∀ {j : Nat}, (∃ es c, A.heap[j]? = some (.map es c)) → B.heap[j]? = A.heap[j]? := fun {j} ⟨es, c, hj⟩ => ho j (fun e => by rw [e, hX] at hj; cases hj)
  have hr : ∀ {e n m : Nat} {v : Value} {xs : List Value}, A.ownsRow N e n v m xs → 54 ≠ e → B.ownsRow N e n v m xs := fun h1 h2 => own_other h1 hX h2 ho
  exact ⟨⟨hc h.s.blk (by decide), ⟨hc h.s.st.blk (by decide), h.s.st.keys.frame (hm h.s.st.keys.obj), h.s.st.ready.frame (hm h.s.st.ready.obj), h.s.st.ends.frame (hm h.s.st.ends.obj), fun y hy => own_rdv (hr (h.kown y hy) (by decide)) (rdv_i64 (h.s.st.krow y hy)), fun y hy => rdy_own (hr (h.rown y hy).1 (by decide)) (hr (h.rown y hy).2 (by decide)) (reads_i64 (h.s.st.rrow y hy).rs), h.s.st.bp, h.s.st.bk, h.s.st.br, h.s.st.be, h.s.st.kr, h.s.st.ke, h.s.st.re⟩, h.s.dm.frame (hm h.s.dm.obj), h.s.bp, h.s.bd, h.s.dk, h.s.dr, h.s.de⟩,
    h.b, fun y hy => hr (h.kown y hy) (by decide), fun y hy => ⟨hr (h.rown y hy).1 (by decide), hr (h.rown y hy).2 (by decide)⟩, Nat.le_trans h.nw hs⟩
end
theorem once21 {es : List EndM} (ho : es.Pairwise (fun a c => a.txn ≠ c.txn)) {y : EndM} (hy : y ∈ es) : es.find? (fun x => x.txn == y.txn) = some y := by
  cases hf : es.find? (fun x => x.txn == y.txn) with
  | none =>
    have := List.find?_eq_none.1 hf y hy
    simp at this
  | some en =>
    have h1 := List.mem_of_find?_eq_some hf
    have h2 := List.find?_some hf
    simp only [beq_iff_eq] at h2
    obtain ⟨i, hi⟩ := List.mem_iff_getElem?.1 hy
    obtain ⟨j, hj⟩ := List.mem_iff_getElem?.1 h1
    obtain ⟨i1, i2⟩ := List.getElem?_eq_some_iff.1 hi
    obtain ⟨j1, j2⟩ := List.getElem?_eq_some_iff.1 hj
    rcases Nat.lt_trichotomy i j with h3 | h3 | h3
    · exact absurd (by rw [i2, j2, h2]) (List.pairwise_iff_getElem.1 ho i j i1 j1 h3)
    · subst h3; rw [hi] at hj; exact congrArg some (Option.some.inj hj).symm
    · exact absurd (by rw [i2, j2, h2]) (List.pairwise_iff_getElem.1 ho j i j1 i1 h3)
theorem and63' (x : Int) : ∃ y, bits .and .i64 x 63 = y ∧ 0 ≤ y ∧ y ≤ 63 := by
  have : ∃ m : Nat, m ≤ 63 ∧ bits .and .i64 x 63 = IntKind.i64.wrap (m : Int) := ⟨(BitVec.ofInt 64 x &&& BitVec.ofInt 64 63).toNat, by rw [BitVec.toNat_and]; exact Nat.le_trans Nat.and_le_right (by decide), rfl⟩
  obtain ⟨m, h1, h2⟩ := this
  refine ⟨m, ?_, by omega, by omega⟩
  rw [h2, IntKind.wrap_i64]; omega
end Go.Proofs.Ytdkkpkgfiodlbaa

/- Layer 21's law: same, at two answers that are the same. -/
namespace Go.Proofs.Ytdkkpkgfiodlbaa
open Go.RowKit Go.Maps
attribute [local go_sem] Oper.semAt_some

set_option maxRecDepth 1000000 in
set_option maxHeartbeats 8000000 in
theorem same21_call (a : Ans) (vv ww : Value) (w : World) (hv : RdV w vv a.vals) (hw : RdV w ww a.vals) (hl : a.vals.length ≤ 1000) :
    Calls Try.prog 18 #[ansV a vv, ansV a ww] w fun e w' => e = .returned (.bool true) ∧ Below w.heap.size w w' := by
  obtain ⟨a1, n1, c1, hv1, hn1, -⟩ := id hv
  obtain ⟨a2, n2, c2, hv2, hn2, -⟩ := id hw
  subst hv1 hv2 hn1 hn2
  have HV := Lib.hid hv
  have HW := Lib.hid hw
  clear hv hw
  unfold ansV ansC
  have h2 := heap2_al w (.cells #[vi a.err, .slice a1 a.vals.length c1, vi a.at_, vi a.by_, vi a.home, vi a.e.txn, .bool a.e.commit, vi a.e.at_] 37) (.cells #[vi a.err, .slice a2 a.vals.length c2, vi a.at_, vi a.by_, vi a.home, vi a.e.txn, .bool a.e.commit, vi a.e.at_] 58)
  have HX := Lib.hid h2.1
  have HY := Lib.hid h2.2.1
  have HB := Lib.hid h2.2.2
  clear h2
  go_enter Try.func18, Try.ntmps18
  go_upto_region 1 with fail
  generalize ((w.alloc (.cells #[vi a.err, .slice a1 a.vals.length c1, vi a.at_, vi a.by_, vi a.home, vi a.e.txn, .bool a.e.commit, vi a.e.at_] 37)).alloc (.cells #[vi a.err, .slice a2 a.vals.length c2, vi a.at_, vi a.by_, vi a.home, vi a.e.txn, .bool a.e.commit, vi a.e.at_] 58)) = w2 at *
  obtain ⟨X, hX⟩ : ∃ X, X = w.heap.size := ⟨_, rfl⟩
  rw [← hX] at HX HY ⊢
  clear hX
  have x0 : w2.cell? ⟨X, 0, none⟩ = some (vi a.err) := (by rw [cell_of HX.out]; rfl)
  have x1 : w2.cell? ⟨X, 1, none⟩ = some (.slice a1 a.vals.length c1) := (by rw [cell_of HX.out]; rfl)
  have x2 : w2.cell? ⟨X, 2, none⟩ = some (vi a.at_) := (by rw [cell_of HX.out]; rfl)
  have x3 : w2.cell? ⟨X, 3, none⟩ = some (vi a.by_) := (by rw [cell_of HX.out]; rfl)
  have x4 : w2.cell? ⟨X, 4, none⟩ = some (vi a.home) := (by rw [cell_of HX.out]; rfl)
  have x5 : w2.cell? ⟨X, 5, none⟩ = some (vi a.e.txn) := (by rw [cell_of HX.out]; rfl)
  have x6 : w2.cell? ⟨X, 6, none⟩ = some (.bool a.e.commit) := (by rw [cell_of HX.out]; rfl)
  have x7 : w2.cell? ⟨X, 7, none⟩ = some (vi a.e.at_) := (by rw [cell_of HX.out]; rfl)
  have y0 : w2.cell? ⟨X + 1, 0, none⟩ = some (vi a.err) := (by rw [cell_of HY.out]; rfl)
  have y1 : w2.cell? ⟨X + 1, 1, none⟩ = some (.slice a2 a.vals.length c2) := (by rw [cell_of HY.out]; rfl)
  have y2 : w2.cell? ⟨X + 1, 2, none⟩ = some (vi a.at_) := (by rw [cell_of HY.out]; rfl)
  have y3 : w2.cell? ⟨X + 1, 3, none⟩ = some (vi a.by_) := (by rw [cell_of HY.out]; rfl)
  have y4 : w2.cell? ⟨X + 1, 4, none⟩ = some (vi a.home) := (by rw [cell_of HY.out]; rfl)
  have y5 : w2.cell? ⟨X + 1, 5, none⟩ = some (vi a.e.txn) := (by rw [cell_of HY.out]; rfl)
  have y6 : w2.cell? ⟨X + 1, 6, none⟩ = some (.bool a.e.commit) := (by rw [cell_of HY.out]; rfl)
  have y7 : w2.cell? ⟨X + 1, 7, none⟩ = some (vi a.e.at_) := (by rw [cell_of HY.out]; rfl)
  go_wp2_with fail
  clear x0 x1 x2 x3 x4 x5 x6 x7 y0 y1 y2 y3 y4 y5 y6 y7
  have hw2 : w.heap.size ≤ w2.heap.size := HB.out.size
  go_loopw [51] (fun i wr => ∃ k : Nat, k ≤ a.vals.length ∧ i = vi k ∧ Hid (Below w2.heap.size w2 wr)) (fun i _ => a.vals.length - (intOf i).toNat)
  case atStart => exact ⟨0, Nat.zero_le _, rfl, Lib.hid (Below.refl _ _)⟩
  case round =>
    obtain ⟨wj, rfl⟩ : ∃ wj : World, wj = wr := ⟨_, rfl⟩
    obtain ⟨k, hk, rfl, HJ⟩ := hrel
    have HWJ := Lib.hid (HB.out.trans (HJ.out.mono hw2))
    by_cases hlt : k < a.vals.length
    · have k1 : decide ((k : Int) < a.vals.length) = true := decide_eq_true (by omega)
      have k2 : (k : Int) < a.vals.length := by omega
      have k3 : (0 : Int) ≤ (k : Int) := by omega
      have hwk : IntKind.i64.wrap ((k : Int) + 1) = (k : Int) + 1 := IntWalk.i64_in _ (by omega)
      obtain ⟨o, ho⟩ := some_at hlt
      obtain ⟨g, off, ha, c0⟩ := (HV.out.later HWJ.out).el ho
      obtain ⟨g', off', ha', c0'⟩ := (HW.out.later HWJ.out).el ho
      subst ha ha'
      have x1 : wj.cell? ⟨X, 1, none⟩ = some (.slice (some ⟨g, off, none⟩) a.vals.length c1) := by rw [cell_of ((HJ.out.block _ (Array.getElem?_eq_some_iff.1 HX.out).1).trans HX.out)]; rfl
      have y1 : wj.cell? ⟨X + 1, 1, none⟩ = some (.slice (some ⟨g', off', none⟩) a.vals.length c2) := by rw [cell_of ((HJ.out.block _ (Array.getElem?_eq_some_iff.1 HY.out).1).trans HY.out)]; rfl
      go_upto_region 6 with fail
      go_quiet (fail)
      all_goals go_wp2_with fail
      all_goals exact ⟨⟨k + 1, by omega, by go_num, Lib.hid (below_drewN HJ.out _)⟩, by simp only [intOf]; omega⟩
    · have k1 : decide ((k : Int) < a.vals.length) = false := decide_eq_false (by omega)
      go_wp2_with fail
      go_ret
      exact ⟨rfl, HWJ.out⟩
end Go.Proofs.Ytdkkpkgfiodlbaa

/- A nil shard's methods. -/
namespace Go.Proofs.Ytdkkpkgfiodlbaa
open Go.RowKit Go.Maps
set_option maxRecDepth 100000 in
set_option maxHeartbeats 1000000 in
theorem nil21_decided (t : Int) (w : World) : Calls Try.prog 14 #[.pointer none, vi t] w fun e w' => e = .returned (.tuple #[.agg #[vi 0, .bool false, vi 0], .bool false]) ∧ Below w.heap.size w w' := by
  go_enter Try.func14, Try.ntmps14
  go_wp2_with fail
  refine bodyPost_ret (v := .tuple #[.agg #[vi 0, .bool false, vi 0], .bool false]) (by simp [results, Try.results14, go_sem]) rfl ⟨rfl, ?_⟩
  exact (Below.refl _ _).alloc (Nat.le_refl _) _
set_option maxRecDepth 100000 in
set_option maxHeartbeats 1000000 in
theorem nil21_apply (v : Value) (w : World) : Calls Try.prog 11 #[.pointer none, v] w fun e w' => e = .returned (.agg #[vi 1, .slice none 0 0, vi 0, vi 0, vi 0, vi 0, .bool false, vi 0]) ∧ Below w.heap.size w w' := by
  go_enter Try.func11, Try.ntmps11
  go_wp2_with fail
  refine bodyPost_ret (v := .agg #[vi 1, .slice none 0 0, vi 0, vi 0, vi 0, vi 0, .bool false, vi 0]) (by simp [results, Try.results11, go_sem]) rfl ⟨rfl, ?_⟩
  exact (Below.refl _ _).alloc (Nat.le_refl _) _
set_option maxRecDepth 100000 in
set_option maxHeartbeats 1000000 in
theorem nil21_store (w : World) : Calls Try.prog 19 #[.pointer none] w fun e w' => e = .returned (.pointer none) ∧ w' = w := by
  go_enter Try.func19, Try.ntmps19
  go_wp2_with fail
  go_ret
  exact ⟨rfl, rfl⟩
set_option maxRecDepth 100000 in
set_option maxHeartbeats 1000000 in
theorem nil21_now (w : World) : Calls Try.prog 13 #[.pointer none] w fun e w' => e = .returned (vi 0) ∧ w' = w := by
  go_enter Try.func13, Try.ntmps13
  go_wp2_with fail
  go_ret
  exact ⟨rfl, rfl⟩
end Go.Proofs.Ytdkkpkgfiodlbaa

/- The walk of ShardApplies. -/
namespace Go.Proofs.Ytdkkpkgfiodlbaa
open Go.RowKit Go.Maps

theorem owr_shape21 {base : Nat} {w : World} {v : Value} {L : List RV} (h : OwR base w v L) : ∃ a c, v = .slice a L.length c := by
  obtain ⟨h1, _⟩ := h
  exact Bt.own_shape h1
set_option maxRecDepth 100000 in
set_option maxHeartbeats 1000000 in
theorem store21_call {base p ps mk mr me md : Nat} {serial : Bool} {bugs stamps now : Int} {K : KeysL} {R : RdyL} {E D : EndL} (w : World) (h : ShS base p ps mk mr me md serial bugs stamps now K R E D w) :
    Calls Try.prog 19 #[.pointer (some ⟨p, 0, none⟩)] w fun e w' => e = .returned (.pointer (some ⟨ps, 0, none⟩)) ∧ w' = w := by
  have c0 : w.cell? ⟨p, 0, none⟩ = some (.pointer (some ⟨ps, 0, none⟩)) := by rw [cell_of h.blk]; rfl
  clear h
  go_enter Try.func19, Try.ntmps19
  go_wp2_with fail
  go_ret
  exact ⟨rfl, rfl⟩
set_option maxRecDepth 1000000 in
set_option maxHeartbeats 16000000 in
theorem shardApplies.walk (sr : Bool) (bg0 st : Int) (v3 : Value) (cs : List Cmd21) (w : World) (r3 : RdCmdI w v3 cs) :
    Calls Try.prog 5 #[.bool sr, vi bg0, vi st, v3] w fun e w' => e = .returned (.bool true) ∧ Below w.heap.size w w' := by
  obtain ⟨av, nv, cv, hv, rfl, hm, -⟩ := r3.at
  subst hv
  have HR3 := Lib.hid r3
  clear r3
  obtain ⟨bg, hbg, hbg0, hbg1⟩ := and63' bg0
  go_enter Try.func5, Try.ntmps5
  go_wp2_with fail
  refine (head21_call w).mono ?_
  rintro e w1 ⟨rfl, hb1⟩
  have HB1 := Lib.hid hb1
  have hs1 := hb1.size
  clear hb1
  dsimp only
  by_cases h60 : 60 < cs.length
  · have g1 : decide ((60 : Int) < cs.length) = true := decide_eq_true (by omega)
    go_wp2_with fail
    go_ret
    exact ⟨rfl, HB1.out⟩
  have g1 : decide ((60 : Int) < cs.length) = false := decide_eq_false (by omega)
  go_upto_region 6 with fail
  go_wp2_with fail
  refine (shNew_call sr bg st w1).mono ?_
  rintro e1 w2 ⟨p, ps, mk, mr, me, md, rfl, hs2, hb2⟩
  have HS2 := Lib.hid (show ShT w2.heap.size w1.heap.size p ps mk mr me md sr bg st 0 [] [] [] [] w2 from ⟨hs2, hs2.bnd, (fun y hy => by cases hy), (fun y hy => by cases hy), Nat.le_refl _⟩)
  have HB2 := Lib.hid (HB1.out.trans (hb2.mono hs1))
  clear hs2 hb2
  dsimp only
  obtain ⟨N, hN⟩ : ∃ N, N = w2.heap.size := ⟨_, rfl⟩
  rw [← hN] at HS2
  have HN := Lib.hid hN
  clear hN hbg
  go_wp2_with fail
  refine (new21_call sr bg st w2).mono ?_
  rintro e2 w3 ⟨rfl, hb3⟩
  have HI3 := Lib.hid (show AppI N w1.heap.size p ps mk mr me md w3.heap.size sr bg st 0 0 [] [] [] [] ⟨.slice none 0 0, .slice none 0 0, .slice none 0 0, .slice none 0 0, ⟨⟨sr, bg, [], [], []⟩, st, 0, []⟩⟩ (w3.alloc (.cells #[.bool sr, vi bg, .slice none 0 0, .slice none 0 0, .slice none 0 0, vi st, vi 0, .slice none 0 0] 54)) from
    ⟨(HS2.out.later hb3).later ((Below.refl _ _).alloc (Nat.le_refl _) _), ShI.start, ShJ.start, Sim21.start sr bg st, alloc_at w3 _, rd_nilSh _ sr bg st, rfl, rfl, rfl, ⟨Nat.zero_le _, Nat.zero_le _, Nat.zero_le _, Nat.zero_le _, (fun q hq => by cases hq), List.Pairwise.nil, List.Pairwise.nil⟩, ⟨Int.le_refl _, Int.le_refl _⟩, (HS2.out.later hb3).nw⟩)
  have HB3 := Lib.hid (((HB2.out.trans (hb3.mono HB2.out.size)).alloc (Nat.le_trans HB2.out.size hb3.size) (.cells #[.bool sr, vi bg, .slice none 0 0, .slice none 0 0, .slice none 0 0, vi st, vi 0, .slice none 0 0] 54)))
  clear hb3 HS2
  dsimp only
  go_upto_region 8 with fail
  generalize w3.alloc (.cells #[.bool sr, vi bg, .slice none 0 0, .slice none 0 0, .slice none 0 0, vi st, vi 0, .slice none 0 0] 54) = wA0 at *
  obtain ⟨X, hX⟩ : ∃ X, X = w3.heap.size := ⟨_, rfl⟩
  rw [← hX] at HI3 ⊢
  clear hX
  have HBG := Lib.hid (show 0 ≤ bg ∧ bg ≤ 63 from ⟨hbg0, hbg1⟩)
  clear hbg0 hbg1
  go_wp2_with fail
  go_loopw [41] (fun i wr => ∃ k : Nat, k ≤ cs.length ∧ i = vi k ∧ Hid (∃ now K R E D x, AppI N w1.heap.size p ps mk mr me md X sr bg st k now K R E D x wr ∧ Below w.heap.size w wr)) (fun i _ => cs.length - (intOf i).toNat)
  case atStart => exact ⟨0, Nat.zero_le _, rfl, Lib.hid ⟨0, [], [], [], [], _, HI3.out, HB3.out⟩⟩
  case round =>
    obtain ⟨wj, rfl⟩ : ∃ wj : World, wj = wr := ⟨_, rfl⟩
    obtain ⟨k, hk, rfl, HJ⟩ := hrel
    obtain ⟨now, K, R, E, D, x, hIj, hBj⟩ := HJ.out
    have HIJ := Lib.hid hIj
    have HBJ := Lib.hid hBj
    clear HJ hIj hBj
    by_cases hlt : k < cs.length
    · have k1 : decide ((k : Int) < cs.length) = true := decide_eq_true (by omega)
      have hki : (k : Int) < cs.length := by omega
      have hwk : IntKind.i64.wrap ((k : Int) + 1) = (k : Int) + 1 := IntWalk.i64_in _ (by omega)
      obtain ⟨o, ho⟩ := some_at hlt
      obtain ⟨a', n', c', hee, _, _, hcells⟩ := HR3.out.at
      obtain ⟨bo, oo, wv, rv, ha, hrd, hri, hei, hki64, hc⟩ := hcells k o ho
      simp only [Value.slice.injEq] at hee
      obtain ⟨rfl, -, -⟩ := hee
      subst ha
      obtain ⟨aw, cw, ar, cr, hw0, hr0, lw0, lr0⟩ := rdv_slices21 hrd
      simp only at hw0 hr0 lw0 lr0
      subst hw0 hr0
      have y0 : wj.cell? ⟨bo, oo + k * 9, none⟩ = some (vi o.k) := cell_later HBJ.out (hc 0 _ rfl)
      have y1 : wj.cell? ⟨bo, oo + k * 9 + 1, none⟩ = some (vi o.r.txn) := by have := cell_later HBJ.out (hc 1 _ rfl); rw [← Nat.add_assoc] at this; exact this
      have y2 : wj.cell? ⟨bo, oo + k * 9 + 2, none⟩ = some (vi o.r.home) := by have := cell_later HBJ.out (hc 2 _ rfl); rw [← Nat.add_assoc] at this; exact this
      have y3 : wj.cell? ⟨bo, oo + k * 9 + 3, none⟩ = some (vi o.r.start) := by have := cell_later HBJ.out (hc 3 _ rfl); rw [← Nat.add_assoc] at this; exact this
      have y4 : wj.cell? ⟨bo, oo + k * 9 + 4, none⟩ = some (.slice aw o.r.writes.length cw) := by have := cell_later HBJ.out (hc 4 _ rfl); rw [← Nat.add_assoc] at this; exact this
      have y5 : wj.cell? ⟨bo, oo + k * 9 + 5, none⟩ = some (.slice ar o.r.reads.length cr) := by have := cell_later HBJ.out (hc 5 _ rfl); rw [← Nat.add_assoc] at this; exact this
      have y6 : wj.cell? ⟨bo, oo + k * 9 + 6, none⟩ = some (vi o.e.txn) := by have := cell_later HBJ.out (hc 6 _ rfl); rw [← Nat.add_assoc] at this; exact this
      have y7 : wj.cell? ⟨bo, oo + k * 9 + 7, none⟩ = some (.bool o.e.commit) := by have := cell_later HBJ.out (hc 7 _ rfl); rw [← Nat.add_assoc] at this; exact this
      have y8 : wj.cell? ⟨bo, oo + k * 9 + 8, none⟩ = some (vi o.e.at_) := by have := cell_later HBJ.out (hc 8 _ rfl); rw [← Nat.add_assoc] at this; exact this
      have hjs := HBJ.out.size
      have hE0 := (Below.refl wj.heap.size wj).alloc (Nat.le_refl _) (.cells #[vi o.k, vi o.r.txn, vi o.r.home, vi o.r.start, .slice aw o.r.writes.length cw, .slice ar o.r.reads.length cr, vi o.e.txn, .bool o.e.commit, vi o.e.at_] 33)
      have HIA := Lib.hid (HIJ.out.later hE0)
      have HBA := Lib.hid (HBJ.out.trans (hE0.mono hjs))
      have HXA := Lib.hid (alloc_at wj (.cells #[vi o.k, vi o.r.txn, vi o.r.home, vi o.r.start, .slice aw o.r.writes.length cw, .slice ar o.r.reads.length cr, vi o.e.txn, .bool o.e.commit, vi o.e.at_] 33))
      have HRDW := Lib.hid hrd
      have HRDA := Lib.hid (hrd.later HBA.out)
      have HRI := Lib.hid hri
      have HEI := Lib.hid hei
      have HK64 := Lib.hid hki64
      have HO := Lib.hid ho
      clear hcells ho hrd hri hei hc hE0 hki64
      go_upto_region 11 with fail
      clear y0 y1 y2 y3 y4 y5 y6 y7 y8
      generalize wj.alloc (.cells #[vi o.k, vi o.r.txn, vi o.r.home, vi o.r.start, .slice aw o.r.writes.length cw, .slice ar o.r.reads.length cr, vi o.e.txn, .bool o.e.commit, vi o.e.at_] 33) = wA at *
      obtain ⟨b8, hb8⟩ : ∃ b8, b8 = wj.heap.size := ⟨_, rfl⟩
      rw [← hb8] at HXA ⊢
      have HB8 := Lib.hid (show N ≤ b8 from by rw [hb8]; exact HIJ.out.sh.nw)
      clear hb8
      have x0 : wA.cell? ⟨b8, 0, none⟩ = some (vi o.k) := by rw [cell_of HXA.out]; rfl
      have x1 : wA.cell? ⟨b8, 1, none⟩ = some (vi o.r.txn) := by rw [cell_of HXA.out]; rfl
      have x2 : wA.cell? ⟨b8, 2, none⟩ = some (vi o.r.home) := by rw [cell_of HXA.out]; rfl
      have x3 : wA.cell? ⟨b8, 3, none⟩ = some (vi o.r.start) := by rw [cell_of HXA.out]; rfl
      have x4 : wA.cell? ⟨b8, 4, none⟩ = some (.slice aw o.r.writes.length cw) := by rw [cell_of HXA.out]; rfl
      have x5 : wA.cell? ⟨b8, 5, none⟩ = some (.slice ar o.r.reads.length cr) := by rw [cell_of HXA.out]; rfl
      have x6 : wA.cell? ⟨b8, 6, none⟩ = some (vi o.e.txn) := by rw [cell_of HXA.out]; rfl
      have x7 : wA.cell? ⟨b8, 7, none⟩ = some (.bool o.e.commit) := by rw [cell_of HXA.out]; rfl
      have x8 : wA.cell? ⟨b8, 8, none⟩ = some (vi o.e.at_) := by rw [cell_of HXA.out]; rfl
      go_wp2_with fail
      refine (big21_call o.k o.e.txn o.e.at_ o.e.commit aw ar cw cr o.r wA lw0 lr0).mono ?_
      rintro e3 wB ⟨rfl, hbb⟩
      have HIB := Lib.hid (HIA.out.later hbb)
      have HBB := Lib.hid (HBA.out.trans (hbb.mono HBA.out.size))
      have HXB := Lib.hid ((hbb.block b8 (Array.getElem?_eq_some_iff.1 HXA.out).1).trans HXA.out)
      have HRDB := Lib.hid (HRDA.out.later hbb)
      clear hbb x0 x1 x2 x3 x4 x5 x6 x7 x8 HIA HXA HRDA HBA
      dsimp only
      cases hbig : bigC o.r with
      | true =>
        go_wp2_with fail
        exact ⟨⟨k + 1, by omega, by go_num, Lib.hid ⟨_, _, _, _, _, _, HIB.out.more, HBB.out⟩⟩, by simp only [intOf]; omega⟩
      | false =>
      have HCI := Lib.hid (show CmdI o from ⟨HK64.out, HRI.out, HEI.out, (bigC_false hbig).1, (bigC_false hbig).2⟩)
      clear hbig
      have x0 : wB.cell? ⟨b8, 0, none⟩ = some (vi o.k) := by rw [cell_of HXB.out]; rfl
      have x1 : wB.cell? ⟨b8, 1, none⟩ = some (vi o.r.txn) := by rw [cell_of HXB.out]; rfl
      have x2 : wB.cell? ⟨b8, 2, none⟩ = some (vi o.r.home) := by rw [cell_of HXB.out]; rfl
      have x3 : wB.cell? ⟨b8, 3, none⟩ = some (vi o.r.start) := by rw [cell_of HXB.out]; rfl
      have x4 : wB.cell? ⟨b8, 4, none⟩ = some (.slice aw o.r.writes.length cw) := by rw [cell_of HXB.out]; rfl
      have x5 : wB.cell? ⟨b8, 5, none⟩ = some (.slice ar o.r.reads.length cr) := by rw [cell_of HXB.out]; rfl
      have x6 : wB.cell? ⟨b8, 6, none⟩ = some (vi o.e.txn) := by rw [cell_of HXB.out]; rfl
      have x7 : wB.cell? ⟨b8, 7, none⟩ = some (.bool o.e.commit) := by rw [cell_of HXB.out]; rfl
      have x8 : wB.cell? ⟨b8, 8, none⟩ = some (vi o.e.at_) := by rw [cell_of HXB.out]; rfl
      go_wp2_with fail
      refine (cmdBytes_call o (.slice aw o.r.writes.length cw) (.slice ar o.r.reads.length cr) wB HRDB.out HCI.out).mono ?_
      rintro e4 wC ⟨vb, rfl, hob, hbb⟩
      have HOB := Lib.hid hob
      have HIC := Lib.hid (HIB.out.later hbb)
      have HBC := Lib.hid (HBB.out.trans (hbb.mono HBB.out.size))
      have HXC := Lib.hid ((hbb.block b8 (Array.getElem?_eq_some_iff.1 HXB.out).1).trans HXB.out)
      have HRDC := Lib.hid (HRDB.out.later hbb)
      have hlc := HBC.out.size
      clear hob hbb x0 x1 x2 x3 x4 x5 x6 x7 x8 HIB HXB HRDB HBB
      dsimp only
      have hkn : k ≤ 900 := by omega
      have HLB := Lib.hid (show 0 ≤ now ∧ now ≤ 1000000 from by have := HIC.out.now0; omega)
      go_wp2_with fail
      refine (HIC.out.sh.step o wC HCI.out (own_src HOB.out) hkn HIC.out.i HLB.out).mono ?_
      rintro e5 wd ⟨a, vv, now', K', R', E', D', rfl, ho2, hsd, htd, hp2⟩
      obtain ⟨hai, hJ2, hnw⟩ := hp2.ok HCI.out HIC.out.j HLB.out
      obtain ⟨qa, qc, rfl⟩ := Bt.own_shape (show World.ownsRow _ _ _ _ vv a.vals.length _ from ho2)
      have hbd := HBC.out.trans (htd.toBelow' hlc (fun z hz => Nat.le_trans hs1 (hsd.s.bases z hz)))
      have hE := (Below.refl wd.heap.size wd).alloc (Nat.le_refl _) (.cells #[vi a.err, .slice qa a.vals.length qc, vi a.at_, vi a.by_, vi a.home, vi a.e.txn, .bool a.e.commit, vi a.e.at_] 37)
      have htn := HIC.out.turn htd
      have HSE := Lib.hid (hsd.later hE)
      have HXE := Lib.hid ((hE.block X (Array.getElem?_eq_some_iff.1 htn.1).1).trans htn.1)
      have HYE := Lib.hid (htn.2.le (erB_mono (bs := [p, md, mk, mr, me, X]) fun j hj _ => hE.block j hj))
      have HBE := Lib.hid (hbd.trans (hE.mono hbd.size))
      have hb8d := (htd.block b8 (Array.getElem?_eq_some_iff.1 HXC.out).1 (hsd.b.out HB8.out)).trans HXC.out
      have H8E := Lib.hid ((hE.block b8 (Array.getElem?_eq_some_iff.1 hb8d).1).trans hb8d)
      have H9E := Lib.hid (alloc_at wd (.cells #[vi a.err, .slice qa a.vals.length qc, vi a.at_, vi a.by_, vi a.home, vi a.e.txn, .bool a.e.commit, vi a.e.at_] 37))
      have HOE := Lib.hid (own_below (show World.ownsRow _ _ _ _ (.slice qa a.vals.length qc) a.vals.length _ from ho2) hE)
      have HP := Lib.hid hp2
      have HAI := Lib.hid hai
      have HJ2 := Lib.hid hJ2
      have HNW := Lib.hid hnw
      have hXd := (Array.getElem?_eq_some_iff.1 htn.1).1
      clear hai hJ2 hnw hbd hE htn hb8d ho2 hsd htd hp2 HOB HXC HRDC
      unfold ansV ansC
      dsimp only
      go_upto_region 14 with fail
      generalize wd.alloc (.cells #[vi a.err, .slice qa a.vals.length qc, vi a.at_, vi a.by_, vi a.home, vi a.e.txn, .bool a.e.commit, vi a.e.at_] 37) = we at *
      obtain ⟨b9, hb9⟩ : ∃ b9, b9 = wd.heap.size := ⟨_, rfl⟩
      rw [← hb9] at H9E hXd ⊢
      have HX9 := Lib.hid (show X ≠ b9 by omega)
      clear hb9 hXd
      have x0 : we.cell? ⟨b8, 0, none⟩ = some (vi o.k) := by rw [cell_of H8E.out]; rfl
      by_cases hkb : 1 ≤ o.k ∧ o.k ≤ 5
      case neg =>
        have hp : BadP now K R E D a now' K' R' E' D' := by
          rcases HP.out with ⟨h1, _⟩ | ⟨h1, _⟩ | ⟨h1, _⟩ | ⟨h1, _⟩ | ⟨h1, _⟩ | ⟨_, h1⟩
          · omega
          · omega
          · omega
          · omega
          · omega
          · exact h1
        obtain ⟨rfl, rfl, rfl, rfl, rfl, rfl⟩ := hp
        have z0 : we.cell? ⟨b9, 0, none⟩ = some (vi 14) := by rw [cell_of H9E.out]; rfl
        have hnx := HIC.out
        have HFN := Lib.hid (show AppI N w1.heap.size p ps mk mr me md X sr bg st (k + 1) now' K' R' E' D' x we from ⟨HSE.out, hnx.i.more, hnx.j, hnx.sim, HXE.out, HYE.out, hnx.ser, hnx.bg, hnx.stp, hnx.pl.more, ⟨hnx.now0.1, by have := hnx.now0.2; omega⟩, hnx.nx⟩)
        clear hnx
        by_cases hk1 : o.k < 1
        · have d1 : decide (o.k < 1) = true := decide_eq_true hk1
          go_wp2_with fail
          exact ⟨⟨k + 1, by omega, by go_num, Lib.hid ⟨_, _, _, _, _, _, HFN.out, HBE.out⟩⟩, by simp only [intOf]; omega⟩
        · have d1 : decide (o.k < 1) = false := decide_eq_false hk1
          have d2 : decide (5 < o.k) = true := decide_eq_true (by omega)
          go_wp2_with fail
          exact ⟨⟨k + 1, by omega, by go_num, Lib.hid ⟨_, _, _, _, _, _, HFN.out, HBE.out⟩⟩, by simp only [intOf]; omega⟩
      case pos =>
      have d1 : decide (o.k < 1) = false := decide_eq_false (by omega)
      have d2 : decide (5 < o.k) = false := decide_eq_false (by omega)
      have HKB := Lib.hid hkb
      have hnx := HIC.out
      have hst := hnx.sim.step (by rw [hnx.bg]; exact HBG.out) hkb (c := o) (a := a) (HSE.out.s.st.ready.pairwise) (by rw [hnx.ser, hnx.bg, hnx.stp]; exact HP.out)
      have hps := hnx.pl.step o.k (killK o.r) o.e (by rw [killK_len]; exact HCI.out.lw) hst.2.s.ws
      have hbd := hnx.bd (by omega) HBG.out
      obtain ⟨m', hm'⟩ : ∃ m', m' = (apply21M x.m o.k (killK o.r) o.e).1 := ⟨_, rfl⟩
      have HQ := Lib.hid (show apply21M x.m o.k (killK o.r) o.e = (m', a) from by rw [hm', ← hst.1])
      rw [← hm'] at hst hps
      have HSM := Lib.hid hst.2
      have HPS := Lib.hid hps
      have HBD := Lib.hid hbd
      obtain ⟨a1, c1, a2, c2, a3, c3, a4, c4, hxe⟩ := hnx.shapes
      have HX8 := Lib.hid (show we.heap[X]? = some (.cells #[.bool x.m.s.serial, vi x.m.s.bugs, .slice a1 x.m.s.vs.length c1, .slice a2 x.m.s.ws.length c2, .slice a3 x.m.s.es.length c3, vi x.m.stamps, vi x.m.now, .slice a4 x.m.ds.length c4] 54) from by
        have h1 := HXE.out
        have hsc : shC x = #[.bool x.m.s.serial, vi x.m.s.bugs, .slice a1 x.m.s.vs.length c1, .slice a2 x.m.s.ws.length c2, .slice a3 x.m.s.es.length c3, vi x.m.stamps, vi x.m.now, .slice a4 x.m.ds.length c4] := by rw [hxe]; rfl
        rw [hsc] at h1; exact h1)
      have HY8 := Lib.hid (show RdSh (erB [p, md, mk, mr, me, X] we) ⟨.slice a1 x.m.s.vs.length c1, .slice a2 x.m.s.ws.length c2, .slice a3 x.m.s.es.length c3, .slice a4 x.m.ds.length c4, x.m⟩ from by
        have h1 := HYE.out
        rw [hxe] at h1; exact h1)
      have HRDE := Lib.hid (HRDW.out.later HBE.out)
      have HNX := Lib.hid hnx.nx
      clear hst hps hbd hm' hnx hxe hkb
      go_upto_region 17 with fail
      clear x0 d1 d2
      go_cut [15, 16, 41] from 41 to 82 (fun b c i wx => i = vi k ∧ ∃ b15 b16 y qa qc, b = .pointer (some ⟨b15, 0, none⟩) ∧ c = .pointer (some ⟨b16, 0, none⟩) ∧ Fin17 (erB [p, md, mk, mr, me, X] we) we m' a wx b15 b16 y qa qc)
      case first =>
        rename_i J1 K1 h1 h2
        refine wp_onlyN (K := K1) ?_ (fun _ _ h => h)
        refine reg17v we K1 HX8.out HY8.out (erB_le _ _) H8E.out HRDE.out HKB.out HBD.out ⟨by have := HCI.out.lw; omega, by have := HCI.out.lr; omega⟩ HQ.out ?_
        intro wx b15 b16 y qa2 qc2 v63 v64 v65 v66 v67 v68 v69 hf
        refine h2 _ _ (Met.intro (h1 _ _ ?_))
        (repeat apply Exists.intro)
        refine ⟨?rel, rfl⟩
        exact ⟨rfl, b15, b16, y, qa2, qc2, rfl, rfl, hf⟩
      case rest =>
        obtain ⟨xc, rfl⟩ : ∃ xc : World, xc = wc := ⟨_, rfl⟩
        obtain ⟨rfl, b15, b16, y, qa2, qc2, rfl, rfl, hf⟩ := hcut
        have hrx := hf.rd xc ((erB_le _ _).le.trans (CLe.of_below hf.bel)) (fun _ _ => rfl)
        obtain ⟨d1, g1, d2, g2, d3, g3, d4, g4, hye, -, -⟩ := hrx.1.shapes
        have hsy : shC y = #[.bool y.m.s.serial, vi y.m.s.bugs, .slice d1 y.m.s.vs.length g1, .slice d2 y.m.s.ws.length g2, .slice d3 y.m.s.es.length g3, vi y.m.stamps, vi y.m.now, .slice d4 y.m.ds.length g4] := by rw [hye]; rfl
        have hX0 := (hf.bel.block X (Array.getElem?_eq_some_iff.1 HX8.out).1).trans HX8.out
        have hlt8 := (Array.getElem?_eq_some_iff.1 HX8.out).1
        have hX15 : X ≠ b15 := by have := hf.b15; omega
        have hX16 : X ≠ b16 := by have := hf.b16; omega
        have hst := hf.st
        rw [hsy] at hst
        have han : xc.heap[b16]? = some (.cells #[vi a.err, .slice qa2 a.vals.length qc2, vi a.at_, vi a.by_, vi a.home, vi a.e.txn, .bool a.e.commit, vi a.e.at_] 58) := hf.an
        have h9x := (hf.bel.block b9 (Array.getElem?_eq_some_iff.1 H9E.out).1).trans H9E.out
        have hset := rn_set8 (.bool y.m.s.serial) (vi y.m.s.bugs) (.slice d1 y.m.s.vs.length g1) (.slice d2 y.m.s.ws.length g2) (.slice d3 y.m.s.es.length g3) (vi y.m.stamps) (vi y.m.now) (.slice d4 y.m.ds.length g4) hX0
        have hoth : ∀ j, j ≠ X → ((((((((xc.setCell ⟨X, 0, none⟩ (.bool y.m.s.serial)).setCell ⟨X, 1, none⟩ (vi y.m.s.bugs)).setCell ⟨X, 2, none⟩ (.slice d1 y.m.s.vs.length g1)).setCell ⟨X, 3, none⟩ (.slice d2 y.m.s.ws.length g2)).setCell ⟨X, 4, none⟩ (.slice d3 y.m.s.es.length g3)).setCell ⟨X, 5, none⟩ (vi y.m.stamps)).setCell ⟨X, 6, none⟩ (vi y.m.now)).setCell ⟨X, 7, none⟩ (.slice d4 y.m.ds.length g4)).heap[j]? = xc.heap[j]? := fun j hj => rn_oth8 hj
        have hsz : ((((((((xc.setCell ⟨X, 0, none⟩ (.bool y.m.s.serial)).setCell ⟨X, 1, none⟩ (vi y.m.s.bugs)).setCell ⟨X, 2, none⟩ (.slice d1 y.m.s.vs.length g1)).setCell ⟨X, 3, none⟩ (.slice d2 y.m.s.ws.length g2)).setCell ⟨X, 4, none⟩ (.slice d3 y.m.s.es.length g3)).setCell ⟨X, 5, none⟩ (vi y.m.stamps)).setCell ⟨X, 6, none⟩ (vi y.m.now)).setCell ⟨X, 7, none⟩ (.slice d4 y.m.ds.length g4)).heap.size = xc.heap.size := by simp
        have hwX : w.heap.size ≤ X := by have h1 := HNX.out; rw [HN.out] at h1; exact Nat.le_trans HB2.out.size h1
        have hbx := (HBE.out.trans (hf.bel.mono HBE.out.size)).trans (rn_below8 (W := xc) (.bool y.m.s.serial) (vi y.m.s.bugs) (.slice d1 y.m.s.vs.length g1) (.slice d2 y.m.s.ws.length g2) (.slice d3 y.m.s.es.length g3) (vi y.m.stamps) (vi y.m.now) (.slice d4 y.m.ds.length g4) hwX)
        have p0 : xc.cell? ⟨b15, 0, none⟩ = some (.bool y.m.s.serial) := by rw [cell_of hst]; rfl
        have p1 : xc.cell? ⟨b15, 1, none⟩ = some (vi y.m.s.bugs) := by rw [cell_of hst]; rfl
        have p2 : xc.cell? ⟨b15, 2, none⟩ = some (.slice d1 y.m.s.vs.length g1) := by rw [cell_of hst]; rfl
        have p3 : xc.cell? ⟨b15, 3, none⟩ = some (.slice d2 y.m.s.ws.length g2) := by rw [cell_of hst]; rfl
        have p4 : xc.cell? ⟨b15, 4, none⟩ = some (.slice d3 y.m.s.es.length g3) := by rw [cell_of hst]; rfl
        have p5 : xc.cell? ⟨b15, 5, none⟩ = some (vi y.m.stamps) := by rw [cell_of hst]; rfl
        have p6 : xc.cell? ⟨b15, 6, none⟩ = some (vi y.m.now) := by rw [cell_of hst]; rfl
        have p7 : xc.cell? ⟨b15, 7, none⟩ = some (.slice d4 y.m.ds.length g4) := by rw [cell_of hst]; rfl
        have q15f : ∀ j, xc.frozen? ⟨X, j, none⟩ = false := fun j => free_of hX0 j
        have q0 : xc.cell? ⟨X, 0, none⟩ = some (.bool x.m.s.serial) := by rw [cell_of hX0]; rfl
        have q1 : xc.cell? ⟨X, 1, none⟩ = some (vi x.m.s.bugs) := by rw [cell_of hX0]; rfl
        have q2 : xc.cell? ⟨X, 2, none⟩ = some (.slice a1 x.m.s.vs.length c1) := by rw [cell_of hX0]; rfl
        have q3 : xc.cell? ⟨X, 3, none⟩ = some (.slice a2 x.m.s.ws.length c2) := by rw [cell_of hX0]; rfl
        have q4 : xc.cell? ⟨X, 4, none⟩ = some (.slice a3 x.m.s.es.length c3) := by rw [cell_of hX0]; rfl
        have q5 : xc.cell? ⟨X, 5, none⟩ = some (vi x.m.stamps) := by rw [cell_of hX0]; rfl
        have q6 : xc.cell? ⟨X, 6, none⟩ = some (vi x.m.now) := by rw [cell_of hX0]; rfl
        have q7 : xc.cell? ⟨X, 7, none⟩ = some (.slice a4 x.m.ds.length c4) := by rw [cell_of hX0]; rfl
        have HF := Lib.hid hf
        have HSET := Lib.hid hset
        have HOTH := Lib.hid hoth
        have HSZ := Lib.hid hsz
        have HBX := Lib.hid hbx
        have HYSH := Lib.hid hsy
        have HAN := Lib.hid han
        have H9X := Lib.hid h9x
        have HX0 := Lib.hid hX0
        clear hf hset hoth hsz hbx hsy han h9x hX0 hye hrx hst
        go_upto_region 19 with fail
        generalize ((((((((xc.setCell ⟨X, 0, none⟩ (.bool y.m.s.serial)).setCell ⟨X, 1, none⟩ (vi y.m.s.bugs)).setCell ⟨X, 2, none⟩ (.slice d1 y.m.s.vs.length g1)).setCell ⟨X, 3, none⟩ (.slice d2 y.m.s.ws.length g2)).setCell ⟨X, 4, none⟩ (.slice d3 y.m.s.es.length g3)).setCell ⟨X, 5, none⟩ (vi y.m.stamps)).setCell ⟨X, 6, none⟩ (vi y.m.now)).setCell ⟨X, 7, none⟩ (.slice d4 y.m.ds.length g4)) = wy at *
        have hcl : CLe (erB [p, md, mk, mr, me, X] we) (erB [p, md, mk, mr, me, X] wy) := erB_mono fun j hj hn => (HOTH.out j (fun e => hn (by rw [e]; simp))).trans (HF.out.bel.block j hj)
        have hge : ∀ j, we.heap.size ≤ j → (erB [p, md, mk, mr, me, X] wy).heap[j]? = xc.heap[j]? := fun j hj => by
          have hn : j ∉ [p, md, mk, mr, me, X] := fun hm => by
            have h1 := HSE.out.b
            have h2 := HSE.out.nw
            have := h1.hp; have := h1.hd; have := h1.hk; have := h1.hr; have := h1.he
            simp at hm; omega
          rw [erB_off hn]
          exact HOTH.out j (by omega)
        have HRY := Lib.hid (HF.out.rd _ hcl hge).1
        have HRW := Lib.hid (HF.out.rd wy (hcl.trans (erB_le _ wy).le) (fun j hj => HOTH.out j (by omega))).2
        have HRV := Lib.hid (show RdV wy (.slice qa a.vals.length qc) a.vals from own_rds (enc := viC) (E := fun _ cs x => cs = viC x) (fun _ => rfl) (own_other (own_below HOE.out HF.out.bel) HX0.out (by decide) HOTH.out) (fun _ _ => rfl))
        have HSY := Lib.hid ((HSE.out.later HF.out.bel).other HX0.out (by rw [HSZ.out]; exact Nat.le_refl _) HOTH.out)
        have H9Y := Lib.hid ((HOTH.out b9 (Ne.symm HX9.out)).trans H9X.out)
        have H16Y := Lib.hid ((HOTH.out b16 (Ne.symm hX16)).trans HAN.out)
        have hnow : y.m.now = now' := by rw [HF.out.ym]; exact HSM.out.now.symm
        have HSS := Lib.hid (show ∀ W, Below wy.heap.size wy W → ((W.cell? ⟨b9, 0, none⟩ = some (vi a.err) ∧ W.cell? ⟨b9, 1, none⟩ = some (.slice qa a.vals.length qc) ∧ W.cell? ⟨b9, 2, none⟩ = some (vi a.at_) ∧ W.cell? ⟨b9, 3, none⟩ = some (vi a.by_) ∧ W.cell? ⟨b9, 4, none⟩ = some (vi a.home) ∧ W.cell? ⟨b9, 5, none⟩ = some (vi a.e.txn) ∧ W.cell? ⟨b9, 6, none⟩ = some (.bool a.e.commit) ∧ W.cell? ⟨b9, 7, none⟩ = some (vi a.e.at_)) ∧ (W.cell? ⟨b16, 0, none⟩ = some (vi a.err) ∧ W.cell? ⟨b16, 1, none⟩ = some (.slice qa2 a.vals.length qc2) ∧ W.cell? ⟨b16, 2, none⟩ = some (vi a.at_) ∧ W.cell? ⟨b16, 3, none⟩ = some (vi a.by_) ∧ W.cell? ⟨b16, 4, none⟩ = some (vi a.home) ∧ W.cell? ⟨b16, 5, none⟩ = some (vi a.e.txn) ∧ W.cell? ⟨b16, 6, none⟩ = some (.bool a.e.commit) ∧ W.cell? ⟨b16, 7, none⟩ = some (vi a.e.at_)) ∧ W.cell? ⟨X, 6, none⟩ = some (vi now')) from fun W hW => by
          have k1 := (hW.block b9 (Array.getElem?_eq_some_iff.1 H9Y.out).1).trans H9Y.out
          have k2 := (hW.block b16 (Array.getElem?_eq_some_iff.1 H16Y.out).1).trans H16Y.out
          have k3 := (hW.block X (Array.getElem?_eq_some_iff.1 HSET.out).1).trans HSET.out
          exact ⟨⟨by rw [cell_of k1]; rfl, by rw [cell_of k1]; rfl, by rw [cell_of k1]; rfl, by rw [cell_of k1]; rfl, by rw [cell_of k1]; rfl, by rw [cell_of k1]; rfl, by rw [cell_of k1]; rfl, by rw [cell_of k1]; rfl⟩, ⟨by rw [cell_of k2]; rfl, by rw [cell_of k2]; rfl, by rw [cell_of k2]; rfl, by rw [cell_of k2]; rfl, by rw [cell_of k2]; rfl, by rw [cell_of k2]; rfl, by rw [cell_of k2]; rfl, by rw [cell_of k2]; rfl⟩, by rw [cell_of k3, ← hnow]; rfl⟩)
        have HFN := Lib.hid (show ∀ W, Below wy.heap.size wy W → AppI N w1.heap.size p ps mk mr me md X sr bg st (k + 1) now' K' R' E' D' y W from fun W hW => by
          have hnx := HIC.out
          have hq : AppI N w1.heap.size p ps mk mr me md X sr bg st (k + 1) now' K' R' E' D' y wy := ⟨HSY.out, HP.out.inv HCI.out hnx.i, HJ2.out, by rw [HF.out.ym]; exact HSM.out, by rw [HSET.out, HYSH.out], HRY.out, by rw [HF.out.ym, HPS.out.2.1]; exact hnx.ser, by rw [HF.out.ym, HPS.out.2.2.1]; exact hnx.bg, by rw [HF.out.ym, HPS.out.2.2.2]; exact hnx.stp, by rw [HF.out.ym]; exact HPS.out.1, by have h1 := hnx.now0; rcases HNW.out with h2 | h2 <;> (rw [h2]; omega), hnx.nx⟩
          exact hq.later hW)
        have HK0 := Lib.hid (show Below wy.heap.size wy wy.drew from (Below.refl _ _).drew)
        have HSC := Lib.hid (show Calls Try.prog 18 #[.agg #[vi a.err, .slice qa a.vals.length qc, vi a.at_, vi a.by_, vi a.home, vi a.e.txn, .bool a.e.commit, vi a.e.at_], .agg #[vi a.err, .slice qa2 a.vals.length qc2, vi a.at_, vi a.by_, vi a.home, vi a.e.txn, .bool a.e.commit, vi a.e.at_]] wy.drew fun e w' => e = .returned (.bool true) ∧ Below wy.drew.heap.size wy.drew w' from same21_call a (.slice qa a.vals.length qc) (.slice qa2 a.vals.length qc2) wy.drew (HRV.out.later HK0.out) (HRW.out.later HK0.out) (by have := HAI.out.lv; omega))
        have HXL := Lib.hid HLB.out
        clear hcl hge hnow hX15 hX16 hlt8 hwX
        go_region_held3 (fun W : World => (W.cell? ⟨b9, 0, none⟩ = some (vi a.err) ∧ W.cell? ⟨b9, 1, none⟩ = some (.slice qa a.vals.length qc) ∧ W.cell? ⟨b9, 2, none⟩ = some (vi a.at_) ∧ W.cell? ⟨b9, 3, none⟩ = some (vi a.by_) ∧ W.cell? ⟨b9, 4, none⟩ = some (vi a.home) ∧ W.cell? ⟨b9, 5, none⟩ = some (vi a.e.txn) ∧ W.cell? ⟨b9, 6, none⟩ = some (.bool a.e.commit) ∧ W.cell? ⟨b9, 7, none⟩ = some (vi a.e.at_)) ∧ (W.cell? ⟨b16, 0, none⟩ = some (vi a.err) ∧ W.cell? ⟨b16, 1, none⟩ = some (.slice qa2 a.vals.length qc2) ∧ W.cell? ⟨b16, 2, none⟩ = some (vi a.at_) ∧ W.cell? ⟨b16, 3, none⟩ = some (vi a.by_) ∧ W.cell? ⟨b16, 4, none⟩ = some (vi a.home) ∧ W.cell? ⟨b16, 5, none⟩ = some (vi a.e.txn) ∧ W.cell? ⟨b16, 6, none⟩ = some (.bool a.e.commit) ∧ W.cell? ⟨b16, 7, none⟩ = some (vi a.e.at_)) ∧ W.cell? ⟨X, 6, none⟩ = some (vi now'))
          (first | with_reducible exact HSS.out _ HK0.out | with_reducible exact HSS.out _ HK1.out)
          (first
            | (go_at_call 18; (with_reducible refine HSC.out.mono ?_); rintro e6 y1 ⟨rfl, hb6⟩; have HK1 := Lib.hid (HK0.out.trans (hb6.mono HK0.out.size)); have HS1 := Lib.hid (HSY.out.later HK1.out).s; clear hb6)
            | (go_at_call 13; (with_reducible refine (now_call y1 HS1.out).mono ?_); rintro e7 y2 ⟨rfl, rfl⟩))
        go_wp2_with fail
        exact ⟨⟨k + 1, by omega, by go_num, Lib.hid ⟨_, _, _, _, _, _, HFN.out _ HK1.out, HBX.out.trans (HK1.out.mono HBX.out.size)⟩⟩, by simp only [intOf]; omega⟩
    · have k1 : decide ((k : Int) < cs.length) = false := decide_eq_false (by omega)
      obtain ⟨a1, c1, a2, c2, a3, c3, a4, c4, hxe⟩ := HIJ.out.shapes
      have HX8 := Lib.hid (show wj.heap[X]? = some (.cells #[.bool x.m.s.serial, vi x.m.s.bugs, .slice a1 x.m.s.vs.length c1, .slice a2 x.m.s.ws.length c2, .slice a3 x.m.s.es.length c3, vi x.m.stamps, vi x.m.now, .slice a4 x.m.ds.length c4] 54) from by
        have h1 := HIJ.out.box
        have hsc : shC x = #[.bool x.m.s.serial, vi x.m.s.bugs, .slice a1 x.m.s.vs.length c1, .slice a2 x.m.s.ws.length c2, .slice a3 x.m.s.es.length c3, vi x.m.stamps, vi x.m.now, .slice a4 x.m.ds.length c4] := by rw [hxe]; rfl
        rw [hsc] at h1; exact h1)
      have HDS := Lib.hid (show RdEn wj (.slice a4 x.m.ds.length c4) x.m.ds from by
        have h1 := (HIJ.out.rd.ale (erB_le _ _)).ds
        rw [hxe] at h1; exact h1)
      have x7 : wj.cell? ⟨X, 7, none⟩ = some (.slice a4 x.m.ds.length c4) := by rw [cell_of HX8.out]; rfl
      have HKL := Lib.hid (show k ≤ 60 by omega)
      have hdl : x.m.ds.length ≤ 60 := by have := HIJ.out.pl.ds; omega
      have hjs := HBJ.out.size
      clear hxe
      go_wp2_with fail
      clear x7
      go_loopw [86] (fun i wr => ∃ j : Nat, j ≤ x.m.ds.length ∧ i = vi j ∧ Hid (Below wj.heap.size wj wr)) (fun i _ => x.m.ds.length - (intOf i).toNat)
      case atStart => exact ⟨0, Nat.zero_le _, rfl, Lib.hid (Below.refl _ _)⟩
      case round =>
        obtain ⟨wq, rfl⟩ : ∃ wq : World, wq = wr := ⟨_, rfl⟩
        clear hlt k1 hk
        obtain ⟨j, hj, rfl, HQ⟩ := hrel
        by_cases hlt : j < x.m.ds.length
        · have k1 : decide ((j : Int) < x.m.ds.length) = true := decide_eq_true (by omega)
          have hki : (j : Int) < x.m.ds.length := by omega
          have hwk : IntKind.i64.wrap ((j : Int) + 1) = (j : Int) + 1 := IntWalk.i64_in _ (by omega)
          obtain ⟨d, hd⟩ := some_at hlt
          obtain ⟨g, off, ha, y0, y1, y2⟩ := (HDS.out.later HQ.out).el hd
          subst ha
          have hfd : getM D d.txn = some d := by rw [HIJ.out.sim.d]; exact once21 HIJ.out.pl.once (List.mem_of_getElem? hd)
          have hdi : i64 d.txn := (HIJ.out.j.d _ (getM_some hfd)).1
          have hE := (Below.refl wq.heap.size wq).alloc (Nat.le_refl _) (.cells #[vi d.txn, .bool d.commit, vi d.at_] 56)
          have HQA := Lib.hid (HQ.out.trans (hE.mono HQ.out.size))
          have HXA := Lib.hid (alloc_at wq (.cells #[vi d.txn, .bool d.commit, vi d.at_] 56))
          have HFD := Lib.hid hfd
          have HDI := Lib.hid hdi
          clear hE hfd hdi hd
          go_upto_region 25 with fail
          clear y0 y1 y2
          generalize wq.alloc (.cells #[vi d.txn, .bool d.commit, vi d.at_] 56) = wA at *
          obtain ⟨b8, hb8⟩ : ∃ b8, b8 = wq.heap.size := ⟨_, rfl⟩
          rw [← hb8] at HXA ⊢
          clear hb8
          have x0 : wA.cell? ⟨b8, 0, none⟩ = some (vi d.txn) := by rw [cell_of HXA.out]; rfl
          go_wp2_with fail
          refine (decided_call d.txn wA (HIJ.out.sh.s.later HQA.out) HDI.out).mono ?_
          rintro e5 wB ⟨rfl, hbb⟩
          rw [HFD.out]
          unfold endV
          dsimp only [Option.getD_some, Option.isSome_some]
          have hF := (Below.refl wB.heap.size wB).alloc (Nat.le_refl _) (.cells #[vi d.txn, .bool d.commit, vi d.at_] 31)
          have HQC := Lib.hid ((HQA.out.trans (hbb.mono HQA.out.size)).trans (hF.mono (Nat.le_trans HQA.out.size hbb.size)))
          have h8B := (hbb.block b8 (Array.getElem?_eq_some_iff.1 HXA.out).1).trans HXA.out
          have HXC := Lib.hid ((hF.block b8 (Array.getElem?_eq_some_iff.1 h8B).1).trans h8B)
          have HZC := Lib.hid (alloc_at wB (.cells #[vi d.txn, .bool d.commit, vi d.at_] 31))
          clear hF h8B hbb x0
          go_upto_region 26 with fail
          generalize wB.alloc (.cells #[vi d.txn, .bool d.commit, vi d.at_] 31) = wC at *
          obtain ⟨b9, hb9⟩ : ∃ b9, b9 = wB.heap.size := ⟨_, rfl⟩
          rw [← hb9] at HZC ⊢
          clear hb9
          have x0 : wC.cell? ⟨b8, 0, none⟩ = some (vi d.txn) := by rw [cell_of HXC.out]; rfl
          have x1 : wC.cell? ⟨b8, 1, none⟩ = some (.bool d.commit) := by rw [cell_of HXC.out]; rfl
          have x2 : wC.cell? ⟨b8, 2, none⟩ = some (vi d.at_) := by rw [cell_of HXC.out]; rfl
          have z0 : wC.cell? ⟨b9, 0, none⟩ = some (vi d.txn) := by rw [cell_of HZC.out]; rfl
          have z1 : wC.cell? ⟨b9, 1, none⟩ = some (.bool d.commit) := by rw [cell_of HZC.out]; rfl
          have z2 : wC.cell? ⟨b9, 2, none⟩ = some (vi d.at_) := by rw [cell_of HZC.out]; rfl
          go_wp2_with fail
          exact ⟨⟨j + 1, by omega, by go_num, HQC⟩, by simp only [intOf]; omega⟩
        · have k1 : decide ((j : Int) < x.m.ds.length) = false := decide_eq_false (by omega)
          have HIQ := Lib.hid (HIJ.out.later HQ.out)
          have HBQ := Lib.hid (HBJ.out.trans (HQ.out.mono HBJ.out.size))
          go_wp2_with fail
          refine (nil21_decided 0 wq).mono ?_
          rintro e5 wB ⟨rfl, hbb⟩
          have hF := (Below.refl wB.heap.size wB).alloc (Nat.le_refl _) (.cells #[vi 0, .bool false, vi 0] 31)
          have HIC := Lib.hid ((HIQ.out.later hbb).later hF)
          have HBC := Lib.hid ((HBQ.out.trans (hbb.mono HBQ.out.size)).trans (hF.mono (Nat.le_trans HBQ.out.size hbb.size)))
          have HQC := Lib.hid ((Below.refl wq.heap.size wq).trans (hbb.trans (hF.mono hbb.size)))
          clear hbb hF
          dsimp only
          go_upto_region 31 with fail
          generalize wB.alloc (.cells #[vi 0, .bool false, vi 0] 31) = wt at *
          have HSS := Lib.hid (show ∀ W, Below wt.heap.size wt W → W.cell? ⟨X, 3, none⟩ = some (.slice a2 x.m.s.ws.length c2) from fun W hW => by
            have h1 := ((HQ.out.trans (HQC.out.mono HQ.out.size)).trans (hW.mono (Nat.le_trans HQ.out.size HQC.out.size))).block X (Array.getElem?_eq_some_iff.1 HX8.out).1
            rw [cell_of (h1.trans HX8.out)]; rfl)
          have hfl : ∀ z : World, (Instr.field 37 (.agg #[vi 1, .slice none 0 0, vi 0, vi 0, vi 0, vi 0, .bool false, vi 0]) 0).run Try.prog z = .ok (vi 1) z := fun z => by rfl
          have HWC := Lib.hid (show ∀ W, Below wt.heap.size wt W → Calls Try.prog 20 #[.pointer (some ⟨ps, 0, none⟩)] W fun e w' => ∃ aa ca, e = .returned (.slice aa x.m.s.ws.length ca) ∧ Below W.heap.size W w' from fun W hW =>
            (waits_call W (HIC.out.later hW).sh.s.st (by have := HIC.out.i.rlen; have := HKL.out; omega) (fun y hy => ⟨by have := (HIC.out.i.small y hy).1; omega, by have := (HIC.out.i.small y hy).2.1; omega⟩)).mono fun e w' ⟨va, La, he, hoa, hwa, hba⟩ => by
              obtain ⟨aa, ca, hva⟩ := owr_shape21 hoa
              have hl : La.length = x.m.s.ws.length := by
                have := HIC.out.sim.s.waits HIC.out.sim.dis hwa
                rw [← this, List.length_map]
              rw [hl] at hva
              subst hva
              exact ⟨aa, ca, he, hba⟩)
          have HK0 := Lib.hid (show Below wt.heap.size wt wt.drew from (Below.refl _ _).drew)
          go_region_held3 (fun W : World => W.cell? ⟨X, 3, none⟩ = some (.slice a2 x.m.s.ws.length c2))
            (first | with_reducible exact HSS.out _ HK0.out | with_reducible exact HSS.out _ HK1.out | with_reducible exact HSS.out _ HK2.out)
            (first
              | (go_at_call 11; (with_reducible refine (nil21_apply _ wt.drew).mono ?_); rintro e6 z1 ⟨rfl, hb6⟩; have HK1 := Lib.hid (HK0.out.trans (hb6.mono HK0.out.size)); have HS1 := Lib.hid (HIC.out.later HK1.out).sh.s; clear hb6)
              | (go_at_call 19; (with_reducible refine (nil21_store z1).mono ?_); rintro e7 z2 ⟨rfl, rfl⟩)
              | (go_at_call 13; (with_reducible refine (nil21_now _).mono ?_); rintro e8 z3 ⟨rfl, rfl⟩)
              | (go_at_call 19; (with_reducible refine (store21_call _ HS1.out).mono ?_); rintro e9 z4 ⟨rfl, rfl⟩)
              | (go_at_call 20; (with_reducible refine (HWC.out _ HK1.out).mono ?_); rintro e10 z5 ⟨aa, ca, rfl, hb7⟩; have HK2 := Lib.hid (HK1.out.trans (hb7.mono HK1.out.size)); clear hb7))
          go_wp2_with fail
          go_ret
          exact ⟨rfl, HBC.out.trans (HK2.out.mono HBC.out.size)⟩
end Go.Proofs.Ytdkkpkgfiodlbaa
