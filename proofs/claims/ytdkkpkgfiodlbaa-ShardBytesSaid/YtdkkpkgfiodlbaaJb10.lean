/- Texts of one proof, one behind the other: ShT, ShAp0, MvWaits, ShLock, ShAp3. -/
import Derived.Test.YtdkkpkgfiodlbaaJb9
set_option linter.all false
/- A shard whose rows lie ahead of its own blocks; what holds between commands. -/
namespace Go.Proofs.Ytdkkpkgfiodlbaa
open Go.RowKit Go.Maps

structure ShT (N base p ps mk mr me md : Nat) (serial : Bool) (bugs stamps now : Int) (K : KeysL) (R : RdyL) (E D : EndL) (W : World) : Prop where
  s : ShS base p ps mk mr me md serial bugs stamps now K R E D W
  b : ShB N p mk mr me md
  kown : ∀ y ∈ K, OwV N W y.2.1 y.2.2
  rown : ∀ y ∈ R, OwnR N W y.2
  nw : N ≤ W.heap.size
theorem ShT.later {N base p ps mk mr me md : Nat} {serial : Bool} {bugs stamps now : Int} {K : KeysL} {R : RdyL} {E D : EndL} {A B : World} (h : ShT N base p ps mk mr me md serial bugs stamps now K R E D A) (hb : Below A.heap.size A B) : ShT N base p ps mk mr me md serial bugs stamps now K R E D B :=
  ⟨h.s.later hb, h.b, fun y hy => own_below (h.kown y hy) hb, fun y hy => ⟨own_below (h.rown y hy).1 hb, own_below (h.rown y hy).2 hb⟩, Nat.le_trans h.nw hb.size⟩
theorem ShT.sep {N base p ps mk mr me md : Nat} {serial : Bool} {bugs stamps now : Int} {K : KeysL} {R : RdyL} {E D : EndL} {w : World} (h : ShT N base p ps mk mr me md serial bugs stamps now K R E D w) (x : Int) : MvS base ps mk mr me serial bugs K R E (w.setCell ⟨p, 3, none⟩ (vi x)) := by
  have hg := gro_setP (o := 3) (gro_refl w (some p)) (vi x)
  have hne : ∀ {m : Nat}, (∃ es c, w.heap[m]? = some (.map es c)) → some m ≠ some p := fun ⟨es, c, ho⟩ e => by
    have := h.s.blk
    rw [← Option.some.inj e, ho] at this; cases this
  have hps : ps ≠ p := fun e => by
    have h1 := h.s.st.blk
    rw [e, h.s.blk] at h1
    have h2 := Option.some.inj h1
    cases h2
  have ho : ∀ {e size n : Nat} {v : Value} {xs : List Value}, w.ownsRow N e size v n xs → (w.setCell ⟨p, 3, none⟩ (vi x)).ownsRow N e size v n xs := fun h1 => own_gro h1 hg h.b.hp
  refine ⟨Bt.cells_other _ h.s.st.blk hps, h.s.st.keys.kept hg (hne h.s.st.keys.obj), h.s.st.ready.kept hg (hne h.s.st.ready.obj), h.s.st.ends.kept hg (hne h.s.st.ends.obj), fun y hy => ?_, fun y hy => ?_, h.s.st.bp, h.s.st.bk, h.s.st.br, h.s.st.be, h.s.st.kr, h.s.st.ke, h.s.st.re⟩
  · exact own_rdv (ho (h.kown y hy)) (rdv_i64 (h.s.st.krow y hy))
  · exact rdy_own (ho (h.rown y hy).1) (ho (h.rown y hy).2) (reads_i64 (h.s.st.rrow y hy).rs)
def AppT (N base p ps mk mr me md : Nat) (serial : Bool) (bugs stamps : Int) (P : Ans → Int → KeysL → RdyL → EndL → EndL → Prop) (w : World) (e : Ending) (w' : World) : Prop :=
  ∃ a vv now' K' R' E' D', e = .returned (ansV a vv) ∧ OwI w.heap.size w' vv a.vals ∧ ShT N base p ps mk mr me md serial bugs stamps now' K' R' E' D' w' ∧ Turns [p, md, mk, mr, me] w w' ∧ P a now' K' R' E' D'
/-- Where the rows stay. -/
theorem AppQ.typed {N base p ps mk mr me md : Nat} {serial : Bool} {bugs stamps now : Int} {K : KeysL} {R : RdyL} {E D : EndL} {w : World} {P : Ans → Int → KeysL → RdyL → EndL → EndL → Prop} (h : ShT N base p ps mk mr me md serial bugs stamps now K R E D w) (hP : ∀ a now' K' R' E' D', P a now' K' R' E' D' → K' = K ∧ R' = R) {e : Ending} {w' : World} (hq : AppQ base p ps mk mr me md serial bugs stamps P w e w') : AppT N base p ps mk mr me md serial bugs stamps P w e w' := by
  obtain ⟨a, vv, now', K', R', E', D', h1, h2, h3, h4, h5⟩ := hq
  obtain ⟨rfl, rfl⟩ := hP _ _ _ _ _ _ h5
  exact ⟨a, vv, now', _, _, E', D', h1, h2, ⟨h3, h.b, fun y hy => own_turns (h.kown y hy) h4 h.b (Nat.le_refl _), fun y hy => ⟨own_turns (h.rown y hy).1 h4 h.b (Nat.le_refl _), own_turns (h.rown y hy).2 h4 h.b (Nat.le_refl _)⟩, Nat.le_trans h.nw h4.size⟩, h4, h5⟩
/-- An answer is laid down. -/
theorem ShT.setA {N base p ps mk mr me md A : Nat} {serial : Bool} {bugs stamps now : Int} {K : KeysL} {R : RdyL} {E D : EndL} {W : World} (h : ShT N base p ps mk mr me md serial bugs stamps now K R E D W) {cs : Array Value} (hA : W.heap[A]? = some (.cells cs 37)) (us : List Value) : ShT N base p ps mk mr me md serial bugs stamps now K R E D (W.setCells A 0 us) := by
  have ho : ∀ {e size n : Nat} {v : Value} {xs : List Value}, W.ownsRow N e size v n xs → 37 ≠ e → (W.setCells A 0 us).ownsRow N e size v n xs := fun h1 h2 => own_setAll h1 hA h2 0 us
  have hc : ∀ {j : Nat} {cs : Array Value} {T : TypeId}, W.heap[j]? = some (.cells cs T) → T ≠ 37 → (W.setCells A 0 us).heap[j]? = some (.cells cs T) := fun {j cs T} h1 h2 => (setCells_other A us 0 W j (fun e => by rw [e, hA] at h1; cases h1; exact h2 rfl)).trans h1
  have hm : ∀ {j : Nat}, (∃ es c, W.heap[j]? = some (.map es c)) → (W.setCells A 0 us).heap[j]? = W.heap[j]? := fun {j} ⟨es, c, ho⟩ => setCells_other A us 0 W j (fun e => by rw [e, hA] at ho; cases ho)
  have hs := (setCells_grown A us 0 W).size
  exact ⟨⟨hc h.s.blk (by decide), ⟨hc h.s.st.blk (by decide), h.s.st.keys.frame (hm h.s.st.keys.obj), h.s.st.ready.frame (hm h.s.st.ready.obj), h.s.st.ends.frame (hm h.s.st.ends.obj), fun y hy => own_rdv (ho (h.kown y hy) (by decide)) (rdv_i64 (h.s.st.krow y hy)), fun y hy => rdy_own (ho (h.rown y hy).1 (by decide)) (ho (h.rown y hy).2 (by decide)) (reads_i64 (h.s.st.rrow y hy).rs), h.s.st.bp, h.s.st.bk, h.s.st.br, h.s.st.be, h.s.st.kr, h.s.st.ke, h.s.st.re⟩, h.s.dm.frame (hm h.s.dm.obj), h.s.bp, h.s.bd, h.s.dk, h.s.dr, h.s.de⟩, h.b, fun y hy => ho (h.kown y hy) (by decide), fun y hy => ⟨ho (h.rown y hy).1 (by decide), ho (h.rown y hy).2 (by decide)⟩, Nat.le_trans h.nw hs⟩
theorem fin_turns {w w3 w5 : World} {A : Nat} {us : List Value} {bs : List Nat} (hb : Below w.heap.size w w3) (ht : Turns bs w3 w5) (hA : w.heap.size ≤ A) : Turns bs w (w5.setCells A 0 us) := by
  have h := setCells_grown A us 0 w5
  refine ⟨h.os.trans (ht.os.trans hb.os), h.tape.trans (ht.tape.trans hb.tape), h.output.trans (ht.output.trans hb.output), Nat.le_trans hb.size (Nat.le_trans ht.size h.size), fun j hj hn => ?_⟩
  rw [setCells_other A us 0 _ j (by omega)]
  exact (ht.block j (Nat.lt_of_lt_of_le hj hb.size) hn).trans (hb.block j hj)
/-- Behind a change of the store. -/
theorem ShT.store {N base p ps mk mr me md : Nat} {serial : Bool} {bugs stamps now : Int} {K K' : KeysL} {R R' : RdyL} {E E' D : EndL} {A B : World} (h : ShT N base p ps mk mr me md serial bugs stamps now K R E D A) (hm : MvS base ps mk mr me serial bugs K' R' E' B) (ht : Turns [mk, mr, me] A B)
    (hk : ∀ y ∈ K', y ∈ K ∨ OwV N B y.2.1 y.2.2) (hr : ∀ y ∈ R', y ∈ R ∨ OwnR N B y.2) : ShT N base p ps mk mr me md serial bugs stamps now K' R' E' D B := by
  have hp : p ∉ [mk, mr, me] := by
    have hne : ∀ {m : Nat}, (∃ es c, A.heap[m]? = some (.map es c)) → p ≠ m := fun ⟨es, c, ho⟩ e => by
      have := h.s.blk
      rw [e, ho] at this; cases this
    simp; exact ⟨hne h.s.st.keys.obj, hne h.s.st.ready.obj, hne h.s.st.ends.obj⟩
  have ht' : Turns [p, md, mk, mr, me] A B := ht.mono (by intro k hk; simp at hk ⊢; rcases hk with rfl | rfl | rfl <;> simp)
  refine ⟨⟨(ht.block p (Array.getElem?_eq_some_iff.1 h.s.blk).1 hp).trans h.s.blk, hm, h.s.dm.frame (ht.block md h.s.dm.lt (by simp; exact ⟨h.s.dk, h.s.dr, h.s.de⟩)), h.s.bp, h.s.bd, h.s.dk, h.s.dr, h.s.de⟩, h.b, fun y hy => ?_, fun y hy => ?_, Nat.le_trans h.nw ht.size⟩
  · rcases hk y hy with h1 | h1
    · exact own_turns (h.kown y h1) ht' h.b (Nat.le_refl _)
    · exact h1
  · rcases hr y hy with h1 | h1
    · exact ⟨own_turns (h.rown y h1).1 ht' h.b (Nat.le_refl _), own_turns (h.rown y h1).2 ht' h.b (Nat.le_refl _)⟩
    · exact h1
/-- What holds behind n commands. -/
structure ShI (n : Nat) (K : KeysL) (R : RdyL) : Prop where
  srt : ∀ k, Srt (verOf K k)
  len : ∀ k, (verOf K k).length ≤ 20 * n
  rlen : R.length ≤ n
  small : ∀ y ∈ R, y.2.r.writes.length ≤ 20 ∧ y.2.r.reads.length ≤ 20 ∧ (∀ o ∈ y.2.r.writes, i64 o.key) ∧ y.1 = y.2.r.txn
theorem ShI.start : ShI 0 [] [] := ⟨fun _ => List.Pairwise.nil, fun _ => by simp [verOf, curK, getM, nilK], by simp, (fun y hy => by cases hy)⟩
theorem ShI.more {n : Nat} {K : KeysL} {R : RdyL} (h : ShI n K R) : ShI (n + 1) K R := ⟨h.srt, fun k => by have := h.len k; omega, by have := h.rlen; omega, h.small⟩
theorem ShI.prep {n : Nat} {serial : Bool} {bugs : Int} {K : KeysL} {R : RdyL} {E : EndL} (h : ShI n K R) {r : Rdy} (h1 : r.writes.length ≤ 20) (h2 : r.reads.length ≤ 20) (h3 : ∀ o ∈ r.writes, i64 o.key) {by_ err : Int} {R' : RdyL} (hp : PrepM serial bugs K R E r by_ err R') : ShI (n + 1) K R' := by
  rcases hp with ⟨_, _, _, rfl⟩ | ⟨_, _, _, _, rfl⟩ | ⟨_, _, _, _, _, rfl⟩ | ⟨_, _, _, _, id, ok, _, h4⟩
  · exact h.more
  · exact h.more
  · exact h.more
  · rcases h4 with ⟨_, _, _, _, rfl⟩ | ⟨_, _, _, wv, rv, rfl⟩
    · exact h.more
    · refine ⟨h.srt, fun k => by have := h.len k; omega, ?_, fun y hy => ?_⟩
      · rw [putM_length]; have := h.rlen; split <;> omega
      · rcases mem_putM hy with rfl | hy
        · exact ⟨h1, h2, h3, rfl⟩
        · exact h.small y hy
theorem ShI.fin {n : Nat} {K : KeysL} {R : RdyL} {E : EndL} (h : ShI n K R) {e : EndM} {K' : KeysL} {R' : RdyL} {E' : EndL} (hf : FinM K R E e K' R' E') : ShI (n + 1) K' R' := by
  rcases hf with ⟨_, rfl, rfl, _⟩ | ⟨_, rfl, _, hk⟩
  · exact h.more
  · have hw : (writesOf R e).length ≤ 20 := by
      unfold writesOf
      split
      · cases hg : getM R e.txn with
        | none => simp
        | some y => exact (h.small _ (getM_some hg)).1
      · simp
    refine ⟨fun k => by rw [hk k]; exact finV_srt _ _ _ _ (h.srt k), fun k => ?_, ?_, fun y hy => h.small y (mem_delM hy)⟩
    · rw [hk k]
      have := finV_len e.at_ k (writesOf R e) (verOf K k)
      have := h.len k
      omega
    · have : (delM R e.txn).length ≤ R.length := List.length_filter_le _ _
      have := h.rlen; omega
theorem finish_raw {base p mk mr me : Nat} {serial : Bool} {bugs : Int} {K : KeysL} {R : RdyL} {E : EndL} (x : EndM) (w : World) (h : MvS base p mk mr me serial bugs K R E w) (ht : i64 x.txn) (ha : i64 x.at_)
    (hS : ∀ key, Srt (verOf K key)) (hL : ∀ key, (verOf K key).length ≤ 524288) (hW : ∀ y ∈ R, y.2.r.writes.length ≤ 524288 ∧ ∀ o ∈ y.2.r.writes, i64 o.key) :
    Calls Try.prog 32 #[.pointer (some ⟨p, 0, none⟩), .agg #[vi x.txn, .bool x.commit, vi x.at_]] w (FinQ2 base p mk mr me serial bugs K R E x w) := finish_call2 x w h ht ha hS hL hW
theorem setCells_cell {W : World} {A j o : Nat} {us : List Value} {v : Value} (h : W.cell? ⟨j, o, none⟩ = some v) (hj : j ≠ A) : (W.setCells A 0 us).cell? ⟨j, o, none⟩ = some v := (World.cell?_of_block (a := ⟨j, o, none⟩) (setCells_other A us 0 W j hj)).trans h
theorem setCell_far {W : World} {A o' j o : Nat} {u v : Value} (h : W.cell? ⟨j, o, none⟩ = some v) (hj : j ≠ A) : (W.setCell ⟨A, o', none⟩ u).cell? ⟨j, o, none⟩ = some v := (World.cell?_of_block (a := ⟨j, o, none⟩) (Below.heap_setCell W ⟨A, o', none⟩ u j hj)).trans h
theorem chain8_cell {W : World} {A j o : Nat} {u0 u1 u2 u3 u4 u5 u6 u7 v : Value} (h : W.cell? ⟨j, o, none⟩ = some v) (hj : j ≠ A) : ((((((((W.setCell ⟨A, 0, none⟩ u0).setCell ⟨A, 1, none⟩ u1).setCell ⟨A, 2, none⟩ u2).setCell ⟨A, 3, none⟩ u3).setCell ⟨A, 4, none⟩ u4).setCell ⟨A, 5, none⟩ u5).setCell ⟨A, 6, none⟩ u6).setCell ⟨A, 7, none⟩ u7).cell? ⟨j, o, none⟩ = some v :=
  setCell_far (setCell_far (setCell_far (setCell_far (setCell_far (setCell_far (setCell_far (setCell_far h hj) hj) hj) hj) hj) hj) hj) hj
theorem fin_sub {K K' : KeysL} {R R' : RdyL} {E E' : EndL} {e : EndM} {P : Int × RV → Prop} (h : FinM K R E e K' R' E') : ∀ y ∈ R', y ∈ R ∨ P y := fun y hy => by
  rcases h with ⟨_, _, rfl, _⟩ | ⟨_, rfl, _⟩
  · exact .inl hy
  · exact .inl (mem_delM hy)
theorem ShT.stamp {N base p ps mk mr me md : Nat} {serial : Bool} {bugs stamps now : Int} {K : KeysL} {R : RdyL} {E D : EndL} (c : Cmd21) {v : Value} (w : World) (h : ShT N base p ps mk mr me md serial bugs stamps now K R E D w) (hi : CmdI c) (hk : c.k = 1)
    (hv : Src w v 1 (btBytes (cmdL c)).length ((btBytes (cmdL c)).map u8)) (hn : 0 ≤ now ∧ now ≤ 1000000) :
    Calls Try.prog 11 #[.pointer (some ⟨p, 0, none⟩), v] w (AppT N base p ps mk mr me md serial bugs stamps (StampP stamps now K R E D) w) :=
  (apply_stamp c w h.s hi hk hv hn h.sep).mono fun _ _ hq => AppQ.typed h (fun _ _ _ _ _ _ hp => ⟨hp.2.1, hp.2.2.1⟩) hq
theorem ShT.dec4 {N base p ps mk mr me md : Nat} {serial : Bool} {bugs stamps now : Int} {K : KeysL} {R : RdyL} {E D : EndL} (c : Cmd21) {v : Value} (w : World) (h : ShT N base p ps mk mr me md serial bugs stamps now K R E D w) (hi : CmdI c) (hk : c.k = 4)
    (hv : Src w v 1 (btBytes (cmdL c)).length ((btBytes (cmdL c)).map u8)) :
    Calls Try.prog 11 #[.pointer (some ⟨p, 0, none⟩), v] w (AppT N base p ps mk mr me md serial bugs stamps (DecideP bugs now K R E D c.e) w) :=
  (apply_decide c w h.s hi hk hv).mono fun _ _ hq => AppQ.typed h (fun _ _ _ _ _ _ hp => ⟨hp.2.2.1, hp.2.2.2.1⟩) hq
end Go.Proofs.Ytdkkpkgfiodlbaa

/- (*shard.State).Apply: a command of no kind. -/
namespace Go.Proofs.Ytdkkpkgfiodlbaa
open Go.RowKit Go.Maps

def BadP (now : Int) (K : KeysL) (R : RdyL) (E D : EndL) (a : Ans) (now' : Int) (K' : KeysL) (R' : RdyL) (E' D' : EndL) : Prop :=
  a = ⟨14, [], 0, 0, 0, zeroE'⟩ ∧ now' = now ∧ K' = K ∧ R' = R ∧ E' = E ∧ D' = D
set_option maxRecDepth 100000 in
set_option maxHeartbeats 8000000 in
theorem ShT.bad {N base p ps mk mr me md : Nat} {serial : Bool} {bugs stamps now : Int} {K : KeysL} {R : RdyL} {E D : EndL} (c : Cmd21) {v : Value} (w : World) (h : ShT N base p ps mk mr me md serial bugs stamps now K R E D w) (hi : CmdI c) (hk : ¬ (1 ≤ c.k ∧ c.k ≤ 5))
    (hv : Src w v 1 (btBytes (cmdL c)).length ((btBytes (cmdL c)).map u8)) :
    Calls Try.prog 11 #[.pointer (some ⟨p, 0, none⟩), v] w (AppT N base p ps mk mr me md serial bugs stamps (BadP now K R E D) w) := by
  have HI := Lib.hid hi
  have HK := Lib.hid hk
  have HH := Lib.hid (h.later ((Below.refl w.heap.size w).alloc (Nat.le_refl _) (.cells ansZ 37)))
  have HV := Lib.hid (hv.below ((Below.refl w.heap.size w).alloc (Nat.le_refl _) (.cells ansZ 37)))
  have HA0 := Lib.hid (Bt.alloc_at w (.cells ansZ 37))
  have HB0 := Lib.hid ((Below.refl w.heap.size w).alloc (Nat.le_refl _) (.cells ansZ 37))
  have hcl : (btBytes (cmdL c)).length ≤ 1048576 := by rw [btBytes_length]; have := cmdL_length hi; omega
  obtain ⟨bs, hbs⟩ : ∃ bs, bs = btBytes (cmdL c) := ⟨_, rfl⟩
  rw [← hbs] at HV hcl
  have HBS := Lib.hid hbs
  have hpw : p < w.heap.size := (Array.getElem?_eq_some_iff.1 h.s.blk).1
  have H0 := Lib.hid h
  clear h hi hk hv hbs
  go_enter Try.func11, Try.ntmps11
  go_upto_region 1 with fail
  generalize w.alloc (.cells ansZ 37) = w1 at *
  obtain ⟨A, hA⟩ : ∃ A, A = w.heap.size := ⟨_, rfl⟩
  rw [← hA] at HA0 ⊢
  have HAE := Lib.hid hA
  have hAw : A < w1.heap.size := (Array.getElem?_eq_some_iff.1 HA0.out).1
  clear hA
  go_wp2_with fail
  refine (shRead_call (bs := bs) w1 HV.out (by rw [HBS.out]; exact btBytes_lt _) hcl).mono ?_
  rintro e2 w2 ⟨c', wv, rv, err, rfl, hrd⟩
  rw [HBS.out] at hrd
  obtain rfl := (cmd_back HI.out hrd).2 HK.out
  obtain rfl := hrd.no (by decide)
  obtain ⟨aw, cw, rfl⟩ := Bt.own_shape (show w2.ownsRow w1.heap.size 104 3 wv 0 [] from hrd.ws)
  obtain ⟨ar, cr, rfl⟩ := Bt.own_shape (show w2.ownsRow w1.heap.size 3 1 rv 0 [] from hrd.rs)
  have HH2 := Lib.hid (HH.out.later hrd.bel)
  have HA2 := Lib.hid ((hrd.bel.block A hAw).trans HA0.out)
  have HB2 := Lib.hid (HB0.out.trans (hrd.bel.mono HB0.out.size))
  have hA2w : A < w2.heap.size := Nat.lt_of_lt_of_le hAw hrd.bel.size
  clear hrd HH HA0 HB0 HV
  unfold cmdV cmdC
  dsimp only [zeroC]
  have HH3 := Lib.hid (HH2.out.later ((Below.refl w2.heap.size w2).alloc (Nat.le_refl _) (.cells #[vi 0, vi 0, vi 0, vi 0, .slice aw 0 cw, .slice ar 0 cr, vi 0, .bool false, vi 0] 33)))
  have HA3 := Lib.hid ((Below.heap_alloc w2 (.cells #[vi 0, vi 0, vi 0, vi 0, .slice aw 0 cw, .slice ar 0 cr, vi 0, .bool false, vi 0] 33) A hA2w).trans HA2.out)
  have HB3 := Lib.hid (HB2.out.alloc HB2.out.size (.cells #[vi 0, vi 0, vi 0, vi 0, .slice aw 0 cw, .slice ar 0 cr, vi 0, .bool false, vi 0] 33))
  go_upto_region 4 with fail
  clear HH2 HA2 HB2
  generalize w2.alloc (.cells #[vi 0, vi 0, vi 0, vi 0, .slice aw 0 cw, .slice ar 0 cr, vi 0, .bool false, vi 0] 33) = w3 at *
  have hBw : w.heap.size ≤ w3.heap.size := HB3.out.size
  have xf : ∀ o, w3.frozen? ⟨A, o, none⟩ = false := fun o => free_of HA3.out o
  have x0 : w3.cell? ⟨A, 0, none⟩ = some (vi 0) := by rw [Bt.cell_of HA3.out]; rfl
  have x1 : w3.cell? ⟨A, 1, none⟩ = some (.slice none 0 0) := by rw [Bt.cell_of HA3.out]; rfl
  have x2 : w3.cell? ⟨A, 2, none⟩ = some (vi 0) := by rw [Bt.cell_of HA3.out]; rfl
  have x3 : w3.cell? ⟨A, 3, none⟩ = some (vi 0) := by rw [Bt.cell_of HA3.out]; rfl
  have x4 : w3.cell? ⟨A, 4, none⟩ = some (vi 0) := by rw [Bt.cell_of HA3.out]; rfl
  have x5 : w3.cell? ⟨A, 5, none⟩ = some (vi 0) := by rw [Bt.cell_of HA3.out]; rfl
  have x6 : w3.cell? ⟨A, 6, none⟩ = some (.bool false) := by rw [Bt.cell_of HA3.out]; rfl
  have x7 : w3.cell? ⟨A, 7, none⟩ = some (vi 0) := by rw [Bt.cell_of HA3.out]; rfl
  go_wp2_with fail
  change bodyPost _ _ _ _ _ (w3.setCells A 0 [vi 14, .slice none 0 0, vi 0, vi 0, vi 0, vi 0, .bool false, vi 0])
  have HSF := Lib.hid (HH3.out.setA HA3.out [vi 14, .slice none 0 0, vi 0, vi 0, vi 0, vi 0, .bool false, vi 0])
  have HTF := Lib.hid (fin_turns (A := A) (us := [vi 14, .slice none 0 0, vi 0, vi 0, vi 0, vi 0, .bool false, vi 0]) (bs := [p, md, mk, mr, me]) HB3.out (Turns.refl _ w3) (by rw [HAE.out]; exact Nat.le_refl _))
  have HZC := Lib.hid (show (w3.setCells A 0 [vi 14, .slice none 0 0, vi 0, vi 0, vi 0, vi 0, .bool false, vi 0]).heap[A]? = some (.cells #[vi 14, .slice none 0 0, vi 0, vi 0, vi 0, vi 0, .bool false, vi 0] 37) from setCells_all (cs := [vi 14, .slice none 0 0, vi 0, vi 0, vi 0, vi 0, .bool false, vi 0]) HA3.out rfl)
  clear x0 x1 x2 x3 x4 x5 x6 x7 xf
  generalize w3.setCells A 0 [vi 14, .slice none 0 0, vi 0, vi 0, vi 0, vi 0, .bool false, vi 0] = wz at *
  have r0 : wz.cell? ⟨A, 0, none⟩ = some (vi 14) := by rw [Bt.cell_of HZC.out]; rfl
  have r1 : wz.cell? ⟨A, 1, none⟩ = some (.slice none 0 0) := by rw [Bt.cell_of HZC.out]; rfl
  have r2 : wz.cell? ⟨A, 2, none⟩ = some (vi 0) := by rw [Bt.cell_of HZC.out]; rfl
  have r3 : wz.cell? ⟨A, 3, none⟩ = some (vi 0) := by rw [Bt.cell_of HZC.out]; rfl
  have r4 : wz.cell? ⟨A, 4, none⟩ = some (vi 0) := by rw [Bt.cell_of HZC.out]; rfl
  have r5 : wz.cell? ⟨A, 5, none⟩ = some (vi 0) := by rw [Bt.cell_of HZC.out]; rfl
  have r6 : wz.cell? ⟨A, 6, none⟩ = some (.bool false) := by rw [Bt.cell_of HZC.out]; rfl
  have r7 : wz.cell? ⟨A, 7, none⟩ = some (vi 0) := by rw [Bt.cell_of HZC.out]; rfl
  exact bodyPost_ret (v := ansV ⟨14, [], 0, 0, 0, zeroE'⟩ (.slice none 0 0)) (by simp [results, Try.results11, go_sem, ansV, ansC, r0, r1, r2, r3, r4, r5, r6, r7]) rfl ⟨⟨14, [], 0, 0, 0, zeroE'⟩, .slice none 0 0, now, K, R, E, D, rfl, World.ownsRow_nil _ _ _ _, HSF.out, HTF.out, rfl, rfl, rfl, rfl, rfl, rfl⟩
end Go.Proofs.Ytdkkpkgfiodlbaa

/- (*mvcc.Store).Waits. -/
namespace Go.Proofs.Ytdkkpkgfiodlbaa
open Go.RowKit Go.Shelf Go.Maps

theorem Try.infoRdy : (Try.prog.info? 29).map (fun i => (i.zero, i.size, i.bytes)) = some (some (.agg #[vi 0, vi 0, vi 0, .slice none 0 0, .slice none 0 0]), 5, 72) := by kernel_rfl
theorem eltRdy : Elt Try.prog 68 29 5 72 (.agg #[vi 0, vi 0, vi 0, .slice none 0 0, .slice none 0 0]) := by
  obtain ⟨i0, hi, hz0, hz1, hz2⟩ := info_parts Try.infoRdy
  exact ⟨Try.underlying68, by decide, rfl, i0, hi, hz0, hz1, hz2⟩
def rdyL (x : RV) : List Value := [vi x.r.txn, vi x.r.home, vi x.r.start, x.wv, x.rv]
/-- Those who wait, copied into memory of the call's own. -/
structure OwR (base : Nat) (w : World) (v : Value) (L : List RV) : Prop where
  row : w.ownsRow base 29 5 v L.length (L.flatMap rdyL)
  ws : ∀ x ∈ L, w.ownsRow base 104 3 x.wv x.r.writes.length (x.r.writes.flatMap opV)
  rs : ∀ x ∈ L, w.ownsRow base 3 1 x.rv x.r.reads.length (x.r.reads.flatMap viC) ∧ ∀ k ∈ x.r.reads, i64 k
theorem OwR.later {base : Nat} {A B : World} {v : Value} {L : List RV} (h : OwR base A v L) (hb : Below A.heap.size A B) : OwR base B v L :=
  ⟨own_below h.row hb, fun x hx => own_below (h.ws x hx) hb, fun x hx => ⟨own_below (h.rs x hx).1 hb, (h.rs x hx).2⟩⟩
theorem OwR.mono {b b' : Nat} {w : World} {v : Value} {L : List RV} (h : OwR b w v L) (hb : b' ≤ b) : OwR b' w v L := ⟨own_mono h.row hb, fun x hx => own_mono (h.ws x hx) hb, fun x hx => ⟨own_mono (h.rs x hx).1 hb, (h.rs x hx).2⟩⟩
theorem OwR.rdy {base : Nat} {w : World} {v : Value} {L : List RV} (h : OwR base w v L) : ∀ x ∈ L, RdyS w x := fun x hx => rdy_own (h.ws x hx) (h.rs x hx).1 (h.rs x hx).2
/-- Rows of elements of other types lie in other blocks. -/
theorem own_apart {w : World} {b1 b2 e1 e2 s1 s2 n1 n2 : Nat} {v1 v2 : Value} {xs1 xs2 : List Value} (h1 : w.ownsRow b1 e1 s1 v1 n1 xs1) (h2 : w.ownsRow b2 e2 s2 v2 n2 xs2) (hne : e1 ≠ e2) : v1.ownBlock = none ∨ v1.ownBlock ≠ v2.ownBlock := by
  rcases h1.2 with ⟨hv, h0⟩ | ⟨g, cap, cur, hv, hg, hb, r⟩
  · exact .inl (by rw [hv]; rfl)
  · rcases h2.2 with ⟨hv2, h02⟩ | ⟨g2, cap2, cur2, hv2, hg2, hb2, r2⟩
    · exact .inr (by rw [hv, hv2]; simp [Value.ownBlock])
    · refine .inr (fun e => ?_)
      rw [hv, hv2] at e
      have : g = g2 := by simpa [Value.ownBlock] using e
      subst this
      rw [hb] at hb2; cases hb2; exact hne rfl
theorem OwR.snoc {base : Nat} {A B : World} {v v' : Value} {L : List RV} {x : RV} (h : OwR base A v L) (hg : A.grownBy B v.ownBlock) (hrow : B.ownsRow base 29 5 v' (L.length + 1) (L.flatMap rdyL ++ rdyL x))
    (h1 : A.ownsRow base 104 3 x.wv x.r.writes.length (x.r.writes.flatMap opV)) (h2 : A.ownsRow base 3 1 x.rv x.r.reads.length (x.r.reads.flatMap viC)) (h3 : ∀ k ∈ x.r.reads, i64 k) : OwR base B v' (L ++ [x]) := by
  refine ⟨by rw [List.length_append, List.flatMap_append]; simpa using hrow, fun y hy => ?_, fun y hy => ?_⟩
  · have : A.ownsRow base 104 3 y.wv y.r.writes.length (y.r.writes.flatMap opV) := by
      rcases List.mem_append.1 hy with hy | hy
      · exact h.ws y hy
      · simp at hy; subst hy; exact h1
    exact this.kept hg (own_apart this h.row (by decide))
  · have : A.ownsRow base 3 1 y.rv y.r.reads.length (y.r.reads.flatMap viC) ∧ ∀ k ∈ y.r.reads, i64 k := by
      rcases List.mem_append.1 hy with hy | hy
      · exact h.rs y hy
      · simp at hy; subst hy; exact ⟨h2, h3⟩
    exact ⟨this.1.kept hg (own_apart this.1 h.row (by decide)), this.2⟩

/-- Who waits, by rising numbers. -/
def WaitsM (R : RdyL) (l : List Rdy) : Prop := ∃ ks : List Int, ks.Perm (R.map (·.1)) ∧ ks.Pairwise (fun x y => x ≤ y) ∧ l = ks.map (fun k => ((getM R k).getD nilR).r)
def WaitsQ (R : RdyL) (w : World) (e : Ending) (w' : World) : Prop := ∃ v L, e = .returned v ∧ OwR w.heap.size w' v L ∧ WaitsM R (L.map (·.r)) ∧ Below w.heap.size w w'

theorem lookup_readyD {base p mk mr me : Nat} {serial : Bool} {bugs : Int} {K : KeysL} {R : RdyL} {E : EndL} {w : World} (h : MvS base p mk mr me serial bugs K R E w) {k : Int} (hk : k ∈ R.map (·.1)) :
    ∃ y, getM R k = some y ∧ y ∈ R.map (·.2) ∧ (Instr.lookup 109 (.map (some mr)) (vi k) false).run Try.prog w = .ok (rdyV y) w := by
  obtain ⟨x, hx, rfl⟩ := List.mem_map.1 hk
  refine ⟨x.2, ?_, List.mem_map.2 ⟨x, hx, rfl⟩, lookup_ready h.ready hx _ (zero_ready w)⟩
  cases hg : getM R x.1 with
  | none => exact absurd rfl (getM_none.1 hg x hx)
  | some y =>
    have hp := h.ready.pairwise
    have hy := getM_some hg
    obtain ⟨i, hi⟩ := List.mem_iff_getElem?.1 hx
    obtain ⟨j, hj⟩ := List.mem_iff_getElem?.1 hy
    obtain ⟨i1, i2⟩ := List.getElem?_eq_some_iff.1 hi
    obtain ⟨j1, j2⟩ := List.getElem?_eq_some_iff.1 hj
    rcases Nat.lt_trichotomy i j with h3 | h3 | h3
    · exact absurd (by rw [i2, j2]) (List.pairwise_iff_getElem.1 hp i j i1 j1 h3)
    · subst h3; rw [hi] at hj
      have h4 := congrArg Prod.snd (Option.some.inj hj)
      rw [h4]
    · exact absurd (by rw [i2, j2]) (List.pairwise_iff_getElem.1 hp j i j1 i1 h3)

set_option maxRecDepth 100000 in
set_option maxHeartbeats 4000000 in
theorem waits_call {base p mk mr me : Nat} {serial : Bool} {bugs : Int} {K : KeysL} {R : RdyL} {E : EndL} (w : World) (h : MvS base p mk mr me serial bugs K R E w) (hR : R.length ≤ 1048576) (hW : ∀ y ∈ R, y.2.r.writes.length ≤ 1048576 ∧ y.2.r.reads.length ≤ 1048576) :
    Calls Try.prog 20 #[.pointer (some ⟨p, 0, none⟩)] w (WaitsQ R w) := by
  have HM := Lib.hid h
  have HW := Lib.hid hW
  have p3 : w.cell? ⟨p, 3, none⟩ = some (.map (some mr)) := by rw [cell_of h.blk]; rfl
  have HB1 := Lib.hid ((Below.refl w.heap.size w).alloc (Nat.le_refl _) (.cells #[.map (some mr)] 109))
  clear h hW
  go_enter Try.func20, Try.ntmps20
  go_wp2_with (first
    | (go_at_call 42; refine (keys_call _).mono ?_; rintro e w1 ⟨rfl, rfl⟩)
    | (go_at_call 41; refine (sorted_call (mr := mr) (L := R) _ (by rw [cell_of (alloc_at _ _)]; rfl) (HM.out.later HB1.out).ready hR).mono ?_; rintro e w2 ⟨v2, ks, rfl, ho2, hp2, hs2, hb2⟩; obtain ⟨a2, c2, rfl⟩ := own_shape ho2))
  have HO := Lib.hid ho2
  have HP := Lib.hid hp2
  have HSO := Lib.hid hs2
  have HB2 := Lib.hid (HB1.out.trans (hb2.mono HB1.out.size))
  have hkl : ks.length ≤ 1048576 := by rw [hp2.length_eq]; simpa using hR
  clear ho2 hp2 hs2 hb2 p3
  go_loopw [3, 16] (fun v i wr => ∃ (k : Nat) (L : List RV), k ≤ ks.length ∧ i = .int .i64 k ∧ Hid (OwR w2.heap.size wr v L ∧ L.length = k ∧ L.map (·.r) = (ks.take k).map (fun k => ((getM R k).getD nilR).r) ∧ Below w2.heap.size w2 wr)) (fun _ i _ => ks.length - (intOf i).toNat)
  case atStart => exact ⟨0, [], Nat.zero_le _, rfl, Lib.hid ⟨⟨World.ownsRow_nil _ _ _ _, (fun x hx => by cases hx), (fun x hx => by cases hx)⟩, rfl, by simp, Below.refl _ _⟩⟩
  case round =>
    obtain ⟨wj, rfl⟩ : ∃ wj : World, wj = wr := ⟨_, rfl⟩
    obtain ⟨k, L, hk, rfl, HJ⟩ := hrel
    obtain ⟨aL, cL, rfl⟩ := own_shape HJ.out.1.row
    have HLK := Lib.hid HJ.out.2.1
    have hLk' : L.length ≤ 1048576 := by rw [HLK.out]; omega
    have HNE := Lib.hid (show ∀ j, (Value.slice aL L.length cL).ownBlock = some j → w2.heap.size ≤ j ∧ j < wj.heap.size from fun j hj => HJ.out.1.row.lt j hj)
    by_cases hlt : k < ks.length
    · obtain ⟨id, hid⟩ := some_at hlt
      obtain ⟨g2, c2', e2⟩ := own_some HO.out (by omega)
      cases e2
      have c0 : wj.cell? ⟨g2, k, none⟩ = some (vi id) := by
        have h1 := World.ownsRow.cells HO.out (g := g2) rfl k (vi id) (by rw [viC_map, List.getElem?_map, hid]; rfl)
        rw [addr_add, Nat.zero_add] at h1
        exact cell_later HJ.out.2.2.2 h1
      have hjI : (k : Int) < (ks.length : Int) := by omega
      have HMj := Lib.hid (HM.out.later (HB2.out.trans (HJ.out.2.2.2.mono HB2.out.size)))
      obtain ⟨y, hy, hym, hlk⟩ := lookup_readyD HMj.out (HP.out.mem_iff.1 (List.mem_of_getElem? hid))
      obtain ⟨x, hxR, hxy⟩ := List.mem_map.1 hym
      have HYW := Lib.hid (HW.out x hxR)
      have HYS := Lib.hid (HMj.out.rrow x hxR)
      rw [hxy] at HYW HYS
      clear hxy hxR hym x
      have p3 : wj.cell? ⟨p, 3, none⟩ = some (.map (some mr)) := by rw [cell_of HMj.out.blk]; rfl
      have HY := Lib.hid hy
      have HID := Lib.hid hid
      obtain ⟨wv, rv, r⟩ := y
      obtain ⟨aw, nw, cw, hwv, rfl, hmw, -⟩ := (show RdOps wj wv r.writes from HYS.out.ws).at
      obtain ⟨ar, nr, cr, hrv, rfl, hmr, -⟩ := (show RdInts wj rv r.reads from HYS.out.rs).at
      subst hwv hrv
      have HBA := Lib.hid ((Below.refl wj.heap.size wj).alloc (Nat.le_refl _) (.cells #[vi r.txn, vi r.home, vi r.start, .slice aw r.writes.length cw, .slice ar r.reads.length cr] 29))
      have HXA := Lib.hid (alloc_at wj (.cells #[vi r.txn, vi r.home, vi r.start, .slice aw r.writes.length cw, .slice ar r.reads.length cr] 29))
      clear hy hid hmw hmr
      unfold rdyV rdyC at hlk
      simp only at hlk
      go_upto_region 7 with fail
      generalize wj.alloc (.cells #[vi r.txn, vi r.home, vi r.start, .slice aw r.writes.length cw, .slice ar r.reads.length cr] 29) = wA at *
      have HS := Lib.hid (show ∀ w' : World, Below wA.heap.size wA w' → w'.cell? ⟨wj.heap.size, 0, none⟩ = some (vi r.txn) ∧ w'.cell? ⟨wj.heap.size, 1, none⟩ = some (vi r.home) ∧ w'.cell? ⟨wj.heap.size, 2, none⟩ = some (vi r.start) ∧ w'.cell? ⟨wj.heap.size, 3, none⟩ = some (.slice aw r.writes.length cw) ∧ w'.cell? ⟨wj.heap.size, 4, none⟩ = some (.slice ar r.reads.length cr) from fun w' hw =>
        ⟨cell_later hw (by rw [cell_of HXA.out]; rfl), cell_later hw (by rw [cell_of HXA.out]; rfl), cell_later hw (by rw [cell_of HXA.out]; rfl), cell_later hw (by rw [cell_of HXA.out]; rfl), cell_later hw (by rw [cell_of HXA.out]; rfl)⟩)
      have HXQ := Lib.hid (HYS.out.later (HBA.out.drew))
      have hwl := HYW.out.1
      have hrl := HYW.out.2
      simp only at hwl hrl
      have hsz1 := HB2.out.size
      have hsz2 := HJ.out.2.2.2.size
      have hsz3 := HBA.out.size
      clear c0 p3 hlk
      have HN2 := Lib.hid (show some wj.heap.size ≠ (Value.slice aL L.length cL).ownBlock from fun e => by have := (HNE.out _ e.symm).2; omega)
      have HRA := Lib.hid ((HJ.out.1.later HBA.out).later ((Below.refl wA.heap.size wA).drew))
      have HBd := Lib.hid ((Below.refl wA.heap.size wA).drew)
      go_region_held3 (fun w' : World => w'.cell? ⟨wj.heap.size, 0, none⟩ = some (vi r.txn) ∧ w'.cell? ⟨wj.heap.size, 1, none⟩ = some (vi r.home) ∧ w'.cell? ⟨wj.heap.size, 2, none⟩ = some (vi r.start) ∧ w'.cell? ⟨wj.heap.size, 3, none⟩ = some (.slice aw r.writes.length cw) ∧ w'.cell? ⟨wj.heap.size, 4, none⟩ = some (.slice ar r.reads.length cr))
        (first | exact HS.out _ HBd.out | exact HS.out _ HB8.out | exact HS.out _ HB9.out | exact HS.out _ (HB9.out.alloc HB9.out.size _) | exact (fun s => ⟨HGX.out.cell s.1 HN2.out, HGX.out.cell s.2.1 HN2.out, HGX.out.cell s.2.2.1 HN2.out, HGX.out.cell s.2.2.2.1 HN2.out, HGX.out.cell s.2.2.2.2 HN2.out⟩) (HS.out _ (HB9.out.alloc HB9.out.size _)))
        (first
          | (go_at_call 43; refine (cloneO_call _ r.writes wA.drew HXQ.out.ws hwl).mono ?_; rintro e w8 ⟨v1, rfl, ho1, hb8⟩; obtain ⟨a1, c1, rfl⟩ := own_shape ho1; have HO1 := Lib.hid (own_mono (b' := w2.heap.size) ho1 (by show w2.heap.size ≤ wA.heap.size; omega)); have HB8 := Lib.hid (HBd.out.trans hb8); have HX8 := Lib.hid (HXQ.out.later hb8); have HR8 := Lib.hid (HRA.out.later hb8); clear ho1 hb8)
          | (go_at_call 44; refine (cloneI_call _ r.reads w8 HX8.out.rs hrl).mono ?_; rintro e w9 ⟨v2, rfl, ho2, hb9⟩; obtain ⟨a2, c2, rfl⟩ := own_shape ho2; have HB9 := Lib.hid (HB8.out.trans (hb9.mono HB8.out.size)); have HO2 := Lib.hid (own_mono (b' := w2.heap.size) ho2 (by have := HB8.out.size; omega)); have HO1' := Lib.hid (own_below HO1.out hb9); have HR9 := Lib.hid (HR8.out.later hb9); clear ho2 hb9)
          | (refine step_append_src rfl _ _ 68 rfl eltRdy w2.heap.size L.length (L.flatMap rdyL) (HR9.out.row.alloc _) rfl 1 (rdyL ⟨.slice a1 r.writes.length c1, .slice a2 r.reads.length c2, r⟩) (src_new (cs := #[vi r.txn, vi r.home, vi r.start, .slice a1 r.writes.length c1, .slice a2 r.reads.length c2]) rfl rfl) rfl (by intro u hu; simp [rdyL] at hu; rcases hu with rfl | rfl | rfl | rfl | rfl <;> rfl) (by omega) (by omega) (by have := HB9.out.size; simp; omega) ?_; intro vX wX hrX hgX _; have HRX := Lib.hid (OwR.snoc (HR9.out.later ((Below.refl w9.heap.size w9).alloc (Nat.le_refl _) _)) hgX hrX (HO1'.out.alloc _) (HO2.out.alloc _) (reads_i64 HXQ.out.rs)); have HGX := Lib.hid hgX; clear hrX hgX))
      all_goals
        go_wp2_with fail
        go_roundw
        case rel =>
          refine ⟨k + 1, _, by omega, by go_num, Lib.hid ⟨HRX.out, by simp [HLK.out], ?_, ?_⟩⟩
          · rw [take_at HID.out, List.map_append, List.map_append, HJ.out.2.2.1, List.map_cons, List.map_cons, HY.out]
            rfl
          · exact (HJ.out.2.2.2.trans ((HBA.out.trans ((HB9.out.alloc HB9.out.size _).mono hsz3)).mono hsz2)).grown HGX.out (by have := HB9.out.size; simp; omega) (fun j hj => (HNE.out j hj).1)
        case measure => simp [intOf]; omega
    · obtain rfl : k = ks.length := by omega
      go_wp2_with fail
      go_ret
      have hJ := HJ.out
      rw [List.take_length] at hJ
      exact ⟨_, L, rfl, hJ.1.mono HB2.out.size, ⟨ks, HP.out, HSO.out, hJ.2.2.1⟩, HB2.out.trans (hJ.2.2.2.mono HB2.out.size)⟩
end Go.Proofs.Ytdkkpkgfiodlbaa

/- (*shard.State).locked. -/
namespace Go.Proofs.Ytdkkpkgfiodlbaa
open Go.RowKit Go.Maps
/-- Where the end of one who waits is decided. -/
def homeL (L : List Rdy) (by_ : Int) : Int := L.foldl (fun h y => if y.txn = by_ then y.home else h) 0
theorem homeL_snoc (L : List Rdy) (y : Rdy) (by_ : Int) : homeL (L ++ [y]) by_ = if y.txn = by_ then y.home else homeL L by_ := by unfold homeL; rw [List.foldl_append]; rfl
def LockQ (R : RdyL) (by_ err : Int) (w : World) (e : Ending) (w' : World) : Prop :=
  ∃ home, e = .returned (ansV ⟨err, [], 0, by_, home, zeroE'⟩ (.slice none 0 0)) ∧ Below w.heap.size w w' ∧ (err ≠ 60 → home = 0) ∧ (err = 60 → ∃ L, WaitsM R L ∧ home = homeL L by_)
theorem OwR.cellsAt' {b : Nat} {w W : World} {a : Option Addr} {c : Nat} {L : List RV} (h : OwR b w (.slice a L.length c) L) {k : Nat} {y : RV} (hy : L[k]? = some y) (hW : ∀ g, b ≤ g → g < w.heap.size → W.heap[g]? = w.heap[g]?) :
    ∃ g, a = some ⟨g, 0, none⟩ ∧ ∀ i u, (rdyL y)[i]? = some u → W.cell? ⟨g, k * 5 + i, none⟩ = some u := by
  obtain ⟨g, c', e⟩ := own_some h.row (by have := (List.getElem?_eq_some_iff.1 hy).1; omega)
  cases e
  refine ⟨g, rfl, fun i u hu => ?_⟩
  have hlt := h.row.lt g rfl
  have h1 := World.ownsRow.cells h.row (g := g) rfl (k * 5 + i) u (flat_at rdyL 5 (fun _ => rfl) L k i y u hy hu)
  rw [addr_add, Nat.zero_add] at h1
  exact (World.cell?_of_block (a := ⟨g, k * 5 + i, none⟩) (hW g hlt.1 hlt.2)).trans h1
theorem OwR.shapes' {b : Nat} {w : World} {v : Value} {L : List RV} (h : OwR b w v L) {y : RV} (hy : y ∈ L) : ∃ a n c a' n' c', y.wv = .slice a n c ∧ y.rv = .slice a' n' c' := by
  obtain ⟨a, c, h1⟩ := own_shape (h.ws y hy)
  obtain ⟨a', c', h2⟩ := own_shape (h.rs y hy).1
  exact ⟨a, _, c, a', _, c', h1, h2⟩
set_option maxRecDepth 100000 in
set_option maxHeartbeats 8000000 in
theorem locked_call {N base p ps mk mr me md : Nat} {serial : Bool} {bugs stamps now : Int} {K : KeysL} {R : RdyL} {E D : EndL} (by_ err : Int) (w : World) (h : ShT N base p ps mk mr me md serial bugs stamps now K R E D w) {n : Nat} (hn : n ≤ 1000) (hI : ShI n K R) :
    Calls Try.prog 30 #[.pointer (some ⟨p, 0, none⟩), vi by_, vi err] w (LockQ R by_ err w) := by
  have HI := Lib.hid hI
  have HX := Lib.hid (alloc_at w (.cells ansZ 37))
  have HB := Lib.hid ((Below.refl w.heap.size w).alloc (Nat.le_refl _) (.cells ansZ 37))
  have HH := Lib.hid (h.later ((Below.refl w.heap.size w).alloc (Nat.le_refl _) (.cells ansZ 37)))
  clear h hI
  go_enter Try.func30, Try.ntmps30
  go_upto_region 1 with fail
  generalize w.alloc (.cells ansZ 37) = w1 at *
  have hX1 := (Array.getElem?_eq_some_iff.1 HX.out).1
  obtain ⟨X, hX⟩ : ∃ X, X = w.heap.size := ⟨_, rfl⟩
  rw [← hX] at HX hX1 ⊢
  have HXE := Lib.hid hX
  clear hX
  have HY := Lib.hid (alloc_at w1 (.cells #[vi err, .slice none 0 0, vi 0, vi by_, vi 0, vi 0, .bool false, vi 0] 37))
  have HX2 := Lib.hid ((Below.heap_alloc w1 (.cells #[vi err, .slice none 0 0, vi 0, vi by_, vi 0, vi 0, .bool false, vi 0] 37) X hX1).trans HX.out)
  have HB2 := Lib.hid (HB.out.alloc HB.out.size (.cells #[vi err, .slice none 0 0, vi 0, vi by_, vi 0, vi 0, .bool false, vi 0] 37))
  have HH2 := Lib.hid (HH.out.later ((Below.refl w1.heap.size w1).alloc (Nat.le_refl _) (.cells #[vi err, .slice none 0 0, vi 0, vi by_, vi 0, vi 0, .bool false, vi 0] 37)))
  go_upto_region 2 with fail
  clear HX HB HH
  generalize w1.alloc (.cells #[vi err, .slice none 0 0, vi 0, vi by_, vi 0, vi 0, .bool false, vi 0] 37) = w2 at *
  obtain ⟨Y, hY⟩ : ∃ Y, Y = w1.heap.size := ⟨_, rfl⟩
  rw [← hY] at HY ⊢
  have hXY : X ≠ Y := by omega
  have hwY : w.heap.size ≤ Y := by have := HXE.out; omega
  have HYE := Lib.hid hY
  clear hY
  by_cases h60 : err = 60
  · have e1 : (err != 60) = false := by simp [h60]
    have HE := Lib.hid h60
    clear h60
    have p0 : w2.cell? ⟨p, 0, none⟩ = some (.pointer (some ⟨ps, 0, none⟩)) := by rw [cell_of HH2.out.s.blk]; rfl
    have hRl : R.length ≤ 1048576 := by have := HI.out.rlen; omega
    go_wp2_with fail
    refine (waits_call w2 HH2.out.s.st hRl (fun y hy => ⟨Nat.le_trans (HI.out.small y hy).1 (by decide), Nat.le_trans (HI.out.small y hy).2.1 (by decide)⟩)).mono ?_
    rintro e3 w3 ⟨v3, L, rfl, how, hwm, hb3⟩
    obtain ⟨aL, cL, rfl⟩ := own_shape how.row
    have HOW := Lib.hid how
    have HWM := Lib.hid hwm
    have hY2 := (Array.getElem?_eq_some_iff.1 HY.out).1
    have hX2 := (Array.getElem?_eq_some_iff.1 HX2.out).1
    have HY3 := Lib.hid ((hb3.block Y hY2).trans HY.out)
    have HX3 := Lib.hid ((hb3.block X hX2).trans HX2.out)
    have HB3 := Lib.hid (HB2.out.trans (hb3.mono HB2.out.size))
    have hs3 := hb3.size
    have hw2s := HB2.out.size
    have hLl : L.length ≤ 1048576 := by
      obtain ⟨ks, hp, _, hL⟩ := hwm
      have h1 := congrArg List.length hL
      have h2 := hp.length_eq
      simp at h1 h2
      omega
    clear p0 how hwm hb3
    dsimp only
    go_wp2_with fail
    go_loopw [22] (fun i wr => ∃ k : Nat, k ≤ L.length ∧ i = vi k ∧ Hid (wr.heap[Y]? = some (.cells #[vi err, .slice none 0 0, vi 0, vi by_, vi (homeL ((L.take k).map (·.r)) by_), vi 0, .bool false, vi 0] 37) ∧ wr.heap[X]? = some (.cells ansZ 37) ∧ Below w.heap.size w wr ∧ w3.grownBy wr (some Y))) (fun i _ => L.length - (intOf i).toNat)
    case atStart => exact ⟨0, Nat.zero_le _, rfl, Lib.hid ⟨HY3.out, HX3.out, HB3.out, gro_refl _ _⟩⟩
    case round =>
      obtain ⟨wj, rfl⟩ : ∃ wj : World, wj = wr := ⟨_, rfl⟩
      obtain ⟨k, hk, rfl, HJ⟩ := hrel
      by_cases hlt : k < L.length
      · have k1 : decide ((k : Int) < L.length) = true := decide_eq_true (by omega)
        have hki : (k : Int) < L.length := by omega
        have hwk : IntKind.i64.wrap ((k : Int) + 1) = (k : Int) + 1 := IntWalk.i64_in _ (by omega)
        obtain ⟨y, hy⟩ := some_at hlt
        have HYK := Lib.hid (take_at hy)
        obtain ⟨a1, n1, c1, a2, n2, c2, hv1, hv2⟩ := HOW.out.shapes' (List.mem_of_getElem? hy)
        obtain ⟨g, rfl, hcl⟩ := HOW.out.cellsAt' hy (fun g hg hg2 => HJ.out.2.2.2.block g hg2 (fun e => by have := Option.some.inj e; omega))
        have m0 : wj.cell? ⟨g, k * 5, none⟩ = some (vi y.r.txn) := hcl 0 _ rfl
        have m1 : wj.cell? ⟨g, k * 5 + 1, none⟩ = some (vi y.r.home) := hcl 1 _ rfl
        have m2 : wj.cell? ⟨g, k * 5 + 2, none⟩ = some (vi y.r.start) := hcl 2 _ rfl
        have m3 : wj.cell? ⟨g, k * 5 + 3, none⟩ = some (.slice a1 n1 c1) := by rw [← hv1]; exact hcl 3 _ rfl
        have m4 : wj.cell? ⟨g, k * 5 + 4, none⟩ = some (.slice a2 n2 c2) := by rw [← hv2]; exact hcl 4 _ rfl
        clear hcl hy hv1 hv2
        have hYj := (Array.getElem?_eq_some_iff.1 HJ.out.1).1
        have hXj := (Array.getElem?_eq_some_iff.1 HJ.out.2.1).1
        have HZ := Lib.hid (alloc_at wj (.cells #[vi y.r.txn, vi y.r.home, vi y.r.start, .slice a1 n1 c1, .slice a2 n2 c2] 29))
        have HYA := Lib.hid ((Below.heap_alloc wj (.cells #[vi y.r.txn, vi y.r.home, vi y.r.start, .slice a1 n1 c1, .slice a2 n2 c2] 29) Y hYj).trans HJ.out.1)
        have HXA := Lib.hid ((Below.heap_alloc wj (.cells #[vi y.r.txn, vi y.r.home, vi y.r.start, .slice a1 n1 c1, .slice a2 n2 c2] 29) X hXj).trans HJ.out.2.1)
        have HBA := Lib.hid (HJ.out.2.2.1.alloc HJ.out.2.2.1.size (.cells #[vi y.r.txn, vi y.r.home, vi y.r.start, .slice a1 n1 c1, .slice a2 n2 c2] 29))
        have HGA := Lib.hid (gro_trans HJ.out.2.2.2 (World.grownBy_alloc wj (.cells #[vi y.r.txn, vi y.r.home, vi y.r.start, .slice a1 n1 c1, .slice a2 n2 c2] 29) (some Y)))
        go_upto_region 7 with fail
        clear m0 m1 m2 m3 m4 HJ
        generalize wj.alloc (.cells #[vi y.r.txn, vi y.r.home, vi y.r.start, .slice a1 n1 c1, .slice a2 n2 c2] 29) = wa at *
        obtain ⟨Z, hZ⟩ : ∃ Z, Z = wj.heap.size := ⟨_, rfl⟩
        rw [← hZ] at HZ ⊢
        have HZE := Lib.hid hZ
        clear hZ
        have z0 : wa.cell? ⟨Z, 0, none⟩ = some (vi y.r.txn) := by rw [cell_of HZ.out]; rfl
        by_cases hb : y.r.txn = by_
        · have b1 : (y.r.txn == by_) = true := by simp [hb]
          have HBB := Lib.hid hb
          clear hb
          have z1 : wa.cell? ⟨Z, 1, none⟩ = some (vi y.r.home) := by rw [cell_of HZ.out]; rfl
          have y4 : wa.cell? ⟨Y, 4, none⟩ = some (vi (homeL ((L.take k).map (·.r)) by_)) := by rw [cell_of HYA.out]; rfl
          have yf : wa.frozen? ⟨Y, 4, none⟩ = false := free_of HYA.out 4
          go_wp2_with fail
          refine ⟨⟨k + 1, by omega, by go_num, Lib.hid ⟨?_, Bt.cells_other _ HXA.out hXY, HBA.out.setCell hwY _, gro_setP HGA.out _⟩⟩, by simp only [intOf]; omega⟩
          have h1 := Bt.cells_set (o := 4) (vi y.r.home) HYA.out
          refine (show _ = _ from h1).trans ?_
          rw [HYK.out, List.map_append, List.map_cons, List.map_nil, homeL_snoc, if_pos HBB.out]
          rfl
        · have b1 : (y.r.txn == by_) = false := by simp [hb]
          have HBB := Lib.hid hb
          clear hb
          go_wp2_with fail
          refine ⟨⟨k + 1, by omega, by go_num, Lib.hid ⟨?_, HXA.out, HBA.out, HGA.out⟩⟩, by simp only [intOf]; omega⟩
          rw [HYK.out, List.map_append, List.map_cons, List.map_nil, homeL_snoc, if_neg HBB.out]
          exact HYA.out
      · have k1 : decide ((k : Int) < L.length) = false := decide_eq_false (by omega)
        have HKE := Lib.hid (show k = L.length by omega)
        have HXF := Lib.hid HJ.out.2.1
        obtain ⟨hm, hhm⟩ : ∃ hm, hm = homeL ((L.take k).map (·.r)) by_ := ⟨_, rfl⟩
        have HHM := Lib.hid hhm
        have HYF := Lib.hid (show wj.heap[Y]? = some (.cells #[vi err, .slice none 0 0, vi 0, vi by_, vi hm, vi 0, .bool false, vi 0] 37) by rw [hhm]; exact HJ.out.1)
        have HBW := Lib.hid HJ.out.2.2.1
        clear HJ hhm
        have xf : ∀ o, wj.frozen? ⟨X, o, none⟩ = false := fun o => free_of HXF.out o
        have x0 : wj.cell? ⟨X, 0, none⟩ = some (vi 0) := by rw [Bt.cell_of HXF.out]; rfl
        have x1 : wj.cell? ⟨X, 1, none⟩ = some (.slice none 0 0) := by rw [Bt.cell_of HXF.out]; rfl
        have x2 : wj.cell? ⟨X, 2, none⟩ = some (vi 0) := by rw [Bt.cell_of HXF.out]; rfl
        have x3 : wj.cell? ⟨X, 3, none⟩ = some (vi 0) := by rw [Bt.cell_of HXF.out]; rfl
        have x4 : wj.cell? ⟨X, 4, none⟩ = some (vi 0) := by rw [Bt.cell_of HXF.out]; rfl
        have x5 : wj.cell? ⟨X, 5, none⟩ = some (vi 0) := by rw [Bt.cell_of HXF.out]; rfl
        have x6 : wj.cell? ⟨X, 6, none⟩ = some (.bool false) := by rw [Bt.cell_of HXF.out]; rfl
        have x7 : wj.cell? ⟨X, 7, none⟩ = some (vi 0) := by rw [Bt.cell_of HXF.out]; rfl
        have y0 : wj.cell? ⟨Y, 0, none⟩ = some (vi err) := by rw [Bt.cell_of HYF.out]; rfl
        have y1 : wj.cell? ⟨Y, 1, none⟩ = some (.slice none 0 0) := by rw [Bt.cell_of HYF.out]; rfl
        have y2 : wj.cell? ⟨Y, 2, none⟩ = some (vi 0) := by rw [Bt.cell_of HYF.out]; rfl
        have y3 : wj.cell? ⟨Y, 3, none⟩ = some (vi by_) := by rw [Bt.cell_of HYF.out]; rfl
        have y4 : wj.cell? ⟨Y, 4, none⟩ = some (vi hm) := by rw [Bt.cell_of HYF.out]; rfl
        have y5 : wj.cell? ⟨Y, 5, none⟩ = some (vi 0) := by rw [Bt.cell_of HYF.out]; rfl
        have y6 : wj.cell? ⟨Y, 6, none⟩ = some (.bool false) := by rw [Bt.cell_of HYF.out]; rfl
        have y7 : wj.cell? ⟨Y, 7, none⟩ = some (vi 0) := by rw [Bt.cell_of HYF.out]; rfl
        go_wp2_with fail
        change bodyPost _ _ _ _ _ (wj.setCells X 0 [vi err, .slice none 0 0, vi 0, vi by_, vi hm, vi 0, .bool false, vi 0])
        have HZC := Lib.hid (show (wj.setCells X 0 [vi err, .slice none 0 0, vi 0, vi by_, vi hm, vi 0, .bool false, vi 0]).heap[X]? = some (.cells #[vi err, .slice none 0 0, vi 0, vi by_, vi hm, vi 0, .bool false, vi 0] 37) from setCells_all (cs := [vi err, .slice none 0 0, vi 0, vi by_, vi hm, vi 0, .bool false, vi 0]) HXF.out rfl)
        have HBF := Lib.hid (ans_below0 (us := [vi err, .slice none 0 0, vi 0, vi by_, vi hm, vi 0, .bool false, vi 0]) HBW.out (show w.heap.size ≤ X by rw [HXE.out]; exact Nat.le_refl _))
        clear x0 x1 x2 x3 x4 x5 x6 x7 y0 y1 y2 y3 y4 y5 y6 y7 xf
        generalize wj.setCells X 0 [vi err, .slice none 0 0, vi 0, vi by_, vi hm, vi 0, .bool false, vi 0] = wz at *
        have r0 : wz.cell? ⟨X, 0, none⟩ = some (vi err) := by rw [Bt.cell_of HZC.out]; rfl
        have r1 : wz.cell? ⟨X, 1, none⟩ = some (.slice none 0 0) := by rw [Bt.cell_of HZC.out]; rfl
        have r2 : wz.cell? ⟨X, 2, none⟩ = some (vi 0) := by rw [Bt.cell_of HZC.out]; rfl
        have r3 : wz.cell? ⟨X, 3, none⟩ = some (vi by_) := by rw [Bt.cell_of HZC.out]; rfl
        have r4 : wz.cell? ⟨X, 4, none⟩ = some (vi hm) := by rw [Bt.cell_of HZC.out]; rfl
        have r5 : wz.cell? ⟨X, 5, none⟩ = some (vi 0) := by rw [Bt.cell_of HZC.out]; rfl
        have r6 : wz.cell? ⟨X, 6, none⟩ = some (.bool false) := by rw [Bt.cell_of HZC.out]; rfl
        have r7 : wz.cell? ⟨X, 7, none⟩ = some (vi 0) := by rw [Bt.cell_of HZC.out]; rfl
        refine bodyPost_ret (v := ansV ⟨err, [], 0, by_, hm, zeroE'⟩ (.slice none 0 0)) (by simp [results, Try.results30, go_sem, ansV, ansC, r0, r1, r2, r3, r4, r5, r6, r7]) rfl ⟨hm, rfl, HBF.out, fun h => absurd HE.out h, fun _ => ⟨L.map (·.r), HWM.out, ?_⟩⟩
        rw [HHM.out, HKE.out, List.take_length]
  · have e1 : (err != 60) = true := by simp [h60]
    have HE := Lib.hid h60
    have HXF := HX2
    have HYF := HY
    have HBW := HB2
    clear h60
    have xf : ∀ o, w2.frozen? ⟨X, o, none⟩ = false := fun o => free_of HXF.out o
    have x0 : w2.cell? ⟨X, 0, none⟩ = some (vi 0) := by rw [Bt.cell_of HXF.out]; rfl
    have x1 : w2.cell? ⟨X, 1, none⟩ = some (.slice none 0 0) := by rw [Bt.cell_of HXF.out]; rfl
    have x2 : w2.cell? ⟨X, 2, none⟩ = some (vi 0) := by rw [Bt.cell_of HXF.out]; rfl
    have x3 : w2.cell? ⟨X, 3, none⟩ = some (vi 0) := by rw [Bt.cell_of HXF.out]; rfl
    have x4 : w2.cell? ⟨X, 4, none⟩ = some (vi 0) := by rw [Bt.cell_of HXF.out]; rfl
    have x5 : w2.cell? ⟨X, 5, none⟩ = some (vi 0) := by rw [Bt.cell_of HXF.out]; rfl
    have x6 : w2.cell? ⟨X, 6, none⟩ = some (.bool false) := by rw [Bt.cell_of HXF.out]; rfl
    have x7 : w2.cell? ⟨X, 7, none⟩ = some (vi 0) := by rw [Bt.cell_of HXF.out]; rfl
    have y0 : w2.cell? ⟨Y, 0, none⟩ = some (vi err) := by rw [Bt.cell_of HYF.out]; rfl
    have y1 : w2.cell? ⟨Y, 1, none⟩ = some (.slice none 0 0) := by rw [Bt.cell_of HYF.out]; rfl
    have y2 : w2.cell? ⟨Y, 2, none⟩ = some (vi 0) := by rw [Bt.cell_of HYF.out]; rfl
    have y3 : w2.cell? ⟨Y, 3, none⟩ = some (vi by_) := by rw [Bt.cell_of HYF.out]; rfl
    have y4 : w2.cell? ⟨Y, 4, none⟩ = some (vi 0) := by rw [Bt.cell_of HYF.out]; rfl
    have y5 : w2.cell? ⟨Y, 5, none⟩ = some (vi 0) := by rw [Bt.cell_of HYF.out]; rfl
    have y6 : w2.cell? ⟨Y, 6, none⟩ = some (.bool false) := by rw [Bt.cell_of HYF.out]; rfl
    have y7 : w2.cell? ⟨Y, 7, none⟩ = some (vi 0) := by rw [Bt.cell_of HYF.out]; rfl
    go_wp2_with fail
    change bodyPost _ _ _ _ _ (w2.setCells X 0 [vi err, .slice none 0 0, vi 0, vi by_, vi 0, vi 0, .bool false, vi 0])
    have HZC := Lib.hid (show (w2.setCells X 0 [vi err, .slice none 0 0, vi 0, vi by_, vi 0, vi 0, .bool false, vi 0]).heap[X]? = some (.cells #[vi err, .slice none 0 0, vi 0, vi by_, vi 0, vi 0, .bool false, vi 0] 37) from setCells_all (cs := [vi err, .slice none 0 0, vi 0, vi by_, vi 0, vi 0, .bool false, vi 0]) HXF.out rfl)
    have HBF := Lib.hid (ans_below0 (us := [vi err, .slice none 0 0, vi 0, vi by_, vi 0, vi 0, .bool false, vi 0]) HBW.out (show w.heap.size ≤ X by rw [HXE.out]; exact Nat.le_refl _))
    clear x0 x1 x2 x3 x4 x5 x6 x7 y0 y1 y2 y3 y4 y5 y6 y7 xf
    generalize w2.setCells X 0 [vi err, .slice none 0 0, vi 0, vi by_, vi 0, vi 0, .bool false, vi 0] = wz at *
    have r0 : wz.cell? ⟨X, 0, none⟩ = some (vi err) := by rw [Bt.cell_of HZC.out]; rfl
    have r1 : wz.cell? ⟨X, 1, none⟩ = some (.slice none 0 0) := by rw [Bt.cell_of HZC.out]; rfl
    have r2 : wz.cell? ⟨X, 2, none⟩ = some (vi 0) := by rw [Bt.cell_of HZC.out]; rfl
    have r3 : wz.cell? ⟨X, 3, none⟩ = some (vi by_) := by rw [Bt.cell_of HZC.out]; rfl
    have r4 : wz.cell? ⟨X, 4, none⟩ = some (vi 0) := by rw [Bt.cell_of HZC.out]; rfl
    have r5 : wz.cell? ⟨X, 5, none⟩ = some (vi 0) := by rw [Bt.cell_of HZC.out]; rfl
    have r6 : wz.cell? ⟨X, 6, none⟩ = some (.bool false) := by rw [Bt.cell_of HZC.out]; rfl
    have r7 : wz.cell? ⟨X, 7, none⟩ = some (vi 0) := by rw [Bt.cell_of HZC.out]; rfl
    exact bodyPost_ret (v := ansV ⟨err, [], 0, by_, 0, zeroE'⟩ (.slice none 0 0)) (by simp [results, Try.results30, go_sem, ansV, ansC, r0, r1, r2, r3, r4, r5, r6, r7]) rfl ⟨0, rfl, HBF.out, fun _ => rfl, fun h => absurd h HE.out⟩
end Go.Proofs.Ytdkkpkgfiodlbaa

/- (*shard.State).Apply: a Prepare. -/
namespace Go.Proofs.Ytdkkpkgfiodlbaa
open Go.RowKit Go.Maps

def LockP (R : RdyL) (by_ err home : Int) : Prop := (err ≠ 60 → home = 0) ∧ (err = 60 → ∃ L, WaitsM R L ∧ home = homeL L by_)
def PrepP (serial : Bool) (bugs now : Int) (K : KeysL) (R : RdyL) (E D : EndL) (r : Rdy) (a : Ans) (now' : Int) (K' : KeysL) (R' : RdyL) (E' D' : EndL) : Prop :=
  ∃ by_ err home, a = ⟨err, [], 0, by_, home, zeroE'⟩ ∧ PrepM serial bugs K R E (killK r) by_ err R' ∧ LockP R' by_ err home ∧ now' = now ∧ K' = K ∧ E' = E ∧ D' = D
theorem prep_raw {base p mk mr me : Nat} {serial : Bool} {bugs : Int} {K : KeysL} {R : RdyL} {E : EndL} (r : Rdy) (aw ar : Option Addr) (cw cr : Nat) (w : World) (h : MvS base p mk mr me serial bugs K R E w) (hR : R.length ≤ 1048576) (hx : RdyS w ⟨.slice aw r.writes.length cw, .slice ar r.reads.length cr, killK r⟩) (ht : i64 r.txn)
    (hok : ∀ o ∈ (killK r).writes, i64 o.key) (hlw : (killK r).writes.length ≤ 1048576) (hlr : r.reads.length ≤ 1048576) :
    Calls Try.prog 31 #[.pointer (some ⟨p, 0, none⟩), .agg #[vi r.txn, vi r.home, vi r.start, .slice aw r.writes.length cw, .slice ar r.reads.length cr]] w (PrepQ2 base p mk mr me serial bugs K R E (killK r) w) :=
  prep_call2 ⟨.slice aw r.writes.length cw, .slice ar r.reads.length cr, killK r⟩ w h hR hx ht hok hlw hlr
set_option maxRecDepth 100000 in
set_option maxHeartbeats 8000000 in
theorem ShT.prep {N base p ps mk mr me md : Nat} {serial : Bool} {bugs stamps now : Int} {K : KeysL} {R : RdyL} {E D : EndL} (c : Cmd21) {v : Value} (w : World) (h : ShT N base p ps mk mr me md serial bugs stamps now K R E D w) (hi : CmdI c) (hk : c.k = 3)
    (hv : Src w v 1 (btBytes (cmdL c)).length ((btBytes (cmdL c)).map u8)) {n : Nat} (hn : n ≤ 900) (hI : ShI n K R) :
    Calls Try.prog 11 #[.pointer (some ⟨p, 0, none⟩), v] w (AppT N base p ps mk mr me md serial bugs stamps (PrepP serial bugs now K R E D c.r) w) := by
  have HI := Lib.hid hi
  have HK := Lib.hid hk
  have HH := Lib.hid (h.later ((Below.refl w.heap.size w).alloc (Nat.le_refl _) (.cells ansZ 37)))
  have HV := Lib.hid (hv.below ((Below.refl w.heap.size w).alloc (Nat.le_refl _) (.cells ansZ 37)))
  have HA0 := Lib.hid (Bt.alloc_at w (.cells ansZ 37))
  have HB0 := Lib.hid ((Below.refl w.heap.size w).alloc (Nat.le_refl _) (.cells ansZ 37))
  have hcl : (btBytes (cmdL c)).length ≤ 1048576 := by rw [btBytes_length]; have := cmdL_length hi; omega
  obtain ⟨bs, hbs⟩ : ∃ bs, bs = btBytes (cmdL c) := ⟨_, rfl⟩
  rw [← hbs] at HV hcl
  have HBS := Lib.hid hbs
  have hpw : p < w.heap.size := (Array.getElem?_eq_some_iff.1 h.s.blk).1
  have H0 := Lib.hid h
  have HII := Lib.hid hI
  clear h hi hk hv hbs hI
  go_enter Try.func11, Try.ntmps11
  go_upto_region 1 with fail
  generalize w.alloc (.cells ansZ 37) = w1 at *
  obtain ⟨A, hA⟩ : ∃ A, A = w.heap.size := ⟨_, rfl⟩
  rw [← hA] at HA0 ⊢
  have HAE := Lib.hid hA
  have hAw : A < w1.heap.size := (Array.getElem?_eq_some_iff.1 HA0.out).1
  clear hA
  go_wp2_with fail
  refine (shRead_call (bs := bs) w1 HV.out (by rw [HBS.out]; exact btBytes_lt _) hcl).mono ?_
  rintro e2 w2 ⟨c', wv, rv, err, rfl, hrd⟩
  rw [HBS.out] at hrd
  obtain ⟨rfl, rfl⟩ := (cmd_back HI.out hrd).1 ⟨by rw [HK.out]; decide, by rw [HK.out]; decide⟩
  have hkl := killK_len c.r
  have hows : w2.ownsRow w1.heap.size 104 3 wv c.r.writes.length ((killK c.r).writes.flatMap opV) := by have := hrd.ws; unfold OwOps at this; rw [show (killC c).r.writes.length = c.r.writes.length from hkl] at this; exact this
  have hors : w2.ownsRow w1.heap.size 3 1 rv c.r.reads.length (c.r.reads.flatMap viC) := hrd.rs
  obtain ⟨aw, cw, rfl⟩ := Bt.own_shape hows
  obtain ⟨ar, cr, rfl⟩ := Bt.own_shape hors
  have HWS := Lib.hid hrd.ws
  have HRS := Lib.hid hrd.rs
  have HH2 := Lib.hid (HH.out.later hrd.bel)
  have HA2 := Lib.hid ((hrd.bel.block A hAw).trans HA0.out)
  have HB2 := Lib.hid (HB0.out.trans (hrd.bel.mono HB0.out.size))
  have hA2w : A < w2.heap.size := Nat.lt_of_lt_of_le hAw hrd.bel.size
  have hw12 := hrd.bel.size
  have HKL := Lib.hid hkl
  clear hrd hkl hows hors HH HA0 HB0 HV
  unfold cmdV cmdC
  dsimp only [killC, killK]
  have HC3 := Lib.hid (Bt.alloc_at w2 (.cells #[vi c.k, vi c.r.txn, vi c.r.home, vi c.r.start, .slice aw c.r.writes.length cw, .slice ar c.r.reads.length cr, vi c.e.txn, .bool c.e.commit, vi c.e.at_] 33))
  have HH3 := Lib.hid (HH2.out.later ((Below.refl w2.heap.size w2).alloc (Nat.le_refl _) (.cells #[vi c.k, vi c.r.txn, vi c.r.home, vi c.r.start, .slice aw c.r.writes.length cw, .slice ar c.r.reads.length cr, vi c.e.txn, .bool c.e.commit, vi c.e.at_] 33)))
  have HA3 := Lib.hid ((Below.heap_alloc w2 (.cells #[vi c.k, vi c.r.txn, vi c.r.home, vi c.r.start, .slice aw c.r.writes.length cw, .slice ar c.r.reads.length cr, vi c.e.txn, .bool c.e.commit, vi c.e.at_] 33) A hA2w).trans HA2.out)
  have HB3 := Lib.hid (HB2.out.alloc HB2.out.size (.cells #[vi c.k, vi c.r.txn, vi c.r.home, vi c.r.start, .slice aw c.r.writes.length cw, .slice ar c.r.reads.length cr, vi c.e.txn, .bool c.e.commit, vi c.e.at_] 33))
  have HWS3 := Lib.hid (own_below HWS.out ((Below.refl w2.heap.size w2).alloc (Nat.le_refl _) (.cells #[vi c.k, vi c.r.txn, vi c.r.home, vi c.r.start, .slice aw c.r.writes.length cw, .slice ar c.r.reads.length cr, vi c.e.txn, .bool c.e.commit, vi c.e.at_] 33)))
  have HRS3 := Lib.hid (own_below HRS.out ((Below.refl w2.heap.size w2).alloc (Nat.le_refl _) (.cells #[vi c.k, vi c.r.txn, vi c.r.home, vi c.r.start, .slice aw c.r.writes.length cw, .slice ar c.r.reads.length cr, vi c.e.txn, .bool c.e.commit, vi c.e.at_] 33)))
  go_upto_region 4 with fail
  clear HH2 HA2 HB2 HWS HRS
  generalize w2.alloc (.cells #[vi c.k, vi c.r.txn, vi c.r.home, vi c.r.start, .slice aw c.r.writes.length cw, .slice ar c.r.reads.length cr, vi c.e.txn, .bool c.e.commit, vi c.e.at_] 33) = w3 at *
  have hC3w : w2.heap.size < w3.heap.size := (Array.getElem?_eq_some_iff.1 HC3.out).1
  obtain ⟨C, hC⟩ : ∃ C, C = w2.heap.size := ⟨_, rfl⟩
  rw [← hC] at HC3 hC3w ⊢
  have HCE := Lib.hid hC
  have hAC : A ≠ C := by omega
  have hpA : p < A := by have := HAE.out; omega
  clear hC
  have k0 : w3.cell? ⟨C, 0, none⟩ = some (vi c.k) := by rw [Bt.cell_of HC3.out]; rfl
  have b1 : (c.k == 1) = false := by rw [HK.out]; rfl
  have b2 : (c.k == 2) = false := by rw [HK.out]; rfl
  have b3 : (c.k == 3) = true := by rw [HK.out]; rfl
  have b4 : (c.k == 4) = false := by rw [HK.out]; rfl
  have hBw : w.heap.size ≤ w3.heap.size := HB3.out.size
  have q0 : w3.cell? ⟨p, 0, none⟩ = some (.pointer (some ⟨ps, 0, none⟩)) := by rw [cell_of HH3.out.s.blk]; rfl
  have z1 : w3.cell? ⟨C, 1, none⟩ = some (vi c.r.txn) := by rw [Bt.cell_of HC3.out]; rfl
  have z2 : w3.cell? ⟨C, 2, none⟩ = some (vi c.r.home) := by rw [Bt.cell_of HC3.out]; rfl
  have z3 : w3.cell? ⟨C, 3, none⟩ = some (vi c.r.start) := by rw [Bt.cell_of HC3.out]; rfl
  have z4 : w3.cell? ⟨C, 4, none⟩ = some (.slice aw c.r.writes.length cw) := by rw [Bt.cell_of HC3.out]; rfl
  have z5 : w3.cell? ⟨C, 5, none⟩ = some (.slice ar c.r.reads.length cr) := by rw [Bt.cell_of HC3.out]; rfl
  have HH3d := Lib.hid (HH3.out.later ((Below.refl w3.heap.size w3).drew))
  have HS3 := Lib.hid (show ∀ W, Solid w3 W → W.cell? ⟨p, 0, none⟩ = some (.pointer (some ⟨ps, 0, none⟩)) ∧ W.cell? ⟨C, 1, none⟩ = some (vi c.r.txn) ∧ W.cell? ⟨C, 2, none⟩ = some (vi c.r.home) ∧ W.cell? ⟨C, 3, none⟩ = some (vi c.r.start) ∧ W.cell? ⟨C, 4, none⟩ = some (.slice aw c.r.writes.length cw) ∧ W.cell? ⟨C, 5, none⟩ = some (.slice ar c.r.reads.length cr) from fun W hW => ⟨hW.cell q0, hW.cell z1, hW.cell z2, hW.cell z3, hW.cell z4, hW.cell z5⟩)
  have HD := Lib.hid (show Solid w3 w3.drew from Solid.below ((Below.refl w3.heap.size w3).drew))
  have HRL := Lib.hid (show R.length ≤ 1048576 by have := HII.out.rlen; omega)
  have HRD := Lib.hid (show RdyS w3.drew ⟨.slice aw c.r.writes.length cw, .slice ar c.r.reads.length cr, killK c.r⟩ from ⟨(show RdOps w3.drew _ _ from (show OwOps w1.heap.size w3 (.slice aw c.r.writes.length cw) (killK c.r).writes from HWS3.out).rd), (show RdInts w3.drew _ _ from own_rds (enc := viC) (fun _ => rfl) HRS3.out (fun x hx => ⟨rfl, HI.out.r.rs x hx⟩))⟩)
  have HOK := Lib.hid (show ∀ o ∈ (killK c.r).writes, i64 o.key from fun o ho => by obtain ⟨x, hx, rfl⟩ := List.mem_map.1 ho; exact (HI.out.r.ws x hx).2.1)
  have HLW := Lib.hid (show (killK c.r).writes.length ≤ 1048576 by rw [HKL.out]; have := HI.out.lw; omega)
  have HLR := Lib.hid (show c.r.reads.length ≤ 1048576 by have := HI.out.lr; omega)
  clear q0 z1 z2 z3 z4 z5
  go_upto_region 24 with fail
  clear k0
  go_cut [13, 14] (fun b e wx => ∃ by_ err R', b = vi by_ ∧ e = vi err ∧ PrepM serial bugs K R E (killK c.r) by_ err R' ∧ ShT N base p ps mk mr me md serial bugs stamps now K R' E D wx ∧ Solid w3 wx ∧ Turns [mk, mr, me] w3 wx)
  case first =>
    go_region_held3 (fun W : World => W.cell? ⟨p, 0, none⟩ = some (.pointer (some ⟨ps, 0, none⟩)) ∧ W.cell? ⟨C, 1, none⟩ = some (vi c.r.txn) ∧ W.cell? ⟨C, 2, none⟩ = some (vi c.r.home) ∧ W.cell? ⟨C, 3, none⟩ = some (vi c.r.start) ∧ W.cell? ⟨C, 4, none⟩ = some (.slice aw c.r.writes.length cw) ∧ W.cell? ⟨C, 5, none⟩ = some (.slice ar c.r.reads.length cr))
      (first | with_reducible exact HS3.out _ HD.out | with_reducible exact HS3.out _ (Solid.refl w3) | with_reducible exact HS3.out _ HSO4.out)
      (first | (go_at_call 31; (with_reducible refine (prep_raw c.r aw ar cw cr w3.drew HH3d.out.s.st HRL.out HRD.out HI.out.r.txn HOK.out HLW.out HLR.out).mono ?_); rintro e4 w4 ⟨by_, err, R', rfl, hpm, hm4, hg4, hr4⟩; have HPM := Lib.hid hpm; have hso := (Solid.refl w3.drew).map (HH3d.out.s.st.ready.obj.choose_spec.choose_spec) hg4; have HSO4 := Lib.hid (HD.out.trans hso); have HT4 := Lib.hid (show Turns [mk, mr, me] w3 w4 from (Turns.below ((Below.refl w3.heap.size w3).drew)).trans (Turns.grown hg4 (by simp))); have HST := Lib.hid (HH3d.out.store hm4 (Turns.grown hg4 (by simp)) (fun y hy => .inl hy) (fun y hy => (hr4 y hy).imp id (fun h1 => ⟨own_mono h1.1 HH3d.out.nw, own_mono h1.2 HH3d.out.nw⟩))); clear hpm hm4 hg4 hr4 hso))
    all_goals
      go_wp2
      go_meet
      exact ⟨by_, err, R', rfl, rfl, HPM.out, HST.out, HSO4.out, HT4.out⟩
  case rest =>
    obtain ⟨w4, rfl⟩ : ∃ w4 : World, w4 = wc := ⟨_, rfl⟩
    obtain ⟨by_, err, R', rfl, rfl, hpm, hst, hso, htt⟩ := hcut
    have HPM := Lib.hid hpm
    have HST := Lib.hid hst
    have HA4 := Lib.hid (hso _ _ _ _ HA3.out)
    have HT4 := Lib.hid htt
    have HI4 := Lib.hid (HII.out.prep (r := killK c.r) (by rw [HKL.out]; exact HI.out.lw) HI.out.lr HOK.out hpm)
    clear hpm hst hso htt
    go_upto_region 25 with fail
    go_wp2_with fail
    refine (locked_call by_ err w4 HST.out (n := n + 1) (by omega) HI4.out).mono ?_
    rintro e5 w5 ⟨home, rfl, hb5, hl1, hl2⟩
    have HL5 := Lib.hid (show LockP R' by_ err home from ⟨hl1, hl2⟩)
    have HST5 := Lib.hid (HST.out.later hb5)
    have HA5 := Lib.hid ((hb5.block A (Array.getElem?_eq_some_iff.1 HA4.out).1).trans HA4.out)
    have HT5 := Lib.hid (HT4.out.later hb5)
    clear hb5 hl1 hl2
    unfold ansV ansC
    dsimp only
    have xf : ∀ o, w5.frozen? ⟨A, o, none⟩ = false := fun o => free_of HA5.out o
    have x0 : w5.cell? ⟨A, 0, none⟩ = some (vi 0) := by rw [Bt.cell_of HA5.out]; rfl
    have x1 : w5.cell? ⟨A, 1, none⟩ = some (.slice none 0 0) := by rw [Bt.cell_of HA5.out]; rfl
    have x2 : w5.cell? ⟨A, 2, none⟩ = some (vi 0) := by rw [Bt.cell_of HA5.out]; rfl
    have x3 : w5.cell? ⟨A, 3, none⟩ = some (vi 0) := by rw [Bt.cell_of HA5.out]; rfl
    have x4 : w5.cell? ⟨A, 4, none⟩ = some (vi 0) := by rw [Bt.cell_of HA5.out]; rfl
    have x5 : w5.cell? ⟨A, 5, none⟩ = some (vi 0) := by rw [Bt.cell_of HA5.out]; rfl
    have x6 : w5.cell? ⟨A, 6, none⟩ = some (.bool false) := by rw [Bt.cell_of HA5.out]; rfl
    have x7 : w5.cell? ⟨A, 7, none⟩ = some (vi 0) := by rw [Bt.cell_of HA5.out]; rfl
    go_wp2_with fail
    change bodyPost _ _ _ _ _ (w5.setCells A 0 [vi err, .slice none 0 0, vi 0, vi by_, vi home, vi 0, .bool false, vi 0])
    have HSF := Lib.hid (HST5.out.setA HA5.out [vi err, .slice none 0 0, vi 0, vi by_, vi home, vi 0, .bool false, vi 0])
    have HTF := Lib.hid (fin_turns (A := A) (us := [vi err, .slice none 0 0, vi 0, vi by_, vi home, vi 0, .bool false, vi 0]) HB3.out HT5.out (by rw [HAE.out]; exact Nat.le_refl _))
    have HZC := Lib.hid (show (w5.setCells A 0 [vi err, .slice none 0 0, vi 0, vi by_, vi home, vi 0, .bool false, vi 0]).heap[A]? = some (.cells #[vi err, .slice none 0 0, vi 0, vi by_, vi home, vi 0, .bool false, vi 0] 37) from setCells_all (cs := [vi err, .slice none 0 0, vi 0, vi by_, vi home, vi 0, .bool false, vi 0]) HA5.out rfl)
    clear x0 x1 x2 x3 x4 x5 x6 x7 xf
    generalize w5.setCells A 0 [vi err, .slice none 0 0, vi 0, vi by_, vi home, vi 0, .bool false, vi 0] = wz at *
    have r0 : wz.cell? ⟨A, 0, none⟩ = some (vi err) := by rw [Bt.cell_of HZC.out]; rfl
    have r1 : wz.cell? ⟨A, 1, none⟩ = some (.slice none 0 0) := by rw [Bt.cell_of HZC.out]; rfl
    have r2 : wz.cell? ⟨A, 2, none⟩ = some (vi 0) := by rw [Bt.cell_of HZC.out]; rfl
    have r3 : wz.cell? ⟨A, 3, none⟩ = some (vi by_) := by rw [Bt.cell_of HZC.out]; rfl
    have r4 : wz.cell? ⟨A, 4, none⟩ = some (vi home) := by rw [Bt.cell_of HZC.out]; rfl
    have r5 : wz.cell? ⟨A, 5, none⟩ = some (vi 0) := by rw [Bt.cell_of HZC.out]; rfl
    have r6 : wz.cell? ⟨A, 6, none⟩ = some (.bool false) := by rw [Bt.cell_of HZC.out]; rfl
    have r7 : wz.cell? ⟨A, 7, none⟩ = some (vi 0) := by rw [Bt.cell_of HZC.out]; rfl
    refine bodyPost_ret (v := ansV ⟨err, [], 0, by_, home, zeroE'⟩ (.slice none 0 0)) (by simp [results, Try.results11, go_sem, ansV, ansC, r0, r1, r2, r3, r4, r5, r6, r7]) rfl ⟨⟨err, [], 0, by_, home, zeroE'⟩, .slice none 0 0, now, K, R', E, D, rfl, World.ownsRow_nil _ _ _ _, HSF.out, HTF.out.mono ?_, ⟨by_, err, home, rfl, HPM.out, HL5.out, rfl, rfl, rfl, rfl⟩⟩
    intro k hk
    simp at hk ⊢
    rcases hk with rfl | rfl | rfl <;> simp
end Go.Proofs.Ytdkkpkgfiodlbaa
