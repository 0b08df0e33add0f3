/- Texts of one proof, one behind the other: ShNow, ShSim, ShAns, ShStep, Rn21P. -/
import Derived.Test.YtdkkpkgfiodlbaaJa16
import Derived.Test.YtdkkpkgfiodlbaaJa17
import Derived.Test.YtdkkpkgfiodlbaaJa15
import Derived.Test.YtdkkpkgfiodlbaaJa11
set_option linter.all false
/- Rows of commands with the kind's bounds; big; Now; whatever command. -/
namespace Go.Proofs.Ytdkkpkgfiodlbaa
open Go.RowKit Go.Maps
open Go.ChangeShapes Go.WideShapes

def ECmdI (w : World) (cs : List Value) (o : Cmd21) : Prop := ECmd21 w cs o ∧ i64 o.k
abbrev RdCmdI (w : World) (v : Value) (l : List Cmd21) : Prop := RdS 9 ECmdI w v l
theorem RdCmdI.later {A B : World} {v : Value} {l : List Cmd21} (h : RdCmdI A v l) (hb : Below A.heap.size A B) : RdCmdI B v l := RdS.below h hb fun _ _ h => ⟨h.1.later hb, h.2⟩
theorem RdCmdI.at {w : World} {v : Value} {xs : List Cmd21} (h : RdCmdI w v xs) : ∃ a len cap, v = .slice a len cap ∧ len = xs.length ∧ xs.length ≤ 9223372036854775807 ∧ ∀ j x, xs[j]? = some x → ∃ b off wv rv, a = some ⟨b, off, none⟩ ∧ RdyS w ⟨wv, rv, x.r⟩ ∧ RdyI x.r ∧ EndI x.e ∧ i64 x.k ∧
    (∀ i u, (cmd21C x wv rv)[i]? = some u → w.cell? ⟨b, off + (j * 9 + i), none⟩ = some u) := by
  obtain ⟨a, len, cap, h1, h2, h3, h4, h5, h6⟩ := h
  refine ⟨a, len, cap, h1, h2, h3, fun j x hj => ?_⟩
  obtain ⟨b, off, cs, ha, hl, hc, ⟨wv, rv, hcs, hr, hi, he⟩, hk⟩ := h6 j x hj
  exact ⟨b, off, wv, rv, ha, hr, hi, he, hk, fun i u hu => hc i u (by rw [hcs]; exact hu)⟩
set_option maxRecDepth 100000 in
theorem cmdI_cells {H : Type} {enc : TypeId × Value → H} {w : World} {spare : Nat → Bool} {held : Bool} {m : Nat} {cs : List Value} {y : DataW H × List MemPlace} (hl : cs.length = 9) (h : DataW.trod enc Try.prog w 0 spare held m 33 cs = some y) : ∃ o, ECmdI w cs o := by
  obtain ⟨xs, n, _, _, _, hlen, hf⟩ := DataW.trod_struct Try.underlying33 h
  match cs, hl, xs, hlen with
  | [c0, c1, c2, c3, c4, c5, c6, c7, c8], _, [y0, y1, y2], _ =>
    have h0 : DataW.trod enc Try.prog w 0 spare held n 3 (([c0, c1, c2, c3, c4, c5, c6, c7, c8].drop 0).take (Try.prog.cellsOf 3)) = some y0 := hf 0 _ rfl
    have h1 : DataW.trod enc Try.prog w 0 spare held n 29 (([c0, c1, c2, c3, c4, c5, c6, c7, c8].drop 1).take (Try.prog.cellsOf 29)) = some y1 := hf 1 _ rfl
    have h2 : DataW.trod enc Try.prog w 0 spare held n 31 (([c0, c1, c2, c3, c4, c5, c6, c7, c8].drop 6).take (Try.prog.cellsOf 31)) = some y2 := hf 2 _ rfl
    rw [cells_int] at h0
    rw [cells_rdy] at h1
    rw [cells_end] at h2
    obtain ⟨a, rfl, ha⟩ := int_cell h0
    obtain ⟨x, hx, hs, hi⟩ := rdy_cells (by rfl) h1
    obtain ⟨e, he, hei⟩ := end_cells (by rfl) h2
    cases hx
    cases he
    exact ⟨⟨a, x.r, e⟩, ⟨x.wv, x.rv, rfl, hs, hi, hei⟩, ha⟩
set_option maxRecDepth 100000 in
theorem cmdIs_of_row {H : Type} {enc : TypeId × Value → H} {w : World} {spare : Nat → Bool} {held : Bool} {base : Nat} {v : Value} {d : DataW H} {ps : List MemPlace} (hk : Value.okWide Try.prog w .any base 22 v) (h : DataW.Trod enc Try.prog w 0 spare held 22 v d ps) : ∃ l, RdCmdI w v l := by
  obtain ⟨a, l, c, rfl⟩ := okWide_slice Try.underlying22 hk
  obtain ⟨fuel, hf⟩ := h
  exact rds_of_trod Try.underlying22 cells_cmd21 (by omega) hf fun _ _ _ hl hy => cmdI_cells hl hy
theorem rdv_slices21 {W : World} {x : RV} (h : RdyS W x) : ∃ (a : Option Addr) (c : Nat) (a' : Option Addr) (c' : Nat), x.wv = .slice a x.r.writes.length c ∧ x.rv = .slice a' x.r.reads.length c' ∧ x.r.writes.length ≤ 9223372036854775807 ∧ x.r.reads.length ≤ 9223372036854775807 := by
  obtain ⟨a, n, c, h1, h2, h3, -⟩ := h.ws
  obtain ⟨a', n', c', h1', h2', h3', -⟩ := h.rs
  subst h2 h2'
  exact ⟨a, c, a', c', h1, h1', h3, h3'⟩
def bigC (r : Rdy) : Bool := decide (20 < r.writes.length) || decide (20 < r.reads.length)
theorem bigC_false {r : Rdy} (h : bigC r = false) : r.writes.length ≤ 20 ∧ r.reads.length ≤ 20 := by
  unfold bigC at h
  rw [Bool.or_eq_false_iff] at h
  simp at h; exact h
set_option maxRecDepth 100000 in
set_option maxHeartbeats 1000000 in
theorem big21_call (k t at_ : Int) (c : Bool) (aw ar : Option Addr) (cw cr : Nat) (r : Rdy) (w : World) (hw : r.writes.length ≤ 9223372036854775807) (hr : r.reads.length ≤ 9223372036854775807) :
    Calls Try.prog 10 #[.agg #[vi k, vi r.txn, vi r.home, vi r.start, .slice aw r.writes.length cw, .slice ar r.reads.length cr, vi t, .bool c, vi at_]] w fun e w' => e = .returned (.bool (bigC r)) ∧ Below w.heap.size w w' := by
  by_cases h1 : 20 < r.writes.length
  · have h1' : (20 : Int) < (r.writes.length : Int) := by omega
    have HB := Lib.hid (show bigC r = true by simp [bigC, h1])
    clear h1
    go_enter Try.func10, Try.ntmps10
    go_wp2_with fail
    go_ret
    exact ⟨by rw [HB.out]; rfl, (Below.refl _ _).alloc (Nat.le_refl _) _⟩
  · have h1' : ¬ (20 : Int) < (r.writes.length : Int) := by omega
    by_cases h2 : 20 < r.reads.length
    · have h2' : (20 : Int) < (r.reads.length : Int) := by omega
      have HB := Lib.hid (show bigC r = true by simp [bigC, h2])
      clear h1 h2
      go_enter Try.func10, Try.ntmps10
      go_wp2_with fail
      go_ret
      exact ⟨by rw [HB.out]; rfl, (Below.refl _ _).alloc (Nat.le_refl _) _⟩
    · have h2' : ¬ (20 : Int) < (r.reads.length : Int) := by omega
      have HB := Lib.hid (show bigC r = false by simp [bigC, h1, h2])
      clear h1 h2
      go_enter Try.func10, Try.ntmps10
      go_wp2_with fail
      go_ret
      exact ⟨by rw [HB.out]; rfl, (Below.refl _ _).alloc (Nat.le_refl _) _⟩
set_option maxRecDepth 100000 in
set_option maxHeartbeats 1000000 in
theorem now_call {base p ps mk mr me md : Nat} {serial : Bool} {bugs stamps now : Int} {K : KeysL} {R : RdyL} {E D : EndL} (w : World) (h : ShS base p ps mk mr me md serial bugs stamps now K R E D w) :
    Calls Try.prog 13 #[.pointer (some ⟨p, 0, none⟩)] w fun e w' => e = .returned (vi now) ∧ w' = w := by
  have c3 : w.cell? ⟨p, 3, none⟩ = some (vi now) := by rw [cell_of h.blk]; rfl
  clear h
  go_enter Try.func13, Try.ntmps13
  go_wp2_with fail
  go_ret
  exact ⟨rfl, rfl⟩
def AnyP (n : Nat) (k stamps now : Int) (a : Ans) (now' : Int) (K' : KeysL) (R' : RdyL) (_ _ : EndL) : Prop :=
  ShI (n + 1) K' R' ∧ (k = 1 → (now < stamps ∧ a.err = 0 ∧ a.at_ = now + 1 ∧ now' = now + 1) ∨ (stamps ≤ now ∧ a.err = 63 ∧ a.at_ = 0 ∧ now' = now)) ∧ (k ≠ 1 → now' = now)
theorem AppT.imp {N base p ps mk mr me md : Nat} {serial : Bool} {bugs stamps : Int} {P Q : Ans → Int → KeysL → RdyL → EndL → EndL → Prop} {w : World} (hPQ : ∀ a n K R E D, P a n K R E D → Q a n K R E D) {e : Ending} {w' : World} (h : AppT N base p ps mk mr me md serial bugs stamps P w e w') : AppT N base p ps mk mr me md serial bugs stamps Q w e w' := by
  obtain ⟨a, vv, n', K', R', E', D', h1, h2, h3, h4, h5⟩ := h
  exact ⟨a, vv, n', K', R', E', D', h1, h2, h3, h4, hPQ _ _ _ _ _ _ h5⟩
theorem killK_small {r : Rdy} (hi : RdyI r) : ∀ o ∈ (killK r).writes, i64 o.key := by
  intro o ho
  unfold killK at ho
  simp only [List.mem_map] at ho
  obtain ⟨o', h', rfl⟩ := ho
  exact (hi.ws o' h').2.1
theorem ShT.apply {N base p ps mk mr me md : Nat} {serial : Bool} {bugs stamps now : Int} {K : KeysL} {R : RdyL} {E D : EndL} (c : Cmd21) {v : Value} (w : World) (h : ShT N base p ps mk mr me md serial bugs stamps now K R E D w) (hi : CmdI c)
    (hv : Src w v 1 (btBytes (cmdL c)).length ((btBytes (cmdL c)).map u8)) {n : Nat} (hn : n ≤ 900) (hI : ShI n K R) (h0 : 0 ≤ now ∧ now ≤ 1000000) :
    Calls Try.prog 11 #[.pointer (some ⟨p, 0, none⟩), v] w (AppT N base p ps mk mr me md serial bugs stamps (AnyP n c.k stamps now) w) := by
  by_cases k1 : c.k = 1
  · refine (h.stamp c w hi k1 hv h0).mono fun _ _ hq => hq.imp fun a n' K' R' E' D' hp => ?_
    obtain ⟨hp, rfl, rfl, -, -⟩ := hp
    refine ⟨hI.more, fun _ => ?_, fun h => absurd k1 h⟩
    rcases hp with ⟨h1, rfl, h2⟩ | ⟨h1, rfl, h2⟩
    · exact .inl ⟨h1, rfl, rfl, h2⟩
    · exact .inr ⟨h1, rfl, rfl, h2⟩
  by_cases k2 : c.k = 2
  · refine (h.get c w hi k2 hv hn hI).mono fun _ _ hq => hq.imp fun a n' K' R' E' D' hp => ?_
    obtain ⟨-, rfl, rfl, rfl, -, -⟩ := hp
    exact ⟨hI.more, fun h => absurd h k1, fun _ => rfl⟩
  by_cases k3 : c.k = 3
  · refine (h.prep c w hi k3 hv hn hI).mono fun _ _ hq => hq.imp fun a n' K' R' E' D' hp => ?_
    obtain ⟨_, _, _, -, hp, -, rfl, rfl, -, -⟩ := hp
    exact ⟨hI.prep (r := killK c.r) (by rw [killK_len]; exact hi.lw) hi.lr (killK_small hi.r) hp, fun h => absurd h k1, fun _ => rfl⟩
  by_cases k4 : c.k = 4
  · refine (h.dec4 c w hi k4 hv).mono fun _ _ hq => hq.imp fun a n' K' R' E' D' hp => ?_
    obtain ⟨-, rfl, rfl, rfl, -⟩ := hp
    exact ⟨hI.more, fun h => absurd h k1, fun _ => rfl⟩
  by_cases k5 : c.k = 5
  · refine (h.finish c w hi k5 hv (by omega) hI).mono fun _ _ hq => hq.imp fun a n' K' R' E' D' hp => ?_
    obtain ⟨-, rfl, hf, -⟩ := hp
    exact ⟨hI.fin hf, fun h => absurd h k1, fun _ => rfl⟩
  · refine (h.bad c w hi (by omega) hv).mono fun _ _ hq => hq.imp fun a n' K' R' E' D' hp => ?_
    obtain ⟨-, rfl, rfl, rfl, -, -⟩ := hp
    exact ⟨hI.more, fun h => absurd h k1, fun _ => rfl⟩
theorem and31 (x : Int) : ∃ y, bits .and .i64 x 31 = y ∧ 0 ≤ y ∧ y ≤ 31 := by
  have : ∃ m : Nat, m ≤ 31 ∧ bits .and .i64 x 31 = IntKind.i64.wrap (m : Int) := ⟨(BitVec.ofInt 64 x &&& BitVec.ofInt 64 31).toNat, by rw [BitVec.toNat_and]; exact Nat.le_trans Nat.and_le_right (by decide), rfl⟩
  obtain ⟨m, h1, h2⟩ := this
  refine ⟨m, ?_, by omega, by omega⟩
  rw [h2, IntKind.wrap_i64]; omega
end Go.Proofs.Ytdkkpkgfiodlbaa

/- Two shards that were given the same commands: what they answer. -/
namespace Go.Proofs.Ytdkkpkgfiodlbaa
open Go.RowKit Go.Maps

def prR (y : Int × RV) : Int × Rdy := (y.1, y.2.r)
theorem getM_pr (R : RdyL) (k : Int) : getM (R.map prR) k = (getM R k).map (·.r) := by
  unfold getM
  rw [List.find?_map, Option.map_map, Option.map_map]
  rfl
theorem putM_pr (R : RdyL) (k : Int) (y : RV) : (putM R k y).map prR = putM (R.map prR) k y.r := by
  unfold putM
  rw [getM_pr, Option.isSome_map]
  split
  · rw [List.map_map, List.map_map]
    apply List.map_congr_left
    intro p _
    show prR (if p.1 = k then (k, y) else p) = if (prR p).1 = k then (k, y.r) else prR p
    by_cases h : p.1 = k
    · rw [if_pos h, if_pos (show (prR p).1 = k from h)]; rfl
    · rw [if_neg h, if_neg (show ¬ (prR p).1 = k from h)]
  · rw [List.map_append]; rfl
theorem delM_pr (R : RdyL) (k : Int) : (delM R k).map prR = delM (R.map prR) k := by
  unfold delM
  rw [List.filter_map]; rfl
structure Sim2 (K1 : KeysL) (R1 : RdyL) (E1 D1 : EndL) (n1 : Int) (K2 : KeysL) (R2 : RdyL) (E2 D2 : EndL) (n2 : Int) : Prop where
  k : ∀ key, verOf K1 key = verOf K2 key
  r : R1.map prR = R2.map prR
  e : E1 = E2
  d : D1 = D2
  n : n1 = n2
theorem Sim2.start : Sim2 [] [] [] [] 0 [] [] [] [] 0 := ⟨fun _ => rfl, rfl, rfl, rfl, rfl⟩
def BlkP (P : List (Int × Rdy)) (but : Int) (q : Rdy → Bool) (r : Int × Bool) : Prop :=
  (r = (0, false) ∧ ∀ x ∈ P, x.1 ≠ but → q x.2 = false) ∨ (∃ x ∈ P, x.1 ≠ but ∧ q x.2 = true ∧ r = (x.1, true) ∧ ∀ y ∈ P, y.1 ≠ but → q y.2 = true → x.1 ≤ y.1)
theorem blk_pr {R : RdyL} {but : Int} {q : Rdy → Bool} {r : Int × Bool} (h : Blk R but q r) : BlkP (R.map prR) but q r := by
  rcases h with ⟨h1, h2⟩ | ⟨x, hx, h1, h2, h3, h4⟩
  · refine .inl ⟨h1, fun x hx => ?_⟩
    obtain ⟨y, hy, rfl⟩ := List.mem_map.1 hx
    exact h2 y hy
  · refine .inr ⟨prR x, List.mem_map.2 ⟨x, hx, rfl⟩, h1, h2, h3, fun y hy => ?_⟩
    obtain ⟨z, hz, rfl⟩ := List.mem_map.1 hy
    exact h4 z hz
theorem BlkP.uniq {P : List (Int × Rdy)} {but : Int} {q : Rdy → Bool} {a b : Int × Bool} (ha : BlkP P but q a) (hb : BlkP P but q b) : a = b := by
  rcases ha with ⟨h1, h2⟩ | ⟨x, hx, h1, h2, h3, h4⟩
  · rcases hb with ⟨g1, _⟩ | ⟨y, hy, g1, g2, _, _⟩
    · rw [h1, g1]
    · rw [h2 y hy g1] at g2; cases g2
  · rcases hb with ⟨_, g2⟩ | ⟨y, hy, g1, g2, g3, g4⟩
    · rw [g2 x hx h1] at h2; cases h2
    · have e1 := h4 y hy g1 g2
      have e2 := g4 x hx h1 h2
      have e : x.1 = y.1 := by omega
      rw [h3, g3, e]
theorem ReadM.uniq {K1 K2 : KeysL} {R1 R2 : RdyL} (hk : ∀ key, verOf K1 key = verOf K2 key) (hr : R1.map prR = R2.map prR) {bugs txn key t v1 b1 e1 v2 b2 e2 : Int} (h1 : ReadM K1 R1 bugs txn key t v1 b1 e1) (h2 : ReadM K2 R2 bugs txn key t v2 b2 e2) : v1 = v2 ∧ b1 = b2 ∧ e1 = e2 := by
  obtain ⟨i1, o1, hb1, c1⟩ := h1
  obtain ⟨i2, o2, hb2, c2⟩ := h2
  have hu := BlkP.uniq (blk_pr hb1) (hr ▸ blk_pr hb2)
  cases hu
  rcases c1 with ⟨p1, p2, rfl, rfl, rfl⟩ | ⟨p1, rfl, rfl, rfl⟩
  · rcases c2 with ⟨_, _, rfl, rfl, rfl⟩ | ⟨q1, rfl, rfl, rfl⟩
    · exact ⟨rfl, rfl, rfl⟩
    · rcases q1 with q1 | q1
      · rw [p1] at q1; cases q1
      · rw [p2] at q1; cases q1
  · rcases c2 with ⟨q1, q2, rfl, rfl, rfl⟩ | ⟨_, rfl, rfl, rfl⟩
    · rcases p1 with p1 | p1
      · rw [q1] at p1; cases p1
      · rw [q2] at p1; cases p1
    · exact ⟨by rw [hk key], rfl, rfl⟩
theorem GetsM.uniq {K1 K2 : KeysL} {R1 R2 : RdyL} (hk : ∀ key, verOf K1 key = verOf K2 key) (hr : R1.map prR = R2.map prR) {bugs txn t : Int} {ks v1 v2 : List Int} (h1 : GetsM K1 R1 bugs txn t ks v1) (h2 : GetsM K2 R2 bugs txn t ks v2) : v1 = v2 := by
  apply List.ext_getElem?
  intro j
  by_cases hj : j < ks.length
  · obtain ⟨k, hk'⟩ := some_at hj
    obtain ⟨x, hx⟩ := some_at (show j < v1.length by rw [h1.1]; exact hj)
    obtain ⟨y, hy⟩ := some_at (show j < v2.length by rw [h2.1]; exact hj)
    obtain ⟨_, g1⟩ := h1.2 j k x hk' hx
    obtain ⟨_, g2⟩ := h2.2 j k y hk' hy
    rw [hx, hy, (g1.uniq hk hr g2).1]
  · rw [List.getElem?_eq_none (by rw [h1.1]; omega), List.getElem?_eq_none (by rw [h2.1]; omega)]
theorem sorted_eq : ∀ {a b : List Int}, a.Perm b → a.Pairwise (fun x y => x ≤ y) → b.Pairwise (fun x y => x ≤ y) → a = b := fun hp h1 h2 =>
  hp.eq_of_pairwise (fun _ _ _ _ h3 h4 => Int.le_antisymm h3 h4) h1 h2
theorem WaitsM.uniq {R1 R2 : RdyL} (hr : R1.map prR = R2.map prR) {l1 l2 : List Rdy} (h1 : WaitsM R1 l1) (h2 : WaitsM R2 l2) : l1 = l2 := by
  obtain ⟨k1, p1, s1, rfl⟩ := h1
  obtain ⟨k2, p2, s2, rfl⟩ := h2
  have hm : R1.map (·.1) = R2.map (·.1) := by
    have := congrArg (List.map (fun x : Int × Rdy => x.1)) hr
    rw [List.map_map, List.map_map] at this; exact this
  have hk : k1 = k2 := sorted_eq (p1.trans (hm ▸ p2.symm)) s1 s2
  subst hk
  apply List.map_congr_left
  intro k _
  have hg := getM_pr R1 k
  rw [hr, getM_pr R2 k] at hg
  cases h1 : getM R1 k with
  | none =>
    rw [h1] at hg
    cases h2 : getM R2 k with
    | none => rfl
    | some y => rw [h2] at hg; cases hg
  | some x =>
    rw [h1] at hg
    cases h2 : getM R2 k with
    | none => rw [h2] at hg; cases hg
    | some y => rw [h2] at hg; exact (Option.some.inj hg).symm
theorem LockP.uniq {R1 R2 : RdyL} (hr : R1.map prR = R2.map prR) {b e m1 m2 : Int} (h1 : LockP R1 b e m1) (h2 : LockP R2 b e m2) : m1 = m2 := by
  by_cases he : e = 60
  · obtain ⟨L1, w1, rfl⟩ := h1.2 he
    obtain ⟨L2, w2, rfl⟩ := h2.2 he
    rw [w1.uniq hr w2]
  · rw [h1.1 he, h2.1 he]
theorem PrepM.uniq {K1 K2 : KeysL} {R1 R2 : RdyL} (hk : ∀ key, verOf K1 key = verOf K2 key) (hr : R1.map prR = R2.map prR) {E : EndL} {serial : Bool} {bugs : Int} {r : Rdy} {b1 e1 b2 e2 : Int} {S1 S2 : RdyL} (h1 : PrepM serial bugs K1 R1 E r b1 e1 S1) (h2 : PrepM serial bugs K2 R2 E r b2 e2 S2) : b1 = b2 ∧ e1 = e2 ∧ S1.map prR = S2.map prR := by
  have hR : (getM R2 r.txn).isSome = (getM R1 r.txn).isSome := by
    have h := getM_pr R1 r.txn
    rw [hr, getM_pr R2 r.txn] at h
    have h' := congrArg Option.isSome h
    rw [Option.isSome_map, Option.isSome_map] at h'
    exact h'
  have hW : lostW K2 bugs r = lostW K1 bugs r := by unfold lostW; simp only [hk]
  have hL : lostR K2 serial bugs r = lostR K1 serial bugs r := by unfold lostR; simp only [hk]
  unfold PrepM at h2
  rw [hR, hW, hL] at h2
  rcases h1 with ⟨a1, rfl, rfl, rfl⟩ | ⟨a1, a2, rfl, rfl, rfl⟩ | ⟨a1, a2, a3, rfl, rfl, rfl⟩ | ⟨a1, a2, a3, a4, i1, o1, x1, c1⟩ <;>
  rcases h2 with ⟨g1, rfl, rfl, rfl⟩ | ⟨g1, g2, rfl, rfl, rfl⟩ | ⟨g1, g2, g3, rfl, rfl, rfl⟩ | ⟨g1, g2, g3, g4, i2, o2, x2, c2⟩
  case inr.inr.inr.inr.inr.inr =>
    have hu := BlkP.uniq (blk_pr x1) (hr ▸ blk_pr x2)
    cases hu
    rcases c1 with ⟨p1, p2, rfl, rfl, rfl⟩ | ⟨p1, rfl, rfl, wv, rv, rfl⟩
    · rcases c2 with ⟨_, _, rfl, rfl, rfl⟩ | ⟨q1, _⟩
      · exact ⟨rfl, rfl, hr⟩
      · rcases q1 with q1 | q1
        · rw [p1] at q1; cases q1
        · rw [p2] at q1; cases q1
    · rcases c2 with ⟨q1, q2, _⟩ | ⟨_, rfl, rfl, wv', rv', rfl⟩
      · rcases p1 with p1 | p1
        · rw [q1] at p1; cases p1
        · rw [q2] at p1; cases p1
      · exact ⟨rfl, rfl, by rw [putM_pr, putM_pr, hr]⟩
  all_goals first
    | exact ⟨rfl, rfl, hr⟩
    | exact absurd (a1.symm.trans g1) (by decide)
    | exact absurd (a2.symm.trans g2) (by decide)
    | exact absurd a3 (by rw [g3, g4]; decide)
    | exact absurd g3 (by rw [a3, a4]; decide)
theorem writesOf_pr (R : RdyL) (e : EndM) : writesOf R e = if e.commit then (match getM (R.map prR) e.txn with | some r => r.writes | none => []) else [] := by
  unfold writesOf
  rw [getM_pr]
  cases getM R e.txn <;> rfl
theorem FinM.uniq {K1 K2 : KeysL} {R1 R2 : RdyL} (hk : ∀ key, verOf K1 key = verOf K2 key) (hr : R1.map prR = R2.map prR) {E : EndL} {e : EndM} {L1 L2 : KeysL} {S1 S2 : RdyL} {F1 F2 : EndL} (h1 : FinM K1 R1 E e L1 S1 F1) (h2 : FinM K2 R2 E e L2 S2 F2) : (∀ key, verOf L1 key = verOf L2 key) ∧ S1.map prR = S2.map prR ∧ F1 = F2 := by
  rcases h1 with ⟨a1, rfl, rfl, rfl⟩ | ⟨a1, rfl, rfl, a2⟩ <;> rcases h2 with ⟨g1, rfl, rfl, rfl⟩ | ⟨g1, rfl, rfl, g2⟩
  · exact ⟨hk, hr, rfl⟩
  · exact absurd (a1.symm.trans g1) (by decide)
  · exact absurd (a1.symm.trans g1) (by decide)
  · refine ⟨fun key => ?_, by rw [delM_pr, delM_pr, hr], rfl⟩
    rw [a2 key, g2 key, hk key, writesOf_pr R1, writesOf_pr R2, hr]
def StepP (serial : Bool) (bugs stamps : Int) (c : Cmd21) (now : Int) (K : KeysL) (R : RdyL) (E D : EndL) (a : Ans) (now' : Int) (K' : KeysL) (R' : RdyL) (E' D' : EndL) : Prop :=
  (c.k = 1 ∧ StampP stamps now K R E D a now' K' R' E' D') ∨ (c.k = 2 ∧ GetP bugs now K R E D c.r a now' K' R' E' D') ∨ (c.k = 3 ∧ PrepP serial bugs now K R E D c.r a now' K' R' E' D') ∨ (c.k = 4 ∧ DecideP bugs now K R E D c.e a now' K' R' E' D') ∨ (c.k = 5 ∧ FinishP now K R E D c.e a now' K' R' E' D') ∨ (¬ (1 ≤ c.k ∧ c.k ≤ 5) ∧ BadP now K R E D a now' K' R' E' D')
theorem GetP.uniq {K1 K2 : KeysL} {R1 R2 : RdyL} (hk : ∀ key, verOf K1 key = verOf K2 key) (hr : R1.map prR = R2.map prR) {E D : EndL} {bugs n : Int} {r : Rdy} {a1 a2 : Ans} {n1' n2' : Int} {L1 L2 : KeysL} {S1 S2 : RdyL} {F1 F2 G1 G2 : EndL} (h1 : GetP bugs n K1 R1 E D r a1 n1' L1 S1 F1 G1) (h2 : GetP bugs n K2 R2 E D r a2 n2' L2 S2 F2 G2) : a1 = a2 ∧ Sim2 L1 S1 F1 G1 n1' L2 S2 F2 G2 n2' := by
  obtain ⟨p1, rfl, rfl, rfl, rfl, rfl⟩ := h1
  obtain ⟨p2, rfl, rfl, rfl, rfl, rfl⟩ := h2
  refine ⟨?_, hk, hr, rfl, rfl, rfl⟩
  have stop : ∀ {K1 K2 : KeysL} {R1 R2 : RdyL}, (∀ key, verOf K1 key = verOf K2 key) → R1.map prR = R2.map prR → ∀ {ks vals : List Int} {j : Nat} {k v by_ err : Int}, GetsM K1 R1 bugs r.txn r.start ks vals → ks[j]? = some k → ReadM K2 R2 bugs r.txn k r.start v by_ err → err = 0 := by
    intro K1 K2 R1 R2 hk hr ks vals j k v by_ err hg hj hm
    obtain ⟨x, hx⟩ := some_at (show j < vals.length by rw [hg.1]; exact (List.getElem?_eq_some_iff.1 hj).1)
    obtain ⟨_, g⟩ := hg.2 j k x hj hx
    exact (g.uniq hk hr hm).2.2.symm
  have tk : ∀ {j i : Nat} {k : Int}, r.reads[j]? = some k → j < i → (r.reads.take i)[j]? = some k := fun h hji => by rw [List.getElem?_take_of_lt hji]; exact h
  rcases p1 with ⟨v1, rfl, g1⟩ | ⟨j1, k1, v1, b1, e1, m1, vs1, g1, hj1, r1, he1, rfl, l1⟩ <;> rcases p2 with ⟨v2, rfl, g2⟩ | ⟨j2, k2, v2, b2, e2, m2, vs2, g2, hj2, r2, he2, rfl, l2⟩
  · rw [g1.uniq hk hr g2]
  · exact absurd (stop hk hr g1 hj2 r2) he2
  · exact absurd (stop (fun key => (hk key).symm) hr.symm g2 hj1 r1) he1
  · have hj : j1 = j2 := by
      rcases Nat.lt_trichotomy j1 j2 with h | h | h
      · exact absurd (stop (fun key => (hk key).symm) hr.symm g2 (tk hj1 h) r1) he1
      · exact h
      · exact absurd (stop hk hr g1 (tk hj2 h) r2) he2
    subst hj
    rw [hj1] at hj2
    cases hj2
    obtain ⟨_, rfl, rfl⟩ := r1.uniq hk hr r2
    rw [l1.uniq hr l2]
theorem StepP.uniq {serial : Bool} {bugs stamps : Int} {c : Cmd21} {K1 K2 : KeysL} {R1 R2 : RdyL} {E1 E2 D1 D2 : EndL} {n1 n2 : Int} (hs : Sim2 K1 R1 E1 D1 n1 K2 R2 E2 D2 n2) {a1 a2 : Ans} {n1' n2' : Int} {L1 L2 : KeysL} {S1 S2 : RdyL} {F1 F2 G1 G2 : EndL} (h1 : StepP serial bugs stamps c n1 K1 R1 E1 D1 a1 n1' L1 S1 F1 G1) (h2 : StepP serial bugs stamps c n2 K2 R2 E2 D2 a2 n2' L2 S2 F2 G2) : a1 = a2 ∧ Sim2 L1 S1 F1 G1 n1' L2 S2 F2 G2 n2' := by
  obtain ⟨hk, hr, rfl, rfl, rfl⟩ := hs
  rcases h1 with ⟨c1, h1⟩ | ⟨c1, h1⟩ | ⟨c1, h1⟩ | ⟨c1, h1⟩ | ⟨c1, h1⟩ | ⟨c1, h1⟩ <;> rcases h2 with ⟨c2, h2⟩ | ⟨c2, h2⟩ | ⟨c2, h2⟩ | ⟨c2, h2⟩ | ⟨c2, h2⟩ | ⟨c2, h2⟩ <;> try (exfalso; omega)
  · obtain ⟨p1, rfl, rfl, rfl, rfl⟩ := h1
    obtain ⟨p2, rfl, rfl, rfl, rfl⟩ := h2
    rcases p1 with ⟨q1, rfl, rfl⟩ | ⟨q1, rfl, rfl⟩ <;> rcases p2 with ⟨q2, rfl, rfl⟩ | ⟨q2, rfl, rfl⟩ <;> try (exfalso; omega)
    · exact ⟨rfl, hk, hr, rfl, rfl, rfl⟩
    · exact ⟨rfl, hk, hr, rfl, rfl, rfl⟩
  · exact h1.uniq hk hr h2
  · obtain ⟨b1, e1, m1, rfl, p1, l1, rfl, rfl, rfl, rfl⟩ := h1
    obtain ⟨b2, e2, m2, rfl, p2, l2, rfl, rfl, rfl, rfl⟩ := h2
    obtain ⟨rfl, rfl, hS⟩ := p1.uniq hk hr p2
    rw [l1.uniq hS l2]
    exact ⟨rfl, hk, hS, rfl, rfl, rfl⟩
  · obtain ⟨p1, rfl, rfl, rfl, rfl⟩ := h1
    obtain ⟨p2, rfl, rfl, rfl, rfl⟩ := h2
    rcases p1 with ⟨x, hx, ho, rfl, rfl⟩ | ⟨ho, rfl, rfl⟩ <;> rcases p2 with ⟨y, hy, go, rfl, rfl⟩ | ⟨go, rfl, rfl⟩
    · rw [hx] at hy; cases hy
      exact ⟨rfl, hk, hr, rfl, rfl, rfl⟩
    · rcases go with go | go
      · rw [hx] at go; cases go
      · rw [ho] at go; cases go
    · rcases ho with ho | ho
      · rw [hy] at ho; cases ho
      · rw [go] at ho; cases ho
    · exact ⟨rfl, hk, hr, rfl, rfl, rfl⟩
  · obtain ⟨rfl, rfl, p1, rfl⟩ := h1
    obtain ⟨rfl, rfl, p2, rfl⟩ := h2
    obtain ⟨q1, q2, q3⟩ := p1.uniq hk hr p2
    exact ⟨rfl, q1, q2, q3, rfl, rfl⟩
  · obtain ⟨rfl, rfl, rfl, rfl, rfl, rfl⟩ := h1
    obtain ⟨rfl, rfl, rfl, rfl, rfl, rfl⟩ := h2
    exact ⟨rfl, hk, hr, rfl, rfl, rfl⟩
end Go.Proofs.Ytdkkpkgfiodlbaa

/- (shard.Answer).Bytes. -/
namespace Go.Proofs.Ytdkkpkgfiodlbaa
open Go.RowKit Go.Maps
/-- An answer, in bits. -/
def ansL (a : Ans) : List Bool := intL a.err ++ numL a.vals.length ++ intsBL a.vals ++ intL a.at_ ++ intL a.by_ ++ intL a.home ++ endBL a.e
structure AnsI (a : Ans) : Prop where
  err : IntOk a.err
  vals : ∀ v ∈ a.vals, IntOk v
  at_ : IntOk a.at_
  by_ : IntOk a.by_
  home : IntOk a.home
  e : EndOk a.e
  lv : a.vals.length ≤ 50
set_option maxRecDepth 100000 in
set_option maxHeartbeats 8000000 in
theorem ansBytes_call (a : Ans) (vv : Value) (w : World) (hx : RdInts w vv a.vals) (hi : AnsI a) :
    Calls Try.prog 24 #[ansV a vv] w (BytesQ (ansL a) w) := by
  obtain ⟨av, nv, cv, hvv, rfl, hmv, -⟩ := hx.at
  subst hvv
  have HRD := Lib.hid hx
  have HI := Lib.hid hi
  have l1 := intL_length hi.err
  have l2 := numL_length a.vals.length (by omega)
  have l3 := intsBL_length a.vals hi.vals
  have l4 := intL_length hi.at_
  have l5 := intL_length hi.by_
  have l6 := intL_length hi.home
  have l7 := endBL_length hi.e
  have lv := hi.lv
  have HX0 := Lib.hid (Bt.alloc_at w (.cells (ansC a (.slice av a.vals.length cv)) 37))
  have HB0 := Lib.hid ((Below.refl w.heap.size w).alloc (Nat.le_refl _) (.cells (ansC a (.slice av a.vals.length cv)) 37))
  clear hx hi
  unfold ansV at *
  unfold ansC at *
  go_enter Try.func24, Try.ntmps24
  go_upto_region 1 with fail
  generalize w.alloc (.cells #[vi a.err, .slice av a.vals.length cv, vi a.at_, vi a.by_, vi a.home, vi a.e.txn, .bool a.e.commit, vi a.e.at_] 37) = w1 at *
  have HW2 := Lib.hid (show WrS w.heap.size w1.heap.size [] (w1.alloc (.cells #[.slice none 0 0, vi 0] 93)) from ⟨HB0.out.size, .slice none 0 0, Bt.alloc_at w1 _, ⟨rfl, .inl ⟨rfl, rfl⟩⟩⟩)
  have HB2 := Lib.hid (HB0.out.alloc HB0.out.size (.cells #[.slice none 0 0, vi 0] 93))
  have HX2 := Lib.hid ((Below.heap_alloc w1 (.cells #[.slice none 0 0, vi 0] 93) w.heap.size (Array.getElem?_eq_some_iff.1 HX0.out).1).trans HX0.out)
  have hXP : w.heap.size < w1.heap.size := (Array.getElem?_eq_some_iff.1 HX0.out).1
  go_upto_region 2 with fail
  generalize w1.alloc (.cells #[.slice none 0 0, vi 0] 93) = w2 at *
  obtain ⟨X, hX⟩ : ∃ X, X = w.heap.size := ⟨_, rfl⟩
  obtain ⟨p, hp⟩ : ∃ p, p = w1.heap.size := ⟨_, rfl⟩
  rw [← hp] at HW2 hXP ⊢
  rw [← hX] at HX2 hXP ⊢
  have hnX : X ≠ p := by omega
  have HXE := Lib.hid hX
  have HPE := Lib.hid hp
  clear hX hp HX0 HB0
  have hb2 := HB2.out.size
  have c0 : w2.cell? ⟨X, 0, none⟩ = some (vi a.err) := by rw [Bt.cell_of HX2.out]; rfl
  go_upto_region 3 with (go_at_call 33; refine (int_call (L := []) a.err w2 HW2.out HI.out.err.1 HI.out.err.2 (by simp) hb2).mono ?_; rintro e3 w3 ⟨rfl, hw3, hf3⟩; have HW3 := Lib.hid (show WrS w.heap.size p (intL a.err) w3 from hw3); have HF3 := Lib.hid hf3; have hb3 := Nat.le_trans hb2 hf3.size; have HX3 := Lib.hid (hf3.cells HX2.out hnX (by decide)); clear hw3 hf3)
  have d1 : w3.cell? ⟨X, 1, none⟩ = some (.slice av a.vals.length cv) := by rw [Bt.cell_of HX3.out]; rfl
  have hwr1 : IntKind.u64.wrap (a.vals.length : Int) = (a.vals.length : Int) := by rw [IntKind.wrap_u64]; omega
  clear c0
  go_upto_region 4 with (go_at_call 54; refine (num_call (L := intL a.err) a.vals.length w3 HW3.out (by omega) (by omega) hb3).mono ?_; rintro e4 w4 ⟨rfl, hw4, hf4⟩; have HW4 := Lib.hid hw4; have HF4 := Lib.hid (HF3.out.trans hf4); have hb4 := Nat.le_trans hb3 hf4.size; have HX4 := Lib.hid (hf4.cells HX3.out hnX (by decide)); clear hw4 hf4)
  have d1' : w4.cell? ⟨X, 1, none⟩ = some (.slice av a.vals.length cv) := by rw [Bt.cell_of HX4.out]; rfl
  obtain ⟨L4, hL4⟩ : ∃ L4, L4 = intL a.err ++ numL a.vals.length := ⟨_, rfl⟩
  rw [← hL4] at HW4
  have hl4 : L4.length ≤ 300 := by rw [hL4]; simp; omega
  have HL4 := Lib.hid hL4
  clear hL4 d1 hwr1
  go_wp2_with fail
  clear d1'
  go_loopw [21] (fun i wr => ∃ k : Nat, k ≤ a.vals.length ∧ i = vi k ∧ Hid (WrS w.heap.size p (L4 ++ intsBL (a.vals.take k)) wr ∧ FrW w.heap.size p w2 wr ∧ wr.heap[X]? = some (.cells #[vi a.err, .slice av a.vals.length cv, vi a.at_, vi a.by_, vi a.home, vi a.e.txn, .bool a.e.commit, vi a.e.at_] 37))) (fun i _ => a.vals.length - (intOf i).toNat)
  case atStart => exact ⟨0, Nat.zero_le _, rfl, Lib.hid ⟨by simpa [intsBL] using HW4.out, HF4.out, HX4.out⟩⟩
  case round =>
    obtain ⟨wj, rfl⟩ : ∃ wj : World, wj = wr := ⟨_, rfl⟩
    obtain ⟨k, hk, rfl, HJ⟩ := hrel
    have HBJ := Lib.hid (HB2.out.trans (HJ.out.2.1.toBelow hb2 HW2.out.1))
    have hbj := HBJ.out.size
    by_cases hlt : k < a.vals.length
    · have k1 : decide ((k : Int) < a.vals.length) = true := decide_eq_true (by omega)
      have hwk : IntKind.i64.wrap ((k : Int) + 1) = (k : Int) + 1 := IntWalk.i64_in _ (by omega)
      obtain ⟨o, ho⟩ := some_at hlt
      have hoi := HI.out.vals o (List.mem_of_getElem? ho)
      obtain ⟨a', n', c', he, _, _, hcells⟩ := (show RdInts wj (.slice av a.vals.length cv) a.vals from HRD.out.later HBJ.out).at
      obtain ⟨b, off, ha, k2, _⟩ := hcells k o ho
      simp only [Value.slice.injEq] at he
      obtain ⟨rfl, -, -⟩ := he
      subst ha
      have htk := intsBL_snoc ho
      have hlk : (intsBL (a.vals.take k)).length ≤ 129 * a.vals.length := by
        have h1 := intsBL_length (a.vals.take k) (fun x hx => HI.out.vals x (List.mem_of_mem_take hx))
        have h2 : (a.vals.take k).length ≤ a.vals.length := by rw [List.length_take]; omega
        omega
      have HTK := Lib.hid htk
      clear hcells ho htk
      go_wp2_with (go_at_call 33; refine (int_call (L := L4 ++ intsBL (a.vals.take k)) o wj HJ.out.1 hoi.1 hoi.2 (by simp; omega) hbj).mono ?_; rintro eb wb ⟨rfl, hwb, hfb⟩; have HWB := Lib.hid hwb; have HFB := Lib.hid hfb; clear hwb hfb)
      refine ⟨⟨k + 1, by omega, by go_num, Lib.hid ⟨?_, HJ.out.2.1.trans HFB.out, HFB.out.cells HJ.out.2.2 hnX (by decide)⟩⟩, by simp only [intOf]; omega⟩
      rw [HTK.out, ← List.append_assoc]; exact HWB.out
    · have k1 : decide ((k : Int) < a.vals.length) = false := decide_eq_false (by omega)
      have hke := Lib.hid (show k = a.vals.length by omega)
      have HWJ : Hid (WrS w.heap.size p (L4 ++ intsBL a.vals) wj) := by have := HJ.out.1; rw [hke.out, List.take_length] at this; exact Lib.hid this
      have HXJ := Lib.hid HJ.out.2.2
      have HFJ := Lib.hid HJ.out.2.1
      have HJ0 := HJ
      clear HJ0 HJ
      obtain ⟨L5, hL5⟩ : ∃ L5, L5 = L4 ++ intsBL a.vals := ⟨_, rfl⟩
      rw [← hL5] at HWJ
      have hl5 : L5.length ≤ 7000 := by rw [hL5]; simp; omega
      have HL5 := Lib.hid hL5
      clear hL5
      have x2 : wj.cell? ⟨X, 2, none⟩ = some (vi a.at_) := by rw [Bt.cell_of HXJ.out]; rfl
      go_upto_region 10 with (go_at_call 33; refine (int_call (L := L5) a.at_ wj HWJ.out HI.out.at_.1 HI.out.at_.2 (by omega) hbj).mono ?_; rintro e6 w6 ⟨rfl, hw6, hf6⟩; have HW6 := Lib.hid hw6; have HF6 := Lib.hid (HFJ.out.trans hf6); have hb6 := Nat.le_trans hbj hf6.size; have HX6 := Lib.hid (hf6.cells HXJ.out hnX (by decide)); clear hw6 hf6)
      clear x2
      have x3 : w6.cell? ⟨X, 3, none⟩ = some (vi a.by_) := by rw [Bt.cell_of HX6.out]; rfl
      go_upto_region 11 with (go_at_call 33; refine (int_call (L := L5 ++ intL a.at_) a.by_ w6 HW6.out HI.out.by_.1 HI.out.by_.2 (by simp; omega) hb6).mono ?_; rintro e7 w7 ⟨rfl, hw7, hf7⟩; have HW7 := Lib.hid hw7; have HF7 := Lib.hid (HF6.out.trans hf7); have hb7 := Nat.le_trans hb6 hf7.size; have HX7 := Lib.hid (hf7.cells HX6.out hnX (by decide)); clear hw7 hf7)
      clear x3
      have x4 : w7.cell? ⟨X, 4, none⟩ = some (vi a.home) := by rw [Bt.cell_of HX7.out]; rfl
      go_upto_region 12 with (go_at_call 33; refine (int_call (L := L5 ++ intL a.at_ ++ intL a.by_) a.home w7 HW7.out HI.out.home.1 HI.out.home.2 (by simp; omega) hb7).mono ?_; rintro e8 w8 ⟨rfl, hw8, hf8⟩; have HW8 := Lib.hid hw8; have HF8 := Lib.hid (HF7.out.trans hf8); have hb8 := Nat.le_trans hb7 hf8.size; have HX8 := Lib.hid (hf8.cells HX7.out hnX (by decide)); clear hw8 hf8)
      clear x4
      have x5 : w8.cell? ⟨X, 5, none⟩ = some (vi a.e.txn) := by rw [Bt.cell_of HX8.out]; rfl
      have x6 : w8.cell? ⟨X, 6, none⟩ = some (.bool a.e.commit) := by rw [Bt.cell_of HX8.out]; rfl
      have x7 : w8.cell? ⟨X, 7, none⟩ = some (vi a.e.at_) := by rw [Bt.cell_of HX8.out]; rfl
      have hl8 : (L5 ++ intL a.at_ ++ intL a.by_ ++ intL a.home).length ≤ 8000 := by simp; omega
      obtain ⟨L8, hL8⟩ : ∃ L8, L8 = L5 ++ intL a.at_ ++ intL a.by_ ++ intL a.home := ⟨_, rfl⟩
      rw [← hL8] at HW8 hl8
      have HL8 := Lib.hid hL8
      clear hL8
      go_upto_region 13 with (go_at_call 35; refine (shEnd_call (base := w.heap.size) (p := p) (L := L8) a.e w8 HW8.out HI.out.e (by omega) hb8).mono ?_; rintro e9 w9 ⟨rfl, hw9, hf9⟩; have HW9 := Lib.hid hw9; have HF9 := Lib.hid (HF8.out.trans hf9); clear hw9 hf9)
      clear x5 x6 x7
      go_wp2_with (go_at_call 36; refine (bytes_call w9 HW9.out (by simp; omega)).mono ?_; rintro e10 w10 ⟨v10, rfl, ho10, hb10⟩; have HO10 := Lib.hid ho10; have HB10 := Lib.hid hb10; clear ho10 hb10)
      go_ret
      have hB9 : Below w.heap.size w w9 := HB2.out.trans (HF9.out.toBelow hb2 HW2.out.1)
      have hLL : L8 ++ endBL a.e = ansL a := by rw [HL8.out, HL5.out, HL4.out]; simp [ansL]
      exact ⟨_, rfl, by rw [← hLL]; exact own_mono HO10.out hB9.size, hB9.trans (HB10.out.mono hB9.size)⟩
end Go.Proofs.Ytdkkpkgfiodlbaa

/- A shard's step: what it answers is a number's worth; whatever command. -/
namespace Go.Proofs.Ytdkkpkgfiodlbaa
open Go.RowKit Go.Maps
/-- The numbers that a shard holds lie in their bounds. -/
structure ShJ (K : KeysL) (R : RdyL) (D : EndL) : Prop where
  k : ∀ key, ∀ x ∈ verOf K key, i64 x.2
  r : ∀ y ∈ R, i64 y.1 ∧ i64 y.2.r.home ∧ ∀ o ∈ y.2.r.writes, i64 o.val
  d : ∀ y ∈ D, EndOk y.2
theorem ShJ.start : ShJ [] [] [] := ⟨fun _ x hx => by simp [verOf, curK, getM, nilK] at hx, (fun y hy => by cases hy), (fun y hy => by cases hy)⟩
theorem i64_0 : i64 0 := by unfold i64; omega
theorem i64_small (z : Int) (h : 0 ≤ z ∧ z ≤ 1000) : i64 z := by unfold i64; omega
theorem finV_mem {t key : Int} {x : Ver} : ∀ {ops : List GOp} {vs : List Ver}, x ∈ finV t key ops vs → x ∈ vs ∨ ∃ o ∈ ops, x.2 = o.val
  | [], vs, h => .inl h
  | o :: ops, vs, h => by
    have h' : x ∈ finV t key ops (if o.key = key then insV vs t o.val else vs) := h
    rcases finV_mem h' with h1 | ⟨o', h1, h2⟩
    · split at h1
      · rcases insV_mem h1 with h2 | h2
        · exact .inr ⟨o, List.mem_cons_self, by rw [h2]⟩
        · exact .inl h2
      · exact .inl h1
    · exact .inr ⟨o', List.mem_cons_of_mem _ h1, h2⟩
theorem valAt_i64 {vs : List Ver} {t : Int} (h : ∀ x ∈ vs, i64 x.2) : i64 (valAt vs t) := by
  unfold valAt
  cases hf : (revL vs).find? (fun p => decide (p.2.1 ≤ t)) with
  | none => exact i64_0
  | some p =>
    have hm := List.mem_of_find?_eq_some hf
    unfold revL at hm
    rw [List.mem_reverse] at hm
    obtain ⟨q, hq, rfl⟩ := List.mem_map.1 hm
    exact h q.1 (List.fst_mem_of_mem_zipIdx hq)
theorem Blk.i64 {R : RdyL} {but : Int} {q : Rdy → Bool} {id : Int} {ok : Bool} (h : Blk R but q (id, ok)) (hr : ∀ y ∈ R, i64 y.1) : i64 id := by
  rcases h with ⟨h1, _⟩ | ⟨x, hx, _, _, h3, _⟩
  · cases h1; exact i64_0
  · cases h3; exact hr x hx
theorem ReadM.i64 {K : KeysL} {R : RdyL} {bugs txn key t v by_ err : Int} (h : ReadM K R bugs txn key t v by_ err) (hk : ∀ key, ∀ x ∈ verOf K key, i64 x.2) (hr : ∀ y ∈ R, i64 y.1) : i64 v ∧ i64 by_ ∧ (err = 0 ∨ err = 60) := by
  obtain ⟨id, ok, hb, h⟩ := h
  rcases h with ⟨_, _, rfl, rfl, rfl⟩ | ⟨_, rfl, rfl, rfl⟩
  · exact ⟨i64_0, hb.i64 hr, .inr rfl⟩
  · exact ⟨valAt_i64 (hk key), i64_0, .inl rfl⟩
theorem GetsM.i64 {K : KeysL} {R : RdyL} {bugs txn t : Int} {ks vals : List Int} (h : GetsM K R bugs txn t ks vals) (hk : ∀ key, ∀ x ∈ verOf K key, i64 x.2) (hr : ∀ y ∈ R, i64 y.1) : ∀ v ∈ vals, i64 v := by
  intro v hv
  obtain ⟨j, hj⟩ := List.mem_iff_getElem?.1 hv
  obtain ⟨k, hk'⟩ := some_at (show j < ks.length by rw [← h.1]; exact (List.getElem?_eq_some_iff.1 hj).1)
  obtain ⟨_, hm⟩ := h.2 j k v hk' hj
  exact (hm.i64 hk hr).1
theorem homeL_i64 {by_ : Int} : ∀ {L : List Rdy} {z : Int}, i64 z → (∀ y ∈ L, i64 y.home) → i64 (L.foldl (fun h y => if y.txn = by_ then y.home else h) z)
  | [], z, hz, _ => hz
  | y :: L, z, hz, h => by
    show i64 (L.foldl _ (if y.txn = by_ then y.home else z))
    refine homeL_i64 ?_ (fun x hx => h x (List.mem_cons_of_mem _ hx))
    split
    · exact h y List.mem_cons_self
    · exact hz
theorem LockP.i64 {R : RdyL} {by_ err home : Int} (h : LockP R by_ err home) (hr : ∀ y ∈ R, i64 y.2.r.home) : i64 home := by
  by_cases he : err = 60
  · obtain ⟨L, ⟨ks, _, _, rfl⟩, rfl⟩ := h.2 he
    refine homeL_i64 i64_0 (fun y hy => ?_)
    obtain ⟨k, _, rfl⟩ := List.mem_map.1 hy
    cases hg : getM R k with
    | none => exact i64_0
    | some z => exact hr _ (getM_some hg)
  · rw [h.1 he]; exact i64_0
theorem PrepM.i64 {serial : Bool} {bugs : Int} {K : KeysL} {R : RdyL} {E : EndL} {r : Rdy} {by_ err : Int} {R' : RdyL} (h : PrepM serial bugs K R E r by_ err R') (hr : ∀ y ∈ R, i64 y.1) : i64 by_ ∧ i64 err := by
  rcases h with ⟨_, rfl, rfl, _⟩ | ⟨_, _, rfl, rfl, _⟩ | ⟨_, _, _, rfl, rfl, _⟩ | ⟨_, _, _, _, id, ok, hb, ⟨_, _, rfl, rfl, _⟩ | ⟨_, rfl, rfl, _⟩⟩
  · exact ⟨i64_0, by unfold Proofs.Ytdkkpkgfiodlbaa.i64; omega⟩
  · exact ⟨i64_0, i64_0⟩
  · exact ⟨i64_0, by unfold Proofs.Ytdkkpkgfiodlbaa.i64; omega⟩
  · exact ⟨hb.i64 hr, by unfold Proofs.Ytdkkpkgfiodlbaa.i64; omega⟩
  · exact ⟨i64_0, i64_0⟩
theorem PrepM.mem {serial : Bool} {bugs : Int} {K : KeysL} {R : RdyL} {E : EndL} {r : Rdy} {by_ err : Int} {R' : RdyL} (h : PrepM serial bugs K R E r by_ err R') : ∀ y ∈ R', y ∈ R ∨ (y.1 = r.txn ∧ y.2.r = r) := by
  intro y hy
  rcases h with ⟨_, _, _, rfl⟩ | ⟨_, _, _, _, rfl⟩ | ⟨_, _, _, _, _, rfl⟩ | ⟨_, _, _, _, id, ok, hb, ⟨_, _, _, _, rfl⟩ | ⟨_, _, _, wv, rv, rfl⟩⟩
  · exact .inl hy
  · exact .inl hy
  · exact .inl hy
  · exact .inl hy
  · rcases mem_putM hy with rfl | hy
    · exact .inr ⟨rfl, rfl⟩
    · exact .inl hy
theorem zeroE_ok : EndOk zeroE' := ⟨i64_0, i64_0⟩
/-- The numbers stay within their bounds, and the answer's are. -/
theorem StepP.ok {serial : Bool} {bugs stamps : Int} {c : Cmd21} {now : Int} {K : KeysL} {R : RdyL} {E D : EndL} {a : Ans} {now' : Int} {K' : KeysL} {R' : RdyL} {E' D' : EndL} (h : StepP serial bugs stamps c now K R E D a now' K' R' E' D') (hi : CmdI c) (hj : ShJ K R D) (h0 : 0 ≤ now ∧ now ≤ 1000000) : AnsI a ∧ ShJ K' R' D' ∧ (now' = now ∨ now' = now + 1) := by
  have hr1 : ∀ y ∈ R, i64 y.1 := fun y hy => (hj.r y hy).1
  rcases h with ⟨c1, h⟩ | ⟨c1, h⟩ | ⟨c1, h⟩ | ⟨c1, h⟩ | ⟨c1, h⟩ | ⟨c1, h⟩
  · obtain ⟨p, rfl, rfl, rfl, rfl⟩ := h
    rcases p with ⟨_, rfl, rfl⟩ | ⟨_, rfl, rfl⟩
    · exact ⟨⟨i64_0, (fun v hv => by cases hv), ⟨by show _ ≤ now + 1; omega, by show now + 1 ≤ _; omega⟩, i64_0, i64_0, zeroE_ok, by simp⟩, hj, .inr rfl⟩
    · exact ⟨⟨i64_small 63 (by decide), (fun v hv => by cases hv), i64_0, i64_0, i64_0, zeroE_ok, by simp⟩, hj, .inl rfl⟩
  · obtain ⟨p, rfl, rfl, rfl, rfl, rfl⟩ := h
    rcases p with ⟨vs, rfl, g⟩ | ⟨j, k, v, b, e, m, vs, _, _, rm, _, rfl, lk⟩
    · exact ⟨⟨i64_0, g.i64 hj.k hr1, i64_0, i64_0, i64_0, zeroE_ok, by show vs.length ≤ 50; rw [g.1]; have := hi.lr; omega⟩, hj, .inl rfl⟩
    · obtain ⟨_, q2, q3⟩ := rm.i64 hj.k hr1
      refine ⟨⟨?_, (fun v hv => by cases hv), i64_0, q2, lk.i64 (fun y hy => (hj.r y hy).2.1), zeroE_ok, by simp⟩, hj, .inl rfl⟩
      rcases q3 with rfl | rfl
      · exact i64_0
      · exact i64_small 60 (by decide)
  · obtain ⟨b, e, m, rfl, p, lk, rfl, rfl, rfl, rfl⟩ := h
    have hJ : ∀ y ∈ R', i64 y.1 ∧ i64 y.2.r.home ∧ ∀ o ∈ y.2.r.writes, i64 o.val := fun y hy => by
      rcases p.mem y hy with h1 | ⟨h1, h2⟩
      · exact hj.r y h1
      · rw [h1, h2]
        refine ⟨hi.r.txn, hi.r.home, fun o ho => ?_⟩
        obtain ⟨o', ho', rfl⟩ := List.mem_map.1 ho
        exact (hi.r.ws o' ho').2.2
    obtain ⟨q1, q2⟩ := p.i64 hr1
    exact ⟨⟨q2, (fun v hv => by cases hv), i64_0, q1, lk.i64 (fun y hy => (hJ y hy).2.1), zeroE_ok, by simp⟩, ⟨hj.k, hJ, hj.d⟩, .inl rfl⟩
  · obtain ⟨p, rfl, rfl, rfl, rfl⟩ := h
    rcases p with ⟨x, hx, _, rfl, rfl⟩ | ⟨_, rfl, rfl⟩
    · exact ⟨⟨i64_0, (fun v hv => by cases hv), i64_0, i64_0, i64_0, hj.d _ (getM_some hx), by simp⟩, hj, .inl rfl⟩
    · refine ⟨⟨i64_0, (fun v hv => by cases hv), i64_0, i64_0, i64_0, hi.endOk, by simp⟩, ⟨hj.k, hj.r, fun y hy => ?_⟩, .inl rfl⟩
      rcases mem_putM hy with rfl | hy
      · exact hi.endOk
      · exact hj.d y hy
  · obtain ⟨rfl, rfl, p, rfl⟩ := h
    refine ⟨⟨i64_0, (fun v hv => by cases hv), i64_0, i64_0, i64_0, zeroE_ok, by simp⟩, ?_, .inl rfl⟩
    rcases p with ⟨_, rfl, rfl, _⟩ | ⟨_, rfl, _, hk⟩
    · exact hj
    · refine ⟨fun key x hx => ?_, fun y hy => hj.r y (mem_delM hy), hj.d⟩
      rw [hk key] at hx
      rcases finV_mem hx with h1 | ⟨o, h1, h2⟩
      · exact hj.k key x h1
      · rw [h2]
        unfold writesOf at h1
        split at h1
        · cases hg : getM R c.e.txn with
          | none => rw [hg] at h1; cases h1
          | some y => rw [hg] at h1; exact (hj.r _ (getM_some hg)).2.2 o h1
        · cases h1
  · obtain ⟨rfl, rfl, rfl, rfl, rfl, rfl⟩ := h
    exact ⟨⟨i64_small 14 (by decide), (fun v hv => by cases hv), i64_0, i64_0, i64_0, zeroE_ok, by simp⟩, hj, .inl rfl⟩
theorem StepP.inv {serial : Bool} {bugs stamps : Int} {c : Cmd21} {now : Int} {K : KeysL} {R : RdyL} {E D : EndL} {a : Ans} {now' : Int} {K' : KeysL} {R' : RdyL} {E' D' : EndL} (h : StepP serial bugs stamps c now K R E D a now' K' R' E' D') (hi : CmdI c) {n : Nat} (hI : ShI n K R) : ShI (n + 1) K' R' := by
  rcases h with ⟨c1, h⟩ | ⟨c1, h⟩ | ⟨c1, h⟩ | ⟨c1, h⟩ | ⟨c1, h⟩ | ⟨c1, h⟩
  · obtain ⟨_, rfl, rfl, _, _⟩ := h; exact hI.more
  · obtain ⟨_, _, rfl, rfl, _, _⟩ := h; exact hI.more
  · obtain ⟨_, _, _, _, hp, _, _, rfl, _, _⟩ := h
    exact hI.prep (r := killK c.r) (by rw [killK_len]; exact hi.lw) hi.lr (killK_small hi.r) hp
  · obtain ⟨_, _, rfl, rfl, _⟩ := h; exact hI.more
  · obtain ⟨_, _, hf, _⟩ := h; exact hI.fin hf
  · obtain ⟨_, _, rfl, rfl, _, _⟩ := h; exact hI.more
theorem ShT.step {N base p ps mk mr me md : Nat} {serial : Bool} {bugs stamps now : Int} {K : KeysL} {R : RdyL} {E D : EndL} (c : Cmd21) {v : Value} (w : World) (h : ShT N base p ps mk mr me md serial bugs stamps now K R E D w) (hi : CmdI c)
    (hv : Src w v 1 (btBytes (cmdL c)).length ((btBytes (cmdL c)).map u8)) {n : Nat} (hn : n ≤ 900) (hI : ShI n K R) (h0 : 0 ≤ now ∧ now ≤ 1000000) :
    Calls Try.prog 11 #[.pointer (some ⟨p, 0, none⟩), v] w (AppT N base p ps mk mr me md serial bugs stamps (StepP serial bugs stamps c now K R E D) w) := by
  by_cases k1 : c.k = 1
  · exact (h.stamp c w hi k1 hv h0).mono fun _ _ hq => hq.imp fun a n' K' R' E' D' hp => .inl ⟨k1, hp⟩
  by_cases k2 : c.k = 2
  · exact (h.get c w hi k2 hv hn hI).mono fun _ _ hq => hq.imp fun a n' K' R' E' D' hp => .inr (.inl ⟨k2, hp⟩)
  by_cases k3 : c.k = 3
  · exact (h.prep c w hi k3 hv hn hI).mono fun _ _ hq => hq.imp fun a n' K' R' E' D' hp => .inr (.inr (.inl ⟨k3, hp⟩))
  by_cases k4 : c.k = 4
  · exact (h.dec4 c w hi k4 hv).mono fun _ _ hq => hq.imp fun a n' K' R' E' D' hp => .inr (.inr (.inr (.inl ⟨k4, hp⟩)))
  by_cases k5 : c.k = 5
  · exact (h.finish c w hi k5 hv (by omega) hI).mono fun _ _ hq => hq.imp fun a n' K' R' E' D' hp => .inr (.inr (.inr (.inr (.inl ⟨k5, hp⟩))))
  · exact (h.bad c w hi (by omega) hv).mono fun _ _ hq => hq.imp fun a n' K' R' E' D' hp => .inr (.inr (.inr (.inr (.inr ⟨by omega, hp⟩))))
end Go.Proofs.Ytdkkpkgfiodlbaa

/- Layer 21's reference, plain, and the shard beside it: each command keeps them alike, each answer is the same. Names no function. -/
namespace Go.Proofs.Ytdkkpkgfiodlbaa
open Go.RowKit Go.Maps
/-- The reference's state. -/
structure ShM where
  s : RSt
  stamps : Int
  now : Int
  ds : List EndM
def homeM (ws : List Rdy) (by_ : Int) : Int := ((ws.find? (fun w => w.txn == by_)).map (·.home)).getD 0
/-- The first read that is in somebody's way. -/
def getErr (s : RSt) (txn t : Int) : List Int → Option (Int × Int)
  | [] => none
  | k :: ks => if (rnReadV s txn k t).2.2 = 0 then getErr s txn t ks else some ((rnReadV s txn k t).2.1, (rnReadV s txn k t).2.2)
def stamp21 (m : ShM) : ShM × Ans := if m.stamps ≤ m.now then (m, ⟨63, [], 0, 0, 0, zeroE'⟩) else (⟨m.s, m.stamps, m.now + 1, m.ds⟩, ⟨0, [], m.now + 1, 0, 0, zeroE'⟩)
def get21 (m : ShM) (r : Rdy) : ShM × Ans := match getErr m.s r.txn r.start r.reads with
  | some (by_, err) => (m, ⟨err, [], 0, by_, homeM m.s.ws by_, zeroE'⟩)
  | none => (m, ⟨0, r.reads.map (fun k => (rnReadV m.s r.txn k r.start).1), 0, 0, 0, zeroE'⟩)
def prep21 (m : ShM) (r : Rdy) : ShM × Ans :=
  (⟨(rnPrepV m.s r).1, m.stamps, m.now, m.ds⟩, ⟨(rnPrepV m.s r).2.2, [], 0, (rnPrepV m.s r).2.1, if (rnPrepV m.s r).2.2 = 60 then homeM m.s.ws (rnPrepV m.s r).2.1 else 0, zeroE'⟩)
def dec21 (m : ShM) (e : EndM) : ShM × Ans :=
  if offR m.s.bugs 32 = true ∧ (m.ds.find? (fun d => d.txn == e.txn)).isSome = true then (m, ⟨0, [], 0, 0, 0, (m.ds.find? (fun d => d.txn == e.txn)).getD zeroE'⟩)
  else (⟨m.s, m.stamps, m.now, m.ds.filter (fun d => d.txn != e.txn) ++ [e]⟩, ⟨0, [], 0, 0, 0, e⟩)
def fin21 (m : ShM) (e : EndM) : ShM × Ans := (⟨rnFinish m.s e, m.stamps, m.now, m.ds⟩, ⟨0, [], 0, 0, 0, zeroE'⟩)
def apply21M (m : ShM) (k : Int) (r : Rdy) (e : EndM) : ShM × Ans :=
  if k = 1 then stamp21 m else if k = 2 then get21 m r else if k = 3 then prep21 m r else if k = 4 then dec21 m e else fin21 m e

/-- The shard's state and the reference's, side by side. -/
structure Sim21 (K : KeysL) (R : RdyL) (E D : EndL) (now : Int) (m : ShM) : Prop where
  s : Sim K R E m.s
  d : ∀ t, getM D t = m.ds.find? (fun x => x.txn == t)
  now : now = m.now
  dis : R.Pairwise (fun p q => p.1 ≠ q.1)
theorem getErr_spec (s : RSt) (txn t : Int) : ∀ (ks : List Int), (getErr s txn t ks = none ∧ ∀ k ∈ ks, (rnReadV s txn k t).2.2 = 0) ∨
    ∃ (j : Nat) (k : Int), ks[j]? = some k ∧ (∀ (i : Nat) (x : Int), i < j → ks[i]? = some x → (rnReadV s txn x t).2.2 = 0) ∧ (rnReadV s txn k t).2.2 ≠ 0 ∧ getErr s txn t ks = some ((rnReadV s txn k t).2.1, (rnReadV s txn k t).2.2)
  | [] => .inl ⟨rfl, fun k hk => by cases hk⟩
  | k :: ks => by
    unfold getErr
    by_cases h0 : (rnReadV s txn k t).2.2 = 0
    · rw [if_pos h0]
      rcases getErr_spec s txn t ks with ⟨h1, h2⟩ | ⟨j, x, h1, h2, h3, h4⟩
      · refine .inl ⟨h1, fun x hx => ?_⟩
        rcases List.mem_cons.1 hx with rfl | hx
        · exact h0
        · exact h2 x hx
      · refine .inr ⟨j + 1, x, by simpa using h1, fun i y hi hy => ?_, h3, h4⟩
        cases i with
        | zero => simp at hy; subst hy; exact h0
        | succ i => exact h2 i y (by omega) (by simpa using hy)
    · rw [if_neg h0]
      exact .inr ⟨0, k, rfl, fun i y hi _ => by omega, h0, rfl⟩
theorem home_eq {by_ : Int} : ∀ {ws : List Rdy} (z : Int), ws.Pairwise (fun x y => x.txn < y.txn) → ws.foldl (fun h y => if y.txn = by_ then y.home else h) z = ((ws.find? (fun w => w.txn == by_)).map (·.home)).getD z
  | [], _, _ => rfl
  | w :: ws, z, h => by
    have h' := List.pairwise_cons.1 h
    rw [List.foldl_cons, List.find?_cons]
    by_cases hw : w.txn = by_
    · have hb : (w.txn == by_) = true := by simpa using hw
      rw [if_pos hw, hb]
      rw [home_eq _ h'.2]
      have : ws.find? (fun w => w.txn == by_) = none := by
        rw [List.find?_eq_none]
        intro y hy he
        have h1 := h'.1 y hy
        have h2 : y.txn = by_ := by simpa using he
        omega
      rw [this]; rfl
    · have hb : (w.txn == by_) = false := by simpa using hw
      rw [if_neg hw, hb]
      exact home_eq _ h'.2
theorem Sim21.lock {K : KeysL} {R : RdyL} {E D : EndL} {now : Int} {m : ShM} (h : Sim21 K R E D now m) {by_ err home : Int} (hl : LockP R by_ err home) : home = if err = 60 then homeM m.s.ws by_ else 0 := by
  by_cases he : err = 60
  · rw [if_pos he]
    obtain ⟨L, hw, rfl⟩ := hl.2 he
    rw [h.s.waits h.dis hw]
    unfold homeL homeM
    exact home_eq 0 h.s.ws
  · rw [if_neg he]; exact hl.1 he
theorem ReadM.err {K : KeysL} {R : RdyL} {bugs txn key t v by_ err : Int} (h : ReadM K R bugs txn key t v by_ err) : err = 0 ∨ err = 60 := by
  obtain ⟨id, ok, -, h | h⟩ := h
  · exact .inr h.2.2.2.2
  · exact .inl h.2.2.2
/-- A command, at both. -/
theorem Sim21.step {K : KeysL} {R : RdyL} {E D : EndL} {now : Int} {m : ShM} (h : Sim21 K R E D now m) (hb : 0 ≤ m.s.bugs ∧ m.s.bugs ≤ 63) {c : Cmd21} (hk : 1 ≤ c.k ∧ c.k ≤ 5) {a : Ans} {now' : Int} {K' : KeysL} {R' : RdyL} {E' D' : EndL} (hd' : R'.Pairwise (fun p q => p.1 ≠ q.1))
    (hs : StepP m.s.serial m.s.bugs m.stamps c now K R E D a now' K' R' E' D') : (apply21M m c.k (killK c.r) c.e).2 = a ∧ Sim21 K' R' E' D' now' (apply21M m c.k (killK c.r) c.e).1 := by
  obtain ⟨-, -, -, o32⟩ := off_bit hb
  unfold apply21M
  rcases hs with ⟨h1, h2⟩ | ⟨h1, h2⟩ | ⟨h1, h2⟩ | ⟨h1, h2⟩ | ⟨h1, h2⟩ | ⟨h1, h2⟩
  · rw [if_pos h1]
    obtain ⟨h3, rfl, rfl, rfl, rfl⟩ := h2
    unfold stamp21
    rcases h3 with ⟨h4, rfl, rfl⟩ | ⟨h4, rfl, rfl⟩
    · rw [if_neg (by rw [← h.now]; omega)]
      exact ⟨by rw [← h.now], h.s, h.d, by rw [← h.now], h.dis⟩
    · rw [if_pos (by rw [← h.now]; exact h4)]
      exact ⟨rfl, h⟩
  · rw [if_neg (by omega), if_pos h1]
    obtain ⟨h3, rfl, rfl, rfl, rfl, rfl⟩ := h2
    have gets : ∀ {ks vals : List Int}, GetsM K' R' m.s.bugs c.r.txn c.r.start ks vals → (∀ (i : Nat) (x : Int), ks[i]? = some x → (rnReadV m.s c.r.txn x c.r.start).2.2 = 0) ∧ vals = ks.map (fun k => (rnReadV m.s c.r.txn k c.r.start).1) := by
      intro ks vals hg
      have hat : ∀ (i : Nat) (x : Int), ks[i]? = some x → ∃ v, vals[i]? = some v ∧ (rnReadV m.s c.r.txn x c.r.start).2.2 = 0 ∧ (rnReadV m.s c.r.txn x c.r.start).1 = v := fun i x hx => by
        have hi : i < vals.length := by rw [hg.1]; exact (List.getElem?_eq_some_iff.1 hx).1
        obtain ⟨v, hv⟩ := some_at hi
        obtain ⟨by_, hr⟩ := hg.2 i x v hx hv
        have := h.s.read hb hr
        exact ⟨v, hv, by rw [this], by rw [this]⟩
      refine ⟨fun i x hx => (hat i x hx).choose_spec.2.1, ?_⟩
      apply List.ext_getElem?
      intro i
      rw [List.getElem?_map]
      cases hx : ks[i]? with
      | none =>
        rw [List.getElem?_eq_none_iff] at hx
        rw [Option.map_none, List.getElem?_eq_none_iff, hg.1]; exact hx
      | some x =>
        obtain ⟨v, hv, -, h4⟩ := hat i x hx
        rw [hv, Option.map_some, h4]
    have hkr : (killK c.r).reads = c.r.reads ∧ (killK c.r).txn = c.r.txn ∧ (killK c.r).start = c.r.start := ⟨rfl, rfl, rfl⟩
    unfold get21
    rw [hkr.1, hkr.2.1, hkr.2.2]
    rcases h3 with ⟨vals, rfl, hg⟩ | ⟨j, k, v, by_, err, home, vals, hg, hj, hr, he, rfl, hlk⟩
    · obtain ⟨g1, rfl⟩ := gets hg
      rcases getErr_spec m.s c.r.txn c.r.start c.r.reads with ⟨e1, -⟩ | ⟨i, x, e1, -, e3, -⟩
      · rw [e1]; exact ⟨rfl, h⟩
      · exact absurd (g1 i x e1) e3
    · obtain ⟨g1, -⟩ := gets hg
      have hrd := h.s.read hb hr
      rcases getErr_spec m.s c.r.txn c.r.start c.r.reads with ⟨-, e2⟩ | ⟨i, x, e1, e2, e3, e4⟩
      · have := e2 k (List.mem_of_getElem? hj)
        rw [hrd] at this
        exact absurd this he
      · have hij : i = j := by
          rcases Nat.lt_trichotomy i j with h5 | h5 | h5
          · have := g1 i x (by rw [List.getElem?_take_of_lt h5]; exact e1)
            exact absurd this e3
          · exact h5
          · have := e2 j k h5 hj
            rw [hrd] at this
            exact absurd this he
        subst hij
        rw [hj] at e1
        cases e1
        rw [e4, hrd]
        have h60 : err = 60 := by
          rcases ReadM.err hr with h6 | h6
          · exact absurd h6 he
          · exact h6
        have := h.lock hlk
        rw [if_pos h60] at this
        exact ⟨by rw [this], h⟩
  · rw [if_neg (by omega), if_neg (by omega), if_pos h1]
    obtain ⟨by_, err, home, rfl, hp, hlk, rfl, rfl, rfl, rfl⟩ := h2
    obtain ⟨q1, q2⟩ := h.s.prep hb hp
    have e1 : (rnPrepV m.s (killK c.r)).2.1 = by_ := by rw [q1]
    have e2 : (rnPrepV m.s (killK c.r)).2.2 = err := by rw [q1]
    unfold prep21
    rw [e1, e2]
    refine ⟨?_, q2, h.d, h.now, hd'⟩
    have hR : err = 60 → R' = R := fun he => by
      rcases hp with ⟨_, _, h6, rfl⟩ | ⟨_, _, _, h6, rfl⟩ | ⟨_, _, _, _, h6, rfl⟩ | ⟨_, _, _, _, id, ok, _, h7⟩
      · rfl
      · rfl
      · rfl
      · rcases h7 with ⟨_, _, _, _, rfl⟩ | ⟨_, _, h6, _⟩
        · rfl
        · omega
    have hh : home = if err = 60 then homeM m.s.ws by_ else 0 := by
      by_cases he : err = 60
      · have hlk' := hlk
        rw [hR he] at hlk'
        exact h.lock hlk'
      · rw [if_neg he]; exact hlk.1 he
    rw [hh]
  · rw [if_neg (by omega), if_neg (by omega), if_neg (by omega), if_pos h1]
    obtain ⟨h3, rfl, rfl, rfl, rfl⟩ := h2
    unfold dec21
    rw [o32] at h3
    rcases h3 with ⟨x, h4, h5, rfl, rfl⟩ | ⟨h4, rfl, rfl⟩
    · rw [h.d] at h4
      rw [if_pos ⟨h5, by rw [h4]; rfl⟩, h4]
      exact ⟨rfl, h⟩
    · rw [if_neg (by
        rintro ⟨h5, h6⟩
        rcases h4 with h4 | h4
        · rw [h.d] at h4; rw [h4] at h6; cases h6
        · rw [h4] at h5; cases h5)]
      refine ⟨rfl, h.s, fun t => ?_, h.now, h.dis⟩
      rw [getM_put, h.d, List.find?_append]
      by_cases he : c.e.txn = t
      · rw [if_pos he]
        subst he
        have : (m.ds.filter (fun d => d.txn != c.e.txn)).find? (fun x => x.txn == c.e.txn) = none := by
          rw [List.find?_eq_none]
          intro y hy hyt
          have := (List.mem_filter.1 hy).2
          simp at this hyt
          exact this hyt
        rw [this]; simp
      · rw [if_neg he]
        have h9 : (c.e.txn == t) = false := by simpa using he
        have : (m.ds.filter (fun d => d.txn != c.e.txn)).find? (fun x => x.txn == t) = m.ds.find? (fun x => x.txn == t) := by
          rw [List.find?_filter]
          congr 1
          funext x
          by_cases hx : x.txn = t
          · have : (x.txn != c.e.txn) = true := by rw [bne_iff_ne, hx]; exact fun e => he e.symm
            cases hq : (x.txn == t) <;> simp_all
          · simp [hx]
        rw [this]
        simp [h9]
  · rw [if_neg (by omega), if_neg (by omega), if_neg (by omega), if_neg (by omega)]
    obtain ⟨rfl, rfl, hf, rfl⟩ := h2
    exact ⟨rfl, h.s.fin hf, h.d, h.now, hd'⟩
  · exact absurd hk h1
theorem Sim21.start (serial : Bool) (bugs stamps : Int) : Sim21 [] [] [] [] 0 ⟨⟨serial, bugs, [], [], []⟩, stamps, 0, []⟩ := ⟨Sim.start serial bugs, fun _ => rfl, rfl, List.Pairwise.nil⟩
end Go.Proofs.Ytdkkpkgfiodlbaa
