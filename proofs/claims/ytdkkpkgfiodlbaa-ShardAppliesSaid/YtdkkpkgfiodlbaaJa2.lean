/- Texts of one proof, one behind the other: MvData, MemIn, MvIter, MvApp, MvLay, MvSort, MvLater, MvBlocks, RnData. -/
import Derived.Test.YtdkkpkgfiodlbaaJa1
import Derived.Maps.Keyed
import Derived.OwnWalkIn
import Derived.RangeFuncNested
import Derived.RangeFuncBound
import Derived.RangeFuncCalls
import Derived.RangeFuncLeaves
import Derived.RangeFuncBox
import Derived.Shelf.Abstract
import Derived.Shelf.RegionOpen
import Derived.TacticsInMore
import Derived.LoopNIn
import Derived.LoopIn
import Derived.Shelf.SlGeneric
import Derived.Shelf.SlLaysNS
import Derived.Test.YtdkkpkgfiodlbaaProg
import Derived.Shelf.SortG.Plain
import Derived.Shelf.SortG.SortNone
import Derived.Sort.OwnSorted
set_option linter.all false
/- A store of versions in memory: its block, its three maps, the rows that they hold. mvcc.New; what is kept of cells. -/
namespace Go.Proofs.Ytdkkpkgfiodlbaa
open Go.RowKit Go.Maps
open Go.ChangeShapes Go.WideShapes

def i64 (n : Int) : Prop := -9223372036854775808 ≤ n ∧ n ≤ 9223372036854775807
theorem alloc_at (w : World) (o : Obj) : (w.alloc o).heap[w.heap.size]? = some o := by show (w.heap.push o)[w.heap.size]? = some o; simp
theorem cell_of {w : World} {b : Nat} {cs : Array Value} {T : TypeId} {fz : Nat × Nat} (h : w.heap[b]? = some (.cells cs T fz)) (o : Nat) : w.cell? ⟨b, o, none⟩ = cs[o]? := by
  simp [World.cell?, h]
theorem free_of {w : World} {b : Nat} {cs : Array Value} {T : TypeId} (h : w.heap[b]? = some (.cells cs T)) (o : Nat) : w.frozen? ⟨b, o, none⟩ = false := by
  simp [World.frozen?, h]

theorem intKeyed : Keyed Try.prog 3 := int_keyed Try.underlying3
theorem vi_inj (x y : Int) (h : vi x = vi y) : x = y := by simpa using h
theorem wf_of {n : Int} (h : i64 n) : (Lit.int .i64 n).wf = true := by
  simp [Lit.wf, IntKind.min, IntKind.max, IntKind.signed, IntKind.bits]; exact h
theorem intKey {n : Int} (h : i64 n) : ∃ kl, keyOf Try.prog 3 (vi n) = some kl := ⟨_, keyOf_int_mk Try.underlying3 (wf_of h)⟩

/-- All cells stay as they were (maps may turn). -/
def Solid (w w' : World) : Prop := ∀ (j : Nat) (cs : Array Value) (T : TypeId) (fz : Nat × Nat), w.heap[j]? = some (.cells cs T fz) → w'.heap[j]? = some (.cells cs T fz)
theorem Solid.refl (w : World) : Solid w w := fun _ _ _ _ h => h
theorem Solid.trans {a b c : World} (h : Solid a b) (k : Solid b c) : Solid a c := fun j cs T fz h1 => k j cs T fz (h j cs T fz h1)
theorem Solid.later {w A B : World} (h : Solid w A) (hb : Below A.heap.size A B) : Solid w B := fun j cs T fz h1 => by
  have := h j cs T fz h1
  exact (hb.block j (Array.getElem?_eq_some_iff.1 this).1).trans this
theorem Solid.below {A B : World} (hb : Below A.heap.size A B) : Solid A B := (Solid.refl A).later hb
theorem Solid.map {w A B : World} {m c : Nat} {es : Array MapEntry} (h : Solid w A) (hm : A.heap[m]? = some (.map es c)) (hg : A.grownBy B (some m)) : Solid w B := fun j cs T fz h1 => by
  have h3 := h j cs T fz h1
  refine (hg.block j (Array.getElem?_eq_some_iff.1 h3).1 fun e => ?_).trans h3
  have : j = m := by simpa using e
  subst this
  rw [hm] at h3; cases h3
theorem Solid.cell {A B : World} (h : Solid A B) {b o : Nat} {v : Value} (hc : A.cell? ⟨b, o, none⟩ = some v) : B.cell? ⟨b, o, none⟩ = some v := by
  unfold World.cell? at hc ⊢
  cases hA : A.heap[b]? with
  | none => simp [hA] at hc
  | some ob =>
    cases ob with
    | cells cs T fz => rw [h b _ _ _ hA]; simpa [hA] using hc
    | _ => simp [hA] at hc
theorem RdS.solid {α : Type} {n : Nat} {E : World → List Value → α → Prop} {A B : World} {v : Value} {xs : List α} (h : RdS n E A v xs) (hs : Solid A B) (hE : ∀ cs x, E A cs x → E B cs x) : RdS n E B v xs := by
  obtain ⟨a, len, cap, h1, h2, h3, h4, h5, h6⟩ := h
  refine ⟨a, len, cap, h1, h2, h3, h4, h5, fun j x hj => ?_⟩
  obtain ⟨b, off, cs, ha, hl, hc, he⟩ := h6 j x hj
  exact ⟨b, off, cs, ha, hl, fun i u hu => hs.cell (hc i u hu), hE _ _ he⟩
theorem RdOps.solid {A B : World} {v : Value} {l : List GOp} (h : RdOps A v l) (hs : Solid A B) : RdOps B v l := RdS.solid h hs fun _ _ h => h

abbrev RdInts (w : World) (v : Value) (xs : List Int) : Prop := RdS 1 EInt w v xs
theorem RdInts.at {w : World} {v : Value} {xs : List Int} (h : RdInts w v xs) : ∃ a len cap, v = .slice a len cap ∧ len = xs.length ∧ xs.length ≤ 9223372036854775807 ∧ ∀ j x, xs[j]? = some x → ∃ b off, a = some ⟨b, off, none⟩ ∧ w.cell? ⟨b, off + j, none⟩ = some (.int .i64 x) ∧ i64 x := by
  obtain ⟨a, len, cap, h1, h2, h3, h4, h5, h6⟩ := h
  refine ⟨a, len, cap, h1, h2, h3, fun j x hj => ?_⟩
  obtain ⟨b, off, cs, ha, hl, hc, rfl, hx⟩ := h6 j x hj
  exact ⟨b, off, ha, by have := hc 0 _ rfl; simpa using this, hx⟩
theorem RdInts.later {w w' : World} {v : Value} {xs : List Int} (h : RdInts w v xs) (hb : Below w.heap.size w w') : RdInts w' v xs := RdS.below h hb fun _ _ h => h
theorem RdInts.solid {A B : World} {v : Value} {l : List Int} (h : RdInts A v l) (hs : Solid A B) : RdInts B v l := RdS.solid h hs fun _ _ h => h

/-- A version: from which time on, the value. -/
abbrev Ver := Int × Int
def verV (x : Ver) : List Value := [vi x.1, vi x.2]
def EVer (_ : World) (cs : List Value) (x : Ver) : Prop := cs = verV x ∧ i64 x.1
abbrev RdVer (w : World) (v : Value) (l : List Ver) : Prop := RdS 2 EVer w v l
theorem RdVer.later {w w' : World} {v : Value} {xs : List Ver} (h : RdVer w v xs) (hb : Below w.heap.size w w') : RdVer w' v xs := RdS.below h hb fun _ _ h => h
theorem RdVer.solid {A B : World} {v : Value} {l : List Ver} (h : RdVer A v l) (hs : Solid A B) : RdVer B v l := RdS.solid h hs fun _ _ h => h
theorem RdVer.at {w : World} {v : Value} {xs : List Ver} (h : RdVer w v xs) : ∃ a len cap, v = .slice a len cap ∧ len = xs.length ∧ xs.length ≤ 9223372036854775807 ∧ ∀ j x, xs[j]? = some x → ∃ b off, a = some ⟨b, off, none⟩ ∧ w.cell? ⟨b, off + j * 2, none⟩ = some (vi x.1) ∧ w.cell? ⟨b, off + j * 2 + 1, none⟩ = some (vi x.2) ∧ i64 x.1 := by
  obtain ⟨a, len, cap, h1, h2, h3, h4, h5, h6⟩ := h
  refine ⟨a, len, cap, h1, h2, h3, fun j x hj => ?_⟩
  obtain ⟨b, off, cs, ha, hl, hc, rfl, hx⟩ := h6 j x hj
  exact ⟨b, off, ha, by simpa using hc 0 _ rfl, by simpa [Nat.add_assoc] using hc 1 _ rfl, hx⟩

/-- A transaction that waits. -/
structure Rdy where
  txn : Int
  home : Int
  start : Int
  writes : List GOp
  reads : List Int
/-- .. and the slice values that its lists lie in. -/
structure RV where
  wv : Value
  rv : Value
  r : Rdy
def rdyC (x : RV) : Array Value := #[vi x.r.txn, vi x.r.home, vi x.r.start, x.wv, x.rv]
def rdyV (x : RV) : Value := .agg (rdyC x)
structure RdyS (W : World) (x : RV) : Prop where
  ws : RdOps W x.wv x.r.writes
  rs : RdInts W x.rv x.r.reads
theorem RdyS.solid {A B : World} {x : RV} (h : RdyS A x) (hs : Solid A B) : RdyS B x := ⟨h.ws.solid hs, h.rs.solid hs⟩
theorem RdyS.later {A B : World} {x : RV} (h : RdyS A x) (hb : Below A.heap.size A B) : RdyS B x := h.solid (Solid.below hb)
/-- What became of a transaction. -/
structure EndM where
  txn : Int
  commit : Bool
  at_ : Int
deriving DecidableEq
def endV (e : EndM) : Value := .agg #[vi e.txn, .bool e.commit, vi e.at_]

abbrev KV := Value × List Ver
abbrev KeysL := List (Int × KV)
abbrev RdyL := List (Int × RV)
abbrev EndL := List (Int × EndM)
abbrev MapK (w : World) (b : Nat) (L : KeysL) : Prop := MapT Try.prog 3 vi (fun x : KV => x.1) w b L
abbrev MapR (w : World) (b : Nat) (L : RdyL) : Prop := MapT Try.prog 3 vi rdyV w b L
abbrev MapE (w : World) (b : Nat) (L : EndL) : Prop := MapT Try.prog 3 vi endV w b L

structure MvS (base p mk mr me : Nat) (serial : Bool) (bugs : Int) (K : KeysL) (R : RdyL) (E : EndL) (W : World) : Prop where
  blk : W.heap[p]? = some (.cells #[.bool serial, vi bugs, .map (some mk), .map (some mr), .map (some me)] 112)
  keys : MapK W mk K
  ready : MapR W mr R
  ends : MapE W me E
  krow : ∀ x ∈ K, RdVer W x.2.1 x.2.2
  rrow : ∀ x ∈ R, RdyS W x.2
  bp : base ≤ p
  bk : base ≤ mk
  br : base ≤ mr
  be : base ≤ me
  kr : mk ≠ mr
  ke : mk ≠ me
  re : mr ≠ me
theorem MvS.later {base p mk mr me : Nat} {serial : Bool} {bugs : Int} {K : KeysL} {R : RdyL} {E : EndL} {A B : World} (h : MvS base p mk mr me serial bugs K R E A) (hb : Below A.heap.size A B) : MvS base p mk mr me serial bugs K R E B :=
  ⟨(hb.block p (Array.getElem?_eq_some_iff.1 h.blk).1).trans h.blk, h.keys.below hb h.keys.lt, h.ready.below hb h.ready.lt, h.ends.below hb h.ends.lt, fun x hx => (h.krow x hx).later hb, fun x hx => (h.rrow x hx).later hb, h.bp, h.bk, h.br, h.be, h.kr, h.ke, h.re⟩

theorem MapT.obj {κ ν : Type} {P : Program} {k : TypeId} {eK : κ → Value} {eV : ν → Value} {w : World} {b : Nat} {L : List (κ × ν)} (h : MapT P k eK eV w b L) : ∃ es c, w.heap[b]? = some (.map es c) := by
  obtain ⟨es, c, hb, _⟩ := h; exact ⟨es, c, hb⟩

theorem Try.infoI : (Try.prog.info? 3).map (fun i => (i.zero, i.size, i.bytes)) = some (some (vi 0), 1, 8) := by kernel_rfl
theorem eltI : Elt Try.prog 27 3 1 8 (vi 0) := by
  obtain ⟨i0, hi, hz0, hz1, hz2⟩ := info_parts Try.infoI
  exact ⟨Try.underlying27, by decide, rfl, i0, hi, hz0, hz1, hz2⟩
theorem Try.infoVer : (Try.prog.info? 135).map (fun i => (i.zero, i.size, i.bytes)) = some (some (.agg #[vi 0, vi 0]), 2, 16) := by kernel_rfl
theorem eltVer : Elt Try.prog 133 135 2 16 (.agg #[vi 0, vi 0]) := by
  obtain ⟨i0, hi, hz0, hz1, hz2⟩ := info_parts Try.infoVer
  exact ⟨Try.underlying133, by decide, rfl, i0, hi, hz0, hz1, hz2⟩
def viC (p : Int) : List Value := [vi p]
/-- A row of ints that the call owns. -/
def OwI (base : Nat) (w : World) (v : Value) (xs : List Int) : Prop := w.ownsRow base 3 1 v xs.length (xs.flatMap viC)

def NewQ (w : World) (serial : Bool) (bugs : Int) (e : Ending) (w' : World) : Prop := ∃ p mk mr me, e = .returned (.pointer (some ⟨p, 0, none⟩)) ∧ MvS w.heap.size p mk mr me serial bugs [] [] [] w' ∧ Below w.heap.size w w'

set_option maxRecDepth 100000 in
set_option maxHeartbeats 1000000 in
theorem new_call (serial : Bool) (bugs : Int) (w : World) : Calls Try.prog 28 #[.bool serial, vi bugs] w (NewQ w serial bugs) := by
  have hmm := @run_makeMap Try.prog
  go_enter Try.func28, Try.ntmps28
  go_wp2_with fail
  go_ret
  have h1 : MapK (w.alloc (.map #[] 0)) w.heap.size [] := MapT.made w
  have h2 : MapR ((w.alloc (.map #[] 0)).alloc (.map #[] 0)) (w.alloc (.map #[] 0)).heap.size [] := MapT.made _
  have h3 : MapE (((w.alloc (.map #[] 0)).alloc (.map #[] 0)).alloc (.map #[] 0)) ((w.alloc (.map #[] 0)).alloc (.map #[] 0)).heap.size [] := MapT.made _
  refine ⟨w.heap.size + 3, w.heap.size, w.heap.size + 1, w.heap.size + 2, rfl, ⟨?_, ?_, ?_, ?_, (fun x hx => by cases hx), (fun x hx => by cases hx), by omega, Nat.le_refl _, by omega, by omega, by omega, by omega, by omega⟩, ?_⟩
  · have := alloc_at (((w.alloc (.map #[] 0)).alloc (.map #[] 0)).alloc (.map #[] 0)) (.cells #[.bool serial, vi bugs, .map (some w.heap.size), .map (some (w.heap.size + 1)), .map (some (w.heap.size + 2))] 112)
    simpa using this
  · exact h1.below ((((Below.refl (w.alloc (.map #[] 0)).heap.size (w.alloc (.map #[] 0))).alloc (Nat.le_refl _) _).alloc (by simp) _).alloc (by simp <;> omega) _) h1.lt
  · have := h2.below (((Below.refl ((w.alloc (.map #[] 0)).alloc (.map #[] 0)).heap.size ((w.alloc (.map #[] 0)).alloc (.map #[] 0))).alloc (Nat.le_refl _) (.map #[] 0)).alloc (by simp) (.cells #[.bool serial, vi bugs, .map (some w.heap.size), .map (some (w.heap.size + 1)), .map (some (w.heap.size + 2))] 112)) h2.lt
    simpa using this
  · have := h3.below ((Below.refl (((w.alloc (.map #[] 0)).alloc (.map #[] 0)).alloc (.map #[] 0)).heap.size (((w.alloc (.map #[] 0)).alloc (.map #[] 0)).alloc (.map #[] 0))).alloc (Nat.le_refl _) (.cells #[.bool serial, vi bugs, .map (some w.heap.size), .map (some (w.heap.size + 1)), .map (some (w.heap.size + 2))] 112)) h3.lt
    simpa using this
  · exact ((((Below.refl _ _).alloc (Nat.le_refl _) _).alloc (by simp) _).alloc (by simp <;> omega) _).alloc (by simp <;> omega) _
end Go.Proofs.Ytdkkpkgfiodlbaa

/- The append law of XMem inside a fence. Names no program. -/
namespace Go.Proofs.Ytdkkpkgfiodlbaa
open Go.RowKit

theorem wpListIn_append_src {F : Fence} {nf : Nat} {P : Program} {w : World} {ops : Array Oper} {rest : List Oper} {o : Oper} {a : Act} {Q : Exit → Act → World → Prop} (hgd : o.guard = none) (s x : Operand) (t : TypeId)
    (ho : o.op = .call { callee := .builtin .append, args := #[s, x], argTypes := #[t, t] })
    {e : TypeId} {size bytes : Nat} {z : Value} (he : Elt P t e size bytes z) (base : Nat)
    {v vx : Value} (n : Nat) (xs : List Value) (hown : w.ownsRow base e size v n xs) (hs : a.eval s = v)
    (m : Nat) (news : List Value) (hsrc : Src w vx size m news) (hx : a.eval x = vx) (h1 : ∀ u ∈ news, u.oneCell' = true)
    (hsz : n + m ≤ 68719476736) (hbytes : bytes ≤ 2048) (hbase : base ≤ w.heap.size)
    (h : ∀ v' w', w'.ownsRow base e size v' (n + m) (xs ++ news) → w.grownBy w' v.ownBlock → (v' = .slice none 0 0 → v = .slice none 0 0) → wpListIn F nf P ops Q rest (a.put o.dst v') w') : wpListIn F nf P ops Q (o :: rest) a w := by
  obtain ⟨ht, h0, hzs, i, hi, hz, his, hib⟩ := he
  obtain ⟨ad, c, rfl, hl, hnone, hsome⟩ := hsrc
  cases ad with
  | none =>
    obtain ⟨rfl, rfl⟩ := hnone rfl
    have hn : news = [] := List.length_eq_zero_iff.1 (by simpa using hl)
    subst hn
    refine wpListIn_plain hgd fun K hK' => ?_
    have hrun := run_append_owned_none (P := P) (w := w) base t o.type e i size ht hi v n xs hown
    unfold Oper.wpIn
    refine ⟨?_, ?_⟩
    · simp [Oper.about, ho, resolve, Target.leads, Sem.run_pure]
    · rw [Oper.semAt_plain F _ _ (by rw [ho]; intro c hc'; cases hc')]
      simp [execOp, ho, resolve, invoke, builtin, hs, hx, hrun, Result.andThen]
      exact hK' _ _ (h v w (by simpa using hown) ⟨rfl, rfl, rfl, Nat.le_refl _, fun _ _ _ => rfl⟩ id)
  | some ad =>
    refine wpListIn_append_own w hgd s x t ho base e i z size bytes ht hi hz his hib hzs h0 v n xs hs hown ad m c news hx hl (hsome ad rfl) h1 (by simp only [maxLen]; omega) ?_ hbase (fun v' w' a b c => h v' w' a b (fun e => (c.1 e).1))
    exact Nat.le_trans (Nat.mul_le_mul hsz hbytes) (by decide)
end Go.Proofs.Ytdkkpkgfiodlbaa

/- maps.Keys of the map of those who wait, collected. -/
namespace Go.Proofs.Ytdkkpkgfiodlbaa
open Go.RowKit Go.Shelf Go.Maps
attribute [local go_sem] Oper.semAt_some

abbrev encK (x : Int) : Array Value := #[vi x]
def markL (Ds : List Nat) : List Deferred := Ds.map fun D => { target := .collected D, args := #[] }

theorem leaves_marks {P : Program} {F : Fence} {n : Nat} {fn : Func} {tmps : Array Value} {R : Ending → World → Prop} : ∀ (Ds : List Nat) (w : World), (∀ D ∈ Ds, w.heap[D]? = some (.deferred (some []))) → Ds.Nodup →
    (∀ w' : World, w'.os = w.os → w'.tape = w.tape → w'.output = w.output → w'.heap.size = w.heap.size → (∀ k, k ∉ Ds → w'.heap[k]? = w.heap[k]?) → LeavesIn F n P fn tmps R [] .returning w') → LeavesInM F n P fn tmps R (markL Ds) .returning w
  | [], w, _, _, h => h w rfl rfl rfl rfl (fun _ _ => rfl)
  | D :: Ds, w, hD, hn, h => by
    refine ⟨by simp, .inl ⟨D, w.putObj D (.deferred none), rfl, run_takeDeferred (hD D (by simp)), ?_⟩⟩
    have hnd := List.nodup_cons.1 hn
    have hput : ∀ k, k ≠ D → (w.putObj D (.deferred none)).heap[k]? = w.heap[k]? := fun k hk => by
      unfold World.putObj; simp only [Array.getElem?_setIfInBounds]; rw [if_neg (fun e => hk e.symm)]
    refine leaves_marks Ds _ (fun D' h' => by rw [hput D' (fun e => hnd.1 (e ▸ h'))]; exact hD D' (by simp [h'])) hnd.2 (fun w' h1 h2 h3 h4 h5 => h w' (h1.trans rfl) (h2.trans rfl) (h3.trans rfl) (by rw [h4]; simp [World.putObj]) (fun k hk => by
      rw [h5 k (fun e => hk (by simp [e])), hput k (fun e => hk (by simp [e]))]))

theorem keep_cells {A B : World} {row : Option Nat} {b : Nat} {cs : Array Value} {T : TypeId} (h : A.heap[b]? = some (.cells cs T)) (hg : A.grownBy B row) (hr : ∀ r, row = some r → ∃ o : Obj, A.heap[r]? = some o ∧ o.isCells = false) : B.heap[b]? = some (.cells cs T) := by
  rw [hg.block b (Array.getElem?_eq_some_iff.1 h).1 (fun e => by
    obtain ⟨o, ho, hc⟩ := hr b e.symm
    rw [h] at ho; cases ho; cases hc)]
  exact h

theorem nodup_le {α : Type} [DecidableEq α] : ∀ (V L : List α), V.Nodup → (∀ x ∈ V, x ∈ L) → V.length ≤ L.length
  | [], _, _, _ => Nat.zero_le _
  | x :: V, L, h, hs => by
    have hx := hs x (by simp)
    have h2 := List.nodup_cons.1 h
    have := nodup_le V (L.erase x) h2.2 (fun y hy => (List.mem_erase_of_ne (fun e : y = x => h2.1 (by rw [← e]; exact hy))).2 (hs y (by simp [hy])))
    rw [List.length_erase_of_mem hx] at this
    have := List.length_pos_of_mem hx
    simp only [List.length_cons]; omega

theorem RangeT.obj {κ ν : Type} {P : Program} {k : TypeId} {eK : κ → Value} {eV : ν → Value} {w : World} {b r : Nat} {L V : List (κ × ν)} (h : RangeT P k eK eV w b r L V) : (∃ o, w.heap[r]? = some o ∧ o.isWalk = true) ∧ (∃ o, w.heap[b]? = some o ∧ o.isWalk = true) := by
  obtain ⟨es, clock, since, seen, c0, hb, _, _, _, hr, _⟩ := h
  exact ⟨⟨_, hr, rfl⟩, ⟨_, hb, rfl⟩⟩
theorem RangeT.walks {κ ν : Type} {P : Program} {k : TypeId} {eK : κ → Value} {eV : ν → Value} {w w' : World} {b r : Nat} {L V : List (κ × ν)} (h : RangeT P k eK eV w b r L V) (hk : KeepsWalks w w') : RangeT P k eK eV w' b r L V ∧ w'.rangeLeft b r = w.rangeLeft b r := by
  obtain ⟨⟨o, ho, hw⟩, ⟨o2, ho2, hw2⟩⟩ := h.obj
  have e1 : w'.heap[b]? = w.heap[b]? := (hk.same _ _ ho2 hw2).trans ho2.symm
  have e2 : w'.heap[r]? = w.heap[r]? := (hk.same _ _ ho hw).trans ho.symm
  exact ⟨h.frame e1 e2, rangeLeft_frame e1 e2⟩
theorem RangeT.sub {κ ν : Type} {P : Program} {k : TypeId} {eK : κ → Value} {eV : ν → Value} {w : World} {b r : Nat} {L V : List (κ × ν)} (h : RangeT P k eK eV w b r L V) : (∀ p ∈ V, p ∈ L) ∧ V.Pairwise (fun p q => p.1 ≠ q.1) := by
  obtain ⟨es, clock, since, seen, c0, _, _, _, _, _, _, _, _, _, h1, h2⟩ := h
  exact ⟨h1, h2⟩
theorem keys_nodup {ν : Type} {L : List (Int × ν)} (h : L.Pairwise (fun p q => p.1 ≠ q.1)) : (L.map (·.1)).Nodup := by
  rw [List.nodup_iff_pairwise_ne]
  exact List.pairwise_map.2 h

set_option maxRecDepth 100000 in
set_option maxHeartbeats 2000000 in
theorem keysN_in (F : Fence) (n : Nat) (hF : F.fn 78) (hro : F.round = none) (hn : 1 ≤ n) (lp Bs mw : Nat) (L : RdyL) (J Jx : List Int → World → Prop)
    (hY : ∀ pre x W, J pre W → pre.length < L.length → YieldAt F (n - 1) Try.prog lp (encK x) W fun e W' =>
      (e = .returned (.bool true) ∧ J (pre ++ [x]) W' ∧ KeepsWalks W W') ∨ (e = .returned (.bool false) ∧ Jx (pre ++ [x]) W'))
    (W : World) (hJ : AbidesFrom W.heap.size J) (hBs : W.cell? ⟨Bs, 0, none⟩ = some (.map (some mw))) (hm : MapR W mw L) (h0 : J [] W) :
    CallsIn F n Try.prog 78 #[.func (.yield lp) #[] #[], .pointer (some ⟨Bs, 0, none⟩)] W fun e W' => (∃ v, e = .returned v) ∧
      ((∃ ys, ys.Perm (L.map (·.1)) ∧ J ys W') ∨ (∃ pre : List Int, True ∧ Jx pre W')) := by
  obtain ⟨W1, hrun, hR, hg, hsz⟩ := hm.range (t := 109) (e := 29) Try.underlying109
  have hJ1 : J [] W1 := hJ [] W W1 none h0 hg (fun r hr => by cases hr)
  have HJ1 := Lib.hid hJ1
  have HJ := Lib.hid hJ
  have HY := Lib.hid hY
  have HR := Lib.hid hR
  have HND := Lib.hid (keys_nodup hm.pairwise)
  clear hJ hJ1 hR hg hsz hm h0 hY
  refine callsIn_of_wp Try.func78 rfl hF ?_ hro
  simp only [Try.ntmps78, List.size_toArray, List.length_cons, List.length_nil, Nat.reduceAdd, Nat.reduceSub, Array.replicate_succ, Array.replicate_zero, List.push_toArray, List.append_toArray, List.nil_append, List.cons_append]
  gi_wp2
  gi_loopw [3] (fun _ wr => ∃ V, RangeT Try.prog 3 vi rdyV wr mw W.heap.size L V ∧ J (V.map (·.1)) wr) (fun _ wr => wr.rangeLeft mw W.heap.size)
  case atStart => exact ⟨[], HR.out, HJ1.out⟩
  case round =>
    obtain ⟨V, hR, hJs⟩ := hrel
    have HV := Lib.hid hR.sub
    have HO := Lib.hid hR.obj
    rcases hR.next vi_inj 0 with ⟨hall, hnx⟩ | ⟨p, w2, hp, hfr, hnx, hR2, hlt, hg2, hs2, hen⟩
    · have HP := Lib.hid (show (V.map (·.1)).Perm (L.map (·.1)) from (List.perm_ext_iff_of_nodup (keys_nodup HV.out.2) HND.out).2 fun a => by
        rw [List.mem_map, List.mem_map]
        exact ⟨fun ⟨x, h1, h2⟩ => ⟨x, HV.out.1 x h1, h2⟩, fun ⟨x, h1, h2⟩ => ⟨x, hall x h1, h2⟩⟩)
      have HJS := Lib.hid hJs
      clear hall hR hJs
      gi_wp2
      go_end0
      exact ⟨⟨_, rfl⟩, .inl ⟨_, HP.out, HJS.out⟩⟩
    · have hJ2 : J (V.map (·.1)) w2 := HJ.out _ wr w2 (some W.heap.size) hJs hg2 (fun r e => by cases e; exact ⟨Nat.le_refl _, HO.out.1⟩)
      have hlen : (V.map (·.1)).length < L.length := by
        have h1 := hR2.sub
        have := nodup_le ((V ++ [p]).map (·.1)) (L.map (·.1)) (keys_nodup h1.2) (fun x hx => by
          rw [List.mem_map] at hx ⊢
          obtain ⟨y, h2, h3⟩ := hx
          exact ⟨y, h1.1 y h2, h3⟩)
        simp at this ⊢; omega
      have HR2 := Lib.hid hR2
      have HLT := Lib.hid hlt
      obtain ⟨fn, tmps, assign, body, hy, hRd⟩ := HY.out _ p.1 _ hJ2 hlen
      clear hR hJs hR2 hlt hg2 hs2 hfr hlen hJ2
      gi_wp2
      refine hRd.mono ?_
      rintro e W3 (⟨rfl, hJ4, hk4⟩ | ⟨rfl, hJx4⟩)
      · obtain ⟨h3, h4⟩ := HR2.out.walks hk4
        have H3 := Lib.hid h3
        have H4 := Lib.hid h4
        have HJ4 := Lib.hid hJ4
        clear h3 h4 hJ4 hk4
        gi_wp2
        go_roundw
        case rel => exact ⟨V ++ [p], H3.out, by simpa using HJ4.out⟩
        case measure => rw [H4.out]; exact HLT.out
      · have HX := Lib.hid hJx4
        clear hJx4
        gi_wp2
        refine bodyPost_ret (results_none rfl _ _ _) rfl ?_
        exact ⟨⟨_, rfl⟩, .inr ⟨_, trivial, HX.out⟩⟩

theorem keysN_seq (F : Fence) (n : Nat) (hF : F.fn 78) (hro : F.round = none) (hn : 1 ≤ n) {Bs mw : Nat} {L : RdyL} {w : World} (hb : w.cell? ⟨Bs, 0, none⟩ = some (.map (some mw))) (hm : MapR w mw L) :
    SeqStopsK F n Try.prog 78 #[.pointer (some ⟨Bs, 0, none⟩)] encK KeepsWalks (fun ys => ys.Perm (L.map (·.1))) (fun _ => True) L.length w := fun lp J Jx W hW hJ _ hY h0 =>
  keysN_in F n hF hro hn lp Bs mw L J Jx hY W hJ (cell_later hW hb) (hm.below hW hm.lt) h0
end Go.Proofs.Ytdkkpkgfiodlbaa

/- slices.AppendSeq and slices.Collect over the keys of the map of those who wait. -/
namespace Go.Proofs.Ytdkkpkgfiodlbaa
open Go.RowKit Go.Shelf Go.Maps
attribute [local go_sem] Oper.semAt_some

/-- What AppendSeq keeps of memory: its boxed answer so far. -/
structure StL (w : World) (acc : List Int) (W : World) : Prop where
  out : ∃ vo, W.heap[w.heap.size]? = some (.cells #[vo] 27) ∧ OwI (w.heap.size + 1) W vo acc
  size : w.heap.size + 1 ≤ W.heap.size
  below : Below w.heap.size w W

theorem stL_own {w : World} {acc : List Int} {base : Nat} (hb : w.heap.size ≤ base) {A B : World} {row : Option Nat} (h : StL w acc A) (hg : A.grownBy B row)
    (hr : ∀ r, row = some r → base ≤ r ∧ ∃ o : Obj, A.heap[r]? = some o ∧ o.isCells = false) : StL w acc B := by
  have hr' : ∀ r, row = some r → ∃ o : Obj, A.heap[r]? = some o ∧ o.isCells = false := fun r e => (hr r e).2
  obtain ⟨vo, ho, hrow⟩ := h.out
  refine ⟨⟨vo, keep_cells ho hg hr', ?_⟩, Nat.le_trans h.size hg.size, h.below.grown hg h.below.size (fun j hj => Nat.le_trans hb (hr j hj).1)⟩
  refine ⟨hrow.1, ?_⟩
  rcases hrow.2 with h2 | ⟨g, cp, cur, hv, hg2, hh, r⟩
  · exact .inl h2
  · exact .inr ⟨g, cp, cur, hv, hg2, keep_cells hh hg hr', r⟩

theorem StL.alloc {w W : World} {acc : List Int} (h : StL w acc W) (o : Obj) : StL w acc (W.alloc o) := by
  have hs := h.size
  obtain ⟨vo, ho, hrow⟩ := h.out
  exact ⟨⟨vo, by rw [Below.heap_alloc _ _ _ (by omega)]; exact ho, World.ownsRow.alloc hrow _⟩, by simp; omega, h.below.alloc (by omega) _⟩

theorem stL_put {w W w1 : World} {vo v' : Value} {acc : List Int} {x : Int} {o : Obj} (h : StL w acc W) (hrow0 : OwI (w.heap.size + 1) W vo acc) (ho : W.heap[w.heap.size]? = some (.cells #[vo] 27))
    (hg : (W.alloc o).grownBy w1 vo.ownBlock) (hrow : w1.ownsRow (w.heap.size + 1) 3 1 v' (acc.length + 1) (acc.flatMap viC ++ viC x)) : StL w (acc ++ [x]) (w1.setCell ⟨w.heap.size, 0, none⟩ v') := by
  have hs := h.size
  have hlt : ∀ j, vo.ownBlock = some j → w.heap.size + 1 ≤ j ∧ j < W.heap.size := fun j hj => World.ownsRow.lt hrow0 j hj
  refine ⟨⟨v', ?_, ?_⟩, ?_, ?_⟩
  · have : w1.heap[w.heap.size]? = some (.cells #[vo] 27) := by
      rw [hg.block _ (by simp; omega) (fun e => by have := hlt _ e.symm; omega), Below.heap_alloc _ _ _ (by omega)]; exact ho
    simp [World.setCell, Array.getElem?_modify, this]
  · unfold OwI
    rw [List.length_append, List.flatMap_append]
    have := ownsRow_setCell_below hrow (a := ⟨w.heap.size, 0, none⟩) (by show w.heap.size < _; omega) v'
    simpa using this
  · have := hg.size; simp [World.setCell] at this ⊢; omega
  · exact ((h.below.alloc (by omega) o).grown hg (by simp; omega) (fun j hj => by have := hlt j hj; omega)).setCell (Nat.le_refl _) _

theorem keeps_put {W w1 : World} {vo v' : Value} {base : Nat} {acc : List Int} {o : Obj} {a : Addr} (hrow0 : OwI base W vo acc) (ho : ∃ cs T, W.heap[a.block]? = some (.cells cs T))
    (hg : (W.alloc o).grownBy w1 vo.ownBlock) : KeepsOthers W (w1.setCell a v') := by
  obtain ⟨cs, T, ho⟩ := ho
  refine ⟨?_, fun j o' hj hc => ?_⟩
  · have := hg.size; simp [World.setCell] at this ⊢; omega
  · have hne : j ≠ a.block := fun e => by subst e; rw [ho] at hj; cases hj; cases hc
    rw [Below.heap_setCell _ _ _ _ hne, hg.block j (by simp; have := (Array.getElem?_eq_some_iff.1 hj).1; omega) ?_, Below.heap_alloc _ _ _ (Array.getElem?_eq_some_iff.1 hj).1]
    · exact hj
    · intro e
      rcases hrow0.2 with ⟨e2, _⟩ | ⟨g, cp, cur, e2, _, hh, _⟩
      · rw [e2] at e; cases e
      · rw [e2] at e; cases e
        rw [hh] at hj; cases hj; cases hc
theorem keepsW {W W' : World} (h : KeepsOthers W W') : KeepsWalks W W' := ⟨h.size, fun k o hk ho => h.same k o hk (Obj.not_cells_of_walk ho)⟩

set_option maxRecDepth 100000 in
set_option maxHeartbeats 4000000 in
theorem appendSeq_call {Bs mw : Nat} {L : RdyL} (w : World) (hb : w.cell? ⟨Bs, 0, none⟩ = some (.map (some mw))) (hm : MapR w mw L) (hL : L.length ≤ 1048576) :
    Calls Try.prog 92 #[.slice none 0 0, .func (.func 78) #[] #[.pointer (some ⟨Bs, 0, none⟩)]] w fun e w' => ∃ v ks, e = .returned v ∧ OwI w.heap.size w' v ks ∧ ks.Perm (L.map (·.1)) ∧ Below w.heap.size w w' := by
  have HB := Lib.hid ((Below.refl w.heap.size w).alloc (Nat.le_refl _) (.cells #[.slice none 0 0] 27))
  have HX := Lib.hid (alloc_at w (.cells #[.slice none 0 0] 27))
  have HQ := Lib.hid (keysN_seq Fence.wide 7 trivial rfl (by omega) (cell_later HB.out hb) (hm.below HB.out hm.lt))
  have hs0 : (w.alloc (.cells #[.slice none 0 0] 27)).heap.size = w.heap.size + 1 := by simp
  clear hb hm
  refine (callsIn_wide (n := 8)).1 ?_
  refine callsIn_of_wp_marks Try.func92 rfl trivial ?_ rfl
  simp only [Try.ntmps92, List.size_toArray, List.length_cons, List.length_nil, Nat.reduceAdd, Nat.reduceSub, Array.replicate_succ, Array.replicate_zero, List.push_toArray, List.append_toArray, List.nil_append, List.cons_append]
  gi_wp2_with fail
  generalize w.alloc (.cells #[.slice none 0 0] 27) = w0 at *
  refine wpIn_rangeFunc_ownH rfl (by omega) (gf := 78) (lb := #[.pointer (some ⟨Bs, 0, none⟩)]) rfl trivial (enters_of Try.func78 (by kernel_rfl) rfl)
    HQ.out KeepsWalks.trans walksK_b (Below.refl _ _) (fun _ => rfl)
    (fun pre W => StL w pre W)
    (fun _ _ _ => False)
    (fun pre A B row hs hg hr => stL_own (base := w0.heap.size) (by omega) hs hg hr)
    (fun _ pre A B row hs _ _ => hs) ⟨⟨_, HX.out, World.ownsRow_nil _ _ _ _⟩, by omega, HB.out⟩
    (fun x a' W => a' = { tmps := #[.slice none 0 0, .func (.func 78) #[] #[.pointer (some ⟨Bs, 0, none⟩)], .pointer (some ⟨w.heap.size, 0, none⟩), undef, .slice none 0 0, vi x, .func (.func 78) #[] #[.pointer (some ⟨Bs, 0, none⟩)], vi x, undef, undef, undef, undef, undef], defers := [] })
    (fun x a' u A B row hs hg hr => hs)
    ?assign ?body ?done (fun _ _ _ _ _ _ h _ => h.elim)
  case assign =>
    rintro lp pre x W K h2 hK
    gi_wp2
    exact hK _ _ ((⟨Nat.le_refl _, fun _ _ h _ => h⟩ : KeepsOthers W W).from _) (⟨Nat.le_refl _, fun _ _ h _ => h⟩ : KeepsWalks W W) h2 rfl
  case body =>
    rintro lp pre x a' W hlp hrec h2 rfl hlen
    have HH := Lib.hid h2
    obtain ⟨vo, ho, hrow⟩ := h2.out
    have co : W.cell? ⟨w.heap.size, 0, none⟩ = some vo := cell_of ho 0
    have HROW := Lib.hid hrow
    have HO := Lib.hid ho
    have hsW := h2.size
    have hlW : (W.alloc (.cells #[vi x] 3)).heap.size = W.heap.size + 1 := by simp
    clear h2 hrow ho hrec
    gi_wp2_with (gi_at_builtin; refine wpListIn_append_src rfl _ _ 27 rfl eltI (w.heap.size + 1) pre.length _ (World.ownsRow.alloc HROW.out _) rfl 1 (viC x) (src_new (cs := #[vi x]) rfl rfl) rfl (by intro u hu; simp [viC] at hu; subst hu; rfl) (by omega) (by omega) (by omega) ?_; intro v' w1 hown' hgrow _; obtain ⟨g', cap', rfl⟩ := ownsRow_succ hown'; have q0 : w1.heap[w.heap.size]? = some (.cells #[vo] 27) := (hgrow.block w.heap.size (by omega) (fun e => by have := (World.ownsRow.lt HROW.out _ e.symm).1; omega)).trans ((Below.heap_alloc _ _ _ (by omega)).trans HO.out); have q1 : w1.cell? ⟨w.heap.size, 0, none⟩ = some vo := cell_of q0 0; have q2 : w1.frozen? ⟨w.heap.size, 0, none⟩ = false := free_of q0 0)
    have hk := keeps_put (v' := .slice (some ⟨g', 0, none⟩) (pre.length + 1) cap') (a := ⟨w.heap.size, 0, none⟩) HROW.out ⟨_, _, HO.out⟩ hgrow
    exact ⟨hk.from _, keepsW hk, stL_put HH.out HROW.out HO.out hgrow hown'⟩
  case done =>
    rintro D ys W hD hys h1 hK
    have HK := Lib.hid hK
    have HH := Lib.hid h1
    have HP := Lib.hid hys
    obtain ⟨vo, ho, hrow⟩ := h1.out
    have HROW := Lib.hid hrow
    have c0 : W.cell? ⟨w.heap.size, 0, none⟩ = some vo := by rw [cell_of ho]; rfl
    clear h1 hK hys ho hrow
    gi_wp2
    refine leaves_marks [D] W (fun D' hD' => by simp at hD'; subst hD'; exact HK.out) (by simp) (fun w' h1 h2 h3 h4 h5 => ?_)
    have hb : Below w.heap.size w w' := ⟨h1.trans HH.out.below.os, h2.trans HH.out.below.tape, h3.trans HH.out.below.output, by rw [h4]; exact HH.out.below.size, fun k hk => (h5 k (fun hD' => by simp at hD'; have := HB.out.size; omega)).trans (HH.out.below.block k hk)⟩
    refine ⟨vo, by simp [results, Try.f92, go_sem], vo, ys, rfl, ?_, HP.out, hb⟩
    have hrow := HROW.out
    unfold OwI
    refine own_mono (b := w.heap.size + 1) ⟨hrow.1, ?_⟩ (by omega)
    rcases hrow.2 with h | ⟨g, cp, cur, hv, hg, hh, r⟩
    · exact .inl h
    · refine .inr ⟨g, cp, cur, hv, hg, ?_, r⟩
      rw [h5 g (fun hD' => by simp at hD'; subst hD'; have := HK.out; rw [hh] at this; cases this)]
      exact hh

set_option maxRecDepth 100000 in
set_option maxHeartbeats 2000000 in
theorem collect_call {Bs mw : Nat} {L : RdyL} (w : World) (hb : w.cell? ⟨Bs, 0, none⟩ = some (.map (some mw))) (hm : MapR w mw L) (hL : L.length ≤ 1048576) :
    Calls Try.prog 76 #[.func (.func 78) #[] #[.pointer (some ⟨Bs, 0, none⟩)]] w fun e w' => ∃ v ks, e = .returned v ∧ OwI w.heap.size w' v ks ∧ ks.Perm (L.map (·.1)) ∧ Below w.heap.size w w' := by
  have HA := Lib.hid (appendSeq_call w hb hm hL)
  clear hb hm
  go_enter Try.func76, Try.ntmps76
  go_wp2_with (go_at_call 92; refine HA.out.mono ?_; rintro e w1 ⟨v, ks, rfl, h1, h2, h3⟩)
  go_ret
  exact ⟨v, ks, rfl, h1, h2, h3⟩
end Go.Proofs.Ytdkkpkgfiodlbaa

/- Contracts of Go's library, laid at this program. -/
namespace Go.Proofs.Ytdkkpkgfiodlbaa
open Go.Proofs Go.Shelf
def sortI_ren : Go.Shelf.Ren := ⟨fun | 53 => 77 | 64 => 94 | 63 => 93 | 78 => 105 | 79 => 82 | 70 => 96 | 71 => 97 | 72 => 98 | 73 => 99 | 74 => 100 | 75 => 101 | 59 => 102 | 76 => 103 | 77 => 104 | 88 => 107 | 89 => 108 | 90 => 109 | 91 => 110 | 92 => 111 | 68 => 89 | 96 => 112 | n => n, fun | 22 => 27 | 23 => 3 | 3 => 3 | 51 => 147 | 0 => 0 | 67 => 176 | 69 => 117 | 4 => 4 | 61 => 170 | 60 => 169 | 44 => 126 | 5 => 5 | 9 => 9 | 75 => 178 | 79 => 181 | 83 => 183 | 84 => 184 | n => n, fun | n => n⟩
theorem sortI : Go.Proofs.SlLaysN.n53 Try.prog sortI_ren := {
  mixed := by kernel_rfl,
  f53 := ⟨Try.f77.name, by decide, Try.func77.trans (congrArg some (by kernel_rfl))⟩,
  f59 := ⟨Try.f102.name, by decide, Try.func102.trans (congrArg some (by kernel_rfl))⟩,
  f63 := ⟨Try.f93.name, by decide, Try.func93.trans (congrArg some (by kernel_rfl))⟩,
  f64 := Try.func94.trans (congrArg some (by kernel_rfl)),
  f68 := ⟨Try.f89.name, by decide, Try.func89.trans (congrArg some (by kernel_rfl))⟩,
  f70 := ⟨Try.f96.name, by decide, Try.func96.trans (congrArg some (by kernel_rfl))⟩,
  f71 := ⟨Try.f97.name, by decide, Try.func97.trans (congrArg some (by kernel_rfl))⟩,
  f72 := ⟨Try.f98.name, by decide, Try.func98.trans (congrArg some (by kernel_rfl))⟩,
  f73 := ⟨Try.f99.name, by decide, Try.func99.trans (congrArg some (by kernel_rfl))⟩,
  f74 := ⟨Try.f100.name, by decide, Try.func100.trans (congrArg some (by kernel_rfl))⟩,
  f75 := ⟨Try.f101.name, by decide, Try.func101.trans (congrArg some (by kernel_rfl))⟩,
  f76 := ⟨Try.f103.name, by decide, Try.func103.trans (congrArg some (by kernel_rfl))⟩,
  f77 := ⟨Try.f104.name, by decide, Try.func104.trans (congrArg some (by kernel_rfl))⟩,
  f78 := Try.func105.trans (congrArg some (by kernel_rfl)),
  f79 := Try.func82.trans (congrArg some (by kernel_rfl)),
  f88 := ⟨Try.f107.name, by decide, Try.func107.trans (congrArg some (by kernel_rfl))⟩,
  f89 := Try.func108.trans (congrArg some (by kernel_rfl)),
  f90 := Try.func109.trans (congrArg some (by kernel_rfl)),
  f91 := ⟨Try.f110.name, by decide, Try.func110.trans (congrArg some (by kernel_rfl))⟩,
  f92 := ⟨Try.f111.name, by decide, Try.func111.trans (congrArg some (by kernel_rfl))⟩,
  f96 := ⟨Try.f112.name, by decide, Try.func112.trans (congrArg some (by kernel_rfl))⟩,
  t0 := Try.underlying0,
  a0 := Try.isAgg0,
  z0 := Try.sizeOf0,
  v0 := Try.zeroValue0,
  t3 := Try.underlying3,
  a3 := Try.isAgg3,
  z3 := Try.sizeOf3,
  v3 := Try.zeroValue3,
  t4 := Try.underlying4,
  a4 := Try.isAgg4,
  z4 := Try.sizeOf4,
  v4 := Try.zeroValue4,
  t5 := Try.underlying5,
  a5 := Try.isAgg5,
  z5 := Try.sizeOf5,
  v5 := Try.zeroValue5,
  t9 := Try.underlying9,
  a9 := Try.isAgg9,
  z9 := Try.sizeOf9,
  v9 := Try.zeroValue9,
  t22 := Try.underlying27,
  a22 := Try.isAgg27,
  z22 := Try.sizeOf27,
  v22 := Try.zeroValue27,
  t23 := Try.underlying3,
  a23 := Try.isAgg3,
  z23 := Try.sizeOf3,
  v23 := Try.zeroValue3,
  t44 := Try.underlying126,
  a44 := Try.isAgg126,
  z44 := Try.sizeOf126,
  v44 := Try.zeroValue126,
  t51 := Try.underlying147,
  a51 := Try.isAgg147,
  z51 := Try.sizeOf147,
  v51 := Try.zeroValue147,
  t60 := Try.underlying169,
  a60 := Try.isAgg169,
  z60 := Try.sizeOf169,
  v60 := Try.zeroValue169,
  t61 := Try.underlying170,
  a61 := Try.isAgg170,
  z61 := Try.sizeOf170,
  v61 := Try.zeroValue170,
  t67 := Try.underlying176,
  a67 := Try.isAgg176,
  z67 := Try.sizeOf176,
  v67 := Try.zeroValue176,
  t69 := Try.underlying117,
  a69 := Try.isAgg117,
  z69 := Try.sizeOf117,
  v69 := Try.zeroValue117,
  t75 := Try.underlying178,
  a75 := Try.isAgg178,
  z75 := Try.sizeOf178,
  v75 := Try.zeroValue178,
  t79 := Try.underlying181,
  a79 := Try.isAgg181,
  z79 := Try.sizeOf181,
  v79 := Try.zeroValue181,
  t83 := Try.underlying183,
  a83 := Try.isAgg183,
  z83 := Try.sizeOf183,
  v83 := Try.zeroValue183,
  t84 := Try.underlying184,
  a84 := Try.isAgg184,
  z84 := Try.sizeOf184,
  v84 := Try.zeroValue184 }
end Go.Proofs.Ytdkkpkgfiodlbaa

/- slices.Sort of a row of ints that the call owns; slices.Sorted over the keys of those who wait. -/
namespace Go.Proofs.Ytdkkpkgfiodlbaa
open Go.RowKit Go.Maps Go.Sort Go.Shelf Go.Proofs

abbrev encI : Int → Value := Value.int .i64
theorem viC_map (l : List Int) : l.flatMap viC = l.map encI := by
  induction l with
  | nil => rfl
  | cons x l ih => simp [viC, ih]
theorem holdsI {w : World} {g : Nat} {cur : Array Value} {e : TypeId} {l : List Int} (hb : w.heap[g]? = some (.cells cur e (0, 0))) (ht : cur.toList.take l.length = l.map encI) : Holds encI w g 0 l.toArray := by
  intro j hj
  have hj' : j < l.length := by simpa using hj
  refine ⟨?_, by simp [World.frozen?, hb]⟩
  have h1 : cur[j]? = some (encI l[j]) := by
    have h2 : (cur.toList.take l.length)[j]? = (l.map encI)[j]? := by rw [ht]
    rw [List.getElem?_take_of_lt hj', List.getElem?_map, List.getElem?_eq_getElem hj', Array.getElem?_toList] at h2
    exact h2
  have h3 : (⟨g, 0 + j, none⟩ : Addr) = ⟨g, j, none⟩ := by rw [Nat.zero_add]
  rw [h3, cell_of hb, h1, getElem!_pos l.toArray j hj]
  simp
theorem grownI {w : World} {g n : Nat} {os : Array Obj} (d : Array Int) : w.grownBy (grow (putRow encI (Sort.ahead w n) g 0 d) os) (some g) := by
  refine ⟨rfl, rfl, rfl, by simp, fun k hk hne => ?_⟩
  have hgk : g ≠ k := fun e => hne (by rw [e])
  rw [heap_grow_old _ _ (by simpa using hk)]
  simp [putRow, mapBlock, Sort.ahead, Array.getElem?_modify, hgk]
theorem sortedI {w : World} {base g cap n : Nat} {e : TypeId} {os : Array Obj} {cur : Array Value} {l l' : List Int} (hl : l'.length = l.length) (hbase : base ≤ g) (hb : w.heap[g]? = some (.cells cur e (0, 0)))
    (h1 : l.length ≤ cap) (h2 : cap ≤ maxLen) (h3 : cur.size = cap * 1) :
    (grow (putRow encI (Sort.ahead w n) g 0 l'.toArray) os).ownsRow base e 1 (.slice (some ⟨g, 0, none⟩) l.length cap) l.length (l'.map encI) := by
  have hg : g < w.heap.size := (Array.getElem?_eq_some_iff.1 hb).1
  have hh : (grow (putRow encI (Sort.ahead w n) g 0 l'.toArray) os).heap[g]? = some (.cells (putCells encI 0 l'.toArray cur) e (0, 0)) := by
    rw [heap_grow_old _ _ (by simpa using hg)]
    simp [putRow, mapBlock, Sort.ahead, Array.getElem?_modify, hb, onCells]
  refine ⟨by simp [hl], .inr ⟨g, cap, _, rfl, hbase, hh, h1, h2, by simp [putCells, h3], ?_⟩⟩
  apply List.ext_getElem?
  intro j
  by_cases hj : j < l.length
  · rw [List.getElem?_take_of_lt (by omega), Array.getElem?_toList, List.getElem?_map, List.getElem?_eq_getElem (show j < l'.length by omega)]
    simp [putCells, show j < l'.length by omega, show j < cur.size by omega]
  · rw [List.getElem?_take_eq_none (by omega), List.getElem?_eq_none (by simp; omega)]

abbrev srt (l : List Int) : List Int := l.mergeSort fun x y => decide (x ≤ y)

set_option maxRecDepth 100000 in
set_option maxHeartbeats 2000000 in
theorem sort_call {base : Nat} (v : Value) (l : List Int) (w : World) (h : OwI base w v l) (hlen : l.length ≤ 1048576) :
    Calls Try.prog 77 #[v] w fun e w' => e = .returned (.tuple #[]) ∧ OwI base w' v (srt l) ∧ w.grownBy w' v.ownBlock := by
  rcases h.2 with ⟨hv, h0⟩ | ⟨g, cap, cur, rfl, hg, hb, h1, h2, h3, h4⟩
  · have hl : l = [] := List.length_eq_zero_iff.1 h0
    subst hl
    subst hv
    have hc := AnyG.slices_Sort_int_none sortI none 0 w
    change Calls Try.prog 77 _ _ _ at hc
    refine hc.mono ?_
    rintro e w' ⟨rfl, rfl⟩
    exact ⟨rfl, by simpa [OwI] using h, ⟨rfl, rfl, rfl, Nat.le_refl _, fun _ _ _ => rfl⟩⟩
  · have h4' : cur.toList.take l.length = l.map encI := by rw [← viC_map]; simpa using h4
    have hc := AnyG.slices_Sort_int sortI g 0 cap l w (holdsI hb h4') (Array.getElem?_eq_some_iff.1 hb).1 (by omega)
    change Calls Try.prog 77 _ _ _ at hc
    refine hc.mono ?_
    rintro e w' ⟨rfl, n, os, rfl⟩
    refine ⟨rfl, ?_, grownI _⟩
    have := sortedI (n := n) (os := os) (l := l) (l' := srt l) (by simp) hg hb h1 h2 h3
    unfold OwI
    rw [viC_map]
    simpa using this

theorem srt_perm (l : List Int) : (srt l).Perm l := List.mergeSort_perm _ _
theorem srt_sorted (l : List Int) : (srt l).Pairwise (fun x y => x ≤ y) := by
  have := List.pairwise_mergeSort (le := fun x y : Int => decide (x ≤ y)) (fun a b c h1 h2 => by simp at *; omega) (fun a b => by simp; omega) l
  exact this.imp (fun h => by simpa using h)

/-- The keys of those who wait, in order. -/
def SortedQ (L : RdyL) (w : World) (e : Ending) (w' : World) : Prop := ∃ v ks, e = .returned v ∧ OwI w.heap.size w' v ks ∧ ks.Perm (L.map (·.1)) ∧ ks.Pairwise (fun x y => x ≤ y) ∧ Below w.heap.size w w'

set_option maxRecDepth 100000 in
set_option maxHeartbeats 2000000 in
theorem sorted_call {Bs mr : Nat} {L : RdyL} (w : World) (hb : w.cell? ⟨Bs, 0, none⟩ = some (.map (some mr))) (hm : MapR w mr L) (hL : L.length ≤ 1048576) :
    Calls Try.prog 41 #[.func (.func 78) #[] #[.pointer (some ⟨Bs, 0, none⟩)]] w (SortedQ L w) := by
  have HC := Lib.hid (collect_call w hb hm hL)
  clear hb hm
  go_enter Try.func41, Try.ntmps41
  go_wp2_with (first
    | (go_at_call 76; refine HC.out.mono ?_; rintro e w1 ⟨v, ks, rfl, h1, h2, h3⟩)
    | (go_at_call 77; refine (sort_call v ks _ h1 (by rw [h2.length_eq]; simpa using hL)).mono ?_; rintro e w2 ⟨rfl, h4, h5⟩))
  go_ret
  exact ⟨v, srt ks, rfl, h4, (srt_perm ks).trans h2, srt_sorted ks, h3.grown h5 h3.size (fun j hj => (World.ownsRow.lt h1 j hj).1)⟩

/-- maps.Keys of those who wait, sorted: as the program writes it. -/
theorem keys_call {mr : Nat} (w : World) : Calls Try.prog 42 #[.map (some mr)] w fun e w' => e = .returned (.func (.func 78) #[] #[.pointer (some ⟨w.heap.size, 0, none⟩)]) ∧ w' = w.alloc (.cells #[.map (some mr)] 109) := by
  go_enter Try.func42, Try.ntmps42
  go_wp2_with fail
  go_ret
  exact ⟨rfl, rfl⟩
end Go.Proofs.Ytdkkpkgfiodlbaa

/- (*mvcc.Store).later: has a key a version behind a time? -/
namespace Go.Proofs.Ytdkkpkgfiodlbaa
open Go.RowKit Go.Maps

def nilK : KV := (.slice none 0 0, [])
def curK (K : KeysL) (key : Int) : KV := (getM K key).getD nilK
def verOf (K : KeysL) (key : Int) : List Ver := (curK K key).2
def laterB (vs : List Ver) (t : Int) : Bool := match vs.getLast? with | some x => decide (t < x.1) | none => false

theorem MvS.cur {base p mk mr me : Nat} {serial : Bool} {bugs : Int} {K : KeysL} {R : RdyL} {E : EndL} {W : World} (h : MvS base p mk mr me serial bugs K R E W) (key : Int) : RdVer W (curK K key).1 (curK K key).2 := by
  unfold curK
  cases hg : getM K key with
  | none => exact ⟨none, 0, 0, rfl, rfl, by simp [nilK], Nat.le_refl _, fun _ => ⟨rfl, rfl⟩, fun j x hj => by simp [nilK] at hj⟩
  | some x => exact h.krow (key, x) (getM_some hg)
theorem zero_vers (w : World) : (zeroValue 133).run Try.prog w = .ok (.slice none 0 0) w := by kernel_rfl
theorem lookup_keys {w : World} {mk : Nat} {K : KeysL} (h : MapK w mk K) {key : Int} (hk : i64 key) :
    (Instr.lookup 110 (.map (some mk)) (vi key) false).run Try.prog w = .ok (curK K key).1 w := by
  obtain ⟨kl, hkl⟩ := intKey hk
  have h1 := (h.lookup intKeyed vi_inj (t := 110) (e := 133) Try.underlying110 key hkl (zero_vers w)).1
  have e : ((getM K key).map (fun x : KV => x.1)).getD (.slice none 0 0) = (curK K key).1 := by unfold curK; cases getM K key <;> rfl
  rw [e] at h1
  exact h1

set_option maxRecDepth 100000 in
set_option maxHeartbeats 2000000 in
theorem later_call {base p mk mr me : Nat} {serial : Bool} {bugs : Int} {K : KeysL} {R : RdyL} {E : EndL} (key t : Int) (w : World) (h : MvS base p mk mr me serial bugs K R E w) (hk : i64 key) :
    Calls Try.prog 61 #[.pointer (some ⟨p, 0, none⟩), vi key, vi t] w fun e w' => e = .returned (.bool (laterB (verOf K key) t)) ∧ Below w.heap.size w w' := by
  have hlk := lookup_keys h.keys hk
  have p2 : w.cell? ⟨p, 2, none⟩ = some (.map (some mk)) := by rw [cell_of h.blk]; rfl
  have hr := h.cur key
  unfold verOf
  generalize curK K key = kv at *
  obtain ⟨kv1, vs⟩ := kv
  obtain ⟨a, len, cap, hv, hl, hm, hc⟩ := hr.at
  simp only at hv hl hm hc hlk
  subst hv hl
  clear h hr
  go_enter Try.func61, Try.ntmps61
  by_cases h0 : vs.length = 0
  · have hv0 : vs = [] := List.length_eq_zero_iff.1 h0
    subst hv0
    clear hc
    go_wp2_with fail
    go_ret
    exact ⟨by simp [laterB], Below.refl _ _⟩
  · obtain ⟨x, hx⟩ := some_at (l := vs) (k := vs.length - 1) (by omega)
    obtain ⟨b, off, rfl, c0, -, hi⟩ := hc _ x hx
    have hpos : (0 : Int) < (vs.length : Int) := by omega
    have hwr : IntKind.i64.wrap ((vs.length : Int) - 1) = ((vs.length - 1 : Nat) : Int) := by rw [IntWalk.i64_in _ (by omega)]; omega
    have hL := Lib.hid (show laterB vs t = decide (t < x.1) by
      have : vs.getLast? = some x := by rw [List.getLast?_eq_getElem?]; exact hx
      unfold laterB; rw [this])
    have hlt1 : ((vs.length - 1 : Nat) : Int) < (vs.length : Int) := by omega
    clear hc hx h0
    go_wp2_with fail
    go_ret
    exact ⟨by rw [hL.out]; rfl, Below.refl _ _⟩
end Go.Proofs.Ytdkkpkgfiodlbaa

/- mvcc.Ready.writes; (*mvcc.Store).blocks for whatever test of one who waits. -/
namespace Go.Proofs.Ytdkkpkgfiodlbaa
open Go.RowKit Go.Maps

def keyB (key : Int) (o : GOp) : Bool := o.key == key
def idxB (key : Int) (l : List GOp) : Int := match l.findIdx? (keyB key) with | some i => (i : Int) | none => -1
theorem idxB_any (key : Int) (l : List GOp) : decide (0 ≤ idxB key l) = l.any (keyB key) := by
  unfold idxB
  cases h : l.findIdx? (keyB key) with
  | none =>
    rw [List.findIdx?_eq_none_iff] at h
    simp only [show ¬ ((0 : Int) ≤ -1) from by decide, decide_false]
    symm; rw [List.any_eq_false]; exact fun x hx => by simp [h x hx]
  | some i =>
    have hs : (l.findIdx? (keyB key)).isSome = true := by rw [h]; rfl
    rw [List.findIdx?_isSome] at hs
    rw [hs]; simp

set_option maxRecDepth 100000 in
theorem key_call (o : GOp) (key : Int) (kb : Nat) (w : World) (hk : w.cell? ⟨kb, 0, none⟩ = some (.int .i64 key)) :
    Calls Try.prog 84 #[.agg #[vi o.kind, vi o.key, vi o.val], .pointer (some ⟨kb, 0, none⟩)] w fun e w' => e = .returned (.bool (keyB key o)) ∧ Below w.heap.size w w' := by
  have hk' := fun o' => cell_later ((Below.refl w.heap.size w).alloc (Nat.le_refl _) o') hk
  go_enter Try.func84, Try.ntmps84
  go_wp2_with fail
  go_ret
  exact ⟨rfl, (Below.refl _ _).alloc (Nat.le_refl _) _⟩

/-- What a test of an operation answers. -/
def OpTest (f : FuncId) (cp : Array Value) (q : GOp → Bool) (w : World) : Prop := ∀ (o : GOp) (W : World), Below w.heap.size w W → Calls Try.prog f (#[.agg #[vi o.kind, vi o.key, vi o.val]] ++ cp) W fun e W' => e = .returned (.bool (q o)) ∧ Below W.heap.size W W'
def idxQ (q : GOp → Bool) (l : List GOp) : Int := match l.findIdx? q with | some i => (i : Int) | none => -1

set_option maxRecDepth 100000 in
theorem index_call (v : Value) (l : List GOp) (key : Int) (kb : Nat) (w : World) (hv : RdOps w v l) (hk : w.cell? ⟨kb, 0, none⟩ = some (.int .i64 key)) :
    Calls Try.prog 86 #[v, .func (.func 84) #[] #[.pointer (some ⟨kb, 0, none⟩)]] w fun e w' => e = .returned (.int .i64 (idxB key l)) ∧ Below w.heap.size w w' := by
  have HV := Lib.hid hv
  have HK := Lib.hid hk
  obtain ⟨a, len, cap, rfl, rfl, hm, -⟩ := hv.at
  clear hv hk
  go_enter Try.func86, Try.ntmps86
  go_wp2_with fail
  go_loopw [5, 8] (fun _ i wr => ∃ k : Nat, k ≤ l.length ∧ i = .int .i64 k ∧ (∀ j o, j < k → l[j]? = some o → keyB key o = false) ∧ Below w.heap.size w wr) (fun _ i _ => l.length - (intOf i).toNat)
  case atStart => exact ⟨0, Nat.zero_le _, rfl, fun j o hj => absurd hj (Nat.not_lt_zero _), Below.refl _ _⟩
  case round =>
    obtain ⟨k, hk, rfl, hno, hb⟩ := hrel
    have HB := Lib.hid hb
    have HN := Lib.hid hno
    clear hb hno
    by_cases hlt : k < l.length
    · obtain ⟨o, ho⟩ := some_at hlt
      obtain ⟨_, _, _, e5, -, -, hcl⟩ := HV.out.at
      cases e5
      obtain ⟨b, off, rfl, k0', k1', k2'⟩ := hcl k o ho
      have k0 := cell_later HB.out k0'
      have k1 := cell_later HB.out k1'
      have k2 := cell_later HB.out k2'
      have HO := Lib.hid ho
      clear hcl ho k0' k1' k2'
      cases hh : keyB key o with
      | true =>
        have HH := Lib.hid hh
        clear hh
        go_wp2_with (go_at_call 84; refine (key_call o key kb _ (cell_later HB.out HK.out)).mono ?_; rintro e w1 ⟨rfl, hb1⟩; rw [HH.out])
        go_ret
        have : idxB key l = k := by
          unfold idxB
          have : l.findIdx? (keyB key) = some k := by
            rw [List.findIdx?_eq_some_iff_getElem]
            have hg := List.getElem?_eq_some_iff.1 HO.out
            refine ⟨hlt, by rw [hg.2]; exact HH.out, fun j hj => ?_⟩
            have := HN.out j l[j] hj (List.getElem?_eq_getElem _)
            simp [this]
          rw [this]
        exact ⟨by rw [this]; rfl, HB.out.trans (hb1.mono HB.out.size)⟩
      | false =>
        have HH := Lib.hid hh
        clear hh
        go_wp2_with (go_at_call 84; refine (key_call o key kb _ (cell_later HB.out HK.out)).mono ?_; rintro e w1 ⟨rfl, hb1⟩; rw [HH.out])
        go_roundw
        case rel =>
          refine ⟨k + 1, by omega, by go_num, ?_, HB.out.trans (hb1.mono HB.out.size)⟩
          intro j o' hj ho'
          rcases Nat.lt_or_ge j k with h | h
          · exact HN.out j o' h ho'
          · obtain rfl : j = k := by omega
            rw [HO.out] at ho'; cases ho'; exact HH.out
        case measure => simp [intOf]; omega
    · obtain rfl : k = l.length := by omega
      go_wp2_with fail
      go_ret
      have : idxB key l = -1 := by
        unfold idxB
        have : l.findIdx? (keyB key) = none := by
          rw [List.findIdx?_eq_none_iff]
          intro x hx
          obtain ⟨j, hj, rfl⟩ := List.mem_iff_getElem.1 hx
          exact HN.out j l[j] hj (List.getElem?_eq_getElem _)
        rw [this]
      exact ⟨by rw [this]; rfl, HB.out⟩

set_option maxRecDepth 100000 in
theorem contains_call (v : Value) (l : List GOp) (key : Int) (kb : Nat) (w : World) (hv : RdOps w v l) (hk : w.cell? ⟨kb, 0, none⟩ = some (.int .i64 key)) :
    Calls Try.prog 63 #[v, .func (.func 84) #[] #[.pointer (some ⟨kb, 0, none⟩)]] w fun e w' => e = .returned (.bool (l.any (keyB key))) ∧ Below w.heap.size w w' := by
  go_enter Try.func63, Try.ntmps63
  go_wp2_with (go_at_call 86; refine (index_call v l key kb w hv hk).mono ?_; rintro e w1 ⟨rfl, hb1⟩)
  go_ret
  exact ⟨by rw [← idxB_any]; first | rfl | simp, hb1⟩

/-- Does one who waits write a key? -/
def writesB (r : Rdy) (key : Int) : Bool := r.writes.any (keyB key)
set_option maxRecDepth 100000 in
set_option maxHeartbeats 2000000 in
theorem writes_call (x : RV) (key : Int) (w : World) (hx : RdyS w x) :
    Calls Try.prog 59 #[rdyV x, vi key] w fun e w' => e = .returned (.bool (writesB x.r key)) ∧ Below w.heap.size w w' := by
  have hmf : ∀ (fn : Fn) (first cap : Array Value) (w : World), (Instr.makeFunc fn first cap).run Try.prog w = .ok (.func fn first cap) w := fun _ _ _ _ => rfl
  have hB : Below w.heap.size w ((w.alloc (.cells (rdyC x) 29)).alloc (.cells #[vi key] 3)) := ((Below.refl _ _).alloc (Nat.le_refl _) _).alloc (by simp) _
  have HV := Lib.hid (hx.ws.later hB)
  have HB := Lib.hid hB
  have q3 : ((w.alloc (.cells #[vi x.r.txn, vi x.r.home, vi x.r.start, x.wv, x.rv] 29)).alloc (.cells #[vi key] 3)).cell? ⟨w.heap.size, 3, none⟩ = some x.wv := by
    rw [World.cell?_alloc_past _ _ _ (by simp), World.cell?_alloc_at _ _ _ _ rfl]; rfl
  unfold rdyC at HV HB
  clear hx hB
  unfold rdyV rdyC
  go_enter Try.func59, Try.ntmps59
  go_wp2_with (go_at_call 63; refine (contains_call x.wv x.r.writes key (w.heap.size + 1) _ HV.out (by rw [World.cell?_alloc_at _ _ _ _ (by simp)]; rfl)).mono ?_; rintro e w1 ⟨rfl, hb1⟩)
  go_ret
  exact ⟨rfl, HB.out.trans (hb1.mono (by simp; omega))⟩
end Go.Proofs.Ytdkkpkgfiodlbaa

/- The state of layer 19's reference in memory; its writes, has and later. -/
namespace Go.Proofs.Ytdkkpkgfiodlbaa
open Go.RowKit Go.Maps
/-- A version of a key: the key, from which time on, the value. -/
structure Ver3 where
  key : Int
  at_ : Int
  val : Int
deriving DecidableEq
def ver3V (x : Ver3) : List Value := [vi x.key, vi x.at_, vi x.val]
def EVer3 (_ : World) (cs : List Value) (x : Ver3) : Prop := cs = ver3V x
abbrev RdVer3 (w : World) (v : Value) (l : List Ver3) : Prop := RdS 3 EVer3 w v l
theorem RdVer3.later {A B : World} {v : Value} {l : List Ver3} (h : RdVer3 A v l) (hb : Below A.heap.size A B) : RdVer3 B v l := RdS.below h hb fun _ _ h => h
theorem RdVer3.at {w : World} {v : Value} {xs : List Ver3} (h : RdVer3 w v xs) : ∃ a len cap, v = .slice a len cap ∧ len = xs.length ∧ xs.length ≤ 9223372036854775807 ∧ ∀ j x, xs[j]? = some x → ∃ b off, a = some ⟨b, off, none⟩ ∧ w.cell? ⟨b, off + j * 3, none⟩ = some (vi x.key) ∧ w.cell? ⟨b, off + j * 3 + 1, none⟩ = some (vi x.at_) ∧ w.cell? ⟨b, off + j * 3 + 2, none⟩ = some (vi x.val) := by
  obtain ⟨a, len, cap, h1, h2, h3, h4, h5, h6⟩ := h
  refine ⟨a, len, cap, h1, h2, h3, fun j x hj => ?_⟩
  obtain ⟨b, off, cs, ha, hl, hc, rfl⟩ := h6 j x hj
  exact ⟨b, off, ha, by simpa using hc 0 _ rfl, by simpa [Nat.add_assoc] using hc 1 _ rfl, by simpa [Nat.add_assoc] using hc 2 _ rfl⟩
/-- One who waits, as an element of a slice. -/
def ERdy (w : World) (cs : List Value) (r : Rdy) : Prop := ∃ wv rv, cs = [vi r.txn, vi r.home, vi r.start, wv, rv] ∧ RdyS w ⟨wv, rv, r⟩
abbrev RdRdy (w : World) (v : Value) (l : List Rdy) : Prop := RdS 5 ERdy w v l
theorem ERdy.later {A B : World} {cs : List Value} {r : Rdy} (h : ERdy A cs r) (hb : Below A.heap.size A B) : ERdy B cs r := by
  obtain ⟨wv, rv, h1, h2⟩ := h; exact ⟨wv, rv, h1, h2.later hb⟩
theorem RdRdy.later {A B : World} {v : Value} {l : List Rdy} (h : RdRdy A v l) (hb : Below A.heap.size A B) : RdRdy B v l := RdS.below h hb fun _ _ h => h.later hb
theorem RdRdy.at {w : World} {v : Value} {xs : List Rdy} (h : RdRdy w v xs) : ∃ a len cap, v = .slice a len cap ∧ len = xs.length ∧ xs.length ≤ 9223372036854775807 ∧ ∀ j x, xs[j]? = some x → ∃ b off wv rv, a = some ⟨b, off, none⟩ ∧ RdyS w ⟨wv, rv, x⟩ ∧ w.cell? ⟨b, off + j * 5, none⟩ = some (vi x.txn) ∧ w.cell? ⟨b, off + j * 5 + 1, none⟩ = some (vi x.home) ∧ w.cell? ⟨b, off + j * 5 + 2, none⟩ = some (vi x.start) ∧ w.cell? ⟨b, off + j * 5 + 3, none⟩ = some wv ∧ w.cell? ⟨b, off + j * 5 + 4, none⟩ = some rv := by
  obtain ⟨a, len, cap, h1, h2, h3, h4, h5, h6⟩ := h
  refine ⟨a, len, cap, h1, h2, h3, fun j x hj => ?_⟩
  obtain ⟨b, off, cs, ha, hl, hc, wv, rv, rfl, hx⟩ := h6 j x hj
  exact ⟨b, off, wv, rv, ha, hx, by simpa using hc 0 _ rfl, by simpa [Nat.add_assoc] using hc 1 _ rfl, by simpa [Nat.add_assoc] using hc 2 _ rfl, by simpa [Nat.add_assoc] using hc 3 _ rfl, by simpa [Nat.add_assoc] using hc 4 _ rfl⟩
/-- An end, as an element of a slice. -/
def EEn (_ : World) (cs : List Value) (e : EndM) : Prop := cs = [vi e.txn, .bool e.commit, vi e.at_]
abbrev RdEn (w : World) (v : Value) (l : List EndM) : Prop := RdS 3 EEn w v l
theorem RdEn.later {A B : World} {v : Value} {l : List EndM} (h : RdEn A v l) (hb : Below A.heap.size A B) : RdEn B v l := RdS.below h hb fun _ _ h => h
theorem RdEn.at {w : World} {v : Value} {xs : List EndM} (h : RdEn w v xs) : ∃ a len cap, v = .slice a len cap ∧ len = xs.length ∧ xs.length ≤ 9223372036854775807 ∧ ∀ j x, xs[j]? = some x → ∃ b off, a = some ⟨b, off, none⟩ ∧ w.cell? ⟨b, off + j * 3, none⟩ = some (vi x.txn) ∧ w.cell? ⟨b, off + j * 3 + 1, none⟩ = some (.bool x.commit) ∧ w.cell? ⟨b, off + j * 3 + 2, none⟩ = some (vi x.at_) := by
  obtain ⟨a, len, cap, h1, h2, h3, h4, h5, h6⟩ := h
  refine ⟨a, len, cap, h1, h2, h3, fun j x hj => ?_⟩
  obtain ⟨b, off, cs, ha, hl, hc, rfl⟩ := h6 j x hj
  exact ⟨b, off, ha, by simpa using hc 0 _ rfl, by simpa [Nat.add_assoc] using hc 1 _ rfl, by simpa [Nat.add_assoc] using hc 2 _ rfl⟩

/-- The reference's state. -/
structure RSt where
  serial : Bool
  bugs : Int
  vs : List Ver3
  ws : List Rdy
  es : List EndM
/-- .. and the slice values that its lists lie in. -/
structure RSV where
  vv : Value
  wv : Value
  ev : Value
  s : RSt
def rsC (x : RSV) : Array Value := #[.bool x.s.serial, vi x.s.bugs, x.vv, x.wv, x.ev]
def rsV (x : RSV) : Value := .agg (rsC x)
structure RdSt (W : World) (x : RSV) : Prop where
  vs : RdVer3 W x.vv x.s.vs
  ws : RdRdy W x.wv x.s.ws
  es : RdEn W x.ev x.s.es
theorem RdSt.later {A B : World} {x : RSV} (h : RdSt A x) (hb : Below A.heap.size A B) : RdSt B x := ⟨h.vs.later hb, h.ws.later hb, h.es.later hb⟩

theorem RdOps.el {w : World} {a : Option Addr} {n c : Nat} {l : List GOp} (h : RdOps w (.slice a n c) l) {k : Nat} {o : GOp} (ho : l[k]? = some o) : ∃ b off, a = some ⟨b, off, none⟩ ∧ w.cell? ⟨b, off + k * 3, none⟩ = some (vi o.kind) ∧ w.cell? ⟨b, off + k * 3 + 1, none⟩ = some (vi o.key) ∧ w.cell? ⟨b, off + k * 3 + 2, none⟩ = some (vi o.val) := by
  obtain ⟨_, _, _, he, _, _, hc⟩ := h.at
  simp only [Value.slice.injEq] at he
  obtain ⟨rfl, -, -⟩ := he
  exact hc k o ho
theorem RdInts.el {w : World} {a : Option Addr} {n c : Nat} {l : List Int} (h : RdInts w (.slice a n c) l) {k : Nat} {o : Int} (ho : l[k]? = some o) : ∃ b off, a = some ⟨b, off, none⟩ ∧ w.cell? ⟨b, off + k, none⟩ = some (vi o) ∧ i64 o := by
  obtain ⟨_, _, _, he, _, _, hc⟩ := h.at
  simp only [Value.slice.injEq] at he
  obtain ⟨rfl, -, -⟩ := he
  exact hc k o ho
theorem RdVer3.el {w : World} {a : Option Addr} {n c : Nat} {l : List Ver3} (h : RdVer3 w (.slice a n c) l) {k : Nat} {x : Ver3} (ho : l[k]? = some x) : ∃ b off, a = some ⟨b, off, none⟩ ∧ w.cell? ⟨b, off + k * 3, none⟩ = some (vi x.key) ∧ w.cell? ⟨b, off + k * 3 + 1, none⟩ = some (vi x.at_) ∧ w.cell? ⟨b, off + k * 3 + 2, none⟩ = some (vi x.val) := by
  obtain ⟨_, _, _, he, _, _, hc⟩ := h.at
  simp only [Value.slice.injEq] at he
  obtain ⟨rfl, -, -⟩ := he
  exact hc k x ho
theorem RdEn.el {w : World} {a : Option Addr} {n c : Nat} {l : List EndM} (h : RdEn w (.slice a n c) l) {k : Nat} {x : EndM} (ho : l[k]? = some x) : ∃ b off, a = some ⟨b, off, none⟩ ∧ w.cell? ⟨b, off + k * 3, none⟩ = some (vi x.txn) ∧ w.cell? ⟨b, off + k * 3 + 1, none⟩ = some (.bool x.commit) ∧ w.cell? ⟨b, off + k * 3 + 2, none⟩ = some (vi x.at_) := by
  obtain ⟨_, _, _, he, _, _, hc⟩ := h.at
  simp only [Value.slice.injEq] at he
  obtain ⟨rfl, -, -⟩ := he
  exact hc k x ho
theorem RdRdy.el {w : World} {a : Option Addr} {n c : Nat} {l : List Rdy} (h : RdRdy w (.slice a n c) l) {k : Nat} {x : Rdy} (ho : l[k]? = some x) : ∃ b off wv rv, a = some ⟨b, off, none⟩ ∧ RdyS w ⟨wv, rv, x⟩ ∧ w.cell? ⟨b, off + k * 5, none⟩ = some (vi x.txn) ∧ w.cell? ⟨b, off + k * 5 + 1, none⟩ = some (vi x.home) ∧ w.cell? ⟨b, off + k * 5 + 2, none⟩ = some (vi x.start) ∧ w.cell? ⟨b, off + k * 5 + 3, none⟩ = some wv ∧ w.cell? ⟨b, off + k * 5 + 4, none⟩ = some rv := by
  obtain ⟨_, _, _, he, _, _, hc⟩ := h.at
  simp only [Value.slice.injEq] at he
  obtain ⟨rfl, -, -⟩ := he
  exact hc k x ho
theorem any_take {α : Type} {q : α → Bool} {l : List α} {k : Nat} {o : α} (h : ∀ x ∈ l.take k, q x = false) (ho : l[k]? = some o) (hq : q o = false) : ∀ x ∈ l.take (k + 1), q x = false := fun x hx => by
  rw [take_at ho] at hx
  rcases List.mem_append.1 hx with h1 | h1
  · exact h x h1
  · rw [List.mem_singleton.1 h1]; exact hq
theorem any_none {α : Type} {q : α → Bool} {l : List α} {k : Nat} (h : ∀ x ∈ l.take k, q x = false) (hk : ¬ k < l.length) : l.any q = false := by
  rw [List.any_eq_false]
  intro o ho
  rw [h o (by rw [List.take_of_length_le (by omega)]; exact ho)]; decide
theorem any_some {α : Type} {q : α → Bool} {l : List α} {k : Nat} {o : α} (ho : l[k]? = some o) (hq : q o = true) : l.any q = true := List.any_eq_true.2 ⟨o, List.mem_of_getElem? ho, hq⟩


set_option maxRecDepth 100000 in
set_option maxHeartbeats 4000000 in
theorem rnWrites_call (x : RV) (key : Int) (w : World) (hx : RdyS w x) :
    Calls Try.prog 73 #[rdyV x, vi key] w fun e w' => e = .returned (.bool (writesB x.r key)) ∧ Below w.heap.size w w' := by
  obtain ⟨wv, rv, r⟩ := x
  have HX := Lib.hid hx
  obtain ⟨aw, nw, cw, hwv, rfl, hmw, -⟩ := (show RdOps w wv r.writes from hx.ws).at
  subst hwv
  have HB := Lib.hid ((Below.refl w.heap.size w).alloc (Nat.le_refl _) (.cells (rdyC ⟨.slice aw r.writes.length cw, rv, r⟩) 61))
  clear hx
  unfold rdyV rdyC at *
  simp only at HB
  go_enter Try.func73, Try.ntmps73
  go_wp2_with fail
  generalize (w.alloc (.cells #[vi r.txn, vi r.home, vi r.start, .slice aw r.writes.length cw, rv] 61)) = w1 at *
  go_loopw [10] (fun i wr => ∃ k : Nat, k ≤ r.writes.length ∧ i = vi k ∧ Hid (Below w.heap.size w wr) ∧ Hid (∀ o ∈ r.writes.take k, keyB key o = false)) (fun i _ => r.writes.length - (intOf i).toNat)
  case atStart => exact ⟨0, Nat.zero_le _, rfl, HB, Lib.hid (by simp)⟩
  case round =>
    obtain ⟨wj, rfl⟩ : ∃ wj : World, wj = wr := ⟨_, rfl⟩
    obtain ⟨k, hk, rfl, HJ, HN⟩ := hrel
    by_cases hlt : k < r.writes.length
    · have k1 : decide ((k : Int) < r.writes.length) = true := decide_eq_true (by omega)
      have k2 : (k : Int) < r.writes.length := by omega
      have hwk : IntKind.i64.wrap ((k : Int) + 1) = (k : Int) + 1 := IntWalk.i64_in _ (by omega)
      obtain ⟨o, ho⟩ := some_at hlt
      obtain ⟨g, off, ha, c0, c1, c2⟩ := (show RdOps wj (.slice aw r.writes.length cw) r.writes from (HX.out.later HJ.out).ws).el ho
      subst ha
      have HO := Lib.hid ho
      have hsz := HJ.out.size
      clear ho
      cases hq : keyB key o with
      | true =>
        have hq1 : (o.key == key) = true := hq
        have hr : writesB r key = true := any_some HO.out hq
        go_wp2_with fail
        go_ret
        exact ⟨by rw [hr]; rfl, HJ.out.alloc hsz _⟩
      | false =>
        have hq1 : (o.key == key) = false := hq
        go_wp2_with fail
        exact ⟨⟨k + 1, by omega, by go_num, Lib.hid (HJ.out.alloc hsz _), Lib.hid (any_take HN.out HO.out hq)⟩, by simp only [intOf]; omega⟩
    · have k1 : decide ((k : Int) < r.writes.length) = false := decide_eq_false (by omega)
      have hr : writesB r key = false := any_none HN.out hlt
      go_wp2_with fail
      go_ret
      exact ⟨by rw [hr]; rfl, HJ.out⟩

set_option maxRecDepth 100000 in
set_option maxHeartbeats 4000000 in
theorem rnHas_call (v : Value) (l : List Int) (key : Int) (w : World) (hx : RdInts w v l) :
    Calls Try.prog 75 #[v, vi key] w fun e w' => e = .returned (.bool (l.any (fun k => key == k))) ∧ Below w.heap.size w w' := by
  have HX := Lib.hid hx
  obtain ⟨a, n, c, hwv, rfl, hm, -⟩ := hx.at
  subst hwv
  clear hx
  go_enter Try.func75, Try.ntmps75
  go_wp2_with fail
  go_loopw [9] (fun i wr => ∃ k : Nat, k ≤ l.length ∧ i = vi k ∧ Hid (Below w.heap.size w wr) ∧ Hid (∀ o ∈ l.take k, (key == o) = false)) (fun i _ => l.length - (intOf i).toNat)
  case atStart => exact ⟨0, Nat.zero_le _, rfl, Lib.hid (Below.refl _ _), Lib.hid (by simp)⟩
  case round =>
    obtain ⟨wj, rfl⟩ : ∃ wj : World, wj = wr := ⟨_, rfl⟩
    obtain ⟨k, hk, rfl, HJ, HN⟩ := hrel
    by_cases hlt : k < l.length
    · have k1 : decide ((k : Int) < l.length) = true := decide_eq_true (by omega)
      have k2 : (k : Int) < l.length := by omega
      have hwk : IntKind.i64.wrap ((k : Int) + 1) = (k : Int) + 1 := IntWalk.i64_in _ (by omega)
      obtain ⟨o, ho⟩ := some_at hlt
      obtain ⟨g, off, ha, c0, -⟩ := (HX.out.later HJ.out).el ho
      subst ha
      have HO := Lib.hid ho
      clear ho
      cases hq : (key == o) with
      | true =>
        have hq1 : (o == key) = true := by rw [beq_iff_eq] at hq ⊢; exact hq.symm
        have hr : l.any (fun k => key == k) = true := any_some HO.out hq
        go_wp2_with fail
        go_ret
        exact ⟨by rw [hr]; rfl, HJ.out⟩
      | false =>
        have hq1 : (o == key) = false := by rw [beq_eq_false_iff_ne] at hq ⊢; exact fun e => hq e.symm
        go_wp2_with fail
        exact ⟨⟨k + 1, by omega, by go_num, HJ, Lib.hid (any_take HN.out HO.out hq)⟩, by simp only [intOf]; omega⟩
    · have k1 : decide ((k : Int) < l.length) = false := decide_eq_false (by omega)
      have hr : l.any (fun k => key == k) = false := any_none HN.out hlt
      go_wp2_with fail
      go_ret
      exact ⟨by rw [hr]; rfl, HJ.out⟩

def later3 (key t : Int) (x : Ver3) : Bool := x.key == key && decide (t < x.at_)
set_option maxRecDepth 100000 in
set_option maxHeartbeats 4000000 in
theorem rnLater_call (x : RSV) (key t : Int) (w : World) (hx : RdSt w x) :
    Calls Try.prog 74 #[rsV x, vi key, vi t] w fun e w' => e = .returned (.bool (x.s.vs.any (later3 key t))) ∧ Below w.heap.size w w' := by
  obtain ⟨vv, wv, ev, s⟩ := x
  have HX := Lib.hid hx.vs
  obtain ⟨a, n, c, hwv, rfl, hm, -⟩ := (show RdVer3 w vv s.vs from hx.vs).at
  subst hwv
  simp only at HX
  have HB := Lib.hid ((Below.refl w.heap.size w).alloc (Nat.le_refl _) (.cells (rsC ⟨.slice a s.vs.length c, wv, ev, s⟩) 52))
  clear hx
  unfold rsV rsC at *
  simp only at HB
  go_enter Try.func74, Try.ntmps74
  go_wp2_with fail
  generalize (w.alloc (.cells #[.bool s.serial, vi s.bugs, .slice a s.vs.length c, wv, ev] 52)) = w1 at *
  go_loopw [12] (fun i wr => ∃ k : Nat, k ≤ s.vs.length ∧ i = vi k ∧ Hid (Below w.heap.size w wr) ∧ Hid (∀ o ∈ s.vs.take k, later3 key t o = false)) (fun i _ => s.vs.length - (intOf i).toNat)
  case atStart => exact ⟨0, Nat.zero_le _, rfl, HB, Lib.hid (by simp)⟩
  case round =>
    obtain ⟨wj, rfl⟩ : ∃ wj : World, wj = wr := ⟨_, rfl⟩
    obtain ⟨k, hk, rfl, HJ, HN⟩ := hrel
    by_cases hlt : k < s.vs.length
    · have k1 : decide ((k : Int) < s.vs.length) = true := decide_eq_true (by omega)
      have k2 : (k : Int) < s.vs.length := by omega
      have hwk : IntKind.i64.wrap ((k : Int) + 1) = (k : Int) + 1 := IntWalk.i64_in _ (by omega)
      obtain ⟨o, ho⟩ := some_at hlt
      obtain ⟨g, off, ha, c0, c1, c2⟩ := (HX.out.later HJ.out).el ho
      subst ha
      have HO := Lib.hid ho
      have hsz := HJ.out.size
      clear ho
      have stop : later3 key t o = false → (∃ k_1 : Nat, k_1 ≤ s.vs.length ∧ vi ((k : Int) + 1) = vi k_1 ∧ Hid (Below w.heap.size w (wj.alloc (.cells #[vi o.key, vi o.at_, vi o.val] 151))) ∧ Hid (∀ o ∈ s.vs.take k_1, later3 key t o = false)) := fun hq =>
        ⟨k + 1, by omega, by go_num, Lib.hid (HJ.out.alloc hsz _), Lib.hid (any_take HN.out HO.out hq)⟩
      have STOP := Lib.hid stop
      clear stop
      cases hq1 : (o.key == key) with
      | true =>
        cases hq2 : decide (t < o.at_) with
        | true =>
          have hr : s.vs.any (later3 key t) = true := any_some HO.out (by unfold later3; rw [hq1, hq2]; rfl)
          go_wp2_with fail
          go_ret
          exact ⟨by rw [hr]; rfl, HJ.out.alloc hsz _⟩
        | false =>
          go_wp2_with fail
          exact ⟨STOP.out (by unfold later3; rw [hq1, hq2]; rfl), by simp only [intOf]; omega⟩
      | false =>
        go_wp2_with fail
        exact ⟨STOP.out (by unfold later3; rw [hq1]; rfl), by simp only [intOf]; omega⟩
    · have k1 : decide ((k : Int) < s.vs.length) = false := decide_eq_false (by omega)
      have hr : s.vs.any (later3 key t) = false := any_none HN.out hlt
      go_wp2_with fail
      go_ret
      exact ⟨by rw [hr]; rfl, HJ.out⟩
end Go.Proofs.Ytdkkpkgfiodlbaa
