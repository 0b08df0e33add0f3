/- A store of versions in memory: its block, its three maps, the rows that they hold. mvcc.New; what is kept of cells. -/
import Derived.Test.YtbadpfcjoobniaaMaps2
import Derived.Test.YtbadpfcjoobniaaData
import Derived.Maps.Keyed
namespace Go.Proofs.Ytbadpfcjoobniaa
open Go.RowKit Go.Maps
open Go.ChangeShapes Go.WideShapes

def i64 (n : Int) : Prop := -9223372036854775808 ≤ n ∧ n ≤ 9223372036854775807
theorem alloc_at (w : World) (o : Obj) : (w.alloc o).heap[w.heap.size]? = some o := by show (w.heap.push o)[w.heap.size]? = some o; simp
theorem cell_of {w : World} {b : Nat} {cs : Array Value} {T : TypeId} {fz : Nat × Nat} (h : w.heap[b]? = some (.cells cs T fz)) (o : Nat) : w.cell? ⟨b, o, none⟩ = cs[o]? := by
  simp [World.cell?, h]
theorem free_of {w : World} {b : Nat} {cs : Array Value} {T : TypeId} (h : w.heap[b]? = some (.cells cs T)) (o : Nat) : w.frozen? ⟨b, o, none⟩ = false := by
  simp [World.frozen?, h]

theorem intKeyed : Keyed Try.prog 3 := int_keyed Try.underlying3
theorem vi_inj (x y : Int) (h : vi x = vi y) : x = y := by simpa using h
theorem wf_of {n : Int} (h : i64 n) : (Lit.int .i64 n).wf = true := by
  simp [Lit.wf, IntKind.min, IntKind.max, IntKind.signed, IntKind.bits]; exact h
theorem intKey {n : Int} (h : i64 n) : ∃ kl, keyOf Try.prog 3 (vi n) = some kl := ⟨_, keyOf_int_mk Try.underlying3 (wf_of h)⟩

/-- All cells stay as they were (maps may turn). -/
def Solid (w w' : World) : Prop := ∀ (j : Nat) (cs : Array Value) (T : TypeId) (fz : Nat × Nat), w.heap[j]? = some (.cells cs T fz) → w'.heap[j]? = some (.cells cs T fz)
theorem Solid.refl (w : World) : Solid w w := fun _ _ _ _ h => h
theorem Solid.trans {a b c : World} (h : Solid a b) (k : Solid b c) : Solid a c := fun j cs T fz h1 => k j cs T fz (h j cs T fz h1)
theorem Solid.later {w A B : World} (h : Solid w A) (hb : Below A.heap.size A B) : Solid w B := fun j cs T fz h1 => by
  have := h j cs T fz h1
  exact (hb.block j (Array.getElem?_eq_some_iff.1 this).1).trans this
theorem Solid.below {A B : World} (hb : Below A.heap.size A B) : Solid A B := (Solid.refl A).later hb
theorem Solid.map {w A B : World} {m c : Nat} {es : Array MapEntry} (h : Solid w A) (hm : A.heap[m]? = some (.map es c)) (hg : A.grownBy B (some m)) : Solid w B := fun j cs T fz h1 => by
  have h3 := h j cs T fz h1
  refine (hg.block j (Array.getElem?_eq_some_iff.1 h3).1 fun e => ?_).trans h3
  have : j = m := by simpa using e
  subst this
  rw [hm] at h3; cases h3
theorem Solid.cell {A B : World} (h : Solid A B) {b o : Nat} {v : Value} (hc : A.cell? ⟨b, o, none⟩ = some v) : B.cell? ⟨b, o, none⟩ = some v := by
  unfold World.cell? at hc ⊢
  cases hA : A.heap[b]? with
  | none => simp [hA] at hc
  | some ob =>
    cases ob with
    | cells cs T fz => rw [h b _ _ _ hA]; simpa [hA] using hc
    | _ => simp [hA] at hc
theorem RdS.solid {α : Type} {n : Nat} {E : World → List Value → α → Prop} {A B : World} {v : Value} {xs : List α} (h : RdS n E A v xs) (hs : Solid A B) (hE : ∀ cs x, E A cs x → E B cs x) : RdS n E B v xs := by
  obtain ⟨a, len, cap, h1, h2, h3, h4, h5, h6⟩ := h
  refine ⟨a, len, cap, h1, h2, h3, h4, h5, fun j x hj => ?_⟩
  obtain ⟨b, off, cs, ha, hl, hc, he⟩ := h6 j x hj
  exact ⟨b, off, cs, ha, hl, fun i u hu => hs.cell (hc i u hu), hE _ _ he⟩
theorem RdOps.solid {A B : World} {v : Value} {l : List GOp} (h : RdOps A v l) (hs : Solid A B) : RdOps B v l := RdS.solid h hs fun _ _ h => h

abbrev RdInts (w : World) (v : Value) (xs : List Int) : Prop := RdS 1 EInt w v xs
theorem RdInts.at {w : World} {v : Value} {xs : List Int} (h : RdInts w v xs) : ∃ a len cap, v = .slice a len cap ∧ len = xs.length ∧ xs.length ≤ 9223372036854775807 ∧ ∀ j x, xs[j]? = some x → ∃ b off, a = some ⟨b, off, none⟩ ∧ w.cell? ⟨b, off + j, none⟩ = some (.int .i64 x) ∧ i64 x := by
  obtain ⟨a, len, cap, h1, h2, h3, h4, h5, h6⟩ := h
  refine ⟨a, len, cap, h1, h2, h3, fun j x hj => ?_⟩
  obtain ⟨b, off, cs, ha, hl, hc, rfl, hx⟩ := h6 j x hj
  exact ⟨b, off, ha, by have := hc 0 _ rfl; simpa using this, hx⟩
theorem RdInts.later {w w' : World} {v : Value} {xs : List Int} (h : RdInts w v xs) (hb : Below w.heap.size w w') : RdInts w' v xs := RdS.below h hb fun _ _ h => h
theorem RdInts.solid {A B : World} {v : Value} {l : List Int} (h : RdInts A v l) (hs : Solid A B) : RdInts B v l := RdS.solid h hs fun _ _ h => h

/-- A version: from which time on, the value. -/
abbrev Ver := Int × Int
def verV (x : Ver) : List Value := [vi x.1, vi x.2]
def EVer (_ : World) (cs : List Value) (x : Ver) : Prop := cs = verV x ∧ i64 x.1
abbrev RdVer (w : World) (v : Value) (l : List Ver) : Prop := RdS 2 EVer w v l
theorem RdVer.later {w w' : World} {v : Value} {xs : List Ver} (h : RdVer w v xs) (hb : Below w.heap.size w w') : RdVer w' v xs := RdS.below h hb fun _ _ h => h
theorem RdVer.solid {A B : World} {v : Value} {l : List Ver} (h : RdVer A v l) (hs : Solid A B) : RdVer B v l := RdS.solid h hs fun _ _ h => h
theorem RdVer.at {w : World} {v : Value} {xs : List Ver} (h : RdVer w v xs) : ∃ a len cap, v = .slice a len cap ∧ len = xs.length ∧ xs.length ≤ 9223372036854775807 ∧ ∀ j x, xs[j]? = some x → ∃ b off, a = some ⟨b, off, none⟩ ∧ w.cell? ⟨b, off + j * 2, none⟩ = some (vi x.1) ∧ w.cell? ⟨b, off + j * 2 + 1, none⟩ = some (vi x.2) ∧ i64 x.1 := by
  obtain ⟨a, len, cap, h1, h2, h3, h4, h5, h6⟩ := h
  refine ⟨a, len, cap, h1, h2, h3, fun j x hj => ?_⟩
  obtain ⟨b, off, cs, ha, hl, hc, rfl, hx⟩ := h6 j x hj
  exact ⟨b, off, ha, by simpa using hc 0 _ rfl, by simpa [Nat.add_assoc] using hc 1 _ rfl, hx⟩

/-- A transaction that waits. -/
structure Rdy where
  txn : Int
  home : Int
  start : Int
  writes : List GOp
  reads : List Int
/-- .. and the slice values that its lists lie in. -/
structure RV where
  wv : Value
  rv : Value
  r : Rdy
def rdyC (x : RV) : Array Value := #[vi x.r.txn, vi x.r.home, vi x.r.start, x.wv, x.rv]
def rdyV (x : RV) : Value := .agg (rdyC x)
structure RdyS (W : World) (x : RV) : Prop where
  ws : RdOps W x.wv x.r.writes
  rs : RdInts W x.rv x.r.reads
theorem RdyS.solid {A B : World} {x : RV} (h : RdyS A x) (hs : Solid A B) : RdyS B x := ⟨h.ws.solid hs, h.rs.solid hs⟩
theorem RdyS.later {A B : World} {x : RV} (h : RdyS A x) (hb : Below A.heap.size A B) : RdyS B x := h.solid (Solid.below hb)
/-- What became of a transaction. -/
structure EndM where
  txn : Int
  commit : Bool
  at_ : Int
deriving DecidableEq
def endV (e : EndM) : Value := .agg #[vi e.txn, .bool e.commit, vi e.at_]

abbrev KV := Value × List Ver
abbrev KeysL := List (Int × KV)
abbrev RdyL := List (Int × RV)
abbrev EndL := List (Int × EndM)
abbrev MapK (w : World) (b : Nat) (L : KeysL) : Prop := MapT Try.prog 3 vi (fun x : KV => x.1) w b L
abbrev MapR (w : World) (b : Nat) (L : RdyL) : Prop := MapT Try.prog 3 vi rdyV w b L
abbrev MapE (w : World) (b : Nat) (L : EndL) : Prop := MapT Try.prog 3 vi endV w b L

structure MvS (base p mk mr me : Nat) (serial : Bool) (bugs : Int) (K : KeysL) (R : RdyL) (E : EndL) (W : World) : Prop where
  blk : W.heap[p]? = some (.cells #[.bool serial, vi bugs, .map (some mk), .map (some mr), .map (some me)] 95)
  keys : MapK W mk K
  ready : MapR W mr R
  ends : MapE W me E
  krow : ∀ x ∈ K, RdVer W x.2.1 x.2.2
  rrow : ∀ x ∈ R, RdyS W x.2
  bp : base ≤ p
  bk : base ≤ mk
  br : base ≤ mr
  be : base ≤ me
  kr : mk ≠ mr
  ke : mk ≠ me
  re : mr ≠ me
theorem MvS.later {base p mk mr me : Nat} {serial : Bool} {bugs : Int} {K : KeysL} {R : RdyL} {E : EndL} {A B : World} (h : MvS base p mk mr me serial bugs K R E A) (hb : Below A.heap.size A B) : MvS base p mk mr me serial bugs K R E B :=
  ⟨(hb.block p (Array.getElem?_eq_some_iff.1 h.blk).1).trans h.blk, h.keys.below hb h.keys.lt, h.ready.below hb h.ready.lt, h.ends.below hb h.ends.lt, fun x hx => (h.krow x hx).later hb, fun x hx => (h.rrow x hx).later hb, h.bp, h.bk, h.br, h.be, h.kr, h.ke, h.re⟩

theorem MapT.obj {κ ν : Type} {P : Program} {k : TypeId} {eK : κ → Value} {eV : ν → Value} {w : World} {b : Nat} {L : List (κ × ν)} (h : MapT P k eK eV w b L) : ∃ es c, w.heap[b]? = some (.map es c) := by
  obtain ⟨es, c, hb, _⟩ := h; exact ⟨es, c, hb⟩

theorem Try.infoI : (Try.prog.info? 3).map (fun i => (i.zero, i.size, i.bytes)) = some (some (vi 0), 1, 8) := by kernel_rfl
theorem eltI : Elt Try.prog 27 3 1 8 (vi 0) := by
  obtain ⟨i0, hi, hz0, hz1, hz2⟩ := info_parts Try.infoI
  exact ⟨Try.underlying27, by decide, rfl, i0, hi, hz0, hz1, hz2⟩
theorem Try.infoVer : (Try.prog.info? 70).map (fun i => (i.zero, i.size, i.bytes)) = some (some (.agg #[vi 0, vi 0]), 2, 16) := by kernel_rfl
theorem eltVer : Elt Try.prog 46 70 2 16 (.agg #[vi 0, vi 0]) := by
  obtain ⟨i0, hi, hz0, hz1, hz2⟩ := info_parts Try.infoVer
  exact ⟨Try.underlying46, by decide, rfl, i0, hi, hz0, hz1, hz2⟩
def viC (p : Int) : List Value := [vi p]
/-- A row of ints that the call owns. -/
def OwI (base : Nat) (w : World) (v : Value) (xs : List Int) : Prop := w.ownsRow base 3 1 v xs.length (xs.flatMap viC)

def NewQ (w : World) (serial : Bool) (bugs : Int) (e : Ending) (w' : World) : Prop := ∃ p mk mr me, e = .returned (.pointer (some ⟨p, 0, none⟩)) ∧ MvS w.heap.size p mk mr me serial bugs [] [] [] w' ∧ Below w.heap.size w w'

set_option maxRecDepth 100000 in
set_option maxHeartbeats 1000000 in
theorem new_call (serial : Bool) (bugs : Int) (w : World) : Calls Try.prog 10 #[.bool serial, vi bugs] w (NewQ w serial bugs) := by
  have hmm := @run_makeMap Try.prog
  go_enter Try.func10, Try.ntmps10
  go_wp2_with fail
  go_ret
  have h1 : MapK (w.alloc (.map #[] 0)) w.heap.size [] := MapT.made w
  have h2 : MapR ((w.alloc (.map #[] 0)).alloc (.map #[] 0)) (w.alloc (.map #[] 0)).heap.size [] := MapT.made _
  have h3 : MapE (((w.alloc (.map #[] 0)).alloc (.map #[] 0)).alloc (.map #[] 0)) ((w.alloc (.map #[] 0)).alloc (.map #[] 0)).heap.size [] := MapT.made _
  refine ⟨w.heap.size + 3, w.heap.size, w.heap.size + 1, w.heap.size + 2, rfl, ⟨?_, ?_, ?_, ?_, (fun x hx => by cases hx), (fun x hx => by cases hx), by omega, Nat.le_refl _, by omega, by omega, by omega, by omega, by omega⟩, ?_⟩
  · have := alloc_at (((w.alloc (.map #[] 0)).alloc (.map #[] 0)).alloc (.map #[] 0)) (.cells #[.bool serial, vi bugs, .map (some w.heap.size), .map (some (w.heap.size + 1)), .map (some (w.heap.size + 2))] 95)
    simpa using this
  · exact h1.below ((((Below.refl (w.alloc (.map #[] 0)).heap.size (w.alloc (.map #[] 0))).alloc (Nat.le_refl _) _).alloc (by simp) _).alloc (by simp <;> omega) _) h1.lt
  · have := h2.below (((Below.refl ((w.alloc (.map #[] 0)).alloc (.map #[] 0)).heap.size ((w.alloc (.map #[] 0)).alloc (.map #[] 0))).alloc (Nat.le_refl _) (.map #[] 0)).alloc (by simp) (.cells #[.bool serial, vi bugs, .map (some w.heap.size), .map (some (w.heap.size + 1)), .map (some (w.heap.size + 2))] 95)) h2.lt
    simpa using this
  · have := h3.below ((Below.refl (((w.alloc (.map #[] 0)).alloc (.map #[] 0)).alloc (.map #[] 0)).heap.size (((w.alloc (.map #[] 0)).alloc (.map #[] 0)).alloc (.map #[] 0))).alloc (Nat.le_refl _) (.cells #[.bool serial, vi bugs, .map (some w.heap.size), .map (some (w.heap.size + 1)), .map (some (w.heap.size + 2))] 95)) h3.lt
    simpa using this
  · exact ((((Below.refl _ _).alloc (Nat.le_refl _) _).alloc (by simp) _).alloc (by simp <;> omega) _).alloc (by simp <;> omega) _
end Go.Proofs.Ytbadpfcjoobniaa
