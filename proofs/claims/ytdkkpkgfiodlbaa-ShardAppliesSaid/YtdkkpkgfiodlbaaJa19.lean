/- Texts of one proof, one behind the other: Rn21A, Rn21B, Rn21C, Rn21E. -/
import Derived.Test.YtdkkpkgfiodlbaaJa18
import Derived.Test.YtdkkpkgfiodlbaaJa11
set_option linter.all false
/- Layer 21's reference in memory: New, home; the law's plain and same. -/
namespace Go.Proofs.Ytdkkpkgfiodlbaa
open Go.RowKit Go.Maps
attribute [local go_sem] Oper.semAt_some

/-- The reference's state, and the slice values that its lists lie in. -/
structure RSh where
  vv : Value
  wv : Value
  ev : Value
  dv : Value
  m : ShM
def RSh.st (x : RSh) : RSV := ⟨x.vv, x.wv, x.ev, x.m.s⟩
def shC (x : RSh) : Array Value := #[.bool x.m.s.serial, vi x.m.s.bugs, x.vv, x.wv, x.ev, vi x.m.stamps, vi x.m.now, x.dv]
def shV (x : RSh) : Value := .agg (shC x)
structure RdSh (W : World) (x : RSh) : Prop where
  st : RdSt W x.st
  ds : RdEn W x.dv x.m.ds
theorem RdSh.later {A B : World} {x : RSh} (h : RdSh A x) (hb : Below A.heap.size A B) : RdSh B x := ⟨h.st.later hb, h.ds.later hb⟩
theorem RdSh.same {A B : World} {x : RSh} (h : RdSh A x) (hs : ∀ j, j < A.heap.size → B.heap[j]? = A.heap[j]?) : RdSh B x := ⟨RdSt.same h.st hs, RdS.same h.ds hs fun _ _ h => h⟩
theorem RdSh.le {A B : World} {x : RSh} (h : RdSh A x) (hs : CLe A B) : RdSh B x := ⟨RdSt.le h.st hs, RdS.le h.ds hs fun _ _ h => h⟩
/-- A is a part of w: what can be read there reads the same in w. -/
structure ALe (A w : World) : Prop where
  le : CLe A w
  size : A.heap.size ≤ w.heap.size
theorem ALe.of_below {A w : World} (h : Below A.heap.size A w) : ALe A w := ⟨CLe.of_below h, h.size⟩
theorem ALe.trans {A w W : World} (h : ALe A w) (k : Below A.heap.size w W) : ALe A W := ⟨fun b o v hv => by
  have h1 := World.block_lt_of_cell? A _ hv
  exact (World.cell?_of_block (a := ⟨b, o, none⟩) (k.block b h1)).trans (h.le b o v hv), Nat.le_trans h.size k.size⟩
theorem ALe.drew {A w : World} (h : ALe A w) : ALe A w.drew := h.trans (Below.refl _ _).drew
theorem RdSh.ale {A w : World} {x : RSh} (h : RdSh A x) (k : ALe A w) : RdSh w x := h.le k.le
theorem RdSt.ale {A w : World} {x : RSV} (h : RdSt A x) (k : ALe A w) : RdSt w x := h.le k.le
theorem RdEn.ale {A w : World} {v : Value} {l : List EndM} (h : RdEn A v l) (k : ALe A w) : RdEn w v l := RdS.le h k.le fun _ _ h => h
/-- A row of numbers that can be read. -/
abbrev RdV (w : World) (v : Value) (l : List Int) : Prop := RdS 1 (fun _ cs x => cs = viC x) w v l
theorem RdV.later {A B : World} {v : Value} {l : List Int} (h : RdV A v l) (hb : Below A.heap.size A B) : RdV B v l := RdS.below h hb fun _ _ h => h
theorem RdV.el {w : World} {a : Option Addr} {n c : Nat} {l : List Int} (h : RdV w (.slice a n c) l) {k : Nat} {x : Int} (ho : l[k]? = some x) : ∃ b off, a = some ⟨b, off, none⟩ ∧ w.cell? ⟨b, off + k, none⟩ = some (vi x) := by
  obtain ⟨a', len, cap, h1, h2, h3, h4, h5, h6⟩ := h
  simp only [Value.slice.injEq] at h1
  obtain ⟨rfl, -, -⟩ := h1
  obtain ⟨b, off, cs, ha, hl, hc, rfl⟩ := h6 k x ho
  exact ⟨b, off, ha, by simpa [viC] using hc 0 _ rfl⟩
theorem rdv_nil (w : World) : RdV w (.slice none 0 0) [] := ⟨none, 0, 0, rfl, rfl, by simp, Nat.le_refl _, fun _ => ⟨rfl, rfl⟩, fun j x hj => by simp at hj⟩
theorem RdSh.shapes {A : World} {x : RSh} (h : RdSh A x) : ∃ a1 c1 a2 c2 a3 c3 a4 c4, x = ⟨.slice a1 x.m.s.vs.length c1, .slice a2 x.m.s.ws.length c2, .slice a3 x.m.s.es.length c3, .slice a4 x.m.ds.length c4, x.m⟩ ∧ x.m.s.ws.length ≤ 9223372036854775807 ∧ x.m.ds.length ≤ 9223372036854775807 := by
  obtain ⟨vv, wv, ev, dv, m⟩ := x
  obtain ⟨a1, n1, c1, h1, rfl, hm1, -⟩ := (show RdVer3 A vv m.s.vs from h.st.vs).at
  obtain ⟨a2, n2, c2, h2, rfl, hm2, -⟩ := (show RdRdy A wv m.s.ws from h.st.ws).at
  obtain ⟨a3, n3, c3, h3, rfl, hm3, -⟩ := (show RdEn A ev m.s.es from h.st.es).at
  obtain ⟨a4, n4, c4, h4, rfl, hm4, -⟩ := (show RdEn A dv m.ds from h.ds).at
  subst h1 h2 h3 h4
  exact ⟨a1, c1, a2, c2, a3, c3, a4, c4, rfl, hm2, hm4⟩
theorem rd_nilSh (w : World) (serial : Bool) (bugs stamps : Int) : RdSh w ⟨.slice none 0 0, .slice none 0 0, .slice none 0 0, .slice none 0 0, ⟨⟨serial, bugs, [], [], []⟩, stamps, 0, []⟩⟩ :=
  ⟨⟨⟨none, 0, 0, rfl, rfl, by simp [RSh.st], Nat.le_refl _, fun _ => ⟨rfl, rfl⟩, fun j x hj => by simp [RSh.st] at hj⟩, ⟨none, 0, 0, rfl, rfl, by simp [RSh.st], Nat.le_refl _, fun _ => ⟨rfl, rfl⟩, fun j x hj => by simp [RSh.st] at hj⟩, ⟨none, 0, 0, rfl, rfl, by simp [RSh.st], Nat.le_refl _, fun _ => ⟨rfl, rfl⟩, fun j x hj => by simp [RSh.st] at hj⟩⟩, ⟨none, 0, 0, rfl, rfl, by simp, Nat.le_refl _, fun _ => ⟨rfl, rfl⟩, fun j x hj => by simp at hj⟩⟩

set_option maxRecDepth 1000000 in
set_option maxHeartbeats 8000000 in
theorem new21_call (serial : Bool) (bugs stamps : Int) (w : World) : Calls Try.prog 15 #[.bool serial, vi bugs, vi stamps] w fun e w' =>
    e = .returned (.agg #[.bool serial, vi bugs, .slice none 0 0, .slice none 0 0, .slice none 0 0, vi stamps, vi 0, .slice none 0 0]) ∧ Below w.heap.size w w' := by
  go_enter Try.func15, Try.ntmps15
  go_wp2_with fail
  refine bodyPost_ret (v := .agg #[.bool serial, vi bugs, .slice none 0 0, .slice none 0 0, .slice none 0 0, vi stamps, vi 0, .slice none 0 0]) (by simp [results, Try.results15, go_sem]) rfl ⟨rfl, ?_⟩
  exact (Below.refl _ _).alloc (Nat.le_refl _) _

theorem home_next {ws : List Rdy} {by_ : Int} {k : Nat} {r : Rdy} (h : ws[k]? = some r) (hn : ∀ x ∈ ws.take k, (x.txn == by_) = false) (hq : (r.txn == by_) = true) : homeM ws by_ = r.home := by
  unfold homeM
  have e : ws = ws.take k ++ r :: ws.drop (k + 1) := by
    have := List.take_append_drop k ws
    rw [List.drop_eq_getElem_cons (List.getElem?_eq_some_iff.1 h).1, (List.getElem?_eq_some_iff.1 h).2] at this
    exact this.symm
  rw [e, List.find?_append, List.find?_eq_none.2 (fun x hx => by rw [hn x hx]; decide), List.find?_cons, hq]
  rfl
theorem home_none {ws : List Rdy} {by_ : Int} {k : Nat} (hn : ∀ x ∈ ws.take k, (x.txn == by_) = false) (hk : ¬ k < ws.length) : homeM ws by_ = 0 := by
  unfold homeM
  rw [List.take_of_length_le (by omega)] at hn
  rw [List.find?_eq_none.2 (fun x hx => by rw [hn x hx]; decide)]; rfl

set_option maxRecDepth 1000000 in
set_option maxHeartbeats 8000000 in
theorem home21_call (x : RSh) (by_ : Int) (w : World) (hx : RdSh w x) :
    Calls Try.prog 38 #[shV x, vi by_] w fun e w' => e = .returned (vi (homeM x.m.s.ws by_)) ∧ Below w.heap.size w w' := by
  obtain ⟨a1, c1, a2, c2, a3, c3, a4, c4, hxe, hm2, -⟩ := hx.shapes
  have HX := Lib.hid (show RdRdy w (.slice a2 x.m.s.ws.length c2) x.m.s.ws from by
    have h := hx.st.ws
    unfold RSh.st at h
    rw [hxe] at h; exact h)
  have hsv : shV x = .agg #[.bool x.m.s.serial, vi x.m.s.bugs, .slice a1 x.m.s.vs.length c1, .slice a2 x.m.s.ws.length c2, .slice a3 x.m.s.es.length c3, vi x.m.stamps, vi x.m.now, .slice a4 x.m.ds.length c4] := by unfold shV shC; rw [hxe]
  rw [hsv]
  have HB := Lib.hid ((Below.refl w.heap.size w).alloc (Nat.le_refl _) (.cells #[.bool x.m.s.serial, vi x.m.s.bugs, .slice a1 x.m.s.vs.length c1, .slice a2 x.m.s.ws.length c2, .slice a3 x.m.s.es.length c3, vi x.m.stamps, vi x.m.now, .slice a4 x.m.ds.length c4] 54))
  clear hxe hsv hx
  go_enter Try.func38, Try.ntmps38
  go_wp2_with fail
  generalize w.alloc (.cells #[.bool x.m.s.serial, vi x.m.s.bugs, .slice a1 x.m.s.vs.length c1, .slice a2 x.m.s.ws.length c2, .slice a3 x.m.s.es.length c3, vi x.m.stamps, vi x.m.now, .slice a4 x.m.ds.length c4] 54) = w1 at *
  go_loopw [11] (fun i wr => ∃ k : Nat, k ≤ x.m.s.ws.length ∧ i = vi k ∧ Hid (Below w.heap.size w wr) ∧ Hid (∀ r ∈ x.m.s.ws.take k, (r.txn == by_) = false)) (fun i _ => x.m.s.ws.length - (intOf i).toNat)
  case atStart => exact ⟨0, Nat.zero_le _, rfl, HB, Lib.hid (by simp)⟩
  case round =>
    obtain ⟨wj, rfl⟩ : ∃ wj : World, wj = wr := ⟨_, rfl⟩
    obtain ⟨k, hk, rfl, HJ, HN⟩ := hrel
    by_cases hlt : k < x.m.s.ws.length
    · have k1 : decide ((k : Int) < x.m.s.ws.length) = true := decide_eq_true (by omega)
      have k2 : (k : Int) < x.m.s.ws.length := by omega
      have hwk : IntKind.i64.wrap ((k : Int) + 1) = (k : Int) + 1 := IntWalk.i64_in _ (by omega)
      obtain ⟨r, hr⟩ := some_at hlt
      obtain ⟨b, off, rw_, rr, ha, hrs, c0, c1', c2', c3', c4'⟩ := (HX.out.later HJ.out).el hr
      subst ha
      obtain ⟨b1, l1, e1, rfl, -, -, -⟩ := (show RdOps wj rw_ r.writes from hrs.ws).at
      obtain ⟨b2, l2, e2, rfl, -, -, -⟩ := (show RdInts wj rr r.reads from hrs.rs).at
      have HR := Lib.hid hr
      have hsz := HJ.out.size
      clear hr hrs
      cases hq : (r.txn == by_) with
      | true =>
        go_wp2_with fail
        go_ret
        exact ⟨by rw [home_next HR.out HN.out hq]; rfl, HJ.out.alloc hsz _⟩
      | false =>
        go_wp2_with fail
        exact ⟨⟨k + 1, by omega, by go_num, Lib.hid (HJ.out.alloc hsz _), Lib.hid (any_take HN.out HR.out hq)⟩, by simp only [intOf]; omega⟩
    · have k1 : decide ((k : Int) < x.m.s.ws.length) = false := decide_eq_false (by omega)
      go_wp2_with fail
      go_ret
      exact ⟨by rw [home_none HN.out hlt]; rfl, HJ.out⟩

theorem rn_set8 {W : World} {b : Nat} {c0 c1 c2 c3 c4 c5 c6 c7 : Value} {T : TypeId} (v0 v1 v2 v3 v4 v5 v6 v7 : Value) (h : W.heap[b]? = some (.cells #[c0, c1, c2, c3, c4, c5, c6, c7] T)) : ((((((((W.setCell ⟨b, 0, none⟩ v0).setCell ⟨b, 1, none⟩ v1).setCell ⟨b, 2, none⟩ v2).setCell ⟨b, 3, none⟩ v3).setCell ⟨b, 4, none⟩ v4).setCell ⟨b, 5, none⟩ v5).setCell ⟨b, 6, none⟩ v6).setCell ⟨b, 7, none⟩ v7).heap[b]? = some (.cells #[v0, v1, v2, v3, v4, v5, v6, v7] T) := by
  have h0 := h
  have h1 : (W.setCell ⟨b, 0, none⟩ v0).heap[b]? = some (.cells #[v0, c1, c2, c3, c4, c5, c6, c7] T) := by rw [rn_set v0 h0]; rfl
  have h2 : ((W.setCell ⟨b, 0, none⟩ v0).setCell ⟨b, 1, none⟩ v1).heap[b]? = some (.cells #[v0, v1, c2, c3, c4, c5, c6, c7] T) := by rw [rn_set v1 h1]; rfl
  have h3 : (((W.setCell ⟨b, 0, none⟩ v0).setCell ⟨b, 1, none⟩ v1).setCell ⟨b, 2, none⟩ v2).heap[b]? = some (.cells #[v0, v1, v2, c3, c4, c5, c6, c7] T) := by rw [rn_set v2 h2]; rfl
  have h4 : ((((W.setCell ⟨b, 0, none⟩ v0).setCell ⟨b, 1, none⟩ v1).setCell ⟨b, 2, none⟩ v2).setCell ⟨b, 3, none⟩ v3).heap[b]? = some (.cells #[v0, v1, v2, v3, c4, c5, c6, c7] T) := by rw [rn_set v3 h3]; rfl
  have h5 : (((((W.setCell ⟨b, 0, none⟩ v0).setCell ⟨b, 1, none⟩ v1).setCell ⟨b, 2, none⟩ v2).setCell ⟨b, 3, none⟩ v3).setCell ⟨b, 4, none⟩ v4).heap[b]? = some (.cells #[v0, v1, v2, v3, v4, c5, c6, c7] T) := by rw [rn_set v4 h4]; rfl
  have h6 : ((((((W.setCell ⟨b, 0, none⟩ v0).setCell ⟨b, 1, none⟩ v1).setCell ⟨b, 2, none⟩ v2).setCell ⟨b, 3, none⟩ v3).setCell ⟨b, 4, none⟩ v4).setCell ⟨b, 5, none⟩ v5).heap[b]? = some (.cells #[v0, v1, v2, v3, v4, v5, c6, c7] T) := by rw [rn_set v5 h5]; rfl
  have h7 : (((((((W.setCell ⟨b, 0, none⟩ v0).setCell ⟨b, 1, none⟩ v1).setCell ⟨b, 2, none⟩ v2).setCell ⟨b, 3, none⟩ v3).setCell ⟨b, 4, none⟩ v4).setCell ⟨b, 5, none⟩ v5).setCell ⟨b, 6, none⟩ v6).heap[b]? = some (.cells #[v0, v1, v2, v3, v4, v5, v6, c7] T) := by rw [rn_set v6 h6]; rfl
  have h8 : ((((((((W.setCell ⟨b, 0, none⟩ v0).setCell ⟨b, 1, none⟩ v1).setCell ⟨b, 2, none⟩ v2).setCell ⟨b, 3, none⟩ v3).setCell ⟨b, 4, none⟩ v4).setCell ⟨b, 5, none⟩ v5).setCell ⟨b, 6, none⟩ v6).setCell ⟨b, 7, none⟩ v7).heap[b]? = some (.cells #[v0, v1, v2, v3, v4, v5, v6, v7] T) := by rw [rn_set v7 h7]; rfl
  exact h8
theorem rn_oth8 {W : World} {b j : Nat} {v0 v1 v2 v3 v4 v5 v6 v7 : Value} (hj : j ≠ b) : ((((((((W.setCell ⟨b, 0, none⟩ v0).setCell ⟨b, 1, none⟩ v1).setCell ⟨b, 2, none⟩ v2).setCell ⟨b, 3, none⟩ v3).setCell ⟨b, 4, none⟩ v4).setCell ⟨b, 5, none⟩ v5).setCell ⟨b, 6, none⟩ v6).setCell ⟨b, 7, none⟩ v7).heap[j]? = W.heap[j]? := by
  rw [Below.heap_setCell _ _ _ _ hj, Below.heap_setCell _ _ _ _ hj, Below.heap_setCell _ _ _ _ hj, Below.heap_setCell _ _ _ _ hj, Below.heap_setCell _ _ _ _ hj, Below.heap_setCell _ _ _ _ hj, Below.heap_setCell _ _ _ _ hj, Below.heap_setCell _ _ _ _ hj]
theorem rn_below8 {W : World} {b N : Nat} (v0 v1 v2 v3 v4 v5 v6 v7 : Value) (h : N ≤ b) : Below N W ((((((((W.setCell ⟨b, 0, none⟩ v0).setCell ⟨b, 1, none⟩ v1).setCell ⟨b, 2, none⟩ v2).setCell ⟨b, 3, none⟩ v3).setCell ⟨b, 4, none⟩ v4).setCell ⟨b, 5, none⟩ v5).setCell ⟨b, 6, none⟩ v6).setCell ⟨b, 7, none⟩ v7) :=
  (((((((((Below.refl N W).setCell h _).setCell h _).setCell h _).setCell h _).setCell h _).setCell h _).setCell h _).setCell h _)
theorem rn_set9 {W : World} {b : Nat} {c0 c1 c2 c3 c4 c5 c6 c7 c8 : Value} {T : TypeId} (v0 v1 v2 v3 v4 v5 v6 v7 v8 : Value) (h : W.heap[b]? = some (.cells #[c0, c1, c2, c3, c4, c5, c6, c7, c8] T)) : (((((((((W.setCell ⟨b, 0, none⟩ v0).setCell ⟨b, 1, none⟩ v1).setCell ⟨b, 2, none⟩ v2).setCell ⟨b, 3, none⟩ v3).setCell ⟨b, 4, none⟩ v4).setCell ⟨b, 5, none⟩ v5).setCell ⟨b, 6, none⟩ v6).setCell ⟨b, 7, none⟩ v7).setCell ⟨b, 8, none⟩ v8).heap[b]? = some (.cells #[v0, v1, v2, v3, v4, v5, v6, v7, v8] T) := by
  have h0 := h
  have h1 : (W.setCell ⟨b, 0, none⟩ v0).heap[b]? = some (.cells #[v0, c1, c2, c3, c4, c5, c6, c7, c8] T) := by rw [rn_set v0 h0]; rfl
  have h2 : ((W.setCell ⟨b, 0, none⟩ v0).setCell ⟨b, 1, none⟩ v1).heap[b]? = some (.cells #[v0, v1, c2, c3, c4, c5, c6, c7, c8] T) := by rw [rn_set v1 h1]; rfl
  have h3 : (((W.setCell ⟨b, 0, none⟩ v0).setCell ⟨b, 1, none⟩ v1).setCell ⟨b, 2, none⟩ v2).heap[b]? = some (.cells #[v0, v1, v2, c3, c4, c5, c6, c7, c8] T) := by rw [rn_set v2 h2]; rfl
  have h4 : ((((W.setCell ⟨b, 0, none⟩ v0).setCell ⟨b, 1, none⟩ v1).setCell ⟨b, 2, none⟩ v2).setCell ⟨b, 3, none⟩ v3).heap[b]? = some (.cells #[v0, v1, v2, v3, c4, c5, c6, c7, c8] T) := by rw [rn_set v3 h3]; rfl
  have h5 : (((((W.setCell ⟨b, 0, none⟩ v0).setCell ⟨b, 1, none⟩ v1).setCell ⟨b, 2, none⟩ v2).setCell ⟨b, 3, none⟩ v3).setCell ⟨b, 4, none⟩ v4).heap[b]? = some (.cells #[v0, v1, v2, v3, v4, c5, c6, c7, c8] T) := by rw [rn_set v4 h4]; rfl
  have h6 : ((((((W.setCell ⟨b, 0, none⟩ v0).setCell ⟨b, 1, none⟩ v1).setCell ⟨b, 2, none⟩ v2).setCell ⟨b, 3, none⟩ v3).setCell ⟨b, 4, none⟩ v4).setCell ⟨b, 5, none⟩ v5).heap[b]? = some (.cells #[v0, v1, v2, v3, v4, v5, c6, c7, c8] T) := by rw [rn_set v5 h5]; rfl
  have h7 : (((((((W.setCell ⟨b, 0, none⟩ v0).setCell ⟨b, 1, none⟩ v1).setCell ⟨b, 2, none⟩ v2).setCell ⟨b, 3, none⟩ v3).setCell ⟨b, 4, none⟩ v4).setCell ⟨b, 5, none⟩ v5).setCell ⟨b, 6, none⟩ v6).heap[b]? = some (.cells #[v0, v1, v2, v3, v4, v5, v6, c7, c8] T) := by rw [rn_set v6 h6]; rfl
  have h8 : ((((((((W.setCell ⟨b, 0, none⟩ v0).setCell ⟨b, 1, none⟩ v1).setCell ⟨b, 2, none⟩ v2).setCell ⟨b, 3, none⟩ v3).setCell ⟨b, 4, none⟩ v4).setCell ⟨b, 5, none⟩ v5).setCell ⟨b, 6, none⟩ v6).setCell ⟨b, 7, none⟩ v7).heap[b]? = some (.cells #[v0, v1, v2, v3, v4, v5, v6, v7, c8] T) := by rw [rn_set v7 h7]; rfl
  have h9 : (((((((((W.setCell ⟨b, 0, none⟩ v0).setCell ⟨b, 1, none⟩ v1).setCell ⟨b, 2, none⟩ v2).setCell ⟨b, 3, none⟩ v3).setCell ⟨b, 4, none⟩ v4).setCell ⟨b, 5, none⟩ v5).setCell ⟨b, 6, none⟩ v6).setCell ⟨b, 7, none⟩ v7).setCell ⟨b, 8, none⟩ v8).heap[b]? = some (.cells #[v0, v1, v2, v3, v4, v5, v6, v7, v8] T) := by rw [rn_set v8 h8]; rfl
  exact h9
theorem rn_oth9 {W : World} {b j : Nat} {v0 v1 v2 v3 v4 v5 v6 v7 v8 : Value} (hj : j ≠ b) : (((((((((W.setCell ⟨b, 0, none⟩ v0).setCell ⟨b, 1, none⟩ v1).setCell ⟨b, 2, none⟩ v2).setCell ⟨b, 3, none⟩ v3).setCell ⟨b, 4, none⟩ v4).setCell ⟨b, 5, none⟩ v5).setCell ⟨b, 6, none⟩ v6).setCell ⟨b, 7, none⟩ v7).setCell ⟨b, 8, none⟩ v8).heap[j]? = W.heap[j]? := by
  rw [Below.heap_setCell _ _ _ _ hj, Below.heap_setCell _ _ _ _ hj, Below.heap_setCell _ _ _ _ hj, Below.heap_setCell _ _ _ _ hj, Below.heap_setCell _ _ _ _ hj, Below.heap_setCell _ _ _ _ hj, Below.heap_setCell _ _ _ _ hj, Below.heap_setCell _ _ _ _ hj, Below.heap_setCell _ _ _ _ hj]
theorem rn_below9 {W : World} {b N : Nat} (v0 v1 v2 v3 v4 v5 v6 v7 v8 : Value) (h : N ≤ b) : Below N W (((((((((W.setCell ⟨b, 0, none⟩ v0).setCell ⟨b, 1, none⟩ v1).setCell ⟨b, 2, none⟩ v2).setCell ⟨b, 3, none⟩ v3).setCell ⟨b, 4, none⟩ v4).setCell ⟨b, 5, none⟩ v5).setCell ⟨b, 6, none⟩ v6).setCell ⟨b, 7, none⟩ v7).setCell ⟨b, 8, none⟩ v8) :=
  ((((((((((Below.refl N W).setCell h _).setCell h _).setCell h _).setCell h _).setCell h _).setCell h _).setCell h _).setCell h _).setCell h _)
end Go.Proofs.Ytdkkpkgfiodlbaa

/- Layer 21's law: plain, a command as the reference reads it. -/
namespace Go.Proofs.Ytdkkpkgfiodlbaa
open Go.RowKit Go.Maps
attribute [local go_sem] Oper.semAt_some

theorem own_set9 {W : World} {N e n m b : Nat} {v v0 v1 v2 v3 v4 v5 v6 v7 v8 : Value} {xs : List Value} (h : W.ownsRow N e n v m xs) (hb : some b ≠ v.ownBlock) :
    (((((((((W.setCell ⟨b, 0, none⟩ v0).setCell ⟨b, 1, none⟩ v1).setCell ⟨b, 2, none⟩ v2).setCell ⟨b, 3, none⟩ v3).setCell ⟨b, 4, none⟩ v4).setCell ⟨b, 5, none⟩ v5).setCell ⟨b, 6, none⟩ v6).setCell ⟨b, 7, none⟩ v7).setCell ⟨b, 8, none⟩ v8).ownsRow N e n v m xs :=
  own_set_ne (own_set_ne (own_set_ne (own_set_ne (own_set_ne (own_set_ne (own_set_ne (own_set_ne (own_set_ne h hb) hb) hb) hb) hb) hb) hb) hb) hb
def killO (o : GOp) : GOp := ⟨2, o.key, o.val⟩
structure PlI (w : World) (k : Int) (r : Rdy) (e : EndM) (wv rv : Value) (N : Nat) (j : Nat) (v : Value) (W : World) : Prop where
  cmd : W.heap[w.heap.size]? = some (.cells #[vi k, vi r.txn, vi r.home, vi r.start, wv, rv, vi e.txn, .bool e.commit, vi e.at_] 33)
  res : W.heap[w.heap.size + 1]? = some (.cells #[vi 0, vi 0, vi 0, vi 0, .slice none 0 0, .slice none 0 0, vi 0, .bool false, vi 0] 63)
  box : W.heap[w.heap.size + 2]? = some (.cells #[vi r.txn, vi r.home, vi r.start, v, rv] 61)
  row : W.ownsRow N 104 3 v j (((r.writes.take j).map killO).flatMap opV)
  below : Below w.heap.size w W
  base : w.heap.size + 2 < N ∧ N ≤ W.heap.size
theorem PlI.later {w : World} {k : Int} {r : Rdy} {e : EndM} {wv rv v : Value} {N j : Nat} {A B : World} (h : PlI w k r e wv rv N j v A) (hb : Below A.heap.size A B) : PlI w k r e wv rv N j v B :=
  ⟨(hb.block _ (Array.getElem?_eq_some_iff.1 h.cmd).1).trans h.cmd, (hb.block _ (Array.getElem?_eq_some_iff.1 h.res).1).trans h.res, (hb.block _ (Array.getElem?_eq_some_iff.1 h.box).1).trans h.box, own_below h.row hb, h.below.trans (hb.mono h.below.size), ⟨h.base.1, Nat.le_trans h.base.2 hb.size⟩⟩
theorem PlI.push {w : World} {k : Int} {r : Rdy} {e : EndM} {wv rv v v' : Value} {N j : Nat} {A B : World} {o : GOp} (h : PlI w k r e wv rv N j v A) (ho : r.writes[j]? = some o) (hg : A.grownBy B v.ownBlock) (hr : B.ownsRow N 104 3 v' (j + 1) (((r.writes.take j).map killO).flatMap opV ++ opV (killO o))) :
    B.cell? ⟨w.heap.size + 2, 3, none⟩ = some v ∧ B.frozen? ⟨w.heap.size + 2, 3, none⟩ = false ∧ PlI w k r e wv rv N (j + 1) v' (B.setCell ⟨w.heap.size + 2, 3, none⟩ v') := by
  have n0 := own_neR h.row h.cmd (by decide)
  have n1 := own_neR h.row h.res (by decide)
  have n2 := own_neR h.row h.box (by decide)
  have b0 := (hg.block _ (Array.getElem?_eq_some_iff.1 h.cmd).1 n0).trans h.cmd
  have b1 := (hg.block _ (Array.getElem?_eq_some_iff.1 h.res).1 n1).trans h.res
  have b2 := (hg.block _ (Array.getElem?_eq_some_iff.1 h.box).1 n2).trans h.box
  refine ⟨by rw [cell_of b2]; rfl, free_of b2 3, ?_, ?_, ?_, ?_, ?_, h.base.1, ?_⟩
  · rw [Below.heap_setCell _ _ _ _ (show w.heap.size ≠ w.heap.size + 2 by omega)]; exact b0
  · rw [Below.heap_setCell _ _ _ _ (show w.heap.size + 1 ≠ w.heap.size + 2 by omega)]; exact b1
  · rw [rn_set v' b2]; rfl
  · have := own_set_ne (b := w.heap.size + 2) (o := 3) (u := v') hr (own_neR hr b2 (by decide))
    rw [List.take_add_one, ho]
    simpa using this
  · exact (h.below.grown hg (h.below.size) (fun g hgg => by
      have := (h.row.lt g hgg).1
      have := h.base.1; omega)).setCell (show w.heap.size ≤ w.heap.size + 2 by omega) _
  · show N ≤ (B.setCell _ _).heap.size
    have := hg.size
    have := h.base.2
    simp [World.setCell]; omega

set_option maxRecDepth 1000000 in
set_option maxHeartbeats 16000000 in
theorem plain_call (c : Cmd21) (wv rv : Value) (w : World) (hr : RdyS w ⟨wv, rv, c.r⟩) (hl : c.r.writes.length ≤ 1000) :
    Calls Try.prog 17 #[cmdV c wv rv] w fun e w' => ∃ wv', e = .returned (cmdV ⟨c.k, killK c.r, c.e⟩ wv' rv) ∧ RdyS w' ⟨wv', rv, killK c.r⟩ ∧ Below w.heap.size w w' := by
  obtain ⟨k, r, e⟩ := c
  obtain ⟨aw, nw, cw, hwv, rfl, -, -⟩ := (show RdOps w wv r.writes from hr.ws).at
  obtain ⟨ar, nr, cr, hrv, rfl, -, -⟩ := (show RdInts w rv r.reads from hr.rs).at
  subst hwv hrv
  have HR := Lib.hid hr
  simp only at hl
  clear hr
  have HP := Lib.hid (show PlI w k r e (.slice aw r.writes.length cw) (.slice ar r.reads.length cr) (w.heap.size + 3) 0 (.slice none 0 0)
      (((w.alloc (.cells #[vi k, vi r.txn, vi r.home, vi r.start, .slice aw r.writes.length cw, .slice ar r.reads.length cr, vi e.txn, .bool e.commit, vi e.at_] 33)).alloc (.cells #[vi 0, vi 0, vi 0, vi 0, .slice none 0 0, .slice none 0 0, vi 0, .bool false, vi 0] 63)).alloc (.cells #[vi r.txn, vi r.home, vi r.start, .slice none 0 0, .slice ar r.reads.length cr] 61)) from by
    refine ⟨?_, ?_, ?_, World.ownsRow_nil _ _ _ _, (((Below.refl _ _).alloc (Nat.le_refl _) _).alloc (by simp) _).alloc (by simp <;> omega) _, by omega, by simp⟩
    · rw [heap_al, if_neg (by rw [size_al, size_al]; omega), heap_al, if_neg (by rw [size_al]; omega)]; exact alloc_at w _
    · rw [heap_al, if_neg (by simp), ← size_al w (.cells #[vi k, vi r.txn, vi r.home, vi r.start, .slice aw r.writes.length cw, .slice ar r.reads.length cr, vi e.txn, .bool e.commit, vi e.at_] 33)]; exact alloc_at _ _
    · exact heap_top (by simp))
  unfold cmdV cmdC
  go_enter Try.func17, Try.ntmps17
  go_upto_region 3 with fail
  generalize (((w.alloc (.cells #[vi k, vi r.txn, vi r.home, vi r.start, .slice aw r.writes.length cw, .slice ar r.reads.length cr, vi e.txn, .bool e.commit, vi e.at_] 33)).alloc (.cells #[vi 0, vi 0, vi 0, vi 0, .slice none 0 0, .slice none 0 0, vi 0, .bool false, vi 0] 63)).alloc (.cells #[vi r.txn, vi r.home, vi r.start, .slice none 0 0, .slice ar r.reads.length cr] 61)) = w3 at *
  have x4 : w3.cell? ⟨w.heap.size, 4, none⟩ = some (.slice aw r.writes.length cw) := by rw [cell_of HP.out.cmd]; rfl
  obtain ⟨X, hX⟩ : ∃ X, X = w.heap.size := ⟨_, rfl⟩
  obtain ⟨N, hN⟩ : ∃ N, N = w.heap.size + 3 := ⟨_, rfl⟩
  rw [← hN] at HP
  rw [← hX] at x4 ⊢
  have HX := Lib.hid hX
  clear hX hN
  go_wp2_with fail
  clear x4
  go_loopw [13] (fun i wr => ∃ (j : Nat) (v : Value), j ≤ r.writes.length ∧ i = vi j ∧ Hid (PlI w k r e (.slice aw r.writes.length cw) (.slice ar r.reads.length cr) N j v wr)) (fun i _ => r.writes.length - (intOf i).toNat)
  case atStart => exact ⟨0, _, Nat.zero_le _, rfl, HP⟩
  case round =>
    obtain ⟨wj, rfl⟩ : ∃ wj : World, wj = wr := ⟨_, rfl⟩
    obtain ⟨j, v, hj, rfl, HJ⟩ := hrel
    clear HP
    obtain ⟨av, cv, rfl⟩ := own_shape HJ.out.row
    by_cases hlt : j < r.writes.length
    · have k1 : decide ((j : Int) < r.writes.length) = true := decide_eq_true (by omega)
      have k2 : (j : Int) < r.writes.length := by omega
      have hwk : IntKind.i64.wrap ((j : Int) + 1) = (j : Int) + 1 := IntWalk.i64_in _ (by omega)
      obtain ⟨o, ho⟩ := some_at hlt
      obtain ⟨g, off, ha, c0, c1, c2⟩ := (show RdOps wj (.slice aw r.writes.length cw) r.writes from (HR.out.later HJ.out.below).ws).el ho
      subst ha
      have HO := Lib.hid ho
      have HQ := Lib.hid (HJ.out.later (((Below.refl wj.heap.size wj).alloc (Nat.le_refl _) (.cells #[vi o.kind, vi o.key, vi o.val] 104)).alloc (by simp) (.cells #[vi 2, vi o.key, vi o.val] 104)))
      have hAB := alloc_at wj (.cells #[vi o.kind, vi o.key, vi o.val] 104)
      have hone : ∀ u ∈ opV (killO o), u.oneCell' = true := by intro u hu; simp [opV] at hu; rcases hu with rfl | rfl | rfl <;> rfl
      have hxl : X + 1 + 1 < wj.heap.size := by have := (Array.getElem?_eq_some_iff.1 HJ.out.box).1; have := HX.out; omega
      have hsn : Src ((wj.alloc (.cells #[vi o.kind, vi o.key, vi o.val] 104)).alloc (.cells #[vi 2, vi o.key, vi o.val] 104)) (.slice (some ⟨wj.heap.size + 1, 0, none⟩) 1 1) 3 1 (opV (killO o)) := src_new (cs := #[vi 2, vi o.key, vi o.val]) rfl (by simp)
      have HSN := Lib.hid hsn
      clear ho hsn
      have b3 : wj.cell? ⟨X + 1 + 1, 3, none⟩ = some (.slice av j cv) := by
        have := HJ.out.box
        rw [← HX.out] at this
        rw [cell_of this]; rfl
      have hll : j ≤ 1000 := by omega
      have hNs := HQ.out.base.2
      go_wp2_with (refine wpList_append_src rfl _ _ 26 rfl eltOp N j _ HQ.out.row rfl 1 (opV (killO o)) HSN.out rfl hone (by omega) (by omega) hNs ?_; intro v7 w7 ho7 hg7 _; obtain ⟨z3, zf, hP7⟩ := HQ.out.push HO.out hg7 ho7; have HP7 := Lib.hid hP7; rw [← HX.out] at z3 zf; obtain ⟨a7, c7, rfl⟩ := own_shape ho7; clear ho7 hg7 hP7)
      have HP8 := HP7
      rw [← HX.out] at HP8
      exact ⟨⟨j + 1, _, by omega, by go_num, HP8⟩, by simp only [intOf]; omega⟩
    · have k1 : decide ((j : Int) < r.writes.length) = false := decide_eq_false (by omega)
      obtain rfl : j = r.writes.length := by omega
      have hc := HJ.out.cmd
      have hb := HJ.out.box
      have hz := HJ.out.res
      rw [← HX.out] at hc hb hz
      have x0 : wj.cell? ⟨X, 0, none⟩ = some (vi k) := by rw [cell_of hc]; rfl
      have x6 : wj.cell? ⟨X, 6, none⟩ = some (vi e.txn) := by rw [cell_of hc]; rfl
      have x7 : wj.cell? ⟨X, 7, none⟩ = some (.bool e.commit) := by rw [cell_of hc]; rfl
      have x8 : wj.cell? ⟨X, 8, none⟩ = some (vi e.at_) := by rw [cell_of hc]; rfl
      have b0 : wj.cell? ⟨X + 1 + 1, 0, none⟩ = some (vi r.txn) := by rw [cell_of hb]; rfl
      have b1 : wj.cell? ⟨X + 1 + 1, 1, none⟩ = some (vi r.home) := by rw [cell_of hb]; rfl
      have b2 : wj.cell? ⟨X + 1 + 1, 2, none⟩ = some (vi r.start) := by rw [cell_of hb]; rfl
      have b3 : wj.cell? ⟨X + 1 + 1, 3, none⟩ = some (.slice av r.writes.length cv) := by rw [cell_of hb]; rfl
      have b4 : wj.cell? ⟨X + 1 + 1, 4, none⟩ = some (.slice ar r.reads.length cr) := by rw [cell_of hb]; rfl
      have q0 : wj.cell? ⟨X + 1, 0, none⟩ = some (vi 0) := by rw [cell_of hz]; rfl
      have q1 : wj.cell? ⟨X + 1, 1, none⟩ = some (vi 0) := by rw [cell_of hz]; rfl
      have q2 : wj.cell? ⟨X + 1, 2, none⟩ = some (vi 0) := by rw [cell_of hz]; rfl
      have q3 : wj.cell? ⟨X + 1, 3, none⟩ = some (vi 0) := by rw [cell_of hz]; rfl
      have q4 : wj.cell? ⟨X + 1, 4, none⟩ = some (.slice none 0 0) := by rw [cell_of hz]; rfl
      have q5 : wj.cell? ⟨X + 1, 5, none⟩ = some (.slice none 0 0) := by rw [cell_of hz]; rfl
      have q6 : wj.cell? ⟨X + 1, 6, none⟩ = some (vi 0) := by rw [cell_of hz]; rfl
      have q7 : wj.cell? ⟨X + 1, 7, none⟩ = some (.bool false) := by rw [cell_of hz]; rfl
      have q8 : wj.cell? ⟨X + 1, 8, none⟩ = some (vi 0) := by rw [cell_of hz]; rfl
      have qf : ∀ j, wj.frozen? ⟨X + 1, j, none⟩ = false := fun j => free_of hz j
      have hS := rn_set9 (vi k) (vi r.txn) (vi r.home) (vi r.start) (.slice av r.writes.length cv) (.slice ar r.reads.length cr) (vi e.txn) (.bool e.commit) (vi e.at_) hz
      have hBf := rn_below9 (W := wj) (b := X + 1) (N := w.heap.size) (vi k) (vi r.txn) (vi r.home) (vi r.start) (.slice av r.writes.length cv) (.slice ar r.reads.length cr) (vi e.txn) (.bool e.commit) (vi e.at_) (by have := HX.out; omega)
      have hrow : wj.ownsRow N 104 3 (.slice av r.writes.length cv) (r.writes.map killO).length ((r.writes.map killO).flatMap opV) := by have := HJ.out.row; rw [List.take_of_length_le (Nat.le_refl _)] at this; simpa using this
      have HS := Lib.hid hS
      have HBF := Lib.hid hBf
      have hne := own_neR HJ.out.row hz (by decide)
      have HOW := Lib.hid (own_set9 (v0 := vi k) (v1 := vi r.txn) (v2 := vi r.home) (v3 := vi r.start) (v4 := .slice av r.writes.length cv) (v5 := .slice ar r.reads.length cr) (v6 := vi e.txn) (v7 := .bool e.commit) (v8 := vi e.at_) hrow hne)
      clear hS hBf hrow hne hc hb hz
      go_wp2_with fail
      generalize (((((((((wj.setCell ⟨X + 1, 0, none⟩ (vi k)).setCell ⟨X + 1, 1, none⟩ (vi r.txn)).setCell ⟨X + 1, 2, none⟩ (vi r.home)).setCell ⟨X + 1, 3, none⟩ (vi r.start)).setCell ⟨X + 1, 4, none⟩ (.slice av r.writes.length cv)).setCell ⟨X + 1, 5, none⟩ (.slice ar r.reads.length cr)).setCell ⟨X + 1, 6, none⟩ (vi e.txn)).setCell ⟨X + 1, 7, none⟩ (.bool e.commit)).setCell ⟨X + 1, 8, none⟩ (vi e.at_)) = wz at *
      have r0 : wz.cell? ⟨X + 1, 0, none⟩ = some (vi k) := by rw [cell_of HS.out]; rfl
      have r1 : wz.cell? ⟨X + 1, 1, none⟩ = some (vi r.txn) := by rw [cell_of HS.out]; rfl
      have r2 : wz.cell? ⟨X + 1, 2, none⟩ = some (vi r.home) := by rw [cell_of HS.out]; rfl
      have r3 : wz.cell? ⟨X + 1, 3, none⟩ = some (vi r.start) := by rw [cell_of HS.out]; rfl
      have r4 : wz.cell? ⟨X + 1, 4, none⟩ = some (.slice av r.writes.length cv) := by rw [cell_of HS.out]; rfl
      have r5 : wz.cell? ⟨X + 1, 5, none⟩ = some (.slice ar r.reads.length cr) := by rw [cell_of HS.out]; rfl
      have r6 : wz.cell? ⟨X + 1, 6, none⟩ = some (vi e.txn) := by rw [cell_of HS.out]; rfl
      have r7 : wz.cell? ⟨X + 1, 7, none⟩ = some (.bool e.commit) := by rw [cell_of HS.out]; rfl
      have r8 : wz.cell? ⟨X + 1, 8, none⟩ = some (vi e.at_) := by rw [cell_of HS.out]; rfl
      refine bodyPost_ret (v := cmdV ⟨k, killK r, e⟩ (.slice av r.writes.length cv) (.slice ar r.reads.length cr)) (by simp [results, Try.results17, go_sem, r0, r1, r2, r3, r4, r5, r6, r7, r8, cmdV, cmdC, killK]) rfl ⟨_, rfl, ⟨?_, (HR.out.later (HJ.out.below.trans HBF.out)).rs⟩, HJ.out.below.trans HBF.out⟩
      exact own_rds (enc := opV) (E := EOp) (fun _ => rfl) HOW.out (fun _ _ => rfl)
end Go.Proofs.Ytdkkpkgfiodlbaa

/- Layer 21's reference: Apply, what it keeps; a stamp. -/
namespace Go.Proofs.Ytdkkpkgfiodlbaa
open Go.RowKit Go.Maps
attribute [local go_sem] Oper.semAt_some

/-- What Apply hands back stays readable while a block made between A and the call turns. -/
def ApR (A w : World) (q : ShM × Ans) (e : Ending) (w' : World) : Prop :=
  ∃ (y : RSh) (vv : Value), e = .returned (.tuple #[shV y, ansV q.2 vv]) ∧ y.m = q.1 ∧ Below w.heap.size w w' ∧ ∀ W' : World, CLe A W' → (∀ j, w.heap.size ≤ j → W'.heap[j]? = w'.heap[j]?) → RdSh W' y ∧ RdV W' vv q.2.vals
/-- Apply's four boxes. -/
structure ApB (w : World) (x : RSh) (c : Cmd21) (wv rv : Value) (W : World) : Prop where
  st : W.heap[w.heap.size]? = some (.cells (shC x) 54)
  cmd : W.heap[w.heap.size + 1]? = some (.cells (cmdC c wv rv) 63)
  rs : W.heap[w.heap.size + 2]? = some (.cells #[.bool false, vi 0, .slice none 0 0, .slice none 0 0, .slice none 0 0, vi 0, vi 0, .slice none 0 0] 54)
  ra : W.heap[w.heap.size + 3]? = some (.cells #[vi 0, .slice none 0 0, vi 0, vi 0, vi 0, vi 0, .bool false, vi 0] 58)
  below : Below w.heap.size w W
theorem ApB.later {w : World} {x : RSh} {c : Cmd21} {wv rv : Value} {A B : World} (h : ApB w x c wv rv A) (hb : Below A.heap.size A B) : ApB w x c wv rv B :=
  ⟨(hb.block _ (Array.getElem?_eq_some_iff.1 h.st).1).trans h.st, (hb.block _ (Array.getElem?_eq_some_iff.1 h.cmd).1).trans h.cmd, (hb.block _ (Array.getElem?_eq_some_iff.1 h.rs).1).trans h.rs, (hb.block _ (Array.getElem?_eq_some_iff.1 h.ra).1).trans h.ra, h.below.trans (hb.mono h.below.size)⟩
theorem ApB.start (w : World) (x : RSh) (c : Cmd21) (wv rv : Value) :
    ApB w x c wv rv ((((w.alloc (.cells (shC x) 54)).alloc (.cells (cmdC c wv rv) 63)).alloc (.cells #[.bool false, vi 0, .slice none 0 0, .slice none 0 0, .slice none 0 0, vi 0, vi 0, .slice none 0 0] 54)).alloc (.cells #[vi 0, .slice none 0 0, vi 0, vi 0, vi 0, vi 0, .bool false, vi 0] 58)) := by
  have al : ∀ (v : World) (o : Obj) (j : Nat), j < v.heap.size → (v.alloc o).heap[j]? = v.heap[j]? := fun v o j hj => by rw [heap_al, if_neg (by omega)]
  refine ⟨?_, ?_, ?_, ?_, (((((Below.refl _ _).alloc (Nat.le_refl _) _).alloc (by simp) _).alloc (by simp <;> omega) _).alloc (by simp <;> omega) _)⟩
  · rw [al _ _ _ (by simp; omega), al _ _ _ (by simp; omega), al _ _ _ (by simp)]; exact alloc_at w _
  · rw [al _ _ _ (by simp), al _ _ _ (by simp)]; exact heap_top (by simp)
  · rw [al _ _ _ (by simp)]; exact heap_top (by simp)
  · exact heap_top (by simp)
theorem two_st {W : World} {b N : Nat} {z0 z1 z2 z3 z4 z5 z6 z7 y0 y1 y2 y3 y4 y5 y6 y7 : Value} {S T : TypeId} (s0 s1 s2 s3 s4 s5 s6 s7 a0 a1 a2 a3 a4 a5 a6 a7 : Value) (hs : W.heap[b]? = some (.cells #[z0, z1, z2, z3, z4, z5, z6, z7] S)) (ha : W.heap[b + 1]? = some (.cells #[y0, y1, y2, y3, y4, y5, y6, y7] T)) (hN : N ≤ b) :
    ((((((((((((((((W.setCell ⟨b, 0, none⟩ s0).setCell ⟨b, 1, none⟩ s1).setCell ⟨b, 2, none⟩ s2).setCell ⟨b, 3, none⟩ s3).setCell ⟨b, 4, none⟩ s4).setCell ⟨b, 5, none⟩ s5).setCell ⟨b, 6, none⟩ s6).setCell ⟨b, 7, none⟩ s7).setCell ⟨(b + 1), 0, none⟩ a0).setCell ⟨(b + 1), 1, none⟩ a1).setCell ⟨(b + 1), 2, none⟩ a2).setCell ⟨(b + 1), 3, none⟩ a3).setCell ⟨(b + 1), 4, none⟩ a4).setCell ⟨(b + 1), 5, none⟩ a5).setCell ⟨(b + 1), 6, none⟩ a6).setCell ⟨(b + 1), 7, none⟩ a7).heap[b]? = some (.cells #[s0, s1, s2, s3, s4, s5, s6, s7] S) ∧
    ((((((((((((((((W.setCell ⟨b, 0, none⟩ s0).setCell ⟨b, 1, none⟩ s1).setCell ⟨b, 2, none⟩ s2).setCell ⟨b, 3, none⟩ s3).setCell ⟨b, 4, none⟩ s4).setCell ⟨b, 5, none⟩ s5).setCell ⟨b, 6, none⟩ s6).setCell ⟨b, 7, none⟩ s7).setCell ⟨(b + 1), 0, none⟩ a0).setCell ⟨(b + 1), 1, none⟩ a1).setCell ⟨(b + 1), 2, none⟩ a2).setCell ⟨(b + 1), 3, none⟩ a3).setCell ⟨(b + 1), 4, none⟩ a4).setCell ⟨(b + 1), 5, none⟩ a5).setCell ⟨(b + 1), 6, none⟩ a6).setCell ⟨(b + 1), 7, none⟩ a7).heap[b + 1]? = some (.cells #[a0, a1, a2, a3, a4, a5, a6, a7] T) ∧
    (∀ j, j ≠ b → j ≠ b + 1 → ((((((((((((((((W.setCell ⟨b, 0, none⟩ s0).setCell ⟨b, 1, none⟩ s1).setCell ⟨b, 2, none⟩ s2).setCell ⟨b, 3, none⟩ s3).setCell ⟨b, 4, none⟩ s4).setCell ⟨b, 5, none⟩ s5).setCell ⟨b, 6, none⟩ s6).setCell ⟨b, 7, none⟩ s7).setCell ⟨(b + 1), 0, none⟩ a0).setCell ⟨(b + 1), 1, none⟩ a1).setCell ⟨(b + 1), 2, none⟩ a2).setCell ⟨(b + 1), 3, none⟩ a3).setCell ⟨(b + 1), 4, none⟩ a4).setCell ⟨(b + 1), 5, none⟩ a5).setCell ⟨(b + 1), 6, none⟩ a6).setCell ⟨(b + 1), 7, none⟩ a7).heap[j]? = W.heap[j]?) ∧
    Below N W ((((((((((((((((W.setCell ⟨b, 0, none⟩ s0).setCell ⟨b, 1, none⟩ s1).setCell ⟨b, 2, none⟩ s2).setCell ⟨b, 3, none⟩ s3).setCell ⟨b, 4, none⟩ s4).setCell ⟨b, 5, none⟩ s5).setCell ⟨b, 6, none⟩ s6).setCell ⟨b, 7, none⟩ s7).setCell ⟨(b + 1), 0, none⟩ a0).setCell ⟨(b + 1), 1, none⟩ a1).setCell ⟨(b + 1), 2, none⟩ a2).setCell ⟨(b + 1), 3, none⟩ a3).setCell ⟨(b + 1), 4, none⟩ a4).setCell ⟨(b + 1), 5, none⟩ a5).setCell ⟨(b + 1), 6, none⟩ a6).setCell ⟨(b + 1), 7, none⟩ a7) :=
  ⟨(rn_oth8 (by omega)).trans (rn_set8 s0 s1 s2 s3 s4 s5 s6 s7 hs), rn_set8 a0 a1 a2 a3 a4 a5 a6 a7 ((rn_oth8 (by omega)).trans ha), fun _ h1 h2 => (rn_oth8 h2).trans (rn_oth8 h1), (rn_below8 _ _ _ _ _ _ _ _ hN).trans (rn_below8 _ _ _ _ _ _ _ _ (by omega))⟩
theorem drew_two {W Wc : World} {b N : Nat} {o1 o2 : Obj} (h : Wc.heap[b]? = some o1 ∧ Wc.heap[b + 1]? = some o2 ∧ (∀ j, j ≠ b → j ≠ b + 1 → Wc.heap[j]? = W.heap[j]?) ∧ Below N W Wc) :
    Wc.drew.heap[b]? = some o1 ∧ Wc.drew.heap[b + 1]? = some o2 ∧ (∀ j, j ≠ b → j ≠ b + 1 → Wc.drew.heap[j]? = W.heap[j]?) ∧ Below N W Wc.drew := ⟨h.1, h.2.1, h.2.2.1, h.2.2.2.drew⟩
theorem two_std {W : World} {b N : Nat} {z0 z1 z2 z3 z4 z5 z6 z7 y0 y1 y2 y3 y4 y5 y6 y7 : Value} {S T : TypeId} (s0 s1 s2 s3 s4 s5 s6 s7 a0 a1 a2 a3 a4 a5 a6 a7 : Value) (hs : W.heap[b]? = some (.cells #[z0, z1, z2, z3, z4, z5, z6, z7] S)) (ha : W.heap[b + 1]? = some (.cells #[y0, y1, y2, y3, y4, y5, y6, y7] T)) (hN : N ≤ b) :
    ((((((((((((((((W.setCell ⟨b, 0, none⟩ s0).setCell ⟨b, 1, none⟩ s1).setCell ⟨b, 2, none⟩ s2).setCell ⟨b, 3, none⟩ s3).setCell ⟨b, 4, none⟩ s4).setCell ⟨b, 5, none⟩ s5).setCell ⟨b, 6, none⟩ s6).setCell ⟨b, 7, none⟩ s7).setCell ⟨(b + 1), 0, none⟩ a0).setCell ⟨(b + 1), 1, none⟩ a1).setCell ⟨(b + 1), 2, none⟩ a2).setCell ⟨(b + 1), 3, none⟩ a3).setCell ⟨(b + 1), 4, none⟩ a4).setCell ⟨(b + 1), 5, none⟩ a5).setCell ⟨(b + 1), 6, none⟩ a6).setCell ⟨(b + 1), 7, none⟩ a7).drew.heap[b]? = some (.cells #[s0, s1, s2, s3, s4, s5, s6, s7] S) ∧
    ((((((((((((((((W.setCell ⟨b, 0, none⟩ s0).setCell ⟨b, 1, none⟩ s1).setCell ⟨b, 2, none⟩ s2).setCell ⟨b, 3, none⟩ s3).setCell ⟨b, 4, none⟩ s4).setCell ⟨b, 5, none⟩ s5).setCell ⟨b, 6, none⟩ s6).setCell ⟨b, 7, none⟩ s7).setCell ⟨(b + 1), 0, none⟩ a0).setCell ⟨(b + 1), 1, none⟩ a1).setCell ⟨(b + 1), 2, none⟩ a2).setCell ⟨(b + 1), 3, none⟩ a3).setCell ⟨(b + 1), 4, none⟩ a4).setCell ⟨(b + 1), 5, none⟩ a5).setCell ⟨(b + 1), 6, none⟩ a6).setCell ⟨(b + 1), 7, none⟩ a7).drew.heap[b + 1]? = some (.cells #[a0, a1, a2, a3, a4, a5, a6, a7] T) ∧
    (∀ j, j ≠ b → j ≠ b + 1 → ((((((((((((((((W.setCell ⟨b, 0, none⟩ s0).setCell ⟨b, 1, none⟩ s1).setCell ⟨b, 2, none⟩ s2).setCell ⟨b, 3, none⟩ s3).setCell ⟨b, 4, none⟩ s4).setCell ⟨b, 5, none⟩ s5).setCell ⟨b, 6, none⟩ s6).setCell ⟨b, 7, none⟩ s7).setCell ⟨(b + 1), 0, none⟩ a0).setCell ⟨(b + 1), 1, none⟩ a1).setCell ⟨(b + 1), 2, none⟩ a2).setCell ⟨(b + 1), 3, none⟩ a3).setCell ⟨(b + 1), 4, none⟩ a4).setCell ⟨(b + 1), 5, none⟩ a5).setCell ⟨(b + 1), 6, none⟩ a6).setCell ⟨(b + 1), 7, none⟩ a7).drew.heap[j]? = W.heap[j]?) ∧
    Below N W ((((((((((((((((W.setCell ⟨b, 0, none⟩ s0).setCell ⟨b, 1, none⟩ s1).setCell ⟨b, 2, none⟩ s2).setCell ⟨b, 3, none⟩ s3).setCell ⟨b, 4, none⟩ s4).setCell ⟨b, 5, none⟩ s5).setCell ⟨b, 6, none⟩ s6).setCell ⟨b, 7, none⟩ s7).setCell ⟨(b + 1), 0, none⟩ a0).setCell ⟨(b + 1), 1, none⟩ a1).setCell ⟨(b + 1), 2, none⟩ a2).setCell ⟨(b + 1), 3, none⟩ a3).setCell ⟨(b + 1), 4, none⟩ a4).setCell ⟨(b + 1), 5, none⟩ a5).setCell ⟨(b + 1), 6, none⟩ a6).setCell ⟨(b + 1), 7, none⟩ a7).drew :=
  drew_two (two_st s0 s1 s2 s3 s4 s5 s6 s7 a0 a1 a2 a3 a4 a5 a6 a7 hs ha hN)
theorem two_ts {W : World} {b N : Nat} {z0 z1 z2 z3 z4 z5 z6 z7 y0 y1 y2 y3 y4 y5 y6 y7 : Value} {S T : TypeId} (s0 s1 s2 s3 s4 s5 s6 s7 a0 a1 a2 a3 a4 a5 a6 a7 : Value) (hs : W.heap[b]? = some (.cells #[z0, z1, z2, z3, z4, z5, z6, z7] S)) (ha : W.heap[b + 1]? = some (.cells #[y0, y1, y2, y3, y4, y5, y6, y7] T)) (hN : N ≤ b) :
    ((((((((((((((((W.setCell ⟨(b + 1), 0, none⟩ a0).setCell ⟨(b + 1), 1, none⟩ a1).setCell ⟨(b + 1), 2, none⟩ a2).setCell ⟨(b + 1), 3, none⟩ a3).setCell ⟨(b + 1), 4, none⟩ a4).setCell ⟨(b + 1), 5, none⟩ a5).setCell ⟨(b + 1), 6, none⟩ a6).setCell ⟨(b + 1), 7, none⟩ a7).setCell ⟨b, 0, none⟩ s0).setCell ⟨b, 1, none⟩ s1).setCell ⟨b, 2, none⟩ s2).setCell ⟨b, 3, none⟩ s3).setCell ⟨b, 4, none⟩ s4).setCell ⟨b, 5, none⟩ s5).setCell ⟨b, 6, none⟩ s6).setCell ⟨b, 7, none⟩ s7).heap[b]? = some (.cells #[s0, s1, s2, s3, s4, s5, s6, s7] S) ∧
    ((((((((((((((((W.setCell ⟨(b + 1), 0, none⟩ a0).setCell ⟨(b + 1), 1, none⟩ a1).setCell ⟨(b + 1), 2, none⟩ a2).setCell ⟨(b + 1), 3, none⟩ a3).setCell ⟨(b + 1), 4, none⟩ a4).setCell ⟨(b + 1), 5, none⟩ a5).setCell ⟨(b + 1), 6, none⟩ a6).setCell ⟨(b + 1), 7, none⟩ a7).setCell ⟨b, 0, none⟩ s0).setCell ⟨b, 1, none⟩ s1).setCell ⟨b, 2, none⟩ s2).setCell ⟨b, 3, none⟩ s3).setCell ⟨b, 4, none⟩ s4).setCell ⟨b, 5, none⟩ s5).setCell ⟨b, 6, none⟩ s6).setCell ⟨b, 7, none⟩ s7).heap[b + 1]? = some (.cells #[a0, a1, a2, a3, a4, a5, a6, a7] T) ∧
    (∀ j, j ≠ b → j ≠ b + 1 → ((((((((((((((((W.setCell ⟨(b + 1), 0, none⟩ a0).setCell ⟨(b + 1), 1, none⟩ a1).setCell ⟨(b + 1), 2, none⟩ a2).setCell ⟨(b + 1), 3, none⟩ a3).setCell ⟨(b + 1), 4, none⟩ a4).setCell ⟨(b + 1), 5, none⟩ a5).setCell ⟨(b + 1), 6, none⟩ a6).setCell ⟨(b + 1), 7, none⟩ a7).setCell ⟨b, 0, none⟩ s0).setCell ⟨b, 1, none⟩ s1).setCell ⟨b, 2, none⟩ s2).setCell ⟨b, 3, none⟩ s3).setCell ⟨b, 4, none⟩ s4).setCell ⟨b, 5, none⟩ s5).setCell ⟨b, 6, none⟩ s6).setCell ⟨b, 7, none⟩ s7).heap[j]? = W.heap[j]?) ∧
    Below N W ((((((((((((((((W.setCell ⟨(b + 1), 0, none⟩ a0).setCell ⟨(b + 1), 1, none⟩ a1).setCell ⟨(b + 1), 2, none⟩ a2).setCell ⟨(b + 1), 3, none⟩ a3).setCell ⟨(b + 1), 4, none⟩ a4).setCell ⟨(b + 1), 5, none⟩ a5).setCell ⟨(b + 1), 6, none⟩ a6).setCell ⟨(b + 1), 7, none⟩ a7).setCell ⟨b, 0, none⟩ s0).setCell ⟨b, 1, none⟩ s1).setCell ⟨b, 2, none⟩ s2).setCell ⟨b, 3, none⟩ s3).setCell ⟨b, 4, none⟩ s4).setCell ⟨b, 5, none⟩ s5).setCell ⟨b, 6, none⟩ s6).setCell ⟨b, 7, none⟩ s7) :=
  ⟨rn_set8 s0 s1 s2 s3 s4 s5 s6 s7 ((rn_oth8 (by omega)).trans hs), (rn_oth8 (by omega)).trans (rn_set8 a0 a1 a2 a3 a4 a5 a6 a7 ha), fun _ h1 h2 => (rn_oth8 h1).trans (rn_oth8 h2), (rn_below8 _ _ _ _ _ _ _ _ (by omega)).trans (rn_below8 _ _ _ _ _ _ _ _ hN)⟩
end Go.Proofs.Ytdkkpkgfiodlbaa

/- Layer 21's reference: Apply, the end of a transaction. Printed by wip/gen/gen_ap21e.py. -/
namespace Go.Proofs.Ytdkkpkgfiodlbaa
open Go.RowKit Go.Maps
attribute [local go_sem] Oper.semAt_some

theorem rst_shapes {W : World} {y : RSV} (h : RdSt W y) : ∃ a1 c1 a2 c2 a3 c3, y = ⟨.slice a1 y.s.vs.length c1, .slice a2 y.s.ws.length c2, .slice a3 y.s.es.length c3, y.s⟩ := by
  obtain ⟨vv, wv, ev, s⟩ := y
  obtain ⟨a1, n1, c1, h1, rfl, -, -⟩ := (show RdVer3 W vv s.vs from h.vs).at
  obtain ⟨a2, n2, c2, h2, rfl, -, -⟩ := (show RdRdy W wv s.ws from h.ws).at
  obtain ⟨a3, n3, c3, h3, rfl, -, -⟩ := (show RdEn W ev s.es from h.es).at
  subst h1 h2 h3
  exact ⟨a1, c1, a2, c2, a3, c3, rfl⟩
theorem st_of {A : World} {x : RSh} {a1 a2 a3 a4 : Option Addr} {c1 c2 c3 c4 : Nat} (h : RdSh A x) (hxe : x = ⟨.slice a1 x.m.s.vs.length c1, .slice a2 x.m.s.ws.length c2, .slice a3 x.m.s.es.length c3, .slice a4 x.m.ds.length c4, x.m⟩) :
    RdSt A ⟨.slice a1 x.m.s.vs.length c1, .slice a2 x.m.s.ws.length c2, .slice a3 x.m.s.es.length c3, x.m.s⟩ := by
  have := h.st
  unfold RSh.st at this
  rw [hxe] at this; exact this
theorem ap_ret2 {A w w4 wf wz : World} {x : RSh} {y : RSV} {q : ShM × Ans} (hx : RdSh A x) (hA : ALe A w) (hb : Below w.heap.size w w4) (h4 : w.heap.size + 4 ≤ w4.heap.size) (hf : Below w4.heap.size w4 wf)
    (hk : ∀ W' : World, CLe A W' → (∀ j, w4.heap.size ≤ j → W'.heap[j]? = wf.heap[j]?) → RdSt W' y) (hz : ∀ j, (j < w.heap.size ∨ w4.heap.size ≤ j) → j < wf.heap.size → wz.heap[j]? = wf.heap[j]?) (hbz : Below w.heap.size wf wz)
    (hm : (⟨y.s, x.m.stamps, x.m.now, x.m.ds⟩ : ShM) = q.1) (h0 : q.2.vals = []) :
    ApR A w q (.returned (.tuple #[shV ⟨y.vv, y.wv, y.ev, x.dv, ⟨y.s, x.m.stamps, x.m.now, x.m.ds⟩⟩, ansV q.2 (.slice none 0 0)])) wz := by
  have hbb : Below w.heap.size w wz := (hb.trans (hf.mono hb.size)).trans hbz
  have hAs := hA.size
  refine ⟨_, _, rfl, hm, hbb, fun W' hs hW => ⟨⟨?_, ?_⟩, by rw [h0]; exact rdv_nil _⟩⟩
  · have hk' := hk { W' with heap := W'.heap.extract 0 wf.heap.size } (fun b o v hv => ?_) (fun j hj => ?_)
    · refine RdSt.same hk' fun j hj => ?_
      simp only [Array.size_extract, Array.getElem?_extract] at hj ⊢
      rw [if_pos (by omega), Nat.zero_add]
    · have h1 : b < A.heap.size := World.block_lt_of_cell? A _ hv
      have h2 := hs b o v hv
      refine (World.cell?_of_block (a := ⟨b, o, none⟩) ?_).trans h2
      have h3 : b < W'.heap.size := World.block_lt_of_cell? W' _ h2
      have h9 := hf.size
      simp only [Array.getElem?_extract]
      rw [if_pos (by omega), Nat.zero_add]
    · simp only [Array.getElem?_extract]
      by_cases hjw : j < wf.heap.size
      · have e1 : W'.heap[j]? = wf.heap[j]? := (hW j (by have := hb.size; omega)).trans (hz j (by omega) hjw)
        have hj2 : j < W'.heap.size := by
          rw [Array.getElem?_eq_getElem hjw] at e1
          exact (Array.getElem?_eq_some_iff.1 e1).1
        rw [if_pos (by omega), Nat.zero_add]; exact e1
      · rw [if_neg (by omega), Array.getElem?_eq_none (by omega)]
  · exact RdS.le hx.ds hs fun _ _ h => h
theorem rn_set58 {W : World} {b : Nat} {c0 c1 c2 c3 c4 c5 c6 c7 : Value} {T : TypeId} (v0 v1 v2 v3 v4 : Value) (h : W.heap[b]? = some (.cells #[c0, c1, c2, c3, c4, c5, c6, c7] T)) :
    (((((W.setCell ⟨b, 0, none⟩ v0).setCell ⟨b, 1, none⟩ v1).setCell ⟨b, 2, none⟩ v2).setCell ⟨b, 3, none⟩ v3).setCell ⟨b, 4, none⟩ v4).heap[b]? = some (.cells #[v0, v1, v2, v3, v4, c5, c6, c7] T) := by
  have h0 := h
  have h1 : (W.setCell ⟨b, 0, none⟩ v0).heap[b]? = some (.cells #[v0, c1, c2, c3, c4, c5, c6, c7] T) := by rw [rn_set v0 h0]; rfl
  have h2 : ((W.setCell ⟨b, 0, none⟩ v0).setCell ⟨b, 1, none⟩ v1).heap[b]? = some (.cells #[v0, v1, c2, c3, c4, c5, c6, c7] T) := by rw [rn_set v1 h1]; rfl
  have h3 : (((W.setCell ⟨b, 0, none⟩ v0).setCell ⟨b, 1, none⟩ v1).setCell ⟨b, 2, none⟩ v2).heap[b]? = some (.cells #[v0, v1, v2, c3, c4, c5, c6, c7] T) := by rw [rn_set v2 h2]; rfl
  have h4 : ((((W.setCell ⟨b, 0, none⟩ v0).setCell ⟨b, 1, none⟩ v1).setCell ⟨b, 2, none⟩ v2).setCell ⟨b, 3, none⟩ v3).heap[b]? = some (.cells #[v0, v1, v2, v3, c4, c5, c6, c7] T) := by rw [rn_set v3 h3]; rfl
  have h5 : (((((W.setCell ⟨b, 0, none⟩ v0).setCell ⟨b, 1, none⟩ v1).setCell ⟨b, 2, none⟩ v2).setCell ⟨b, 3, none⟩ v3).setCell ⟨b, 4, none⟩ v4).heap[b]? = some (.cells #[v0, v1, v2, v3, v4, c5, c6, c7] T) := by rw [rn_set v4 h4]; rfl
  exact h5
theorem rn_oth5s {W : World} {b j : Nat} {v0 v1 v2 v3 v4 : Value} (hj : j ≠ b) : (((((W.setCell ⟨b, 0, none⟩ v0).setCell ⟨b, 1, none⟩ v1).setCell ⟨b, 2, none⟩ v2).setCell ⟨b, 3, none⟩ v3).setCell ⟨b, 4, none⟩ v4).heap[j]? = W.heap[j]? := by
  rw [Below.heap_setCell _ _ _ _ hj, Below.heap_setCell _ _ _ _ hj, Below.heap_setCell _ _ _ _ hj, Below.heap_setCell _ _ _ _ hj, Below.heap_setCell _ _ _ _ hj]
set_option maxRecDepth 1000000 in
set_option maxHeartbeats 16000000 in
theorem apply5_call (A : World) (x : RSh) (r : Rdy) (en : EndM) (wv rv : Value) (w : World) (hxA : RdSh A x) (hA : ALe A w) (hl : x.m.s.vs.length ≤ 1000000 ∧ x.m.s.ws.length ≤ 1000 ∧ x.m.s.es.length ≤ 1000000) (hws : ∀ q ∈ x.m.s.ws, q.writes.length ≤ 1000) :
    Calls Try.prog 16 #[shV x, cmdV ⟨5, r, en⟩ wv rv] w (ApR A w (fin21 x.m en)) := by
  obtain ⟨a1, c1, a2, c2, a3, c3, a4, c4, hxe, hmw, hmd⟩ := hxA.shapes
  have HXA := Lib.hid hxA
  have HHA := Lib.hid hA
  have HA := Lib.hid (ApB.start w x ⟨5, r, en⟩ wv rv)
  clear hxA hA
  have hsc : shC x = #[.bool x.m.s.serial, vi x.m.s.bugs, .slice a1 x.m.s.vs.length c1, .slice a2 x.m.s.ws.length c2, .slice a3 x.m.s.es.length c3, vi x.m.stamps, vi x.m.now, .slice a4 x.m.ds.length c4] := by rw [hxe]; rfl
  have HXE := Lib.hid hxe
  have HSC := Lib.hid hsc
  have HWS := Lib.hid hws
  clear hws
  unfold shV
  unfold cmdV
  rw [hsc] at HA ⊢
  clear hxe hsc
  unfold cmdC at HA ⊢
  go_enter Try.func16, Try.ntmps16
  go_upto_region 1 with fail
  generalize ((((w.alloc (.cells #[.bool x.m.s.serial, vi x.m.s.bugs, .slice a1 x.m.s.vs.length c1, .slice a2 x.m.s.ws.length c2, .slice a3 x.m.s.es.length c3, vi x.m.stamps, vi x.m.now, .slice a4 x.m.ds.length c4] 54)).alloc (.cells #[vi 5, vi r.txn, vi r.home, vi r.start, wv, rv, vi en.txn, .bool en.commit, vi en.at_] 63)).alloc (.cells #[.bool false, vi 0, .slice none 0 0, .slice none 0 0, .slice none 0 0, vi 0, vi 0, .slice none 0 0] 54)).alloc (.cells #[vi 0, .slice none 0 0, vi 0, vi 0, vi 0, vi 0, .bool false, vi 0] 58)) = w4 at *
  have HS0 := HA.out.st
  rw [HSC.out] at HS0
  have HC0 := HA.out.cmd
  unfold cmdC at HC0
  obtain ⟨X, hX⟩ : ∃ X, X = w.heap.size := ⟨_, rfl⟩
  have HRS := HA.out.rs
  have HRA := HA.out.ra
  rw [← hX] at HS0 HC0 HRS HRA ⊢
  have hS0 := Lib.hid HS0
  have hC0 := Lib.hid HC0
  have hRS := Lib.hid HRS
  have hRA := Lib.hid HRA
  have HXX := Lib.hid hX
  clear hX HS0 HC0 HRS HRA
  have x0 : w4.cell? ⟨X, 0, none⟩ = some (.bool x.m.s.serial) := (by rw [cell_of hS0.out]; rfl)
  have x1 : w4.cell? ⟨X, 1, none⟩ = some (vi x.m.s.bugs) := (by rw [cell_of hS0.out]; rfl)
  have x2 : w4.cell? ⟨X, 2, none⟩ = some (.slice a1 x.m.s.vs.length c1) := (by rw [cell_of hS0.out]; rfl)
  have x3 : w4.cell? ⟨X, 3, none⟩ = some (.slice a2 x.m.s.ws.length c2) := (by rw [cell_of hS0.out]; rfl)
  have x4 : w4.cell? ⟨X, 4, none⟩ = some (.slice a3 x.m.s.es.length c3) := (by rw [cell_of hS0.out]; rfl)
  have x5 : w4.cell? ⟨X, 5, none⟩ = some (vi x.m.stamps) := (by rw [cell_of hS0.out]; rfl)
  have x6 : w4.cell? ⟨X, 6, none⟩ = some (vi x.m.now) := (by rw [cell_of hS0.out]; rfl)
  have x7 : w4.cell? ⟨X, 7, none⟩ = some (.slice a4 x.m.ds.length c4) := (by rw [cell_of hS0.out]; rfl)
  have m0 : w4.cell? ⟨X + 1, 0, none⟩ = some (vi 5) := (by rw [cell_of hC0.out]; rfl)
  have m6 : w4.cell? ⟨X + 1, 6, none⟩ = some (vi en.txn) := (by rw [cell_of hC0.out]; rfl)
  have m7 : w4.cell? ⟨X + 1, 7, none⟩ = some (.bool en.commit) := (by rw [cell_of hC0.out]; rfl)
  have m8 : w4.cell? ⟨X + 1, 8, none⟩ = some (vi en.at_) := (by rw [cell_of hC0.out]; rfl)
  have HST := Lib.hid (st_of HXA.out HXE.out)
  have HBA := Lib.hid (HHA.out.trans (HA.out.below.mono HHA.out.size))
  have h4s : w.heap.size + 4 ≤ w4.heap.size := by have := (Array.getElem?_eq_some_iff.1 HA.out.ra).1; omega
  have H4S := Lib.hid h4s
  have HBW := Lib.hid HA.out.below
  clear h4s hRS hRA
  go_upto_region 37 with fail
  have c7 : Calls Try.prog 40 #[.agg #[.bool x.m.s.serial, vi x.m.s.bugs, .slice a1 x.m.s.vs.length c1, .slice a2 x.m.s.ws.length c2, .slice a3 x.m.s.es.length c3], .agg #[vi en.txn, .bool en.commit, vi en.at_]] w4 (fun e w7 => ∃ (ys : RSt) (d1 d2 d3 : Option Addr) (g1 g2 g3 : Nat), e = .returned (.agg #[.bool ys.serial, vi ys.bugs, .slice d1 ys.vs.length g1, .slice d2 ys.ws.length g2, .slice d3 ys.es.length g3]) ∧ Hid (ys = rnFinish x.m.s en) ∧ Hid (Below w4.heap.size w4 w7) ∧ Hid (∀ W' : World, CLe A W' → (∀ j, w4.heap.size ≤ j → W'.heap[j]? = w7.heap[j]?) → RdSt W' ⟨.slice d1 ys.vs.length g1, .slice d2 ys.ws.length g2, .slice d3 ys.es.length g3, ys⟩)) := by
    refine (rnFinish_call3 A ⟨.slice a1 x.m.s.vs.length c1, .slice a2 x.m.s.ws.length c2, .slice a3 x.m.s.es.length c3, x.m.s⟩ en w4 HST.out HBA.out.le hl.1 hl.2.1 hl.2.2 HWS.out).mono ?_
    rintro e7 w7 ⟨⟨yv, yw, ye, ys⟩, rfl, hs7, hr7, hb7, hk7⟩
    obtain ⟨d1, g1, d2, g2, d3, g3, hy⟩ := rst_shapes hr7
    simp only [RSV.mk.injEq, and_true] at hy
    obtain ⟨rfl, rfl, rfl⟩ := hy
    exact ⟨ys, d1, d2, d3, g1, g2, g3, rfl, Lib.hid hs7, Lib.hid hb7, Lib.hid hk7⟩
  have HC7 := Lib.hid c7
  clear c7
  go_upto_region 38 with (go_at_call 40; refine HC7.out.mono ?_; rintro e7 w7 ⟨ys, d1, d2, d3, g1, g2, g3, rfl, HS7, HB7, HK7⟩; have hq7 := (HA.out.later HB7.out).st; rw [HSC.out, ← HXX.out] at hq7; have HQ7 := Lib.hid hq7; clear hq7; have y0 : w7.cell? ⟨X, 0, none⟩ = some (.bool x.m.s.serial) := (by rw [cell_of HQ7.out]; rfl); have y1 : w7.cell? ⟨X, 1, none⟩ = some (vi x.m.s.bugs) := (by rw [cell_of HQ7.out]; rfl); have y2 : w7.cell? ⟨X, 2, none⟩ = some (.slice a1 x.m.s.vs.length c1) := (by rw [cell_of HQ7.out]; rfl); have y3 : w7.cell? ⟨X, 3, none⟩ = some (.slice a2 x.m.s.ws.length c2) := (by rw [cell_of HQ7.out]; rfl); have y4 : w7.cell? ⟨X, 4, none⟩ = some (.slice a3 x.m.s.es.length c3) := (by rw [cell_of HQ7.out]; rfl); have y5 : w7.cell? ⟨X, 5, none⟩ = some (vi x.m.stamps) := (by rw [cell_of HQ7.out]; rfl); have y6 : w7.cell? ⟨X, 6, none⟩ = some (vi x.m.now) := (by rw [cell_of HQ7.out]; rfl); have y7 : w7.cell? ⟨X, 7, none⟩ = some (.slice a4 x.m.ds.length c4) := (by rw [cell_of HQ7.out]; rfl); have xf : ∀ j, w7.frozen? ⟨X, j, none⟩ = false := fun j => free_of HQ7.out j)
  have hA7 := HA.out.later HB7.out
  have hr7' := hA7.rs
  have ha7' := hA7.ra
  rw [← HXX.out] at hr7' ha7'
  clear HA
  have hS8 := rn_set58 (.bool ys.serial) (vi ys.bugs) (.slice d1 ys.vs.length g1) (.slice d2 ys.ws.length g2) (.slice d3 ys.es.length g3) HQ7.out
  have HS8 := Lib.hid hS8
  have ho8 : ∀ j, j ≠ X → (((((w7.setCell ⟨X, 0, none⟩ (.bool ys.serial)).setCell ⟨X, 1, none⟩ (vi ys.bugs)).setCell ⟨X, 2, none⟩ (.slice d1 ys.vs.length g1)).setCell ⟨X, 3, none⟩ (.slice d2 ys.ws.length g2)).setCell ⟨X, 4, none⟩ (.slice d3 ys.es.length g3)).heap[j]? = w7.heap[j]? := fun j hj => rn_oth5s hj
  have HO8 := Lib.hid ho8
  have hb8 : Below w.heap.size w7 (((((w7.setCell ⟨X, 0, none⟩ (.bool ys.serial)).setCell ⟨X, 1, none⟩ (vi ys.bugs)).setCell ⟨X, 2, none⟩ (.slice d1 ys.vs.length g1)).setCell ⟨X, 3, none⟩ (.slice d2 ys.ws.length g2)).setCell ⟨X, 4, none⟩ (.slice d3 ys.es.length g3)) := rn_below5 (b := X) (.bool ys.serial) (vi ys.bugs) (.slice d1 ys.vs.length g1) (.slice d2 ys.ws.length g2) (.slice d3 ys.es.length g3) (by have := HXX.out; omega)
  have HB8 := Lib.hid hb8
  have hRS := Lib.hid ((ho8 (X + 1 + 1) (by omega)).trans hr7')
  have hRA := Lib.hid ((ho8 (X + 1 + 1 + 1) (by omega)).trans ha7')
  clear hS8 ho8 hb8 hr7' ha7' hA7 xf x0 x1 x2 x3 x4 x5 x6 x7 y0 y1 y2 y3 y4 y5 y6 y7 m0 m6 m7 m8
  generalize (((((w7.setCell ⟨X, 0, none⟩ (.bool ys.serial)).setCell ⟨X, 1, none⟩ (vi ys.bugs)).setCell ⟨X, 2, none⟩ (.slice d1 ys.vs.length g1)).setCell ⟨X, 3, none⟩ (.slice d2 ys.ws.length g2)).setCell ⟨X, 4, none⟩ (.slice d3 ys.es.length g3)) = w8 at *
  have x0 : w8.cell? ⟨X, 0, none⟩ = some (.bool ys.serial) := (by rw [cell_of HS8.out]; rfl)
  have x1 : w8.cell? ⟨X, 1, none⟩ = some (vi ys.bugs) := (by rw [cell_of HS8.out]; rfl)
  have x2 : w8.cell? ⟨X, 2, none⟩ = some (.slice d1 ys.vs.length g1) := (by rw [cell_of HS8.out]; rfl)
  have x3 : w8.cell? ⟨X, 3, none⟩ = some (.slice d2 ys.ws.length g2) := (by rw [cell_of HS8.out]; rfl)
  have x4 : w8.cell? ⟨X, 4, none⟩ = some (.slice d3 ys.es.length g3) := (by rw [cell_of HS8.out]; rfl)
  have x5 : w8.cell? ⟨X, 5, none⟩ = some (vi x.m.stamps) := (by rw [cell_of HS8.out]; rfl)
  have x6 : w8.cell? ⟨X, 6, none⟩ = some (vi x.m.now) := (by rw [cell_of HS8.out]; rfl)
  have x7 : w8.cell? ⟨X, 7, none⟩ = some (.slice a4 x.m.ds.length c4) := (by rw [cell_of HS8.out]; rfl)
  have HT := Lib.hid (two_st (W := w8) (b := X + 1 + 1) (N := w.heap.size) (.bool ys.serial) (vi ys.bugs) (.slice d1 ys.vs.length g1) (.slice d2 ys.ws.length g2) (.slice d3 ys.es.length g3) (vi x.m.stamps) (vi x.m.now) (.slice a4 x.m.ds.length c4) (vi 0) (.slice none 0 0) (vi 0) (vi 0) (vi 0) (vi 0) (.bool false) (vi 0) hRS.out hRA.out (by have := HXX.out; omega))
  have q0 : w8.cell? ⟨X + 1 + 1, 0, none⟩ = some (.bool false) := (by rw [cell_of hRS.out]; rfl)
  have q1 : w8.cell? ⟨X + 1 + 1, 1, none⟩ = some (vi 0) := (by rw [cell_of hRS.out]; rfl)
  have q2 : w8.cell? ⟨X + 1 + 1, 2, none⟩ = some (.slice none 0 0) := (by rw [cell_of hRS.out]; rfl)
  have q3 : w8.cell? ⟨X + 1 + 1, 3, none⟩ = some (.slice none 0 0) := (by rw [cell_of hRS.out]; rfl)
  have q4 : w8.cell? ⟨X + 1 + 1, 4, none⟩ = some (.slice none 0 0) := (by rw [cell_of hRS.out]; rfl)
  have q5 : w8.cell? ⟨X + 1 + 1, 5, none⟩ = some (vi 0) := (by rw [cell_of hRS.out]; rfl)
  have q6 : w8.cell? ⟨X + 1 + 1, 6, none⟩ = some (vi 0) := (by rw [cell_of hRS.out]; rfl)
  have q7 : w8.cell? ⟨X + 1 + 1, 7, none⟩ = some (.slice none 0 0) := (by rw [cell_of hRS.out]; rfl)
  have z0 : w8.cell? ⟨X + 1 + 1 + 1, 0, none⟩ = some (vi 0) := (by rw [cell_of hRA.out]; rfl)
  have z1 : w8.cell? ⟨X + 1 + 1 + 1, 1, none⟩ = some (.slice none 0 0) := (by rw [cell_of hRA.out]; rfl)
  have z2 : w8.cell? ⟨X + 1 + 1 + 1, 2, none⟩ = some (vi 0) := (by rw [cell_of hRA.out]; rfl)
  have z3 : w8.cell? ⟨X + 1 + 1 + 1, 3, none⟩ = some (vi 0) := (by rw [cell_of hRA.out]; rfl)
  have z4 : w8.cell? ⟨X + 1 + 1 + 1, 4, none⟩ = some (vi 0) := (by rw [cell_of hRA.out]; rfl)
  have z5 : w8.cell? ⟨X + 1 + 1 + 1, 5, none⟩ = some (vi 0) := (by rw [cell_of hRA.out]; rfl)
  have z6 : w8.cell? ⟨X + 1 + 1 + 1, 6, none⟩ = some (.bool false) := (by rw [cell_of hRA.out]; rfl)
  have z7 : w8.cell? ⟨X + 1 + 1 + 1, 7, none⟩ = some (vi 0) := (by rw [cell_of hRA.out]; rfl)
  have qf : ∀ j, w8.frozen? ⟨X + 1 + 1, j, none⟩ = false := fun j => free_of hRS.out j
  have zf : ∀ j, w8.frozen? ⟨X + 1 + 1 + 1, j, none⟩ = false := fun j => free_of hRA.out j
  go_wp2_with fail
  generalize ((((((((((((((((w8.setCell ⟨X + 1 + 1, 0, none⟩ (.bool ys.serial)).setCell ⟨X + 1 + 1, 1, none⟩ (vi ys.bugs)).setCell ⟨X + 1 + 1, 2, none⟩ (.slice d1 ys.vs.length g1)).setCell ⟨X + 1 + 1, 3, none⟩ (.slice d2 ys.ws.length g2)).setCell ⟨X + 1 + 1, 4, none⟩ (.slice d3 ys.es.length g3)).setCell ⟨X + 1 + 1, 5, none⟩ (vi x.m.stamps)).setCell ⟨X + 1 + 1, 6, none⟩ (vi x.m.now)).setCell ⟨X + 1 + 1, 7, none⟩ (.slice a4 x.m.ds.length c4)).setCell ⟨X + 1 + 1 + 1, 0, none⟩ (vi 0)).setCell ⟨X + 1 + 1 + 1, 1, none⟩ (.slice none 0 0)).setCell ⟨X + 1 + 1 + 1, 2, none⟩ (vi 0)).setCell ⟨X + 1 + 1 + 1, 3, none⟩ (vi 0)).setCell ⟨X + 1 + 1 + 1, 4, none⟩ (vi 0)).setCell ⟨X + 1 + 1 + 1, 5, none⟩ (vi 0)).setCell ⟨X + 1 + 1 + 1, 6, none⟩ (.bool false)).setCell ⟨X + 1 + 1 + 1, 7, none⟩ (vi 0)) = wz at *
  have r0 : wz.cell? ⟨X + 1 + 1, 0, none⟩ = some (.bool ys.serial) := (by rw [cell_of HT.out.1]; rfl)
  have r1 : wz.cell? ⟨X + 1 + 1, 1, none⟩ = some (vi ys.bugs) := (by rw [cell_of HT.out.1]; rfl)
  have r2 : wz.cell? ⟨X + 1 + 1, 2, none⟩ = some (.slice d1 ys.vs.length g1) := (by rw [cell_of HT.out.1]; rfl)
  have r3 : wz.cell? ⟨X + 1 + 1, 3, none⟩ = some (.slice d2 ys.ws.length g2) := (by rw [cell_of HT.out.1]; rfl)
  have r4 : wz.cell? ⟨X + 1 + 1, 4, none⟩ = some (.slice d3 ys.es.length g3) := (by rw [cell_of HT.out.1]; rfl)
  have r5 : wz.cell? ⟨X + 1 + 1, 5, none⟩ = some (vi x.m.stamps) := (by rw [cell_of HT.out.1]; rfl)
  have r6 : wz.cell? ⟨X + 1 + 1, 6, none⟩ = some (vi x.m.now) := (by rw [cell_of HT.out.1]; rfl)
  have r7 : wz.cell? ⟨X + 1 + 1, 7, none⟩ = some (.slice a4 x.m.ds.length c4) := (by rw [cell_of HT.out.1]; rfl)
  have s0 : wz.cell? ⟨X + 1 + 1 + 1, 0, none⟩ = some (vi 0) := (by rw [cell_of HT.out.2.1]; rfl)
  have s1 : wz.cell? ⟨X + 1 + 1 + 1, 1, none⟩ = some (.slice none 0 0) := (by rw [cell_of HT.out.2.1]; rfl)
  have s2 : wz.cell? ⟨X + 1 + 1 + 1, 2, none⟩ = some (vi 0) := (by rw [cell_of HT.out.2.1]; rfl)
  have s3 : wz.cell? ⟨X + 1 + 1 + 1, 3, none⟩ = some (vi 0) := (by rw [cell_of HT.out.2.1]; rfl)
  have s4 : wz.cell? ⟨X + 1 + 1 + 1, 4, none⟩ = some (vi 0) := (by rw [cell_of HT.out.2.1]; rfl)
  have s5 : wz.cell? ⟨X + 1 + 1 + 1, 5, none⟩ = some (vi 0) := (by rw [cell_of HT.out.2.1]; rfl)
  have s6 : wz.cell? ⟨X + 1 + 1 + 1, 6, none⟩ = some (.bool false) := (by rw [cell_of HT.out.2.1]; rfl)
  have s7 : wz.cell? ⟨X + 1 + 1 + 1, 7, none⟩ = some (vi 0) := (by rw [cell_of HT.out.2.1]; rfl)
  refine bodyPost_ret (v := .tuple #[.agg #[.bool ys.serial, vi ys.bugs, .slice d1 ys.vs.length g1, .slice d2 ys.ws.length g2, .slice d3 ys.es.length g3, vi x.m.stamps, vi x.m.now, .slice a4 x.m.ds.length c4], .agg #[vi 0, .slice none 0 0, vi 0, vi 0, vi 0, vi 0, .bool false, vi 0]]) (by simp [results, Try.results16, go_sem, r0, r1, r2, r3, r4, r5, r6, r7, s0, s1, s2, s3, s4, s5, s6, s7]) rfl ?_
  have hq : fin21 x.m en = (⟨ys, x.m.stamps, x.m.now, x.m.ds⟩, ⟨0, [], 0, 0, 0, zeroE'⟩) := by rw [HS7.out]; rfl
  rw [hq]
  have hX := HXX.out
  have h4 := H4S.out
  have := ap_ret2 (wf := w7) (y := ⟨.slice d1 ys.vs.length g1, .slice d2 ys.ws.length g2, .slice d3 ys.es.length g3, ys⟩) (q := (⟨ys, x.m.stamps, x.m.now, x.m.ds⟩, ⟨0, [], 0, 0, 0, zeroE'⟩)) HXA.out HHA.out HBW.out H4S.out HB7.out HK7.out (fun j h1 h2 => (HT.out.2.2.1 j (by omega) (by omega)).trans (HO8.out j (by omega))) (HB8.out.trans HT.out.2.2.2) rfl rfl
  have he : shV ⟨.slice d1 ys.vs.length g1, .slice d2 ys.ws.length g2, .slice d3 ys.es.length g3, x.dv, ⟨ys, x.m.stamps, x.m.now, x.m.ds⟩⟩ = .agg #[.bool ys.serial, vi ys.bugs, .slice d1 ys.vs.length g1, .slice d2 ys.ws.length g2, .slice d3 ys.es.length g3, vi x.m.stamps, vi x.m.now, .slice a4 x.m.ds.length c4] := by unfold shV shC; rw [HXE.out]
  rw [he] at this
  exact this
end Go.Proofs.Ytdkkpkgfiodlbaa
