/- The state of layer 19's reference in memory; its writes, has and later. -/
import Derived.Test.YtbadpfcjoobniaaMvBlocks
namespace Go.Proofs.Ytbadpfcjoobniaa
open Go.RowKit Go.Maps

/-- A version of a key: the key, from which time on, the value. -/
structure Ver3 where
  key : Int
  at_ : Int
  val : Int
deriving DecidableEq
def ver3V (x : Ver3) : List Value := [vi x.key, vi x.at_, vi x.val]
def EVer3 (_ : World) (cs : List Value) (x : Ver3) : Prop := cs = ver3V x
abbrev RdVer3 (w : World) (v : Value) (l : List Ver3) : Prop := RdS 3 EVer3 w v l
theorem RdVer3.later {A B : World} {v : Value} {l : List Ver3} (h : RdVer3 A v l) (hb : Below A.heap.size A B) : RdVer3 B v l := RdS.below h hb fun _ _ h => h
theorem RdVer3.at {w : World} {v : Value} {xs : List Ver3} (h : RdVer3 w v xs) : ∃ a len cap, v = .slice a len cap ∧ len = xs.length ∧ xs.length ≤ 9223372036854775807 ∧ ∀ j x, xs[j]? = some x → ∃ b off, a = some ⟨b, off, none⟩ ∧ w.cell? ⟨b, off + j * 3, none⟩ = some (vi x.key) ∧ w.cell? ⟨b, off + j * 3 + 1, none⟩ = some (vi x.at_) ∧ w.cell? ⟨b, off + j * 3 + 2, none⟩ = some (vi x.val) := by
  obtain ⟨a, len, cap, h1, h2, h3, h4, h5, h6⟩ := h
  refine ⟨a, len, cap, h1, h2, h3, fun j x hj => ?_⟩
  obtain ⟨b, off, cs, ha, hl, hc, rfl⟩ := h6 j x hj
  exact ⟨b, off, ha, by simpa using hc 0 _ rfl, by simpa [Nat.add_assoc] using hc 1 _ rfl, by simpa [Nat.add_assoc] using hc 2 _ rfl⟩
/-- One who waits, as an element of a slice. -/
def ERdy (w : World) (cs : List Value) (r : Rdy) : Prop := ∃ wv rv, cs = [vi r.txn, vi r.home, vi r.start, wv, rv] ∧ RdyS w ⟨wv, rv, r⟩
abbrev RdRdy (w : World) (v : Value) (l : List Rdy) : Prop := RdS 5 ERdy w v l
theorem ERdy.later {A B : World} {cs : List Value} {r : Rdy} (h : ERdy A cs r) (hb : Below A.heap.size A B) : ERdy B cs r := by
  obtain ⟨wv, rv, h1, h2⟩ := h; exact ⟨wv, rv, h1, h2.later hb⟩
theorem RdRdy.later {A B : World} {v : Value} {l : List Rdy} (h : RdRdy A v l) (hb : Below A.heap.size A B) : RdRdy B v l := RdS.below h hb fun _ _ h => h.later hb
theorem RdRdy.at {w : World} {v : Value} {xs : List Rdy} (h : RdRdy w v xs) : ∃ a len cap, v = .slice a len cap ∧ len = xs.length ∧ xs.length ≤ 9223372036854775807 ∧ ∀ j x, xs[j]? = some x → ∃ b off wv rv, a = some ⟨b, off, none⟩ ∧ RdyS w ⟨wv, rv, x⟩ ∧ w.cell? ⟨b, off + j * 5, none⟩ = some (vi x.txn) ∧ w.cell? ⟨b, off + j * 5 + 1, none⟩ = some (vi x.home) ∧ w.cell? ⟨b, off + j * 5 + 2, none⟩ = some (vi x.start) ∧ w.cell? ⟨b, off + j * 5 + 3, none⟩ = some wv ∧ w.cell? ⟨b, off + j * 5 + 4, none⟩ = some rv := by
  obtain ⟨a, len, cap, h1, h2, h3, h4, h5, h6⟩ := h
  refine ⟨a, len, cap, h1, h2, h3, fun j x hj => ?_⟩
  obtain ⟨b, off, cs, ha, hl, hc, wv, rv, rfl, hx⟩ := h6 j x hj
  exact ⟨b, off, wv, rv, ha, hx, by simpa using hc 0 _ rfl, by simpa [Nat.add_assoc] using hc 1 _ rfl, by simpa [Nat.add_assoc] using hc 2 _ rfl, by simpa [Nat.add_assoc] using hc 3 _ rfl, by simpa [Nat.add_assoc] using hc 4 _ rfl⟩
/-- An end, as an element of a slice. -/
def EEn (_ : World) (cs : List Value) (e : EndM) : Prop := cs = [vi e.txn, .bool e.commit, vi e.at_]
abbrev RdEn (w : World) (v : Value) (l : List EndM) : Prop := RdS 3 EEn w v l
theorem RdEn.later {A B : World} {v : Value} {l : List EndM} (h : RdEn A v l) (hb : Below A.heap.size A B) : RdEn B v l := RdS.below h hb fun _ _ h => h
theorem RdEn.at {w : World} {v : Value} {xs : List EndM} (h : RdEn w v xs) : ∃ a len cap, v = .slice a len cap ∧ len = xs.length ∧ xs.length ≤ 9223372036854775807 ∧ ∀ j x, xs[j]? = some x → ∃ b off, a = some ⟨b, off, none⟩ ∧ w.cell? ⟨b, off + j * 3, none⟩ = some (vi x.txn) ∧ w.cell? ⟨b, off + j * 3 + 1, none⟩ = some (.bool x.commit) ∧ w.cell? ⟨b, off + j * 3 + 2, none⟩ = some (vi x.at_) := by
  obtain ⟨a, len, cap, h1, h2, h3, h4, h5, h6⟩ := h
  refine ⟨a, len, cap, h1, h2, h3, fun j x hj => ?_⟩
  obtain ⟨b, off, cs, ha, hl, hc, rfl⟩ := h6 j x hj
  exact ⟨b, off, ha, by simpa using hc 0 _ rfl, by simpa [Nat.add_assoc] using hc 1 _ rfl, by simpa [Nat.add_assoc] using hc 2 _ rfl⟩

/-- The reference's state. -/
structure RSt where
  serial : Bool
  bugs : Int
  vs : List Ver3
  ws : List Rdy
  es : List EndM
/-- .. and the slice values that its lists lie in. -/
structure RSV where
  vv : Value
  wv : Value
  ev : Value
  s : RSt
def rsC (x : RSV) : Array Value := #[.bool x.s.serial, vi x.s.bugs, x.vv, x.wv, x.ev]
def rsV (x : RSV) : Value := .agg (rsC x)
structure RdSt (W : World) (x : RSV) : Prop where
  vs : RdVer3 W x.vv x.s.vs
  ws : RdRdy W x.wv x.s.ws
  es : RdEn W x.ev x.s.es
theorem RdSt.later {A B : World} {x : RSV} (h : RdSt A x) (hb : Below A.heap.size A B) : RdSt B x := ⟨h.vs.later hb, h.ws.later hb, h.es.later hb⟩

theorem RdOps.el {w : World} {a : Option Addr} {n c : Nat} {l : List GOp} (h : RdOps w (.slice a n c) l) {k : Nat} {o : GOp} (ho : l[k]? = some o) : ∃ b off, a = some ⟨b, off, none⟩ ∧ w.cell? ⟨b, off + k * 3, none⟩ = some (vi o.kind) ∧ w.cell? ⟨b, off + k * 3 + 1, none⟩ = some (vi o.key) ∧ w.cell? ⟨b, off + k * 3 + 2, none⟩ = some (vi o.val) := by
  obtain ⟨_, _, _, he, _, _, hc⟩ := h.at
  simp only [Value.slice.injEq] at he
  obtain ⟨rfl, -, -⟩ := he
  exact hc k o ho
theorem RdInts.el {w : World} {a : Option Addr} {n c : Nat} {l : List Int} (h : RdInts w (.slice a n c) l) {k : Nat} {o : Int} (ho : l[k]? = some o) : ∃ b off, a = some ⟨b, off, none⟩ ∧ w.cell? ⟨b, off + k, none⟩ = some (vi o) ∧ i64 o := by
  obtain ⟨_, _, _, he, _, _, hc⟩ := h.at
  simp only [Value.slice.injEq] at he
  obtain ⟨rfl, -, -⟩ := he
  exact hc k o ho
theorem RdVer3.el {w : World} {a : Option Addr} {n c : Nat} {l : List Ver3} (h : RdVer3 w (.slice a n c) l) {k : Nat} {x : Ver3} (ho : l[k]? = some x) : ∃ b off, a = some ⟨b, off, none⟩ ∧ w.cell? ⟨b, off + k * 3, none⟩ = some (vi x.key) ∧ w.cell? ⟨b, off + k * 3 + 1, none⟩ = some (vi x.at_) ∧ w.cell? ⟨b, off + k * 3 + 2, none⟩ = some (vi x.val) := by
  obtain ⟨_, _, _, he, _, _, hc⟩ := h.at
  simp only [Value.slice.injEq] at he
  obtain ⟨rfl, -, -⟩ := he
  exact hc k x ho
theorem RdEn.el {w : World} {a : Option Addr} {n c : Nat} {l : List EndM} (h : RdEn w (.slice a n c) l) {k : Nat} {x : EndM} (ho : l[k]? = some x) : ∃ b off, a = some ⟨b, off, none⟩ ∧ w.cell? ⟨b, off + k * 3, none⟩ = some (vi x.txn) ∧ w.cell? ⟨b, off + k * 3 + 1, none⟩ = some (.bool x.commit) ∧ w.cell? ⟨b, off + k * 3 + 2, none⟩ = some (vi x.at_) := by
  obtain ⟨_, _, _, he, _, _, hc⟩ := h.at
  simp only [Value.slice.injEq] at he
  obtain ⟨rfl, -, -⟩ := he
  exact hc k x ho
theorem RdRdy.el {w : World} {a : Option Addr} {n c : Nat} {l : List Rdy} (h : RdRdy w (.slice a n c) l) {k : Nat} {x : Rdy} (ho : l[k]? = some x) : ∃ b off wv rv, a = some ⟨b, off, none⟩ ∧ RdyS w ⟨wv, rv, x⟩ ∧ w.cell? ⟨b, off + k * 5, none⟩ = some (vi x.txn) ∧ w.cell? ⟨b, off + k * 5 + 1, none⟩ = some (vi x.home) ∧ w.cell? ⟨b, off + k * 5 + 2, none⟩ = some (vi x.start) ∧ w.cell? ⟨b, off + k * 5 + 3, none⟩ = some wv ∧ w.cell? ⟨b, off + k * 5 + 4, none⟩ = some rv := by
  obtain ⟨_, _, _, he, _, _, hc⟩ := h.at
  simp only [Value.slice.injEq] at he
  obtain ⟨rfl, -, -⟩ := he
  exact hc k x ho
theorem any_take {α : Type} {q : α → Bool} {l : List α} {k : Nat} {o : α} (h : ∀ x ∈ l.take k, q x = false) (ho : l[k]? = some o) (hq : q o = false) : ∀ x ∈ l.take (k + 1), q x = false := fun x hx => by
  rw [take_at ho] at hx
  rcases List.mem_append.1 hx with h1 | h1
  · exact h x h1
  · rw [List.mem_singleton.1 h1]; exact hq
theorem any_none {α : Type} {q : α → Bool} {l : List α} {k : Nat} (h : ∀ x ∈ l.take k, q x = false) (hk : ¬ k < l.length) : l.any q = false := by
  rw [List.any_eq_false]
  intro o ho
  rw [h o (by rw [List.take_of_length_le (by omega)]; exact ho)]; decide
theorem any_some {α : Type} {q : α → Bool} {l : List α} {k : Nat} {o : α} (ho : l[k]? = some o) (hq : q o = true) : l.any q = true := List.any_eq_true.2 ⟨o, List.mem_of_getElem? ho, hq⟩


set_option maxRecDepth 100000 in
set_option maxHeartbeats 4000000 in
theorem rnWrites_call (x : RV) (key : Int) (w : World) (hx : RdyS w x) :
    Calls Try.prog 54 #[rdyV x, vi key] w fun e w' => e = .returned (.bool (writesB x.r key)) ∧ Below w.heap.size w w' := by
  obtain ⟨wv, rv, r⟩ := x
  have HX := Lib.hid hx
  obtain ⟨aw, nw, cw, hwv, rfl, hmw, -⟩ := (show RdOps w wv r.writes from hx.ws).at
  subst hwv
  have HB := Lib.hid ((Below.refl w.heap.size w).alloc (Nat.le_refl _) (.cells (rdyC ⟨.slice aw r.writes.length cw, rv, r⟩) 58))
  clear hx
  unfold rdyV rdyC at *
  simp only at HB
  go_enter Try.func54, Try.ntmps54
  go_wp2_with fail
  generalize (w.alloc (.cells #[vi r.txn, vi r.home, vi r.start, .slice aw r.writes.length cw, rv] 58)) = w1 at *
  go_loopw [10] (fun i wr => ∃ k : Nat, k ≤ r.writes.length ∧ i = vi k ∧ Hid (Below w.heap.size w wr) ∧ Hid (∀ o ∈ r.writes.take k, keyB key o = false)) (fun i _ => r.writes.length - (intOf i).toNat)
  case atStart => exact ⟨0, Nat.zero_le _, rfl, HB, Lib.hid (by simp)⟩
  case round =>
    obtain ⟨wj, rfl⟩ : ∃ wj : World, wj = wr := ⟨_, rfl⟩
    obtain ⟨k, hk, rfl, HJ, HN⟩ := hrel
    by_cases hlt : k < r.writes.length
    · have k1 : decide ((k : Int) < r.writes.length) = true := decide_eq_true (by omega)
      have k2 : (k : Int) < r.writes.length := by omega
      have hwk : IntKind.i64.wrap ((k : Int) + 1) = (k : Int) + 1 := IntWalk.i64_in _ (by omega)
      obtain ⟨o, ho⟩ := some_at hlt
      obtain ⟨g, off, ha, c0, c1, c2⟩ := (show RdOps wj (.slice aw r.writes.length cw) r.writes from (HX.out.later HJ.out).ws).el ho
      subst ha
      have HO := Lib.hid ho
      have hsz := HJ.out.size
      clear ho
      cases hq : keyB key o with
      | true =>
        have hq1 : (o.key == key) = true := hq
        have hr : writesB r key = true := any_some HO.out hq
        go_wp2_with fail
        go_ret
        exact ⟨by rw [hr]; rfl, HJ.out.alloc hsz _⟩
      | false =>
        have hq1 : (o.key == key) = false := hq
        go_wp2_with fail
        exact ⟨⟨k + 1, by omega, by go_num, Lib.hid (HJ.out.alloc hsz _), Lib.hid (any_take HN.out HO.out hq)⟩, by simp only [intOf]; omega⟩
    · have k1 : decide ((k : Int) < r.writes.length) = false := decide_eq_false (by omega)
      have hr : writesB r key = false := any_none HN.out hlt
      go_wp2_with fail
      go_ret
      exact ⟨by rw [hr]; rfl, HJ.out⟩

set_option maxRecDepth 100000 in
set_option maxHeartbeats 4000000 in
theorem rnHas_call (v : Value) (l : List Int) (key : Int) (w : World) (hx : RdInts w v l) :
    Calls Try.prog 55 #[v, vi key] w fun e w' => e = .returned (.bool (l.any (fun k => key == k))) ∧ Below w.heap.size w w' := by
  have HX := Lib.hid hx
  obtain ⟨a, n, c, hwv, rfl, hm, -⟩ := hx.at
  subst hwv
  clear hx
  go_enter Try.func55, Try.ntmps55
  go_wp2_with fail
  go_loopw [9] (fun i wr => ∃ k : Nat, k ≤ l.length ∧ i = vi k ∧ Hid (Below w.heap.size w wr) ∧ Hid (∀ o ∈ l.take k, (key == o) = false)) (fun i _ => l.length - (intOf i).toNat)
  case atStart => exact ⟨0, Nat.zero_le _, rfl, Lib.hid (Below.refl _ _), Lib.hid (by simp)⟩
  case round =>
    obtain ⟨wj, rfl⟩ : ∃ wj : World, wj = wr := ⟨_, rfl⟩
    obtain ⟨k, hk, rfl, HJ, HN⟩ := hrel
    by_cases hlt : k < l.length
    · have k1 : decide ((k : Int) < l.length) = true := decide_eq_true (by omega)
      have k2 : (k : Int) < l.length := by omega
      have hwk : IntKind.i64.wrap ((k : Int) + 1) = (k : Int) + 1 := IntWalk.i64_in _ (by omega)
      obtain ⟨o, ho⟩ := some_at hlt
      obtain ⟨g, off, ha, c0, -⟩ := (HX.out.later HJ.out).el ho
      subst ha
      have HO := Lib.hid ho
      clear ho
      cases hq : (key == o) with
      | true =>
        have hq1 : (o == key) = true := by rw [beq_iff_eq] at hq ⊢; exact hq.symm
        have hr : l.any (fun k => key == k) = true := any_some HO.out hq
        go_wp2_with fail
        go_ret
        exact ⟨by rw [hr]; rfl, HJ.out⟩
      | false =>
        have hq1 : (o == key) = false := by rw [beq_eq_false_iff_ne] at hq ⊢; exact fun e => hq e.symm
        go_wp2_with fail
        exact ⟨⟨k + 1, by omega, by go_num, HJ, Lib.hid (any_take HN.out HO.out hq)⟩, by simp only [intOf]; omega⟩
    · have k1 : decide ((k : Int) < l.length) = false := decide_eq_false (by omega)
      have hr : l.any (fun k => key == k) = false := any_none HN.out hlt
      go_wp2_with fail
      go_ret
      exact ⟨by rw [hr]; rfl, HJ.out⟩

def later3 (key t : Int) (x : Ver3) : Bool := x.key == key && decide (t < x.at_)
set_option maxRecDepth 100000 in
set_option maxHeartbeats 4000000 in
theorem rnLater_call (x : RSV) (key t : Int) (w : World) (hx : RdSt w x) :
    Calls Try.prog 53 #[rsV x, vi key, vi t] w fun e w' => e = .returned (.bool (x.s.vs.any (later3 key t))) ∧ Below w.heap.size w w' := by
  obtain ⟨vv, wv, ev, s⟩ := x
  have HX := Lib.hid hx.vs
  obtain ⟨a, n, c, hwv, rfl, hm, -⟩ := (show RdVer3 w vv s.vs from hx.vs).at
  subst hwv
  simp only at HX
  have HB := Lib.hid ((Below.refl w.heap.size w).alloc (Nat.le_refl _) (.cells (rsC ⟨.slice a s.vs.length c, wv, ev, s⟩) 53))
  clear hx
  unfold rsV rsC at *
  simp only at HB
  go_enter Try.func53, Try.ntmps53
  go_wp2_with fail
  generalize (w.alloc (.cells #[.bool s.serial, vi s.bugs, .slice a s.vs.length c, wv, ev] 53)) = w1 at *
  go_loopw [12] (fun i wr => ∃ k : Nat, k ≤ s.vs.length ∧ i = vi k ∧ Hid (Below w.heap.size w wr) ∧ Hid (∀ o ∈ s.vs.take k, later3 key t o = false)) (fun i _ => s.vs.length - (intOf i).toNat)
  case atStart => exact ⟨0, Nat.zero_le _, rfl, HB, Lib.hid (by simp)⟩
  case round =>
    obtain ⟨wj, rfl⟩ : ∃ wj : World, wj = wr := ⟨_, rfl⟩
    obtain ⟨k, hk, rfl, HJ, HN⟩ := hrel
    by_cases hlt : k < s.vs.length
    · have k1 : decide ((k : Int) < s.vs.length) = true := decide_eq_true (by omega)
      have k2 : (k : Int) < s.vs.length := by omega
      have hwk : IntKind.i64.wrap ((k : Int) + 1) = (k : Int) + 1 := IntWalk.i64_in _ (by omega)
      obtain ⟨o, ho⟩ := some_at hlt
      obtain ⟨g, off, ha, c0, c1, c2⟩ := (HX.out.later HJ.out).el ho
      subst ha
      have HO := Lib.hid ho
      have hsz := HJ.out.size
      clear ho
      have stop : later3 key t o = false → (∃ k_1 : Nat, k_1 ≤ s.vs.length ∧ vi ((k : Int) + 1) = vi k_1 ∧ Hid (Below w.heap.size w (wj.alloc (.cells #[vi o.key, vi o.at_, vi o.val] 121))) ∧ Hid (∀ o ∈ s.vs.take k_1, later3 key t o = false)) := fun hq =>
        ⟨k + 1, by omega, by go_num, Lib.hid (HJ.out.alloc hsz _), Lib.hid (any_take HN.out HO.out hq)⟩
      have STOP := Lib.hid stop
      clear stop
      cases hq1 : (o.key == key) with
      | true =>
        cases hq2 : decide (t < o.at_) with
        | true =>
          have hr : s.vs.any (later3 key t) = true := any_some HO.out (by unfold later3; rw [hq1, hq2]; rfl)
          go_wp2_with fail
          go_ret
          exact ⟨by rw [hr]; rfl, HJ.out.alloc hsz _⟩
        | false =>
          go_wp2_with fail
          exact ⟨STOP.out (by unfold later3; rw [hq1, hq2]; rfl), by simp only [intOf]; omega⟩
      | false =>
        go_wp2_with fail
        exact ⟨STOP.out (by unfold later3; rw [hq1]; rfl), by simp only [intOf]; omega⟩
    · have k1 : decide ((k : Int) < s.vs.length) = false := decide_eq_false (by omega)
      have hr : s.vs.any (later3 key t) = false := any_none HN.out hlt
      go_wp2_with fail
      go_ret
      exact ⟨by rw [hr]; rfl, HJ.out⟩
end Go.Proofs.Ytbadpfcjoobniaa
