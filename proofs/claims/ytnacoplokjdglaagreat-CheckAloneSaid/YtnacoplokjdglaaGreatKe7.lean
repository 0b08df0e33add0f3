/- Texts of one proof, one behind the other: DpHas, DpLiftW, DpCmp, DpLay, DpOrd, DpSort0, DpSort, DpEq. -/
import Derived.Shelf.SlSortCmp.KitK
import Derived.Sort.OwnSorted
import Derived.Shelf.SlGeneric
import Derived.Shelf.SlLaysF0
import Derived.Test.YtnacoplokjdglaaGreatProg
import Derived.Shelf.SlSortCmp.WholeK
import Derived.Test.YtnacoplokjdglaaGreatKe1
import Derived.Test.YtnacoplokjdglaaGreatKe2
import Derived.Test.YtnacoplokjdglaaGreatKe3
import Derived.Test.YtnacoplokjdglaaGreatKe4
import Derived.Test.YtnacoplokjdglaaGreatKe5
import Derived.Test.YtnacoplokjdglaaGreatKe6
set_option linter.all false
namespace Go.Proofs.YtnacoplokjdglaaGreat
open Go.RowKit Go.Maps

def idxW (key : Int) (l : List GOp) : Int := match l.findIdx? (wkB key) with | some i => (i : Int) | none => -1
theorem idxW_any (key : Int) (l : List GOp) : decide (0 ≤ idxW key l) = l.any (wkB key) := by
  unfold idxW
  cases h : l.findIdx? (wkB key) with
  | none =>
    rw [List.findIdx?_eq_none_iff] at h
    simp only [show ¬ ((0 : Int) ≤ -1) from by decide, decide_false]
    symm; rw [List.any_eq_false]; exact fun x hx => by simp [h x hx]
  | some i =>
    have hs : (l.findIdx? (wkB key)).isSome = true := by rw [h]; rfl
    rw [List.findIdx?_isSome] at hs
    rw [hs]; simp

set_option maxRecDepth 100000 in
theorem hitW_call (o : GOp) (c : GChoice) (kb : Nat) (w : World) (hk : w.cell? ⟨kb, 1, none⟩ = some (vi c.key)) :
    Calls Tryz.prog 120 #[.agg #[vi o.kind, vi o.key, vi o.val], .pointer (some ⟨kb, 0, none⟩)] w fun e w' => e = .returned (.bool (wkB c.key o)) ∧ Below w.heap.size w w' := by
  have hk' := fun o' => cell_later ((Below.refl w.heap.size w).alloc (Nat.le_refl _) o') hk
  by_cases h2 : o.kind = 2
  · have h2' : (o.kind == 2) = true := by simp [h2]
    have hr : wkB c.key o = (o.key == c.key) := by simp [wkB, h2]
    clear h2
    go_enter Tryz.func120, Tryz.ntmps120
    go_wp2_with fail
    go_ret
    exact ⟨by rw [hr]; rfl, (Below.refl _ _).alloc (Nat.le_refl _) _⟩
  · have h2' : (o.kind == 2) = false := by simp [h2]
    have hr : wkB c.key o = false := by simp [wkB, h2]
    clear h2
    go_enter Tryz.func120, Tryz.ntmps120
    go_wp2_with fail
    go_ret
    exact ⟨by rw [hr]; rfl, (Below.refl _ _).alloc (Nat.le_refl _) _⟩

set_option maxRecDepth 100000 in
set_option maxHeartbeats 1000000 in
theorem indexW_call (v : Value) (l : List GOp) (c : GChoice) (kb : Nat) (w : World) (hv : RdOps w v l) (hk : w.cell? ⟨kb, 1, none⟩ = some (vi c.key)) :
    Calls Tryz.prog 104 #[v, .func (.func 120) #[] #[.pointer (some ⟨kb, 0, none⟩)]] w fun e w' => e = .returned (.int .i64 (idxW c.key l)) ∧ Below w.heap.size w w' := by
  have HV := Lib.hid hv
  have HK := Lib.hid hk
  obtain ⟨a, len, cap, rfl, rfl, hm, -⟩ := hv.at
  clear hv hk
  go_enter Tryz.func104, Tryz.ntmps104
  go_wp2_with fail
  go_loopw [5, 8] (fun _ i wr => ∃ k : Nat, k ≤ l.length ∧ i = .int .i64 k ∧ (∀ j o, j < k → l[j]? = some o → wkB c.key o = false) ∧ Below w.heap.size w wr) (fun _ i _ => l.length - (intOf i).toNat)
  case atStart => exact ⟨0, Nat.zero_le _, rfl, fun j o hj => absurd hj (Nat.not_lt_zero _), Below.refl _ _⟩
  case round =>
    obtain ⟨k, hk, rfl, hno, hb⟩ := hrel
    have HB := Lib.hid hb
    have HN := Lib.hid hno
    clear hb hno
    by_cases hlt : k < l.length
    · obtain ⟨o, ho⟩ := some_at hlt
      obtain ⟨_, _, _, e5, -, -, hcl⟩ := HV.out.at
      cases e5
      obtain ⟨b, off, rfl, k0', k1', k2'⟩ := hcl k o ho
      have k0 := cell_later HB.out k0'
      have k1 := cell_later HB.out k1'
      have k2 := cell_later HB.out k2'
      have HO := Lib.hid ho
      clear hcl ho k0' k1' k2'
      cases hh : wkB c.key o with
      | true =>
        have HH := Lib.hid hh
        clear hh
        go_wp2_with (go_at_call 120; refine (hitW_call o c kb _ (cell_later HB.out HK.out)).mono ?_; rintro e w1 ⟨rfl, hb1⟩; rw [HH.out])
        go_ret
        have : idxW c.key l = k := by
          unfold idxW
          have : l.findIdx? (wkB c.key) = some k := by
            rw [List.findIdx?_eq_some_iff_getElem]
            have hg := List.getElem?_eq_some_iff.1 HO.out
            refine ⟨hlt, by rw [hg.2]; exact HH.out, fun j hj => ?_⟩
            have := HN.out j l[j] hj (List.getElem?_eq_getElem _)
            simp [this]
          rw [this]
        exact ⟨by rw [this]; rfl, HB.out.trans (hb1.mono HB.out.size)⟩
      | false =>
        have HH := Lib.hid hh
        clear hh
        go_wp2_with (go_at_call 120; refine (hitW_call o c kb _ (cell_later HB.out HK.out)).mono ?_; rintro e w1 ⟨rfl, hb1⟩; rw [HH.out])
        go_roundw
        case rel =>
          refine ⟨k + 1, by omega, by go_num, ?_, HB.out.trans (hb1.mono HB.out.size)⟩
          intro j o' hj ho'
          rcases Nat.lt_or_ge j k with h | h
          · exact HN.out j o' h ho'
          · obtain rfl : j = k := by omega
            rw [HO.out] at ho'; cases ho'; exact HH.out
        case measure => simp [intOf]; omega
    · obtain rfl : k = l.length := by omega
      go_wp2_with fail
      go_ret
      have : idxW c.key l = -1 := by
        unfold idxW
        have : l.findIdx? (wkB c.key) = none := by
          rw [List.findIdx?_eq_none_iff]
          intro x hx
          obtain ⟨j, hj, rfl⟩ := List.mem_iff_getElem.1 hx
          exact HN.out j l[j] hj (List.getElem?_eq_getElem _)
        rw [this]
      exact ⟨by rw [this]; rfl, HB.out⟩

set_option maxRecDepth 100000 in
theorem containsW_call (v : Value) (l : List GOp) (c : GChoice) (kb : Nat) (w : World) (hv : RdOps w v l) (hk : w.cell? ⟨kb, 1, none⟩ = some (vi c.key)) :
    Calls Tryz.prog 83 #[v, .func (.func 120) #[] #[.pointer (some ⟨kb, 0, none⟩)]] w fun e w' => e = .returned (.bool (l.any (wkB c.key))) ∧ Below w.heap.size w w' := by
  go_enter Tryz.func83, Tryz.ntmps83
  go_wp2_with (go_at_call 104; refine (indexW_call v l c kb w hv hk).mono ?_; rintro e w1 ⟨rfl, hb1⟩)
  go_ret
  exact ⟨by rw [← idxW_any]; first | rfl | simp, hb1⟩

/-- What is known of done: a row of bools that says who. -/
def OwDn (base : Nat) (w : World) (v : Value) (ts : List GTxn) (dn : Nat → Bool) : Prop := OwBs base w v ((List.range ts.length).map dn)
theorem dn_at {ts : List GTxn} {dn : Nat → Bool} {i : Nat} (h : i < ts.length) : ((List.range ts.length).map dn)[i]? = some (dn i) := by
  rw [List.getElem?_map, List.getElem?_range h]; rfl
theorem has1_at {ts : List GTxn} {dn : Nat → Bool} {key : Int} {i : Nat} {t : GTxn} (h : ts[i]? = some t) : has1 ts dn key (i : Int) = (dn i && t.ops.any (wkB key)) := by
  have hi := (List.getElem?_eq_some_iff.1 h).1
  unfold has1
  rw [Int.toNat_natCast, h]
  have h1 : decide ((0 : Int) ≤ (i : Int)) = true := decide_eq_true (by omega)
  have h2 : decide ((i : Int) < (ts.length : Int)) = true := decide_eq_true (by omega)
  rw [h1, h2]; simp

structure HasA (c : GChoice) (ts : List GTxn) (dn : Nat → Bool) (k : Nat) : Prop where
  a : 0 < k → has1 ts dn c.key c.a = true
  b : 1 < k → has1 ts dn c.key c.b = true
theorem HasA.more {c : GChoice} {ts : List GTxn} {dn : Nat → Bool} {k : Nat} {i : Int} (h : HasA c ts dn k) (hi : (k = 0 ∧ i = c.a) ∨ (k = 1 ∧ i = c.b)) (hp : has1 ts dn c.key i = true) : HasA c ts dn (k + 1) := by
  rcases hi with ⟨rfl, rfl⟩ | ⟨rfl, rfl⟩
  · exact ⟨fun _ => hp, fun h => absurd h (by omega)⟩
  · exact ⟨fun _ => h.a (by omega), fun _ => hp⟩
theorem HasA.all {c : GChoice} {ts : List GTxn} {dn : Nat → Bool} {k : Nat} (h : HasA c ts dn k) (hk : 1 < k) : hasM ts dn c = true := by
  unfold hasM; rw [h.a (by omega), h.b hk]; rfl
theorem OwBs.later {base : Nat} {w w' : World} {v : Value} {l : List Bool} (h : OwBs base w v l) (hb : Below w.heap.size w w') : OwBs base w' v l := own_below h hb

set_option maxRecDepth 100000 in
set_option maxHeartbeats 4000000 in
theorem has_call (v d : Value) (ts : List GTxn) (dn : Nat → Bool) (base : Nat) (c : GChoice) (w : World) (hv : RdTxns w v ts) (hd : OwDn base w d ts dn) (htl : ts.length ≤ 4096) :
    Calls Tryz.prog 99 #[v, d, chK c] w fun e w' => e = .returned (.bool (hasM ts dn c)) ∧ Below w.heap.size w w' := by
  have HV := Lib.hid hv
  have HD := Lib.hid hd
  obtain ⟨a, len, cap, rfl, rfl, hm, -⟩ := hv.at
  obtain ⟨da, dc, rfl, -⟩ := OwBs.at hd
  have hmf : ∀ (fn : Fn) (first cap : Array Value) (w : World), (Instr.makeFunc fn first cap).run Tryz.prog w = .ok (.func fn first cap) w := fun _ _ _ _ => rfl
  have hdl : ((List.range ts.length).map dn).length = ts.length := by simp
  rw [hdl]
  have HX1 := Lib.hid (alloc_at w (.cells #[vi c.kind, vi c.key, vi c.a, vi c.b] 128))
  have hw1 := Lib.hid (show (w.alloc (.cells #[vi c.kind, vi c.key, vi c.a, vi c.b] 128)).heap.size = w.heap.size + 1 from by simp)
  have HB1 := Lib.hid ((Below.refl w.heap.size w).alloc (Nat.le_refl _) (.cells #[vi c.kind, vi c.key, vi c.a, vi c.b] 128))
  clear hv hd hdl
  go_enter Tryz.func99, Tryz.ntmps99
  go_upto_region 1 with fail
  generalize w.alloc (.cells #[vi c.kind, vi c.key, vi c.a, vi c.b] 128) = w1 at *
  have q2 : w1.cell? ⟨w.heap.size, 2, none⟩ = some (vi c.a) := by rw [cell_of HX1.out]; rfl
  have q3 : w1.cell? ⟨w.heap.size, 3, none⟩ = some (vi c.b) := by rw [cell_of HX1.out]; rfl
  have HB2 := Lib.hid ((Below.refl w1.heap.size w1).alloc (Nat.le_refl _) (.cells #[vi c.a, vi c.b] 3))
  have HX2 := Lib.hid (alloc_at w1 (.cells #[vi c.a, vi c.b] 3))
  have HA := Lib.hid (show HasA c ts dn 0 from ⟨fun h => absurd h (Nat.lt_irrefl 0), fun h => absurd h (by omega)⟩)
  go_wp2_with fail
  have hbs : w1.heap.size + 1 = (w1.alloc (.cells #[vi c.a, vi c.b] 3)).heap.size := by simp
  generalize w1.alloc (.cells #[vi c.a, vi c.b] 3) = w2 at *
  obtain ⟨gb, hgb⟩ : ∃ gb, gb = w1.heap.size := ⟨_, rfl⟩
  rw [← hgb] at HX2 hbs ⊢
  have HBW := Lib.hid (HB1.out.trans (HB2.out.mono HB1.out.size))
  have hw2 : w.heap.size < w2.heap.size := by have := hw1.out; omega
  have HX12 := Lib.hid ((HB2.out.block w.heap.size (by have := hw1.out; omega)).trans HX1.out)
  clear hgb q2 q3 hw1 HB1 HB2 HX1
  go_loopw [15] (fun i wr => ∃ k : Nat, k ≤ 2 ∧ i = .int .i64 k ∧ Hid (HasA c ts dn k ∧ Below w2.heap.size w2 wr)) (fun i _ => 2 - (intOf i).toNat)
  case atStart => exact ⟨0, by omega, rfl, Lib.hid ⟨HA.out, Below.refl _ _⟩⟩
  case round =>
    obtain ⟨wj, rfl⟩ : ∃ wj : World, wj = wr := ⟨_, rfl⟩
    obtain ⟨k, hk, rfl, HJ⟩ := hrel
    by_cases hlt : k < 2
    · have HBJ := Lib.hid HJ.out.2
      have HBX := Lib.hid (HBW.out.trans (HJ.out.2.mono HBW.out.size))
      have k2 : (k : Int) < 2 := by omega
      have hwk : IntKind.i64.wrap ((k : Int) + 1) = (k : Int) + 1 := IntWalk.i64_in _ (by omega)
      obtain ⟨i, hi, hc2⟩ : ∃ i, ((k = 0 ∧ i = c.a) ∨ (k = 1 ∧ i = c.b)) ∧ w2.cell? ⟨gb, k, none⟩ = some (vi i) := by
        have h3 : k = 0 ∨ k = 1 := by omega
        rcases h3 with rfl | rfl
        · exact ⟨c.a, .inl ⟨rfl, rfl⟩, by rw [cell_of HX2.out]; rfl⟩
        · exact ⟨c.b, .inr ⟨rfl, rfl⟩, by rw [cell_of HX2.out]; rfl⟩
      have c0 := cell_later HBJ.out hc2
      have HI := Lib.hid hi
      clear hc2 hi
      have no : has1 ts dn c.key i = false → hasM ts dn c = false := fun h => by
        unfold hasM
        rcases HI.out with ⟨_, rfl⟩ | ⟨_, rfl⟩
        · rw [h]; rfl
        · rw [h]; simp
      have NO := Lib.hid no
      clear no
      by_cases h0 : i < 0
      · have d0 : decide (i < 0) = true := decide_eq_true h0
        have HN := Lib.hid (NO.out (by unfold has1; rw [decide_eq_false (by omega : ¬ 0 ≤ i)]; rfl))
        clear h0
        go_wp2_with fail
        go_ret
        exact ⟨by rw [HN.out]; rfl, HBX.out⟩
      · by_cases h1 : (ts.length : Int) ≤ i
        · have d0 : decide (i < 0) = false := decide_eq_false h0
          have d1 : decide ((ts.length : Int) ≤ i) = true := decide_eq_true h1
          have HN := Lib.hid (NO.out (by unfold has1; rw [decide_eq_false (by omega : ¬ i < (ts.length : Int))]; simp))
          clear h0 h1
          go_wp2_with fail
          go_ret
          exact ⟨by rw [HN.out]; rfl, HBX.out⟩
        · obtain ⟨n, rfl⟩ : ∃ n : Nat, i = (n : Int) := ⟨i.toNat, by omega⟩
          have d0 : decide ((n : Int) < 0) = false := decide_eq_false h0
          have d1 : decide ((ts.length : Int) ≤ (n : Int)) = false := decide_eq_false h1
          have hn : n < ts.length := by omega
          have hnI : (n : Int) < (ts.length : Int) := by omega
          have hn0 : (0 : Int) ≤ (n : Int) := by omega
          obtain ⟨t, ht⟩ := some_at hn
          have H1 := Lib.hid (has1_at (dn := dn) (key := c.key) ht)
          obtain ⟨_, _, _, e5, -, -, hcl⟩ := (HV.out.later HBX.out).at
          cases e5
          obtain ⟨b, off, oa, oc, rfl, hr, k0, k1, k2'⟩ := hcl n t ht
          have HR := Lib.hid hr
          obtain ⟨_, _, e6, hdc⟩ := OwBs.at (HD.out.later HBX.out)
          cases e6
          obtain ⟨db, doff, rfl, x0⟩ := hdc n _ (dn_at hn)
          have HKB := Lib.hid (show wj.cell? ⟨w.heap.size, 1, none⟩ = some (vi c.key) from cell_later HBJ.out (by rw [cell_of HX12.out]; rfl))
          clear hcl hr ht h0 h1 hdc
          cases hdn : dn n with
          | false =>
            rw [hdn] at H1 x0
            have HN := Lib.hid (NO.out H1.out)
            clear hdn
            go_wp2_with fail
            go_ret
            exact ⟨by rw [HN.out]; rfl, HBX.out⟩
          | true =>
            rw [hdn] at H1 x0
            clear hdn
            cases hany : t.ops.any (wkB c.key) with
            | false =>
              have HY := Lib.hid hany
              have HN := Lib.hid (NO.out (by rw [H1.out, hany]; rfl))
              clear hany
              go_wp2_with (go_at_call 83; refine (containsW_call _ t.ops c w.heap.size _ HR.out HKB.out).mono ?_; rw [HY.out]; rintro e w3 ⟨rfl, hb3⟩)
              go_ret
              exact ⟨by rw [HN.out]; rfl, HBX.out.trans (hb3.mono HBX.out.size)⟩
            | true =>
              have HY := Lib.hid hany
              have HP := Lib.hid (show has1 ts dn c.key (n : Int) = true from by rw [H1.out, hany]; rfl)
              clear hany
              go_wp2_with (go_at_call 83; refine (containsW_call _ t.ops c w.heap.size _ HR.out HKB.out).mono ?_; rw [HY.out]; rintro e w3 ⟨rfl, hb3⟩)
              go_roundw
              case rel => exact ⟨k + 1, by omega, by go_num, Lib.hid ⟨HJ.out.1.more HI.out HP.out, HBJ.out.trans (hb3.mono HBJ.out.size)⟩⟩
              case measure => simp [intOf]; omega
    · have hk2 : k = 2 := by omega
      have HE := Lib.hid (HJ.out.1.all (by omega))
      have HBX := Lib.hid (HBW.out.trans (HJ.out.2.mono HBW.out.size))
      subst hk2
      clear HJ
      go_wp2_with fail
      go_ret
      exact ⟨by rw [HE.out]; rfl, HBX.out⟩
end Go.Proofs.YtnacoplokjdglaaGreat

namespace Go.Proofs.YtnacoplokjdglaaGreat
open Go.RowKit Go.Maps
attribute [local go_sem] Oper.semAt_some

/-- A row and a block of another type lie apart. -/
theorem rowNe {N k n b e e' : Nat} {w : World} {v : Value} {xs : List Value} {cs : Array Value} {fr : Nat × Nat} (ho : w.ownsRow N e k v n xs) (hb : w.heap[b]? = some (.cells cs e' fr)) (hne : e ≠ e') : ∀ g, v.ownBlock = some g → g ≠ b := by
  intro g hg h
  subst h
  rcases ho.2 with ⟨h1, _⟩ | ⟨g', cap, cur, h1, _, hh, _⟩
  · rw [h1] at hg; cases hg
  · rw [h1] at hg
    cases hg
    rw [hb] at hh
    cases hh
    exact hne rfl
def liftA (es : List GEdge) (level : Int) (k : Nat) : List (Int × Int) := (es.take k).flatMap (lift1 es level)
def liftB (es : List GEdge) (e : GEdge) (j : Nat) : List (Int × Int) := (es.take j).flatMap (fun g => if g.k = 3 ∧ g.f = e.t then [(e.f, g.t)] else [])
theorem liftA_next {es : List GEdge} {level : Int} {k : Nat} {e : GEdge} (h : es[k]? = some e) : liftA es level (k + 1) = liftA es level k ++ lift1 es level e := by
  unfold liftA; rw [take_at h, List.flatMap_append]; simp
theorem liftB_next {es : List GEdge} {e g : GEdge} {j : Nat} (h : es[j]? = some g) : liftB es e (j + 1) = liftB es e j ++ (if g.k = 3 ∧ g.f = e.t then [(e.f, g.t)] else []) := by
  unfold liftB; rw [take_at h, List.flatMap_append]; simp
theorem liftA_len (es : List GEdge) (level : Int) (k : Nat) : (liftA es level k).length ≤ (liftL es level).length := by
  unfold liftA liftL
  have h : (es.flatMap (lift1 es level)).length = ((es.take k).flatMap (lift1 es level)).length + ((es.drop k).flatMap (lift1 es level)).length := by
    rw [← List.length_append, ← List.flatMap_append, List.take_append_drop]
  omega
theorem liftB_len (es : List GEdge) (e : GEdge) (j : Nat) : (liftB es e j).length ≤ j := by
  unfold liftB
  have : ∀ l : List GEdge, (l.flatMap (fun g => if g.k = 3 ∧ g.f = e.t then [(e.f, g.t)] else [])).length ≤ l.length := by
    intro l
    induction l with
    | nil => simp
    | cons x l ih =>
      rw [List.flatMap_cons, List.length_append, List.length_cons]
      have h1 : (if x.k = 3 ∧ x.f = e.t then [(e.f, x.t)] else []).length ≤ 1 := by split <;> simp
      omega
  have h := this (es.take j)
  have h2 : (es.take j).length ≤ j := List.length_take_le _ _
  omega
theorem liftB_all (es : List GEdge) (e : GEdge) (hk : e.k ≠ 3) : lift1 es 1 e = [(e.f, e.t)] ++ liftB es e es.length := by
  unfold lift1 liftB
  rw [if_pos (.inr hk), if_neg (by rintro (h | h); exact h rfl; exact hk h), List.take_length]
theorem arcV_one (a : Int × Int) : ∀ u ∈ arcV a, u.oneCell' = true := by
  intro u hu; simp [arcV] at hu; rcases hu with rfl | rfl <;> rfl
theorem OwA.push {N : Nat} {w : World} {v : Value} {l : List (Int × Int)} {a : Int × Int} (h : w.ownsRow N 164 2 v (l.length + 1) (l.flatMap arcV ++ arcV a)) : OwA N w v (l ++ [a]) := by
  unfold OwA; simpa using h

set_option maxRecDepth 100000 in
set_option maxHeartbeats 4000000 in
theorem lift_call (v : Value) (es : List GEdge) (level : Int) (w : World) (hr : RdEdges w v es) (hn : es.length ≤ 1000000) (hl : (liftL es level).length ≤ 100000000) :
    Calls Tryz.prog 76 #[v, vi level] w fun e w' => ∃ v', e = .returned v' ∧ OwA w.heap.size w' v' (liftL es level) ∧ Below w.heap.size w w' := by
  have HR := Lib.hid hr
  obtain ⟨av, nv, cv, rfl, rfl, hm, -⟩ := hr.at
  have HL := Lib.hid hl
  clear hr hl
  go_enter Tryz.func76, Tryz.ntmps76
  go_wp2_with fail
  go_loopw [5, 12] (fun x i wr => ∃ k : Nat, k ≤ es.length ∧ i = .int .i64 k ∧ Hid (OwA w.heap.size wr x (liftA es level k) ∧ Below w.heap.size w wr)) (fun _ i _ => es.length - (intOf i).toNat)
  case atStart => exact ⟨0, Nat.zero_le _, rfl, Lib.hid ⟨World.ownsRow_nil _ _ _ _, Below.refl _ _⟩⟩
  case round =>
    obtain ⟨wj, rfl⟩ : ∃ wj : World, wj = wr := ⟨_, rfl⟩
    obtain ⟨k, hk, rfl, HJ⟩ := hrel
    have HO := Lib.hid (show wj.ownsRow w.heap.size 164 2 _ (liftA es level k).length ((liftA es level k).flatMap arcV) from HJ.out.1)
    have HB := Lib.hid HJ.out.2
    obtain ⟨ax, cx, rfl⟩ := Gr.own_shape (show World.ownsRow _ _ _ _ _ (liftA es level k).length _ from HJ.out.1)
    have hln := Nat.le_trans (liftA_len es level k) HL.out
    obtain ⟨n0, hn0⟩ : ∃ n, n = (liftA es level k).length := ⟨_, rfl⟩
    have HN0 := Lib.hid hn0
    rw [← hn0] at HO hln ⊢
    clear HJ hn0
    by_cases hlt : k < es.length
    · have k1 : decide ((k : Int) < es.length) = true := decide_eq_true (by omega)
      have k2 : (k : Int) < es.length := by omega
      have hwk : IntKind.i64.wrap ((k : Int) + 1) = (k : Int) + 1 := IntWalk.i64_in _ (by omega)
      obtain ⟨e, he⟩ := some_at hlt
      obtain ⟨_, _, _, e5, -, -, hcl⟩ := (HR.out.later HB.out).at
      cases e5
      obtain ⟨b, off, rfl, c0, c1, c2⟩ := hcl k e he
      have HNX := Lib.hid (liftA_next (level := level) he)
      have HX := Lib.hid (alloc_at wj (.cells #[vi e.f, vi e.t, vi e.k] 113))
      have HOA := Lib.hid (HO.out.alloc (.cells #[vi e.f, vi e.t, vi e.k] 113))
      have HBA := Lib.hid (HB.out.alloc HB.out.size (.cells #[vi e.f, vi e.t, vi e.k] 113))
      clear hcl he
      go_upto_region 5 with fail
      clear c0 c1 c2
      generalize wj.alloc (.cells #[vi e.f, vi e.t, vi e.k] 113) = wa at *
      obtain ⟨eb, heb⟩ : ∃ eb, eb = wj.heap.size := ⟨_, rfl⟩
      rw [← heb] at HX ⊢
      clear heb
      have x0 : wa.cell? ⟨eb, 0, none⟩ = some (vi e.f) := by rw [cell_of HX.out]; rfl
      have x1 : wa.cell? ⟨eb, 1, none⟩ = some (vi e.t) := by rw [cell_of HX.out]; rfl
      have x2 : wa.cell? ⟨eb, 2, none⟩ = some (vi e.k) := by rw [cell_of HX.out]; rfl
      by_cases hL : level = 1
      case neg =>
        have d1 : (level != 1) = true := by simp [hL]
        have HE := Lib.hid (show lift1 es level e = [(e.f, e.t)] from by unfold lift1; rw [if_pos (.inl hL), if_pos (.inl hL)]; rfl)
        clear hL
        go_wp2_with (at_builtin; refine wpList_append_src rfl _ _ 141 rfl eltArc w.heap.size n0 _ (HOA.out.alloc _) rfl 1 (arcV (e.f, e.t)) (src_new (cs := #[vi e.f, vi e.t]) rfl rfl) rfl (arcV_one _) (by omega) (by omega) (by have := HBA.out.size; simp; omega) ?_; intro v1 w1 ho1 hg1 _; obtain ⟨a1, c1, rfl⟩ := Gr.own_shape ho1; have HO1 := Lib.hid ho1; have HB1 := Lib.hid ((HBA.out.alloc HBA.out.size _).grown hg1 (by have := HBA.out.size; simp; omega) (fun j hj => (HOA.out.lt j hj).1)); have g0 : w1.cell? ⟨eb, 2, none⟩ = some (vi e.k) := (by rw [cell_of ((hg1.block eb (by have := (Array.getElem?_eq_some_iff.1 HX.out).1; simp; omega) (fun h => rowNe HOA.out HX.out (by decide) eb h.symm rfl)).trans ((Below.heap_alloc wa _ eb (Array.getElem?_eq_some_iff.1 HX.out).1).trans HX.out))]; rfl); clear ho1 hg1)
        exact ⟨⟨k + 1, by omega, by go_num, Lib.hid ⟨by rw [HNX.out, HE.out]; exact OwA.push (by rw [← HN0.out]; exact HO1.out), HB1.out⟩⟩, by simp only [intOf]; omega⟩
      case pos =>
      subst hL
      have d1 : ((1 : Int) != 1) = false := rfl
      by_cases hk3 : e.k = 3
      · have d3 : (e.k != 3) = false := by simp [hk3]
        have d4 : (e.k == 3) = true := by simp [hk3]
        have HE := Lib.hid (show lift1 es 1 e = [] from by unfold lift1; rw [if_neg (by rintro (h | h); exact h rfl; exact h hk3), if_pos (.inr hk3)]; rfl)
        clear hk3
        go_wp2_with fail
        exact ⟨⟨k + 1, by omega, by go_num, Lib.hid ⟨by rw [HNX.out, HE.out, List.append_nil]; unfold OwA; rw [← HN0.out]; exact HOA.out, HBA.out⟩⟩, by simp only [intOf]; omega⟩
      · have d3 : (e.k != 3) = true := by simp [hk3]
        have d4 : (e.k == 3) = false := by simp [hk3]
        have HE := Lib.hid (liftB_all es e hk3)
        have HBL := Lib.hid (fun j => liftB_len es e j)
        clear hk3
        go_wp2_with (at_builtin; refine wpList_append_src rfl _ _ 141 rfl eltArc w.heap.size n0 _ (HOA.out.alloc _) rfl 1 (arcV (e.f, e.t)) (src_new (cs := #[vi e.f, vi e.t]) rfl rfl) rfl (arcV_one _) (by omega) (by omega) (by have := HBA.out.size; simp; omega) ?_; intro v1 w1 ho1 hg1 _; obtain ⟨a1, c1, rfl⟩ := Gr.own_shape ho1; have HO1 := Lib.hid ho1; have HB1 := Lib.hid ((HBA.out.alloc HBA.out.size _).grown hg1 (by have := HBA.out.size; simp; omega) (fun j hj => (HOA.out.lt j hj).1)); have HX1 := Lib.hid ((hg1.block eb (by have := (Array.getElem?_eq_some_iff.1 HX.out).1; simp; omega) (fun h => rowNe HOA.out HX.out (by decide) eb h.symm rfl)).trans ((Below.heap_alloc wa _ eb (Array.getElem?_eq_some_iff.1 HX.out).1).trans HX.out)); have g0 : w1.cell? ⟨eb, 2, none⟩ = some (vi e.k) := (by rw [cell_of HX1.out]; rfl); clear ho1 hg1)
        obtain ⟨L0, hL0⟩ : ∃ L0, L0 = liftA es 1 k ++ [(e.f, e.t)] := ⟨_, rfl⟩
        have HO2 := Lib.hid (show OwA w.heap.size w1 (.slice a1 (n0 + 1) c1) L0 from by rw [hL0]; exact OwA.push (by rw [← HN0.out]; exact HO1.out))
        have HL0 := Lib.hid hL0
        have HLL := Lib.hid (show L0.length = n0 + 1 from by rw [hL0, List.length_append, ← HN0.out]; rfl)
        clear hL0 HO1 g0 x0 x1 x2
        go_loopw [5, 40] (fun x i wr => ∃ j : Nat, j ≤ es.length ∧ i = .int .i64 j ∧ Hid (OwA w.heap.size wr x (L0 ++ liftB es e j) ∧ wr.heap[eb]? = some (.cells #[vi e.f, vi e.t, vi e.k] 113) ∧ Below w.heap.size w wr)) (fun _ i _ => es.length - (intOf i).toNat)
        case atStart => exact ⟨0, Nat.zero_le _, rfl, Lib.hid ⟨by simpa [liftB] using HO2.out, HX1.out, HB1.out⟩⟩
        case round =>
          obtain ⟨wq, rfl⟩ : ∃ wq : World, wq = wr := ⟨_, rfl⟩
          obtain ⟨j, hj, rfl, HJ⟩ := hrel
          have HOq := Lib.hid (show wq.ownsRow w.heap.size 164 2 _ (L0 ++ liftB es e j).length ((L0 ++ liftB es e j).flatMap arcV) from HJ.out.1)
          have HXq := Lib.hid HJ.out.2.1
          have HBq := Lib.hid HJ.out.2.2
          obtain ⟨aq, cq, rfl⟩ := Gr.own_shape (show World.ownsRow _ _ _ _ _ (L0 ++ liftB es e j).length _ from HJ.out.1)
          have hlq : (L0 ++ liftB es e j).length ≤ 100000000 + 1 + 1000000 := by
            have := HBL.out j; have := HLL.out
            rw [List.length_append]; omega
          obtain ⟨n1, hn1⟩ : ∃ n, n = (L0 ++ liftB es e j).length := ⟨_, rfl⟩
          have HN1 := Lib.hid hn1
          rw [← hn1] at HOq hlq ⊢
          clear HJ hn1
          by_cases hltq : j < es.length
          · have j1 : decide ((j : Int) < es.length) = true := decide_eq_true (by omega)
            have j2 : (j : Int) < es.length := by omega
            have hwj : IntKind.i64.wrap ((j : Int) + 1) = (j : Int) + 1 := IntWalk.i64_in _ (by omega)
            obtain ⟨g, hg⟩ := some_at hltq
            obtain ⟨_, _, _, e5, -, -, hcl⟩ := (HR.out.later HBq.out).at
            cases e5
            obtain ⟨b', off', e6, c0, c1, c2⟩ := hcl j g hg
            simp only [Option.some.injEq, Addr.mk.injEq, and_true] at e6
            obtain ⟨rfl, rfl⟩ := e6
            have HNB := Lib.hid (liftB_next (e := e) hg)
            have HXg := Lib.hid (alloc_at wq (.cells #[vi g.f, vi g.t, vi g.k] 113))
            have HXe := Lib.hid ((Below.heap_alloc wq (.cells #[vi g.f, vi g.t, vi g.k] 113) eb (Array.getElem?_eq_some_iff.1 HXq.out).1).trans HXq.out)
            have HOg := Lib.hid (HOq.out.alloc (.cells #[vi g.f, vi g.t, vi g.k] 113))
            have HBg := Lib.hid (HBq.out.alloc HBq.out.size (.cells #[vi g.f, vi g.t, vi g.k] 113))
            clear hcl hg
            go_upto_region 11 with fail
            clear c0 c1 c2
            generalize wq.alloc (.cells #[vi g.f, vi g.t, vi g.k] 113) = wb at *
            obtain ⟨gb, hgb⟩ : ∃ gb, gb = wq.heap.size := ⟨_, rfl⟩
            rw [← hgb] at HXg ⊢
            clear hgb
            have y0 : wb.cell? ⟨gb, 0, none⟩ = some (vi g.f) := by rw [cell_of HXg.out]; rfl
            have y1 : wb.cell? ⟨gb, 1, none⟩ = some (vi g.t) := by rw [cell_of HXg.out]; rfl
            have y2 : wb.cell? ⟨gb, 2, none⟩ = some (vi g.k) := by rw [cell_of HXg.out]; rfl
            have z0 : wb.cell? ⟨eb, 0, none⟩ = some (vi e.f) := by rw [cell_of HXe.out]; rfl
            have z1 : wb.cell? ⟨eb, 1, none⟩ = some (vi e.t) := by rw [cell_of HXe.out]; rfl
            by_cases hg3 : g.k = 3
            · have f3 : (g.k == 3) = true := by simp [hg3]
              by_cases hgf : g.f = e.t
              · have f4 : (g.f == e.t) = true := by simp [hgf]
                have HI := Lib.hid (show (if g.k = 3 ∧ g.f = e.t then [(e.f, g.t)] else []) = [(e.f, g.t)] from if_pos ⟨hg3, hgf⟩)
                clear hg3 hgf
                go_wp2_with (at_builtin; refine wpList_append_src rfl _ _ 141 rfl eltArc w.heap.size n1 _ (HOg.out.alloc _) rfl 1 (arcV (e.f, g.t)) (src_new (cs := #[vi e.f, vi g.t]) rfl rfl) rfl (arcV_one _) (by omega) (by omega) (by have := HBg.out.size; simp; omega) ?_; intro v1 w1 ho1 hg1 _; obtain ⟨a1, c1, rfl⟩ := Gr.own_shape ho1; have HO3 := Lib.hid ho1; have HB3 := Lib.hid ((HBg.out.alloc HBg.out.size _).grown hg1 (by have := HBg.out.size; simp; omega) (fun j hj => (HOg.out.lt j hj).1)); have HX3 := Lib.hid ((hg1.block eb (by have := (Array.getElem?_eq_some_iff.1 HXe.out).1; simp; omega) (fun h => rowNe HOg.out HXe.out (by decide) eb h.symm rfl)).trans ((Below.heap_alloc wb _ eb (Array.getElem?_eq_some_iff.1 HXe.out).1).trans HXe.out)); clear ho1 hg1)
                exact ⟨⟨j + 1, by omega, by go_num, Lib.hid ⟨by rw [HNB.out, HI.out, ← List.append_assoc]; exact OwA.push (by rw [← HN1.out]; exact HO3.out), HX3.out, HB3.out⟩⟩, by simp only [intOf]; omega⟩
              · have f4 : (g.f == e.t) = false := by simp [hgf]
                have HI := Lib.hid (show (if g.k = 3 ∧ g.f = e.t then [(e.f, g.t)] else []) = [] from if_neg (fun h => hgf h.2))
                clear hg3 hgf
                go_wp2_with fail
                exact ⟨⟨j + 1, by omega, by go_num, Lib.hid ⟨by rw [HNB.out, HI.out, List.append_nil]; unfold OwA; rw [← HN1.out]; exact HOg.out, HXe.out, HBg.out⟩⟩, by simp only [intOf]; omega⟩
            · have f3 : (g.k == 3) = false := by simp [hg3]
              have HI := Lib.hid (show (if g.k = 3 ∧ g.f = e.t then [(e.f, g.t)] else []) = [] from if_neg (fun h => hg3 h.1))
              clear hg3
              go_wp2_with fail
              exact ⟨⟨j + 1, by omega, by go_num, Lib.hid ⟨by rw [HNB.out, HI.out, List.append_nil]; unfold OwA; rw [← HN1.out]; exact HOg.out, HXe.out, HBg.out⟩⟩, by simp only [intOf]; omega⟩
          · have j1 : decide ((j : Int) < es.length) = false := decide_eq_false (by omega)
            have HF := Lib.hid (show OwA w.heap.size wq (.slice aq n1 cq) (liftA es 1 (k + 1)) from by
              have hje : j = es.length := by omega
              rw [HNX.out, HE.out, ← List.append_assoc, ← HL0.out, ← hje]
              unfold OwA; rw [← HN1.out]; exact HOq.out)
            go_wp2_with fail
            exact ⟨⟨k + 1, by omega, by go_num, Lib.hid ⟨HF.out, HBq.out⟩⟩, by simp only [intOf]; omega⟩
    · have k1 : decide ((k : Int) < es.length) = false := decide_eq_false (by omega)
      have HF := Lib.hid (show OwA w.heap.size wj (.slice ax n0 cx) (liftL es level) from by
        have hke : k = es.length := by omega
        have h : liftA es level k = liftL es level := by unfold liftA liftL; rw [hke, List.take_length]
        rw [← h]
        unfold OwA; rw [← HN0.out]; exact HO.out)
      go_wp2_with fail
      go_ret
      exact ⟨_, rfl, HF.out, HB.out⟩
end Go.Proofs.YtnacoplokjdglaaGreat

namespace Go.Proofs.YtnacoplokjdglaaGreat
open Go.RowKit Go.Maps Go.Sort Go.Shelf
set_option maxRecDepth 100000 in
set_option maxHeartbeats 1000000 in
theorem nan_call (a : Int) (w : World) : Calls Tryz.prog 148 #[vi a] w fun e w' => e = .returned (.bool false) ∧ w' = w := by
  go_enter Tryz.func148, Tryz.ntmps148
  go_wp2_with fail
  go_ret
  exact ⟨by simp, rfl⟩

set_option maxRecDepth 100000 in
set_option maxHeartbeats 2000000 in
theorem compare_call (a b : Int) (w : World) : Calls Tryz.prog 123 #[vi a, vi b] w fun e w' => e = .returned (vi (Lib.compareInt a b)) ∧ w' = w := by
  go_enter Tryz.func123, Tryz.ntmps123
  by_cases h1 : a < b
  · have e1 : Lib.compareInt a b = -1 := by unfold Lib.compareInt; simp [h1]
    rw [e1]
    go_wp2_with (go_at_call 148; refine (nan_call _ _).mono ?_; rintro e w1 ⟨rfl, rfl⟩)
    go_ret
    exact ⟨rfl, rfl⟩
  · by_cases h2 : b < a
    · have e1 : Lib.compareInt a b = 1 := by unfold Lib.compareInt; simp [h1, h2]
      rw [e1]
      go_wp2_with (go_at_call 148; refine (nan_call _ _).mono ?_; rintro e w1 ⟨rfl, rfl⟩)
      go_ret
      exact ⟨rfl, rfl⟩
    · have e1 : Lib.compareInt a b = 0 := by unfold Lib.compareInt; simp [h1, h2]
      rw [e1]
      go_wp2_with (go_at_call 148; refine (nan_call _ _).mono ?_; rintro e w1 ⟨rfl, rfl⟩)
      go_ret
      exact ⟨rfl, rfl⟩

theorem compareInt_cases (a b : Int) : (a < b ∧ Lib.compareInt a b = -1) ∨ (b < a ∧ Lib.compareInt a b = 1) ∨ (a = b ∧ Lib.compareInt a b = 0) := by
  unfold Lib.compareInt
  by_cases h1 : a < b
  · exact .inl ⟨h1, by simp [h1]⟩
  · by_cases h2 : b < a
    · exact .inr (.inl ⟨h2, by simp [h1, h2]⟩)
    · exact .inr (.inr ⟨by omega, by simp [h1, h2]⟩)
theorem grow_more {w w2 : World} (h : ∃ q os', w2 = grow (w.drewN q) os') (o : Obj) : ∃ q os', (w2.alloc o).drew = grow (w.drewN q) os' := by
  obtain ⟨q, os', rfl⟩ := h
  exact ⟨q + 1, os' ++ #[o], by rw [alloc_eq_grow, grow_grow]; rfl⟩

theorem flat_atK {α : Type} (enc : α → List Value) (k : Nat) (hk : ∀ x, (enc x).length = k) : ∀ (l : List α) (j i : Nat) (x : α) (u : Value), l[j]? = some x → (enc x)[i]? = some u → (l.flatMap enc)[j * k + i]? = some u
  | [], j, i, x, u, h, _ => by simp at h
  | y :: l, 0, i, x, u, h, hu => by
    simp at h; subst h
    rw [List.flatMap_cons, Nat.zero_mul, Nat.zero_add, List.getElem?_append_left (List.getElem?_eq_some_iff.1 hu).1]; exact hu
  | y :: l, j + 1, i, x, u, h, hu => by
    rw [List.flatMap_cons, List.getElem?_append_right (by rw [hk, Nat.succ_mul]; omega), hk, show (j + 1) * k + i - k = j * k + i by rw [Nat.succ_mul]; omega]
    exact flat_atK enc k hk l j i x u (by simpa using h) hu
theorem flat_lenK {α : Type} (enc : α → List Value) (k : Nat) (hk : ∀ x, (enc x).length = k) (l : List α) : (l.flatMap enc).length = l.length * k := by
  induction l with
  | nil => simp
  | cons x l ih => rw [List.flatMap_cons, List.length_append, hk, ih, List.length_cons, Nat.succ_mul, Nat.add_comm]
theorem flatK_list {α : Type} [Inhabited α] (enc : α → List Value) (k : Nat) (hk : ∀ x, (enc x).length = k) (l : List α) : (flatK enc k l.toArray).toList = l.flatMap enc := by
  apply List.ext_getElem?
  intro t
  by_cases ht : t < l.length * k
  · have k0 : 0 < k := by rcases Nat.eq_zero_or_pos k with h | h; · subst h; simp at ht
                          · exact h
    have hj : t / k < l.length := Nat.div_lt_of_lt_mul (by rw [Nat.mul_comm]; exact ht)
    have hi : t % k < k := Nat.mod_lt _ k0
    have h1 := flat_atK enc k hk l (t / k) (t % k) (l[t / k]) ((enc (l[t / k]))[t % k]'(by rw [hk]; exact hi)) (List.getElem?_eq_getElem hj) (List.getElem?_eq_getElem _)
    have e : t / k * k + t % k = t := by rw [Nat.mul_comm]; exact Nat.div_add_mod t k
    rw [e] at h1
    rw [h1, Array.getElem?_toList, Array.getElem?_eq_getElem (by simpa using ht)]
    congr 1
    rw [← getElem!_pos (flatK enc k l.toArray) t (by simpa using ht), get_flatK _ _ _ _ (by simpa using ht)]
    rw [getElem!_pos l.toArray (t / k) (by simpa using hj)]
    simp only [List.getElem_toArray]
    rw [getElem!_pos _ _ (by rw [hk]; exact hi)]
  · rw [List.getElem?_eq_none (by simp; omega), List.getElem?_eq_none (by rw [flat_lenK enc k hk]; omega)]

theorem holdsK_of_block {α : Type} [Inhabited α] {enc : α → List Value} {k : Nat} (hk : ∀ x, (enc x).length = k) {w : World} {g : Nat} {cur : Array Value} {e : TypeId} {l : List α} (hb : w.heap[g]? = some (.cells cur e (0, 0))) (ht : cur.toList.take (l.length * k) = l.flatMap enc) : HoldsK enc k w g 0 l.toArray := by
  intro j hj
  have hj' : j < l.length * k := by simpa using hj
  refine ⟨?_, by simp [World.frozen?, hb]⟩
  have h1 : (cur.toList.take (l.length * k))[j]? = (flatK enc k l.toArray).toList[j]? := by rw [ht, flatK_list enc k hk]
  rw [List.getElem?_take_of_lt hj'] at h1
  simp only [World.cell?, hb, Nat.zero_add]
  simp only [Option.isSome_none, Bool.false_eq_true, if_false]
  rw [← Array.getElem?_toList, h1, Array.getElem?_toList, Array.getElem?_eq_getElem hj]
  show some _ = some ((flatK enc k l.toArray)[j]!)
  rw [getElem!_pos (flatK enc k l.toArray) j hj]

theorem heap_sortedK {α : Type} [Inhabited α] {enc : α → List Value} {k : Nat} {w : World} {g n : Nat} {os : Array Obj} {cur : Array Value} {e : TypeId} {fr : Nat × Nat} (d : Array α) (hb : w.heap[g]? = some (.cells cur e fr)) :
    (sortWorldK enc k w g 0 n d os).heap[g]? = some (.cells (putCells id 0 (flatK enc k d) cur) e fr) := by
  have hg : g < w.heap.size := (Array.getElem?_eq_some_iff.1 hb).1
  unfold sortWorldK
  rw [heap_grow_old _ _ (by simpa [putRowK] using hg)]
  simp [putRowK, putRow, mapBlock, Sort.ahead, Array.getElem?_modify, hb, onCells]
theorem grownBy_sortedK {α : Type} [Inhabited α] {enc : α → List Value} {k : Nat} {w : World} {g n : Nat} {os : Array Obj} (d : Array α) : w.grownBy (sortWorldK enc k w g 0 n d os) (some g) := by
  refine ⟨rfl, rfl, rfl, by simp [sortWorldK, putRowK], fun j hj hne => ?_⟩
  unfold sortWorldK
  rw [heap_grow_old _ _ (by simpa [putRowK] using hj)]
  have : g ≠ j := fun e => hne (by rw [e])
  simp [putRowK, putRow, mapBlock, Sort.ahead, Array.getElem?_modify, this]
theorem take_putK (cur : Array Value) (F : Array Value) (h : F.size ≤ cur.size) : (putCells id 0 F cur).toList.take F.size = F.toList := by
  apply List.ext_getElem?
  intro j
  by_cases hj : j < F.size
  · rw [List.getElem?_take_of_lt hj, Array.getElem?_toList, Array.getElem?_toList]
    simp [putCells, hj, show j < cur.size by omega]
  · rw [List.getElem?_take_eq_none (by omega), List.getElem?_eq_none (by simp; omega)]
theorem ownsRow_sortedK {α : Type} [Inhabited α] {enc : α → List Value} {k : Nat} (hk : ∀ x, (enc x).length = k) {w : World} {base g cap n : Nat} {e : TypeId} {os : Array Obj} {cur : Array Value} {l l' : List α} (hl : l'.length = l.length) (hbase : base ≤ g) (hb : w.heap[g]? = some (.cells cur e (0, 0)))
    (h1 : l.length ≤ cap) (h2 : cap ≤ maxLen) (h3 : cur.size = cap * k) :
    (sortWorldK enc k w g 0 n l'.toArray os).ownsRow base e k (.slice (some ⟨g, 0, none⟩) l.length cap) l.length (l'.flatMap enc) := by
  have h5 : l.length * k ≤ cur.size := by rw [h3]; exact Nat.mul_le_mul_right k h1
  refine ⟨by rw [flat_lenK enc k hk, hl], .inr ⟨g, cap, _, rfl, hbase, heap_sortedK _ hb, h1, h2, by simp [putCells, h3], ?_⟩⟩
  have h4 := take_putK cur (flatK enc k l'.toArray) (by simp [hl]; exact h5)
  rw [flatK_list enc k hk] at h4
  simpa [hl] using h4
end Go.Proofs.YtnacoplokjdglaaGreat

namespace Go.Proofs.YtnacoplokjdglaaGreat
open Go.Proofs Go.Shelf
def sortEd_ren : Go.Shelf.Ren := ⟨fun | 6 => 100 | 15 => 86 | 14 => 121 | 28 => 113 | 29 => 114 | 20 => 140 | 21 => 141 | 22 => 142 | 23 => 143 | 24 => 144 | 25 => 145 | 26 => 146 | 27 => 147 | 46 => 155 | 47 => 126 | 48 => 127 | 49 => 156 | 50 => 157 | 57 => 159 | n => n, fun | 22 => 65 | 24 => 113 | 25 => 172 | 3 => 3 | 39 => 152 | 0 => 0 | 53 => 184 | 55 => 186 | 4 => 4 | 46 => 178 | 45 => 177 | 50 => 118 | 5 => 5 | 9 => 9 | 66 => 195 | 70 => 199 | 76 => 214 | 77 => 215 | n => n, fun | n => n⟩
theorem sortEd : Go.Proofs.SlLaysF0.n6 Tryz.prog sortEd_ren := {
  mixed := by kernel_rfl,
  f6 := ⟨Tryz.f100.name, by decide, Tryz.func100.trans (congrArg some (by kernel_rfl))⟩,
  f14 := ⟨Tryz.f121.name, by decide, Tryz.func121.trans (congrArg some (by kernel_rfl))⟩,
  f15 := Tryz.func86.trans (congrArg some (by kernel_rfl)),
  f20 := ⟨Tryz.f140.name, by decide, Tryz.func140.trans (congrArg some (by kernel_rfl))⟩,
  f21 := ⟨Tryz.f141.name, by decide, Tryz.func141.trans (congrArg some (by kernel_rfl))⟩,
  f22 := ⟨Tryz.f142.name, by decide, Tryz.func142.trans (congrArg some (by kernel_rfl))⟩,
  f23 := ⟨Tryz.f143.name, by decide, Tryz.func143.trans (congrArg some (by kernel_rfl))⟩,
  f24 := ⟨Tryz.f144.name, by decide, Tryz.func144.trans (congrArg some (by kernel_rfl))⟩,
  f25 := ⟨Tryz.f145.name, by decide, Tryz.func145.trans (congrArg some (by kernel_rfl))⟩,
  f26 := ⟨Tryz.f146.name, by decide, Tryz.func146.trans (congrArg some (by kernel_rfl))⟩,
  f27 := ⟨Tryz.f147.name, by decide, Tryz.func147.trans (congrArg some (by kernel_rfl))⟩,
  f28 := Tryz.func113.trans (congrArg some (by kernel_rfl)),
  f29 := Tryz.func114.trans (congrArg some (by kernel_rfl)),
  f46 := ⟨Tryz.f155.name, by decide, Tryz.func155.trans (congrArg some (by kernel_rfl))⟩,
  f47 := Tryz.func126.trans (congrArg some (by kernel_rfl)),
  f48 := Tryz.func127.trans (congrArg some (by kernel_rfl)),
  f49 := ⟨Tryz.f156.name, by decide, Tryz.func156.trans (congrArg some (by kernel_rfl))⟩,
  f50 := ⟨Tryz.f157.name, by decide, Tryz.func157.trans (congrArg some (by kernel_rfl))⟩,
  f57 := ⟨Tryz.f159.name, by decide, Tryz.func159.trans (congrArg some (by kernel_rfl))⟩,
  t0 := Tryz.underlying0,
  a0 := Tryz.isAgg0,
  z0 := Tryz.sizeOf0,
  v0 := Tryz.zeroValue0,
  t3 := Tryz.underlying3,
  a3 := Tryz.isAgg3,
  z3 := Tryz.sizeOf3,
  v3 := Tryz.zeroValue3,
  t4 := Tryz.underlying4,
  a4 := Tryz.isAgg4,
  z4 := Tryz.sizeOf4,
  v4 := Tryz.zeroValue4,
  t5 := Tryz.underlying5,
  a5 := Tryz.isAgg5,
  z5 := Tryz.sizeOf5,
  v5 := Tryz.zeroValue5,
  t9 := Tryz.underlying9,
  a9 := Tryz.isAgg9,
  z9 := Tryz.sizeOf9,
  v9 := Tryz.zeroValue9,
  t22 := Tryz.underlying65,
  a22 := Tryz.isAgg65,
  z22 := Tryz.sizeOf65,
  v22 := Tryz.zeroValue65,
  t25 := Tryz.underlying172,
  a25 := Tryz.isAgg172,
  z25 := Tryz.sizeOf172,
  v25 := Tryz.zeroValue172,
  t39 := Tryz.underlying152,
  a39 := Tryz.isAgg152,
  z39 := Tryz.sizeOf152,
  v39 := Tryz.zeroValue152,
  t45 := Tryz.underlying177,
  a45 := Tryz.isAgg177,
  z45 := Tryz.sizeOf177,
  v45 := Tryz.zeroValue177,
  t46 := Tryz.underlying178,
  a46 := Tryz.isAgg178,
  z46 := Tryz.sizeOf178,
  v46 := Tryz.zeroValue178,
  t50 := Tryz.underlying118,
  a50 := Tryz.isAgg118,
  z50 := Tryz.sizeOf118,
  v50 := Tryz.zeroValue118,
  t53 := Tryz.underlying184,
  a53 := Tryz.isAgg184,
  z53 := Tryz.sizeOf184,
  v53 := Tryz.zeroValue184,
  t55 := Tryz.underlying186,
  a55 := Tryz.isAgg186,
  z55 := Tryz.sizeOf186,
  v55 := Tryz.zeroValue186,
  t66 := Tryz.underlying195,
  a66 := Tryz.isAgg195,
  z66 := Tryz.sizeOf195,
  v66 := Tryz.zeroValue195,
  t70 := Tryz.underlying199,
  a70 := Tryz.isAgg199,
  z70 := Tryz.sizeOf199,
  v70 := Tryz.zeroValue199,
  t76 := Tryz.underlying214,
  a76 := Tryz.isAgg214,
  z76 := Tryz.sizeOf214,
  v76 := Tryz.zeroValue214,
  t77 := Tryz.underlying215,
  a77 := Tryz.isAgg215,
  z77 := Tryz.sizeOf215,
  v77 := Tryz.zeroValue215 }
end Go.Proofs.YtnacoplokjdglaaGreat

namespace Go.Proofs.YtnacoplokjdglaaGreat
open Go.RowKit Go.Maps Go.Sort Go.Shelf

def or3I (a b c : Int) : Int := if a = 0 then (if b = 0 then c else b) else a
def cmpE (x y : GEdge) : Int := or3I (Lib.compareInt x.f y.f) (Lib.compareInt x.t y.t) (Lib.compareInt x.k y.k)

set_option maxRecDepth 100000 in
set_option maxHeartbeats 2000000 in
theorem or3_call (g n : Nat) (a b c : Int) (w : World) (h0 : w.cell? ⟨g, 0, none⟩ = some (vi a)) (h1 : w.cell? ⟨g, 1, none⟩ = some (vi b)) (h2 : w.cell? ⟨g, 2, none⟩ = some (vi c)) :
    Calls Tryz.prog 122 #[.slice (some ⟨g, 0, none⟩) 3 n] w fun e w' => e = .returned (vi (or3I a b c)) ∧ w' = w := by
  go_enter Tryz.func122, Tryz.ntmps122
  go_wp2_with fail
  go_loopw [5, 8] (fun _ i wr => wr = w ∧ ∃ k : Nat, k ≤ 3 ∧ i = .int .i64 k ∧ (k = 0 ∨ a = 0) ∧ (k ≤ 1 ∨ b = 0) ∧ (k ≤ 2 ∨ c = 0)) (fun _ i _ => 3 - (intOf i).toNat)
  case atStart => exact ⟨rfl, 0, by omega, rfl, .inl rfl, .inl (by omega), .inl (by omega)⟩
  case round =>
    obtain ⟨rfl, k, hk, rfl, ha, hb, hc⟩ := hrel
    have h3 : k = 0 ∨ k = 1 ∨ k = 2 ∨ k = 3 := by omega
    rcases h3 with rfl | rfl | rfl | rfl
    · by_cases hz : a = 0
      · have e0 : (a == 0) = true := by simp [hz]
        have HZ := Lib.hid hz
        clear hz ha hb hc
        go_wp2_with fail
        go_roundw
        case rel => exact ⟨by trivial, 1, by omega, by go_num, .inr HZ.out, .inl (by omega), .inl (by omega)⟩
        case measure => simp [intOf]
      · have e0 : (a == 0) = false := by simp [hz]
        have e1 : or3I a b c = a := by unfold or3I; rw [if_neg hz]
        clear hz ha hb hc
        go_wp2_with fail
        go_ret
        exact ⟨by rw [e1]; rfl, rfl⟩
    · obtain rfl : a = 0 := by omega
      by_cases hz : b = 0
      · have e0 : (b == 0) = true := by simp [hz]
        have HZ := Lib.hid hz
        clear hz ha hb hc
        go_wp2_with fail
        go_roundw
        case rel => exact ⟨by trivial, 2, by omega, by go_num, .inr (by trivial), .inr HZ.out, .inl (by omega)⟩
        case measure => simp [intOf]
      · have e0 : (b == 0) = false := by simp [hz]
        have e1 : or3I 0 b c = b := by unfold or3I; rw [if_pos rfl, if_neg hz]
        clear hz ha hb hc
        go_wp2_with fail
        go_ret
        exact ⟨by rw [e1]; rfl, rfl⟩
    · obtain rfl : a = 0 := by omega
      obtain rfl : b = 0 := by omega
      by_cases hz : c = 0
      · have e0 : (c == 0) = true := by simp [hz]
        have HZ := Lib.hid hz
        clear hz ha hb hc
        go_wp2_with fail
        go_roundw
        case rel => exact ⟨by trivial, 3, by omega, by go_num, .inr (by trivial), .inr (by trivial), .inr HZ.out⟩
        case measure => simp [intOf]
      · have e0 : (c == 0) = false := by simp [hz]
        have e1 : or3I 0 0 c = c := by unfold or3I; rw [if_pos rfl, if_pos rfl]
        clear hz ha hb hc
        go_wp2_with fail
        go_ret
        exact ⟨by rw [e1]; rfl, rfl⟩
    · obtain rfl : a = 0 := by omega
      obtain rfl : b = 0 := by omega
      obtain rfl : c = 0 := by omega
      go_wp2_with fail
      go_ret
      exact ⟨by rfl, rfl⟩

abbrev edA (e : GEdge) : Value := .agg #[vi e.f, vi e.t, vi e.k]

set_option maxRecDepth 100000 in
set_option maxHeartbeats 8000000 in
theorem order_call (x y : GEdge) (w : World) : Calls Tryz.prog 101 #[edA x, edA y] w fun e w' => e = .returned (vi (cmpE x y)) ∧ ∃ q os', w' = grow (w.drewN q) os' := by
  have HX1 := Lib.hid (alloc_at w (.cells #[vi x.f, vi x.t, vi x.k] 113))
  have HX2 := Lib.hid (alloc_at (w.alloc (.cells #[vi x.f, vi x.t, vi x.k] 113)) (.cells #[vi y.f, vi y.t, vi y.k] 113))
  have HX3 := Lib.hid ((Below.heap_alloc (w.alloc (.cells #[vi x.f, vi x.t, vi x.k] 113)) (.cells #[vi y.f, vi y.t, vi y.k] 113) w.heap.size (by simp)).trans HX1.out)
  have hw1 : (w.alloc (.cells #[vi x.f, vi x.t, vi x.k] 113)).heap.size = w.heap.size + 1 := by simp
  have HG := Lib.hid (show ∃ q os', ((w.alloc (.cells #[vi x.f, vi x.t, vi x.k] 113)).alloc (.cells #[vi y.f, vi y.t, vi y.k] 113)) = grow (w.drewN q) os' from ⟨0, _, by rw [alloc_eq_grow, alloc_eq_grow, grow_grow]; rfl⟩)
  rw [hw1] at HX2
  go_enter Tryz.func101, Tryz.ntmps101
  go_upto_region 1 with fail
  generalize ((w.alloc (.cells #[vi x.f, vi x.t, vi x.k] 113)).alloc (.cells #[vi y.f, vi y.t, vi y.k] 113)) = w2 at *
  have b0 : w2.drew.cell? ⟨w.heap.size, 0, none⟩ = some (vi x.f) := by show w2.cell? _ = _; rw [cell_of HX3.out]; rfl
  have b1 : w2.drew.cell? ⟨w.heap.size, 1, none⟩ = some (vi x.t) := by show w2.cell? _ = _; rw [cell_of HX3.out]; rfl
  have b2 : w2.drew.cell? ⟨w.heap.size, 2, none⟩ = some (vi x.k) := by show w2.cell? _ = _; rw [cell_of HX3.out]; rfl
  have b3 : w2.drew.cell? ⟨w.heap.size + 1, 0, none⟩ = some (vi y.f) := by show w2.cell? _ = _; rw [cell_of HX2.out]; rfl
  have b4 : w2.drew.cell? ⟨w.heap.size + 1, 1, none⟩ = some (vi y.t) := by show w2.cell? _ = _; rw [cell_of HX2.out]; rfl
  have b5 : w2.drew.cell? ⟨w.heap.size + 1, 2, none⟩ = some (vi y.k) := by show w2.cell? _ = _; rw [cell_of HX2.out]; rfl
  have HA := Lib.hid (fun o => (Below.refl w2.drew.heap.size w2.drew).alloc (Nat.le_refl _) o)
  go_region_held3 (fun w' : World => w'.cell? ⟨w.heap.size, 0, none⟩ = some (vi x.f) ∧ w'.cell? ⟨w.heap.size, 1, none⟩ = some (vi x.t) ∧ w'.cell? ⟨w.heap.size, 2, none⟩ = some (vi x.k) ∧ w'.cell? ⟨w.heap.size + 1, 0, none⟩ = some (vi y.f) ∧ w'.cell? ⟨w.heap.size + 1, 1, none⟩ = some (vi y.t) ∧ w'.cell? ⟨w.heap.size + 1, 2, none⟩ = some (vi y.k)) (first | exact ⟨b0, b1, b2, b3, b4, b5⟩ | exact ⟨cell_later (HA.out _) b0, cell_later (HA.out _) b1, cell_later (HA.out _) b2, cell_later (HA.out _) b3, cell_later (HA.out _) b4, cell_later (HA.out _) b5⟩) (first
    | (go_simp; go_at_call 122; refine (or3_call w2.heap.size _ (Lib.compareInt x.f y.f) (Lib.compareInt x.t y.t) (Lib.compareInt x.k y.k) _ (by show (w2.alloc _).cell? _ = _; rw [cell_of (alloc_at w2 _)]; rfl) (by show (w2.alloc _).cell? _ = _; rw [cell_of (alloc_at w2 _)]; rfl) (by show (w2.alloc _).cell? _ = _; rw [cell_of (alloc_at w2 _)]; rfl)).mono ?_; rintro e w3 ⟨rfl, rfl⟩)
    | (go_simp; go_at_call 123; with_reducible refine (compare_call _ _ _).mono ?_; rintro e w3 ⟨rfl, rfl⟩))
  all_goals
    go_wp2
    go_ret
    exact ⟨rfl, grow_more HG.out _⟩
end Go.Proofs.YtnacoplokjdglaaGreat

namespace Go.Proofs.YtnacoplokjdglaaGreat
open Go.RowKit Go.Maps
set_option maxRecDepth 100000 in
set_option maxHeartbeats 1000000 in
theorem insertion_none (a : Option Addr) (c : Nat) (f : Value) (w : World) : Calls Tryz.prog 140 #[.slice a 0 c, vi 0, vi 0, f] w fun e w' => e = .returned (.tuple #[]) ∧ Below w.heap.size w w' := by
  go_enter Tryz.func140, Tryz.ntmps140
  go_wp2_with fail
  go_loopw [8, 9] (fun i _ wr => i = vi 1 ∧ wr = w) (fun _ _ _ => 0)
  case atStart => exact ⟨rfl, rfl⟩
  case round =>
    obtain ⟨rfl, rfl⟩ := hrel
    go_wp2_with fail
    go_end0
    exact ⟨rfl, Below.refl _ _⟩

set_option maxRecDepth 100000 in
set_option maxHeartbeats 1000000 in
theorem len64_none (w : World) : Calls Tryz.prog 114 #[.int .u64 0] w fun e w' => e = .returned (vi 0) ∧ Below w.heap.size w w' := by
  go_enter Tryz.func114, Tryz.ntmps114
  go_wp2_with fail
  go_ret
  exact ⟨by kernel_rfl, Below.refl _ _⟩

set_option maxRecDepth 100000 in
set_option maxHeartbeats 1000000 in
theorem pdq_none (a : Option Addr) (c : Nat) (n : Int) (f : Value) (w : World) : Calls Tryz.prog 121 #[.slice a 0 c, vi 0, vi 0, vi n, f] w fun e w' => e = .returned (.tuple #[]) ∧ Below w.heap.size w w' := by
  go_enter Tryz.func121, Tryz.ntmps121
  go_wp2_with fail
  go_loopw [1, 2, 3, 10, 11, 12, 13, 14, 15, 16, 17, 18, 19, 20] (fun i j _ _ _ _ _ _ _ _ _ _ _ _ wr => i = vi 0 ∧ j = vi 0 ∧ wr = w) (fun _ _ _ _ _ _ _ _ _ _ _ _ _ _ _ => 0)
  case atStart => exact ⟨rfl, rfl, rfl⟩
  case round =>
    obtain ⟨rfl, rfl, rfl⟩ := hrel
    go_wp2_with (go_at_call 140; refine (insertion_none a c _ _).mono ?_; rintro e w1 ⟨rfl, hb1⟩)
    refine bodyPost_ret (v := .tuple #[]) (by simp [results, Tryz.results121, go_sem]) rfl ⟨rfl, hb1⟩

set_option maxRecDepth 100000 in
set_option maxHeartbeats 1000000 in
theorem len_none (w : World) : Calls Tryz.prog 86 #[.int .u64 0] w fun e w' => e = .returned (vi 0) ∧ Below w.heap.size w w' := by
  go_enter Tryz.func86, Tryz.ntmps86
  go_wp2_with (go_at_call 114; refine (len64_none _).mono ?_; rintro e w1 ⟨rfl, hb1⟩)
  go_ret
  exact ⟨rfl, hb1⟩

set_option maxRecDepth 100000 in
set_option maxHeartbeats 1000000 in
theorem sortFunc_none (a : Option Addr) (c : Nat) (f : Value) (w : World) : Calls Tryz.prog 100 #[.slice a 0 c, f] w fun e w' => e = .returned (.tuple #[]) ∧ Below w.heap.size w w' := by
  go_enter Tryz.func100, Tryz.ntmps100
  go_wp2_with (first
    | (go_at_call 86; refine (len_none _).mono ?_; rintro e w1 ⟨rfl, hb1⟩)
    | (go_at_call 121; refine (pdq_none a c 0 _ _).mono ?_; rintro e w2 ⟨rfl, hb2⟩))
  go_end0
  exact ⟨rfl, hb1.trans (hb2.mono hb1.size)⟩
end Go.Proofs.YtnacoplokjdglaaGreat

namespace Go.Proofs.YtnacoplokjdglaaGreat
open Go.RowKit Go.Maps

instance : Inhabited GEdge := ⟨⟨0, 0, 0⟩⟩
instance (x y : GEdge) : Decidable (ltE x y) := by unfold ltE; exact inferInstance
theorem ltE_of (x y : GEdge) : Go.Proofs.ltOf cmpE x y = decide (ltE x y) := by
  unfold Go.Proofs.ltOf cmpE or3I ltE
  congr 1
  rcases compareInt_cases x.f y.f with ⟨h1, e1⟩ | ⟨h1, e1⟩ | ⟨h1, e1⟩ <;> rcases compareInt_cases x.t y.t with ⟨h2, e2⟩ | ⟨h2, e2⟩ | ⟨h2, e2⟩ <;> rcases compareInt_cases x.k y.k with ⟨h3, e3⟩ | ⟨h3, e3⟩ | ⟨h3, e3⟩ <;> simp [e1, e2, e3] <;> omega
theorem swoE : Go.Sort.SWO (Go.Proofs.ltOf cmpE) where
  irrefl x := by rw [ltE_of]; simp [ltE_irr]
  trans x y z h1 h2 := by rw [ltE_of] at *; simp only [decide_eq_true_eq] at *; exact ltE_trans h1 h2
  ntrans x y z h1 h2 := by rw [ltE_of] at *; simp only [decide_eq_false_iff_not] at *; unfold ltE at *; omega

set_option maxRecDepth 100000 in
set_option maxHeartbeats 2000000 in
theorem sortE_call {base : Nat} (v : Value) (ks : List GEdge) (w : World) (h : OwE base w v ks) (hbw : base ≤ w.heap.size) (hlen : ks.length ≤ 68719476736) :
    Calls Tryz.prog 100 #[v, .func (.func 101) #[] #[]] w fun e w' => e = .returned (.tuple #[]) ∧ ∃ ks', OwE base w' v ks' ∧ ks'.Perm ks ∧ ks'.Pairwise (fun x y => Go.Proofs.ltOf cmpE y x = false) ∧ ks'.length = ks.length ∧ Below base w w' ∧ w.grownBy w' v.ownBlock := by
  cases hks : ks with
  | nil =>
    subst hks
    obtain ⟨a, c, rfl⟩ : ∃ a c, v = .slice a 0 c := by
      rcases h.2 with ⟨hv, _⟩ | ⟨g, cap, cur, hv, _⟩
      · exact ⟨_, _, hv⟩
      · exact ⟨_, _, hv⟩
    refine (sortFunc_none a c _ w).mono ?_
    rintro e w' ⟨rfl, hb⟩
    refine ⟨rfl, [], own_below h hb, List.Perm.nil, List.Pairwise.nil, rfl, hb.mono hbw, ⟨hb.os, hb.tape, hb.output, hb.size, fun j hj _ => hb.block j hj⟩⟩
  | cons k0 kr =>
    rw [← hks]
    have hne : 0 < ks.length := by rw [hks]; simp
    clear hks
    rcases h.2 with ⟨_, h0⟩ | ⟨g, cap, cur, rfl, hg, hb, h1, h2, h3, h4⟩
    · omega
    have eg : ∀ args w, (callFunc 101 args).run Tryz.prog w = .ok (.enter 101 args) w := enters_of Tryz.func101 (by kernel_rfl) rfl
    have hcmp : Go.Proofs.CmpLays Tryz.prog 101 #[] edV 3 cmpE g 0 ks.toArray.size w := fun m os dk _ x y => order_call x y _
    have hH := holdsK_of_block (enc := edV) (k := 3) (fun _ => rfl) hb h4
    have hcon := Go.Proofs.AnyQ.slices_SortFunc sortEd 3 Tryz.isAgg113 Tryz.sizeOf113 edV (fun _ => rfl) (fun x v hv => by simp [edV] at hv; rcases hv with rfl | rfl | rfl <;> rfl) cmpE swoE 101 #[] g 0 cap ks.toArray w eg hcmp hH (Array.getElem?_eq_some_iff.1 hb).1 (by simp; omega)
    change Calls Tryz.prog 100 _ _ _ at hcon
    refine Calls.mono hcon ?_
    rintro e w' ⟨rfl, d', n, os, ⟨hs, _, hp⟩, hsort, rfl⟩
    have hs' : d'.size = ks.length := by simpa using hs
    have e1 : d'.extract 0 ks.toArray.size = d' := by rw [← hs]; simp
    have e2 : ks.toArray.extract 0 ks.toArray.size = ks.toArray := by simp
    rw [e1, e2] at hp
    refine ⟨rfl, d'.toList, ?_, by simpa using hp, ?_, by simpa using hs', (RowKit.Below.refl base w).grown (grownBy_sortedK (enc := edV) (k := 3) d') hbw (fun j hj => by cases hj; exact hg), grownBy_sortedK (enc := edV) (k := 3) d'⟩
    · have := ownsRow_sortedK (enc := edV) (k := 3) (fun _ => rfl) (n := n) (os := os) (l := ks) (l' := d'.toList) (by simpa using hs') hg hb h1 h2 h3
      unfold OwE
      rw [show d'.toList.length = ks.length by simpa using hs']
      simpa using this
    · rw [List.pairwise_iff_getElem]
      intro i j hi hj hij
      have hi' : i < d'.size := by simpa using hi
      have hj' : j < d'.size := by simpa using hj
      have := hsort i j (Nat.zero_le _) hij (by rw [← hs]; exact hj')
      rw [getElem!_pos d' i hi', getElem!_pos d' j hj'] at this
      simpa using this

end Go.Proofs.YtnacoplokjdglaaGreat

namespace Go.Proofs.YtnacoplokjdglaaGreat
open Go.RowKit Go.Maps

theorem eqIn_int (d : Nat) (a b : Int) (w : World) : (Op.equalIn (d + 1) 3 (vi a) (vi b)).run Tryz.prog w = .ok (a == b) w := by
  simp [Op.equalIn, run_underlying Tryz.underlying3]
set_option maxRecDepth 100000 in
theorem eqE_in (d : Nat) (x y : GEdge) (w : World) : (Op.equalIn (d + 1 + 1) 113 (edA x) (edA y)).run Tryz.prog w = .ok (decide (x = y)) w := by
  have hs : Tryz.prog.stoodInHeld 113 = false := by kernel_rfl
  have p0 : ∀ a b c w, (part 3 #[vi a, vi b, vi c] 0).run Tryz.prog w = .ok (vi a) w := fun _ _ _ _ => by kernel_rfl
  have p1 : ∀ a b c w, (part 3 #[vi a, vi b, vi c] 1).run Tryz.prog w = .ok (vi b) w := fun _ _ _ _ => by kernel_rfl
  have p2 : ∀ a b c w, (part 3 #[vi a, vi b, vi c] 2).run Tryz.prog w = .ok (vi c) w := fun _ _ _ _ => by kernel_rfl
  have hd : decide (x = y) = (x.f == y.f && (x.t == y.t && x.k == y.k)) := by
    obtain ⟨a, b, c⟩ := x; obtain ⟨a', b', c'⟩ := y
    rw [Bool.eq_iff_iff]; simp
  rw [hd]
  unfold Op.equalIn
  by_cases h1 : x.f = y.f <;> by_cases h2 : x.t = y.t <;> by_cases h3 : x.k = y.k <;> simp [run_underlying Tryz.underlying113, hs, eqIn_int, p0, p1, p2, h1, h2, h3, Result.andThen]
theorem eqlE (x y : GEdge) (w : World) : (binOp .eql 113 (edA x) (edA y)).run Tryz.prog w = .ok (.bool (decide (x = y))) w := by
  have h : (Op.equal 113 (edA x) (edA y)).run Tryz.prog w = .ok (decide (x = y)) w := eqE_in 9998 x y w
  simp only [binOp]
  simp [h]
theorem neqE (x y : GEdge) (w : World) : (binOp .neq 113 (edA x) (edA y)).run Tryz.prog w = .ok (.bool (!decide (x = y))) w := by
  have h : (Op.equal 113 (edA x) (edA y)).run Tryz.prog w = .ok (decide (x = y)) w := eqE_in 9998 x y w
  simp only [binOp]
  simp [h]
end Go.Proofs.YtnacoplokjdglaaGreat
