/- Texts of one proof, one behind the other: HsOf, FlAll, CkH, CtPP, CtLf. -/
import Derived.Shelf.SlSortCmp.Insertion
import Derived.Sort.Walk13a
import Derived.Sort.AssemblyPlain
import Derived.Shelf.SlSortCmp.Kit1
import Derived.Sort.WalkA
import Derived.Sort.Lot0
import Derived.Shelf.SlSortCmp.BreakPatterns1
import Derived.Sort.LotD1
import Derived.Sort.Walk13
import Derived.Sort.WalkB2
import Derived.Sort.WalkB12
import Derived.BigQuiet
import Derived.Sort.WalkB3
import Derived.Shelf.SlGeneric
import Derived.Shelf.SlLaysF
import Derived.Test.YtnacoplokjdglaaGreatProg
import Derived.Test.YtnacoplokjdglaaGreatKp1
import Derived.Test.YtnacoplokjdglaaGreatKp2
import Derived.Test.YtnacoplokjdglaaGreatKp3
import Derived.Test.YtnacoplokjdglaaGreatKp4
import Derived.Test.YtnacoplokjdglaaGreatKp5
import Derived.Test.YtnacoplokjdglaaGreatKp6
import Derived.Test.YtnacoplokjdglaaGreatKp7
import Derived.Test.YtnacoplokjdglaaGreatKp8
import Derived.Test.YtnacoplokjdglaaGreatKp9
import Derived.Test.YtnacoplokjdglaaGreatKp10
import Derived.Test.YtnacoplokjdglaaGreatKp11
import Derived.Test.YtnacoplokjdglaaGreatKp12
import Derived.Test.YtnacoplokjdglaaGreatKp13
import Derived.Test.YtnacoplokjdglaaGreatKp14
import Derived.Test.YtnacoplokjdglaaGreatKp15
import Derived.Test.YtnacoplokjdglaaGreatKp16
import Derived.Test.YtnacoplokjdglaaGreatKp17
import Derived.Test.YtnacoplokjdglaaGreatKp18
set_option linter.all false
namespace Go.Proofs.YtnacoplokjdglaaGreat
open Go.RowKit Go.Maps

theorem addW_append (l m : List GOp) : ∀ wr : List (Int × Bool), addW wr (l ++ m) = (addW wr l).bind fun wr' => addW wr' m := by
  induction l with
  | nil => intro wr; rfl
  | cons o l ih =>
    intro wr
    rw [List.cons_append, addW, addW]
    split
    · split
      · rfl
      · exact ih _
    · exact ih _
theorem addW_next {wr : List (Int × Bool)} {l : List GOp} {k : Nat} {o : GOp} (h : l[k]? = some o) : addW wr (l.take (k + 1)) = (addW wr (l.take k)).bind fun wr' => addW wr' [o] := by
  rw [take_at h, addW_append]
theorem addW_stop {wr : List (Int × Bool)} {l : List GOp} {k : Nat} (h : addW wr (l.take k) = none) : addW wr l = none := by
  rw [← List.take_append_drop k l, addW_append, h]; rfl

theorem set_self_at {α : Type} {l : List α} {m : Nat} {x : α} (h : l[m]? = some x) : l.set m x = l := by
  apply List.ext_getElem?
  intro i
  rw [List.getElem?_set]
  split
  · rename_i e1
    subst e1
    rw [if_pos (List.getElem?_eq_some_iff.1 h).1, h]
  · rfl
theorem own_map {A B : World} {b n m mo c : Nat} {e : TypeId} {v : Value} {xs : List Value} {es : Array MapEntry} (h : A.ownsRow b e n v m xs) (ho : A.heap[mo]? = some (.map es c)) (hg : A.grownBy B (some mo)) : B.ownsRow b e n v m xs :=
  h.kept hg (by
    cases hv : v.ownBlock with
    | none => exact .inl rfl
    | some k =>
      refine .inr (fun e1 => ?_)
      rcases h.2 with ⟨h1, _⟩ | ⟨g, cap, cur, h1, _, hh, _⟩
      · rw [h1] at hv; cases hv
      · rw [h1] at hv
        have e2 : g = k := by simpa [Value.ownBlock] using hv
        have e3 : k = mo := by simpa using e1
        subst e2; subst e3
        rw [ho] at hh; cases hh)
theorem map_row {A B : World} {b n m mo : Nat} {e kt : TypeId} {κ ν : Type} {eK : κ → Value} {eV : ν → Value} {L : List (κ × ν)} {v : Value} {xs : List Value} (h : A.ownsRow b e n v m xs) (hm : MapT Tryz.prog kt eK eV A mo L) (hg : A.grownBy B v.ownBlock) : MapT Tryz.prog kt eK eV B mo L :=
  hm.kept hg (fun e1 => by
    obtain ⟨es, c, ho, _⟩ := hm
    rcases h.2 with ⟨h1, _⟩ | ⟨g, cap, cur, h1, _, hh, _⟩
    · rw [h1] at e1; cases e1
    · rw [h1] at e1
      have e2 : mo = g := by simpa [Value.ownBlock] using e1
      subst e2
      rw [ho] at hh; cases hh)
theorem map_is {κ ν : Type} {P : Program} {k : TypeId} {eK : κ → Value} {eV : ν → Value} {w : World} {b : Nat} {L : List (κ × ν)} (h : MapT P k eK eV w b L) : ∃ es c, w.heap[b]? = some (.map es c) := by
  obtain ⟨es, c, ho, _⟩ := h; exact ⟨es, c, ho⟩
theorem OfS.mapped {w A B : World} {vo vf : Value} {L : TxL} {F : List Nat} {mo c : Nat} {es : Array MapEntry} (h : OfS w vo vf L F A) (ho : A.heap[mo]? = some (.map es c)) (hN : w.heap.size ≤ mo) (hg : A.grownBy B (some mo)) : OfS w vo vf L F B :=
  ⟨own_map h.out ho hg, fun p hp => own_map (h.ops p hp) ho hg, own_map h.frm ho hg, h.below.grown hg h.below.size (fun j hj => by cases hj; exact hN)⟩

/-- What hist.Of keeps of memory. -/
structure HoS (w : World) (vo : Value) (L : TxL) (s : HSt) (W : World) : Prop where
  of_ : OfS w vo (.slice none 0 0) L [] W
  opn : MapT Tryz.prog 3 vi vi W w.heap.size s.op
  wr : MapT Tryz.prog 3 vi Value.bool W (w.heap.size + 1) s.wr
  lm : L.map (·.1) = s.ts
theorem HoS.later {w A B : World} {vo : Value} {L : TxL} {s : HSt} (h : HoS w vo L s A) (hb : Below A.heap.size A B) : HoS w vo L s B :=
  ⟨h.of_.later hb, h.opn.below hb h.opn.lt, h.wr.below hb h.wr.lt, h.lm⟩
theorem HoS.more {w A : World} {vo : Value} {L : TxL} {s : HSt} (h : HoS w vo L s A) (o : Obj) : HoS w vo L s (A.alloc o) := h.later ((Below.refl _ _).alloc (Nat.le_refl _) _)
theorem HoS.putO {w A B : World} {vo : Value} {L : TxL} {s : HSt} {op' : List (Int × Int)} (h : HoS w vo L s A) (hg : A.grownBy B (some w.heap.size)) (hm : MapT Tryz.prog 3 vi vi B w.heap.size op') : HoS w vo L ⟨s.ts, op', s.wr⟩ B := by
  obtain ⟨es, c, ho⟩ := map_is h.opn
  exact ⟨h.of_.mapped ho (Nat.le_refl _) hg, hm, h.wr.kept hg (by simp), h.lm⟩
theorem HoS.putW {w A B : World} {vo : Value} {L : TxL} {s : HSt} {wr' : List (Int × Bool)} (h : HoS w vo L s A) (hg : A.grownBy B (some (w.heap.size + 1))) (hm : MapT Tryz.prog 3 vi Value.bool B (w.heap.size + 1) wr') : HoS w vo L ⟨s.ts, s.op, wr'⟩ B := by
  obtain ⟨es, c, ho⟩ := map_is h.wr
  exact ⟨h.of_.mapped ho (by omega) hg, h.opn.kept hg (by simp), hm, h.lm⟩
theorem HoS.push {w A B : World} {vo vo' : Value} {L : TxL} {s : HSt} {p : GTxn × Value} (h : HoS w vo L s A) (hg : A.grownBy B vo.ownBlock) (ho : B.ownsRow w.heap.size 49 3 vo' (L.length + 1) (L.flatMap txV ++ txV p)) (hp : OwOps w.heap.size A p.2 p.1.ops) : HoS w vo' (L ++ [p]) ⟨s.ts ++ [p.1], s.op, s.wr⟩ B :=
  ⟨h.of_.push hg ho hp, map_row h.of_.out h.opn hg, map_row h.of_.out h.wr hg, by rw [List.map_append, h.lm]; rfl⟩
theorem HoS.set {w A : World} {L : TxL} {s : HSt} {g n cap : Nat} (h : HoS w (.slice (some ⟨g, 0, none⟩) n cap) L s A) (hn : n = L.length) {k i : Nat} {p p' : GTxn × Value} {u : Value} (hp : L[k]? = some p) (hi : i < 3) (hs : (txV p).set i u = txV p') (ho : OwOps w.heap.size A p'.2 p'.1.ops) :
    HoS w (.slice (some ⟨g, 0, none⟩) n cap) (L.set k p') ⟨s.ts.set k p'.1, s.op, s.wr⟩ (A.setCell ⟨g, k * 3 + i, none⟩ u) := by
  have h1 := h.of_.set hn hp hi hs ho
  have h2 : A.ownsRow w.heap.size 49 3 (.slice (some ⟨g, 0, none⟩) n cap) L.length (L.flatMap txV) := h.of_.out
  have hg : A.grownBy (A.setCell ⟨g, k * 3 + i, none⟩ u) (Value.slice (some ⟨g, 0, none⟩) n cap).ownBlock := by subst hn; exact (World.ownsRow.stored h2 (k * 3 + i) u).2
  exact ⟨h1, map_row h2 h.opn hg, map_row h2 h.wr hg, by rw [List.map_set, h.lm]⟩
theorem HoS.keep {w A : World} {L : TxL} {s : HSt} {g n cap : Nat} (h : HoS w (.slice (some ⟨g, 0, none⟩) n cap) L s A) (hn : n = L.length) {b m : Nat} {v : Value} {xs : List Value} (ho : A.ownsRow b 51 3 v m xs) (j : Nat) (u : Value) : (A.setCell ⟨g, j, none⟩ u).ownsRow b 51 3 v m xs := by
  subst hn
  have h2 : A.ownsRow w.heap.size 49 3 (.slice (some ⟨g, 0, none⟩) L.length cap) L.length (L.flatMap txV) := h.of_.out
  exact World.ownsRow.kept ho (World.ownsRow.stored h2 j u).2 (rows_apart h2 ho (by decide))
theorem HoS.shape {w A : World} {vo : Value} {L : TxL} {s : HSt} (h : HoS w vo L s A) : ∃ a c, vo = .slice a L.length c := by
  obtain ⟨a, len, c, h1, h2, -⟩ := rds_of_own (V := txV) txV_length h.of_.out
  subst h2; exact ⟨a, c, h1⟩

set_option maxRecDepth 100000 in
set_option maxHeartbeats 16000000 in
theorem hof_call (v : Value) (es : List GEvent) (w : World) (hv : RdEvents w v es) (hes : es.length ≤ 60) :
    Calls Tryz.prog 38 #[v] w (OfQE es w) := by
  have HV := Lib.hid hv
  obtain ⟨a, len, cap, rfl, rfl, hm, -⟩ := hv.at
  clear hv
  have hesI : ¬ (es.length : Int) > 400 := by omega
  have hmm := @run_makeMap Tryz.prog
  have HS0 := Lib.hid (show HoS w (.slice none 0 0) [] hst0 ((w.alloc (.map #[] 0)).alloc (.map #[] 0)) from
    ⟨⟨World.ownsRow_nil _ _ _ _, (fun p hp => by cases hp), World.ownsRow_nil _ _ _ _, ((Below.refl _ _).alloc (Nat.le_refl _) _).alloc (by simp) _⟩,
      (MapT.made (P := Tryz.prog) (k := 3) (eK := vi) (eV := vi) w).frame (Below.heap_alloc _ _ _ (by simp)),
      by simpa [hst0] using MapT.made (P := Tryz.prog) (k := 3) (eK := vi) (eV := Value.bool) (w.alloc (.map #[] 0)), rfl⟩)
  go_enter Tryz.func38, Tryz.ntmps38
  go_wp2_with fail
  clear hmm
  go_loopw [5, 8, 9, 10, 11, 12, 14, 15, 16, 24] (fun vo _ _ _ _ _ _ _ _ n wr => ∃ (i : Nat) (L : TxL) (s : HSt), i ≤ es.length ∧ n = .int .i64 i ∧ Hid (HoS w vo L s wr) ∧ Hid (runH hst0 (es.take i) = some s)) (fun _ _ _ _ _ _ _ _ _ n _ => es.length - (intOf n).toNat)
  case atStart => exact ⟨0, [], hst0, Nat.zero_le _, rfl, HS0, Lib.hid rfl⟩
  case round =>
    obtain ⟨wi, rfl⟩ : ∃ wi : World, wi = wr := ⟨_, rfl⟩
    obtain ⟨i, L, s, hi, rfl, HS, HRUN⟩ := hrel
    have HINV := Lib.hid (runH_inv hi HRUN.out)
    have HB := Lib.hid HS.out.of_.below
    have hwi := HB.out.size
    have hwr := HS.out.wr.lt
    have hLi : L.length ≤ i := by have h1 := HINV.out.len; have h2 := congrArg List.length HS.out.lm; rw [List.length_map] at h2; omega
    obtain ⟨ao, co, rfl⟩ := HS.out.shape
    by_cases hlt : i < es.length
    · obtain ⟨e, he⟩ := some_at hlt
      obtain ⟨_, _, _, e5, -, -, hcl⟩ := HV.out.at
      cases e5
      obtain ⟨b, off, oa, oc, rfl, hr, k0', k1', k2'⟩ := hcl i e he
      have k0 := cell_later HB.out k0'
      have k1 := cell_later HB.out k1'
      have k2 := cell_later HB.out k2'
      have hiI : (i : Int) < (es.length : Int) := by omega
      have hmo : e.ops.length ≤ 9223372036854775807 := by obtain ⟨_, _, _, _, _, h, _⟩ := hr.at; exact h
      have HE := Lib.hid he
      have HR := Lib.hid hr
      have HNX := Lib.hid (runH_next HRUN.out he)
      have HSTOP := Lib.hid (show stepH s e = none → histH es = none from fun h => runH_none (i := i + 1) (by rw [runH_next HRUN.out he, h]))
      clear hcl he hr k0' k1' k2'
      go_upto_region 9 with fail
      have HB1 := Lib.hid (HB.out.alloc hwi (.cells #[vi e.kind, vi e.client, .slice oa e.ops.length oc] 53))
      have HS1 := Lib.hid (HS.out.more (.cells #[vi e.kind, vi e.client, .slice oa e.ops.length oc] 53))
      have HX1 := Lib.hid (alloc_at wi (.cells #[vi e.kind, vi e.client, .slice oa e.ops.length oc] 53))
      have hw1 : (wi.alloc (.cells #[vi e.kind, vi e.client, .slice oa e.ops.length oc] 53)).heap.size = wi.heap.size + 1 := by simp
      have q0 : (wi.alloc (.cells #[vi e.kind, vi e.client, .slice oa e.ops.length oc] 53)).cell? ⟨wi.heap.size, 0, none⟩ = some (vi e.kind) := by rw [cell_of (alloc_at _ _)]; rfl
      have q1 : (wi.alloc (.cells #[vi e.kind, vi e.client, .slice oa e.ops.length oc] 53)).cell? ⟨wi.heap.size, 1, none⟩ = some (vi e.client) := by rw [cell_of (alloc_at _ _)]; rfl
      have q2 : (wi.alloc (.cells #[vi e.kind, vi e.client, .slice oa e.ops.length oc] 53)).cell? ⟨wi.heap.size, 2, none⟩ = some (.slice oa e.ops.length oc) := by rw [cell_of (alloc_at _ _)]; rfl
      have HR1 := Lib.hid (HR.out.later (HB1.out))
      clear k0 k1 k2
      generalize wi.alloc (.cells #[vi e.kind, vi e.client, .slice oa e.ops.length oc] 53) = w1 at *
      have hw1' : wi.heap.size < w1.heap.size := by omega
      go_upto_region 10 with (go_at_call 57; refine (check_call e _ _ HR1.out).mono ?_; rintro r w2 ⟨nc, rfl, hnc, hb2⟩; have HB2 := Lib.hid hb2; have HNC := Lib.hid hnc; clear hb2 hnc)
      have HBW := Lib.hid (HB1.out.trans (HB2.out.mono HB1.out.size))
      have hw2 : w1.heap.size ≤ w2.heap.size := HB2.out.size
      have HX2 := Lib.hid ((HB2.out.block _ hw1').trans HX1.out)
      have HS2 := Lib.hid (HS1.out.later HB2.out)
      have HR2 := Lib.hid (HR.out.later HBW.out)
      clear q0 q1 q2
      have q0 : w2.cell? ⟨wi.heap.size, 0, none⟩ = some (vi e.kind) := by rw [cell_of HX2.out]; rfl
      have q1 : w2.cell? ⟨wi.heap.size, 1, none⟩ = some (vi e.client) := by rw [cell_of HX2.out]; rfl
      have q2 : w2.cell? ⟨wi.heap.size, 2, none⟩ = some (.slice oa e.ops.length oc) := by rw [cell_of HX2.out]; rfl
      by_cases hn0 : nc = 0
      case neg =>
        have hnb := bne_t hn0
        have HNO := Lib.hid (HSTOP.out (stepH_wrong (fun h => hn0 (HNC.out.2 h))))
        have HN := Lib.hid hn0
        clear hn0
        go_wp2_with fail
        go_ret3
        exact .bad rfl HN.out HNO.out HBW.out
      have HG := Lib.hid (HNC.out.1 hn0)
      subst hn0
      have hol : e.ops.length ≤ 12 := HG.out.good.len
      have hcl0 := HG.out.good.cl0
      have hcl1 := HG.out.good.cl1
      have HKC := Lib.hid (intKey (n := e.client) (by unfold i64; omega))
      have hlk := (MapT.lookup intKeyed vi_inj (t := 115) (e := 3) Tryz.underlying115 HS2.out.opn e.client HKC.out (zeroI w2)).2
      cases hg : getM s.op e.client with
      | none =>
        rw [hg] at hlk
        simp only [Option.map_none, Option.getD_none, Option.isSome_none] at hlk
        have HGM := Lib.hid hg
        clear hg
        by_cases h1 : e.kind = 1
        case neg =>
          have c1 := bne_t h1
          have HNO := Lib.hid (HSTOP.out (stepH_idle HGM.out h1))
          clear h1
          go_wp2_with fail
          go_ret3
          exact .bad rfl (by decide) HNO.out HBW.out
        have c1 := bne_f h1
        have H1 := Lib.hid h1
        clear h1
        go_upto_region 17 with fail
        clear hlk
        go_loopw [14, 53] (fun _ n wr => ∃ (k : Nat) (wr' : List (Int × Bool)), k ≤ e.ops.length ∧ n = .int .i64 k ∧ Hid (addW s.wr (e.ops.take k) = some wr') ∧ Hid (HoS w (.slice ao L.length co) L ⟨s.ts, s.op, wr'⟩ wr) ∧ Hid (wr.heap[wi.heap.size]? = some (.cells #[vi e.kind, vi e.client, .slice oa e.ops.length oc] 53))) (fun _ n _ => e.ops.length - (intOf n).toNat)
        case atStart => exact ⟨0, s.wr, Nat.zero_le _, rfl, Lib.hid rfl, HS2, HX2⟩
        case round =>
          obtain ⟨wk, rfl⟩ : ∃ wk : World, wk = wr := ⟨_, rfl⟩
          obtain ⟨k, wr', hk, rfl, HAW, HSk, HXk⟩ := hrel
          have HBk := Lib.hid HSk.out.of_.below
          have hwk := HBk.out.size
          have hxk : wi.heap.size < wk.heap.size := (Array.getElem?_eq_some_iff.1 HXk.out).1
          clear q0 q1 q2
          by_cases hlk : k < e.ops.length
          · have hkI : (k : Int) < (e.ops.length : Int) := by omega
            obtain ⟨o, ho⟩ := some_at hlk
            obtain ⟨_, _, _, e5, -, -, hcl⟩ := (HR.out.later HBk.out).at
            cases e5
            obtain ⟨b2, off2, rfl, k0, k1, k2⟩ := hcl k o ho
            have HAN := Lib.hid (addW_next (wr := s.wr) ho)
            have HGO := Lib.hid (HG.out.good.ops o (List.mem_of_getElem? ho))
            have HKO := Lib.hid (intKey (n := o.val) (by have := HGO.out.val0; have := HGO.out.val1; unfold i64; omega))
            clear hcl ho
            go_upto_region 19 with fail
            have HXo := Lib.hid (alloc_at wk (.cells #[vi o.kind, vi o.key, vi o.val] 51))
            have HSa := Lib.hid (HSk.out.more (.cells #[vi o.kind, vi o.key, vi o.val] 51))
            have HXa := Lib.hid ((Below.heap_alloc wk (.cells #[vi o.kind, vi o.key, vi o.val] 51) _ hxk).trans HXk.out)
            clear k0 k1 k2
            generalize wk.alloc (.cells #[vi o.kind, vi o.key, vi o.val] 51) = wa at *
            have y0 : wa.cell? ⟨wk.heap.size, 0, none⟩ = some (vi o.kind) := by rw [cell_of HXo.out]; rfl
            have y2 : wa.cell? ⟨wk.heap.size, 2, none⟩ = some (vi o.val) := by rw [cell_of HXo.out]; rfl
            by_cases h2 : o.kind = 2
            · have c2 := beq_t h2
              have hl2 := (MapT.lookup intKeyed vi_inj (t := 116) (e := 4) Tryz.underlying116 HSa.out.wr o.val HKO.out (zeroB wa)).1
              have HST : Hid (addW s.wr (e.ops.take (k + 1)) = if (getM wr' o.val).getD false then none else some (putM wr' o.val true)) := by
                refine Lib.hid ?_
                rw [HAN.out, HAW.out]
                simp only [Option.bind_some, addW, if_pos h2]
              have H2 := Lib.hid h2
              clear h2
              have hl3 : (Instr.lookup 116 (.map (some (w.heap.size + 1))) (vi o.val) false).run Tryz.prog wa = .ok (.bool ((getM wr' o.val).getD false)) wa := by
                rw [hl2]
                cases getM wr' o.val <;> rfl
              clear hl2
              cases hb : (getM wr' o.val).getD false with
              | true =>
                rw [hb] at hl3
                have HNO := Lib.hid (HSTOP.out (by rw [stepH_new HG.out HGM.out H1.out, addW_stop (k := k + 1) (by rw [HST.out, hb]; rfl)]; rfl))
                have HBa := Lib.hid HSa.out.of_.below
                clear hb
                go_wp2_with fail
                go_ret3
                exact .bad rfl (by decide) HNO.out HBa.out
              | false =>
                rw [hb] at hl3
                have HAX := Lib.hid (show addW s.wr (e.ops.take (k + 1)) = some (putM wr' o.val true) from by rw [HST.out, hb]; rfl)
                clear hb
                go_wp2_with (at_mapUpdate; refine wpList_mapUpdate_T (b := w.heap.size + 1) (eK := vi) (eV := Value.bool) rfl _ _ _ rfl intKeyed vi_inj Tryz.underlying116 HSa.out.wr rfl o.val HKO.out rfl true rfl ?_; intro w5 hM5 hg5)
                have hxa : wi.heap.size < wa.heap.size := (Array.getElem?_eq_some_iff.1 HXa.out).1
                go_roundw
                case rel => exact ⟨k + 1, _, by omega, by go_num, HAX, Lib.hid (HSa.out.putW hg5 hM5), Lib.hid ((hg5.block _ hxa (by simp; omega)).trans HXa.out)⟩
                case measure => simp [intOf]; omega
            · have c2 := beq_f h2
              have HAX := Lib.hid (show addW s.wr (e.ops.take (k + 1)) = some wr' from by rw [HAN.out, HAW.out]; simp only [Option.bind_some, addW, if_neg h2])
              clear h2
              go_wp2_with fail
              go_roundw
              case rel => exact ⟨k + 1, wr', by omega, by go_num, HAX, HSa, HXa⟩
              case measure => simp [intOf]; omega
          · have hke : k = e.ops.length := by omega
            subst hke
            have HAF := Lib.hid (show stepH s e = some ⟨s.ts ++ [⟨e.client, 0, e.ops⟩], putM s.op e.client s.ts.length, wr'⟩ from by
              have h := HAW.out
              rw [List.take_length] at h
              rw [stepH_new HG.out HGM.out H1.out, h]; rfl)
            have HLT := Lib.hid (show (L.length : Int) = (s.ts.length : Int) from by have h2 := congrArg List.length HS.out.lm; rw [List.length_map] at h2; omega)
            have q0 : wk.cell? ⟨wi.heap.size, 0, none⟩ = some (vi e.kind) := by rw [cell_of HXk.out]; rfl
            have q1 : wk.cell? ⟨wi.heap.size, 1, none⟩ = some (vi e.client) := by rw [cell_of HXk.out]; rfl
            go_wp2_with (at_mapUpdate; refine wpList_mapUpdate_T (b := w.heap.size) (eK := vi) (eV := vi) rfl _ _ _ rfl intKeyed vi_inj Tryz.underlying115 HSk.out.opn rfl e.client HKC.out rfl (L.length : Int) rfl ?_; intro w5 hM5 hg5)
            have HS5 := Lib.hid (HSk.out.putO hg5 hM5)
            have HX5 := Lib.hid ((hg5.block _ hxk (by simp; omega)).trans HXk.out)
            have HB5 := Lib.hid HS5.out.of_.below
            have hw5 := HB5.out.size
            have HR5 := Lib.hid (HR.out.later HB5.out)
            clear q0 q1 hM5 hg5
            have q1 : w5.cell? ⟨wi.heap.size, 1, none⟩ = some (vi e.client) := by rw [cell_of HX5.out]; rfl
            have q2 : w5.cell? ⟨wi.heap.size, 2, none⟩ = some (.slice oa e.ops.length oc) := by rw [cell_of HX5.out]; rfl
            go_cut [5] (fun vo wy => ∃ ov, HoS w vo (L ++ [(⟨e.client, 0, e.ops⟩, ov)]) ⟨s.ts ++ [⟨e.client, 0, e.ops⟩], putM s.op e.client (L.length : Int), wr'⟩ wy)
            case first =>
              go_region_law (first
                | (go_simp; go_at_call 58; refine (cloneH_call _ e.ops w5.drew (HR5.out.later ((Below.refl w5.heap.size w5).drew)) (by omega)).mono ?_; rintro e6 w6 ⟨v6, rfl, ho6, hb6⟩; have HO6 := Lib.hid ho6; have HB6 := Lib.hid (((Below.refl w5.heap.size w5).drew).trans hb6); have hr6 := ho6.rd; obtain ⟨a6, n6, c6, rfl, rfl, hm6, -⟩ := hr6.at; have HS6 := Lib.hid (HS5.out.later HB6.out); have z1 := cell_later HB6.out q1; have hw6 := HB6.out.size; clear ho6 hb6 hr6)
                | (refine step_append_src rfl _ _ 24 rfl eltTxn w.heap.size L.length _ (HS6.out.more _).of_.out rfl 1 (txV (⟨e.client, 0, e.ops⟩, .slice a6 e.ops.length c6)) (src_new rfl rfl) rfl (txV_one rfl) (by omega) (by omega) (by simp; omega) ?_; intro v7 w7 hown7 hg7 _; have HS7 := Lib.hid ((HS6.out.more _).push hg7 hown7 ((own_mono HO6.out (by show w.heap.size ≤ w5.heap.size; omega)).alloc _)); clear hown7 hg7))
              all_goals
                go_wp2
                go_meet
                exact ⟨_, HS7.out⟩
            case rest =>
              obtain ⟨ov, hs7⟩ := hcut
              have HS7 := Lib.hid hs7
              clear hs7 q1 q2
              go_wp2_with fail
              go_roundw
              case rel => exact ⟨i + 1, _, _, by omega, by go_num, HS7, Lib.hid (by rw [HNX.out, HAF.out, HLT.out])⟩
              case measure => simp [intOf]; omega
      | some kk =>
        rw [hg] at hlk
        simp only [Option.map_some, Option.getD_some, Option.isSome_some] at hlk
        obtain ⟨m, rfl⟩ : ∃ m : Nat, kk = m := ⟨kk.toNat, by have := (HINV.out.op _ _ hg).1; omega⟩
        have HGM := Lib.hid hg
        have hml : m < s.ts.length := by have := (HINV.out.op _ _ hg).2; simpa using this
        clear hg
        by_cases h1 : e.kind = 1
        · have c1 := bne_f h1
          have HNO := Lib.hid (HSTOP.out (stepH_busy HGM.out h1))
          clear h1
          go_wp2_with fail
          go_ret3
          exact .bad rfl (by decide) HNO.out HBW.out
        have c1 := bne_t h1
        have H1 := Lib.hid h1
        clear h1
        have hmL : m < L.length := by have h2 := congrArg List.length HS.out.lm; rw [List.length_map] at h2; omega
        obtain ⟨⟨pt, pv⟩, hp⟩ := some_at (l := L) (k := m) (by omega)
        have HTS := Lib.hid (show s.ts[m]? = some pt from by rw [← HS.out.lm, List.getElem?_map, hp]; rfl)
        have hLb : (m : Int) < (L.length : Int) := by omega
        obtain ⟨g, cg, ego⟩ := HS.out.of_.out_shape (by omega)
        simp only [Value.slice.injEq] at ego
        obtain ⟨rfl, -, rfl⟩ := ego
        obtain ⟨w3, hdel, hM3, hg3, hs3⟩ := HS2.out.opn.delete intKeyed vi_inj (t := 115) (e := 3) Tryz.underlying115 e.client HKC.out 0
        have hxk2 : wi.heap.size < w2.heap.size := by omega
        have HS3 := Lib.hid (HS2.out.putO hg3 hM3)
        have HX3 := Lib.hid ((hg3.block _ hxk2 (by simp; omega)).trans HX2.out)
        have HB3 := Lib.hid HS3.out.of_.below
        have hw3 := HB3.out.size
        have HR3 := Lib.hid (HR.out.later HB3.out)
        have HOP := Lib.hid (HS3.out.of_.ops _ (List.mem_of_getElem? hp)).rd
        obtain ⟨ap, np, cp, hpv, hnp, hmp, -⟩ := HOP.out.at
        simp only at hpv hnp
        subst hpv
        subst hnp
        have HP := Lib.hid hp
        have hpl : pt.ops.length ≤ 12 := (HINV.out.txn pt (List.mem_of_getElem? HTS.out)).2.2
        clear hM3 hg3 hp
        go_upto_region 28 with fail
        clear hlk
        clear q0 q1 q2
        have q0 : w3.cell? ⟨wi.heap.size, 0, none⟩ = some (vi e.kind) := by rw [cell_of HX3.out]; rfl
        have q1 : w3.cell? ⟨wi.heap.size, 1, none⟩ = some (vi e.client) := by rw [cell_of HX3.out]; rfl
        have q2 : w3.cell? ⟨wi.heap.size, 2, none⟩ = some (.slice oa e.ops.length oc) := by rw [cell_of HX3.out]; rfl
        have s2 := HS3.out.of_.out_at HP.out (i := 2) rfl
        go_cut [16] (fun v wx => (∃ n : Int, v = .int .i64 n ∧ (n = 0 ↔ EndOK pt.ops e)) ∧ Below w3.heap.size w3 wx)
        case first =>
          go_still_tail 5, (by kernel_rfl)
          change wpList _ _ _ _ _ w3.drew
          go_wp2_with (go_at_call 59; refine (answerH_call _ _ pt.ops e _ (HOP.out.later ((Below.refl _ _).drew)) (HR3.out.later ((Below.refl _ _).drew)) HG.out).mono ?_; rintro r w4 ⟨n, rfl, hn, hb4⟩)
          go_meet
          exact ⟨⟨n, rfl, hn⟩, ((Below.refl w3.heap.size w3).drew).trans hb4⟩
        case rest =>
          obtain ⟨wx, rfl⟩ : ∃ wx : World, wx = wc := ⟨_, rfl⟩
          obtain ⟨⟨n, rfl, hn⟩, hb4⟩ := hcut
          have HB4 := Lib.hid hb4
          have hw4 := hb4.size
          have HN := Lib.hid hn
          clear hb4 hn q0 q1 q2 s2
          have HS4 := Lib.hid (HS3.out.later HB4.out)
          have HX4 := Lib.hid ((HB4.out.block _ (by omega)).trans HX3.out)
          have HB4W := Lib.hid HS4.out.of_.below
          have HR4 := Lib.hid (HR.out.later HB4W.out)
          by_cases hn0 : n = 0
          case neg =>
            have d1 := bne_t hn0
            have HN0 := Lib.hid hn0
            have HNO := Lib.hid (HSTOP.out (stepH_other (t := pt) HGM.out (by simpa using HTS.out) (fun h => hn0 (HN.out.2 h))))
            clear hn0
            go_wp2_with fail
            go_ret3
            exact .bad rfl HN0.out HNO.out HB4W.out
          have HST := Lib.hid (show stepH s e = some ⟨s.ts.set m (endT pt e), delM s.op e.client, s.wr⟩ from stepH_end HG.out HGM.out H1.out (by simpa using HTS.out) (HN.out.1 hn0))
          subst hn0
          have q0 : wx.cell? ⟨wi.heap.size, 0, none⟩ = some (vi e.kind) := by rw [cell_of HX4.out]; rfl
          have q2 : wx.cell? ⟨wi.heap.size, 2, none⟩ = some (.slice oa e.ops.length oc) := by rw [cell_of HX4.out]; rfl
          have hww : w.heap.size ≤ wx.heap.size := HB4W.out.size
          by_cases h2 : e.kind = 2
          · have c2 := beq_t h2
            have HET := Lib.hid (show endT pt e = ⟨pt.client, 1, e.ops⟩ by unfold endT; rw [if_pos h2])
            clear h2
            go_upto_region 36 with (go_at_call 58; refine (cloneH_call _ e.ops wx HR4.out (by omega)).mono ?_; rintro e6 w6 ⟨v6, rfl, ho6, hb6⟩; have HO6 := Lib.hid ho6; have hr6 := ho6.rd; obtain ⟨a6, n6, c6, rfl, rfl, hm6, -⟩ := hr6.at; have HS6 := Lib.hid (HS4.out.later hb6); have s1 := HS6.out.of_.out_at HP.out (i := 1) rfl; have s2 := HS6.out.of_.out_at HP.out (i := 2) rfl; have z1 := HS6.out.of_.out_free rfl (m * 3 + 1); have z2 := HS6.out.of_.out_free rfl (m * 3 + 2); clear ho6 hb6 hr6)
            have HSG := Lib.hid (HS6.out.set rfl HP.out (i := 1) (p' := (⟨pt.client, 1, pt.ops⟩, .slice ap pt.ops.length cp)) (u := vi 1) (by decide) rfl (HS6.out.of_.ops (pt, .slice ap pt.ops.length cp) (List.mem_of_getElem? HP.out)))
            have HPG := Lib.hid (show (L.set m (⟨pt.client, 1, pt.ops⟩, .slice ap pt.ops.length cp))[m]? = some (⟨pt.client, 1, pt.ops⟩, .slice ap pt.ops.length cp) from List.getElem?_set_self hmL)
            have HOG := Lib.hid (HS6.out.keep rfl (own_mono HO6.out hww) (m * 3 + 1) (vi 1))
            have HSF := Lib.hid (HSG.out.set (by rw [List.length_set]) HPG.out (i := 2) (p' := (⟨pt.client, 1, e.ops⟩, .slice a6 e.ops.length c6)) (u := .slice a6 e.ops.length c6) (by decide) rfl HOG.out)
            have HTT := Lib.hid (show (s.ts.set m ⟨pt.client, 1, pt.ops⟩).set m ⟨pt.client, 1, e.ops⟩ = s.ts.set m ⟨pt.client, 1, e.ops⟩ from by rw [List.set_set])
            go_wp2_with fail
            go_roundw
            case rel => exact ⟨i + 1, _, _, by omega, by simp, HSF, Lib.hid (by rw [HNX.out, HST.out, HET.out, HTT.out])⟩
            case measure => simp [intOf]; omega
          · have c2 := beq_f h2
            by_cases h3 : e.kind = 3
            · have c3 := beq_t h3
              have HET := Lib.hid (show endT pt e = ⟨pt.client, 2, pt.ops⟩ by unfold endT; rw [if_neg h2, if_pos h3])
              have s1 := HS4.out.of_.out_at HP.out (i := 1) rfl
              have z1 := HS4.out.of_.out_free rfl (m * 3 + 1)
              clear h2 h3
              go_wp2_with fail
              have HSF := Lib.hid (HS4.out.set rfl HP.out (i := 1) (p' := (⟨pt.client, 2, pt.ops⟩, .slice ap pt.ops.length cp)) (u := vi 2) (by decide) rfl (HS4.out.of_.ops (pt, .slice ap pt.ops.length cp) (List.mem_of_getElem? HP.out)))
              go_roundw
              case rel => exact ⟨i + 1, _, _, by omega, by simp, HSF, Lib.hid (by rw [HNX.out, HST.out, HET.out])⟩
              case measure => simp [intOf]; omega
            · have c3 := beq_f h3
              have HET := Lib.hid (show endT pt e = pt by unfold endT; rw [if_neg h2, if_neg h3])
              clear h2 h3
              go_wp2_with fail
              go_roundw
              case rel =>
                refine ⟨i + 1, _, _, by omega, by go_num, HS4, Lib.hid ?_⟩
                rw [HNX.out, HST.out, HET.out, set_self_at HTS.out]
              case measure => simp [intOf]; omega
    · obtain rfl : i = es.length := by omega
      go_wp2_with fail
      go_ret3
      have hrun := HRUN.out
      rw [List.take_length] at hrun
      exact .good rfl HS.out.of_.rd (by unfold histH; rw [hrun, HS.out.lm]; rfl) HB.out
end Go.Proofs.YtnacoplokjdglaaGreat

namespace Go.Proofs.YtnacoplokjdglaaGreat
open Go.RowKit Go.Maps
attribute [local go_sem] Oper.semAt_some

theorem foldLa_get (key val : Int) : ∀ (l : List GOp) (L : LaL), (getM (l.foldl stepLa L) (key, val)).getD false = ((getM L (key, val)).getD false || l.any (finB key val)) := by
  intro l
  induction l with
  | nil => intro L; simp
  | cons o l ih =>
    intro L
    rw [List.foldl_cons, ih, List.any_cons]
    unfold stepLa
    rw [getM_put]
    by_cases h : (o.key, o.val) = (key, val)
    · have hf : finB key val o = true := by simp only [Prod.mk.injEq] at h; simp [finB, h.1, h.2]
      rw [if_pos h, hf]; simp
    · have hf : finB key val o = false := by
        simp only [Prod.mk.injEq] at h
        cases hq : finB key val o with
        | false => rfl
        | true => unfold finB at hq; rw [Bool.and_eq_true, beq_iff_eq, beq_iff_eq] at hq; exact absurd hq h
      rw [if_neg h, hf]; simp
theorem laN_get {ts : List GTxn} {key val : Int} : ∀ n, n ≤ ts.length → ((getM (laN ts n) (key, val)).getD false = true ↔ ∃ (j : Nat) (t : GTxn), j < n ∧ ts[j]? = some t ∧ finalB t key val = true) := by
  intro n
  induction n with
  | zero => intro _; simp [laN, getM_nil]
  | succ n ih =>
    intro hn
    obtain ⟨t, ht⟩ := some_at hn
    rw [laN_succ ht, foldLa_get, Bool.or_eq_true, ih (by omega)]
    constructor
    · rintro (⟨j, u, h1, h2, h3⟩ | h)
      · exact ⟨j, u, by omega, h2, h3⟩
      · exact ⟨n, t, by omega, ht, h⟩
    · rintro ⟨j, u, h1, h2, h3⟩
      rcases Nat.lt_or_ge j n with h4 | h4
      · exact .inl ⟨j, u, h4, h2, h3⟩
      · obtain rfl : j = n := by omega
        rw [ht] at h2; cases h2
        exact .inr h3
theorem writesM_two {l : List GOp} {o : GOp} (h : o ∈ writesM l) : o.kind = 2 := by
  unfold writesM writesTo at h
  rw [List.mem_filterMap] at h
  obtain ⟨k, _, hk⟩ := h
  have := (lastW_mem hk).2
  unfold hitB at this
  simp at this
  exact this.1
/-- Who wrote a value last: the one who wrote it. -/
theorem la_final {ts : List GTxn} (hu : Uniq ts) {key val : Int} {n : Nat} {t : GTxn} (ht : ts[n]? = some t) (hw : t.ops.any (wroteB key val) = true) : (getM (laN ts ts.length) (key, val)).getD false = finalB t key val := by
  rw [Bool.eq_iff_iff, laN_get _ (Nat.le_refl _)]
  constructor
  · rintro ⟨j, u, _, hj, hf⟩
    have hfu := hf
    unfold finalB at hf
    rw [List.any_eq_true] at hf
    obtain ⟨o, ho, h1⟩ := hf
    unfold finB at h1
    rw [Bool.and_eq_true, beq_iff_eq, beq_iff_eq] at h1
    obtain ⟨p, hp, h2, h3⟩ := wrote_val hw
    have := hu j n u t hj ht o (writesM_mem ho) p hp (writesM_two ho) h2 (by rw [h1.2, h3])
    subst this
    rw [ht] at hj; cases hj
    exact hfu
  · intro h
    exact ⟨n, t, (List.getElem?_eq_some_iff.1 ht).1, ht, h⟩
theorem by_writer2 {ts : List GTxn} (hu : Uniq ts) (key val : Int) : (getM (byN ts ts.length) (key, val) = none ∧ writerM ts key val = -1) ∨ ∃ (i : Nat) (t : GTxn), ts[i]? = some t ∧ getM (byN ts ts.length) (key, val) = some (i : Int) ∧ writerM ts key val = i ∧ (getM (laN ts ts.length) (key, val)).getD false = finalB t key val := by
  by_cases h : ∃ (i : Nat) (t : GTxn), ts[i]? = some t ∧ t.ops.any (wroteB key val) = true
  · obtain ⟨i, t, ht, hh⟩ := h
    rcases by_writer hu key val with ⟨h1, h2⟩ | ⟨j, u, hj, h1, h2⟩
    · exact .inl ⟨h1, h2⟩
    · have hno : ∀ (j : Nat) (u : GTxn), j ≠ i → ts[j]? = some u → u.ops.any (wroteB key val) = false := by
        intro j u hj hju
        cases hc : u.ops.any (wroteB key val) with
        | false => rfl
        | true =>
          obtain ⟨o, ho, hk, hv⟩ := wrote_val hh
          obtain ⟨p, hp, hk', hv'⟩ := wrote_val hc
          exact absurd (hu j i u t hju ht p hp o ho hk' hk (by rw [hv, hv'])) hj
      have hlt := (List.getElem?_eq_some_iff.1 ht).1
      have hb := byN_one ht hh _ (Nat.le_refl _) hlt hno
      rw [hb] at h1
      have hij : i = j := by simp at h1; omega
      subst hij
      exact .inr ⟨i, t, ht, hb, h2, la_final hu ht hh⟩
  · rcases by_writer hu key val with ⟨h1, h2⟩ | ⟨j, u, hj, h1, h2⟩
    · exact .inl ⟨h1, h2⟩
    · have hno : ∀ (j : Nat) (u : GTxn), ts[j]? = some u → u.ops.any (wroteB key val) = false := by
        intro j u hju
        cases hc : u.ops.any (wroteB key val) with
        | false => rfl
        | true => exact absurd ⟨j, u, hju, hc⟩ h
      rw [byN_none _ (Nat.le_refl _) (fun j u _ hju => hno j u hju)] at h1
      cases h1

theorem Tryz.infoFw : (Tryz.prog.info? 32).map (fun i => (i.zero, i.size, i.bytes)) = some (some (.agg #[vi 0, vi 0, vi 0]), 3, 24) := by kernel_rfl
theorem eltFw : Elt Tryz.prog 83 32 3 24 (.agg #[vi 0, vi 0, vi 0]) := by
  obtain ⟨i0, hi, hz0, hz1, hz2⟩ := info_parts Tryz.infoFw
  exact ⟨Tryz.underlying83, by decide, rfl, i0, hi, hz0, hz1, hz2⟩
def OwFw (base : Nat) (w : World) (v : Value) (l : List (Int × Int × Int)) : Prop := w.ownsRow base 32 3 v l.length (l.flatMap flV)

set_option maxRecDepth 100000 in
set_option maxHeartbeats 8000000 in
theorem all_call (v : Value) (ts : List GTxn) (w : World) (hv : RdTxns w v ts) (hok : OkTxns ts) (htl : ts.length ≤ 4096) (hun : Uniq ts) :
    Calls Tryz.prog 39 #[v] w fun e w' => ∃ v', e = .returned v' ∧ OwFw w.heap.size w' v' (flawsM ts) ∧ Below w.heap.size w w' := by
  have HV := Lib.hid hv
  have HOK := Lib.hid hok
  have HUN := Lib.hid hun
  obtain ⟨ta, nt, tc, rfl, rfl, hm, -⟩ := hv.at
  clear hv hok hun
  go_enter Tryz.func39, Tryz.ntmps39
  go_wp2_with (go_at_call 60; refine (writers_call _ ts w HV.out HOK.out).mono ?_; rintro e0 w1 ⟨rfl, hby, hla, hb1⟩; have HBY := Lib.hid hby; have HLA := Lib.hid hla; have HB1 := Lib.hid hb1; clear hby hla hb1)
  have hm0 : w.heap.size < w1.heap.size := HBY.out.lt
  have hm1 : w.heap.size + 1 < w1.heap.size := HLA.out.lt
  go_loopw [5, 20] (fun x i wr => ∃ k : Nat, k ≤ ts.length ∧ i = .int .i64 k ∧ Hid (OwFw w1.heap.size wr x ((ts.take k).zipIdx.flatMap (flawT ts)) ∧ Below w1.heap.size w1 wr ∧ ((ts.take k).zipIdx.flatMap (flawT ts)).length ≤ k * 1048576)) (fun _ i _ => ts.length - (intOf i).toNat)
  case atStart => exact ⟨0, Nat.zero_le _, rfl, Lib.hid ⟨World.ownsRow_nil _ _ _ _, Below.refl _ _, by simp⟩⟩
  case round =>
    obtain ⟨wj, rfl⟩ : ∃ wj : World, wj = wr := ⟨_, rfl⟩
    obtain ⟨k, hk, rfl, HJ⟩ := hrel
    obtain ⟨F0, hF0⟩ : ∃ F0, F0 = (ts.take k).zipIdx.flatMap (flawT ts) := ⟨_, rfl⟩
    have HF0 := Lib.hid hF0
    rw [← hF0] at HJ
    obtain ⟨ax, cx, rfl⟩ := Gr.own_shape (show World.ownsRow _ _ _ _ _ F0.length _ from HJ.out.1)
    by_cases hlt : k < ts.length
    · have k1 : decide ((k : Int) < ts.length) = true := decide_eq_true (by omega)
      have k2 : (k : Int) < ts.length := by omega
      have k3 : (0 : Int) ≤ (k : Int) := by omega
      have hwk : IntKind.i64.wrap ((k : Int) + 1) = (k : Int) + 1 := IntWalk.i64_in _ (by omega)
      obtain ⟨t, ht⟩ := some_at hlt
      obtain ⟨_, _, _, e5, -, -, hcl⟩ := (HV.out.later (HB1.out.trans (HJ.out.2.1.mono HB1.out.size))).at
      cases e5
      obtain ⟨gb, off, oa, oc, rfl, hr, c0, c1, c2⟩ := hcl k t ht
      have HRO := Lib.hid hr
      have hok2 := (HOK.out.2 t (List.mem_of_getElem? ht)).2
      have HOKT := Lib.hid (HOK.out.2 t (List.mem_of_getElem? ht)).1
      have HNX := Lib.hid (show (ts.take (k + 1)).zipIdx.flatMap (flawT ts) = F0 ++ (readsM t).zipIdx.flatMap (flaw1 ts k) from by rw [zip_take ht, List.flatMap_append, hF0]; simp [flawT])
      have HRL := Lib.hid (show (readsM t).length ≤ 1048576 from by
        have h1 : (readsM t).length ≤ t.ops.length := by
          unfold readsM; split
          · exact readsS_le _
          · simp
        omega)
      have HF0L := Lib.hid (show F0.length ≤ 4294967296 from by
        have h1 := HJ.out.2.2
        have h2 := Nat.mul_le_mul_right 1048576 (show k ≤ 4096 by omega)
        omega)
      have HLK := Lib.hid HJ.out.2.2
      have HOF := Lib.hid HJ.out.1
      have HBJ := Lib.hid HJ.out.2.1
      have hBt := (Below.refl wj.heap.size wj).alloc (Nat.le_refl _) (.cells #[vi t.client, vi t.state, .slice oa t.ops.length oc] 49)
      have HRT := Lib.hid (HRO.out.later hBt)
      have HOT := Lib.hid (own_below HOF.out hBt)
      have HBT := Lib.hid (HBJ.out.trans (hBt.mono HBJ.out.size))
      clear hcl ht hr hF0 HJ hBt
      go_wp2_with (go_at_call 61; refine (reads_call t.client t.state _ t.ops _ HRT.out HOKT.out hok2).mono ?_; rintro e2 w2 ⟨v2, rfl, ho2, hb2⟩; have HR2 := Lib.hid (own_mono ho2 HBT.out.size); obtain ⟨a1, n1, c1', rfl, e9, -, -⟩ := ho2.rd.at; subst e9; have HB2 := Lib.hid (HBT.out.trans (hb2.mono HBT.out.size)); have HO2 := Lib.hid (own_below HOT.out hb2); clear ho2 hb2)
      have HOKR := Lib.hid (show ∀ o ∈ readsM t, i64 o.key ∧ i64 o.val from fun o ho => by
        have := HOKT.out o (readsM_mem ho)
        exact ⟨this.2.1, this.2.2⟩)
      obtain ⟨rs, hrs⟩ : ∃ rs, rs = readsM t := ⟨_, rfl⟩
      have hrl : rs.length ≤ 1048576 := by rw [hrs]; exact HRL.out
      have HR3 := Lib.hid (show OwOps w1.heap.size w2 (.slice a1 rs.length c1') rs from by rw [hrs]; exact HR2.out)
      rw [show (readsM ⟨t.client, t.state, t.ops⟩).length = rs.length from by rw [hrs]]
      rw [← hrs] at HNX HOKR
      clear hrs c0 c1 c2 HR2
      go_loopw [5, 28] (fun x i wr => ∃ j : Nat, j ≤ rs.length ∧ i = .int .i64 j ∧ Hid (OwFw w1.heap.size wr x (F0 ++ (rs.take j).zipIdx.flatMap (flaw1 ts k)) ∧ OwOps w1.heap.size wr (.slice a1 rs.length c1') rs ∧ Below w1.heap.size w1 wr)) (fun _ i _ => rs.length - (intOf i).toNat)
      case atStart => exact ⟨0, Nat.zero_le _, rfl, Lib.hid ⟨by have h := HO2.out; unfold OwFw; simpa using h, HR3.out, HB2.out⟩⟩
      case round =>
        obtain ⟨wq, rfl⟩ : ∃ wq : World, wq = wr := ⟨_, rfl⟩
        obtain ⟨j, hj, rfl, HQ⟩ := hrel
        obtain ⟨F1, hF1⟩ : ∃ F1, F1 = F0 ++ (rs.take j).zipIdx.flatMap (flaw1 ts k) := ⟨_, rfl⟩
        have HF1 := Lib.hid hF1
        rw [← hF1] at HQ
        have hf1l : F1.length ≤ 4294967296 + 1048576 := by
          have h1 := flatMap_le 1 (flaw1_len ts k) (rs.take j).zipIdx
          have h2 : (rs.take j).zipIdx.length ≤ rs.length := by simp; omega
          have h3 := HF0L.out
          rw [hF1, List.length_append]; omega
        obtain ⟨aq, cq, rfl⟩ := Gr.own_shape (show World.ownsRow _ _ _ _ _ F1.length _ from HQ.out.1)
        have HO := Lib.hid (show wq.ownsRow w1.heap.size 32 3 _ F1.length (F1.flatMap flV) from HQ.out.1)
        have HRq := Lib.hid HQ.out.2.1
        have HBq := Lib.hid HQ.out.2.2
        clear HQ hF1
        by_cases hltq : j < rs.length
        · have j1 : decide ((j : Int) < rs.length) = true := decide_eq_true (by omega)
          have j2 : (j : Int) < rs.length := by omega
          have hwj : IntKind.i64.wrap ((j : Int) + 1) = (j : Int) + 1 := IntWalk.i64_in _ (by omega)
          obtain ⟨o, ho⟩ := some_at hltq
          obtain ⟨_, _, _, e5, -, -, hcl⟩ := HRq.out.rd.at
          cases e5
          obtain ⟨b, off', rfl, y0, y1, y2⟩ := hcl j o ho
          have HNY := Lib.hid (show (rs.take (j + 1)).zipIdx.flatMap (flaw1 ts k) = (rs.take j).zipIdx.flatMap (flaw1 ts k) ++ flaw1 ts k (o, j) from by rw [zip_take ho, List.flatMap_append]; simp)
          obtain ⟨kl, hkl⟩ := placeKey (HOKR.out o (List.mem_of_getElem? ho)).1 (HOKR.out o (List.mem_of_getElem? ho)).2
          have HKL := Lib.hid hkl
          have hBo := (Below.refl wq.heap.size wq).alloc (Nat.le_refl _) (.cells #[vi o.kind, vi o.key, vi o.val] 51)
          have HX := Lib.hid (alloc_at wq (.cells #[vi o.kind, vi o.key, vi o.val] 51))
          have HOa := Lib.hid (own_below HO.out hBo)
          have HRa := Lib.hid (HRq.out.laterD hBo)
          have HBa := Lib.hid (HBq.out.trans (hBo.mono HBq.out.size))
          clear hcl ho hBo hkl
          go_upto_region 9 with fail
          clear y0 y1 y2
          generalize wq.alloc (.cells #[vi o.kind, vi o.key, vi o.val] 51) = wa at *
          obtain ⟨ob, hob⟩ : ∃ ob, ob = wq.heap.size := ⟨_, rfl⟩
          rw [← hob] at HX ⊢
          clear hob
          have x1 : wa.cell? ⟨ob, 1, none⟩ = some (vi o.key) := by rw [cell_of HX.out]; rfl
          have x2 : wa.cell? ⟨ob, 2, none⟩ = some (vi o.val) := by rw [cell_of HX.out]; rfl
          by_cases hv0 : o.val = 0
          · have d0 : (o.val == 0) = true := by simp [hv0]
            have HE := Lib.hid (show flawK ts k o = 0 from by unfold flawK; rw [if_pos hv0])
            have HO6 := HOa
            have HR6 := HRa
            have HB6 := HBa
            clear hv0
            have HN1 := Lib.hid (show flaw1 ts k (o, j) = [] from by unfold flaw1; simp only [HE.out]; rw [if_neg (by decide)])
            go_wp2_with fail
            exact ⟨⟨j + 1, by omega, by go_num, Lib.hid ⟨by rw [HNY.out, HN1.out, List.append_nil, ← HF1.out]; exact HO6.out, HR6.out, HB6.out⟩⟩, by simp only [intOf]; omega⟩
          · have d0 : (o.val == 0) = false := by simp [hv0]
            have HV0 := Lib.hid hv0
            clear hv0
            have hBp := (Below.refl wa.heap.size wa).alloc (Nat.le_refl _) (.cells #[vi o.key, vi o.val] 127)
            have HXp := Lib.hid (alloc_at wa (.cells #[vi o.key, vi o.val] 127))
            have HO6 := Lib.hid (own_below HOa.out hBp)
            have HR6 := Lib.hid (HRa.out.laterD hBp)
            have HB6 := Lib.hid (HBa.out.trans (hBp.mono HBa.out.size))
            clear hBp
            go_upto_region 11 with fail
            clear x1 x2
            generalize wa.alloc (.cells #[vi o.key, vi o.val] 127) = wb at *
            obtain ⟨pb, hpb⟩ : ∃ pb, pb = wa.heap.size := ⟨_, rfl⟩
            rw [← hpb] at HXp ⊢
            clear hpb
            have x0 : wb.cell? ⟨pb, 0, none⟩ = some (vi o.key) := by rw [cell_of HXp.out]; rfl
            have x1 : wb.cell? ⟨pb, 1, none⟩ = some (vi o.val) := by rw [cell_of HXp.out]; rfl
            have hlk := (MapT.lookup placeKeyed vp_inj (t := 122) (e := 3) Tryz.underlying122 (HBY.out.below HB6.out hm0) (o.key, o.val) HKL.out (zeroI wb)).2
            have hll : (Instr.lookup 123 (.map (some (w.heap.size + 1))) (vp (o.key, o.val)) false).run Tryz.prog wb = .ok (.bool ((getM (laN ts ts.length) (o.key, o.val)).getD false)) wb := by
              rw [(MapT.lookup placeKeyed vp_inj (t := 123) (e := 4) Tryz.underlying123 (HLA.out.below HB6.out hm1) (o.key, o.val) HKL.out (zeroB wb)).1]
              cases getM (laN ts ts.length) (o.key, o.val) <;> rfl
            rcases by_writer2 HUN.out o.key o.val with ⟨g1, g2⟩ | ⟨n, u, hu, g1, g2, g3⟩
            · have HE := Lib.hid (show flawK ts k o = 1 from by unfold flawK; rw [if_neg HV0.out, g2, if_pos (.inl (by omega))])
              rw [g1] at hlk
              simp only [Option.map_none, Option.getD_none, Option.isSome_none] at hlk
              clear g1 g2 hll
              have HN1 := Lib.hid (show flaw1 ts k (o, j) = [((k : Int), (j : Int), 1)] from by unfold flaw1; simp only [HE.out]; rw [if_pos (by decide)])
              go_wp2_with (at_builtin; refine wpList_append_src rfl _ _ 83 rfl eltFw w1.heap.size F1.length _ (World.ownsRow.alloc HO6.out _) rfl 1 (flV ((k : Int), (j : Int), 1)) (src_new (cs := #[vi k, vi j, vi 1]) rfl rfl) rfl (flV_one _) (by omega) (by omega) (by have := HB6.out.size; simp; omega) ?_; intro v7 w7 ho7 hg7 _; have HO7 := Lib.hid ho7; have HR7 := Lib.hid (rows_kept (World.ownsRow.alloc HR6.out _) (World.ownsRow.alloc HO6.out _) (by decide) hg7); have HB7 := Lib.hid ((HB6.out.alloc HB6.out.size _).grown hg7 (by have := HB6.out.size; simp; omega) (fun j hj => (World.ownsRow.lt HO6.out j hj).1)); clear ho7 hg7)
              exact ⟨⟨j + 1, by omega, by go_num, Lib.hid ⟨by rw [HNY.out, HN1.out, ← List.append_assoc, ← HF1.out]; unfold OwFw; have h := HO7.out; simpa using h, HR7.out, HB7.out⟩⟩, by simp only [intOf]; omega⟩
            · have hn : n < ts.length := (List.getElem?_eq_some_iff.1 hu).1
              rw [g1] at hlk
              rw [g3] at hll
              simp only [Option.map_some, Option.getD_some, Option.isSome_some] at hlk
              have n1 : (n : Int) < ts.length := by omega
              by_cases hnk : n = k
              · have d2 : ((n : Int) == (k : Int)) = true := by simp [hnk]
                have HE := Lib.hid (show flawK ts k o = 1 from by unfold flawK; rw [if_neg HV0.out, g2, if_pos (.inr (by omega))])
                clear hnk g1 g2 g3 hll hu
                have HN1 := Lib.hid (show flaw1 ts k (o, j) = [((k : Int), (j : Int), 1)] from by unfold flaw1; simp only [HE.out]; rw [if_pos (by decide)])
                go_wp2_with (at_builtin; refine wpList_append_src rfl _ _ 83 rfl eltFw w1.heap.size F1.length _ (World.ownsRow.alloc HO6.out _) rfl 1 (flV ((k : Int), (j : Int), 1)) (src_new (cs := #[vi k, vi j, vi 1]) rfl rfl) rfl (flV_one _) (by omega) (by omega) (by have := HB6.out.size; simp; omega) ?_; intro v7 w7 ho7 hg7 _; have HO7 := Lib.hid ho7; have HR7 := Lib.hid (rows_kept (World.ownsRow.alloc HR6.out _) (World.ownsRow.alloc HO6.out _) (by decide) hg7); have HB7 := Lib.hid ((HB6.out.alloc HB6.out.size _).grown hg7 (by have := HB6.out.size; simp; omega) (fun j hj => (World.ownsRow.lt HO6.out j hj).1)); clear ho7 hg7)
                exact ⟨⟨j + 1, by omega, by go_num, Lib.hid ⟨by rw [HNY.out, HN1.out, ← List.append_assoc, ← HF1.out]; unfold OwFw; have h := HO7.out; simpa using h, HR7.out, HB7.out⟩⟩, by simp only [intOf]; omega⟩
              · have d2 : ((n : Int) == (k : Int)) = false := by simp; omega
                have HFK := Lib.hid (show flawK ts k o = if u.state = 2 then 2 else if finalB u o.key o.val then 0 else 3 from by
                  unfold flawK
                  rw [if_neg HV0.out, g2, if_neg (by omega), Int.toNat_natCast, hu])
                obtain ⟨_, _, _, e7, -, -, hcl⟩ := (HV.out.later (HB1.out.trans (HB6.out.mono HB1.out.size))).at
                cases e7
                obtain ⟨gb', off2, oa', oc', e8, -, z0, z1, z2⟩ := hcl n u hu
                cases e8
                clear hnk g1 g2 g3 hu hcl
                by_cases hs2 : u.state = 2
                · have d3 : (u.state == 2) = true := by simp [hs2]
                  have HE := Lib.hid (show flawK ts k o = 2 from by rw [HFK.out, if_pos hs2])
                  clear hs2 hll
                  have HN1 := Lib.hid (show flaw1 ts k (o, j) = [((k : Int), (j : Int), 2)] from by unfold flaw1; simp only [HE.out]; rw [if_pos (by decide)])
                  go_wp2_with (at_builtin; refine wpList_append_src rfl _ _ 83 rfl eltFw w1.heap.size F1.length _ (World.ownsRow.alloc HO6.out _) rfl 1 (flV ((k : Int), (j : Int), 2)) (src_new (cs := #[vi k, vi j, vi 2]) rfl rfl) rfl (flV_one _) (by omega) (by omega) (by have := HB6.out.size; simp; omega) ?_; intro v7 w7 ho7 hg7 _; have HO7 := Lib.hid ho7; have HR7 := Lib.hid (rows_kept (World.ownsRow.alloc HR6.out _) (World.ownsRow.alloc HO6.out _) (by decide) hg7); have HB7 := Lib.hid ((HB6.out.alloc HB6.out.size _).grown hg7 (by have := HB6.out.size; simp; omega) (fun j hj => (World.ownsRow.lt HO6.out j hj).1)); clear ho7 hg7)
                  exact ⟨⟨j + 1, by omega, by go_num, Lib.hid ⟨by rw [HNY.out, HN1.out, ← List.append_assoc, ← HF1.out]; unfold OwFw; have h := HO7.out; simpa using h, HR7.out, HB7.out⟩⟩, by simp only [intOf]; omega⟩
                · have d3 : (u.state == 2) = false := by simp [hs2]
                  have HF2 := Lib.hid (show flawK ts k o = if finalB u o.key o.val then 0 else 3 from by rw [HFK.out, if_neg hs2])
                  clear hs2
                  cases hfb : finalB u o.key o.val with
                  | true =>
                    rw [hfb] at hll
                    have HE := Lib.hid (show flawK ts k o = 0 from by rw [HF2.out, hfb]; rfl)
                    clear hfb
                    have HN1 := Lib.hid (show flaw1 ts k (o, j) = [] from by unfold flaw1; simp only [HE.out]; rw [if_neg (by decide)])
                    go_wp2_with fail
                    exact ⟨⟨j + 1, by omega, by go_num, Lib.hid ⟨by rw [HNY.out, HN1.out, List.append_nil, ← HF1.out]; exact HO6.out, HR6.out, HB6.out⟩⟩, by simp only [intOf]; omega⟩
                  | false =>
                    rw [hfb] at hll
                    have HE := Lib.hid (show flawK ts k o = 3 from by rw [HF2.out, hfb]; rfl)
                    clear hfb
                    have HN1 := Lib.hid (show flaw1 ts k (o, j) = [((k : Int), (j : Int), 3)] from by unfold flaw1; simp only [HE.out]; rw [if_pos (by decide)])
                    go_wp2_with (at_builtin; refine wpList_append_src rfl _ _ 83 rfl eltFw w1.heap.size F1.length _ (World.ownsRow.alloc HO6.out _) rfl 1 (flV ((k : Int), (j : Int), 3)) (src_new (cs := #[vi k, vi j, vi 3]) rfl rfl) rfl (flV_one _) (by omega) (by omega) (by have := HB6.out.size; simp; omega) ?_; intro v7 w7 ho7 hg7 _; have HO7 := Lib.hid ho7; have HR7 := Lib.hid (rows_kept (World.ownsRow.alloc HR6.out _) (World.ownsRow.alloc HO6.out _) (by decide) hg7); have HB7 := Lib.hid ((HB6.out.alloc HB6.out.size _).grown hg7 (by have := HB6.out.size; simp; omega) (fun j hj => (World.ownsRow.lt HO6.out j hj).1)); clear ho7 hg7)
                    exact ⟨⟨j + 1, by omega, by go_num, Lib.hid ⟨by rw [HNY.out, HN1.out, ← List.append_assoc, ← HF1.out]; unfold OwFw; have h := HO7.out; simpa using h, HR7.out, HB7.out⟩⟩, by simp only [intOf]; omega⟩
        · have j1 : decide ((j : Int) < rs.length) = false := decide_eq_false (by omega)
          have HFN := Lib.hid (show OwFw w1.heap.size wq (.slice aq F1.length cq) ((ts.take (k + 1)).zipIdx.flatMap (flawT ts)) from by
            have hje : j = rs.length := by omega
            have h2 : (ts.take (k + 1)).zipIdx.flatMap (flawT ts) = F1 := by rw [HNX.out, HF1.out, hje, List.take_length]
            rw [h2]; exact HO.out)
          have HLN := Lib.hid (show ((ts.take (k + 1)).zipIdx.flatMap (flawT ts)).length ≤ (k + 1) * 1048576 from by
            have h1 := flatMap_le 1 (flaw1_len ts k) rs.zipIdx
            have h2 : rs.zipIdx.length = rs.length := by simp
            have h3 := HLK.out
            rw [HNX.out, List.length_append, Nat.add_mul, Nat.one_mul]; omega)
          go_wp2_with fail
          exact ⟨⟨k + 1, by omega, by go_num, Lib.hid ⟨HFN.out, HBq.out, HLN.out⟩⟩, by simp only [intOf]; omega⟩
    · have k1 : decide ((k : Int) < ts.length) = false := decide_eq_false (by omega)
      have HFN := Lib.hid (show OwFw w1.heap.size wj (.slice ax F0.length cx) (flawsM ts) from by
        have hke : k = ts.length := by omega
        have h2 : F0 = flawsM ts := by rw [HF0.out, hke, List.take_length]; rfl
        rw [← h2]; exact HJ.out.1)
      have HBF := Lib.hid HJ.out.2.1
      clear HJ
      go_wp2_with fail
      go_ret
      exact ⟨_, rfl, own_mono HFN.out HB1.out.size, HB1.out.trans (HBF.out.mono HB1.out.size)⟩
end Go.Proofs.YtnacoplokjdglaaGreat

namespace Go.Proofs.YtnacoplokjdglaaGreat
open Go.RowKit Go.Maps
section
variable {ts : List GTxn} {level B : Int} {N : Nat} {W : World} {k s : Int} {f : Int × Int × Int} {tr dn od : Value}
end
/-! The example. -/
def skA : List GOp := [⟨1, 0, 0⟩, ⟨2, 1, 1⟩]
def skB : List GOp := [⟨1, 1, 0⟩, ⟨2, 0, 2⟩]
def skewEv : List GEvent := [⟨1, 1, skA⟩, ⟨1, 2, skB⟩, ⟨2, 1, skA⟩, ⟨2, 2, skB⟩]
theorem skA_op (k : Int) : ∀ o ∈ skA, RightOp k o := by
  intro o ho
  simp [skA] at ho
  rcases ho with rfl | rfl <;> exact ⟨⟨by decide, by decide, by decide, by decide, by decide⟩, by decide, fun _ _ => by first | rfl | contradiction⟩
theorem skB_op (k : Int) : ∀ o ∈ skB, RightOp k o := by
  intro o ho
  simp [skB] at ho
  rcases ho with rfl | rfl <;> exact ⟨⟨by decide, by decide, by decide, by decide, by decide⟩, by decide, fun _ _ => by first | rfl | contradiction⟩
theorem skew_right {k c : Int} {l : List GOp} (hk : k = 1 ∨ k = 2) (hc : c = 1 ∨ c = 2) (hl : l = skA ∨ l = skB) : RightEv ⟨k, c, l⟩ := by
  have ho : ∀ o ∈ l, RightOp k o := by rcases hl with rfl | rfl; exact skA_op k; exact skB_op k
  refine ⟨⟨by show 1 ≤ k; omega, by show k ≤ 4; omega, by show 1 ≤ c; omega, by show c ≤ 16; omega, ?_, fun o h => (ho o h).good⟩, fun _ => ?_, ho⟩
  · show l.length ≤ 12; rcases hl with rfl | rfl <;> decide
  · rcases hl with rfl | rfl <;> simp [skA, skB]
theorem skew_ans {l : List GOp} (hl : l = skA ∨ l = skB) : AnsOK l l := by
  refine ⟨rfl, shapeN_refl _ _, fun i o v hi ho h2 hv => ?_⟩
  match i with
  | 0 => simp [lstW] at hv
  | 1 =>
    rcases hl with rfl | rfl <;> (simp [skA, skB] at ho; subst ho; exact absurd rfl h2)
  | i + 2 => rcases hl with rfl | rfl <;> (simp [skA, skB] at hi; omega)
theorem skew_hist : histH skewEv = some skewT := by
  have s1 : stepH hst0 ⟨1, 1, skA⟩ = some ⟨[⟨1, 0, skA⟩], [(1, 0)], [(1, true)]⟩ := by
    rw [stepH_new (skew_right (.inl rfl) (.inl rfl) (.inl rfl)) rfl rfl]; rfl
  have s2 : stepH ⟨[⟨1, 0, skA⟩], [(1, 0)], [(1, true)]⟩ ⟨1, 2, skB⟩ = some ⟨[⟨1, 0, skA⟩, ⟨2, 0, skB⟩], [(1, 0), (2, 1)], [(1, true), (2, true)]⟩ := by
    rw [stepH_new (skew_right (.inl rfl) (.inr rfl) (.inr rfl)) (by decide) rfl]; rfl
  have s3 : stepH ⟨[⟨1, 0, skA⟩, ⟨2, 0, skB⟩], [(1, 0), (2, 1)], [(1, true), (2, true)]⟩ ⟨2, 1, skA⟩ = some ⟨[⟨1, 1, skA⟩, ⟨2, 0, skB⟩], [(2, 1)], [(1, true), (2, true)]⟩ := by
    rw [stepH_end (k := 0) (t := ⟨1, 0, skA⟩) (skew_right (.inr rfl) (.inl rfl) (.inl rfl)) (by decide) (by decide) rfl (by unfold EndOK; rw [if_pos rfl]; exact skew_ans (.inl rfl))]; rfl
  have s4 : stepH ⟨[⟨1, 1, skA⟩, ⟨2, 0, skB⟩], [(2, 1)], [(1, true), (2, true)]⟩ ⟨2, 2, skB⟩ = some ⟨[⟨1, 1, skA⟩, ⟨2, 1, skB⟩], [], [(1, true), (2, true)]⟩ := by
    rw [stepH_end (k := 1) (t := ⟨2, 0, skB⟩) (skew_right (.inr rfl) (.inr rfl) (.inr rfl)) (by decide) (by decide) rfl (by unfold EndOK; rw [if_pos rfl]; exact skew_ans (.inr rfl))]; rfl
  unfold histH skewEv
  simp only [runH, s1, s2, s3, s4, Option.bind_some, Option.map_some]
  rfl
theorem skew_flaws : flawsM skewT = [] := by decide
end Go.Proofs.YtnacoplokjdglaaGreat

namespace Go.Proofs.YtnacoplokjdglaaGreat
open Go.RowKit Go.Maps

theorem sure_alive {ts : List GTxn} (hu : Uniq ts) {i : Nat} (h : (sureM ts)[i]?.getD false = true) : stOf ts i ≠ 2 := by
  intro h2
  by_cases hi : i < ts.length
  · unfold sureM at h
    rw [sureN_at hu i hi _ (Nat.le_refl _), h2] at h
    simp only [show ((2 : Int) == 1) = false from rfl, Bool.and_false, Bool.false_or, List.any_eq_true] at h
    obtain ⟨t, _, h3⟩ := h
    unfold hitT at h3
    simp only [List.any_eq_true] at h3
    obtain ⟨o, _, h4⟩ := h3
    unfold hitS at h4
    rw [show ((2 : Int) == 0) = false from rfl] at h4
    simp at h4
  · rw [List.getElem?_eq_none (by rw [sureM_length]; omega)] at h
    cases h
theorem is_alive {ts : List GTxn} (hu : Uniq ts) {F : FaL} {i : Nat} (h : (isM ts F i).1 = true) : stOf ts i ≠ 2 := by
  unfold isM at h
  split at h
  · rename_i h1; exact sure_alive hu h1
  · split at h
    · cases h
    · rename_i h1
      intro h2
      apply h1
      unfold deadB
      rw [h2]; rfl
theorem FixF.alive {ts : List GTxn} {dn : List Bool} {O : OrdL} {F : FaL} (hu : Uniq ts) (h : FixF ts dn O F) {key : Nat} (hk : key < 16) {x : Int} (hx : x ∈ ordL O key) : ∃ i : Nat, x = i ∧ i < ts.length ∧ wrOf ts i key = true ∧ stOf ts i ≠ 2 := by
  have h1 : x ∈ wantL ts dn key ts.length := by rw [← h.good key hk]; exact (srt_perm _).mem_iff.2 hx
  obtain ⟨i, hi, rfl, h2⟩ := wantL_mem.1 h1
  rw [Bool.and_eq_true] at h2
  exact ⟨i, rfl, hi, h2.2, is_alive hu ((h.fits i hi).trans h2.1)⟩
theorem befK_in {ts : List GTxn} {key a b : Nat} (hk : key < 16) (hab : a < b) (hb : b < ts.length) (h : condB ts key a b = true) : (⟨2, key, a, b⟩ : GChoice) ∈ choicesM ts := by
  unfold choicesM
  refine List.mem_append_right _ ?_
  unfold befK
  refine List.mem_flatMap.2 ⟨key, List.mem_range.2 hk, ?_⟩
  unfold befB
  refine List.mem_flatMap.2 ⟨b, List.mem_range.2 hb, ?_⟩
  unfold befA
  exact List.mem_filterMap.2 ⟨a, List.mem_range.2 hab, by rw [if_pos h]⟩
theorem get_mem {F : FaL} {p : GChoice × Bool} (hp : p ∈ F) (hn : F.Pairwise (fun p q => p.1 ≠ q.1)) : getM F p.1 = some p.2 := by
  induction F with
  | nil => cases hp
  | cons q F ih =>
    rw [getM_cons]
    rcases List.mem_cons.1 hp with h | h
    · subst h; rw [if_pos rfl]
    · rw [if_neg ((List.pairwise_cons.1 hn).1 p h)]
      exact ih h (List.pairwise_cons.1 hn).2
theorem FixF.faOk {ts : List GTxn} {dn : List Bool} {O : OrdL} {F : FaL} (hu : Uniq ts) (h : FixF ts dn O F) (hn : F.Pairwise (fun p q => p.1 ≠ q.1)) : FaOk ts F := by
  refine ⟨fun p hp => ?_, by rw [List.nodup_iff_pairwise_ne, List.pairwise_map]; exact hn⟩
  have hg := get_mem hp hn
  by_cases hk : p.1.kind = 1
  · rw [h.one _ hk] at hg
    split at hg
    · assumption
    · cases hg
  · obtain ⟨key, h1, x, y, hx, hy, hxy, he⟩ := h.nox _ _ hk hg
    obtain ⟨i, rfl, hi, wi, si⟩ := h.alive hu h1 hx
    obtain ⟨j, rfl, hj, wj, sj⟩ := h.alive hu h1 hy
    rw [he]
    have hij : i ≠ j := fun e => hxy (by rw [e])
    have c : ∀ {a b : Nat}, wrOf ts a key = true → stOf ts a ≠ 2 → wrOf ts b key = true → stOf ts b ≠ 2 → condB ts key a b = true := fun wa sa wb sb => by
      unfold condB
      rw [wa, wb, bne_iff_ne.2 sa, bne_iff_ne.2 sb]; rfl
    rcases Nat.lt_or_gt_of_ne hij with h2 | h2
    · rw [show min (i : Int) j = i by omega, show max (i : Int) j = j by omega]
      exact befK_in h1 h2 hj (c wi si wj sj)
    · rw [show min (i : Int) j = j by omega, show max (i : Int) j = i by omega]
      exact befK_in h1 h2 hi (c wj sj wi si)
/-- A Pass is shown. -/
def passB (ts : List GTxn) (level : Int) (dn : List Bool) (O : OrdL) : Prop := ∃ F, FixF ts dn O F ∧ F.Pairwise (fun p q => p.1 ≠ q.1) ∧ flawsM ts = [] ∧ ¬ Brk ts F level
theorem passB_of {ts : List GTxn} {level : Int} {dn : List Bool} {O : OrdL} {F : FaL} (h : FixF ts dn O F) (hn : F.Pairwise (fun p q => p.1 ≠ q.1)) (hf : flawsM ts = []) : passB ts level dn O ↔ ¬ Brk ts F level :=
  ⟨fun ⟨_, h1, h2, _, h3⟩ hb => h3 ((brk_same hn h2 (fun c => h.same h1 c)).1 hb), fun hb => ⟨F, h, hn, hf, hb⟩⟩
end Go.Proofs.YtnacoplokjdglaaGreat

namespace Go.Proofs.YtnacoplokjdglaaGreat
open Go.RowKit Go.Maps
section
variable {ts : List GTxn} {level : Int} {F : FaL}
theorem want_sorted (dn : List Bool) (key : Int) : ∀ n, (wantL ts dn key n).Pairwise (fun x y => x ≤ y) := by
  intro n
  induction n with
  | zero => simp [wantL]
  | succ n ih =>
    rw [wantL_succ, List.pairwise_append]
    refine ⟨ih, by split <;> simp, fun x hx y hy => ?_⟩
    obtain ⟨i, h1, rfl, _⟩ := wantL_mem.1 hx
    split at hy
    · simp at hy; subst hy; omega
    · simp at hy
theorem srt_is {dn : List Bool} {key : Int} {n : Nat} {l : List Int} (h : l.Perm (wantL ts dn key n)) : srt l = wantL ts dn key n :=
  ((srt_perm l).trans h).eq_of_pairwise (fun a b _ _ h1 h2 => by omega) (srt_sorted l) (want_sorted dn key n)
end
end Go.Proofs.YtnacoplokjdglaaGreat
