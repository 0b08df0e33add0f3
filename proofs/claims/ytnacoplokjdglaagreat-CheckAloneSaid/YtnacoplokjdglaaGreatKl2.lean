/- Texts of one proof, one behind the other: AnswerE, OfE, CkH, CkHd, CkL0. -/
import Derived.Test.YtnacoplokjdglaaGreatKe1
import Derived.Test.YtnacoplokjdglaaGreatKe2
import Derived.Test.YtnacoplokjdglaaGreatKe3
import Derived.Test.YtnacoplokjdglaaGreatKe4
import Derived.Test.YtnacoplokjdglaaGreatKe5
import Derived.Test.YtnacoplokjdglaaGreatKe6
import Derived.Test.YtnacoplokjdglaaGreatKe7
import Derived.Test.YtnacoplokjdglaaGreatKe8
import Derived.Test.YtnacoplokjdglaaGreatKe9
import Derived.Test.YtnacoplokjdglaaGreatKe10
import Derived.Test.YtnacoplokjdglaaGreatKe11
import Derived.Test.YtnacoplokjdglaaGreatKe12
import Derived.Test.YtnacoplokjdglaaGreatKe13
import Derived.Test.YtnacoplokjdglaaGreatKe14
import Derived.Test.YtnacoplokjdglaaGreatKe15
import Derived.Test.YtnacoplokjdglaaGreatKe16
import Derived.Test.YtnacoplokjdglaaGreatKe17
import Derived.Test.YtnacoplokjdglaaGreatKe18
import Derived.Test.YtnacoplokjdglaaGreatKe19
import Derived.Test.YtnacoplokjdglaaGreatKe20
import Derived.Test.YtnacoplokjdglaaGreatKe21
import Derived.Test.YtnacoplokjdglaaGreatKe22
import Derived.Test.YtnacoplokjdglaaGreatKe23
import Derived.Test.YtnacoplokjdglaaGreatKl1
set_option linter.all false
namespace Go.Proofs.YtnacoplokjdglaaGreat
open Go.RowKit Go.Maps
/-- What crucibleref05.answer answers, exactly. -/
def AnswerQE (l m : List GOp) (w : World) (r : Ending) (w' : World) : Prop := ∃ n : Int, r = .returned (.int .i64 n) ∧ (n = 0 ↔ AnsOK l m) ∧ Below w.heap.size w w'
theorem AnswerQE.bad {l m : List GOp} {w w' : World} {r : Ending} {n : Int} (h : r = .returned (.int .i64 n)) (hn : n ≠ 0) (hno : ¬ AnsOK l m) (hb : Below w.heap.size w w') : AnswerQE l m w r w' := ⟨n, h, ⟨fun h => absurd h hn, fun h => absurd h hno⟩, hb⟩
theorem AnswerQE.good {l m : List GOp} {w w' : World} {r : Ending} (h : r = .returned (.int .i64 0)) (hl : l.length = m.length) (hs : ShapeN l m m.length) (ho : OwnN m m.length) (hb : Below w.heap.size w w') : AnswerQE l m w r w' := ⟨0, h, ⟨fun _ => ⟨hl, hs, ho⟩, fun _ => rfl⟩, hb⟩
/-- No write of this key behind place z and ahead of place i. -/
def NoWr (m : List GOp) (i : Nat) (key z : Int) : Prop := ∀ (j : Nat) (q : GOp), z < j → j < i → m[j]? = some q → q.kind = 2 → q.key ≠ key
theorem noWr_none {m : List GOp} {key : Int} : ∀ {i : Nat}, i ≤ m.length → NoWr m i key (-1) → lstW (m.take i) key = none := by
  intro i
  induction i with
  | zero => intro _ _; simp [lstW]
  | succ i ih =>
    intro hi h
    obtain ⟨q, hq⟩ := some_at (l := m) (k := i) (by omega)
    rw [take_at hq, lstW_snoc, if_neg (fun hc => h i q (by omega) (by omega) hq hc.1 hc.2)]
    exact ih (by omega) fun j q h1 h2 => h j q h1 (by omega)
theorem noWr_some {m : List GOp} {key : Int} {k : Nat} {q : GOp} (hq : m[k]? = some q) (h2 : q.kind = 2) (hk : q.key = key) : ∀ {i : Nat}, k < i → i ≤ m.length → NoWr m i key k → lstW (m.take i) key = some q.val := by
  intro i
  induction i with
  | zero => intro h; omega
  | succ i ih =>
    intro hki hi h
    obtain ⟨p, hp⟩ := some_at (l := m) (k := i) (by omega)
    rw [take_at hp, lstW_snoc]
    by_cases hik : i = k
    · subst hik
      rw [hq] at hp; cases hp
      rw [if_pos ⟨h2, hk⟩]
    · rw [if_neg (fun hc => h i p (by omega) (by omega) hp hc.1 hc.2)]
      exact ih (by omega) (by omega) fun j q h1 h2 => h j q h1 (by omega)

set_option maxRecDepth 100000 in
set_option maxHeartbeats 8000000 in
theorem answer_callE (v u : Value) (l m : List GOp) (w : World) (hv : RdOps w v l) (hu : RdOps w u m) :
    Calls Tryz.prog 34 #[v, u] w (AnswerQE l m w) := by
  have HV := Lib.hid hv
  have HU := Lib.hid hu
  obtain ⟨a, len, cap, rfl, rfl, hm1, -⟩ := hv.at
  obtain ⟨a2, len2, cap2, rfl, rfl, hm2, -⟩ := hu.at
  clear hv hu
  go_enter Tryz.func34, Tryz.ntmps34
  by_cases hl : (l.length : Int) = (m.length : Int)
  · have HL := Lib.hid (show l.length = m.length by omega)
    have hlb : ((l.length : Int) != (m.length : Int)) = false := bne_f hl
    clear hl
    go_wp2_with fail
    go_loopw [5, 6, 14] (fun _ _ n wr => ∃ i : Nat, i ≤ m.length ∧ n = .int .i64 i ∧ Hid (ShapeN l m i ∧ OwnN m i) ∧ Below w.heap.size w wr) (fun _ _ n _ => m.length - (intOf n).toNat)
    case atStart => exact ⟨0, Nat.zero_le _, rfl, Lib.hid ⟨fun i o p h => absurd h (Nat.not_lt_zero _), fun i o v h => absurd h (Nat.not_lt_zero _)⟩, Below.refl _ _⟩
    case round =>
      obtain ⟨wi, rfl⟩ : ∃ wi : World, wi = wr := ⟨_, rfl⟩
      obtain ⟨i, hi, rfl, HF, hb⟩ := hrel
      have HB := Lib.hid hb
      have hwi := hb.size
      clear hb
      by_cases hlt : i < m.length
      · have hiM : (i : Int) < (m.length : Int) := by omega
        have hiL : (i : Int) < (l.length : Int) := by have := HL.out; omega
        obtain ⟨o, ho⟩ := some_at hlt
        obtain ⟨p, hp⟩ := some_at (l := l) (k := i) (by omega)
        obtain ⟨_, _, _, e5, -, -, hcl⟩ := HU.out.at
        cases e5
        obtain ⟨b, off, rfl, k0', k1', k2'⟩ := hcl i o ho
        have k0 := cell_later HB.out k0'
        have k1 := cell_later HB.out k1'
        have k2 := cell_later HB.out k2'
        obtain ⟨_, _, _, e5, -, -, hcl2⟩ := HV.out.at
        cases e5
        obtain ⟨b2, off2, rfl, m0', m1', m2'⟩ := hcl2 i p hp
        have m0 := cell_later HB.out m0'
        have m1 := cell_later HB.out m1'
        have m2 := cell_later HB.out m2'
        have HO := Lib.hid ho
        have HP := Lib.hid hp
        have HC := Lib.hid hcl
        have hi0 : (0 : Int) ≤ (i : Int) := by omega
        have HK1 := Lib.hid k1'
        have HK2 := Lib.hid k2'
        clear hcl hcl2 ho hp k0' k1' k2' m0' m1' m2'
        by_cases d1 : o.kind = p.kind
        · have e1 := bne_f d1
          have D1 := Lib.hid d1
          clear d1
          by_cases d2 : o.key = p.key
          · have e2 := bne_f d2
            have D2 := Lib.hid d2
            clear d2
            by_cases d3 : o.kind = 2
            · have e3 := beq_t d3
              have D3 := Lib.hid d3
              clear d3
              by_cases d4 : o.val = p.val
              · have e4 := bne_f d4
                have D4 := Lib.hid d4
                clear d4
                go_wp2
                go_quiet (fail)
                go_wp2
                go_roundw
                case rel => exact ⟨i + 1, by omega, by go_num, Lib.hid ⟨HF.out.1.next HO.out HP.out ⟨D1.out, D2.out, fun _ => D4.out⟩, HF.out.2.next HO.out (fun v h => absurd D3.out h)⟩, below_drewN HB.out _⟩
                case measure => simp [intOf]; omega
              · have e4 := bne_t d4
                have D4 := Lib.hid d4
                clear d4
                go_wp2
                go_quiet (fail)
                go_wp2
                go_ret
                exact .bad rfl (by omega) (fun h => D4.out ((h.2.1 i o p hlt HO.out HP.out).2.2 D3.out)) (below_drewN HB.out _)
            · have e3 := beq_f d3
              have D3 := Lib.hid d3
              clear d3
              go_wp2
              go_quiet (fail)
              go_wp2
              have HBq := Lib.hid (below_drewN HB.out nq)
              clear k0 k1 k2 m0 m1 m2
              generalize wi.drewN nq = wq at *
              go_loopw [6] (fun n wr => ∃ z : Int, n = .int .i64 z ∧ -1 ≤ z ∧ z < i ∧ Hid (NoWr m i o.key z) ∧ Below w.heap.size w wr) (fun n _ => (intOf n + 1).toNat)
              case atStart => exact ⟨_, rfl, by omega, by omega, Lib.hid (fun j q h1 h2 => by omega), HBq.out⟩
              case round =>
                obtain ⟨wk, rfl⟩ : ∃ wk : World, wk = wr := ⟨_, rfl⟩
                obtain ⟨z, rfl, hz1, hz2, HNW, hbk⟩ := hrel
                have HBk := Lib.hid hbk
                clear hbk
                by_cases hlz : 0 ≤ z
                · obtain ⟨k, rfl⟩ := Int.eq_ofNat_of_zero_le hlz
                  have hkM : (k : Int) < (m.length : Int) := by omega
                  obtain ⟨q, hq⟩ := some_at (l := m) (k := k) (by omega)
                  obtain ⟨_, _, e6, x0', x1', x2'⟩ := HC.out k q hq
                  simp only [Option.some.injEq, Addr.mk.injEq, and_true] at e6
                  obtain ⟨rfl, rfl⟩ := e6
                  have x0 := cell_later HBk.out x0'
                  have x1 := cell_later HBk.out x1'
                  have x2 := cell_later HBk.out x2'
                  have y1 := cell_later HBk.out HK1.out
                  have y2 := cell_later HBk.out HK2.out
                  have HQ := Lib.hid hq
                  clear hq x0' x1' x2'
                  by_cases g1 : q.kind = 2
                  · have f1 := beq_t g1
                    have G1 := Lib.hid g1
                    clear g1
                    by_cases g2 : q.key = o.key
                    · have f2 := beq_t g2
                      have HLW := Lib.hid (noWr_some HQ.out G1.out g2 (by omega) (by omega) HNW.out)
                      clear g2
                      by_cases g3 : q.val = o.val
                      · have f3 := bne_f g3
                        have G3 := Lib.hid g3
                        clear g3
                        go_wp2
                        go_quiet (fail)
                        go_wp2
                        go_quiet (fail)
                        go_wp2
                        go_roundw
                        case rel => exact ⟨i + 1, by omega, by go_num, Lib.hid ⟨HF.out.1.next HO.out HP.out ⟨D1.out, D2.out, fun h => absurd h D3.out⟩, HF.out.2.next HO.out (fun v _ hv => by rw [HLW.out] at hv; cases hv; exact G3.out)⟩, below_drewN HBk.out _⟩
                        case measure => simp [intOf]; omega
                      · have f3 := bne_t g3
                        have G3 := Lib.hid g3
                        clear g3
                        go_wp2
                        go_quiet (fail)
                        go_wp2
                        go_quiet (fail)
                        go_wp2
                        go_ret
                        exact .bad rfl (by omega) (fun h => G3.out (h.2.2 i o q.val hlt HO.out D3.out HLW.out)) (below_drewN (below_drewN HBk.out _) _)
                    · have f2 := beq_f g2
                      have HN2 := Lib.hid (show NoWr m i o.key (k - 1) from fun j q' h1 h2 h3 h4 => by
                        by_cases hjk : j = k
                        · subst hjk; rw [HQ.out] at h3; cases h3; exact g2
                        · exact HNW.out j q' (by omega) h2 h3 h4)
                      clear g2
                      go_wp2
                      go_quiet (fail)
                      go_wp2
                      go_roundw
                      case rel => exact ⟨_, rfl, by omega, by omega, HN2, below_drewN HBk.out _⟩
                      case measure => simp [intOf] <;> omega
                  · have f1 := beq_f g1
                    have HN2 := Lib.hid (show NoWr m i o.key (k - 1) from fun j q' h1 h2 h3 h4 => by
                      by_cases hjk : j = k
                      · subst hjk; rw [HQ.out] at h3; cases h3; exact absurd h4 g1
                      · exact HNW.out j q' (by omega) h2 h3 h4)
                    clear g1
                    go_wp2
                    go_quiet (fail)
                    go_wp2
                    go_roundw
                    case rel => exact ⟨_, rfl, by omega, by omega, HN2, below_drewN HBk.out _⟩
                    case measure => simp [intOf] <;> omega
                · obtain rfl : z = -1 := by omega
                  go_wp2_with fail
                  go_roundw
                  case rel => exact ⟨i + 1, by omega, by go_num, Lib.hid ⟨HF.out.1.next HO.out HP.out ⟨D1.out, D2.out, fun h => absurd h D3.out⟩, HF.out.2.next HO.out (fun v _ hv => by rw [noWr_none (by omega) HNW.out] at hv; cases hv)⟩, HBk.out⟩
                  case measure => simp [intOf]; omega
          · have e2 := bne_t d2
            have D2 := Lib.hid d2
            clear d2
            go_wp2
            go_quiet (fail)
            go_wp2
            go_ret
            exact .bad rfl (by omega) (fun h => D2.out (h.2.1 i o p hlt HO.out HP.out).2.1) (below_drewN HB.out _)
        · have e1 := bne_t d1
          have D1 := Lib.hid d1
          clear d1
          go_wp2
          go_quiet (fail)
          go_wp2
          go_ret
          exact .bad rfl (by omega) (fun h => D1.out (h.2.1 i o p hlt HO.out HP.out).1) (below_drewN HB.out _)
      · obtain rfl : i = m.length := by omega
        go_wp2_with fail
        go_ret
        exact .good rfl HL.out HF.out.1 HF.out.2 HB.out
  · have hlb : ((l.length : Int) != (m.length : Int)) = true := bne_t hl
    have HL := Lib.hid (show l.length ≠ m.length by omega)
    clear hl
    go_wp2_with fail
    go_ret
    exact .bad rfl (by omega) (fun h => HL.out h.1) (Below.refl _ _)
end Go.Proofs.YtnacoplokjdglaaGreat

namespace Go.Proofs.YtnacoplokjdglaaGreat
open Go.RowKit Go.Maps

theorem RefInv.stop {es : List GEvent} {i : Nat} {s : HSt} {F : List Nat} {e : GEvent} (h : RefInv es i s F) (he : es[i]? = some e) (hs : stepH s e = none) : histH es = none :=
  runH_none (i := i + 1) (by rw [runH_next h.run he, hs])
theorem RefInv.twice {es : List GEvent} {i : Nat} {s : HSt} {F : List Nat} {e : GEvent} (h : RefInv es i s F) (he : es[i]? = some e) (hr : RightEv e) (hk : getM s.op e.client = none) (h1 : e.kind = 1) (hf : ¬ FreshN es e.ops i e.ops.length) : histH es = none := by
  refine h.stop he ?_
  rw [stepH_new hr hk h1]
  cases ha : addW s.wr e.ops with
  | none => rfl
  | some wr => exact absurd ((h.fresh he h1).2 (addW_some ha).1) hf
theorem RefInv.new {es : List GEvent} {i : Nat} {s : HSt} {F : List Nat} {e : GEvent} (h : RefInv es i s F) (he : es[i]? = some e) (hr : RightEv e) (hk : getM s.op e.client = none) (h1 : e.kind = 1) (hf : FreshN es e.ops i e.ops.length) : ∃ s', RefInv es (i + 1) s' (F ++ [i]) ∧ s'.ts = s.ts ++ [⟨e.client, 0, e.ops⟩] := by
  cases ha : addW s.wr e.ops with
  | none => exact absurd ((h.fresh he h1).1 hf) (addW_none ha)
  | some wr => exact ⟨_, h.begun he h1 (by rw [stepH_new hr hk h1, ha]; rfl)⟩
/-- The transactions while one of them is written: as far as place k. -/
def Half (ts : List GTxn) (m : Nat) (t' : GTxn) (k : Nat) (l : List GTxn) : Prop := l = if k ≤ m then ts else ts.set m t'
theorem Half.start {ts : List GTxn} {m : Nat} {t' : GTxn} : Half ts m t' 0 ts := by unfold Half; rw [if_pos (Nat.zero_le _)]
theorem Half.skip {ts l : List GTxn} {m k : Nat} {t' : GTxn} (h : Half ts m t' k l) (hk : k ≠ m) : Half ts m t' (k + 1) l := by
  unfold Half at *
  rw [h]
  by_cases h1 : k ≤ m
  · rw [if_pos h1, if_pos (by omega)]
  · rw [if_neg h1, if_neg (by omega)]
theorem Half.at {ts l : List GTxn} {m : Nat} {t' : GTxn} (h : Half ts m t' m l) : l = ts := by unfold Half at h; rw [h, if_pos (Nat.le_refl _)]
theorem Half.put {ts l : List GTxn} {m : Nat} {t' : GTxn} (h : Half ts m t' m l) : Half ts m t' (m + 1) (l.set m t') := by
  rw [h.at]; unfold Half; rw [if_neg (by omega)]
theorem Half.same {ts l : List GTxn} {m : Nat} {t' : GTxn} (h : Half ts m t' m l) (ht : ts[m]? = some t') : Half ts m t' (m + 1) l := by
  have := h.put
  rw [h.at] at this ⊢
  have e : ts.set m t' = ts := by
    apply List.ext_getElem?
    intro i
    rw [List.getElem?_set]
    split
    · rename_i e1
      subst e1
      have := (List.getElem?_eq_some_iff.1 ht).1
      rw [if_pos this, ht]
    · rfl
  rwa [e] at this
theorem Half.all {ts l : List GTxn} {m n : Nat} {t' : GTxn} (h : Half ts m t' n l) (hm : m < n) : l = ts.set m t' := by unfold Half at h; rw [h, if_neg (by omega)]

set_option maxRecDepth 100000 in
set_option maxHeartbeats 16000000 in
theorem of_callE (v : Value) (es : List GEvent) (w : World) (hv : RdEvents w v es) (hes : es.length ≤ 400) :
    Calls Tryz.prog 14 #[v] w (OfQE es w) := by
  have HV := Lib.hid hv
  obtain ⟨a, len, cap, rfl, rfl, hm, -⟩ := hv.at
  clear hv
  have hesI : ¬ (es.length : Int) > 400 := by omega
  have hO1 := World.ownsRow_lit (base := w.heap.size) (e := 49) (size := 3) w #[] 0 (Nat.le_refl _) (by simp [maxLen]) rfl
  have hO2 := World.ownsRow_lit (base := w.heap.size) (e := 3) (size := 1) (w.alloc (.cells #[] 49)) #[] 0 (by simp) (by simp [maxLen]) rfl
  have hS : OfS w (.slice (some ⟨w.heap.size, 0, none⟩) 0 0) (.slice (some ⟨w.heap.size + 1, 0, none⟩) 0 0) [] [] ((w.alloc (.cells #[] 49)).alloc (.cells #[] 3)) :=
    ⟨hO1.alloc _, (fun p hp => by cases hp), by simpa using hO2, ((Below.refl _ _).alloc (Nat.le_refl _) _).alloc (by simp) _⟩
  have HS0 := Lib.hid hS
  clear hO1 hO2 hS
  go_enter Tryz.func14, Tryz.ntmps14
  go_wp2_with fail
  go_loopw [5, 6, 7, 8, 9, 10, 11, 12, 20] (fun vo vf _ _ _ _ _ _ n wr => ∃ (i : Nat) (L : TxL) (F : List Nat) (s : HSt), i ≤ es.length ∧ n = .int .i64 i ∧ OfS w vo vf L F wr ∧ Hid (RefInv es i s F ∧ L.map (·.1) = s.ts)) (fun _ _ _ _ _ _ _ _ n _ => es.length - (intOf n).toNat)
  case atStart => exact ⟨0, [], [], hst0, Nat.zero_le _, rfl, HS0.out, Lib.hid ⟨RefInv.start es, rfl⟩⟩
  case round =>
    obtain ⟨wi, rfl⟩ : ∃ wi : World, wi = wr := ⟨_, rfl⟩
    obtain ⟨i, L, F, s, hi, rfl, hs, HI0⟩ := hrel
    have HS := Lib.hid hs
    have HI := Lib.hid HI0.out.1
    have HLM := Lib.hid HI0.out.2
    have hFL0 : F.length = L.length := by have := congrArg List.length HI0.out.2; rw [List.length_map] at this; rw [HI0.out.1.len, this]
    have hFi : F.length ≤ i := by have := (runH_inv hi HI0.out.1.run).len; rw [← HI0.out.1.len] at this; exact this
    have HFL := Lib.hid hFL0
    have HB := Lib.hid hs.below
    have hwi := hs.below.size
    clear hs HI0 hFL0
    by_cases hlt : i < es.length
    · obtain ⟨e, he⟩ := some_at hlt
      obtain ⟨_, _, _, e5, -, -, hcl⟩ := HV.out.at
      cases e5
      obtain ⟨b, off, oa, oc, rfl, hr, k0', k1', k2'⟩ := hcl i e he
      have k0 := cell_later HB.out k0'
      have k1 := cell_later HB.out k1'
      have k2 := cell_later HB.out k2'
      have hiI : (i : Int) < (es.length : Int) := by omega
      have hmo : e.ops.length ≤ 9223372036854775807 := by obtain ⟨_, _, _, _, _, h, _⟩ := hr.at; exact h
      have HE := Lib.hid he
      have HR := Lib.hid hr
      have HC := Lib.hid hcl
      clear hcl he hr k0' k1' k2'
      go_upto_region 8 with fail
      have HB1 := Lib.hid (HB.out.alloc hwi (.cells #[vi e.kind, vi e.client, .slice oa e.ops.length oc] 53))
      have HS1 := Lib.hid (HS.out.more (.cells #[vi e.kind, vi e.client, .slice oa e.ops.length oc] 53))
      have HX1 := Lib.hid (alloc_at wi (.cells #[vi e.kind, vi e.client, .slice oa e.ops.length oc] 53))
      have hw1 : (wi.alloc (.cells #[vi e.kind, vi e.client, .slice oa e.ops.length oc] 53)).heap.size = wi.heap.size + 1 := by simp
      have q0 : (wi.alloc (.cells #[vi e.kind, vi e.client, .slice oa e.ops.length oc] 53)).cell? ⟨wi.heap.size, 0, none⟩ = some (vi e.kind) := by rw [cell_of (alloc_at _ _)]; rfl
      have q1 : (wi.alloc (.cells #[vi e.kind, vi e.client, .slice oa e.ops.length oc] 53)).cell? ⟨wi.heap.size, 1, none⟩ = some (vi e.client) := by rw [cell_of (alloc_at _ _)]; rfl
      have q2 : (wi.alloc (.cells #[vi e.kind, vi e.client, .slice oa e.ops.length oc] 53)).cell? ⟨wi.heap.size, 2, none⟩ = some (.slice oa e.ops.length oc) := by rw [cell_of (alloc_at _ _)]; rfl
      have HR1 := Lib.hid (HR.out.later (HB1.out))
      clear k0 k1 k2
      generalize wi.alloc (.cells #[vi e.kind, vi e.client, .slice oa e.ops.length oc] 53) = w1 at *
      have hw1' : wi.heap.size < w1.heap.size := by omega
      go_cut [27] (fun r wx => (∃ b', r = .bool b' ∧ (b' = false → RightEv e) ∧ (b' = true → ¬ RightEv e)) ∧ Below w1.heap.size w1 wx)
      case first =>
        go_wp2_with (go_at_call 31; refine (right_callE e _ _ HR1.out).mono ?_; rintro r w2 ⟨b', rfl, hgood, hb2⟩)
        go_meet
        exact ⟨⟨_, rfl, (fun h => hgood.1 (by simpa using h)), fun h hr => by rw [hgood.2 hr] at h; simp at h⟩, hb2⟩
      case rest =>
        obtain ⟨⟨b', rfl, hgood, hngood⟩, hb2⟩ := hcut
        cases b' with
        | true =>
          have HNG := Lib.hid (HI.out.stop HE.out (stepH_wrong (hngood rfl)))
          clear hgood hngood
          go_wp2_with fail
          go_ret3
          exact .bad rfl (by omega) HNG.out (HB1.out.trans (hb2.mono HB1.out.size))
        | false =>
          have HG := Lib.hid (hgood rfl)
          have hol : e.ops.length ≤ 12 := HG.out.good.len
          have HB2 := Lib.hid hb2
          have hw2 := hb2.size
          have Q0 := Lib.hid q0
          have Q1 := Lib.hid q1
          have Q2 := Lib.hid q2
          clear hgood hngood hb2 q0 q1 q2
          go_upto_region 11 with (go_at_call 32; refine (last_callE _ es i _ (HV.out.later (HB1.out.trans (HB2.out.mono HB1.out.size))) e HE.out).mono ?_; rintro r w3 ⟨p, rfl, hlast, hp1, hp2, hb3⟩)
          have HLAST := Lib.hid (HI.out.last hlast)
          clear hlast
          have HB3 := Lib.hid (HB2.out.trans (hb3.mono hw2))
          have HBW := Lib.hid (HB1.out.trans (HB3.out.mono HB1.out.size))
          have hw3 := HB3.out.size
          have q0 := cell_later HB3.out Q0.out
          have q1 := cell_later HB3.out Q1.out
          have q2 := cell_later HB3.out Q2.out
          have hw13 : wi.heap.size < w3.heap.size := by omega
          have HX3 := Lib.hid (show w3.heap[wi.heap.size]? = some (.cells #[vi e.kind, vi e.client, .slice oa e.ops.length oc] 53) from (HB3.out.block _ hw1').trans HX1.out)
          have HS3 := Lib.hid (HS1.out.later HB3.out)
          have Q0' := Lib.hid q0
          have Q1' := Lib.hid q1
          have Q2' := Lib.hid q2
          clear hb3
          go_cut [10] (fun vo wx => (∃ bo, vo = .bool bo ∧ (bo = true → ∃ (q : Nat) (eq : GEvent), p = q ∧ q < i ∧ es[q]? = some eq ∧ eq.kind = 1) ∧ (bo = false → ∀ (q : Nat) (eq : GEvent), p = q → es[q]? = some eq → eq.kind ≠ 1)) ∧ wx = w3)
          case first =>
            by_cases hp : 0 ≤ p
            · obtain ⟨q, rfl⟩ := Int.eq_ofNat_of_zero_le hp
              have hqi : q < i := by omega
              have hqI : (q : Int) < (es.length : Int) := by omega
              obtain ⟨eq, heq⟩ := some_at (l := es) (k := q) (by omega)
              obtain ⟨_, _, _, _, e6, -, m0', -, -⟩ := HC.out q eq heq
              simp only [Option.some.injEq, Addr.mk.injEq, and_true] at e6
              obtain ⟨rfl, rfl⟩ := e6
              have m0 := cell_later HBW.out m0'
              clear m0'
              have HQ := Lib.hid heq
              clear heq
              by_cases h1 : eq.kind = 1
              · have c1 := beq_t h1
                have H1 := Lib.hid h1
                clear h1
                go_wp2_with fail
                go_meet
                exact ⟨⟨true, rfl, (fun _ => ⟨q, eq, rfl, hqi, HQ.out, H1.out⟩), fun h => by cases h⟩, rfl⟩
              · have c1 := beq_f h1
                have H1 := Lib.hid h1
                clear h1
                go_wp2_with fail
                go_meet
                exact ⟨⟨false, rfl, (fun h => by cases h), fun _ q' eq' h1 h2 => by
                  have : q' = q := by omega
                  subst this
                  rw [HQ.out] at h2; cases h2; exact H1.out⟩, rfl⟩
            · go_wp2_with fail
              go_meet
              exact ⟨⟨false, rfl, (fun h => by cases h), fun _ q' eq' h1 h2 => by omega⟩, rfl⟩
          case rest =>
            obtain ⟨⟨bo, rfl, hk, hk'⟩, hwx⟩ := hcut
            replace hwx := hwx.symm
            subst hwx
            have HK := Lib.hid hk
            have HK' := Lib.hid hk'
            clear hk hk'
            cases bo with
            | true =>
              obtain ⟨m, q, eq, HGM, hpq, hqi, hq, hk1, HFm, HTm⟩ : ∃ (m q : Nat) (eq : GEvent), Hid (getM s.op e.client = some (m : Int)) ∧ p = q ∧ q < i ∧ es[q]? = some eq ∧ eq.kind = 1 ∧ Hid (F[m]? = some q) ∧ Hid (s.ts[m]? = some ⟨eq.client, 0, eq.ops⟩) := by
                rcases HLAST.out with ⟨_, h2⟩ | ⟨m, q, eq, h2, h3, h4, h5, h6, h7, h8⟩
                · obtain ⟨q, eq, h3, _, h4, h5⟩ := HK.out rfl
                  exact absurd h5 (h2 q eq h3 h4)
                · exact ⟨m, q, eq, Lib.hid h2, h3, h4, h5, h6, Lib.hid h7, Lib.hid h8⟩
              have hmF : m < F.length := (List.getElem?_eq_some_iff.1 HFm.out).1
              by_cases h1 : e.kind = 1
              · have c1 := beq_t h1
                have HNO := Lib.hid (HI.out.stop HE.out (stepH_busy HGM.out h1))
                clear h1 hq hk1 hpq
                go_wp2_with fail
                go_ret3
                exact .bad rfl (by omega) HNO.out HBW.out
              · have c1 := beq_f h1
                have H1 := Lib.hid h1
                clear h1
                subst hpq
                have HQ := Lib.hid hq
                have HQ1 := Lib.hid hk1
                clear hq hk1
                go_upto_region 19 with fail
                have hFl : F.length ≤ i := hFi
                have hLl : L.length = F.length := HFL.out.symm
                have hq := HQ.out
                obtain ⟨a5, c5, a6, c6, rfl, rfl⟩ := HS.out.shapes hLl
                have hqI : (q : Int) < (es.length : Int) := by omega
                obtain ⟨_, _, oa3, oc3, e6, hr3, -, -, m2'⟩ := HC.out q eq hq
                simp only [Option.some.injEq, Addr.mk.injEq, and_true] at e6
                obtain ⟨rfl, rfl⟩ := e6
                have m2 := cell_later HBW.out m2'
                have HR3 := Lib.hid (hr3.later HBW.out)
                have HRw := Lib.hid (HR.out.later HBW.out)
                clear hq hr3 m2'
                by_cases h2 : e.kind = 2
                · have c2 := beq_t h2
                  have c3 := bne_f h2
                  have H2 := Lib.hid h2
                  clear h2
                  go_upto_region 22 with fail
                  go_cut [11] (fun v wx => (∃ n : Int, v = .int .i64 n ∧ (n = 0 ↔ AnsOK eq.ops e.ops)) ∧ Below w3.heap.size w3 wx)
                  case first =>
                    go_still_tail 7, (by kernel_rfl)
                    change wpList _ _ _ _ _ w3.drew
                    go_wp2_with (go_at_call 34; refine (answer_callE _ _ eq.ops e.ops _ (HR3.out.later ((Below.refl _ _).drew)) (HRw.out.later ((Below.refl _ _).drew))).mono ?_; rintro r w4 ⟨n, rfl, hn, hb4⟩)
                    go_meet
                    exact ⟨⟨n, rfl, hn⟩, ((Below.refl w3.heap.size w3).drew).trans hb4⟩
                  case rest =>
                    obtain ⟨wx, rfl⟩ : ∃ wx : World, wx = wc := ⟨_, rfl⟩
                    obtain ⟨⟨n, rfl, hn⟩, hb4⟩ := hcut
                    have HB4 := Lib.hid hb4
                    have hw4 := hb4.size
                    clear hb4
                    by_cases hn0 : n = 0
                    · have HA := Lib.hid (show stepH s e = some ⟨s.ts.set m (endT ⟨eq.client, 0, eq.ops⟩ e), delM s.op e.client, s.wr⟩ from stepH_end HG.out HGM.out H1.out (by simpa using HTm.out) (by unfold EndOK; rw [if_pos H2.out]; exact hn.1 hn0))
                      have HET := Lib.hid (show endT ⟨eq.client, 0, eq.ops⟩ e = ⟨eq.client, 1, e.ops⟩ by unfold endT; rw [if_pos H2.out])
                      subst hn0
                      have HS4 := Lib.hid (HS3.out.later HB4.out)
                      have HX4 := Lib.hid ((HB4.out.block _ hw13).trans HX3.out)
                      clear hn q0 q1 q2 m2
                      go_wp2_with fail
                      go_loopw [12, 96] (fun _ n wr => ∃ (k : Nat) (L' : TxL), k ≤ F.length ∧ n = .int .i64 k ∧ L'.length = F.length ∧ OfS w (.slice a5 F.length c5) (.slice a6 F.length c6) L' F wr ∧ Hid (Half s.ts m (endT ⟨eq.client, 0, eq.ops⟩ e) k (L'.map (·.1))) ∧ wr.heap[wi.heap.size]? = some (.cells #[vi e.kind, vi e.client, .slice oa e.ops.length oc] 53)) (fun _ n _ => F.length - (intOf n).toNat)
                      case atStart => exact ⟨0, L, Nat.zero_le _, rfl, hLl, HS4.out, Lib.hid (by rw [HLM.out]; exact Half.start), HX4.out⟩
                      case round =>
                        obtain ⟨wk, rfl⟩ : ∃ wk : World, wk = wr := ⟨_, rfl⟩
                        obtain ⟨k, L', hk, rfl, hl', hs, HIk, hbox⟩ := hrel
                        have HSk := Lib.hid hs
                        have HXk := Lib.hid hbox
                        have HBk := Lib.hid hs.below
                        have hwk := hs.below.size
                        have hLI := Lib.hid hl'
                        clear hs hbox hl'
                        by_cases hlk : k < F.length
                        · have hkI : (k : Int) < (F.length : Int) := by omega
                          obtain ⟨f, hf⟩ := some_at hlk
                          obtain ⟨p', hp'⟩ := some_at (l := L') (k := k) (by rw [hLI.out]; exact hlk)
                          obtain ⟨g, gf, rfl, rfl⟩ := HSk.out.shapes_at hLI.out (by omega)
                          have f0 := HSk.out.frm_at hf
                          have s1 := HSk.out.out_at hp' (i := 1) rfl
                          have s2 := HSk.out.out_at hp' (i := 2) rfl
                          have z1 := HSk.out.out_free hLI.out.symm (k * 3 + 1)
                          have q0 : wk.cell? ⟨wi.heap.size, 0, none⟩ = some (vi e.kind) := by rw [cell_of HXk.out]; rfl
                          have HF := Lib.hid hf
                          have HP := Lib.hid hp'
                          clear hf hp'
                          by_cases hfq : (f : Int) = (q : Int)
                          · have g1 := beq_t hfq
                            have HKM := Lib.hid (show k = m from HI.out.inj k m q (by rw [HF.out]; congr 1; omega) HFm.out)
                            clear hfq
                            go_upto_region 30 with fail
                            have HSn := Lib.hid (HSk.out.set hLI.out.symm HP.out (i := 1) (p' := (⟨p'.1.client, 1, p'.1.ops⟩, p'.2)) (u := vi 1) (by decide) rfl (HSk.out.ops p' (List.mem_of_getElem? HP.out)))
                            have HXn := Lib.hid (HSk.out.box hLI.out.symm HXk.out (k * 3 + 1) (vi 1))
                            clear f0 s1 s2 z1 q0
                            generalize wk.setCell ⟨g, k * 3 + 1, none⟩ (vi 1) = wa at *
                            have HLn := Lib.hid (show (L'.set k (⟨p'.1.client, 1, p'.1.ops⟩, p'.2)).length = F.length by rw [List.length_set]; exact hLI.out)
                            have HPn := Lib.hid (show (L'.set k (⟨p'.1.client, 1, p'.1.ops⟩, p'.2))[k]? = some (⟨p'.1.client, 1, p'.1.ops⟩, p'.2) from List.getElem?_set_self (by rw [hLI.out]; exact hlk))
                            have hwa := HSn.out.below.size
                            have hwb : wi.heap.size < wa.heap.size := (Array.getElem?_eq_some_iff.1 HXn.out).1
                            have q2 : wa.cell? ⟨wi.heap.size, 2, none⟩ = some (.slice oa e.ops.length oc) := by rw [cell_of HXn.out]; rfl
                            have HRa := Lib.hid ((HR.out.later HSn.out.below).later ((Below.refl wa.heap.size wa).alloc (Nat.le_refl _) (.cells #[] 51)))
                            have HO := Lib.hid (World.ownsRow_lit (base := wa.heap.size) (e := 51) (size := 3) wa #[] 0 (Nat.le_refl _) (by simp [maxLen]) rfl)
                            have HBa := Lib.hid ((Below.refl wa.heap.size wa).alloc (Nat.le_refl _) (.cells #[] 51))
                            go_upto_region 31 with (at_builtin; refine wpList_append_src rfl _ _ 47 rfl eltOp wa.heap.size 0 [] HO.out rfl e.ops.length _ HRa.out.src rfl opV_one (by omega) (by omega) (by simp) ?_; intro v2 w5 hown2 hg2 _; have HO2 := Lib.hid (show OwOps wa.heap.size w5 v2 e.ops by simpa [OwOps] using hown2); have HB5 := Lib.hid (HBa.out.grown hg2 (by simp) (by simp [Value.ownBlock])); have hr2 := HO2.out.rd; obtain ⟨av, nv, cv, rfl, rfl, hmv, -⟩ := hr2.at; have HS5 := Lib.hid (HSn.out.later HB5.out); have s2 := HS5.out.out_at HPn.out (i := 2) rfl; have z2 := HS5.out.out_free HLn.out.symm (k * 3 + 2); clear hown2 hg2 hr2)
                            have HSz := Lib.hid (HS5.out.set HLn.out.symm HPn.out (i := 2) (p' := (⟨p'.1.client, 1, e.ops⟩, .slice av e.ops.length cv)) (u := .slice av e.ops.length cv) (by decide) rfl (own_mono HO2.out hwa))
                            have HX5 := Lib.hid ((HB5.out.block _ hwb).trans HXn.out)
                            have HXz := Lib.hid (HS5.out.box HLn.out.symm HX5.out (k * 3 + 2) (.slice av e.ops.length cv))
                            clear q2 s2 z2
                            generalize w5.setCell ⟨g, k * 3 + 2, none⟩ (.slice av e.ops.length cv) = wz at *
                            have f0 := HSz.out.frm_at HF.out
                            have q0 : wz.cell? ⟨wi.heap.size, 0, none⟩ = some (vi e.kind) := by rw [cell_of HXz.out]; rfl
                            go_wp2_with fail
                            go_roundw
                            case rel =>
                              refine ⟨k + 1, _, by omega, by go_num, by rw [List.length_set]; exact HLn.out, HSz.out, Lib.hid ?_, HXz.out⟩
                              have hkm := HKM.out
                              have hH := HIk.out
                              have hP : (L'.map (·.1))[k]? = some p'.1 := by rw [List.getElem?_map, HP.out]; rfl
                              subst hkm
                              rw [hH.at, HTm.out] at hP
                              have hp1 : p'.1 = ⟨eq.client, 0, eq.ops⟩ := (Option.some.inj hP).symm
                              rw [List.set_set, List.map_set]
                              have := hH.put
                              rw [HET.out] at this
                              rw [HET.out]
                              simpa [hp1] using this
                            case measure => simp [intOf]; omega
                          · have g1 := beq_f hfq
                            have HKM := Lib.hid (show k ≠ m from fun hkm => by subst hkm; have := HF.out.symm.trans HFm.out; simp at this; omega)
                            clear hfq
                            go_wp2_with fail
                            go_roundw
                            case rel => exact ⟨k + 1, L', by omega, by go_num, hLI.out, HSk.out, Lib.hid (HIk.out.skip HKM.out), HXk.out⟩
                            case measure => simp [intOf]; omega
                        · obtain rfl : k = F.length := by omega
                          go_wp2_with fail
                          go_roundw
                          case rel => exact ⟨i + 1, L', F, _, by omega, by go_num, HSk.out, Lib.hid ⟨HI.out.over HE.out H1.out HA.out, HIk.out.all hmF⟩⟩
                          case measure => simp [intOf]; omega
                    · have d1 := bne_t hn0
                      have HN := Lib.hid hn0
                      have HNO := Lib.hid (HI.out.stop HE.out (stepH_other (t := ⟨eq.client, 0, eq.ops⟩) HGM.out (by simpa using HTm.out) (by unfold EndOK; rw [if_pos H2.out]; exact fun h => hn0 (hn.2 h))))
                      clear hn hn0
                      go_wp2_with fail
                      go_ret3
                      exact .bad rfl HN.out HNO.out (HBW.out.trans (HB4.out.mono HBW.out.size))
                · have c2 := beq_f h2
                  have c3 := bne_t h2
                  have H2 := Lib.hid h2
                  clear h2
                  by_cases hlen : (0 : Int) < (e.ops.length : Int)
                  · have HNO := Lib.hid (HI.out.stop HE.out (stepH_other (t := ⟨eq.client, 0, eq.ops⟩) HGM.out (by simpa using HTm.out) (by unfold EndOK; rw [if_neg H2.out]; exact fun h => by rw [h] at hlen; simp at hlen)))
                    go_wp2_with fail
                    go_ret3
                    exact .bad rfl (by omega) HNO.out HBW.out
                  · have HA := Lib.hid (show stepH s e = some ⟨s.ts.set m (endT ⟨eq.client, 0, eq.ops⟩ e), delM s.op e.client, s.wr⟩ from stepH_end HG.out HGM.out H1.out (by simpa using HTm.out) (by unfold EndOK; rw [if_neg H2.out]; exact List.length_eq_zero_iff.1 (by omega)))
                    have HS4 := Lib.hid HS3.out
                    have HX4 := Lib.hid HX3.out
                    clear m2 q1
                    go_wp2_with fail
                    go_loopw [12, 96] (fun _ n wr => ∃ (k : Nat) (L' : TxL), k ≤ F.length ∧ n = .int .i64 k ∧ L'.length = F.length ∧ OfS w (.slice a5 F.length c5) (.slice a6 F.length c6) L' F wr ∧ Hid (Half s.ts m (endT ⟨eq.client, 0, eq.ops⟩ e) k (L'.map (·.1))) ∧ wr.heap[wi.heap.size]? = some (.cells #[vi e.kind, vi e.client, .slice oa e.ops.length oc] 53)) (fun _ n _ => F.length - (intOf n).toNat)
                    case atStart => exact ⟨0, L, Nat.zero_le _, rfl, hLl, HS4.out, Lib.hid (by rw [HLM.out]; exact Half.start), HX4.out⟩
                    case round =>
                      obtain ⟨wk, rfl⟩ : ∃ wk : World, wk = wr := ⟨_, rfl⟩
                      obtain ⟨k, L', hk, rfl, hl', hs, HIk, hbox⟩ := hrel
                      have HSk := Lib.hid hs
                      have HXk := Lib.hid hbox
                      have HBk := Lib.hid hs.below
                      have hwk := hs.below.size
                      have hLI := Lib.hid hl'
                      clear hs hbox hl'
                      by_cases hlk : k < F.length
                      · have hkI : (k : Int) < (F.length : Int) := by omega
                        obtain ⟨f, hf⟩ := some_at hlk
                        obtain ⟨p', hp'⟩ := some_at (l := L') (k := k) (by rw [hLI.out]; exact hlk)
                        obtain ⟨g, gf, rfl, rfl⟩ := HSk.out.shapes_at hLI.out (by omega)
                        have f0 := HSk.out.frm_at hf
                        have s1 := HSk.out.out_at hp' (i := 1) rfl
                        have s2 := HSk.out.out_at hp' (i := 2) rfl
                        have z1 := HSk.out.out_free hLI.out.symm (k * 3 + 1)
                        have q0 : wk.cell? ⟨wi.heap.size, 0, none⟩ = some (vi e.kind) := by rw [cell_of HXk.out]; rfl
                        have HF := Lib.hid hf
                        have HP := Lib.hid hp'
                        clear hf hp'
                        by_cases hfq : (f : Int) = (q : Int)
                        · have g1 := beq_t hfq
                          have HKM := Lib.hid (show k = m from HI.out.inj k m q (by rw [HF.out]; congr 1; omega) HFm.out)
                          clear hfq
                          by_cases h3 : e.kind = 3
                          · have g2 := beq_t h3
                            have HET := Lib.hid (show endT ⟨eq.client, 0, eq.ops⟩ e = ⟨eq.client, 2, eq.ops⟩ by unfold endT; rw [if_neg H2.out, if_pos h3])
                            clear h3
                            go_upto_region 33 with fail
                            have HSn := Lib.hid (HSk.out.set hLI.out.symm HP.out (i := 1) (p' := (⟨p'.1.client, 2, p'.1.ops⟩, p'.2)) (u := vi 2) (by decide) rfl (HSk.out.ops p' (List.mem_of_getElem? HP.out)))
                            have HXn := Lib.hid (HSk.out.box hLI.out.symm HXk.out (k * 3 + 1) (vi 2))
                            generalize wk.setCell ⟨g, k * 3 + 1, none⟩ (vi 2) = wa at *
                            go_wp2_with fail
                            go_roundw
                            case rel =>
                              refine ⟨k + 1, _, by omega, by go_num, by rw [List.length_set]; exact hLI.out, HSn.out, Lib.hid ?_, HXn.out⟩
                              have hkm := HKM.out
                              have hH := HIk.out
                              have hP : (L'.map (·.1))[k]? = some p'.1 := by rw [List.getElem?_map, HP.out]; rfl
                              subst hkm
                              rw [hH.at, HTm.out] at hP
                              have hp1 : p'.1 = ⟨eq.client, 0, eq.ops⟩ := (Option.some.inj hP).symm
                              rw [List.map_set]
                              have := hH.put
                              rw [HET.out] at this
                              rw [HET.out]
                              simpa [hp1] using this
                            case measure => simp [intOf]; omega
                          · have g2 := beq_f h3
                            have HET := Lib.hid (show endT ⟨eq.client, 0, eq.ops⟩ e = ⟨eq.client, 0, eq.ops⟩ by unfold endT; rw [if_neg H2.out, if_neg h3])
                            clear h3
                            go_wp2_with fail
                            go_roundw
                            case rel =>
                              refine ⟨k + 1, L', by omega, by go_num, hLI.out, HSk.out, Lib.hid ?_, HXk.out⟩
                              have hkm := HKM.out
                              have hH := HIk.out
                              subst hkm
                              exact hH.same (by rw [HET.out]; exact HTm.out)
                            case measure => simp [intOf]; omega
                        · have g1 := beq_f hfq
                          have HKM := Lib.hid (show k ≠ m from fun hkm => by subst hkm; have := HF.out.symm.trans HFm.out; simp at this; omega)
                          clear hfq
                          go_wp2_with fail
                          go_roundw
                          case rel => exact ⟨k + 1, L', by omega, by go_num, hLI.out, HSk.out, Lib.hid (HIk.out.skip HKM.out), HXk.out⟩
                          case measure => simp [intOf]; omega
                      · obtain rfl : k = F.length := by omega
                        go_wp2_with fail
                        go_roundw
                        case rel => exact ⟨i + 1, L', F, _, by omega, by go_num, HSk.out, Lib.hid ⟨HI.out.over HE.out H1.out HA.out, HIk.out.all hmF⟩⟩
                        case measure => simp [intOf]; omega
            | false =>
              have HGM : Hid (getM s.op e.client = none) := by
                rcases HLAST.out with ⟨h2, _⟩ | ⟨m, q, eq, h2, h3, h4, h5, h6, h7, h8⟩
                · exact Lib.hid h2
                · exact absurd h6 (HK'.out rfl q eq h3 h5)
              by_cases h1 : e.kind = 1
              · have c1 := beq_t h1
                have H1 := Lib.hid h1
                clear h1
                go_upto_region 15 with fail
                go_cut [53] (fun r wx => (∃ b', r = .bool b' ∧ (b' = false ↔ FreshN es e.ops i e.ops.length)) ∧ Below w3.heap.size w3 wx)
                case first =>
                  go_wp2_with (go_at_call 33; refine (twice_callE _ es i e _ (HV.out.later HBW.out) HE.out).mono ?_; rintro r w4 ⟨b', rfl, hfr, hb4⟩)
                  go_meet
                  exact ⟨⟨_, rfl, hfr⟩, hb4⟩
                case rest =>
                  obtain ⟨wx, rfl⟩ : ∃ wx : World, wx = wc := ⟨_, rfl⟩
                  obtain ⟨⟨b', rfl, hfr⟩, hb4⟩ := hcut
                  have HB4 := Lib.hid hb4
                  have hw4 := hb4.size
                  clear hb4
                  cases b' with
                  | true =>
                    have HNO := Lib.hid (HI.out.twice HE.out HG.out HGM.out H1.out (fun h => by have := hfr.2 h; cases this))
                    clear hfr
                    go_wp2_with fail
                    go_ret3
                    exact .bad rfl (by omega) HNO.out (HBW.out.trans (HB4.out.mono HBW.out.size))
                  | false =>
                    obtain ⟨s2, HI2, HT2⟩ : ∃ s2, Hid (RefInv es (i + 1) s2 (F ++ [i])) ∧ Hid (s2.ts = s.ts ++ [⟨e.client, 0, e.ops⟩]) := by
                      obtain ⟨s2, g1, g2⟩ := HI.out.new HE.out HG.out HGM.out H1.out (hfr.1 rfl)
                      exact ⟨s2, Lib.hid g1, Lib.hid g2⟩
                    clear hfr
                    go_upto_region 17 with fail
                    have hFl : F.length ≤ i := hFi
                    have hLl : L.length = F.length := HFL.out.symm
                    have q1 := cell_later HB4.out Q1'.out
                    have q2 := cell_later HB4.out Q2'.out
                    have hw14 : wi.heap.size < wx.heap.size := by omega
                    have HS4 := Lib.hid (HS3.out.later HB4.out)
                    have HBX := Lib.hid (HBW.out.trans (HB4.out.mono HBW.out.size))
                    have hwx := HBX.out.size
                    have HR4 := Lib.hid (HR.out.later HBX.out)
                    have HO := Lib.hid (show (wx.drew.alloc (.cells #[] 51)).ownsRow wx.heap.size 51 3 (.slice (some ⟨wx.heap.size, 0, none⟩) 0 0) 0 [] from World.ownsRow_lit wx.drew #[] 0 (Nat.le_refl _) (by simp [maxLen]) rfl)
                    go_cut [5] (fun vo wy => ∃ ov, OfS w vo u6 (L ++ [(⟨e.client, 0, e.ops⟩, ov)]) F wy)
                    case first =>
                      go_region_law (first
                        | (refine step_append_src rfl _ _ 47 rfl eltOp wx.heap.size 0 [] HO.out rfl e.ops.length _ (HR4.out.later (((Below.refl wx.heap.size wx).drew).alloc (Nat.le_refl _) _)).src rfl opV_one (by omega) (by omega) (by simp) ?_; intro v2 w5 hown2 hg2 _; have HO2 := Lib.hid (show OwOps wx.heap.size w5 v2 e.ops by simpa [OwOps] using hown2); have HB5 := Lib.hid (((((Below.refl wx.heap.size wx).drew).alloc (Nat.le_refl _) _).grown hg2 (by simp) (by simp [Value.ownBlock]))); have hr2 := HO2.out.rd; obtain ⟨a2, len2, cap2, rfl, rfl, hm2, -⟩ := hr2.at; have z1 := cell_later HB5.out q1; clear hown2 hg2 hr2)
                        | (refine step_append_src rfl _ _ 24 rfl eltTxn w.heap.size L.length _ ((HS4.out.later HB5.out).more _).out rfl 1 (txV (⟨e.client, 0, e.ops⟩, .slice a2 e.ops.length cap2)) (src_new rfl rfl) rfl (txV_one rfl) (by omega) (by omega) (by have := HB5.out.size; simp; omega) ?_; intro v3 w6 hown3 hg3 _; have HS6 := Lib.hid (((HS4.out.later HB5.out).more _).push hg3 hown3 ((own_mono HO2.out hwx).alloc _)); clear hown3 hg3))
                      all_goals
                        go_wp2
                        go_meet
                        exact ⟨_, HS6.out⟩
                    case rest =>
                      obtain ⟨ov, hs6⟩ := hcut
                      have HS6 := Lib.hid hs6
                      have hwy := hs6.below.size
                      clear hs6 q1 q2
                      go_wp2_with (at_builtin; refine wpList_append_src rfl _ _ 58 rfl eltInt w.heap.size F.length _ (HS6.out.more _).frm rfl 1 [vi (i : Int)] (src_new (cs := #[vi (i : Int)]) rfl rfl) rfl (one_vi _) (by omega) (by omega) (by simp; omega) ?_; intro v4 w7 hown4 hg4 _; have HS7 := Lib.hid ((HS6.out.more _).pushF hg4 hown4); clear hown4 hg4)
                      go_roundw
                      case rel => exact ⟨i + 1, _, _, s2, by omega, by go_num, HS7.out, Lib.hid ⟨HI2.out, by rw [HT2.out, List.map_append, HLM.out]; rfl⟩⟩
                      case measure => simp [intOf]; omega
              · have c1 := beq_f h1
                have HNO := Lib.hid (HI.out.stop HE.out (stepH_idle HGM.out h1))
                clear h1
                go_wp2_with fail
                go_ret3
                exact .bad rfl (by omega) HNO.out HBW.out
    · obtain rfl : i = es.length := by omega
      go_wp2_with fail
      go_ret3
      have hrun := HI.out.run
      rw [List.take_length] at hrun
      exact .good rfl HS.out.rd (by unfold histH; rw [hrun, HLM.out]; rfl) HB.out
/-- What it answers of a list however long. -/
def OfQA (es : List GEvent) (w : World) (r : Ending) (w' : World) : Prop := ∃ (v : Value) (p err : Int), r = .returned (.tuple #[v, .int .i64 p, .int .i64 err]) ∧ (err = 0 → ∃ ts, histH es = some ts ∧ RdTxns w' v ts) ∧ (err ≠ 0 → es.length ≤ 400 → histH es = none) ∧ (∃ a n c, v = .slice a n c) ∧ Below w.heap.size w w'
set_option maxHeartbeats 1000000 in
theorem of_callA (v : Value) (es : List GEvent) (w : World) (hv : RdEvents w v es) : Calls Tryz.prog 14 #[v] w (OfQA es w) := by
  by_cases hes : es.length ≤ 400
  · exact (of_callE v es w hv hes).mono fun _ _ ⟨v, p, err, h1, h2, h3, h4, h5⟩ => ⟨v, p, err, h1, h2, fun h _ => h3 h, h4, h5⟩
  · obtain ⟨a, len, cap, rfl, rfl, hm, -⟩ := hv.at
    have hb : (es.length : Int) > 400 := by omega
    have HL := Lib.hid hes
    clear hv hes
    go_enter Tryz.func14, Tryz.ntmps14
    go_wp2_with fail
    go_ret3
    exact ⟨_, 400, 4, rfl, (fun h => by cases h), (fun _ h => absurd h HL.out), ⟨_, _, _, rfl⟩, Below.refl _ _⟩
end Go.Proofs.YtnacoplokjdglaaGreat

namespace Go.Proofs.YtnacoplokjdglaaGreat
open Go.RowKit Go.Maps
section
variable {ts : List GTxn} {level B : Int} {N : Nat} {W : World} {k s : Int} {f : Int × Int × Int} {tr dn od : Value}
end
theorem skew_edge : EdgesOf skewT [] skewE := by
  refine ⟨by simp [skewE, ltE], fun p => ?_⟩
  have e0 : edgeL skewT [] = [⟨1, 0, 3⟩, ⟨0, 1, 3⟩] ∨ edgeL skewT [] = [⟨0, 1, 3⟩, ⟨1, 0, 3⟩] := by decide
  rcases e0 with e0 | e0 <;> rw [e0] <;> simp [skewE] <;> (constructor <;> (rintro (h | h) <;> simp [h]))
theorem skew_next : nextM skewT [] = none := by decide
theorem skew_brk : Brk skewT [] 2 := by
  refine ⟨skewE, skew_edge, 0, .more (b := 1) (.inl ⟨⟨0, 1, 3⟩, by simp [skewE], .inl rfl, rfl, rfl⟩) (.one (.inl ⟨⟨1, 0, 3⟩, by simp [skewE], .inl rfl, rfl, rfl⟩))⟩
theorem skew_nobrk : ¬ Brk skewT [] 1 := by
  rintro ⟨l, he, a, hw⟩
  rw [skew_edges he] at hw
  have hn : ∀ u v, ¬ ArcK skewE ((1 : Int) == 1) u v := fun u v h => by
    rw [← lift_mem, lift_weak skewE (fun e he => by simp [skewE] at he; rcases he with rfl | rfl <;> rfl)] at h
    simp at h
  cases hw with
  | one h => exact hn _ _ h
  | more h _ => exact hn _ _ h
theorem skew_tree2 : tree0 skewT 2 = .bad [] := treeM_bad skew_brk
theorem skew_tree1 : tree0 skewT 1 = .good [] := treeM_good skew_nobrk skew_next
theorem skew_nodes {l : List (List Nat)} (h : Nodes skewT 2 (tree0 skewT 2) l) : l = [[0, 1]] := by
  rw [skew_tree2] at h
  obtain ⟨C, rfl, _, l, h1, h2⟩ := h
  rw [skew_edges h1] at h2
  have hs2 : sizeM skewT.length = 2 := by decide
  rw [hs2] at h2
  rw [skew_cycle h2]
end Go.Proofs.YtnacoplokjdglaaGreat

namespace Go.Proofs.YtnacoplokjdglaaGreat
open Go.RowKit Go.Maps
attribute [local go_sem] Oper.semAt_some

set_option maxRecDepth 100000 in
set_option maxHeartbeats 1000000 in
theorem skew11_call (w : World) : Calls Tryz.prog 30 #[] w fun e w' => ∃ v, e = .returned v ∧ RdEvents w' v skewEv ∧ Below w.heap.size w w' := by
  have HT := Lib.hid (skew_rdE w)
  have HB := Lib.hid ((((Below.refl w.heap.size w).alloc (Nat.le_refl _) (.cells #[vi 1, vi 0, vi 0, vi 2, vi 1, vi 1] 51)).alloc (by simp) (.cells #[vi 1, vi 1, vi 0, vi 2, vi 0, vi 2] 51)).alloc (by simp; omega) (.cells #[vi 1, vi 1, .slice (some ⟨w.heap.size, 0, none⟩) 2 2, vi 1, vi 2, .slice (some ⟨w.heap.size + 1, 0, none⟩) 2 2, vi 2, vi 1, .slice (some ⟨w.heap.size, 0, none⟩) 2 2, vi 2, vi 2, .slice (some ⟨w.heap.size + 1, 0, none⟩) 2 2] 53))
  go_enter Tryz.func30, Tryz.ntmps30
  go_wp2_with fail
  go_ret
  exact ⟨_, rfl, HT.out, HB.out⟩

theorem end_one {t : WT} {B : Int} (h : 1 ≤ B) (h1 : t.size = 1) : endB t 0 B = t.res ∧ endS t 0 B = 1 ∧ endO t 0 B = false := by
  have := end_leaf (t := t) (s := 0) (B := B) (by omega) h1
  exact ⟨this.1, this.2.1.trans (by omega), this.2.2⟩
theorem skew_check2 (v : Value) (w : World) (hv : RdEvents w v skewEv) : Calls Tryz.prog 18 #[v, vi 2, vi 10] w fun e w' => ∃ (g c : Nat) (b : Option Addr) (d : Nat), e = .returned (.agg #[vi 2, vi 1, vi 0, vi 0, vi 0, .slice (some ⟨g, 0, none⟩) 1 c, .slice none 0 0, .map none]) ∧ w'.cell? ⟨g, 0, none⟩ = some (.slice b 2 d) ∧ Below w.heap.size w w' := by
  refine (check_call0 v skewEv 2 10 w hv (by decide) (by unfold i64; omega) (.inl (by decide))).mono ?_
  rintro e w' ⟨k, s, f, tr, dn, od, rfl, hc, hb⟩
  rw [skew_hist] at hc
  have he := end_one (t := tree0 skewT 2) (B := 10) (by decide) (by rw [skew_tree2]; rfl)
  obtain ⟨rfl, rfl, rfl, rfl, rfl, l, h1, T, h2, h3, h4⟩ := hc.failed (.inr rfl) skew_flaws (by rw [he.1, skew_tree2]; rfl) he.2.2
  have hl := skew_nodes h1
  subst hl
  match T, h2 with
  | [(v0, C)], h2 =>
    simp only [List.map_cons, List.map_nil, List.cons.injEq, and_true] at h2
    subst h2
    obtain ⟨a0, c0, e0⟩ := Gr.own_shape (h4 (v0, [0, 1]) (by simp))
    simp only at e0
    subst e0
    rcases h3.2 with ⟨_, h5⟩ | ⟨g, cap, cur, h5, _⟩
    · simp at h5
    · subst h5
      refine ⟨g, cap, a0, c0, by rw [he.2.1]; rfl, ?_, hb⟩
      have := World.ownsRow.cells h3 (g := g) rfl 0 (.slice a0 2 c0) rfl
      rwa [addr_add] at this
theorem skew_check1 (v : Value) (w : World) (hv : RdEvents w v skewEv) : Calls Tryz.prog 18 #[v, vi 1, vi 10] w fun e w' => ∃ (g om : Nat), e = .returned (.agg #[vi 1, vi 1, vi 0, vi 0, vi 0, .slice none 0 0, .slice (some ⟨g, 0, none⟩) 2 2, .map (some om)]) ∧ Below w.heap.size w w' := by
  refine (check_call0 v skewEv 1 10 w hv (by decide) (by unfold i64; omega) (.inl (by decide))).mono ?_
  rintro e w' ⟨k, s, f, tr, dn, od, rfl, hc, hb⟩
  rw [skew_hist] at hc
  have he := end_one (t := tree0 skewT 1) (B := 10) (by decide) (by rw [skew_tree1]; rfl)
  obtain ⟨rfl, rfl, rfl, rfl, F, db, om, O, _, _, _, _, rfl, rfl⟩ := hc.passed (.inl rfl) skew_flaws (by rw [he.1, skew_tree1]; rfl)
  exact ⟨db, om, by rw [he.2.1]; rfl, hb⟩

set_option maxRecDepth 100000 in
set_option maxHeartbeats 4000000 in
theorem head11_call (w : World) : Calls Tryz.prog 13 #[] w fun e w' => e = .returned (.bool true) ∧ Below w.heap.size w w' := by
  go_enter Tryz.func13, Tryz.ntmps13
  go_upto_region 2 with (first
    | (go_at_call 18; ((with_reducible refine (skew_check2 _ w1 HR1.out).mono ?_); rintro e2 w2 ⟨g, c, b, d, rfl, hc2, hb2⟩; have HC2 := Lib.hid hc2; have HB2 := Lib.hid (HB1.out.trans (hb2.mono HB1.out.size)); clear hc2 hb2))
    | (go_at_call 30; refine (skew11_call w).mono ?_; rintro e1 w1 ⟨v1, rfl, hr1, hb1⟩; have HR1 := Lib.hid hr1; have HB1 := Lib.hid hb1; obtain ⟨a1, n1, c1, rfl, -⟩ := hr1; clear hb1))
  have HA3 := Lib.hid ((Below.refl w2.heap.size w2).alloc (Nat.le_refl _) (.cells #[vi 2, vi 1, vi 0, vi 0, vi 0, .slice (some ⟨g, 0, none⟩) 1 c, .slice none 0 0, .map none] 39))
  have HX3 := Lib.hid (alloc_at w2 (.cells #[vi 2, vi 1, vi 0, vi 0, vi 0, .slice (some ⟨g, 0, none⟩) 1 c, .slice none 0 0, .map none] 39))
  have HC3 := Lib.hid (cell_later HA3.out HC2.out)
  have HB3 := Lib.hid (HB2.out.trans (HA3.out.mono HB2.out.size))
  have hw3 : (w2.alloc (.cells #[vi 2, vi 1, vi 0, vi 0, vi 0, .slice (some ⟨g, 0, none⟩) 1 c, .slice none 0 0, .map none] 39)).heap.size = w2.heap.size + 1 := by simp
  generalize w2.alloc (.cells #[vi 2, vi 1, vi 0, vi 0, vi 0, .slice (some ⟨g, 0, none⟩) 1 c, .slice none 0 0, .map none] 39) = w3 at *
  go_upto_region 3 with (first
    | (go_at_call 18; ((with_reducible refine (skew_check1 _ w4 HR4.out).mono ?_); rintro e5 w5 ⟨g5, om, rfl, hb5⟩; have HB5 := Lib.hid (HB4.out.trans (hb5.mono HB4.out.size)); clear hb5))
    | (go_at_call 30; refine (skew11_call w3).mono ?_; rintro e4 w4 ⟨v4, rfl, hr4, hb4⟩; have HR4 := Lib.hid hr4; have HB4 := Lib.hid hb4; obtain ⟨a4, n4, c4, rfl, -⟩ := hr4; clear hb4))
  have HX5 := Lib.hid ((HB5.out.block _ (by omega)).trans HX3.out)
  have HC5 := Lib.hid (cell_later HB5.out HC3.out)
  have HBW := Lib.hid (HB3.out.trans (HB5.out.mono HB3.out.size))
  have hw5 : w2.heap.size < w5.heap.size := by have := HB5.out.size; omega
  have HB6 := Lib.hid (HBW.out.alloc HBW.out.size (.cells #[vi 1, vi 1, vi 0, vi 0, vi 0, .slice none 0 0, .slice (some ⟨g5, 0, none⟩) 2 2, .map (some om)] 39))
  have HX6 := Lib.hid (alloc_at w5 (.cells #[vi 1, vi 1, vi 0, vi 0, vi 0, .slice none 0 0, .slice (some ⟨g5, 0, none⟩) 2 2, .map (some om)] 39))
  have HY6 := Lib.hid ((Below.heap_alloc w5 (.cells #[vi 1, vi 1, vi 0, vi 0, vi 0, .slice none 0 0, .slice (some ⟨g5, 0, none⟩) 2 2, .map (some om)] 39) _ hw5).trans HX5.out)
  have c6 := cell_later ((Below.refl w5.heap.size w5).alloc (Nat.le_refl _) (.cells #[vi 1, vi 1, vi 0, vi 0, vi 0, .slice none 0 0, .slice (some ⟨g5, 0, none⟩) 2 2, .map (some om)] 39)) HC5.out
  generalize w5.alloc (.cells #[vi 1, vi 1, vi 0, vi 0, vi 0, .slice none 0 0, .slice (some ⟨g5, 0, none⟩) 2 2, .map (some om)] 39) = w6 at *
  have x := fun j => cell_of HX6.out j
  have y := fun j => cell_of HY6.out j
  go_wp2_with fail
  go_ret
  exact ⟨rfl, HB6.out⟩
end Go.Proofs.YtnacoplokjdglaaGreat

namespace Go.Proofs.YtnacoplokjdglaaGreat
open Go.RowKit Go.Maps
attribute [local go_sem] Oper.semAt_some

theorem and1 (x : Int) : ∃ y, bits .and .i64 x 1 = y ∧ (y = 0 ∨ y = 1) := by
  have : ∃ m : Nat, m ≤ 1 ∧ bits .and .i64 x 1 = IntKind.i64.wrap (m : Int) := ⟨(BitVec.ofInt 64 x &&& BitVec.ofInt 64 1).toNat, by rw [BitVec.toNat_and]; exact Nat.le_trans Nat.and_le_right (by decide), rfl⟩
  obtain ⟨m, h1, h2⟩ := this
  refine ⟨m, ?_, by omega⟩
  rw [h2, IntKind.wrap_i64]; omega
section
variable {v : Value} {es : List GEvent} {level B : Int} {w : World} {ts : List GTxn}
end
/-- The kind and the steps of a verdict. -/
noncomputable def kM (ts : List GTxn) (level B : Int) : Int := if flawsM ts ≠ [] then 2 else if endB (tree0 ts level) 0 B then 1 else if endO (tree0 ts level) 0 B then 3 else 2
noncomputable def sM (ts : List GTxn) (level B : Int) : Int := if flawsM ts ≠ [] then 0 else endS (tree0 ts level) 0 B
theorem check_any {v : Value} {es : List GEvent} {level B : Int} {w : World} {ts : List GTxn} (hv : RdEvents w v es) (hes : es.length ≤ 60) (hB : i64 B) (hroom : B ≤ 34359738368 ∨ ∀ ts, histH es = some ts → ((tree0 ts level).size : Int) ≤ 34359738368) (hh : histH es = some ts) (hl : level = 1 ∨ level = 2) :
    Calls Tryz.prog 18 #[v, vi level, vi B] w fun e w' => ∃ (f0 f1 f2 : Int) (ta : Option Addr) (tn tc : Nat) (da : Option Addr) (dn dc : Nat) (om : Option Nat), e = .returned (.agg #[vi (kM ts level B), vi (sM ts level B), vi f0, vi f1, vi f2, .slice ta tn tc, .slice da dn dc, .map om]) ∧ (kM ts level B = 3 → tn = 0 ∧ dn = 0) ∧ Below w.heap.size w w' := by
  cases hf : flawsM ts with
  | cons f l =>
    refine (check_flaw hv hes hB hroom hh hl hf).mono ?_
    rintro e w' ⟨rfl, hb⟩
    have hk : kM ts level B = 2 := by unfold kM; rw [hf, if_pos (by simp)]
    have hs : sM ts level B = 0 := by unfold sM; rw [hf, if_pos (by simp)]
    exact ⟨f.1, f.2.1, f.2.2, none, 0, 0, none, 0, 0, none, by rw [hk, hs], fun _ => ⟨rfl, rfl⟩, hb⟩
  | nil =>
    cases hb0 : endB (tree0 ts level) 0 B with
    | true =>
      refine (check_pass hv hes hB hroom hh hl hf hb0).mono ?_
      rintro e w' ⟨F, db, om, O, rfl, -, -, -, -, hb⟩
      have hk : kM ts level B = 1 := by unfold kM; rw [hf, if_neg (by simp), hb0, if_pos rfl]
      have hs : sM ts level B = (tree0 ts level).size := by unfold sM; rw [hf, if_neg (by simp), (end_yes hb0).2.1, Int.zero_add]
      exact ⟨0, 0, 0, none, 0, 0, _, _, _, _, by rw [hk, hs], (fun h => by rw [hk] at h; cases h), hb⟩
    | false =>
      cases ho : endO (tree0 ts level) 0 B with
      | true =>
        refine (check_over hv hes hB hroom hh hl hf ho).mono ?_
        rintro e w' ⟨rfl, hb⟩
        have hk : kM ts level B = 3 := by unfold kM; rw [hf, if_neg (by simp), hb0, ho]; rfl
        have hs : sM ts level B = max 0 B := by unfold sM; rw [hf, if_neg (by simp), end_out ho]
        exact ⟨0, 0, 0, none, 0, 0, none, 0, 0, none, by rw [hk, hs], fun _ => ⟨rfl, rfl⟩, hb⟩
      | false =>
        refine (check_fail hv hes hB hroom hh hl hf hb0 ho).mono ?_
        rintro e w' ⟨a, c, l, rfl, -, -, -, hb⟩
        have hk : kM ts level B = 2 := by unfold kM; rw [hf, if_neg (by simp), hb0, ho]; rfl
        have hs : sM ts level B = (tree0 ts level).size := by unfold sM; rw [hf, if_neg (by simp), (end_res hb0 ho).2, Int.zero_add]
        exact ⟨0, 0, 0, a, _, c, none, 0, 0, none, by rw [hk, hs], (fun h => by rw [hk] at h; cases h), hb⟩
theorem kM_range (ts : List GTxn) (level B : Int) : 1 ≤ kM ts level B ∧ kM ts level B ≤ 3 := by
  unfold kM; split
  · omega
  · split
    · omega
    · split <;> omega
end Go.Proofs.YtnacoplokjdglaaGreat
