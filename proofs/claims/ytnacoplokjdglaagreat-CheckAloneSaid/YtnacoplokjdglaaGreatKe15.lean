/- Texts of one proof, one behind the other: HsAns, OfE, HsOf. -/
import Derived.Lib.SliceRun
import Derived.Test.YtnacoplokjdglaaGreatKe1
import Derived.Test.YtnacoplokjdglaaGreatKe2
import Derived.Test.YtnacoplokjdglaaGreatKe3
import Derived.Test.YtnacoplokjdglaaGreatKe4
import Derived.Test.YtnacoplokjdglaaGreatKe13
import Derived.Test.YtnacoplokjdglaaGreatKe14
set_option linter.all false
namespace Go.Proofs.YtnacoplokjdglaaGreat
open Go.RowKit Go.Maps
/-- What was written so far, by keys. -/
def ownP (l : List GOp) : List (Int × Int) := l.foldl (fun s o => if o.kind = 2 then putM s o.key o.val else s) []
theorem ownP_next {l : List GOp} {k : Nat} {o : GOp} (h : l[k]? = some o) : ownP (l.take (k + 1)) = if o.kind = 2 then putM (ownP (l.take k)) o.key o.val else ownP (l.take k) := by
  unfold ownP; rw [take_at h, List.foldl_append]; rfl
theorem ownP_get (l : List GOp) : ∀ (n : Nat) (key : Int), getM (ownP (l.take n)) key = lstW (l.take n) key := by
  intro n
  induction n with
  | zero => intro key; rfl
  | succ n ih =>
    intro key
    cases ho : l[n]? with
    | none =>
      have : l.take (n + 1) = l.take n := by rw [List.take_of_length_le (by have := List.getElem?_eq_none_iff.1 ho; omega), List.take_of_length_le (by have := List.getElem?_eq_none_iff.1 ho; omega)]
      rw [this]; exact ih key
    | some o =>
      rw [ownP_next ho, take_at ho, lstW_snoc]
      by_cases h2 : o.kind = 2
      · rw [if_pos h2, getM_put, ih]
        by_cases hk : o.key = key
        · rw [if_pos hk, if_pos ⟨h2, hk⟩]
        · rw [if_neg hk, if_neg (fun h => hk h.2)]
      · rw [if_neg h2, ih, if_neg (fun h => h2 h.1)]

/-- What hist.answer answers. -/
def AnsHQ (l : List GOp) (e : GEvent) (w : World) (r : Ending) (w' : World) : Prop := ∃ n : Int, r = .returned (.int .i64 n) ∧ (n = 0 ↔ EndOK l e) ∧ Below w.heap.size w w'
theorem AnsHQ.bad {l : List GOp} {e : GEvent} {w w' : World} {r : Ending} {n : Int} (h : r = .returned (.int .i64 n)) (hn : n ≠ 0) (hno : ¬ EndOK l e) (hb : Below w.heap.size w w') : AnsHQ l e w r w' := ⟨n, h, ⟨fun h => absurd h hn, fun h => absurd h hno⟩, hb⟩
theorem AnsHQ.good {l : List GOp} {e : GEvent} {w w' : World} {r : Ending} (h : r = .returned (.int .i64 0)) (ho : EndOK l e) (hb : Below w.heap.size w w') : AnsHQ l e w r w' := ⟨0, h, ⟨fun _ => ho, fun _ => rfl⟩, hb⟩

set_option maxRecDepth 100000 in
set_option maxHeartbeats 8000000 in
theorem answerH_call (v u : Value) (l : List GOp) (e : GEvent) (w : World) (hv : RdOps w v l) (hu : RdOps w u e.ops) (hr : RightEv e) :
    Calls Tryz.prog 59 #[v, .agg #[vi e.kind, vi e.client, u]] w (AnsHQ l e w) := by
  obtain ⟨kind, client, m⟩ := e
  have HB0 := Lib.hid ((Below.refl w.heap.size w).alloc (Nat.le_refl _) (.cells #[vi kind, vi client, u] 53))
  have HV := Lib.hid hv
  have HU := Lib.hid hu
  have HR := Lib.hid hr
  obtain ⟨a, len, cap, rfl, rfl, hm1, -⟩ := hv.at
  obtain ⟨a2, len2, cap2, rfl, rfl, hm2, -⟩ := hu.at
  have hml : m.length ≤ 12 := hr.good.len
  have hmm := @run_makeMap Tryz.prog
  clear hv hu hr
  show Calls Tryz.prog 59 #[.slice a l.length cap, .agg #[vi kind, vi client, .slice a2 m.length cap2]] w _
  go_enter Tryz.func59, Tryz.ntmps59
  by_cases h2 : kind = 2
  · have c2 := bne_f h2
    have H2 := Lib.hid h2
    have HEO := Lib.hid (show EndOK l ⟨kind, client, m⟩ = AnsOK l m from by unfold EndOK; rw [if_pos h2])
    clear h2
    by_cases hl : (l.length : Int) = (m.length : Int)
    · have HL := Lib.hid (show l.length = m.length by omega)
      have hlb : ((l.length : Int) != (m.length : Int)) = false := bne_f hl
      clear hl
      go_wp2_with fail
      have HX0 := Lib.hid (show ((w.alloc (.cells #[vi kind, vi client, .slice a2 m.length cap2] 53)).alloc (.map #[] 0)).heap[w.heap.size]? = some (.cells #[vi kind, vi client, .slice a2 m.length cap2] 53) from (Below.heap_alloc _ _ _ (by simp)).trans (alloc_at w _))
      have HM0 := Lib.hid (MapT.made (P := Tryz.prog) (k := 3) (eK := vi) (eV := vi) (w.alloc (.cells #[vi kind, vi client, .slice a2 m.length cap2] 53)))
      have HBA := Lib.hid (HB0.out.alloc (by simp) (.map #[] 0))
      have hw1 : ((w.alloc (.cells #[vi kind, vi client, .slice a2 m.length cap2] 53)).alloc (.map #[] 0)).heap.size = w.heap.size + 2 := by simp
      have hw0 : (w.alloc (.cells #[vi kind, vi client, .slice a2 m.length cap2] 53)).heap.size = w.heap.size + 1 := by simp
      rw [hw0] at HM0
      clear hmm hw0
      generalize ((w.alloc (.cells #[vi kind, vi client, .slice a2 m.length cap2] 53)).alloc (.map #[] 0)) = w1 at *
      go_loopw [6, 7, 8, 9, 10, 28] (fun _ _ _ _ _ n wr => ∃ k : Nat, k ≤ m.length ∧ n = .int .i64 k ∧ Hid (ShapeN l m k ∧ OwnN m k) ∧ Hid (MapT Tryz.prog 3 vi vi wr (w.heap.size + 1) (ownP (m.take k))) ∧ w.heap.size + 2 ≤ wr.heap.size ∧ Hid (Below (w.heap.size + 1) w1 wr)) (fun _ _ _ _ _ n _ => m.length - (intOf n).toNat)
      case atStart => exact ⟨0, Nat.zero_le _, rfl, Lib.hid ⟨fun i o p h => absurd h (Nat.not_lt_zero _), fun i o v h => absurd h (Nat.not_lt_zero _)⟩, HM0, by omega, Lib.hid (Below.refl _ _)⟩
      case round =>
        obtain ⟨wk, rfl⟩ : ∃ wk : World, wk = wr := ⟨_, rfl⟩
        obtain ⟨k, hk, rfl, HF, HM, hwk, HBk⟩ := hrel
        have HBW := Lib.hid (HBA.out.trans (HBk.out.mono (by omega)))
        by_cases hlt : k < m.length
        · have hkM : (k : Int) < (m.length : Int) := by omega
          have hkL : (k : Int) < (l.length : Int) := by have := HL.out; omega
          obtain ⟨o, ho⟩ := some_at hlt
          obtain ⟨p, hp⟩ := some_at (l := l) (k := k) (by have := HL.out; omega)
          obtain ⟨_, _, _, e5, -, -, hcl⟩ := (HU.out.later HBW.out).at
          cases e5
          obtain ⟨b, off, rfl, k0, k1, k2⟩ := hcl k o ho
          obtain ⟨_, _, _, e5, -, -, hcl2⟩ := (HV.out.later HBW.out).at
          cases e5
          obtain ⟨b2, off2, rfl, m0, m1, m2⟩ := hcl2 k p hp
          have HO := Lib.hid ho
          have HP := Lib.hid hp
          have HGO := Lib.hid (HR.out.good.ops o (List.mem_of_getElem? ho))
          have HK := Lib.hid (intKey (n := o.key) (by have := HGO.out.key0; have := HGO.out.key1; unfold i64; omega))
          clear hcl hcl2 ho hp
          have m0' : ∀ o', (wk.alloc o').cell? ⟨b2, off2 + k * 3, none⟩ = some (vi p.kind) := fun o' => by rw [World.cell?_alloc_past _ _ _ (World.block_lt_of_cell? wk _ m0)]; exact m0
          have m1' : ∀ o', (wk.alloc o').cell? ⟨b2, off2 + k * 3 + 1, none⟩ = some (vi p.key) := fun o' => by rw [World.cell?_alloc_past _ _ _ (World.block_lt_of_cell? wk _ m1)]; exact m1
          have m2' : ∀ o', (wk.alloc o').cell? ⟨b2, off2 + k * 3 + 2, none⟩ = some (vi p.val) := fun o' => by rw [World.cell?_alloc_past _ _ _ (World.block_lt_of_cell? wk _ m2)]; exact m2
          have hz1 : wk.heap.size < (wk.alloc (.cells #[vi o.kind, vi o.key, vi o.val] 51)).heap.size := by simp
          go_upto_region 12 with fail
          have HXo := Lib.hid (show ((wk.alloc (.cells #[vi o.kind, vi o.key, vi o.val] 51)).alloc (.cells #[vi p.kind, vi p.key, vi p.val] 51)).heap[wk.heap.size]? = some (.cells #[vi o.kind, vi o.key, vi o.val] 51) from (Below.heap_alloc _ _ _ (by simp)).trans (alloc_at wk _))
          have HXp := Lib.hid (show ((wk.alloc (.cells #[vi o.kind, vi o.key, vi o.val] 51)).alloc (.cells #[vi p.kind, vi p.key, vi p.val] 51)).heap[wk.heap.size + 1]? = some (.cells #[vi p.kind, vi p.key, vi p.val] 51) from by have := alloc_at (wk.alloc (.cells #[vi o.kind, vi o.key, vi o.val] 51)) (.cells #[vi p.kind, vi p.key, vi p.val] 51); simpa using this)
          have HB2 := Lib.hid ((HBk.out.alloc (by have := HBk.out.size; omega) (.cells #[vi o.kind, vi o.key, vi o.val] 51)).alloc (by have := HBk.out.size; simp; omega) (.cells #[vi p.kind, vi p.key, vi p.val] 51))
          have HM2 := Lib.hid (HM.out.frame (w' := (wk.alloc (.cells #[vi o.kind, vi o.key, vi o.val] 51)).alloc (.cells #[vi p.kind, vi p.key, vi p.val] 51)) (by rw [Below.heap_alloc _ _ _ (by simp; omega), Below.heap_alloc _ _ _ (by omega)]))
          have hsz2 : ((wk.alloc (.cells #[vi o.kind, vi o.key, vi o.val] 51)).alloc (.cells #[vi p.kind, vi p.key, vi p.val] 51)).heap.size = wk.heap.size + 2 := by simp
          clear k0 k1 k2 m0 m1 m2 m0' m1' m2' hz1
          generalize (wk.alloc (.cells #[vi o.kind, vi o.key, vi o.val] 51)).alloc (.cells #[vi p.kind, vi p.key, vi p.val] 51) = w2 at *
          have HBX := Lib.hid (HBA.out.trans (HB2.out.mono (by omega)))
          have q0 : w2.cell? ⟨wk.heap.size, 0, none⟩ = some (vi o.kind) := by rw [cell_of HXo.out]; rfl
          have q1 : w2.cell? ⟨wk.heap.size, 1, none⟩ = some (vi o.key) := by rw [cell_of HXo.out]; rfl
          have q2 : w2.cell? ⟨wk.heap.size, 2, none⟩ = some (vi o.val) := by rw [cell_of HXo.out]; rfl
          have p0 : w2.cell? ⟨wk.heap.size + 1, 0, none⟩ = some (vi p.kind) := by rw [cell_of HXp.out]; rfl
          have p1 : w2.cell? ⟨wk.heap.size + 1, 1, none⟩ = some (vi p.key) := by rw [cell_of HXp.out]; rfl
          have p2 : w2.cell? ⟨wk.heap.size + 1, 2, none⟩ = some (vi p.val) := by rw [cell_of HXp.out]; rfl
          by_cases d1 : o.kind = p.kind
          case neg =>
            have e1 := bne_t d1
            have HNO := Lib.hid (show ¬ EndOK l ⟨kind, client, m⟩ from by rw [HEO.out]; exact fun h => d1 (h.2.1 k o p hlt HO.out HP.out).1)
            clear d1
            go_wp2_with fail
            go_ret
            exact .bad rfl (by decide) HNO.out HBX.out
          have e1 := bne_f d1
          have D1 := Lib.hid d1
          clear d1
          by_cases d2 : o.key = p.key
          case neg =>
            have e2 := bne_t d2
            have HNO := Lib.hid (show ¬ EndOK l ⟨kind, client, m⟩ from by rw [HEO.out]; exact fun h => d2 (h.2.1 k o p hlt HO.out HP.out).2.1)
            clear d2
            go_wp2_with fail
            go_ret
            exact .bad rfl (by decide) HNO.out HBX.out
          have e2 := bne_f d2
          have D2 := Lib.hid d2
          clear d2
          have hlk := (MapT.lookup intKeyed vi_inj (t := 115) (e := 3) Tryz.underlying115 HM2.out o.key HK.out (zeroI w2)).2
          have HGE := Lib.hid (ownP_get m k o.key)
          by_cases d3 : o.kind = 2
          · have e3 := beq_t d3
            have D3 := Lib.hid d3
            have HNX := Lib.hid (show ownP (m.take (k + 1)) = putM (ownP (m.take k)) o.key o.val from by rw [ownP_next HO.out, if_pos d3])
            clear d3
            by_cases d4 : o.val = p.val
            case neg =>
              have e4 := bne_t d4
              have HNO := Lib.hid (show ¬ EndOK l ⟨kind, client, m⟩ from by rw [HEO.out]; exact fun h => d4 ((h.2.1 k o p hlt HO.out HP.out).2.2 D3.out))
              clear d4
              go_wp2_with fail
              go_ret
              exact .bad rfl (by decide) HNO.out HBX.out
            have e4 := bne_f d4
            have HSN := Lib.hid (show ShapeN l m (k + 1) ∧ OwnN m (k + 1) from ⟨HF.out.1.next HO.out HP.out ⟨D1.out, D2.out, fun _ => d4⟩, HF.out.2.next HO.out (fun v h => absurd D3.out h)⟩)
            clear d4
            go_wp2_with (at_mapUpdate; refine wpList_mapUpdate_T (b := w.heap.size + 1) (eK := vi) (eV := vi) rfl _ _ _ rfl intKeyed vi_inj Tryz.underlying115 HM2.out rfl o.key HK.out rfl o.val rfl ?_; intro w3 hM3 hg3)
            go_roundw
            case rel =>
              refine ⟨k + 1, by omega, by go_num, HSN, Lib.hid ?_, by have := hg3.size; omega, Lib.hid (HB2.out.grown hg3 (by have := HB2.out.size; omega) (fun j hj => by cases hj; omega))⟩
              rw [HNX.out]; exact hM3
            case measure => simp [intOf]; omega
          · have e3 := beq_f d3
            have D3 := Lib.hid d3
            have HNX := Lib.hid (show ownP (m.take (k + 1)) = ownP (m.take k) from by rw [ownP_next HO.out, if_neg d3])
            have HSN := Lib.hid (show ShapeN l m (k + 1) from HF.out.1.next HO.out HP.out ⟨D1.out, D2.out, fun h => absurd h d3⟩)
            clear d3
            cases hg : getM (ownP (m.take k)) o.key with
            | none =>
              rw [hg] at hlk
              have HON := Lib.hid (show OwnN m (k + 1) from HF.out.2.next HO.out (fun v _ hv => by rw [← HGE.out, hg] at hv; cases hv))
              simp only [Option.map_none, Option.getD_none, Option.isSome_none] at hlk
              clear hg
              go_wp2_with fail
              go_roundw
              case rel => exact ⟨k + 1, by omega, by go_num, Lib.hid ⟨HSN.out, HON.out⟩, Lib.hid (by rw [HNX.out]; exact HM2.out), by omega, HB2⟩
              case measure => simp [intOf]; omega
            | some y =>
              rw [hg] at hlk
              simp only [Option.map_some, Option.getD_some, Option.isSome_some] at hlk
              by_cases d4 : y = o.val
              · have e4 := bne_f d4
                have HON := Lib.hid (show OwnN m (k + 1) from HF.out.2.next HO.out (fun v _ hv => by rw [← HGE.out, hg] at hv; cases hv; exact d4))
                clear hg d4
                go_wp2_with fail
                go_roundw
                case rel => exact ⟨k + 1, by omega, by go_num, Lib.hid ⟨HSN.out, HON.out⟩, Lib.hid (by rw [HNX.out]; exact HM2.out), by omega, HB2⟩
                case measure => simp [intOf]; omega
              · have e4 := bne_t d4
                have HNO := Lib.hid (show ¬ EndOK l ⟨kind, client, m⟩ from by
                  rw [HEO.out]
                  exact fun h => d4 (h.2.2 k o y hlt HO.out D3.out (by rw [← HGE.out]; exact hg)))
                clear hg d4
                go_wp2_with fail
                go_ret
                exact .bad rfl (by decide) HNO.out HBX.out
        · obtain rfl : k = m.length := by omega
          have HE := Lib.hid (show EndOK l ⟨kind, client, m⟩ from by rw [HEO.out]; exact ⟨HL.out, HF.out.1, HF.out.2⟩)
          go_wp2_with fail
          go_ret
          exact .good rfl HE.out HBW.out
    · have hlb : ((l.length : Int) != (m.length : Int)) = true := bne_t hl
      have HNO := Lib.hid (show ¬ EndOK l ⟨kind, client, m⟩ from by rw [HEO.out]; exact fun h => hl (by rw [h.1]))
      clear hl
      go_wp2_with fail
      go_ret
      exact .bad rfl (by decide) HNO.out HB0.out
  · have c2 := bne_t h2
    have HEO := Lib.hid (show EndOK l ⟨kind, client, m⟩ = (m = []) from by unfold EndOK; rw [if_neg h2])
    clear h2
    by_cases h0 : (m.length : Int) = 0
    · have c3 := bne_f h0
      have HE := Lib.hid (show EndOK l ⟨kind, client, m⟩ from by rw [HEO.out]; exact List.length_eq_zero_iff.1 (by omega))
      clear h0
      go_wp2_with fail
      go_ret
      exact .good rfl HE.out HB0.out
    · have c3 := bne_t h0
      have HE := Lib.hid (show ¬ EndOK l ⟨kind, client, m⟩ from by rw [HEO.out]; exact fun h => h0 (by rw [h]; rfl))
      clear h0
      go_wp2_with fail
      go_ret
      exact .bad rfl (by decide) HE.out HB0.out

set_option maxRecDepth 100000 in
set_option maxHeartbeats 1000000 in
theorem cloneH_call (v : Value) (l : List GOp) (w : World) (hv : RdOps w v l) (hl : l.length ≤ 1048576) :
    Calls Tryz.prog 58 #[v] w fun e w' => ∃ v', e = .returned v' ∧ OwOps w.heap.size w' v' l ∧ Below w.heap.size w w' := by
  have HO0 := Lib.hid (World.ownsRow_lit (base := w.heap.size) (e := 51) (size := 3) w #[] 0 (Nat.le_refl _) (by simp [maxLen]) rfl)
  have HB0 := Lib.hid ((Below.refl w.heap.size w).alloc (Nat.le_refl _) (.cells #[] 51))
  have HS := Lib.hid (RdOps.src (hv.later HB0.out))
  obtain ⟨a, len, cap, rfl, rfl, hm, hn⟩ : ∃ a len cap, v = .slice a len cap ∧ len = l.length ∧ l.length ≤ 9223372036854775807 ∧ (a = none → len = 0 ∧ cap = 0) := by
    obtain ⟨a, len, cap, h1, h2, h3, -, h5, -⟩ := hv
    exact ⟨a, len, cap, h1, h2, h3, h5⟩
  clear hv
  have qT : ∀ (w : World) (a : Option Addr) (n c : Nat), (binOp .eql 47 (.slice a n c) (.slice none 0 0)).run Tryz.prog w = .ok (.bool a.isNone) w := fun w a n c => Lib.run_eql_slice_nil w _ _ a n c 0 0 Tryz.underlying47
  cases a with
  | none =>
    obtain ⟨h0, rfl⟩ := hn rfl
    have hbs : l = [] := List.length_eq_zero_iff.1 h0
    subst hbs
    go_enter Tryz.func58, Tryz.ntmps58
    go_wp2_with fail
    go_ret
    exact ⟨_, rfl, World.ownsRow_nil _ _ _ _, Below.refl _ _⟩
  | some ad =>
    go_enter Tryz.func58, Tryz.ntmps58
    go_wp2_with (at_builtin; refine wpList_append_src rfl _ _ 47 rfl eltOp w.heap.size 0 [] HO0.out rfl l.length _ HS.out rfl opV_one (by omega) (by omega) (by simp) ?_; intro v1 w1 hown hg _)
    go_ret
    exact ⟨_, rfl, by simpa [OwOps] using hown, HB0.out.grown hg (by simp) (by simp [Value.ownBlock])⟩
end Go.Proofs.YtnacoplokjdglaaGreat

namespace Go.Proofs.YtnacoplokjdglaaGreat
open Go.RowKit Go.Maps

/-- What crucibleref05.Of answers, exactly. -/
def OfQE (es : List GEvent) (w : World) (r : Ending) (w' : World) : Prop := ∃ (v : Value) (p err : Int), r = .returned (.tuple #[v, .int .i64 p, .int .i64 err]) ∧ (err = 0 → ∃ ts, histH es = some ts ∧ RdTxns w' v ts) ∧ (err ≠ 0 → histH es = none) ∧ (∃ a n c, v = .slice a n c) ∧ Below w.heap.size w w'
theorem OfQE.bad {es : List GEvent} {w w' : World} {r : Ending} {p err : Int} (h : r = .returned (.tuple #[.slice none 0 0, .int .i64 p, .int .i64 err])) (he : err ≠ 0) (hn : histH es = none) (hb : Below w.heap.size w w') : OfQE es w r w' := ⟨_, p, err, h, (fun h => absurd h he), (fun _ => hn), ⟨_, _, _, rfl⟩, hb⟩
theorem OfQE.good {es : List GEvent} {w w' : World} {r : Ending} {v : Value} {ts : List GTxn} (h : r = .returned (.tuple #[v, .int .i64 0, .int .i64 0])) (hr : RdTxns w' v ts) (hg : histH es = some ts) (hb : Below w.heap.size w w') : OfQE es w r w' := ⟨v, 0, 0, h, (fun _ => ⟨ts, hg, hr⟩), (fun h => absurd rfl h), by obtain ⟨a, n, c, rfl, -⟩ := hr; exact ⟨_, _, _, rfl⟩, hb⟩

end Go.Proofs.YtnacoplokjdglaaGreat

namespace Go.Proofs.YtnacoplokjdglaaGreat
open Go.RowKit Go.Maps

theorem addW_append (l m : List GOp) : ∀ wr : List (Int × Bool), addW wr (l ++ m) = (addW wr l).bind fun wr' => addW wr' m := by
  induction l with
  | nil => intro wr; rfl
  | cons o l ih =>
    intro wr
    rw [List.cons_append, addW, addW]
    split
    · split
      · rfl
      · exact ih _
    · exact ih _
theorem addW_next {wr : List (Int × Bool)} {l : List GOp} {k : Nat} {o : GOp} (h : l[k]? = some o) : addW wr (l.take (k + 1)) = (addW wr (l.take k)).bind fun wr' => addW wr' [o] := by
  rw [take_at h, addW_append]
theorem addW_stop {wr : List (Int × Bool)} {l : List GOp} {k : Nat} (h : addW wr (l.take k) = none) : addW wr l = none := by
  rw [← List.take_append_drop k l, addW_append, h]; rfl

theorem set_self_at {α : Type} {l : List α} {m : Nat} {x : α} (h : l[m]? = some x) : l.set m x = l := by
  apply List.ext_getElem?
  intro i
  rw [List.getElem?_set]
  split
  · rename_i e1
    subst e1
    rw [if_pos (List.getElem?_eq_some_iff.1 h).1, h]
  · rfl
theorem own_map {A B : World} {b n m mo c : Nat} {e : TypeId} {v : Value} {xs : List Value} {es : Array MapEntry} (h : A.ownsRow b e n v m xs) (ho : A.heap[mo]? = some (.map es c)) (hg : A.grownBy B (some mo)) : B.ownsRow b e n v m xs :=
  h.kept hg (by
    cases hv : v.ownBlock with
    | none => exact .inl rfl
    | some k =>
      refine .inr (fun e1 => ?_)
      rcases h.2 with ⟨h1, _⟩ | ⟨g, cap, cur, h1, _, hh, _⟩
      · rw [h1] at hv; cases hv
      · rw [h1] at hv
        have e2 : g = k := by simpa [Value.ownBlock] using hv
        have e3 : k = mo := by simpa using e1
        subst e2; subst e3
        rw [ho] at hh; cases hh)
theorem map_row {A B : World} {b n m mo : Nat} {e kt : TypeId} {κ ν : Type} {eK : κ → Value} {eV : ν → Value} {L : List (κ × ν)} {v : Value} {xs : List Value} (h : A.ownsRow b e n v m xs) (hm : MapT Tryz.prog kt eK eV A mo L) (hg : A.grownBy B v.ownBlock) : MapT Tryz.prog kt eK eV B mo L :=
  hm.kept hg (fun e1 => by
    obtain ⟨es, c, ho, _⟩ := hm
    rcases h.2 with ⟨h1, _⟩ | ⟨g, cap, cur, h1, _, hh, _⟩
    · rw [h1] at e1; cases e1
    · rw [h1] at e1
      have e2 : mo = g := by simpa [Value.ownBlock] using e1
      subst e2
      rw [ho] at hh; cases hh)
theorem map_is {κ ν : Type} {P : Program} {k : TypeId} {eK : κ → Value} {eV : ν → Value} {w : World} {b : Nat} {L : List (κ × ν)} (h : MapT P k eK eV w b L) : ∃ es c, w.heap[b]? = some (.map es c) := by
  obtain ⟨es, c, ho, _⟩ := h; exact ⟨es, c, ho⟩
theorem OfS.mapped {w A B : World} {vo vf : Value} {L : TxL} {F : List Nat} {mo c : Nat} {es : Array MapEntry} (h : OfS w vo vf L F A) (ho : A.heap[mo]? = some (.map es c)) (hN : w.heap.size ≤ mo) (hg : A.grownBy B (some mo)) : OfS w vo vf L F B :=
  ⟨own_map h.out ho hg, fun p hp => own_map (h.ops p hp) ho hg, own_map h.frm ho hg, h.below.grown hg h.below.size (fun j hj => by cases hj; exact hN)⟩

/-- What hist.Of keeps of memory. -/
structure HoS (w : World) (vo : Value) (L : TxL) (s : HSt) (W : World) : Prop where
  of_ : OfS w vo (.slice none 0 0) L [] W
  opn : MapT Tryz.prog 3 vi vi W w.heap.size s.op
  wr : MapT Tryz.prog 3 vi Value.bool W (w.heap.size + 1) s.wr
  lm : L.map (·.1) = s.ts
theorem HoS.later {w A B : World} {vo : Value} {L : TxL} {s : HSt} (h : HoS w vo L s A) (hb : Below A.heap.size A B) : HoS w vo L s B :=
  ⟨h.of_.later hb, h.opn.below hb h.opn.lt, h.wr.below hb h.wr.lt, h.lm⟩
theorem HoS.more {w A : World} {vo : Value} {L : TxL} {s : HSt} (h : HoS w vo L s A) (o : Obj) : HoS w vo L s (A.alloc o) := h.later ((Below.refl _ _).alloc (Nat.le_refl _) _)
theorem HoS.putO {w A B : World} {vo : Value} {L : TxL} {s : HSt} {op' : List (Int × Int)} (h : HoS w vo L s A) (hg : A.grownBy B (some w.heap.size)) (hm : MapT Tryz.prog 3 vi vi B w.heap.size op') : HoS w vo L ⟨s.ts, op', s.wr⟩ B := by
  obtain ⟨es, c, ho⟩ := map_is h.opn
  exact ⟨h.of_.mapped ho (Nat.le_refl _) hg, hm, h.wr.kept hg (by simp), h.lm⟩
theorem HoS.putW {w A B : World} {vo : Value} {L : TxL} {s : HSt} {wr' : List (Int × Bool)} (h : HoS w vo L s A) (hg : A.grownBy B (some (w.heap.size + 1))) (hm : MapT Tryz.prog 3 vi Value.bool B (w.heap.size + 1) wr') : HoS w vo L ⟨s.ts, s.op, wr'⟩ B := by
  obtain ⟨es, c, ho⟩ := map_is h.wr
  exact ⟨h.of_.mapped ho (by omega) hg, h.opn.kept hg (by simp), hm, h.lm⟩
theorem HoS.push {w A B : World} {vo vo' : Value} {L : TxL} {s : HSt} {p : GTxn × Value} (h : HoS w vo L s A) (hg : A.grownBy B vo.ownBlock) (ho : B.ownsRow w.heap.size 49 3 vo' (L.length + 1) (L.flatMap txV ++ txV p)) (hp : OwOps w.heap.size A p.2 p.1.ops) : HoS w vo' (L ++ [p]) ⟨s.ts ++ [p.1], s.op, s.wr⟩ B :=
  ⟨h.of_.push hg ho hp, map_row h.of_.out h.opn hg, map_row h.of_.out h.wr hg, by rw [List.map_append, h.lm]; rfl⟩
theorem HoS.set {w A : World} {L : TxL} {s : HSt} {g n cap : Nat} (h : HoS w (.slice (some ⟨g, 0, none⟩) n cap) L s A) (hn : n = L.length) {k i : Nat} {p p' : GTxn × Value} {u : Value} (hp : L[k]? = some p) (hi : i < 3) (hs : (txV p).set i u = txV p') (ho : OwOps w.heap.size A p'.2 p'.1.ops) :
    HoS w (.slice (some ⟨g, 0, none⟩) n cap) (L.set k p') ⟨s.ts.set k p'.1, s.op, s.wr⟩ (A.setCell ⟨g, k * 3 + i, none⟩ u) := by
  have h1 := h.of_.set hn hp hi hs ho
  have h2 : A.ownsRow w.heap.size 49 3 (.slice (some ⟨g, 0, none⟩) n cap) L.length (L.flatMap txV) := h.of_.out
  have hg : A.grownBy (A.setCell ⟨g, k * 3 + i, none⟩ u) (Value.slice (some ⟨g, 0, none⟩) n cap).ownBlock := by subst hn; exact (World.ownsRow.stored h2 (k * 3 + i) u).2
  exact ⟨h1, map_row h2 h.opn hg, map_row h2 h.wr hg, by rw [List.map_set, h.lm]⟩
theorem HoS.keep {w A : World} {L : TxL} {s : HSt} {g n cap : Nat} (h : HoS w (.slice (some ⟨g, 0, none⟩) n cap) L s A) (hn : n = L.length) {b m : Nat} {v : Value} {xs : List Value} (ho : A.ownsRow b 51 3 v m xs) (j : Nat) (u : Value) : (A.setCell ⟨g, j, none⟩ u).ownsRow b 51 3 v m xs := by
  subst hn
  have h2 : A.ownsRow w.heap.size 49 3 (.slice (some ⟨g, 0, none⟩) L.length cap) L.length (L.flatMap txV) := h.of_.out
  exact World.ownsRow.kept ho (World.ownsRow.stored h2 j u).2 (rows_apart h2 ho (by decide))
theorem HoS.shape {w A : World} {vo : Value} {L : TxL} {s : HSt} (h : HoS w vo L s A) : ∃ a c, vo = .slice a L.length c := by
  obtain ⟨a, len, c, h1, h2, -⟩ := rds_of_own (V := txV) txV_length h.of_.out
  subst h2; exact ⟨a, c, h1⟩

set_option maxRecDepth 100000 in
set_option maxHeartbeats 16000000 in
theorem hof_call (v : Value) (es : List GEvent) (w : World) (hv : RdEvents w v es) (hes : es.length ≤ 60) :
    Calls Tryz.prog 38 #[v] w (OfQE es w) := by
  have HV := Lib.hid hv
  obtain ⟨a, len, cap, rfl, rfl, hm, -⟩ := hv.at
  clear hv
  have hesI : ¬ (es.length : Int) > 400 := by omega
  have hmm := @run_makeMap Tryz.prog
  have HS0 := Lib.hid (show HoS w (.slice none 0 0) [] hst0 ((w.alloc (.map #[] 0)).alloc (.map #[] 0)) from
    ⟨⟨World.ownsRow_nil _ _ _ _, (fun p hp => by cases hp), World.ownsRow_nil _ _ _ _, ((Below.refl _ _).alloc (Nat.le_refl _) _).alloc (by simp) _⟩,
      (MapT.made (P := Tryz.prog) (k := 3) (eK := vi) (eV := vi) w).frame (Below.heap_alloc _ _ _ (by simp)),
      by simpa [hst0] using MapT.made (P := Tryz.prog) (k := 3) (eK := vi) (eV := Value.bool) (w.alloc (.map #[] 0)), rfl⟩)
  go_enter Tryz.func38, Tryz.ntmps38
  go_wp2_with fail
  clear hmm
  go_loopw [5, 8, 9, 10, 11, 12, 14, 15, 16, 24] (fun vo _ _ _ _ _ _ _ _ n wr => ∃ (i : Nat) (L : TxL) (s : HSt), i ≤ es.length ∧ n = .int .i64 i ∧ Hid (HoS w vo L s wr) ∧ Hid (runH hst0 (es.take i) = some s)) (fun _ _ _ _ _ _ _ _ _ n _ => es.length - (intOf n).toNat)
  case atStart => exact ⟨0, [], hst0, Nat.zero_le _, rfl, HS0, Lib.hid rfl⟩
  case round =>
    obtain ⟨wi, rfl⟩ : ∃ wi : World, wi = wr := ⟨_, rfl⟩
    obtain ⟨i, L, s, hi, rfl, HS, HRUN⟩ := hrel
    have HINV := Lib.hid (runH_inv hi HRUN.out)
    have HB := Lib.hid HS.out.of_.below
    have hwi := HB.out.size
    have hwr := HS.out.wr.lt
    have hLi : L.length ≤ i := by have h1 := HINV.out.len; have h2 := congrArg List.length HS.out.lm; rw [List.length_map] at h2; omega
    obtain ⟨ao, co, rfl⟩ := HS.out.shape
    by_cases hlt : i < es.length
    · obtain ⟨e, he⟩ := some_at hlt
      obtain ⟨_, _, _, e5, -, -, hcl⟩ := HV.out.at
      cases e5
      obtain ⟨b, off, oa, oc, rfl, hr, k0', k1', k2'⟩ := hcl i e he
      have k0 := cell_later HB.out k0'
      have k1 := cell_later HB.out k1'
      have k2 := cell_later HB.out k2'
      have hiI : (i : Int) < (es.length : Int) := by omega
      have hmo : e.ops.length ≤ 9223372036854775807 := by obtain ⟨_, _, _, _, _, h, _⟩ := hr.at; exact h
      have HE := Lib.hid he
      have HR := Lib.hid hr
      have HNX := Lib.hid (runH_next HRUN.out he)
      have HSTOP := Lib.hid (show stepH s e = none → histH es = none from fun h => runH_none (i := i + 1) (by rw [runH_next HRUN.out he, h]))
      clear hcl he hr k0' k1' k2'
      go_upto_region 9 with fail
      have HB1 := Lib.hid (HB.out.alloc hwi (.cells #[vi e.kind, vi e.client, .slice oa e.ops.length oc] 53))
      have HS1 := Lib.hid (HS.out.more (.cells #[vi e.kind, vi e.client, .slice oa e.ops.length oc] 53))
      have HX1 := Lib.hid (alloc_at wi (.cells #[vi e.kind, vi e.client, .slice oa e.ops.length oc] 53))
      have hw1 : (wi.alloc (.cells #[vi e.kind, vi e.client, .slice oa e.ops.length oc] 53)).heap.size = wi.heap.size + 1 := by simp
      have q0 : (wi.alloc (.cells #[vi e.kind, vi e.client, .slice oa e.ops.length oc] 53)).cell? ⟨wi.heap.size, 0, none⟩ = some (vi e.kind) := by rw [cell_of (alloc_at _ _)]; rfl
      have q1 : (wi.alloc (.cells #[vi e.kind, vi e.client, .slice oa e.ops.length oc] 53)).cell? ⟨wi.heap.size, 1, none⟩ = some (vi e.client) := by rw [cell_of (alloc_at _ _)]; rfl
      have q2 : (wi.alloc (.cells #[vi e.kind, vi e.client, .slice oa e.ops.length oc] 53)).cell? ⟨wi.heap.size, 2, none⟩ = some (.slice oa e.ops.length oc) := by rw [cell_of (alloc_at _ _)]; rfl
      have HR1 := Lib.hid (HR.out.later (HB1.out))
      clear k0 k1 k2
      generalize wi.alloc (.cells #[vi e.kind, vi e.client, .slice oa e.ops.length oc] 53) = w1 at *
      have hw1' : wi.heap.size < w1.heap.size := by omega
      go_upto_region 10 with (go_at_call 57; refine (check_call e _ _ HR1.out).mono ?_; rintro r w2 ⟨nc, rfl, hnc, hb2⟩; have HB2 := Lib.hid hb2; have HNC := Lib.hid hnc; clear hb2 hnc)
      have HBW := Lib.hid (HB1.out.trans (HB2.out.mono HB1.out.size))
      have hw2 : w1.heap.size ≤ w2.heap.size := HB2.out.size
      have HX2 := Lib.hid ((HB2.out.block _ hw1').trans HX1.out)
      have HS2 := Lib.hid (HS1.out.later HB2.out)
      have HR2 := Lib.hid (HR.out.later HBW.out)
      clear q0 q1 q2
      have q0 : w2.cell? ⟨wi.heap.size, 0, none⟩ = some (vi e.kind) := by rw [cell_of HX2.out]; rfl
      have q1 : w2.cell? ⟨wi.heap.size, 1, none⟩ = some (vi e.client) := by rw [cell_of HX2.out]; rfl
      have q2 : w2.cell? ⟨wi.heap.size, 2, none⟩ = some (.slice oa e.ops.length oc) := by rw [cell_of HX2.out]; rfl
      by_cases hn0 : nc = 0
      case neg =>
        have hnb := bne_t hn0
        have HNO := Lib.hid (HSTOP.out (stepH_wrong (fun h => hn0 (HNC.out.2 h))))
        have HN := Lib.hid hn0
        clear hn0
        go_wp2_with fail
        go_ret3
        exact .bad rfl HN.out HNO.out HBW.out
      have HG := Lib.hid (HNC.out.1 hn0)
      subst hn0
      have hol : e.ops.length ≤ 12 := HG.out.good.len
      have hcl0 := HG.out.good.cl0
      have hcl1 := HG.out.good.cl1
      have HKC := Lib.hid (intKey (n := e.client) (by unfold i64; omega))
      have hlk := (MapT.lookup intKeyed vi_inj (t := 115) (e := 3) Tryz.underlying115 HS2.out.opn e.client HKC.out (zeroI w2)).2
      cases hg : getM s.op e.client with
      | none =>
        rw [hg] at hlk
        simp only [Option.map_none, Option.getD_none, Option.isSome_none] at hlk
        have HGM := Lib.hid hg
        clear hg
        by_cases h1 : e.kind = 1
        case neg =>
          have c1 := bne_t h1
          have HNO := Lib.hid (HSTOP.out (stepH_idle HGM.out h1))
          clear h1
          go_wp2_with fail
          go_ret3
          exact .bad rfl (by decide) HNO.out HBW.out
        have c1 := bne_f h1
        have H1 := Lib.hid h1
        clear h1
        go_upto_region 17 with fail
        clear hlk
        go_loopw [14, 53] (fun _ n wr => ∃ (k : Nat) (wr' : List (Int × Bool)), k ≤ e.ops.length ∧ n = .int .i64 k ∧ Hid (addW s.wr (e.ops.take k) = some wr') ∧ Hid (HoS w (.slice ao L.length co) L ⟨s.ts, s.op, wr'⟩ wr) ∧ Hid (wr.heap[wi.heap.size]? = some (.cells #[vi e.kind, vi e.client, .slice oa e.ops.length oc] 53))) (fun _ n _ => e.ops.length - (intOf n).toNat)
        case atStart => exact ⟨0, s.wr, Nat.zero_le _, rfl, Lib.hid rfl, HS2, HX2⟩
        case round =>
          obtain ⟨wk, rfl⟩ : ∃ wk : World, wk = wr := ⟨_, rfl⟩
          obtain ⟨k, wr', hk, rfl, HAW, HSk, HXk⟩ := hrel
          have HBk := Lib.hid HSk.out.of_.below
          have hwk := HBk.out.size
          have hxk : wi.heap.size < wk.heap.size := (Array.getElem?_eq_some_iff.1 HXk.out).1
          clear q0 q1 q2
          by_cases hlk : k < e.ops.length
          · have hkI : (k : Int) < (e.ops.length : Int) := by omega
            obtain ⟨o, ho⟩ := some_at hlk
            obtain ⟨_, _, _, e5, -, -, hcl⟩ := (HR.out.later HBk.out).at
            cases e5
            obtain ⟨b2, off2, rfl, k0, k1, k2⟩ := hcl k o ho
            have HAN := Lib.hid (addW_next (wr := s.wr) ho)
            have HGO := Lib.hid (HG.out.good.ops o (List.mem_of_getElem? ho))
            have HKO := Lib.hid (intKey (n := o.val) (by have := HGO.out.val0; have := HGO.out.val1; unfold i64; omega))
            clear hcl ho
            go_upto_region 19 with fail
            have HXo := Lib.hid (alloc_at wk (.cells #[vi o.kind, vi o.key, vi o.val] 51))
            have HSa := Lib.hid (HSk.out.more (.cells #[vi o.kind, vi o.key, vi o.val] 51))
            have HXa := Lib.hid ((Below.heap_alloc wk (.cells #[vi o.kind, vi o.key, vi o.val] 51) _ hxk).trans HXk.out)
            clear k0 k1 k2
            generalize wk.alloc (.cells #[vi o.kind, vi o.key, vi o.val] 51) = wa at *
            have y0 : wa.cell? ⟨wk.heap.size, 0, none⟩ = some (vi o.kind) := by rw [cell_of HXo.out]; rfl
            have y2 : wa.cell? ⟨wk.heap.size, 2, none⟩ = some (vi o.val) := by rw [cell_of HXo.out]; rfl
            by_cases h2 : o.kind = 2
            · have c2 := beq_t h2
              have hl2 := (MapT.lookup intKeyed vi_inj (t := 116) (e := 4) Tryz.underlying116 HSa.out.wr o.val HKO.out (zeroB wa)).1
              have HST : Hid (addW s.wr (e.ops.take (k + 1)) = if (getM wr' o.val).getD false then none else some (putM wr' o.val true)) := by
                refine Lib.hid ?_
                rw [HAN.out, HAW.out]
                simp only [Option.bind_some, addW, if_pos h2]
              have H2 := Lib.hid h2
              clear h2
              have hl3 : (Instr.lookup 116 (.map (some (w.heap.size + 1))) (vi o.val) false).run Tryz.prog wa = .ok (.bool ((getM wr' o.val).getD false)) wa := by
                rw [hl2]
                cases getM wr' o.val <;> rfl
              clear hl2
              cases hb : (getM wr' o.val).getD false with
              | true =>
                rw [hb] at hl3
                have HNO := Lib.hid (HSTOP.out (by rw [stepH_new HG.out HGM.out H1.out, addW_stop (k := k + 1) (by rw [HST.out, hb]; rfl)]; rfl))
                have HBa := Lib.hid HSa.out.of_.below
                clear hb
                go_wp2_with fail
                go_ret3
                exact .bad rfl (by decide) HNO.out HBa.out
              | false =>
                rw [hb] at hl3
                have HAX := Lib.hid (show addW s.wr (e.ops.take (k + 1)) = some (putM wr' o.val true) from by rw [HST.out, hb]; rfl)
                clear hb
                go_wp2_with (at_mapUpdate; refine wpList_mapUpdate_T (b := w.heap.size + 1) (eK := vi) (eV := Value.bool) rfl _ _ _ rfl intKeyed vi_inj Tryz.underlying116 HSa.out.wr rfl o.val HKO.out rfl true rfl ?_; intro w5 hM5 hg5)
                have hxa : wi.heap.size < wa.heap.size := (Array.getElem?_eq_some_iff.1 HXa.out).1
                go_roundw
                case rel => exact ⟨k + 1, _, by omega, by go_num, HAX, Lib.hid (HSa.out.putW hg5 hM5), Lib.hid ((hg5.block _ hxa (by simp; omega)).trans HXa.out)⟩
                case measure => simp [intOf]; omega
            · have c2 := beq_f h2
              have HAX := Lib.hid (show addW s.wr (e.ops.take (k + 1)) = some wr' from by rw [HAN.out, HAW.out]; simp only [Option.bind_some, addW, if_neg h2])
              clear h2
              go_wp2_with fail
              go_roundw
              case rel => exact ⟨k + 1, wr', by omega, by go_num, HAX, HSa, HXa⟩
              case measure => simp [intOf]; omega
          · have hke : k = e.ops.length := by omega
            subst hke
            have HAF := Lib.hid (show stepH s e = some ⟨s.ts ++ [⟨e.client, 0, e.ops⟩], putM s.op e.client s.ts.length, wr'⟩ from by
              have h := HAW.out
              rw [List.take_length] at h
              rw [stepH_new HG.out HGM.out H1.out, h]; rfl)
            have HLT := Lib.hid (show (L.length : Int) = (s.ts.length : Int) from by have h2 := congrArg List.length HS.out.lm; rw [List.length_map] at h2; omega)
            have q0 : wk.cell? ⟨wi.heap.size, 0, none⟩ = some (vi e.kind) := by rw [cell_of HXk.out]; rfl
            have q1 : wk.cell? ⟨wi.heap.size, 1, none⟩ = some (vi e.client) := by rw [cell_of HXk.out]; rfl
            go_wp2_with (at_mapUpdate; refine wpList_mapUpdate_T (b := w.heap.size) (eK := vi) (eV := vi) rfl _ _ _ rfl intKeyed vi_inj Tryz.underlying115 HSk.out.opn rfl e.client HKC.out rfl (L.length : Int) rfl ?_; intro w5 hM5 hg5)
            have HS5 := Lib.hid (HSk.out.putO hg5 hM5)
            have HX5 := Lib.hid ((hg5.block _ hxk (by simp; omega)).trans HXk.out)
            have HB5 := Lib.hid HS5.out.of_.below
            have hw5 := HB5.out.size
            have HR5 := Lib.hid (HR.out.later HB5.out)
            clear q0 q1 hM5 hg5
            have q1 : w5.cell? ⟨wi.heap.size, 1, none⟩ = some (vi e.client) := by rw [cell_of HX5.out]; rfl
            have q2 : w5.cell? ⟨wi.heap.size, 2, none⟩ = some (.slice oa e.ops.length oc) := by rw [cell_of HX5.out]; rfl
            go_cut [5] (fun vo wy => ∃ ov, HoS w vo (L ++ [(⟨e.client, 0, e.ops⟩, ov)]) ⟨s.ts ++ [⟨e.client, 0, e.ops⟩], putM s.op e.client (L.length : Int), wr'⟩ wy)
            case first =>
              go_region_law (first
                | (go_simp; go_at_call 58; refine (cloneH_call _ e.ops w5.drew (HR5.out.later ((Below.refl w5.heap.size w5).drew)) (by omega)).mono ?_; rintro e6 w6 ⟨v6, rfl, ho6, hb6⟩; have HO6 := Lib.hid ho6; have HB6 := Lib.hid (((Below.refl w5.heap.size w5).drew).trans hb6); have hr6 := ho6.rd; obtain ⟨a6, n6, c6, rfl, rfl, hm6, -⟩ := hr6.at; have HS6 := Lib.hid (HS5.out.later HB6.out); have z1 := cell_later HB6.out q1; have hw6 := HB6.out.size; clear ho6 hb6 hr6)
                | (refine step_append_src rfl _ _ 24 rfl eltTxn w.heap.size L.length _ (HS6.out.more _).of_.out rfl 1 (txV (⟨e.client, 0, e.ops⟩, .slice a6 e.ops.length c6)) (src_new rfl rfl) rfl (txV_one rfl) (by omega) (by omega) (by simp; omega) ?_; intro v7 w7 hown7 hg7 _; have HS7 := Lib.hid ((HS6.out.more _).push hg7 hown7 ((own_mono HO6.out (by show w.heap.size ≤ w5.heap.size; omega)).alloc _)); clear hown7 hg7))
              all_goals
                go_wp2
                go_meet
                exact ⟨_, HS7.out⟩
            case rest =>
              obtain ⟨ov, hs7⟩ := hcut
              have HS7 := Lib.hid hs7
              clear hs7 q1 q2
              go_wp2_with fail
              go_roundw
              case rel => exact ⟨i + 1, _, _, by omega, by go_num, HS7, Lib.hid (by rw [HNX.out, HAF.out, HLT.out])⟩
              case measure => simp [intOf]; omega
      | some kk =>
        rw [hg] at hlk
        simp only [Option.map_some, Option.getD_some, Option.isSome_some] at hlk
        obtain ⟨m, rfl⟩ : ∃ m : Nat, kk = m := ⟨kk.toNat, by have := (HINV.out.op _ _ hg).1; omega⟩
        have HGM := Lib.hid hg
        have hml : m < s.ts.length := by have := (HINV.out.op _ _ hg).2; simpa using this
        clear hg
        by_cases h1 : e.kind = 1
        · have c1 := bne_f h1
          have HNO := Lib.hid (HSTOP.out (stepH_busy HGM.out h1))
          clear h1
          go_wp2_with fail
          go_ret3
          exact .bad rfl (by decide) HNO.out HBW.out
        have c1 := bne_t h1
        have H1 := Lib.hid h1
        clear h1
        have hmL : m < L.length := by have h2 := congrArg List.length HS.out.lm; rw [List.length_map] at h2; omega
        obtain ⟨⟨pt, pv⟩, hp⟩ := some_at (l := L) (k := m) (by omega)
        have HTS := Lib.hid (show s.ts[m]? = some pt from by rw [← HS.out.lm, List.getElem?_map, hp]; rfl)
        have hLb : (m : Int) < (L.length : Int) := by omega
        obtain ⟨g, cg, ego⟩ := HS.out.of_.out_shape (by omega)
        simp only [Value.slice.injEq] at ego
        obtain ⟨rfl, -, rfl⟩ := ego
        obtain ⟨w3, hdel, hM3, hg3, hs3⟩ := HS2.out.opn.delete intKeyed vi_inj (t := 115) (e := 3) Tryz.underlying115 e.client HKC.out 0
        have hxk2 : wi.heap.size < w2.heap.size := by omega
        have HS3 := Lib.hid (HS2.out.putO hg3 hM3)
        have HX3 := Lib.hid ((hg3.block _ hxk2 (by simp; omega)).trans HX2.out)
        have HB3 := Lib.hid HS3.out.of_.below
        have hw3 := HB3.out.size
        have HR3 := Lib.hid (HR.out.later HB3.out)
        have HOP := Lib.hid (HS3.out.of_.ops _ (List.mem_of_getElem? hp)).rd
        obtain ⟨ap, np, cp, hpv, hnp, hmp, -⟩ := HOP.out.at
        simp only at hpv hnp
        subst hpv
        subst hnp
        have HP := Lib.hid hp
        have hpl : pt.ops.length ≤ 12 := (HINV.out.txn pt (List.mem_of_getElem? HTS.out)).2.2
        clear hM3 hg3 hp
        go_upto_region 28 with fail
        clear hlk
        clear q0 q1 q2
        have q0 : w3.cell? ⟨wi.heap.size, 0, none⟩ = some (vi e.kind) := by rw [cell_of HX3.out]; rfl
        have q1 : w3.cell? ⟨wi.heap.size, 1, none⟩ = some (vi e.client) := by rw [cell_of HX3.out]; rfl
        have q2 : w3.cell? ⟨wi.heap.size, 2, none⟩ = some (.slice oa e.ops.length oc) := by rw [cell_of HX3.out]; rfl
        have s2 := HS3.out.of_.out_at HP.out (i := 2) rfl
        go_cut [16] (fun v wx => (∃ n : Int, v = .int .i64 n ∧ (n = 0 ↔ EndOK pt.ops e)) ∧ Below w3.heap.size w3 wx)
        case first =>
          go_still_tail 5, (by kernel_rfl)
          change wpList _ _ _ _ _ w3.drew
          go_wp2_with (go_at_call 59; refine (answerH_call _ _ pt.ops e _ (HOP.out.later ((Below.refl _ _).drew)) (HR3.out.later ((Below.refl _ _).drew)) HG.out).mono ?_; rintro r w4 ⟨n, rfl, hn, hb4⟩)
          go_meet
          exact ⟨⟨n, rfl, hn⟩, ((Below.refl w3.heap.size w3).drew).trans hb4⟩
        case rest =>
          obtain ⟨wx, rfl⟩ : ∃ wx : World, wx = wc := ⟨_, rfl⟩
          obtain ⟨⟨n, rfl, hn⟩, hb4⟩ := hcut
          have HB4 := Lib.hid hb4
          have hw4 := hb4.size
          have HN := Lib.hid hn
          clear hb4 hn q0 q1 q2 s2
          have HS4 := Lib.hid (HS3.out.later HB4.out)
          have HX4 := Lib.hid ((HB4.out.block _ (by omega)).trans HX3.out)
          have HB4W := Lib.hid HS4.out.of_.below
          have HR4 := Lib.hid (HR.out.later HB4W.out)
          by_cases hn0 : n = 0
          case neg =>
            have d1 := bne_t hn0
            have HN0 := Lib.hid hn0
            have HNO := Lib.hid (HSTOP.out (stepH_other (t := pt) HGM.out (by simpa using HTS.out) (fun h => hn0 (HN.out.2 h))))
            clear hn0
            go_wp2_with fail
            go_ret3
            exact .bad rfl HN0.out HNO.out HB4W.out
          have HST := Lib.hid (show stepH s e = some ⟨s.ts.set m (endT pt e), delM s.op e.client, s.wr⟩ from stepH_end HG.out HGM.out H1.out (by simpa using HTS.out) (HN.out.1 hn0))
          subst hn0
          have q0 : wx.cell? ⟨wi.heap.size, 0, none⟩ = some (vi e.kind) := by rw [cell_of HX4.out]; rfl
          have q2 : wx.cell? ⟨wi.heap.size, 2, none⟩ = some (.slice oa e.ops.length oc) := by rw [cell_of HX4.out]; rfl
          have hww : w.heap.size ≤ wx.heap.size := HB4W.out.size
          by_cases h2 : e.kind = 2
          · have c2 := beq_t h2
            have HET := Lib.hid (show endT pt e = ⟨pt.client, 1, e.ops⟩ by unfold endT; rw [if_pos h2])
            clear h2
            go_upto_region 36 with (go_at_call 58; refine (cloneH_call _ e.ops wx HR4.out (by omega)).mono ?_; rintro e6 w6 ⟨v6, rfl, ho6, hb6⟩; have HO6 := Lib.hid ho6; have hr6 := ho6.rd; obtain ⟨a6, n6, c6, rfl, rfl, hm6, -⟩ := hr6.at; have HS6 := Lib.hid (HS4.out.later hb6); have s1 := HS6.out.of_.out_at HP.out (i := 1) rfl; have s2 := HS6.out.of_.out_at HP.out (i := 2) rfl; have z1 := HS6.out.of_.out_free rfl (m * 3 + 1); have z2 := HS6.out.of_.out_free rfl (m * 3 + 2); clear ho6 hb6 hr6)
            have HSG := Lib.hid (HS6.out.set rfl HP.out (i := 1) (p' := (⟨pt.client, 1, pt.ops⟩, .slice ap pt.ops.length cp)) (u := vi 1) (by decide) rfl (HS6.out.of_.ops (pt, .slice ap pt.ops.length cp) (List.mem_of_getElem? HP.out)))
            have HPG := Lib.hid (show (L.set m (⟨pt.client, 1, pt.ops⟩, .slice ap pt.ops.length cp))[m]? = some (⟨pt.client, 1, pt.ops⟩, .slice ap pt.ops.length cp) from List.getElem?_set_self hmL)
            have HOG := Lib.hid (HS6.out.keep rfl (own_mono HO6.out hww) (m * 3 + 1) (vi 1))
            have HSF := Lib.hid (HSG.out.set (by rw [List.length_set]) HPG.out (i := 2) (p' := (⟨pt.client, 1, e.ops⟩, .slice a6 e.ops.length c6)) (u := .slice a6 e.ops.length c6) (by decide) rfl HOG.out)
            have HTT := Lib.hid (show (s.ts.set m ⟨pt.client, 1, pt.ops⟩).set m ⟨pt.client, 1, e.ops⟩ = s.ts.set m ⟨pt.client, 1, e.ops⟩ from by rw [List.set_set])
            go_wp2_with fail
            go_roundw
            case rel => exact ⟨i + 1, _, _, by omega, by simp, HSF, Lib.hid (by rw [HNX.out, HST.out, HET.out, HTT.out])⟩
            case measure => simp [intOf]; omega
          · have c2 := beq_f h2
            by_cases h3 : e.kind = 3
            · have c3 := beq_t h3
              have HET := Lib.hid (show endT pt e = ⟨pt.client, 2, pt.ops⟩ by unfold endT; rw [if_neg h2, if_pos h3])
              have s1 := HS4.out.of_.out_at HP.out (i := 1) rfl
              have z1 := HS4.out.of_.out_free rfl (m * 3 + 1)
              clear h2 h3
              go_wp2_with fail
              have HSF := Lib.hid (HS4.out.set rfl HP.out (i := 1) (p' := (⟨pt.client, 2, pt.ops⟩, .slice ap pt.ops.length cp)) (u := vi 2) (by decide) rfl (HS4.out.of_.ops (pt, .slice ap pt.ops.length cp) (List.mem_of_getElem? HP.out)))
              go_roundw
              case rel => exact ⟨i + 1, _, _, by omega, by simp, HSF, Lib.hid (by rw [HNX.out, HST.out, HET.out])⟩
              case measure => simp [intOf]; omega
            · have c3 := beq_f h3
              have HET := Lib.hid (show endT pt e = pt by unfold endT; rw [if_neg h2, if_neg h3])
              clear h2 h3
              go_wp2_with fail
              go_roundw
              case rel =>
                refine ⟨i + 1, _, _, by omega, by go_num, HS4, Lib.hid ?_⟩
                rw [HNX.out, HST.out, HET.out, set_self_at HTS.out]
              case measure => simp [intOf]; omega
    · obtain rfl : i = es.length := by omega
      go_wp2_with fail
      go_ret3
      have hrun := HRUN.out
      rw [List.take_length] at hrun
      exact .good rfl HS.out.of_.rd (by unfold histH; rw [hrun, HS.out.lm]; rfl) HB.out
end Go.Proofs.YtnacoplokjdglaaGreat
