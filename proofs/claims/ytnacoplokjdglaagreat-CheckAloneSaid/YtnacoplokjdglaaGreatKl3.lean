/- Texts of one proof, one behind the other: CpEv, CkRes, CkAl, CkAh. -/
import Derived.Test.YtnacoplokjdglaaGreatKe1
import Derived.Test.YtnacoplokjdglaaGreatKe2
import Derived.Test.YtnacoplokjdglaaGreatKe3
import Derived.Test.YtnacoplokjdglaaGreatKe4
import Derived.Test.YtnacoplokjdglaaGreatKe5
import Derived.Test.YtnacoplokjdglaaGreatKe6
import Derived.Test.YtnacoplokjdglaaGreatKe7
import Derived.Test.YtnacoplokjdglaaGreatKe8
import Derived.Test.YtnacoplokjdglaaGreatKe9
import Derived.Test.YtnacoplokjdglaaGreatKe10
import Derived.Test.YtnacoplokjdglaaGreatKe11
import Derived.Test.YtnacoplokjdglaaGreatKe12
import Derived.Test.YtnacoplokjdglaaGreatKe13
import Derived.Test.YtnacoplokjdglaaGreatKe14
import Derived.Test.YtnacoplokjdglaaGreatKe15
import Derived.Test.YtnacoplokjdglaaGreatKe16
import Derived.Test.YtnacoplokjdglaaGreatKe17
import Derived.Test.YtnacoplokjdglaaGreatKe18
import Derived.Test.YtnacoplokjdglaaGreatKe19
import Derived.Test.YtnacoplokjdglaaGreatKe20
import Derived.Test.YtnacoplokjdglaaGreatKe21
import Derived.Test.YtnacoplokjdglaaGreatKe23
import Derived.Test.YtnacoplokjdglaaGreatKl1
import Derived.Test.YtnacoplokjdglaaGreatKl2
set_option linter.all false
namespace Go.Proofs.YtnacoplokjdglaaGreat
open Go.RowKit Go.Maps
attribute [local go_sem] Oper.semAt_some

theorem rows_keptE {N e k n N' e' k' m : Nat} {w w' : World} {v u : Value} {xs ys : List Value} (h : w.ownsRow N e k v n xs) (ho : w.ownsRow N' e' k' u m ys) (hne : e ≠ e') (hg : w.grownBy w' u.ownBlock) : w'.ownsRow N e k v n xs :=
  h.kept hg (by
    cases hv : v.ownBlock with
    | none => exact .inl rfl
    | some g =>
      right
      intro e1
      rcases rows_apart ho h (fun e2 => hne e2.symm) with h1 | h1
      · rw [hv] at h1; cases h1
      · exact h1 (by rw [hv]; exact e1))
theorem own_shapeE {w : World} {base e size n : Nat} {v : Value} {xs : List Value} (h : w.ownsRow base e size v n xs) : ∃ a c, v = .slice a n c := by
  rcases h.2 with ⟨hv, h0⟩ | ⟨g, cap, cur, hv, _⟩
  · subst h0; exact ⟨none, 0, hv⟩
  · exact ⟨_, _, hv⟩
abbrev EvL := List (Value × GEvent)
def evC (p : Value × GEvent) : List Value := [vi p.2.kind, vi p.2.client, p.1]
theorem evC_len (p : Value × GEvent) : (evC p).length = 3 := rfl
theorem Tryz.infoEv : (Tryz.prog.info? 53).map (fun i => (i.zero, i.size, i.bytes)) = some (some (.agg #[vi 0, vi 0, .slice none 0 0]), 3, 40) := by kernel_rfl
theorem eltEv : Elt Tryz.prog 22 53 3 40 (.agg #[vi 0, vi 0, .slice none 0 0]) := by
  obtain ⟨i0, hi, hz0, hz1, hz2⟩ := info_parts Tryz.infoEv
  exact ⟨Tryz.underlying22, by decide, rfl, i0, hi, hz0, hz1, hz2⟩
/-- Events: a row of their own, and a row of operations of its own for each. -/
structure CpS (N : Nat) (w : World) (v : Value) (P : EvL) : Prop where
  row : w.ownsRow N 53 3 v P.length (P.flatMap evC)
  ops : ∀ p ∈ P, OwOps N w p.1 p.2.ops
theorem CpS.later {N : Nat} {A B : World} {v : Value} {P : EvL} (h : CpS N A v P) (hb : Below A.heap.size A B) : CpS N B v P := ⟨own_below h.row hb, fun p hp => own_below (h.ops p hp) hb⟩
theorem CpS.mono {N M : Nat} {A : World} {v : Value} {P : EvL} (h : CpS N A v P) (hm : M ≤ N) : CpS M A v P := ⟨own_mono h.row hm, fun p hp => own_mono (h.ops p hp) hm⟩
theorem CpS.push {N : Nat} {A B : World} {v v' : Value} {P : EvL} {p : Value × GEvent} (h : CpS N A v P) (hg : A.grownBy B v.ownBlock) (ho : B.ownsRow N 53 3 v' (P.length + 1) (P.flatMap evC ++ evC p)) (hp : OwOps N A p.1 p.2.ops) : CpS N B v' (P ++ [p]) := by
  refine ⟨by rw [List.length_append, List.length_singleton, List.flatMap_append]; simpa using ho, fun q hq => ?_⟩
  rcases List.mem_append.1 hq with hq | hq
  · exact rows_keptE (h.ops q hq) h.row (by decide) hg
  · rw [List.mem_singleton.1 hq]; exact rows_keptE hp h.row (by decide) hg
theorem CpS.rd {N : Nat} {w : World} {v : Value} {P : EvL} (h : CpS N w v P) : RdEvents w v (P.map (·.2)) := by
  obtain ⟨a, len, cap, e1, e2, e3, e4, e5, e6⟩ := rds_of_own (V := evC) evC_len h.row
  refine ⟨a, len, cap, e1, by simpa using e2, by simpa using e3, e4, e5, fun j x hj => ?_⟩
  rw [List.getElem?_map, Option.map_eq_some_iff] at hj
  obtain ⟨q, hq, rfl⟩ := hj
  obtain ⟨b, off, cs, g1, g2, g3, rfl⟩ := e6 j q hq
  exact ⟨b, off, _, g1, g2, g3, q.1, rfl, (h.ops q (List.mem_of_getElem? hq)).rd⟩
theorem OwOps.laterE {N : Nat} {A B : World} {wv : Value} {ws : List GOp} (h : OwOps N A wv ws) (hb : Below A.heap.size A B) : OwOps N B wv ws := own_below h hb
/-- What crucibleref05.Copy answers. -/
def CopyQ (es : List GEvent) (w : World) (e : Ending) (w' : World) : Prop := ∃ v P, e = .returned v ∧ CpS w.heap.size w' v P ∧ P.map (·.2) = es ∧ Below w.heap.size w w'

set_option maxRecDepth 100000 in
set_option maxHeartbeats 8000000 in
theorem copyEv_call (v : Value) (es : List GEvent) (w : World) (hv : RdEvents w v es) (hes : es.length ≤ 60) (hops : ∀ e ∈ es, e.ops.length ≤ 1000000) :
    Calls Tryz.prog 17 #[v] w (CopyQ es w) := by
  have HV := Lib.hid hv
  have HOPS := Lib.hid hops
  obtain ⟨a, n, c, rfl, rfl, hm, -⟩ := hv.at
  have HS0 := Lib.hid (show CpS w.heap.size (w.alloc (.cells #[] 53)) (.slice (some ⟨w.heap.size, 0, none⟩) 0 0) [] from ⟨World.ownsRow_lit (base := w.heap.size) (e := 53) (size := 3) w #[] 0 (Nat.le_refl _) (by simp [maxLen]) rfl, fun p hp => (by cases hp)⟩)
  have HB0 := Lib.hid ((Below.refl w.heap.size w).alloc (Nat.le_refl _) (.cells #[] 53))
  have hw0 : (w.alloc (.cells #[] 53)).heap.size = w.heap.size + 1 := by simp
  clear hv hops
  go_enter Tryz.func17, Tryz.ntmps17
  go_upto_region 3 with fail
  generalize w.alloc (.cells #[] 53) = w0 at *
  go_loopw [3, 9] (fun o i wr => ∃ (k : Nat) (P : EvL), k ≤ es.length ∧ i = .int .i64 k ∧ Hid (CpS w.heap.size wr o P ∧ P.map (·.2) = es.take k ∧ Below w.heap.size w wr)) (fun _ i _ => es.length - (intOf i).toNat)
  case atStart => exact ⟨0, [], Nat.zero_le _, rfl, Lib.hid ⟨HS0.out, by simp, HB0.out⟩⟩
  case round =>
    obtain ⟨wi, rfl⟩ : ∃ wi : World, wi = wr := ⟨_, rfl⟩
    obtain ⟨k, P, hk, rfl, HJ⟩ := hrel
    have HS := Lib.hid HJ.out.1
    have HPE := Lib.hid HJ.out.2.1
    have HB := Lib.hid HJ.out.2.2
    have hPl : P.length = k := by
      have h := congrArg List.length HPE.out
      rw [List.length_map, List.length_take] at h
      omega
    subst hPl
    obtain ⟨oa, oc, rfl⟩ := own_shapeE HS.out.row
    clear HJ HS0 HB0
    have hbs := HB.out.size
    by_cases hlt : P.length < es.length
    · have hltI : (P.length : Int) < (es.length : Int) := by omega
      have wk1 : IntKind.i64.wrap ((P.length : Int) + 1) = ((P.length + 1 : Nat) : Int) := by rw [IntWalk.i64_in _ (by omega)]; omega
      obtain ⟨e, he⟩ := some_at hlt
      have hol := HOPS.out e (List.mem_of_getElem? he)
      obtain ⟨_, _, _, e5, _, -, hcl⟩ := (HV.out.later HB.out).at
      cases e5
      obtain ⟨b, off, va, vc, rfl, hro, k0, k1, k2⟩ := hcl P.length e he
      have HPN := Lib.hid (show es.take (P.length + 1) = es.take P.length ++ [e] from take_at he)
      have HX5 := Lib.hid (alloc_at wi (.cells #[vi e.kind, vi e.client, .slice va e.ops.length vc] 53))
      have HA5 := Lib.hid ((Below.refl wi.heap.size wi).alloc (Nat.le_refl _) (.cells #[vi e.kind, vi e.client, .slice va e.ops.length vc] 53))
      have HR5 := Lib.hid (hro.later HA5.out)
      have HS5 := Lib.hid (HS.out.later HA5.out)
      have hw5 : (wi.alloc (.cells #[vi e.kind, vi e.client, .slice va e.ops.length vc] 53)).heap.size = wi.heap.size + 1 := by simp
      have HB5 := Lib.hid (HB.out.trans (HA5.out.mono hbs))
      clear hcl hro he
      go_upto_region 5 with fail
      clear k0 k1 k2
      generalize wi.alloc (.cells #[vi e.kind, vi e.client, .slice va e.ops.length vc] 53) = w5 at *
      have q0 : w5.cell? ⟨wi.heap.size, 0, none⟩ = some (vi e.kind) := by rw [cell_of HX5.out]; rfl
      have q1 : w5.cell? ⟨wi.heap.size, 1, none⟩ = some (vi e.client) := by rw [cell_of HX5.out]; rfl
      have q2 : w5.cell? ⟨wi.heap.size, 2, none⟩ = some (.slice va e.ops.length vc) := by rw [cell_of HX5.out]; rfl
      have HBa := Lib.hid (((Below.refl w5.heap.size w5).alloc (Nat.le_refl _) (.cells #[] 51)).drew)
      have HBa0 := Lib.hid ((Below.refl w5.heap.size w5).alloc (Nat.le_refl _) (.cells #[] 51))
      have r0 := cell_later HBa0.out q0
      have r1 := cell_later HBa0.out q1
      have r2 := cell_later HBa0.out q2
      have HOa := Lib.hid (show (w5.alloc (.cells #[] 51)).drew.ownsRow w5.heap.size 51 3 (.slice (some ⟨w5.heap.size, 0, none⟩) 0 0) 0 [] from World.ownsRow_lit (base := w5.heap.size) (e := 51) (size := 3) w5 #[] 0 (Nat.le_refl _) (by simp [maxLen]) rfl)
      have HSa := Lib.hid (HR5.out.src.below HBa.out)
      have hsz5 : w.heap.size ≤ w5.heap.size := by omega
      have hwi5 : wi.heap.size < w5.heap.size := by omega
      clear hw5
      go_region_law (first
        | (refine step_append_src rfl _ _ 22 rfl eltEv w.heap.size P.length _ ((HSA.out.later ((Below.refl wA.heap.size wA).alloc (Nat.le_refl _) (.cells #[vi e.kind, vi e.client, .slice aA e.ops.length cA] 53))).row) rfl 1 (evC (.slice aA e.ops.length cA, e)) (src_new (cs := #[vi e.kind, vi e.client, .slice aA e.ops.length cA]) rfl rfl) rfl (by intro u hu; simp [evC] at hu; rcases hu with rfl | rfl | rfl <;> rfl) (by omega) (by omega) (by have := HBA.out.size; simp; omega) ?_; intro vB wB hrB hgB _; have HRB := Lib.hid hrB; have HGB := Lib.hid hgB; clear hrB hgB)
        | (refine step_append_src rfl _ _ 47 rfl eltOp w5.heap.size 0 [] HOa.out rfl e.ops.length (e.ops.flatMap opV) HSa.out rfl opV_one (by omega) (by omega) (by first | (simp; done) | (simp; omega)) ?_; intro vA wA hrA hgA _; have HRA := Lib.hid hrA; have HBA := Lib.hid (HBa.out.grown hgA (by first | (simp; done) | (simp; omega)) (fun z hz => (World.ownsRow.lt HOa.out z hz).1)); have jA0 := cell_later HBA.out q0; have jA1 := cell_later HBA.out q1; have HSA := Lib.hid (HS5.out.later HBA.out); obtain ⟨aA, cA, rfl⟩ := own_shapeE HRA.out; clear hrA hgA))
      all_goals
        have HAL := Lib.hid ((Below.refl wA.heap.size wA).alloc (Nat.le_refl _) (.cells #[vi e.kind, vi e.client, .slice aA e.ops.length cA] 53))
        have HOA := Lib.hid (show OwOps w.heap.size wA (.slice aA e.ops.length cA) e.ops from own_mono (by have h := HRA.out; rw [Nat.zero_add, List.nil_append] at h; exact h) hsz5)
        have HPU := Lib.hid ((HSA.out.later HAL.out).push (p := (.slice aA e.ops.length cA, e)) HGB.out HRB.out (HOA.out.laterE HAL.out))
        have HBW := Lib.hid (((HB5.out.trans (HBA.out.mono hsz5)).trans (HAL.out.mono (Nat.le_trans hsz5 HBA.out.size))).grown HGB.out (Nat.le_trans (Nat.le_trans hsz5 HBA.out.size) HAL.out.size) (fun z hz => (World.ownsRow.lt HSA.out.row z hz).1))
        have HMP := Lib.hid (show (P ++ [((.slice aA e.ops.length cA : Value), e)]).map (·.2) = es.take (P.length + 1) from by rw [List.map_append, HPE.out, HPN.out]; rfl)
        clear HRB HGB HOA HSA HRA HAL HBA jA0 jA1 q0 q1 q2 r0 r1 r2
        go_wp2_with fail
        exact ⟨⟨P.length + 1, _, by omega, rfl, Lib.hid ⟨HPU.out, HMP.out, HBW.out⟩⟩, by simp only [intOf]; omega⟩
    · have hke : P.length = es.length := by omega
      have HEQ := Lib.hid (show P.map (·.2) = es from by rw [HPE.out, hke, List.take_length])
      go_wp2_with fail
      go_ret
      exact ⟨_, P, rfl, HS.out, HEQ.out, HB.out⟩
end Go.Proofs.YtnacoplokjdglaaGreat

namespace Go.Proofs.YtnacoplokjdglaaGreat
open Go.RowKit Go.Maps
section
variable {ts : List GTxn} {level : Int}
theorem dn_sub {L F : FaL} (h : ∀ c b, getM L c = some b → getM F c = some b) {i : Nat} (hd : dnM ts L i = true) : dnM ts F i = true := dn_more h i hd
/-- The way that some facts say stays in them. -/
theorem leaf_in {F : FaL} (hF : nextM ts F = none) : ∀ {n : Nat} {L : FaL}, (∀ c b, getM L c = some b → getM F c = some b) → ∀ c b, getM (leafM ts (fun c => (getM F c).getD false) n L) c = some b → getM F c = some b
  | 0, L, h => h
  | n + 1, L, h => by
    unfold leafM
    cases hn : nextM ts L with
    | none => exact h
    | some c =>
      refine leaf_in hF (fun d b hd => ?_)
      rw [getM_cons] at hd
      split at hd
      · rename_i e
        simp only at e
        subst e
        have ho := next_open hn
        unfold openC at ho
        have h2 : c.kind = 1 ∨ dnM ts F c.a.toNat = true ∧ dnM ts F c.b.toNat = true := by
          rcases (choicesM_ok (nextM_some hn).1).kind with ⟨h1, _⟩ | ⟨h1, _⟩
          · exact .inl h1
          · right
            have hk2 : (c.kind != 2) = false := by rw [h1]; rfl
            rw [hk2, Bool.false_or, Bool.and_eq_true, Bool.and_eq_true] at ho
            exact ⟨dn_sub h ho.2.1, dn_sub h ho.2.2⟩
        obtain ⟨so, hs⟩ := all_said hF (nextM_some hn).1 h2
        rw [hs] at hd ⊢
        exact hd
      · exact h d b hd
theorem res_iff (hE : ∀ L, FaOk ts L → ∃ l, EdgesOf ts L l) : (tree0 ts level).res = true ↔ ∃ F, FaOk ts F ∧ ¬ Brk ts F level ∧ nextM ts F = none := by
  constructor
  · intro h
    have h1 := WT.found_res (tree0 ts level)
    rw [h] at h1
    obtain ⟨F, hF⟩ := Option.isSome_iff_exists.1 h1
    have hl := leaf_found hF
    exact ⟨F, hl.ok, hl.nb, hl.all⟩
  · rintro ⟨F, h1, h2, h3⟩
    cases hr : (tree0 ts level).res with
    | true => rfl
    | false =>
      exfalso
      have hb := tree_none (σ := fun c => (getM F c).getD false) hE (FaOk.nil ts) hr
      exact h2 (brk_up (leaf_more (FaOk.nil ts)).1 (leaf_in h3 (fun c b hc => by rw [getM_nil] at hc; cases hc)) (hE _ h1) hb)
end
end Go.Proofs.YtnacoplokjdglaaGreat

namespace Go.Proofs.YtnacoplokjdglaaGreat
open Go.RowKit Go.Maps
/-- Written once, at a key that nobody else names. -/
structure Lone (ts : List GTxn) (t : GTxn) (V : Int) : Prop where
  ops : t.ops = [⟨2, 15, V⟩]
  far : ∀ u ∈ ts, ∀ o ∈ u.ops, o.key ≠ 15
  st : 0 ≤ t.state ∧ t.state ≤ 2
section
variable {ts : List GTxn} {t : GTxn} {V : Int}
theorem at_old {i : Nat} (h : i < ts.length) : (ts ++ [t])[i]? = ts[i]? := List.getElem?_append_left h
theorem at_new : (ts ++ [t])[ts.length]? = some t := by rw [List.getElem?_append_right (Nat.le_refl _), Nat.sub_self]; rfl
theorem at_any {i : Nat} {u : GTxn} (h : (ts ++ [t])[i]? = some u) : i < ts.length ∧ ts[i]? = some u ∨ i = ts.length ∧ u = t := by
  have hl := (List.getElem?_eq_some_iff.1 h).1
  rw [List.length_append, List.length_singleton] at hl
  rcases Nat.lt_or_ge i ts.length with h1 | h1
  · rw [at_old h1] at h; exact .inl ⟨h1, h⟩
  · have : i = ts.length := by omega
    subst this
    rw [at_new] at h; cases h; exact .inr ⟨rfl, rfl⟩
theorem Lone.reads (h : Lone ts t V) : readsM t = [] := by
  unfold readsM
  split
  · rw [h.ops]; rfl
  · rfl
theorem Lone.no_wrote (h : Lone ts t V) {key val : Int} (hk : key ≠ 15) : t.ops.any (wroteB key val) = false := by
  rw [h.ops]
  simp only [List.any_cons, List.any_nil, Bool.or_false]
  unfold wroteB
  rw [show ((15 : Int) == key) = false from beq_eq_false_iff_ne.2 (fun e => hk e.symm)]
  simp
theorem Lone.far_wrote (h : Lone ts t V) {i : Nat} {u : GTxn} (hu : ts[i]? = some u) (key : Int) (hk : key = 15) : u.ops.any (wkB key) = false := by
  rw [List.any_eq_false]
  intro o ho hw
  unfold wkB at hw
  rw [Bool.and_eq_true, beq_iff_eq, beq_iff_eq] at hw
  exact h.far u (List.mem_of_getElem? hu) o ho (by rw [hw.2, hk])
theorem Lone.writer (h : Lone ts t V) {key val : Int} (hk : key ≠ 15) : writerM (ts ++ [t]) key val = writerM ts key val := by
  unfold writerM
  rw [List.findIdx?_append]
  cases hf : ts.findIdx? (fun t => t.ops.any (wroteB key val)) with
  | some i => rfl
  | none =>
    simp [List.findIdx?_cons, h.no_wrote hk]
theorem byN_same {n : Nat} (hn : n ≤ ts.length) : byN (ts ++ [t]) n = byN ts n := by
  unfold byN
  rw [List.take_append_of_le_length hn]
theorem Lone.by_ (h : Lone ts t V) {key val : Int} (hk : key ≠ 15) : getM (byN (ts ++ [t]) (ts ++ [t]).length) (key, val) = getM (byN ts ts.length) (key, val) := by
  rw [List.length_append, List.length_singleton, byN_succ at_new, foldBy_any, h.no_wrote hk, byN_same (Nat.le_refl _)]
  rfl
theorem Lone.src (h : Lone ts t V) {key val : Int} (hk : key ≠ 15) : srcM (ts ++ [t]) key val = srcM ts key val := by
  unfold srcM
  rw [h.by_ hk]
theorem writer_lt {key val : Int} : writerM ts key val < ts.length := by
  unfold writerM
  cases hf : ts.findIdx? (fun t => t.ops.any (wroteB key val)) with
  | some i =>
    have := (List.findIdx?_eq_some_iff_getElem.1 hf).1
    simp only; omega
  | none => simp only; omega
theorem Lone.flawK (h : Lone ts t V) {i : Nat} {o : GOp} (hk : o.key ≠ 15) : flawK (ts ++ [t]) i o = flawK ts i o := by
  unfold Go.Proofs.YtnacoplokjdglaaGreat.flawK
  rw [h.writer hk]
  split
  · rfl
  · split
    · rfl
    · rename_i h1
      have := writer_lt (ts := ts) (key := o.key) (val := o.val)
      rw [at_old (by omega)]
theorem Lone.key (h : Lone ts t V) {i : Nat} {u : GTxn} {o : GOp} (hu : ts[i]? = some u) (ho : o ∈ readsM u) : o.key ≠ 15 := h.far u (List.mem_of_getElem? hu) o (readsM_mem ho)
theorem flatMap_same {α β : Type} {l : List α} {f g : α → List β} (h : ∀ x ∈ l, f x = g x) : l.flatMap f = l.flatMap g := by
  induction l with
  | nil => rfl
  | cons x l ih => rw [List.flatMap_cons, List.flatMap_cons, h x List.mem_cons_self, ih (fun y hy => h y (List.mem_cons_of_mem _ hy))]
theorem Lone.flaws (h : Lone ts t V) : flawsM (ts ++ [t]) = flawsM ts := by
  unfold flawsM
  rw [List.zipIdx_append, List.flatMap_append]
  have h1 : ([t].zipIdx (0 + ts.length)).flatMap (flawT (ts ++ [t])) = [] := by
    simp [flawT, h.reads]
  rw [h1, List.append_nil]
  refine flatMap_same (fun p hp => ?_)
  unfold flawT
  refine flatMap_same (fun q hq => ?_)
  have hk := h.key (zip_mem.1 hp) (List.mem_of_getElem? (zip_mem.1 hq))
  unfold flaw1
  rw [h.flawK hk]
theorem stOf_old {i : Nat} (h : i < ts.length) : stOf (ts ++ [t]) i = stOf ts i := by unfold stOf; rw [at_old h]
theorem wrOf_old {i : Nat} (h : i < ts.length) (key : Int) : wrOf (ts ++ [t]) i key = wrOf ts i key := by unfold wrOf; rw [at_old h]
theorem deadB_old {i : Nat} (h : i < ts.length) : deadB (ts ++ [t]) i = deadB ts i := by unfold deadB; rw [stOf_old h, at_old h]
theorem Lone.sure1 (h : Lone ts t V) {i : Nat} (hi : i < ts.length) : refSure1 (ts ++ [t]) i = refSure1 ts i := by
  unfold refSure1
  rw [stOf_old hi, List.any_append]
  have h1 : [t].any (hitT (ts ++ [t]) (stOf ts i) i) = false := by simp [hitT, h.reads]
  rw [h1, Bool.or_false]
  congr 1
  have : ∀ u ∈ ts, hitT (ts ++ [t]) (stOf ts i) i u = hitT ts (stOf ts i) i u := fun u hu => by
    unfold hitT
    have : ∀ o ∈ readsM u, hitS (ts ++ [t]) (stOf ts i) i o = hitS ts (stOf ts i) i o := fun o ho => by
      unfold hitS
      rw [h.writer (h.far u hu o (readsM_mem ho))]
    rw [Bool.eq_iff_iff, List.any_eq_true, List.any_eq_true]
    exact ⟨fun ⟨o, h1, h2⟩ => ⟨o, h1, by rw [← this o h1]; exact h2⟩, fun ⟨o, h1, h2⟩ => ⟨o, h1, by rw [this o h1]; exact h2⟩⟩
  rw [Bool.eq_iff_iff, List.any_eq_true, List.any_eq_true]
  exact ⟨fun ⟨o, h1, h2⟩ => ⟨o, h1, by rw [← this o h1]; exact h2⟩, fun ⟨o, h1, h2⟩ => ⟨o, h1, by rw [this o h1]; exact h2⟩⟩
theorem refSure_at {i : Nat} (hi : i < ts.length) : (refSureN ts ts.length)[i]?.getD false = refSure1 ts i := by
  unfold refSureN
  rw [List.getElem?_map, List.getElem?_range hi]; rfl
variable (hu : Uniq ts) (hu' : Uniq (ts ++ [t]))
include hu hu'
theorem Lone.sure (h : Lone ts t V) {i : Nat} (hi : i < ts.length) : (sureM (ts ++ [t]))[i]?.getD false = (sureM ts)[i]?.getD false := by
  rw [sure_eq hu, sure_eq hu', refSure_at hi, refSure_at (by rw [List.length_append, List.length_singleton]; omega), h.sure1 hi]
theorem Lone.sure_new (h : Lone ts t V) : (sureM (ts ++ [t]))[ts.length]?.getD false = (t.state == 1) := by
  rw [sure_eq hu', refSure_at (by rw [List.length_append, List.length_singleton]; omega)]
  unfold refSure1
  have hs : stOf (ts ++ [t]) ts.length = t.state := by unfold stOf; rw [at_new]; rfl
  rw [hs]
  have : (ts ++ [t]).any (hitT (ts ++ [t]) t.state ts.length) = false := by
    rw [List.any_eq_false]
    intro u hm hh
    unfold hitT at hh
    obtain ⟨o, ho, hs⟩ := List.any_eq_true.1 hh
    obtain ⟨i, hi⟩ := List.mem_iff_getElem?.1 hm
    rcases at_any hi with ⟨h1, h2⟩ | ⟨_, rfl⟩
    · unfold hitS at hs
      rw [h.writer (h.key h2 ho), Bool.and_eq_true, beq_iff_eq] at hs
      have := writer_lt (ts := ts) (key := o.key) (val := o.val)
      omega
    · rw [h.reads] at ho; cases ho
  rw [this, Bool.or_false]
theorem Lone.isM (h : Lone ts t V) {i : Nat} (hi : i < ts.length) {F G : FaL} (hFG : getM F ⟨1, 0, i, 0⟩ = getM G ⟨1, 0, i, 0⟩) : isM (ts ++ [t]) F i = isM ts G i := by
  unfold Go.Proofs.YtnacoplokjdglaaGreat.isM
  rw [h.sure hu hu' hi, deadB_old hi, hFG]
/-- The choice of the one that is new. -/
theorem Lone.choices (h : Lone ts t V) (c : GChoice) : c ∈ choicesM (ts ++ [t]) ↔ c ∈ choicesM ts ∨ c = ⟨1, 0, ts.length, 0⟩ ∧ t.state = 0 := by
  have hlen : (ts ++ [t]).length = ts.length + 1 := by rw [List.length_append, List.length_singleton]
  have hop : ∀ i, i < ts.length → ∀ u, openB (sureM (ts ++ [t])) i u = openB (sureM ts) i u := fun i hi u => by
    unfold openB; rw [h.sure hu hu' hi]
  have hw : (writesM t.ops).length = 1 := by rw [h.ops]; rfl
  have hcm : c ∈ cmS (sureM (ts ++ [t])) (ts ++ [t]) (ts ++ [t]).length ↔ c ∈ cmS (sureM ts) ts ts.length ∨ c = ⟨1, 0, ts.length, 0⟩ ∧ t.state = 0 := by
    rw [hlen, cmS_succ at_new, List.mem_append]
    refine or_congr ?_ ?_
    · unfold cmS
      rw [List.mem_filterMap, List.mem_filterMap]
      refine exists_congr fun i => and_congr_right fun hi => ?_
      rw [List.mem_range] at hi
      rw [at_old hi]
      cases ts[i]? with
      | none => exact Iff.rfl
      | some u => simp only [Option.bind_some]; rw [hop i hi u]
    · unfold openB
      rw [h.sure_new hu hu', hw]
      by_cases h0 : t.state = 0
      · simp [h0]
      · simp [h0]
  have hbf : c ∈ befK (ts ++ [t]) 16 ↔ c ∈ befK ts 16 := by
    unfold befK
    rw [List.mem_flatMap, List.mem_flatMap]
    refine exists_congr fun key => and_congr_right fun hkey => ?_
    rw [hlen, befB_succ, List.mem_append]
    have hcond : ∀ a b, a < ts.length → b < ts.length → condB (ts ++ [t]) key a b = condB ts key a b := fun a b ha hb => by
      unfold condB; rw [stOf_old ha, stOf_old hb, wrOf_old ha, wrOf_old hb]
    have hno : ¬ c ∈ befA (ts ++ [t]) key ts.length ts.length := fun hm => by
      unfold befA at hm
      obtain ⟨a, ha, hm⟩ := List.mem_filterMap.1 hm
      rw [List.mem_range] at ha
      split at hm
      · rename_i hc
        unfold condB at hc
        simp only [Bool.and_eq_true] at hc
        obtain ⟨⟨_, h1⟩, h2⟩ := hc
        rw [wrOf_old ha] at h1
        obtain ⟨u, hu1, hu2⟩ := wr_any h1
        have h3 : ((key : Nat) : Int) = 15 := by
          obtain ⟨x, hx1, hx2⟩ := wr_any h2
          rw [at_new] at hx1
          cases hx1
          rw [h.ops] at hx2
          simp only [List.any_cons, List.any_nil, Bool.or_false] at hx2
          unfold wkB at hx2
          rw [Bool.and_eq_true, beq_iff_eq, beq_iff_eq] at hx2
          exact hx2.2.symm
        rw [h.far_wrote hu1 _ h3] at hu2; cases hu2
      · cases hm
    rw [or_iff_left hno]
    unfold befB
    rw [List.mem_flatMap, List.mem_flatMap]
    refine exists_congr fun b => and_congr_right fun hb => ?_
    rw [List.mem_range] at hb
    unfold befA
    rw [List.mem_filterMap, List.mem_filterMap]
    refine exists_congr fun a => and_congr_right fun ha => ?_
    rw [List.mem_range] at ha
    rw [hcond a b (by omega) hb]
  unfold choicesM
  rw [List.mem_append, List.mem_append, hcm, hbf]
  constructor
  · rintro ((h | h) | h)
    · exact .inl (.inl h)
    · exact .inr h
    · exact .inl (.inr h)
  · rintro ((h | h) | h)
    · exact .inl (.inl h)
    · exact .inr h
    · exact .inl (.inr h)

/-- Facts that say the same of the old ones. -/
structure LoneF (ts : List GTxn) (F G : FaL) : Prop where
  said : ∀ c : GChoice, c ≠ ⟨1, 0, ts.length, 0⟩ → getM F c = getM G c
  mem : ∀ p : GChoice × Bool, p.1.kind = 2 → (p ∈ F ↔ p ∈ G)
theorem Lone.dn (h : Lone ts t V) {F G : FaL} (hf : LoneF ts F G) {i : Nat} (hi : i < ts.length) : dnM (ts ++ [t]) F i = dnM ts G i := by
  unfold dnM
  rw [h.isM hu hu' hi (hf.said _ (fun e => by injection e with _ _ e; omega))]
theorem Lone.rds (h : Lone ts t V) {F G : FaL} (hf : LoneF ts F G) (r : GRd) : r ∈ rdsL (ts ++ [t]) (dnM (ts ++ [t]) F) ↔ r ∈ rdsL ts (dnM ts G) := by
  have key : ∀ {i : Nat} {u : GTxn} {o : GOp}, ts[i]? = some u → o ∈ readsM u → (srcM ts o.key o.val).2 = true → ((srcM ts o.key o.val).1 < 0 ∨ dnM (ts ++ [t]) F (srcM ts o.key o.val).1.toNat = true ↔ (srcM ts o.key o.val).1 < 0 ∨ dnM ts G (srcM ts o.key o.val).1.toNat = true) := fun hi ho hs => by
    rcases src_lt hs with ⟨h1, _⟩ | ⟨n, h1, h2, _⟩
    · rw [h1]; exact ⟨fun _ => .inl (by decide), fun _ => .inl (by decide)⟩
    · rw [h1, Int.toNat_natCast, h.dn hu hu' hf h2]
  rw [rds_mem, rds_mem]
  constructor
  · rintro ⟨i, u, o, h1, h2, h3, h4, h5⟩
    rcases at_any h1 with ⟨_, h6⟩ | ⟨_, rfl⟩
    · have hs := h.src (val := o.val) (h.key h6 h2)
      rw [hs] at h3 h4 h5
      exact ⟨i, u, o, h6, h2, h3, (key h6 h2 h3).1 h4, h5⟩
    · rw [h.reads] at h2; cases h2
  · rintro ⟨i, u, o, h1, h2, h3, h4, h5⟩
    have hs := h.src (val := o.val) (h.key h1 h2)
    refine ⟨i, u, o, by rw [at_old (List.getElem?_eq_some_iff.1 h1).1]; exact h1, h2, ?_, ?_, ?_⟩
    · rw [hs]; exact h3
    · rw [hs]; exact (key h1 h2 h3).2 h4
    · rw [hs]; exact h5
theorem Lone.rd_key (h : Lone ts t V) {G : FaL} {r : GRd} (hr : r ∈ rdsL ts (dnM ts G)) : r.key ≠ 15 := by
  obtain ⟨i, u, o, h1, h2, _, _, rfl⟩ := rds_mem.1 hr
  exact h.key h1 h2
theorem Lone.has (h : Lone ts t V) {F G : FaL} (hf : LoneF ts F G) {key i : Int} (hi : 0 ≤ i ∧ i < ts.length) : has1 (ts ++ [t]) (dnM (ts ++ [t]) F) key i = has1 ts (dnM ts G) key i := by
  rw [Bool.eq_iff_iff, has1_iff, has1_iff]
  constructor
  · rintro ⟨n, u, rfl, h1, h2, h3⟩
    have hn : n < ts.length := by omega
    exact ⟨n, u, rfl, by rw [← at_old (t := t) hn]; exact h1, by rw [← h.dn hu hu' hf hn]; exact h2, h3⟩
  · rintro ⟨n, u, rfl, h1, h2, h3⟩
    have hn : n < ts.length := by omega
    exact ⟨n, u, rfl, by rw [at_old hn]; exact h1, by rw [h.dn hu hu' hf hn]; exact h2, h3⟩
theorem Lone.edges (h : Lone ts t V) {F G : FaL} (hf : LoneF ts F G) (hF : FaOk (ts ++ [t]) F) (hG : FaOk ts G) (e : GEdge) : e ∈ edgeL (ts ++ [t]) F ↔ e ∈ edgeL ts G := by
  rw [edge_mem, edge_mem]
  have rd := h.rds hu hu' hf
  refine or_congr ?_ (or_congr ?_ ?_)
  · exact exists_congr fun r => and_congr_left fun _ => rd r
  · constructor
    · rintro ⟨i, u, o, r, h1, h2, h3, h4, h5, h6, h7, h8⟩
      rcases at_any h1 with ⟨hi, h9⟩ | ⟨_, rfl⟩
      · exact ⟨i, u, o, r, h9, by rw [← h.dn hu hu' hf hi]; exact h2, h3, (rd r).1 h4, h5, h6, h7, h8⟩
      · exfalso
        have ho := writesM_mem h3
        rw [h.ops, List.mem_singleton] at ho
        exact h.rd_key hu hu' ((rd r).1 h4) (by rw [h6, ho])
    · rintro ⟨i, u, o, r, h1, h2, h3, h4, h5, h6, h7, h8⟩
      have hi := (List.getElem?_eq_some_iff.1 h1).1
      exact ⟨i, u, o, r, by rw [at_old hi]; exact h1, by rw [h.dn hu hu' hf hi]; exact h2, h3, (rd r).2 h4, h5, h6, h7, h8⟩
  · have hk : ∀ c : GChoice, c ∈ choicesM ts → hasM (ts ++ [t]) (dnM (ts ++ [t]) F) c = hasM ts (dnM ts G) c := fun c hc => by
      have ho := choicesM_ok hc
      unfold hasM
      rw [h.has hu hu' hf ho.a, h.has hu hu' hf ho.b]
    constructor
    · rintro ⟨p, hp, a, b, h1, h2, h3, h4⟩
      have hc : p.1 ∈ choicesM ts := by
        rcases (h.choices hu hu' p.1).1 (hF.mem p hp) with h5 | ⟨h5, _⟩
        · exact h5
        · rw [h5] at h1; simp at h1
      refine ⟨p, (hf.mem p h1).1 hp, a, b, h1, by rw [← hk _ hc]; exact h2, h3, h4.imp_right ?_⟩
      rintro ⟨r, h5, h6⟩
      exact ⟨r, (rd r).1 h5, h6⟩
    · rintro ⟨p, hp, a, b, h1, h2, h3, h4⟩
      refine ⟨p, (hf.mem p h1).2 hp, a, b, h1, by rw [hk _ (hG.mem p hp)]; exact h2, h3, h4.imp_right ?_⟩
      rintro ⟨r, h5, h6⟩
      exact ⟨r, (rd r).2 h5, h6⟩
theorem Lone.brk (h : Lone ts t V) {level : Int} {F G : FaL} (hf : LoneF ts F G) (hF : FaOk (ts ++ [t]) F) (hG : FaOk ts G) : Brk (ts ++ [t]) F level ↔ Brk ts G level := by
  unfold Brk
  refine exists_congr fun l => and_congr_left fun _ => ?_
  unfold EdgesOf
  refine and_congr_right fun _ => forall_congr' fun e => ?_
  rw [h.edges hu hu' hf hF hG e]
theorem Lone.all (h : Lone ts t V) {F G : FaL} (hf : LoneF ts F G) (hn : t.state = 0 → ∃ so, getM F ⟨1, 0, ts.length, 0⟩ = some so) : nextM (ts ++ [t]) F = none ↔ nextM ts G = none := by
  have ho : ∀ c ∈ choicesM ts, openC (ts ++ [t]) F c = openC ts G c := fun c hc => by
    have hk := choicesM_ok hc
    have hne : c ≠ ⟨1, 0, ts.length, 0⟩ := fun e => by subst e; have := hk.a.2; simp at this
    unfold openC
    rw [hf.said c hne]
    have e1 : (Go.Proofs.YtnacoplokjdglaaGreat.isM (ts ++ [t]) F c.a.toNat).1 = (Go.Proofs.YtnacoplokjdglaaGreat.isM ts G c.a.toNat).1 := h.dn hu hu' hf (by have := hk.a; omega)
    have e2 : (Go.Proofs.YtnacoplokjdglaaGreat.isM (ts ++ [t]) F c.b.toNat).1 = (Go.Proofs.YtnacoplokjdglaaGreat.isM ts G c.b.toNat).1 := h.dn hu hu' hf (by have := hk.b; omega)
    rw [e1, e2]
  unfold nextM
  rw [List.find?_eq_none, List.find?_eq_none]
  constructor
  · intro h1 c hc
    rw [← ho c hc]
    exact h1 c ((h.choices hu hu' c).2 (.inl hc))
  · intro h1 c hc
    rcases (h.choices hu hu' c).1 hc with h2 | ⟨rfl, h3⟩
    · rw [ho c h2]; exact h1 c h2
    · obtain ⟨so, hs⟩ := hn h3
      unfold openC
      rw [hs]; simp
end
/-- The search says the same. -/
theorem Lone.res {ts : List GTxn} {t : GTxn} {V level : Int} (h : Lone ts t V) (hg : GoodTs ts) (hg' : GoodTs (ts ++ [t])) : (tree0 (ts ++ [t]) level).res = (tree0 ts level).res := by
  have hu := hg.uniq
  have hu' := hg'.uniq
  have hc0 : (⟨1, 0, ts.length, 0⟩ : GChoice) ∉ choicesM ts := fun hc => by have := (choicesM_ok hc).a.2; simp at this
  rw [Bool.eq_iff_iff, res_iff (fun L hL => edges_ex _ L), res_iff (fun L hL => edges_ex _ L)]
  constructor
  · rintro ⟨F, h1, h2, h3⟩
    have hsd : ∀ c : GChoice, c ≠ ⟨1, 0, ts.length, 0⟩ → getM F c = getM (F.filter (fun p => decide (p.1 ≠ ⟨1, 0, ts.length, 0⟩))) c := fun c hc => by
      clear h1 h2 h3
      induction F with
      | nil => rfl
      | cons p F ih =>
        rw [getM_cons, List.filter_cons]
        by_cases hp : p.1 = ⟨1, 0, ts.length, 0⟩
        · rw [if_neg (by rw [hp]; exact fun e => hc e.symm), if_neg (show ¬ decide (p.1 ≠ (⟨1, 0, (ts.length : Int), 0⟩ : GChoice)) = true from by rw [decide_eq_true_eq]; exact fun h => h hp), ih]
        · rw [if_pos (show decide (p.1 ≠ (⟨1, 0, (ts.length : Int), 0⟩ : GChoice)) = true from decide_eq_true hp), getM_cons, ih]
    have hf : LoneF ts F (F.filter (fun p => decide (p.1 ≠ ⟨1, 0, ts.length, 0⟩))) := ⟨hsd, fun p hp => by
      rw [List.mem_filter]
      refine ⟨fun hm => ⟨hm, ?_⟩, fun hm => hm.1⟩
      rw [decide_eq_true_eq]
      intro e; rw [e] at hp; simp at hp⟩
    have hG : FaOk ts (F.filter (fun p => decide (p.1 ≠ ⟨1, 0, ts.length, 0⟩))) := ⟨fun p hp => by
      rw [List.mem_filter, decide_eq_true_eq] at hp
      rcases (h.choices hu hu' p.1).1 (h1.mem p hp.1) with h4 | ⟨h4, _⟩
      · exact h4
      · exact absurd h4 hp.2, by
      have := h1.nd
      exact (List.filter_sublist.map _).nodup this⟩
    exact ⟨_, hG, fun hb => h2 ((h.brk hu hu' hf h1 hG).2 hb), (h.all hu hu' hf (fun h0 => all_said h3 ((h.choices hu hu' _).2 (.inr ⟨rfl, h0⟩)) (.inl rfl))).1 h3⟩
  · rintro ⟨G, h1, h2, h3⟩
    by_cases h0 : t.state = 0
    · have hf : LoneF ts ((⟨1, 0, ts.length, 0⟩, true) :: G) G := ⟨fun c hc => by rw [getM_cons, if_neg (fun e => hc e.symm)], fun p hp => by
        rw [List.mem_cons]
        exact ⟨fun hm => hm.resolve_left (fun e => by rw [e] at hp; simp at hp), .inr⟩⟩
      have hF : FaOk (ts ++ [t]) ((⟨1, 0, ts.length, 0⟩, true) :: G) := ⟨fun p hp => by
        rcases List.mem_cons.1 hp with rfl | hp
        · exact (h.choices hu hu' _).2 (.inr ⟨rfl, h0⟩)
        · exact (h.choices hu hu' _).2 (.inl (h1.mem p hp)), by
        rw [List.map_cons, List.nodup_cons]
        refine ⟨fun hm => ?_, h1.nd⟩
        obtain ⟨p, hp, he⟩ := List.mem_map.1 hm
        have := h1.mem p hp
        rw [he] at this
        exact hc0 this⟩
      exact ⟨_, hF, fun hb => h2 ((h.brk hu hu' hf hF h1).1 hb), (h.all hu hu' hf (fun _ => ⟨true, by rw [getM_cons, if_pos rfl]⟩)).2 h3⟩
    · have hf : LoneF ts G G := ⟨fun _ _ => rfl, fun _ _ => Iff.rfl⟩
      have hF : FaOk (ts ++ [t]) G := ⟨fun p hp => (h.choices hu hu' _).2 (.inl (h1.mem p hp)), h1.nd⟩
      exact ⟨_, hF, fun hb => h2 ((h.brk hu hu' hf hF h1).1 hb), (h.all hu hu' hf (fun h => absurd h h0)).2 h3⟩
end Go.Proofs.YtnacoplokjdglaaGreat

namespace Go.Proofs.YtnacoplokjdglaaGreat
open Go.RowKit Go.Maps
/-- Who wrote what is known as written; whose transaction is open; none is empty. -/
structure HLone (s : HSt) : Prop where
  wr : ∀ v, isWr s.wr v → ∃ t ∈ s.ts, ∃ o ∈ t.ops, o.kind = 2 ∧ o.val = v
  op : ∀ c k, getM s.op c = some k → k.toNat < s.ts.length ∧ ∃ t, s.ts[k.toNat]? = some t ∧ t.client = c
  full : ∀ t ∈ s.ts, t.ops ≠ []
theorem shape_back {l m : List GOp} (h : l.length = m.length) (hs : ShapeN l m m.length) : ∀ p ∈ l, p.kind = 2 → ∃ o ∈ m, o.kind = 2 ∧ o.val = p.val := by
  intro p hp h2
  obtain ⟨i, hi⟩ := List.mem_iff_getElem?.1 hp
  have hlt := (List.getElem?_eq_some_iff.1 hi).1
  obtain ⟨o, ho⟩ := some_at (l := m) (k := i) (by omega)
  obtain ⟨h3, _, h5⟩ := hs i o p (by omega) ho hi
  have h6 : o.kind = 2 := by rw [h3]; exact h2
  exact ⟨o, List.mem_of_getElem? ho, h6, h5 h6⟩
theorem HLone.step {s s' : HSt} {e : GEvent} (h : HLone s) (hs : stepH s e = some s') : HLone s' := by
  obtain ⟨hr, ⟨hk, h1, wr, hw, rfl⟩ | ⟨k, t, hk, h1, ht, ho, rfl⟩⟩ := stepH_some hs
  · obtain ⟨hf, hin⟩ := addW_some hw
    refine ⟨fun v hv => ?_, fun c k hc => ?_, fun t ht => ?_⟩
    · rcases (hin v).1 hv with h2 | ⟨o, ho, h2, h3⟩
      · obtain ⟨t, ht, h4⟩ := h.wr v h2
        exact ⟨t, List.mem_append_left _ ht, h4⟩
      · exact ⟨_, List.mem_append_right _ (List.mem_singleton.2 rfl), o, ho, h2, h3⟩
    · simp only at hc
      rw [getM_put] at hc
      split at hc
      · rename_i e1
        cases hc
        refine ⟨by simp, ⟨e.client, 0, e.ops⟩, ?_, e1⟩
        simp
      · obtain ⟨h2, t, h3, h4⟩ := h.op c k hc
        refine ⟨by simp; omega, t, ?_, h4⟩
        rw [List.getElem?_append_left h2]; exact h3
    · rcases List.mem_append.1 ht with ht | ht
      · exact h.full t ht
      · simp at ht; subst ht; exact hr.full (.inl h1)
  · have hlt := (List.getElem?_eq_some_iff.1 ht).1
    refine ⟨fun v hv => ?_, fun c k' hc => ?_, fun u hu => ?_⟩
    · obtain ⟨u, hu, o, hou, h2, h3⟩ := h.wr v hv
      obtain ⟨i, hi⟩ := List.mem_iff_getElem?.1 hu
      by_cases hik : k.toNat = i
      · subst hik
        rw [ht] at hi; cases hi
        have hin : endT t e ∈ s.ts.set k.toNat (endT t e) := List.mem_iff_getElem?.2 ⟨k.toNat, by rw [List.getElem?_set_self hlt]⟩
        refine ⟨_, hin, ?_⟩
        unfold endT
        unfold EndOK at ho
        split
        · rename_i hk2
          rw [if_pos hk2] at ho
          obtain ⟨o', h4, h5, h6⟩ := shape_back ho.1 ho.2.1 o hou h2
          exact ⟨o', h4, h5, by rw [h6, h3]⟩
        · split <;> exact ⟨o, hou, h2, h3⟩
      · exact ⟨u, List.mem_iff_getElem?.2 ⟨i, by rw [List.getElem?_set_ne hik]; exact hi⟩, o, hou, h2, h3⟩
    · simp only at hc
      rw [getM_del] at hc
      split at hc
      · cases hc
      · obtain ⟨h2, u, h3, h4⟩ := h.op c k' hc
        refine ⟨by simpa using h2, ?_⟩
        by_cases hkk : k.toNat = k'.toNat
        · rw [← hkk] at h3 ⊢
          rw [ht] at h3; cases h3
          refine ⟨endT t e, by rw [List.getElem?_set_self hlt], ?_⟩
          unfold endT
          split
          · exact h4
          · split <;> exact h4
        · exact ⟨u, by rw [List.getElem?_set_ne hkk]; exact h3, h4⟩
    · rcases List.mem_or_eq_of_mem_set hu with hu | rfl
      · exact h.full u hu
      · have h5 := h.full t (List.mem_of_getElem? ht)
        unfold endT
        unfold EndOK at ho
        split
        · rename_i hk2
          rw [if_pos hk2] at ho
          intro e0
          have e1 : e.ops = [] := e0
          have h6 := ho.1
          rw [e1] at h6
          exact h5 (List.length_eq_zero_iff.1 h6)
        · split <;> exact h5
theorem HLone.run {es : List GEvent} : ∀ {s s' : HSt}, HLone s → runH s es = some s' → HLone s' := by
  induction es with
  | nil => intro s s' h hr; simp [runH] at hr; subst hr; exact h
  | cons e es ih =>
    intro s s' h hr
    rw [runH] at hr
    cases hs : stepH s e with
    | none => rw [hs] at hr; cases hr
    | some s1 =>
      rw [hs] at hr
      exact ih (h.step hs) hr
theorem HLone.start : HLone hst0 := ⟨fun v h => by simp [isWr, hst0, getM_nil] at h, fun c k h => by simp [hst0, getM_nil] at h, fun t h => by cases h⟩

theorem run_right {es : List GEvent} : ∀ {s s' : HSt}, runH s es = some s' → ∀ e ∈ es, RightEv e := by
  induction es with
  | nil => intro s s' _ e he; cases he
  | cons e0 es ih =>
    intro s s' hr e he
    rw [runH] at hr
    cases hs : stepH s e0 with
    | none => rw [hs] at hr; cases hr
    | some s1 =>
      rw [hs] at hr
      rcases List.mem_cons.1 he with rfl | he
      · exact (stepH_some hs).1
      · exact ih hr e he
theorem hist_ops {es : List GEvent} {ts : List GTxn} (h : histH es = some ts) : ∀ e ∈ es, e.ops.length ≤ 12 := by
  unfold histH at h
  rw [Option.map_eq_some_iff] at h
  obtain ⟨s, hs, _⟩ := h
  exact fun e he => (run_right hs e he).good.len

/-- The transaction that law 11 puts behind a history. -/
def loneOp : GOp := ⟨2, 15, 549755813888⟩
def loneT (st : Int) : GTxn := ⟨16, st, [loneOp]⟩
theorem lone_right {k : Int} {l : List GOp} (hk : k = 1 ∨ k = 2 ∨ k = 3 ∨ k = 4) (hl : l = [loneOp] ∨ l = [] ∧ k ≠ 1 ∧ k ≠ 2) : RightEv ⟨k, 16, l⟩ := by
  have hg : GoodOp loneOp := ⟨.inr rfl, by decide, by decide, by decide, by decide⟩
  refine ⟨⟨by show 1 ≤ k; omega, by show k ≤ 4; omega, by show (1 : Int) ≤ 16; decide, by show (16 : Int) ≤ 16; decide, ?_, ?_⟩, fun h => ?_, ?_⟩
  · show l.length ≤ 12; rcases hl with rfl | ⟨rfl, _⟩ <;> simp
  · rcases hl with rfl | ⟨rfl, _⟩
    · intro o ho; rw [List.mem_singleton.1 ho]; exact hg
    · intro o ho; cases ho
  · rcases hl with rfl | ⟨rfl, h1, h2⟩
    · simp
    · rcases h with h | h
      · exact absurd h h1
      · exact absurd h h2
  · rcases hl with rfl | ⟨rfl, _⟩
    · intro o ho; rw [List.mem_singleton.1 ho]; exact ⟨hg, fun _ => by decide, fun h => by simp [loneOp] at h⟩
    · intro o ho; cases ho
/-- What law 11 asks of a history: nobody names the key, the value, the client. -/
def FreeOf (ts : List GTxn) : Prop := ∀ t ∈ ts, ∀ o ∈ t.ops, o.key ≠ 15 ∧ o.val ≠ 549755813888 ∧ t.client ≠ 16
theorem hist_lone {es : List GEvent} {ts : List GTxn} (h : histH es = some ts) (hf : FreeOf ts) {st : Int} {fs : List GEvent}
    (hfs : fs = [] ∧ st = 0 ∨ fs = [⟨2, 16, [loneOp]⟩] ∧ st = 1 ∨ fs = [⟨3, 16, []⟩] ∧ st = 2 ∨ fs = [⟨4, 16, []⟩] ∧ st = 0) : histH (es ++ ⟨1, 16, [loneOp]⟩ :: fs) = some (ts ++ [loneT st]) := by
  unfold histH at h ⊢
  rw [Option.map_eq_some_iff] at h
  obtain ⟨s, hs, rfl⟩ := h
  have hl := HLone.start.run hs
  rw [runH_append, hs, Option.bind_some]
  have hop : getM s.op 16 = none := by
    cases hg : getM s.op 16 with
    | none => rfl
    | some k =>
      obtain ⟨_, t, ht, hc⟩ := hl.op 16 k hg
      have hm := List.mem_of_getElem? ht
      obtain ⟨o, ho⟩ := List.exists_mem_of_ne_nil _ (hl.full t hm)
      exact absurd hc (hf t hm o ho).2.2
  have hwr : ¬ (getM s.wr 549755813888).getD false = true := fun hw => by
    obtain ⟨t, ht, o, ho, _, h3⟩ := hl.wr 549755813888 hw
    exact (hf t ht o ho).2.1 h3
  have h1 : stepH s ⟨1, 16, [loneOp]⟩ = some ⟨s.ts ++ [loneT 0], putM s.op 16 s.ts.length, putM s.wr 549755813888 true⟩ := by
    rw [stepH_new (lone_right (.inl rfl) (.inl rfl)) hop rfl]
    have : addW s.wr [loneOp] = some (putM s.wr 549755813888 true) := by
      rw [addW]
      show (if (2 : Int) = 2 then (if (getM s.wr 549755813888).getD false = true then none else addW (putM s.wr 549755813888 true) []) else addW s.wr []) = _
      rw [if_pos rfl, if_neg hwr]; rfl
    simp only
    rw [this]; rfl
  rw [runH, h1, Option.bind_some]
  have hk : getM (putM s.op 16 (s.ts.length : Int)) 16 = some (s.ts.length : Int) := by rw [getM_put, if_pos rfl]
  have hset : ∀ t', (s.ts ++ [loneT 0]).set s.ts.length t' = s.ts ++ [t'] := fun t' => by rw [List.set_append_right _ _ (Nat.le_refl _), Nat.sub_self]; rfl
  have hat : (s.ts ++ [loneT 0])[((s.ts.length : Nat) : Int).toNat]? = some (loneT 0) := by rw [Int.toNat_natCast]; exact at_new
  rcases hfs with ⟨rfl, rfl⟩ | ⟨rfl, rfl⟩ | ⟨rfl, rfl⟩ | ⟨rfl, rfl⟩
  · rfl
  · rw [runH, stepH_end (k := (s.ts.length : Int)) (t := loneT 0) (lone_right (.inr (.inl rfl)) (.inl rfl)) hk (by decide) hat (by
      unfold EndOK
      rw [if_pos rfl]
      refine ⟨rfl, fun i o p _ ho hp => ?_, fun i o v hi ho h2 hv => ?_⟩
      · have e1 : (loneT 0).ops[i]? = some o := ho
        rw [hp] at e1; cases e1; exact ⟨rfl, rfl, fun _ => rfl⟩
      · have := List.mem_of_getElem? ho
        rw [List.mem_singleton.1 this] at h2
        exact absurd rfl h2)]
    simp only [Option.bind_some, runH, Option.map_some, Int.toNat_natCast, hset]; rfl
  · rw [runH, stepH_end (k := (s.ts.length : Int)) (t := loneT 0) (lone_right (.inr (.inr (.inl rfl))) (.inr ⟨rfl, by decide, by decide⟩)) hk (by decide) hat (by
      unfold EndOK
      rw [if_neg (by decide)])]
    simp only [Option.bind_some, runH, Option.map_some, Int.toNat_natCast, hset]; rfl
  · rw [runH, stepH_end (k := (s.ts.length : Int)) (t := loneT 0) (lone_right (.inr (.inr (.inr rfl))) (.inr ⟨rfl, by decide, by decide⟩)) hk (by decide) hat (by
      unfold EndOK
      rw [if_neg (by decide)])]
    simp only [Option.bind_some, runH, Option.map_some, Int.toNat_natCast, hset]; rfl
theorem lone_is {ts : List GTxn} (hf : FreeOf ts) {st : Int} (hs : 0 ≤ st ∧ st ≤ 2) : Lone ts (loneT st) 549755813888 := ⟨rfl, fun u hu o ho => (hf u hu o ho).1, hs⟩
end Go.Proofs.YtnacoplokjdglaaGreat
