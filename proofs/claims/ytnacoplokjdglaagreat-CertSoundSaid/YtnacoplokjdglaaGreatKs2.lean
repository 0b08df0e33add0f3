/- Texts of one proof, one behind the other: CkRes, CtSn, ChOrd, ChOrdX, CkKp, CkKey. -/
import Derived.Sort.WalkB2
import Derived.Sort.WalkB12
import Derived.Shelf.SlSortCmp.Insertion
import Derived.Shelf.SlSortCmp.BreakPatterns1
import Derived.Sort.Walk13a
import Derived.Sort.AssemblyPlain
import Derived.Sort.WalkB3
import Derived.Shelf.SlGeneric
import Derived.Shelf.SlLaysF
import Derived.Test.YtnacoplokjdglaaGreatProg
import Derived.Sort.Walk13
import Derived.BigQuiet
import Derived.Shelf.SlSortCmp.Kit1
import Derived.Sort.WalkA
import Derived.Sort.Lot0
import Derived.Sort.LotD1
import Derived.Test.YtnacoplokjdglaaGreatKp1
import Derived.Test.YtnacoplokjdglaaGreatKp2
import Derived.Test.YtnacoplokjdglaaGreatKp3
import Derived.Test.YtnacoplokjdglaaGreatKp4
import Derived.Test.YtnacoplokjdglaaGreatKp5
import Derived.Test.YtnacoplokjdglaaGreatKp6
import Derived.Test.YtnacoplokjdglaaGreatKp7
import Derived.Test.YtnacoplokjdglaaGreatKp8
import Derived.Test.YtnacoplokjdglaaGreatKp9
import Derived.Test.YtnacoplokjdglaaGreatKp10
import Derived.Test.YtnacoplokjdglaaGreatKp11
import Derived.Test.YtnacoplokjdglaaGreatKp12
import Derived.Test.YtnacoplokjdglaaGreatKp13
import Derived.Test.YtnacoplokjdglaaGreatKp14
import Derived.Test.YtnacoplokjdglaaGreatKp15
import Derived.Test.YtnacoplokjdglaaGreatKp16
import Derived.Test.YtnacoplokjdglaaGreatKp17
import Derived.Test.YtnacoplokjdglaaGreatKp18
import Derived.Test.YtnacoplokjdglaaGreatKp19
import Derived.Test.YtnacoplokjdglaaGreatKp20
import Derived.Test.YtnacoplokjdglaaGreatKp21
import Derived.Test.YtnacoplokjdglaaGreatKp22
import Derived.Test.YtnacoplokjdglaaGreatKp23
import Derived.Test.YtnacoplokjdglaaGreatKp24
import Derived.Test.YtnacoplokjdglaaGreatKs1
set_option linter.all false
namespace Go.Proofs.YtnacoplokjdglaaGreat
open Go.RowKit Go.Maps
section
variable {ts : List GTxn} {level : Int}
theorem dn_sub {L F : FaL} (h : ∀ c b, getM L c = some b → getM F c = some b) {i : Nat} (hd : dnM ts L i = true) : dnM ts F i = true := dn_more h i hd
/-- The way that some facts say stays in them. -/
theorem leaf_in {F : FaL} (hF : nextM ts F = none) : ∀ {n : Nat} {L : FaL}, (∀ c b, getM L c = some b → getM F c = some b) → ∀ c b, getM (leafM ts (fun c => (getM F c).getD false) n L) c = some b → getM F c = some b
  | 0, L, h => h
  | n + 1, L, h => by
    unfold leafM
    cases hn : nextM ts L with
    | none => exact h
    | some c =>
      refine leaf_in hF (fun d b hd => ?_)
      rw [getM_cons] at hd
      split at hd
      · rename_i e
        simp only at e
        subst e
        have ho := next_open hn
        unfold openC at ho
        have h2 : c.kind = 1 ∨ dnM ts F c.a.toNat = true ∧ dnM ts F c.b.toNat = true := by
          rcases (choicesM_ok (nextM_some hn).1).kind with ⟨h1, _⟩ | ⟨h1, _⟩
          · exact .inl h1
          · right
            have hk2 : (c.kind != 2) = false := by rw [h1]; rfl
            rw [hk2, Bool.false_or, Bool.and_eq_true, Bool.and_eq_true] at ho
            exact ⟨dn_sub h ho.2.1, dn_sub h ho.2.2⟩
        obtain ⟨so, hs⟩ := all_said hF (nextM_some hn).1 h2
        rw [hs] at hd ⊢
        exact hd
      · exact h d b hd
theorem res_iff (hE : ∀ L, FaOk ts L → ∃ l, EdgesOf ts L l) : (tree0 ts level).res = true ↔ ∃ F, FaOk ts F ∧ ¬ Brk ts F level ∧ nextM ts F = none := by
  constructor
  · intro h
    have h1 := WT.found_res (tree0 ts level)
    rw [h] at h1
    obtain ⟨F, hF⟩ := Option.isSome_iff_exists.1 h1
    have hl := leaf_found hF
    exact ⟨F, hl.ok, hl.nb, hl.all⟩
  · rintro ⟨F, h1, h2, h3⟩
    cases hr : (tree0 ts level).res with
    | true => rfl
    | false =>
      exfalso
      have hb := tree_none (σ := fun c => (getM F c).getD false) hE (FaOk.nil ts) hr
      exact h2 (brk_up (leaf_more (FaOk.nil ts)).1 (leaf_in h3 (fun c b hc => by rw [getM_nil] at hc; cases hc)) (hE _ h1) hb)
theorem FixF.all {dn : List Bool} {O : OrdL} {F : FaL} (h : FixF ts dn O F) : nextM ts F = none := by
  unfold nextM
  rw [List.find?_eq_none]
  intro c hc ho
  unfold openC at ho
  simp only [Bool.and_eq_true, Option.isNone_iff_eq_none] at ho
  obtain ⟨hn, ho⟩ := ho
  have hok := choicesM_ok hc
  rcases hok.kind with ⟨h1, _, _⟩ | ⟨h1, hab⟩
  · rw [h.one c h1, if_pos hc] at hn; cases hn
  · have hc2 : c ∈ befK ts 16 := by
      unfold choicesM at hc
      rw [List.mem_append] at hc
      rcases hc with hc | hc
      · obtain ⟨i, _, _, rfl⟩ := cmS_mem hc; simp at h1
      · exact hc
    unfold befK at hc2
    rw [List.mem_flatMap] at hc2
    obtain ⟨key, hkey, hc3⟩ := hc2
    rw [List.mem_range] at hkey
    unfold befB at hc3
    rw [List.mem_flatMap] at hc3
    obtain ⟨b, hb, hc4⟩ := hc3
    rw [List.mem_range] at hb
    unfold befA at hc4
    rw [List.mem_filterMap] at hc4
    obtain ⟨a, ha, hc5⟩ := hc4
    rw [List.mem_range] at ha
    split at hc5
    · rename_i hcond
      simp at hc5
      subst hc5
      unfold condB at hcond
      simp only [Bool.and_eq_true] at hcond
      simp at ho
      rw [h.fits a (by omega), h.fits b hb] at ho
      have hO : (ordL O key).Perm (wantL ts dn key ts.length) := by rw [← h.good key hkey]; exact (srt_perm _).symm
      have hA : (a : Int) ∈ ordL O key := hO.mem_iff.2 (wantL_mem.2 ⟨a, by omega, rfl, by simp [hcond.1.2]; exact ho.1⟩)
      have hB : (b : Int) ∈ ordL O key := hO.mem_iff.2 (wantL_mem.2 ⟨b, hb, rfl, by simp [hcond.2]; exact ho.2⟩)
      obtain ⟨i, hi⟩ := List.mem_iff_getElem?.1 hA
      obtain ⟨j, hj⟩ := List.mem_iff_getElem?.1 hB
      have hil := (List.getElem?_eq_some_iff.1 hi).1
      have hjl := (List.getElem?_eq_some_iff.1 hj).1
      have hij : i ≠ j := fun e => by subst e; rw [hi] at hj; have := Option.some.inj hj; omega
      rcases Nat.lt_or_gt_of_ne hij with h4 | h4
      · have := h.pr key hkey j i a b h4 (.inl hjl) hi hj
        rw [show min (a : Int) b = a by omega, show max (a : Int) b = b by omega] at this
        rw [this] at hn; cases hn
      · have := h.pr key hkey i j b a h4 (.inl hil) hj hi
        rw [show min (b : Int) a = a by omega, show max (b : Int) a = b by omega] at this
        rw [this] at hn; cases hn
    · simp at hc5
/-- A Pass that is shown is what the search finds. -/
theorem pass_res (hu : Uniq ts) (hE : ∀ L, FaOk ts L → ∃ l, EdgesOf ts L l) {dn : List Bool} {O : OrdL} (h : passB ts level dn O) : (tree0 ts level).res = true := by
  obtain ⟨F, h1, h2, _, h4⟩ := h
  exact (res_iff hE).2 ⟨F, h1.faOk hu h2, h4, h1.all⟩
end
end Go.Proofs.YtnacoplokjdglaaGreat

namespace Go.Proofs.YtnacoplokjdglaaGreat
open Go.RowKit Go.Maps

theorem isX_at {T : List (List Int)} {C : List Int} (h : isX T C = true) : 0 < C.length ∧ ∀ j, j < C.length → okX T C j = true := by
  unfold isX at h
  rw [Bool.and_eq_true, decide_eq_true_eq, List.all_eq_true] at h
  exact ⟨h.1, fun j hj => h.2 j (List.mem_range.2 hj)⟩
/-- What graph.Is takes goes round. -/
theorem isX_rounds {T : List (List Int)} {C : List Int} (h : isX T C = true) : Rounds (ArcT T) := by
  obtain ⟨h0, hk⟩ := isX_at h
  have hat : ∀ j, ∃ v, C[j % C.length]? = some v := fun j => some_at (Nat.mod_lt _ h0)
  have step : ∀ j (v x : Int), C[j % C.length]? = some v → C[(j + 1) % C.length]? = some x → ArcT T v.toNat x.toNat := fun j v x hv hx => by
    have hx' : C[(j % C.length + 1) % C.length]? = some x := by rw [Nat.mod_add_mod]; exact hx
    obtain ⟨h1, ⟨l, hl, hxl⟩, _⟩ := (okX_iff hv hx').1 (hk _ (Nat.mod_lt _ h0))
    obtain ⟨y, hy⟩ := hat (j + 1 + 1)
    have hy' : C[((j + 1) % C.length + 1) % C.length]? = some y := by rw [Nat.mod_add_mod]; exact hy
    obtain ⟨h2, _⟩ := (okX_iff hx hy').1 (hk _ (Nat.mod_lt _ h0))
    exact ⟨l, hl, by rw [show ((x.toNat : Nat) : Int) = x by omega]; exact hxl⟩
  obtain ⟨a, ha⟩ := hat 0
  have way : ∀ n (v : Int), C[(n + 1) % C.length]? = some v → Way (ArcT T) a.toNat v.toNat := by
    intro n
    induction n with
    | zero => intro v hv; exact .one (step 0 a v ha hv)
    | succ n ih =>
      intro v hv
      obtain ⟨u, hu⟩ := hat (n + 1)
      exact (ih u hu).trans (.one (step (n + 1) u v hu hv))
  refine ⟨a.toNat, way (C.length - 1) a ?_⟩
  rw [show C.length - 1 + 1 = C.length by omega, Nat.mod_self]
  rw [Nat.zero_mod] at ha
  exact ha
theorem isCyc_brk {ts : List GTxn} {L : FaL} {level : Int} {C : List Int} (hn : ts.length ≤ 60) (h : IsCyc ts L level C) : Brk ts L level := by
  obtain ⟨l, he, hc⟩ := h
  have hs : sizeM ts.length = ts.length := by unfold sizeM; rw [if_neg (by omega), if_neg (by omega)]; omega
  rw [hs] at hc
  exact ⟨l, he, (rounds_arcK level (edges_in he)).1 (isX_rounds hc)⟩
theorem treeC_sound {ts : List GTxn} {level : Int} (hn : ts.length ≤ 60) {F : FaL} (hE : ∃ l, EdgesOf ts F l) (hF : nextM ts F = none) : ∀ {n : Nat} {L : FaL} {l r : List (List Int)}, FaOk ts L → (∀ c b, getM L c = some b → getM F c = some b) → treeC ts level n L l = some r → Brk ts F level
  | 0, L, [], r, _, _, h => by simp [treeC] at h
  | 0, L, C :: l, r, _, _, h => by simp [treeC] at h
  | n + 1, L, [], r, _, _, h => by simp [treeC] at h
  | n + 1, L, C :: l, r, hL, hs, h => by
    rw [treeC] at h
    split at h
    · split at h
      · rename_i hc
        exact brk_up hL hs hE (isCyc_brk hn hc)
      · cases h
    · cases hx : nextM ts L with
      | none => rw [hx] at h; cases h
      | some c =>
        rw [hx] at h
        simp only at h
        cases h1 : treeC ts level n ((c, true) :: L) l with
        | none => rw [h1] at h; cases h
        | some r1 =>
          rw [h1] at h
          have ho := next_open hx
          unfold openC at ho
          have h2 : c.kind = 1 ∨ dnM ts F c.a.toNat = true ∧ dnM ts F c.b.toNat = true := by
            rcases (choicesM_ok (nextM_some hx).1).kind with ⟨h1, _⟩ | ⟨h1, _⟩
            · exact .inl h1
            · right
              have hk2 : (c.kind != 2) = false := by rw [h1]; rfl
              rw [hk2, Bool.false_or, Bool.and_eq_true, Bool.and_eq_true] at ho
              exact ⟨dn_sub hs ho.2.1, dn_sub hs ho.2.2⟩
          obtain ⟨so, hso⟩ := all_said hF (nextM_some hx).1 h2
          have up : ∀ d b, getM ((c, so) :: L) d = some b → getM F d = some b := fun d b hd => by
            rw [getM_cons] at hd
            split at hd
            · rename_i e
              simp only at e
              subst e
              rw [hso]; exact hd
            · exact hs d b hd
          cases so with
          | true => exact treeC_sound hn hE hF (hL.next hx) up h1
          | false => exact treeC_sound hn hE hF (hL.next hx) up h
/-- A failing that is shown is one. -/
theorem fail_res {ts : List GTxn} {level : Int} {f : Int × Int × Int} {N : List (List Int)} (hn : ts.length ≤ 60) (hE : ∀ L, FaOk ts L → ∃ l, EdgesOf ts L l) (h : failB ts level f N = true) : flawsM ts ≠ [] ∨ (tree0 ts level).res = false := by
  unfold failB at h
  split at h
  · right
    have h1 := eq_of_beq h
    cases hr : (tree0 ts level).res with
    | false => rfl
    | true =>
      obtain ⟨F, h2, h3, h4⟩ := (res_iff hE).1 hr
      exact absurd (treeC_sound hn (hE F h2) h4 (FaOk.nil ts) (fun c b hc => by rw [getM_nil] at hc; cases hc) h1) h3
  · rename_i hf; exact .inl hf
end Go.Proofs.YtnacoplokjdglaaGreat

namespace Go.Proofs.YtnacoplokjdglaaGreat
open Go.RowKit Go.Maps
theorem Tryz.infoII : (Tryz.prog.info? 58).map (fun i => (i.zero, i.size, i.bytes)) = some (some (.slice none 0 0), 1, 24) := by kernel_rfl
theorem eltII : Elt Tryz.prog 59 58 1 24 (.slice none 0 0) := by
  obtain ⟨i0, hi, hz0, hz1, hz2⟩ := info_parts Tryz.infoII
  exact ⟨Tryz.underlying59, by decide, rfl, i0, hi, hz0, hz1, hz2⟩
end Go.Proofs.YtnacoplokjdglaaGreat

namespace Go.Proofs.YtnacoplokjdglaaGreat
open Go.RowKit Go.Maps
attribute [local go_sem] Oper.semAt_some

/-- All orders of n numbers, one behind the other. -/
def ordsN : Nat → List Int → List (List Int)
  | 0, _ => [[]]
  | n + 1, l => (List.range l.length).flatMap (fun (i : Nat) => (ordsN n (l.take i ++ l.drop (i + 1))).map (fun o => (l[i]?.getD 0) :: o))
def ordsTo (n : Nat) (l : List Int) (k : Nat) : List (List Int) := (List.range k).flatMap (fun (i : Nat) => (ordsN n (l.take i ++ l.drop (i + 1))).map (fun o => (l[i]?.getD 0) :: o))
theorem ordsTo_succ (n : Nat) (l : List Int) (k : Nat) : ordsTo n l (k + 1) = ordsTo n l k ++ (ordsN n (l.take k ++ l.drop (k + 1))).map (fun o => (l[k]?.getD 0) :: o) := by
  unfold ordsTo; rw [List.range_succ, List.flatMap_append]; simp
theorem ords_perm : ∀ {n : Nat} {l o : List Int}, l.length = n → (o ∈ ordsN n l ↔ o.Perm l)
  | 0, l, o, h => by
    have : l = [] := List.length_eq_zero_iff.1 h
    subst this
    unfold ordsN
    simp
  | n + 1, l, o, h => by
    unfold ordsN
    rw [List.mem_flatMap]
    have key : ∀ (i : Nat) (x : Int), l[i]? = some x → l.Perm (x :: (l.take i ++ l.drop (i + 1))) ∧ (l.take i ++ l.drop (i + 1)).length = n := fun i x hx => by
      obtain ⟨hi, rfl⟩ := List.getElem?_eq_some_iff.1 hx
      have h1 : l = l.take i ++ l[i] :: l.drop (i + 1) := by
        conv => lhs; rw [← List.take_append_drop i l, List.drop_eq_getElem_cons hi]
      refine ⟨?_, by rw [List.length_append, List.length_take, List.length_drop]; omega⟩
      conv => lhs; rw [h1]
      exact List.perm_middle
    constructor
    · rintro ⟨i, hi, hm⟩
      rw [List.mem_range] at hi
      obtain ⟨x, hx⟩ := some_at hi
      obtain ⟨o', ho', rfl⟩ := List.mem_map.1 hm
      obtain ⟨h1, h2⟩ := key i x hx
      rw [hx]
      exact ((ords_perm h2).1 ho').cons x |>.trans h1.symm
    · intro hp
      cases o with
      | nil => have := hp.length_eq; simp at this; omega
      | cons x o' =>
        obtain ⟨i, hx⟩ := List.mem_iff_getElem?.1 (hp.mem_iff.1 (List.mem_cons_self (a := x)))
        obtain ⟨h1, h2⟩ := key i x hx
        refine ⟨i, List.mem_range.2 (List.getElem?_eq_some_iff.1 hx).1, List.mem_map.2 ⟨o', (ords_perm h2).2 ((hp.trans h1).cons_inv), by rw [hx]; rfl⟩⟩
/-- Rows of ints of one's own, and what they say. -/
structure EX (n : Nat) (w : World) (us : List Value) (P : List (List Int)) : Prop where
  len : us.length = P.length
  at_ : ∀ (i : Nat) (u : Value) (xs : List Int), us[i]? = some u → P[i]? = some xs → OwI 0 w u xs
  ok : ∀ xs ∈ P, (∀ x ∈ xs, i64 x) ∧ xs.length ≤ n
theorem EX.below {n : Nat} {A B : World} {us : List Value} {P : List (List Int)} (h : EX n A us P) (hb : Below A.heap.size A B) : EX n B us P := ⟨h.len, fun i u xs h1 h2 => own_below (h.at_ i u xs h1 h2) hb, h.ok⟩
theorem EX.kept {n m b : Nat} {A B : World} {us xs : List Value} {v : Value} {P : List (List Int)} (h : EX n A us P) (hr : A.ownsRow b 58 1 v m xs) (hg : A.grownBy B v.ownBlock) : EX n B us P :=
  ⟨h.len, fun i u ys h1 h2 => World.ownsRow.kept (h.at_ i u ys h1 h2) hg (own_apart hr (h.at_ i u ys h1 h2) (by decide)), h.ok⟩
theorem EX.alloc {n : Nat} {A : World} {us : List Value} {P : List (List Int)} (h : EX n A us P) (o : Obj) : EX n (A.alloc o) us P := h.below ((Below.refl _ _).alloc (Nat.le_refl _) o)
theorem EX.snoc {n : Nat} {A : World} {us : List Value} {P : List (List Int)} (h : EX n A us P) {u : Value} {xs : List Int} (hu : OwI 0 A u xs) (hx : (∀ x ∈ xs, i64 x) ∧ xs.length ≤ n) : EX n A (us ++ [u]) (P ++ [xs]) := by
  refine ⟨by simp [h.len], fun i u' ys h1 h2 => ?_, fun ys hy => ?_⟩
  · rcases Nat.lt_or_ge i us.length with hi | hi
    · rw [List.getElem?_append_left hi] at h1
      rw [List.getElem?_append_left (by rw [← h.len]; exact hi)] at h2
      exact h.at_ i u' ys h1 h2
    · have hi2 := (List.getElem?_eq_some_iff.1 h1).1
      rw [List.length_append, List.length_singleton] at hi2
      have : i = us.length := by omega
      subst this
      rw [List.getElem?_append_right (Nat.le_refl _), Nat.sub_self] at h1
      rw [h.len, List.getElem?_append_right (Nat.le_refl _), Nat.sub_self] at h2
      cases h1; cases h2
      exact hu
  · rcases List.mem_append.1 hy with hy | hy
    · exact h.ok ys hy
    · rw [List.mem_singleton.1 hy]; exact hx

def OrdersX (n : Nat) (l : List Int) (w : World) (e : Ending) (w' : World) : Prop := ∃ v us, e = .returned v ∧ w'.ownsRow w.heap.size 58 1 v us.length us ∧ us.length ≤ 10 ^ n ∧ EX n w' us (ordsN n l) ∧ Below w.heap.size w w'

set_option maxRecDepth 100000 in
set_option maxHeartbeats 8000000 in
theorem ordersX_call : ∀ (n : Nat) (l : List Int) (v : Value) (w : World), n ≤ 10 → l.length = n → RdInts w v l → Calls Tryz.prog 87 #[v] w (OrdersX n l w) := by
  intro n
  induction n with
  | zero =>
    intro l v w _ hl hv
    obtain ⟨a, len, cap, rfl, rfl, hm, -⟩ := hv.at
    rw [hl]
    have HO1 := Lib.hid (World.ownsRow_lit (base := 0) (e := 3) (size := 1) w #[] 0 (Nat.zero_le _) (by simp [maxLen]) rfl)
    have HO2 := Lib.hid (World.ownsRow_lit (base := w.heap.size) (e := 58) (size := 1) (w.alloc (.cells #[] 3)) #[.slice (some ⟨w.heap.size, 0, none⟩) 0 0] 1 (by simp) (by simp [maxLen]) rfl)
    clear hv hl
    go_enter Tryz.func87, Tryz.ntmps87
    go_wp2_with fail
    go_ret
    refine ⟨_, [.slice (some ⟨w.heap.size, 0, none⟩) 0 0], rfl, by simpa using HO2.out, by simp, ⟨by simp [ordsN], fun i u xs h1 h2 => ?_, fun xs hx => by simp [ordsN] at hx; subst hx; simp⟩, ((Below.refl _ _).alloc (Nat.le_refl _) _).alloc (by simp) _⟩
    match i, h1, h2 with
    | 0, h1, h2 =>
      simp [ordsN] at h1 h2
      subst h1 h2
      exact World.ownsRow.alloc (by simpa [OwI] using HO1.out) _
  | succ n ih =>
    intro l v w hn6 hl hv
    have IH := Lib.hid ih
    have HV := Lib.hid hv
    have hc : 10 ^ n ≤ 1000000000 := Nat.le_trans (Nat.pow_le_pow_right (by omega) (show n ≤ 9 by omega)) (by decide)
    have HP := Lib.hid (show 10 ^ (n + 1) = 10 * 10 ^ n by rw [Nat.pow_succ]; omega)
    obtain ⟨c, hcc⟩ : ∃ c, 10 ^ n = c := ⟨_, rfl⟩
    rw [hcc] at hc HP
    have HCC := Lib.hid hcc
    obtain ⟨a, len, cap, rfl, rfl, hm, -⟩ := hv.at
    obtain ⟨ad, rfl⟩ : ∃ ad, a = some ad := by
      obtain ⟨x, hx⟩ := some_at (l := l) (k := 0) (by omega)
      obtain ⟨_, _, _, e5, -, -, hul⟩ := hv.at
      cases e5
      obtain ⟨b, off, hb, _⟩ := hul 0 x hx
      exact ⟨_, hb⟩
    have HO0 := Lib.hid (World.ownsRow_lit (base := w.heap.size) (e := 58) (size := 1) w #[] 0 (Nat.le_refl _) (by simp [maxLen]) rfl)
    have HB0 := Lib.hid ((Below.refl w.heap.size w).alloc (Nat.le_refl _) (.cells #[] 58))
    have e0 : ((l.length : Int) == 0) = false := beq_eq_false_iff_ne.2 (by omega)
    have HL := Lib.hid hl
    have hl7 : l.length ≤ 10 := by omega
    clear ih hv hcc hl
    go_enter Tryz.func87, Tryz.ntmps87
    go_wp2_with fail
    have HS0 := Lib.hid (show (w.alloc (.cells #[] 58)).ownsRow w.heap.size 58 1 (.slice (some ⟨w.heap.size, 0, none⟩) 0 0) ([] : List Value).length [] from by simpa using HO0.out)
    generalize w.alloc (.cells #[] 58) = w0 at *
    go_loopw [3, 4, 5, 7, 16, 30, 31, 32] (fun ov _ _ _ kv _ _ _ wr => ∃ (k : Nat) (us : List Value), k ≤ l.length ∧ kv = .int .i64 k ∧ us.length ≤ k * c ∧ Hid (wr.ownsRow w.heap.size 58 1 ov us.length us ∧ EX (n + 1) wr us (ordsTo n l k) ∧ Below w.heap.size w wr)) (fun _ _ _ _ kv _ _ _ _ => l.length - (intOf kv).toNat)
    case atStart => exact ⟨0, [], Nat.zero_le _, rfl, by simp, Lib.hid ⟨HS0.out, ⟨by simp [ordsTo], fun i u xs h1 h2 => by simp at h1, fun xs hx => by simp [ordsTo] at hx⟩, HB0.out⟩⟩
    case round =>
      obtain ⟨wk, rfl⟩ : ∃ wk : World, wk = wr := ⟨_, rfl⟩
      obtain ⟨k, us, hk, rfl, hus, HJ⟩ := hrel
      have HO := Lib.hid HJ.out.1
      have HE := Lib.hid HJ.out.2.1
      have HBk := Lib.hid HJ.out.2.2
      clear HJ
      have hkc : k * c ≤ 10 * 1000000000 := Nat.mul_le_mul (by omega) hc
      have hbs := HBk.out.size
      obtain ⟨ao, co, rfl⟩ : ∃ a c, u3 = .slice a us.length c := by
        rcases HO.out.2 with ⟨hv, h0⟩ | ⟨g, cap, cur, hv, _⟩
        · exact ⟨none, 0, by rw [hv, h0]⟩
        · exact ⟨_, _, hv⟩
      by_cases hlt : k < l.length
      · obtain ⟨x, hx⟩ := some_at hlt
        have HVk := Lib.hid (HV.out.later HBk.out)
        obtain ⟨_, _, _, e5, -, -, hul⟩ := HVk.out.at
        cases e5
        obtain ⟨b, off, hadr, x0, hxi⟩ := hul k x hx
        cases hadr
        have hcap : l.length ≤ cap := by
          obtain ⟨_, _, _, h1, _, _, hlc, _⟩ := HV.out
          cases h1
          exact hlc
        have hkI : (k : Int) < (l.length : Int) := by omega
        have wk1 : IntKind.i64.wrap ((k : Int) + 1) = (k : Int) + 1 := IntWalk.i64_in _ (by omega)
        obtain ⟨a2, n2, c2, hsl⟩ := slicedY (some ⟨b, off, none⟩) (k + 1) l.length cap 1
        have hn2 : n2 = l.length - (k + 1) := by unfold sliced at hsl; cases hsl; rfl
        have hdr : ∀ W, (Instr.slice 58 (.slice (some ⟨b, off, none⟩) l.length cap) (some (.int .i64 ((k : Int) + 1))) none none).run Tryz.prog W = .ok (.slice a2 n2 c2) W := fun W => by
          have h1 := run_dropY (b := b) (off := off) (n := l.length) (c := cap) (k := k + 1) (by omega) W
          rw [hsl] at h1
          exact h1
        have htk : ∀ W, (Instr.slice 58 (.slice (some ⟨b, off, none⟩) l.length cap) none (some (.int .i64 k)) none).run Tryz.prog W = .ok (.slice (some ⟨b, off, none⟩) k cap) W := run_takeY (by omega)
        have hs1 := (HVk.out.takeY k (by omega)).src
        have hs2 := (HVk.out.dropY (k + 1) (by omega)).src
        rw [hsl] at hs2
        have hl1 : (l.take k).length = k := by simp; omega
        have hl2 : (l.drop (k + 1)).length = n2 := by rw [hn2]; simp
        rw [hl1] at hs1
        rw [hl2] at hs2
        have HSR1 := Lib.hid (hs1.below (((Below.refl wk.heap.size wk).drew).alloc (Nat.le_refl _) (.cells #[] 3)))
        have HSR2 := Lib.hid hs2
        have HOe := Lib.hid (World.ownsRow_lit (base := wk.heap.size) (e := 3) (size := 1) wk.drew #[] 0 (Nat.le_refl _) (by simp [maxLen]) rfl)
        have HBe := Lib.hid (((Below.refl wk.heap.size wk).drew).alloc (Nat.le_refl _) (.cells #[] 3))
        have hrl : (l.take k ++ l.drop (k + 1)).length = n := by rw [List.length_append, hl1, hl2]; have := HL.out; omega
        have HRL := Lib.hid hrl
        have HRI := Lib.hid (show ∀ y ∈ l.take k ++ l.drop (k + 1), i64 y from fun y hy => HV.out.i64s y (by
          rcases List.mem_append.1 hy with h | h
          · exact List.mem_of_mem_take h
          · exact List.mem_of_mem_drop h))
        have HL1 := Lib.hid hl1
        have HL2 := Lib.hid hl2
        have hn2b : n2 ≤ 10 := by omega
        have HN2 := Lib.hid hn2
        have hwd : wk.drew.heap.size = wk.heap.size := rfl
        have HXK := Lib.hid hx
        clear hxi
        clear hul hx hsl hs1 hs2 hl1 hl2 hrl hn2
        go_upto_region 7 with fail
        go_region_law (first
          | (refine step_append_src rfl _ _ 58 rfl eltI wk.heap.size 0 [] HOe.out rfl k ((l.take k).flatMap viC) HSR1.out rfl (viY_one _) (by omega) (by omega) (by simp) ?_; intro vA wA hrA hgA _; have HRA := Lib.hid hrA; have HBA := Lib.hid (HBe.out.grown hgA (by simp) (fun z hz => by simp [Value.ownBlock] at hz; omega)); clear hrA hgA)
          | (refine step_append_src rfl _ _ 58 rfl eltI wk.heap.size (0 + k) ([] ++ (l.take k).flatMap viC) HRA.out rfl n2 ((l.drop (k + 1)).flatMap viC) (HSR2.out.below HBA.out) rfl (viY_one _) (by omega) (by omega) HBA.out.size ?_; intro v7 w7 hr7 hg7 _; have HR7 := Lib.hid hr7; have HB7 := Lib.hid (HBA.out.grown hg7 HBA.out.size (fun z hz => (World.ownsRow.lt HRA.out z hz).1)); clear hr7 hg7))
        all_goals
          have HRR := Lib.hid (show RdInts w7 v7 (l.take k ++ l.drop (k + 1)) from OwI.rdY (base := wk.heap.size) (by
            have h1 := HR7.out
            rw [List.nil_append, ← List.flatMap_append, Nat.zero_add] at h1
            unfold OwI
            rw [List.length_append, HL1.out, HL2.out]
            exact h1) HRI.out)
          have HOC := Lib.hid (IH.out _ v7 w7 (by omega) HRL.out HRR.out)
          go_wp2_with (go_at_call 87; refine HOC.out.mono ?_; rintro e w8 ⟨v8, us8, rfl, ho8, hl8, he8, hb8⟩; obtain ⟨a8, c8, rfl, h8g⟩ := own_shapeY ho8)
          rw [HCC.out] at hl8
          have HB8 := Lib.hid (HB7.out.trans (hb8.mono HB7.out.size))
          have HBz := Lib.hid (HBk.out.trans (HB8.out.mono HBk.out.size))
          have HOo := Lib.hid (own_below HO.out HB8.out)
          have HEo := Lib.hid (HE.out.below HB8.out)
          have HAP := Lib.hid (show ApartV (.slice a8 us8.length c8) (.slice ao us.length co) from fun g hg e => by
            have h1 := (World.ownsRow.lt ho8 g hg).1
            have h2 := (World.ownsRow.lt HO.out g e).2
            have := HB7.out.size
            omega)
          have HO8 := Lib.hid ho8
          have HE8 := Lib.hid he8
          have hw8 : w.heap.size ≤ w8.heap.size := HBz.out.size
          clear hb8 ho8 he8 HRR HOC HR7 HRA HBA HB7 HSR1 HSR2 HOe HBe HO HE htk hdr HL1 HL2 HN2 HRI HRL
          go_loopw [3, 7, 32] (fun ov _ jv wr => ∃ (j : Nat) (us' : List Value), j ≤ us8.length ∧ jv = .int .i64 j ∧ us'.length ≤ k * c + j ∧ Hid (wr.ownsRow w.heap.size 58 1 ov us'.length us' ∧ EX (n + 1) wr us' (ordsTo n l k ++ ((ordsN n (l.take k ++ l.drop (k + 1))).take j).map (fun o => x :: o)) ∧ wr.ownsRow w7.heap.size 58 1 (.slice a8 us8.length c8) us8.length us8 ∧ EX n wr us8 (ordsN n (l.take k ++ l.drop (k + 1))) ∧ ApartV (.slice a8 us8.length c8) ov ∧ Below w.heap.size w wr)) (fun _ _ jv _ => us8.length - (intOf jv).toNat)
          case atStart => exact ⟨0, us, Nat.zero_le _, rfl, by omega, Lib.hid ⟨HOo.out, by rw [List.take_zero, List.map_nil, List.append_nil]; exact HEo.out, HO8.out, HE8.out, HAP.out, HBz.out⟩⟩
          case round =>
            clear HOo HEo HO8 HE8 HAP HBz
            obtain ⟨wj, rfl⟩ : ∃ wk : World, wk = wr := ⟨_, rfl⟩
            obtain ⟨j, us2, hj, rfl, hu2, HJ⟩ := hrel
            have HO2 := Lib.hid HJ.out.1
            have HE2 := Lib.hid HJ.out.2.1
            have HO8 := Lib.hid HJ.out.2.2.1
            have HE8 := Lib.hid HJ.out.2.2.2.1
            have HAP := Lib.hid HJ.out.2.2.2.2.1
            have HBj := Lib.hid HJ.out.2.2.2.2.2
            clear HJ
            have hbj := HBj.out.size
            obtain ⟨ao2, co2, rfl, -⟩ := own_shapeY HO2.out
            by_cases hjl : j < us8.length
            · obtain ⟨u, hu⟩ := some_at hjl
              obtain ⟨g8, rfl, hg8⟩ := h8g (by omega)
              have hjI : (j : Int) < (us8.length : Int) := by omega
              have wj1 : IntKind.i64.wrap ((j : Int) + 1) = ((j + 1 : Nat) : Int) := by rw [IntWalk.i64_in _ (by omega)]; omega
              have hcu := World.ownsRow.cells HO8.out (g := g8) rfl j u (by simpa using hu)
              rw [addr_add, Nat.zero_add] at hcu
              obtain ⟨xs, hxs⟩ := some_at (l := ordsN n (l.take k ++ l.drop (k + 1))) (k := j) (by rw [← HE8.out.len]; exact hjl)
              have hx1 := HE8.out.at_ j u xs hu hxs
              obtain ⟨hx2, hx3⟩ := HE8.out.ok xs (List.mem_of_getElem? hxs)
              have HTK := Lib.hid (take_at hxs)
              obtain ⟨ax, cx, rfl, -⟩ := own_shapeY hx1
              have x0' := cell_later HBj.out (show w.cell? ⟨b, off + k, none⟩ = some (vi x) from by
                obtain ⟨_, _, _, e5, -, -, hul⟩ := HV.out.at
                cases e5
                obtain ⟨_, _, hb, hx, _⟩ := hul k x HXK.out
                cases hb
                exact hx)
              have HX1 := Lib.hid hx1
              have HX2 := Lib.hid (And.intro hx2 hx3)
              have hxl : xs.length ≤ n := hx3
              have HOn := Lib.hid (World.ownsRow_lit (base := wj.heap.size) (e := 3) (size := 1) wj #[vi x] 1 (Nat.le_refl _) (by simp [maxLen]) rfl)
              have HBn := Lib.hid ((Below.refl wj.heap.size wj).alloc (Nat.le_refl _) (.cells #[vi x] 3))
              clear hx1 hx2 hx3 hu
              go_wp2_with (first
                | (at_builtin; refine wpList_append_src rfl _ _ 58 rfl eltI wj.heap.size 1 [vi x] HOn.out rfl xs.length (xs.flatMap viC) (own_src (own_below HX1.out HBn.out)) rfl (viY_one _) (by omega) (by omega) (by simp) ?_; intro vA wA hrA hgA _; have HRA := Lib.hid hrA; have HBA := Lib.hid (HBn.out.grown hgA (by simp) (fun z hz => by simp [Value.ownBlock] at hz; omega)); obtain ⟨aA, cA, rfl, -⟩ := own_shapeY hrA; clear hrA hgA)
                | (at_builtin; refine wpListAt rfl _ _ 59 rfl eltII w.heap.size us2.length _ ((own_below HO2.out HBA.out).alloc _) rfl 1 [.slice aA (1 + xs.length) cA] (src_new (cs := #[.slice aA (1 + xs.length) cA]) rfl rfl) rfl (by intro q hq; simp at hq; subst hq; rfl) (by omega) (by omega) (by have := HBA.out.size; simp; omega) ?_; intro vB wB hrB hgB hat; have HRB := Lib.hid hrB; have HGB := Lib.hid hgB; have HAT := Lib.hid hat; clear hrB hgB hat))
              have HO2a := Lib.hid (World.ownsRow.alloc (own_below HO2.out HBA.out) (.cells #[.slice aA (1 + xs.length) cA] 58))
              have hA8 := (World.ownsRow.lt HO8.out g8 rfl).2
              have hAs := HBA.out.size
              have HEU := Lib.hid (show EX (n + 1) wB (us2 ++ [.slice aA (1 + xs.length) cA]) (ordsTo n l k ++ ((ordsN n (l.take k ++ l.drop (k + 1))).take (j + 1)).map (fun o => x :: o)) from by
                rw [HTK.out, List.map_append, ← List.append_assoc]
                refine (((HE2.out.below HBA.out).alloc _).kept HO2a.out HGB.out).snoc (World.ownsRow.kept (World.ownsRow.alloc (own_mono (b := wj.heap.size) (b' := 0) ?_ (Nat.zero_le _)) _) HGB.out (own_apart HO2a.out (World.ownsRow.alloc (own_mono (b' := 0) HRA.out (Nat.zero_le _)) _) (by decide))) ⟨fun y hy => ?_, by simp; omega⟩
                · have h1 := HRA.out
                  simpa [viC, Nat.add_comm] using h1
                · rcases List.mem_cons.1 hy with rfl | hy
                  · exact HV.out.i64s _ (List.mem_of_getElem? HXK.out)
                  · exact HX2.out.1 y hy)
              have HAP2 := Lib.hid (show ApartV (.slice (some ⟨g8, 0, none⟩) us8.length c8) vB from fun g hg e => by
                rcases HAT.out with h | h
                · exact HAP.out g hg (h.symm.trans e)
                · rw [h] at e
                  have e1 := Option.some.inj e
                  have e2 : g8 = g := Option.some.inj hg
                  simp at e1
                  omega)
              have HO8b := Lib.hid (World.ownsRow.kept (World.ownsRow.alloc (own_below HO8.out HBA.out) (.cells #[.slice aA (1 + xs.length) cA] 58)) HGB.out (.inr (fun e => HAP.out g8 rfl e.symm)))
              have HE8b := Lib.hid (((HE8.out.below HBA.out).alloc (.cells #[.slice aA (1 + xs.length) cA] 58)).kept HO2a.out HGB.out)
              have HBf := Lib.hid (((HBj.out.trans (HBA.out.mono hbj)).alloc (Nat.le_trans hbj hAs) (.cells #[.slice aA (1 + xs.length) cA] 58)).grown HGB.out (by simp; omega) (fun z hz => (World.ownsRow.lt HO2.out z hz).1))
              exact ⟨⟨j + 1, us2 ++ [.slice aA (1 + xs.length) cA], by omega, rfl, by simp; omega, Lib.hid ⟨by simpa using HRB.out, HEU.out, HO8b.out, HE8b.out, HAP2.out, HBf.out⟩⟩, by simp only [intOf]; omega⟩
            · obtain rfl : j = us8.length := by omega
              go_wp2_with fail
              have HFU := Lib.hid (show ordsTo n l (k + 1) = ordsTo n l k ++ ((ordsN n (l.take k ++ l.drop (k + 1))).take us8.length).map (fun o => x :: o) from by rw [ordsTo_succ, HXK.out, HE8.out.len, List.take_length]; rfl)
              refine ⟨⟨k + 1, us2, by omega, rfl, ?_, Lib.hid ⟨HO2.out, by rw [HFU.out]; exact HE2.out, HBj.out⟩⟩, by simp only [intOf]; omega⟩
              rw [Nat.succ_mul]
              omega
      · obtain rfl : k = l.length := by omega
        go_wp2_with fail
        go_ret
        refine ⟨_, us, rfl, HO.out, ?_, (show EX (n + 1) wk us (ordsN (n + 1) l) from HE.out), HBk.out⟩
        rw [HP.out]
        exact Nat.le_trans hus (Nat.mul_le_mul (by omega) (Nat.le_refl _))
end Go.Proofs.YtnacoplokjdglaaGreat

namespace Go.Proofs.YtnacoplokjdglaaGreat
open Go.RowKit Go.Maps
/-- The orders of the keys from one on, tried. -/
def keysP (ts : List GTxn) (level : Int) : Nat → Nat → FaL → Prop
  | 0, _, F => ¬ Rounds (StepK (refE ts F) (level == 1))
  | n + 1, key, F => ∃ o, o ∈ ordsN (wrl ts F key).length (wrl ts F key) ∧ keysP ts level n (key + 1) (F ++ sdB (key : Int) o o.length)
/-- The ends of the open ones from one on, tried. -/
def endsP (ts : List GTxn) (level : Int) : Nat → Nat → FaL → Prop
  | 0, _, F => keysP ts level 16 0 F
  | n + 1, at_, F => ∃ so, ∃ c, (choicesM ts)[at_]? = some c ∧ endsP ts level n (at_ + 1) (F ++ [(c, so)])
theorem refE_in (ts : List GTxn) (G : FaL) : InN ts.length (refE ts G) := fun e he => by
  unfold refE aE at he
  obtain ⟨a, ha, he⟩ := List.mem_flatMap.1 he
  unfold bE at he
  obtain ⟨b, hb, he⟩ := List.mem_flatMap.1 he
  unfold kE at he
  obtain ⟨k, hk, he⟩ := List.mem_flatMap.1 he
  rw [List.mem_range] at ha hb
  split at he
  · rw [List.mem_singleton.1 he]
    exact ⟨⟨by simp, by simpa using ha⟩, ⟨by simp, by simpa using hb⟩⟩
  · cases he
theorem said_flat_at : ∀ (l : FaL) (j i : Nat) (x : GChoice × Bool) (u : Value), l[j]? = some x → (saidV x)[i]? = some u → (l.flatMap saidV)[j * 5 + i]? = some u
  | [], j, i, x, u, h, _ => by simp at h
  | y :: l, 0, i, x, u, h, hu => by
    simp at h
    subst h
    have hi := (List.getElem?_eq_some_iff.1 hu).1
    rw [List.flatMap_cons, Nat.zero_mul, Nat.zero_add, List.getElem?_append_left hi]
    exact hu
  | y :: l, j + 1, i, x, u, h, hu => by
    rw [List.getElem?_cons_succ] at h
    rw [List.flatMap_cons, List.getElem?_append_right (by rw [saidV_length]; omega), saidV_length, show (j + 1) * 5 + i - 5 = j * 5 + i by omega]
    exact said_flat_at l j i x u h hu
theorem RdSaid.src {w : World} {v : Value} {l : FaL} (h : RdSaid w v l) : Src w v 5 l.length (l.flatMap saidV) := by
  obtain ⟨a, len, cap, h1, h2, h3, h4, h5, h6⟩ := h
  subst h2
  have hfl : ∀ l : FaL, (l.flatMap saidV).length = l.length * 5 := fun l => by
    induction l with
    | nil => simp
    | cons x l ih => rw [List.flatMap_cons, List.length_append, saidV_length, ih, List.length_cons]; omega
  refine ⟨a, cap, h1, hfl l, h5, fun ad had j u hu => ?_⟩
  have hj := (List.getElem?_eq_some_iff.1 hu).1
  rw [hfl] at hj
  obtain ⟨x, hx⟩ := some_at (l := l) (k := j / 5) (by omega)
  obtain ⟨b, off, cs, ha, hl, hc, he⟩ := h6 _ x hx
  subst he
  rw [ha] at had; cases had
  obtain ⟨u', hu'⟩ := some_at (l := saidV x) (k := j % 5) (by rw [saidV_length]; omega)
  have h8 := said_flat_at l (j / 5) (j % 5) x u' hx hu'
  have e : j / 5 * 5 + j % 5 = j := by omega
  rw [e] at h8
  rw [h8] at hu
  have h9 := hc (j % 5) u' hu'
  rw [e] at h9
  rw [addr_add, ← Option.some.inj hu]
  exact h9
end Go.Proofs.YtnacoplokjdglaaGreat

namespace Go.Proofs.YtnacoplokjdglaaGreat
open Go.RowKit Go.Maps
attribute [local go_sem] Oper.semAt_some

def KeysQ (ts : List GTxn) (level : Int) (n key : Nat) (F : FaL) (w : World) (e : Ending) (w' : World) : Prop := ∃ b : Bool, e = .returned (.bool b) ∧ (b = true ↔ keysP ts level n key F) ∧ Below w.heap.size w w'

set_option maxRecDepth 100000 in
set_option maxHeartbeats 8000000 in
theorem keys_call (ts : List GTxn) (level : Int) (hg : GoodTs ts) (h10 : ts.length ≤ 10) : ∀ (n key : Nat) (F : FaL) (v g : Value) (w : World), key + n = 16 → F.length ≤ 1000 + 100 * key → RdTxns w v ts → RdSaid w g F →
    Calls Tryz.prog 70 #[v, g, vi key, vi level] w (KeysQ ts level n key F w) := by
  intro n
  induction n with
  | zero =>
    intro key F v g w hk hF hv hf
    obtain rfl : key = 16 := by omega
    have HV := Lib.hid hv
    have HF := Lib.hid hf
    have HG := Lib.hid hg
    obtain ⟨a, n, c, rfl, rfl, hm, -⟩ := hv.at
    clear hv hf
    go_enter Tryz.func70, Tryz.ntmps70
    go_wp2_with (first
      | (go_at_call 28; refine (bad_call ts.length (refE ts F) _ level w5 HO5.out (refE_in ts F) (by omega)).mono ?_; rintro e6 w6 ⟨bb, rfl, hbb, hb6⟩; have HBB := Lib.hid hbb; have HB6 := Lib.hid (HB5.out.trans (hb6.mono HB5.out.size)); clear hbb hb6)
      | (go_at_call 29; refine (refEdges_call _ g ts F w HV.out HG.out.ok HF.out (by omega)).mono ?_; rintro e5 w5 ⟨v5, rfl, ho5, hb5⟩; have HO5 := Lib.hid ho5.rd; have HB5 := Lib.hid hb5; clear ho5 hb5))
    go_ret
    exact ⟨!bb, rfl, by rw [keysP, ← HBB.out]; cases bb <;> simp, HB6.out⟩
  | succ n ih =>
    intro key F v g w hk hF hv hf
    have IH := Lib.hid ih
    have HV := Lib.hid hv
    have HF := Lib.hid hf
    have HG := Lib.hid hg
    obtain ⟨a, na, c, rfl, rfl, hm, -⟩ := hv.at
    obtain ⟨fa, fn, fc, rfl, rfl, hfm, -⟩ := RdSaid.at hf
    have k16 : ((key : Int) == 16) = false := beq_eq_false_iff_ne.2 (by omega)
    have wky : IntKind.i64.wrap ((key : Int) + 1) = ((key + 1 : Nat) : Int) := by rw [IntWalk.i64_in _ (by omega)]; omega
    obtain ⟨WS, hWS⟩ : ∃ WS, wrl ts F key = WS := ⟨_, rfl⟩
    have hwl : WS.length ≤ ts.length := by rw [← hWS]; exact wrlK_le _ _ _ _
    have HWB := Lib.hid (show ∀ x ∈ WS, i64 x from fun x hx => by
      rw [← hWS] at hx
      obtain ⟨i, hi, rfl, _⟩ := wrl_mem.1 hx
      unfold i64; omega)
    have HKP := Lib.hid (show keysP ts level (n + 1) key F ↔ ∃ o, o ∈ ordsN WS.length WS ∧ keysP ts level n (key + 1) (F ++ sdB (key : Int) o o.length) from by rw [keysP, hWS])
    have HRW := Lib.hid (show Calls Tryz.prog 27 #[.slice a ts.length c, .slice fa F.length fc, vi key] w (fun e w' => ∃ v', e = .returned v' ∧ OwI w.heap.size w' v' WS ∧ Below w.heap.size w w') from by rw [← hWS]; exact refWriters_call _ _ ts F (key : Int) w hv hg hf)
    have HSF := Lib.hid (RdSaid.src hf)
    clear ih hv hf hWS
    go_enter Tryz.func70, Tryz.ntmps70
    go_wp2_with (first
      | (go_at_call 87; refine (ordersX_call WS.length WS _ w3 (by omega) rfl HW3.out).mono ?_; rintro e4 w4 ⟨v4, us, rfl, ho4, hl4, he4, hb4⟩; have HO4 := Lib.hid ho4; have HE4 := Lib.hid he4; have HB4 := Lib.hid (HB3.out.trans (hb4.mono HB3.out.size)); obtain ⟨a4, c4, rfl, h4g⟩ := own_shapeY ho4; clear ho4 he4 hb4)
      | (go_at_call 27; refine HRW.out.mono ?_; rintro e3 w3 ⟨v3, rfl, ho3, hb3⟩; have HW3 := Lib.hid (show RdInts w3 v3 WS from ho3.rdY HWB.out); have HB3 := Lib.hid hb3; clear ho3 hb3))
    obtain ⟨P, hP⟩ : ∃ P, ordsN WS.length WS = P := ⟨_, rfl⟩
    rw [hP] at HE4 HKP
    have HPL := Lib.hid (show ∀ o ∈ P, o.length ≤ 10 from fun o ho => by
      rw [← hP] at ho
      have := ((ords_perm rfl).1 ho).length_eq
      omega)
    clear hP HRW
    have HUL := Lib.hid HE4.out.len
    have hus4 : us.length ≤ 10000000000 := Nat.le_trans hl4 (Nat.le_trans (Nat.pow_le_pow_right (by omega) (show WS.length ≤ 10 by omega)) (by decide))
    clear hl4
    go_loopw [10, 11, 12, 13, 14, 15, 32, 41] (fun _ _ _ _ _ _ i _ wr => ∃ k : Nat, k ≤ us.length ∧ i = .int .i64 k ∧ Hid (∀ (i : Nat) (o : List Int), i < k → P[i]? = some o → ¬ keysP ts level n (key + 1) (F ++ sdB (key : Int) o o.length)) ∧ Below w4.heap.size w4 wr) (fun _ _ _ _ _ _ i _ _ => us.length - (intOf i).toNat)
    case atStart => exact ⟨0, Nat.zero_le _, rfl, Lib.hid (fun i o h => absurd h (Nat.not_lt_zero _)), Below.refl _ _⟩
    case round =>
      obtain ⟨wk, rfl⟩ : ∃ wk : World, wk = wr := ⟨_, rfl⟩
      obtain ⟨k, hk2, rfl, HNO, hb⟩ := hrel
      have HBk := Lib.hid hb
      have HBz := Lib.hid (HB4.out.trans (hb.mono HB4.out.size))
      have HVk := Lib.hid (HV.out.later HBz.out)
      clear hb
      by_cases hlt : k < us.length
      · have hkI : (k : Int) < (us.length : Int) := by omega
        have wk1 : IntKind.i64.wrap ((k : Int) + 1) = ((k + 1 : Nat) : Int) := by rw [IntWalk.i64_in _ (by omega)]; omega
        obtain ⟨u, hu⟩ := some_at hlt
        obtain ⟨l, hl⟩ := some_at (l := P) (k := k) (by have := HUL.out; omega)
        obtain ⟨g4, rfl, hg4⟩ := h4g (by omega)
        have hcu := World.ownsRow.cells (own_below HO4.out HBk.out) (g := g4) rfl k u (by simpa using hu)
        rw [addr_add, Nat.zero_add] at hcu
        have hru := ((HE4.out.below HBk.out).at_ k u l hu hl).rdY (HE4.out.ok l (List.mem_of_getElem? hl)).1
        obtain ⟨oa, on, oc, rfl, rfl, hom, -⟩ := hru.at
        have HRL := Lib.hid hru
        have hl10 := HPL.out l (List.mem_of_getElem? hl)
        have HLP := Lib.hid hl
        have HO0 := Lib.hid (World.ownsRow_lit (base := wk.heap.size) (e := 109) (size := 5) wk #[] 0 (Nat.le_refl _) (by simp [maxLen]) rfl)
        have HA0 := Lib.hid ((Below.refl wk.heap.size wk).alloc (Nat.le_refl _) (.cells #[] 109))
        have HSL := Lib.hid (HSF.out.below (HBz.out.trans (HA0.out.mono HBz.out.size)))
        have HONE := Lib.hid (show ∀ u ∈ F.flatMap saidV, u.oneCell' = true from fun u hu => by
          obtain ⟨p, _, hp⟩ := List.mem_flatMap.1 hu
          exact saidV_one p u hp)
        clear hu hl hru
        go_upto_region 7 with (at_builtin; refine wpList_append_src rfl _ _ 60 rfl eltSaid wk.heap.size 0 [] HO0.out rfl F.length _ HSL.out rfl HONE.out (by omega) (by omega) (by first | (simp; done) | (simp; omega)) ?_; intro v7 w7 ho7 hg7 _; have HS7 := Lib.hid (show OwSaid wk.heap.size w7 v7 F from by have h := ho7; unfold OwSaid; simpa using h); have HB7 := Lib.hid (HA0.out.grown hg7 (by first | (simp; done) | (simp; omega)) (fun j hj => (World.ownsRow.lt HO0.out j hj).1)); clear ho7 hg7)
        clear hcu
        obtain ⟨ga, gc, rfl⟩ := own_shapeF HS7.out
        go_wp2_with fail
        go_loopw [11, 12, 13, 14, 15, 41] (fun f _ _ _ _ n wr => ∃ k2 : Nat, k2 ≤ l.length ∧ n = .int .i64 k2 ∧ Hid (OwSaid wk.heap.size wr f (F ++ sdB (key : Int) l k2) ∧ Below wk.heap.size wk wr)) (fun _ _ _ _ _ n _ => l.length - (intOf n).toNat)
        case atStart => exact ⟨0, Nat.zero_le _, rfl, Lib.hid ⟨by have h := HS7.out; simpa [sdB] using h, HB7.out⟩⟩
        case round =>
          clear HS7
          obtain ⟨wp, rfl⟩ : ∃ wk : World, wk = wr := ⟨_, rfl⟩
          obtain ⟨k2, hk4, rfl, HJ⟩ := hrel
          have HSp := Lib.hid HJ.out.1
          have HBp := Lib.hid HJ.out.2
          clear HJ
          have hsb := sdB_len (key : Int) l k2
          obtain ⟨fe, fg, rfl⟩ := own_shapeF HSp.out
          by_cases hk5 : k2 < l.length
          · have hkI : (k2 : Int) < (l.length : Int) := by omega
            have wk2 : IntKind.i64.wrap ((k2 : Int) + 1) = ((k2 + 1 : Nat) : Int) := by rw [IntWalk.i64_in _ (by omega)]; omega
            obtain ⟨y, hy⟩ := some_at hk5
            have HY := Lib.hid hy
            have HSB1 := Lib.hid (show sdB (key : Int) l (k2 + 1) = sdB key l k2 ++ sdA key l k2 k2 from sdB_succ _ _ _)
            clear hy
            go_wp2_with fail
            go_loopw [11, 13, 14, 15] (fun f n _ _ wr => ∃ j : Nat, j ≤ k2 ∧ n = .int .i64 j ∧ Hid (OwSaid wk.heap.size wr f ((F ++ sdB (key : Int) l k2) ++ sdA (key : Int) l k2 j) ∧ Below wk.heap.size wk wr)) (fun _ n _ _ _ => k2 - (intOf n).toNat)
            case atStart => exact ⟨0, Nat.zero_le _, rfl, Lib.hid ⟨by have h := HSp.out; simpa [sdA] using h, HBp.out⟩⟩
            case round =>
              clear HSp HBp
              obtain ⟨ws, rfl⟩ : ∃ wk : World, wk = wr := ⟨_, rfl⟩
              obtain ⟨j, hj6, rfl, HJ⟩ := hrel
              have HSs := Lib.hid HJ.out.1
              have HBs := Lib.hid HJ.out.2
              clear HJ
              obtain ⟨fh, fi, rfl⟩ := own_shapeF HSs.out
              obtain ⟨M, hM⟩ : ∃ M, (F ++ sdB (key : Int) l k2) ++ sdA (key : Int) l k2 j = M := ⟨_, rfl⟩
              have HM := Lib.hid hM
              have hMl : M.length + 1 ≤ 68719476736 := by
                rw [← hM]
                have h5 : k2 * k2 ≤ 10 * 10 := Nat.mul_le_mul (by omega) (by omega)
                simp only [List.length_append, sdA_len]
                omega
              rw [hM] at HSs
              rw [hM]
              clear hM
              by_cases hjk : j < k2
              · obtain ⟨x, hx⟩ := some_at (l := l) (k := j) (by omega)
                have hjI : (j : Int) < (k2 : Int) := by omega
                have hjl : (j : Int) < (l.length : Int) := by omega
                have wj1 : IntKind.i64.wrap ((j : Int) + 1) = ((j + 1 : Nat) : Int) := by rw [IntWalk.i64_in _ (by omega)]; omega
                obtain ⟨_, _, _, e6, -, -, hul⟩ := (HRL.out.later HBs.out).at
                cases e6
                obtain ⟨lb, lo, rfl, x0, -⟩ := hul j x hx
                obtain ⟨_, _, e7, y0, -⟩ := hul k2 y HY.out
                cases e7
                have HMN := Lib.hid (show (F ++ sdB (key : Int) l k2) ++ sdA (key : Int) l k2 (j + 1) = M ++ [pairS key x y] from by rw [take_said hx HY.out, ← List.append_assoc, HM.out])
                clear hul hx
                go_upto_region 13 with fail
                go_still_tail 8, (by kernel_rfl)
                change wpList _ _ _ _ _ ws.drew
                have HSt := Lib.hid (show OwSaid wk.heap.size ws.drew _ M from HSs.out)
                have HBt := Lib.hid (show Below wk.heap.size wk ws.drew from HBs.out.drew)
                have x1 : ws.drew.cell? ⟨lb, lo + j, none⟩ = some (vi x) := x0
                have y1 : ws.drew.cell? ⟨lb, lo + k2, none⟩ = some (vi y) := y0
                clear x0 y0 HSs HBs
                generalize ws.drew = wt at *
                go_upto_region 14 with fail
                go_still_tail 8, (by kernel_rfl)
                change wpList _ _ _ _ _ wt.drew
                have HSs := Lib.hid (show OwSaid wk.heap.size wt.drew _ M from HSt.out)
                have HBs := Lib.hid (show Below wk.heap.size wk wt.drew from HBt.out.drew)
                have x0 : wt.drew.cell? ⟨lb, lo + j, none⟩ = some (vi x) := x1
                clear x1 y1 HSt HBt
                generalize wt.drew = wu at *
                have HSL := Lib.hid (World.ownsRow.alloc HSs.out (.cells #[vi 2, vi key, vi (min x y), vi (max x y), .bool (x == min x y)] 109))
                have hbs5 := HBs.out.size
                have HSRC := Lib.hid (show Src (wu.alloc (.cells #[vi 2, vi key, vi (min x y), vi (max x y), .bool (x == min x y)] 109)) (.slice (some ⟨wu.heap.size, 0, none⟩) 1 1) 5 1 (saidV (pairS key x y)) from by
                  have h : Src (wu.alloc (.cells #[vi 2, vi key, vi (min x y), vi (max x y), .bool (x == min x y)] 109)) (.slice (some ⟨wu.heap.size, 0, none⟩) 1 1) 5 1 [vi 2, vi key, vi (min x y), vi (max x y), .bool (x == min x y)] := src_new (cs := #[vi 2, vi key, vi (min x y), vi (max x y), .bool (x == min x y)]) rfl rfl
                  have e : (x == min x y) = decide (x = min x y) := by rw [Bool.eq_iff_iff, beq_iff_eq, decide_eq_true_eq]
                  rw [e] at h
                  rw [e]
                  exact h)
                go_wp2_with (at_builtin; go_loud (refine wpList_append_src rfl _ _ 60 rfl eltSaid wk.heap.size M.length _ HSL.out rfl 1 (saidV (pairS key x y)) HSRC.out rfl (saidV_one _) (by omega) (by omega) (by simp; omega) ?_; intro v5 w5 ho5 hg5 _; have HS5 := Lib.hid ho5; have HB5 := Lib.hid ((HBs.out.alloc HBs.out.size (.cells #[vi 2, vi key, vi (min x y), vi (max x y), .bool (x == min x y)] 109)).grown hg5 (by simp; omega) (fun j hj => (World.ownsRow.lt HSs.out j hj).1)); clear ho5 hg5))
                refine ⟨⟨j + 1, by omega, rfl, Lib.hid ⟨?_, HB5.out⟩⟩, ?_⟩
                · rw [HMN.out]; have h := HS5.out; unfold OwSaid; simpa using h
                · simp only [intOf]; omega
              · obtain rfl : j = k2 := by omega
                have HMN := Lib.hid (show F ++ sdB (key : Int) l (j + 1) = M from by rw [HSB1.out, ← List.append_assoc, HM.out])
                go_wp2_with fail
                exact ⟨⟨j + 1, by omega, rfl, Lib.hid ⟨by rw [HMN.out]; exact HSs.out, HBs.out⟩⟩, by simp only [intOf]; omega⟩
          · obtain rfl : k2 = l.length := by omega
            have HBpz := Lib.hid (HBz.out.trans (HBp.out.mono HBz.out.size))
            have hkl : l.length * l.length ≤ 10 * 10 := Nat.mul_le_mul hl10 hl10
            have hFL : (F ++ sdB (key : Int) l l.length).length ≤ 1000 + 100 * (key + 1) := by rw [List.length_append]; omega
            have HIC := Lib.hid (IH.out (key + 1) (F ++ sdB (key : Int) l l.length) (.slice a ts.length c) _ wp (by omega) hFL (HV.out.later HBpz.out) HSp.out.rd)
            clear hkl hFL hsb
            obtain ⟨G, hG⟩ : ∃ G, F ++ sdB (key : Int) l l.length = G := ⟨_, rfl⟩
            have HGE := Lib.hid hG
            rw [hG] at HIC HSp
            rw [hG]
            clear hG
            have HNN := Lib.hid (show ¬ keysP ts level n (key + 1) G → ∀ (i : Nat) (o : List Int), i < k + 1 → P[i]? = some o → ¬ keysP ts level n (key + 1) (F ++ sdB (key : Int) o o.length) from fun hn i o hi ho => by
              rcases Nat.lt_or_ge i k with h | h
              · exact HNO.out i o h ho
              · obtain rfl : i = k := by omega
                rw [HLP.out] at ho
                cases ho
                rw [HGE.out]
                exact hn)
            have HYY := Lib.hid (show keysP ts level n (key + 1) G → keysP ts level (n + 1) key F from fun h => HKP.out.2 ⟨l, List.mem_of_getElem? HLP.out, by rw [HGE.out]; exact h⟩)
            go_wp2_with (go_at_call 70; refine HIC.out.mono ?_; rintro e9 w9 ⟨b9, rfl, hi9, hb9⟩; have HB9 := Lib.hid (HBpz.out.trans (hb9.mono HBpz.out.size)); have HB9k := Lib.hid (HBk.out.trans ((HBp.out.trans (hb9.mono HBp.out.size)).mono HBk.out.size)); have HI9 := Lib.hid hi9; clear hi9 hb9; cases b9)
            · have HN9 := Lib.hid (HNN.out (fun hp => by have := HI9.out.2 hp; cases this))
              exact ⟨⟨k + 1, by omega, by go_num, Lib.hid HN9.out, HB9k.out⟩, by simp only [intOf]; omega⟩
            · go_ret
              exact ⟨true, rfl, ⟨fun _ => HYY.out (HI9.out.1 (by first | rfl | trivial)), fun _ => rfl⟩, HB9.out⟩
      · obtain rfl : k = us.length := by omega
        go_wp2_with fail
        go_ret
        refine ⟨false, rfl, ⟨fun h => (by cases h), fun h => ?_⟩, HBz.out⟩
        obtain ⟨o, ho, hp⟩ := HKP.out.1 h
        obtain ⟨i, hi⟩ := List.mem_iff_getElem?.1 ho
        exact absurd hp (HNO.out i o (by have := (List.getElem?_eq_some_iff.1 hi).1; have := HUL.out; omega) hi)
end Go.Proofs.YtnacoplokjdglaaGreat
