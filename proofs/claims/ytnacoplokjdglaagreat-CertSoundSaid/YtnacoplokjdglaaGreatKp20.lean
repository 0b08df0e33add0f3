/- Texts of one proof, one behind the other: CtSd, DpCn, IsX, CtT, CtBig. -/
import Derived.Shelf.SlSortCmp.Insertion
import Derived.Sort.Walk13a
import Derived.Sort.AssemblyPlain
import Derived.Shelf.SlSortCmp.Kit1
import Derived.Sort.WalkA
import Derived.Sort.Lot0
import Derived.Shelf.SlSortCmp.BreakPatterns1
import Derived.Sort.LotD1
import Derived.Sort.Walk13
import Derived.Sort.WalkB2
import Derived.Sort.WalkB12
import Derived.BigQuiet
import Derived.Sort.WalkB3
import Derived.Shelf.SlGeneric
import Derived.Shelf.SlLaysF
import Derived.Test.YtnacoplokjdglaaGreatProg
import Derived.Test.YtnacoplokjdglaaGreatKp1
import Derived.Test.YtnacoplokjdglaaGreatKp2
import Derived.Test.YtnacoplokjdglaaGreatKp3
import Derived.Test.YtnacoplokjdglaaGreatKp4
import Derived.Test.YtnacoplokjdglaaGreatKp5
import Derived.Test.YtnacoplokjdglaaGreatKp6
import Derived.Test.YtnacoplokjdglaaGreatKp7
import Derived.Test.YtnacoplokjdglaaGreatKp8
import Derived.Test.YtnacoplokjdglaaGreatKp9
import Derived.Test.YtnacoplokjdglaaGreatKp10
import Derived.Test.YtnacoplokjdglaaGreatKp11
import Derived.Test.YtnacoplokjdglaaGreatKp12
import Derived.Test.YtnacoplokjdglaaGreatKp13
import Derived.Test.YtnacoplokjdglaaGreatKp14
import Derived.Test.YtnacoplokjdglaaGreatKp15
import Derived.Test.YtnacoplokjdglaaGreatKp16
import Derived.Test.YtnacoplokjdglaaGreatKp17
import Derived.Test.YtnacoplokjdglaaGreatKp18
import Derived.Test.YtnacoplokjdglaaGreatKp19
set_option linter.all false
namespace Go.Proofs.YtnacoplokjdglaaGreat
open Go.RowKit Go.Maps

theorem sd0_mem {C : List GChoice} {dn : List Bool} {p : GChoice × Bool} : p ∈ sd0 C dn ↔ p.1 ∈ C ∧ p.1.kind = 1 ∧ p.2 = dn[p.1.a.toNat]?.getD false := by
  unfold sd0
  rw [List.mem_filterMap]
  constructor
  · rintro ⟨c, hc, h⟩
    split at h
    · rename_i hk
      cases h
      exact ⟨hc, hk, rfl⟩
    · cases h
  · rintro ⟨h1, h2, h3⟩
    exact ⟨p.1, h1, by rw [if_pos h2, ← h3]⟩
theorem sdB_mem {key : Int} {o : List Int} {p : GChoice × Bool} : p ∈ sdB key o o.length ↔ ∃ (j k : Nat) (x y : Int), j < k ∧ o[j]? = some x ∧ o[k]? = some y ∧ p = pairS key x y := by
  unfold sdB sdA
  rw [List.mem_flatMap]
  constructor
  · rintro ⟨k, hk, h⟩
    rw [List.mem_range] at hk
    obtain ⟨j, hj, rfl⟩ := List.mem_map.1 h
    rw [List.mem_range] at hj
    obtain ⟨x, hx⟩ := some_at (l := o) (k := j) (by omega)
    obtain ⟨y, hy⟩ := some_at (l := o) (k := k) hk
    exact ⟨j, k, x, y, hj, hx, hy, by rw [hx, hy]; rfl⟩
  · rintro ⟨j, k, x, y, hjk, hx, hy, rfl⟩
    have hk := (List.getElem?_eq_some_iff.1 hy).1
    exact ⟨k, List.mem_range.2 hk, List.mem_map.2 ⟨j, List.mem_range.2 hjk, by rw [hx, hy]; rfl⟩⟩
theorem sdC_mem {O : OrdL} {p : GChoice × Bool} {n : Nat} : p ∈ sdC O n ↔ ∃ (key : Nat), key < n ∧ p ∈ sdB (key : Int) (ordL O key) (ordL O key).length := by
  unfold sdC
  rw [List.mem_flatMap]
  constructor
  · rintro ⟨key, hk, h⟩; exact ⟨key, List.mem_range.1 hk, h⟩
  · rintro ⟨key, hk, h⟩; exact ⟨key, List.mem_range.2 hk, h⟩
theorem getM_of {F : FaL} {c : GChoice} {b : Bool} (h1 : ∃ p ∈ F, p.1 = c) (h2 : ∀ p ∈ F, p.1 = c → p.2 = b) : getM F c = some b := by
  induction F with
  | nil => obtain ⟨p, hp, _⟩ := h1; cases hp
  | cons q F ih =>
    rw [getM_cons]
    split
    · rename_i e
      rw [h2 q List.mem_cons_self e]
    · rename_i e
      refine ih ?_ (fun p hp => h2 p (List.mem_cons_of_mem _ hp))
      obtain ⟨p, hp, hc⟩ := h1
      rcases List.mem_cons.1 hp with rfl | hp
      · exact absurd hc e
      · exact ⟨p, hp, hc⟩
section
variable {ts : List GTxn} {dn : List Bool} {O : OrdL}
theorem sd0_fact (dn : List Bool) (G : FaL) (hG : ∀ p ∈ G, p.1.kind ≠ 1) : Fact1 ts dn (sd0 (choicesM ts) dn ++ G) := fun c hk => by
  by_cases hc : c ∈ choicesM ts
  · rw [if_pos hc]
    refine getM_of ⟨(c, dn[c.a.toNat]?.getD false), List.mem_append_left _ (sd0_mem.2 ⟨hc, hk, rfl⟩), rfl⟩ (fun p hp he => ?_)
    rcases List.mem_append.1 hp with h | h
    · rw [(sd0_mem.1 h).2.2, he]
    · exact absurd (by rw [he]; exact hk) (hG p h)
  · rw [if_neg hc, getM_none]
    intro p hp he
    rcases List.mem_append.1 hp with h | h
    · exact hc (by rw [← he]; exact (sd0_mem.1 h).1)
    · exact hG p h (by rw [he]; exact hk)
theorem sdC_kind {n : Nat} : ∀ p ∈ sdC O n, p.1.kind ≠ 1 := fun p hp => by
  obtain ⟨key, _, h⟩ := sdC_mem.1 hp
  obtain ⟨j, k, x, y, _, _, _, rfl⟩ := sdB_mem.1 h
  unfold pairS; simp
theorem saidL_fact (n : Nat) : Fact1 ts dn (sd0 (choicesM ts) dn ++ sdC O n) := sd0_fact dn _ sdC_kind
theorem sd0_fact1 : Fact1 ts dn (sd0 (choicesM ts) dn) := by have := sd0_fact (ts := ts) dn [] (fun p h => by cases h); rwa [List.append_nil] at this
theorem wrl_fact {F G : FaL} (hF : Fact1 ts dn F) (hG : Fact1 ts dn G) (key : Int) : wrl ts F key = wrl ts G key := by
  unfold wrl wrlK
  have : inW ts F key = inW ts G key := by
    funext i; unfold inW; rw [isM_fact1 hF hG]
  rw [this]
theorem wrl_fits {F : FaL} (h : Fits ts dn F) (key : Int) : wrl ts F key = wantL ts dn key ts.length := by
  have h : ∀ n, n ≤ ts.length → wrlK ts F key n = wantL ts dn key n := by
    intro n
    induction n with
    | zero => intro _; rfl
    | succ n ih =>
      intro hn
      rw [wrlK_succ, wantL_succ, ih (by omega), show inW ts F key n = (dn[n]?.getD false && wrOf ts n key) from by unfold inW; rw [h n (by omega)]]
  exact h _ (Nat.le_refl _)
/-- Two that are said of at two places of an order. -/
theorem pairS_inj {key key' x y x' y' : Int} (h : (pairS key x y).1 = (pairS key' x' y').1) : key = key' ∧ (x = x' ∧ y = y' ∨ x = y' ∧ y = x') := by
  unfold pairS at h
  simp only at h
  injection h with _ h1 h2 h3
  exact ⟨h1, by omega⟩
theorem pair_at {o : List Int} (hn : o.Nodup) {key key' x y x' y' : Int} {j k j' k' : Nat} (hjk : j < k) (hjk' : j' < k') (h1 : o[j]? = some x) (h2 : o[k]? = some y) (h3 : o[j']? = some x') (h4 : o[k']? = some y') (h : (pairS key x y).1 = (pairS key' x' y').1) : j = j' ∧ k = k' ∧ x = x' ∧ y = y' := by
  rcases (pairS_inj h).2 with ⟨rfl, rfl⟩ | ⟨rfl, rfl⟩
  · exact ⟨nodup_at hn h1 h3, nodup_at hn h2 h4, rfl, rfl⟩
  · have e1 := nodup_at hn h1 h4
    have e2 := nodup_at hn h2 h3
    omega
theorem sdA_nodup {o : List Int} (hn : o.Nodup) {key : Int} {k : Nat} (hk : k < o.length) : ∀ n, n ≤ k → ((sdA key o k n).map (·.1)).Nodup
  | 0, _ => by simp [sdA]
  | n + 1, h => by
    rw [sdA_succ, List.map_append, List.nodup_append]
    refine ⟨sdA_nodup hn hk n (by omega), by simp, fun c hc d hd e => ?_⟩
    subst e
    obtain ⟨p, hp, rfl⟩ := List.mem_map.1 hc
    unfold sdA at hp
    obtain ⟨j, hj, rfl⟩ := List.mem_map.1 hp
    rw [List.mem_range] at hj
    rw [List.map_cons, List.map_nil, List.mem_singleton] at hd
    obtain ⟨x, hx⟩ := some_at (l := o) (k := j) (by omega)
    obtain ⟨y, hy⟩ := some_at (l := o) (k := k) hk
    obtain ⟨z, hz⟩ := some_at (l := o) (k := n) (by omega)
    rw [hx, hy, hz] at hd
    have := pair_at hn (show j < k by omega) (show n < k by omega) hx hy hz hy hd
    omega
theorem sdB_nodup {o : List Int} (hn : o.Nodup) {key : Int} : ∀ n, n ≤ o.length → ((sdB key o n).map (·.1)).Nodup
  | 0, _ => by simp [sdB]
  | n + 1, h => by
    rw [sdB_succ, List.map_append, List.nodup_append]
    refine ⟨sdB_nodup hn n (by omega), sdA_nodup hn (by omega) n (Nat.le_refl _), fun c hc d hd e => ?_⟩
    subst e
    obtain ⟨p, hp, rfl⟩ := List.mem_map.1 hc
    obtain ⟨q, hq, hqp⟩ := List.mem_map.1 hd
    unfold sdB at hp
    obtain ⟨k, hk, hp⟩ := List.mem_flatMap.1 hp
    rw [List.mem_range] at hk
    unfold sdA at hp hq
    obtain ⟨j, hj, rfl⟩ := List.mem_map.1 hp
    obtain ⟨i, hi, rfl⟩ := List.mem_map.1 hq
    rw [List.mem_range] at hj hi
    obtain ⟨x, hx⟩ := some_at (l := o) (k := j) (by omega)
    obtain ⟨y, hy⟩ := some_at (l := o) (k := k) (by omega)
    obtain ⟨x', hx'⟩ := some_at (l := o) (k := i) (by omega)
    obtain ⟨y', hy'⟩ := some_at (l := o) (k := n) (by omega)
    rw [hx, hy, hx', hy'] at hqp
    have := pair_at hn hi hj hx' hy' hx hy hqp
    omega
theorem sdC_nodup (hO : ∀ key : Nat, key < 16 → (ordL O key).Nodup) : ∀ n, n ≤ 16 → ((sdC O n).map (·.1)).Nodup
  | 0, _ => by simp [sdC]
  | n + 1, h => by
    rw [sdC_succ, List.map_append, List.nodup_append]
    refine ⟨sdC_nodup hO n (by omega), sdB_nodup (hO n (by omega)) _ (Nat.le_refl _), fun c hc d hd e => ?_⟩
    subst e
    obtain ⟨p, hp, rfl⟩ := List.mem_map.1 hc
    obtain ⟨q, hq, hqp⟩ := List.mem_map.1 hd
    obtain ⟨key, hk, hp⟩ := sdC_mem.1 hp
    obtain ⟨j, k, x, y, _, _, _, rfl⟩ := sdB_mem.1 hp
    obtain ⟨j', k', x', y', _, _, _, rfl⟩ := sdB_mem.1 hq
    have := (pairS_inj hqp).1
    omega
theorem saidL_nodup (hO : ∀ key : Nat, key < 16 → (ordL O key).Nodup) : (saidL ts dn O).Pairwise (fun p q => p.1 ≠ q.1) := by
  have h : ((saidL ts dn O).map (·.1)).Nodup := by
    unfold saidL
    rw [List.map_append, List.nodup_append]
    refine ⟨?_, sdC_nodup hO 16 (Nat.le_refl _), fun c hc d hd e => ?_⟩
    · have h1 : ((choicesM ts).filterMap (fun c => if c.kind = 1 then some (c, dn[c.a.toNat]?.getD false) else none)).map (·.1) = (choicesM ts).filter (fun c => decide (c.kind = 1)) := by
        induction choicesM ts with
        | nil => rfl
        | cons c C ih => by_cases hk : c.kind = 1 <;> simp [hk, ih]
      unfold sd0
      rw [h1]
      exact (choicesM_nodup ts).filter _
    · subst e
      obtain ⟨p, hp, rfl⟩ := List.mem_map.1 hc
      obtain ⟨q, hq, hqp⟩ := List.mem_map.1 hd
      have h1 := (sd0_mem.1 hp).2.1
      exact sdC_kind q hq (by rw [hqp]; exact h1)
  rw [List.nodup_iff_pairwise_ne, List.pairwise_map] at h
  exact h
/-- What is said fits: then it is what chains.Fix makes. -/
theorem saidL_fix (hfit : Fits ts dn (sd0 (choicesM ts) dn)) (hperm : ∀ key : Nat, key < 16 → (ordL O key).Perm (wrl ts (sd0 (choicesM ts) dn) key)) : FixF ts dn O (saidL ts dn O) ∧ (saidL ts dn O).Pairwise (fun p q => p.1 ≠ q.1) := by
  have hnd : ∀ key : Nat, key < 16 → (ordL O key).Nodup := fun key hk => (hperm key hk).nodup_iff.2 (wrlK_nodup _ _ _ _)
  refine ⟨⟨saidL_fact 16, hfit.same sd0_fact1 (saidL_fact 16), fun key hk => srt_is ((hperm key hk).trans (by rw [wrl_fits hfit])), fun key hk b a x y hab hb ha hbb => ?_, fun c so hk hc => ?_⟩, saidL_nodup hnd⟩
  · have hne : x ≠ y := fun e => by subst e; have := nodup_at (hnd key hk) ha hbb; omega
    refine getM_of ⟨pairS key x y, List.mem_append_right _ (sdC_mem.2 ⟨key, hk, sdB_mem.2 ⟨a, b, x, y, hab, ha, hbb, rfl⟩⟩), rfl⟩ (fun p hp he => ?_)
    rcases List.mem_append.1 hp with h | h
    · have := (sd0_mem.1 h).2.1; rw [he] at this; simp at this
    · obtain ⟨key', hk', h⟩ := sdC_mem.1 h
      obtain ⟨j', k', x', y', hj, h3, h4, rfl⟩ := sdB_mem.1 h
      have he' : (pairS key' x' y').1 = (pairS key x y).1 := he
      have e1 := (pairS_inj he').1
      have e2 : key' = key := by omega
      subst e2
      obtain ⟨-, -, rfl, rfl⟩ := pair_at (hnd key' hk) hj hab h3 h4 ha hbb he'
      unfold pairS
      simp only [decide_eq_decide]
      omega
  · have hm := getM_some hc
    rcases List.mem_append.1 hm with h | h
    · exact absurd (sd0_mem.1 h).2.1 hk
    · obtain ⟨key, hkey, h⟩ := sdC_mem.1 h
      obtain ⟨j, k, x, y, hj, h3, h4, he⟩ := sdB_mem.1 h
      refine ⟨key, hkey, x, y, List.mem_of_getElem? h3, List.mem_of_getElem? h4, fun e => ?_, ?_⟩
      · subst e; have := nodup_at (hnd key hkey) h3 h4; omega
      · have := congrArg Prod.fst he
        exact this
/-- Whoever chains.Fix takes fits. -/
theorem FixF.said {F : FaL} (h : FixF ts dn O F) : Fits ts dn (sd0 (choicesM ts) dn) ∧ ∀ key : Nat, key < 16 → (ordL O key).Perm (wrl ts (sd0 (choicesM ts) dn) key) := by
  have hf := h.fits.same h.one sd0_fact1
  exact ⟨hf, fun key hk => by rw [wrl_fits hf, ← h.good key hk]; exact (srt_perm _).symm⟩

theorem erase_perm : ∀ {l : List Int} {i : Nat} {x : Int}, l[i]? = some x → l.Perm (x :: l.eraseIdx i)
  | [], i, x, h => by simp at h
  | y :: l, 0, x, h => by simp at h; subst h; exact List.Perm.refl _
  | y :: l, i + 1, x, h => by
    rw [List.getElem?_cons_succ] at h
    rw [List.eraseIdx_cons_succ]
    exact ((erase_perm h).cons y).trans (List.Perm.swap _ _ _)
theorem leftL_nil : ∀ {ws l : List Int}, leftL l ws = some [] ↔ l.Perm ws
  | [], l => by
    unfold leftL
    simp
  | x :: ws, l => by
    unfold leftL
    rcases lastAt_spec l x l.length (Nat.le_refl _) with ⟨h1, h2⟩ | ⟨i, h1, h2, h3⟩
    · rw [if_neg (by rw [h1]; decide)]
      constructor
      · intro h; cases h
      · intro h
        obtain ⟨i, hi⟩ := List.mem_iff_getElem?.1 (h.mem_iff.2 (List.mem_cons_self (a := x)))
        exact absurd hi (h2 i (List.getElem?_eq_some_iff.1 hi).1)
    · rw [if_pos (by rw [h2]; omega), h2, Int.toNat_natCast, leftL_nil]
      have hp := erase_perm h3
      constructor
      · intro h; exact hp.trans (h.cons x)
      · intro h; exact (hp.symm.trans h).cons_inv
end
end Go.Proofs.YtnacoplokjdglaaGreat

namespace Go.Proofs.YtnacoplokjdglaaGreat
open Go.RowKit Go.Maps

def idxN (q : Int → Bool) (l : List Int) : Int := match l.findIdx? q with | some i => (i : Int) | none => -1
theorem idxN_any (q : Int → Bool) (l : List Int) : decide (0 ≤ idxN q l) = l.any q := by
  unfold idxN
  cases h : l.findIdx? q with
  | none =>
    rw [List.findIdx?_eq_none_iff] at h
    simp only [show ¬ ((0 : Int) ≤ -1) from by decide, decide_false]
    symm; rw [List.any_eq_false]; exact fun x hx => by simp [h x hx]
  | some i =>
    have hs : (l.findIdx? q).isSome = true := by rw [h]; rfl
    rw [List.findIdx?_isSome] at hs
    rw [hs]; simp


/-- A row of ints, read. -/
def IntsAt (w : World) (v : Value) (l : List Int) : Prop := ∃ a c, v = .slice a l.length c ∧ l.length ≤ 1000000000 ∧ ∀ (j : Nat) x, l[j]? = some x → ∃ b off, a = some ⟨b, off, none⟩ ∧ w.cell? ⟨b, off + j, none⟩ = some (vi x)
theorem ints_of_own {w : World} {N : Nat} {a : Option Addr} {c : Nat} {l : List Int} (h : w.ownsRow N 3 1 (.slice a l.length c) l.length (l.flatMap viC)) (hl : l.length ≤ 1000000000) : IntsAt w (.slice a l.length c) l :=
  ⟨a, c, rfl, hl, fun j x hj => by
    obtain ⟨g, h1, h2⟩ := row_cell h j x hj
    exact ⟨g, 0, h1, by rw [Nat.zero_add]; exact h2⟩⟩
theorem IntsAt.later {A B : World} {v : Value} {l : List Int} (h : IntsAt A v l) (hb : Below A.heap.size A B) : IntsAt B v l := by
  obtain ⟨a, c, h1, h2, h3⟩ := h
  exact ⟨a, c, h1, h2, fun j x hj => by
    obtain ⟨b, off, h4, h5⟩ := h3 j x hj
    exact ⟨b, off, h4, cell_later hb h5⟩⟩
set_option maxRecDepth 100000 in
theorem indexN_call (v : Value) (l : List Int) (z : Int) (w : World) (hv : IntsAt w v l) :
    Calls Tryz.prog 124 #[v, vi z] w fun e w' => e = .returned (.int .i64 (idxN (fun o => z == o) l)) ∧ Below w.heap.size w w' := by
  have HV := Lib.hid hv
  obtain ⟨a, cap, rfl, hm, -⟩ := HV.out
  clear hv
  go_enter Tryz.func124, Tryz.ntmps124
  go_wp2_with fail
  go_loopw [5, 8] (fun _ i wr => ∃ k : Nat, k ≤ l.length ∧ i = .int .i64 k ∧ (∀ j o, j < k → l[j]? = some o → (z == o) = false) ∧ Below w.heap.size w wr) (fun _ i _ => l.length - (intOf i).toNat)
  case atStart => exact ⟨0, Nat.zero_le _, rfl, fun j o hj => absurd hj (Nat.not_lt_zero _), Below.refl _ _⟩
  case round =>
    obtain ⟨k, hk, rfl, hno, hb⟩ := hrel
    have HB := Lib.hid hb
    have HN := Lib.hid hno
    clear hb hno
    by_cases hlt : k < l.length
    · obtain ⟨o, ho⟩ := some_at hlt
      obtain ⟨_, _, e5, -, hcl⟩ := HV.out
      cases e5
      obtain ⟨b, off, rfl, k0'⟩ := hcl k o ho
      have k0 := cell_later HB.out k0'
      have HO := Lib.hid ho
      clear hcl ho k0'
      cases hh : (z == o) with
      | true =>
        have HH := Lib.hid hh
        go_wp2_with fail
        go_ret
        have : idxN (fun o => z == o) l = k := by
          unfold idxN
          have : l.findIdx? (fun o => z == o) = some k := by
            rw [List.findIdx?_eq_some_iff_getElem]
            have hg := List.getElem?_eq_some_iff.1 HO.out
            refine ⟨hlt, by rw [hg.2]; exact HH.out, fun j hj => ?_⟩
            have := HN.out j l[j] hj (List.getElem?_eq_getElem _)
            simp [this]
          rw [this]
        exact ⟨by rw [this]; rfl, HB.out⟩
      | false =>
        have HH := Lib.hid hh
        go_wp2_with fail
        go_roundw
        case rel =>
          refine ⟨k + 1, by omega, by go_num, ?_, HB.out⟩
          intro j o' hj ho'
          rcases Nat.lt_or_ge j k with h | h
          · exact HN.out j o' h ho'
          · obtain rfl : j = k := by omega
            rw [HO.out] at ho'; cases ho'; exact HH.out
        case measure => simp [intOf]; omega
    · obtain rfl : k = l.length := by omega
      go_wp2_with fail
      go_ret
      have : idxN (fun o => z == o) l = -1 := by
        unfold idxN
        have : l.findIdx? (fun o => z == o) = none := by
          rw [List.findIdx?_eq_none_iff]
          intro x hx
          obtain ⟨j, hj, rfl⟩ := List.mem_iff_getElem.1 hx
          exact HN.out j l[j] hj (List.getElem?_eq_getElem _)
        rw [this]
      exact ⟨by rw [this]; rfl, HB.out⟩

set_option maxRecDepth 100000 in
theorem containsN_call (v : Value) (l : List Int) (z : Int) (w : World) (hv : IntsAt w v l) :
    Calls Tryz.prog 103 #[v, vi z] w fun e w' => e = .returned (.bool (l.any (fun o => z == o))) ∧ Below w.heap.size w w' := by
  go_enter Tryz.func103, Tryz.ntmps103
  go_wp2_with (go_at_call 124; refine (indexN_call v l z w hv).mono ?_; rintro e w1 ⟨rfl, hb1⟩)
  go_ret
  exact ⟨by rw [← idxN_any]; first | rfl | simp, hb1⟩

end Go.Proofs.YtnacoplokjdglaaGreat

namespace Go.Proofs.YtnacoplokjdglaaGreat
open Go.RowKit Go.Maps
attribute [local go_sem] Oper.semAt_some

theorem IntsAt.takeX {w : World} {a : Option Addr} {c k : Nat} {l : List Int} (h : IntsAt w (.slice a l.length c) l) (hk : k ≤ l.length) : IntsAt w (.slice a k c) (l.take k) := by
  obtain ⟨a, c', h1, h2, h3⟩ := h
  cases h1
  refine ⟨_, _, by rw [List.length_take, Nat.min_eq_left hk], by rw [List.length_take]; omega, fun j x hj => ?_⟩
  refine h3 j x ?_
  rw [List.getElem?_take] at hj
  split at hj
  · exact hj
  · cases hj
/-- Is the i-th node of a list one with an arc to the next one, not met ahead? -/
def okX (T : List (List Int)) (C : List Int) (i : Nat) : Bool :=
  match C[i]?, C[(i + 1) % C.length]? with
  | some v, some x => decide (0 ≤ v) && (decide (v < T.length) && (((T[v.toNat]?.map (fun l => l.any (fun o => x == o))).getD false) && !((C.take i).any (fun o => v == o))))
  | _, _ => false
/-- graph.Is. -/
def isX (T : List (List Int)) (C : List Int) : Bool := decide (0 < C.length) && (List.range C.length).all (okX T C)
theorem isX_true {T : List (List Int)} {C : List Int} (h0 : 0 < C.length) (h : ∀ j, j < C.length → okX T C j = true) : isX T C = true := by
  unfold isX
  rw [decide_eq_true h0, Bool.true_and, List.all_eq_true]
  exact fun j hj => h j (List.mem_range.1 hj)
theorem isX_false {T : List (List Int)} {C : List Int} {j : Nat} (hj : j < C.length) (h : okX T C j = false) : isX T C = false := by
  unfold isX
  have : (List.range C.length).all (okX T C) = false := by
    rw [List.all_eq_false]
    exact ⟨j, List.mem_range.2 hj, by rw [h]; simp⟩
  rw [this, Bool.and_false]

set_option maxRecDepth 100000 in
set_option maxHeartbeats 8000000 in
theorem is_callX (ni : Int) (arcs : List (Int × Int)) (v : Value) (ca : Option Addr) (cc : Nat) (C : List Int) (w : World) (hr : RdArcs w v arcs) (hl : arcs.length ≤ 1000000) (hI : IntsAt w (.slice ca C.length cc) C) (hcap : C.length ≤ cc) :
    Calls Tryz.prog 79 #[vi ni, v, .slice ca C.length cc] w fun e w' => e = .returned (.bool (isX (nextT (sizeM ni) arcs) C)) ∧ Below w.heap.size w w' := by
  have hsz := size_call ni w
  obtain ⟨n, hn⟩ : ∃ n, n = sizeM ni := ⟨_, rfl⟩
  rw [← hn] at hsz ⊢
  have hn4 : n ≤ 400 := by rw [hn]; exact sizeM_le ni
  clear hn
  have hnx := Lib.hid (next_callG n arcs v w hr hn4 hl)
  have HSH := Lib.hid (nextT_short (n := n) hl)
  have HSZ := Lib.hid hsz
  obtain ⟨T, hTe⟩ : ∃ T, T = nextT n arcs := ⟨_, rfl⟩
  have HLEN := Lib.hid (show T.length = n from by rw [hTe]; exact nextT_len n arcs)
  rw [← hTe] at hnx HSH ⊢
  have hcl : C.length ≤ 1000000000 := by obtain ⟨_, _, _, h, _⟩ := hI; exact h
  have HIA := Lib.hid hI
  clear hTe hl hr hsz hI
  go_enter Tryz.func79, Tryz.ntmps79
  go_upto_region 2 with (first | (go_at_call 92; refine HSZ.out.mono ?_; rintro e1 w0 ⟨rfl, rfl⟩) | (go_at_call 93; refine hnx.out.mono ?_; rintro e1 w1 ⟨tb, vs, rfl, hT, hB⟩; have HT := Lib.hid hT; have HB := Lib.hid hB; clear hT hB))
  go_wp2_with fail
  go_loopw [17] (fun i wr => ∃ k : Nat, k ≤ C.length ∧ i = vi k ∧ Hid (Below w1.heap.size w1 wr ∧ ∀ j, j < k → okX T C j = true)) (fun i _ => C.length - (intOf i).toNat)
  case atStart => exact ⟨0, Nat.zero_le _, rfl, Lib.hid ⟨Below.refl _ _, fun j h => absurd h (Nat.not_lt_zero _)⟩⟩
  case round =>
    obtain ⟨wj, rfl⟩ : ∃ wj : World, wj = wr := ⟨_, rfl⟩
    obtain ⟨k, hk, rfl, HJ⟩ := hrel
    have HBJ := Lib.hid (HB.out.trans (HJ.out.1.mono HB.out.size))
    by_cases hlt : k < C.length
    · have k1 : decide ((k : Int) < C.length) = true := decide_eq_true (by omega)
      have k2 : (k : Int) < C.length := by omega
      have hwk : IntKind.i64.wrap ((k : Int) + 1) = (k : Int) + 1 := IntWalk.i64_in _ (by omega)
      obtain ⟨a, ha⟩ := some_at hlt
      obtain ⟨nx, hnx2⟩ : ∃ nx, nx = (k + 1) % C.length := ⟨_, rfl⟩
      have hnl : nx < C.length := by rw [hnx2]; exact Nat.mod_lt _ (by omega)
      obtain ⟨b, hb⟩ := some_at hnl
      have hrem : ((k : Int) + 1).tmod (C.length : Int) = (nx : Int) := by rw [hnx2, Int.tmod_eq_emod_of_nonneg (by omega)]; push_cast; rfl
      have hwx : IntKind.i64.wrap (nx : Int) = (nx : Int) := IntWalk.i64_in _ (by omega)
      have HOK := Lib.hid (show okX T C k = (decide (0 ≤ a) && (decide (a < T.length) && (((T[a.toNat]?.map (fun l => l.any (fun o => b == o))).getD false) && !((C.take k).any (fun o => a == o))))) from by
        unfold okX
        rw [← hnx2, ha, hb])
      have HNX := Lib.hid (show okX T C k = true → ∀ j, j < k + 1 → okX T C j = true from fun h j hj => by
        rcases Nat.lt_or_ge j k with h2 | h2
        · exact HJ.out.2 j h2
        · obtain rfl : j = k := by omega
          exact h)
      have HNO := Lib.hid (show okX T C k = false → isX T C = false from fun h => isX_false hlt h)
      have HI := Lib.hid (HIA.out.later HBJ.out)
      obtain ⟨_, _, e5, -, hcl2⟩ := HI.out
      cases e5
      obtain ⟨g', off, e6, y0⟩ := hcl2 k a ha
      subst e6
      obtain ⟨_, _, e7, y1⟩ := hcl2 nx b hb
      cases e7
      have x2 : (nx : Int) < C.length := by omega
      have x3 : ((C.length : Int) == 0) = false := by rw [beq_eq_false_iff_ne]; omega
      have kc : (k : Int) ≤ cc := by omega
      have HPF := Lib.hid (HI.out.takeX (k := k) (by omega))
      clear hcl2 ha hb hnx2 HI
      go_upto_region 6 with fail
      clear y0 y1
      by_cases h1 : a < 0
      · have d1 : decide (a < 0) = true := decide_eq_true h1
        have HF := Lib.hid (HNO.out (by rw [HOK.out, decide_eq_false (by omega)]; rfl))
        clear h1
        go_wp2_with fail
        go_ret
        exact ⟨by rw [HF.out]; rfl, HBJ.out⟩
      · have d1 : decide (a < 0) = false := decide_eq_false h1
        by_cases h2 : (n : Int) ≤ a
        · have d2 : decide ((n : Int) ≤ a) = true := decide_eq_true h2
          have HF := Lib.hid (HNO.out (by rw [HOK.out, HLEN.out, decide_eq_false (show ¬ a < (n : Int) by omega)]; simp))
          clear h2
          go_wp2_with fail
          go_ret
          exact ⟨by rw [HF.out]; rfl, HBJ.out⟩
        · have d2 : decide ((n : Int) ≤ a) = false := decide_eq_false h2
          obtain ⟨m, rfl⟩ : ∃ m : Nat, a = m := ⟨a.toNat, by omega⟩
          have hmn : m < n := by omega
          have a3 : (m : Int) < n := by omega
          obtain ⟨la, hla⟩ := some_at (l := T) (k := m) (by rw [HLEN.out]; exact hmn)
          obtain ⟨va, hva, hrow⟩ := HT.out.rows.get hla
          obtain ⟨ak, ck, rfl⟩ := Gr.own_shape (show World.ownsRow _ _ _ _ va la.length _ from hrow)
          have td : wj.cell? ⟨tb, m, none⟩ = some (.slice ak la.length ck) := (HT.out.later HJ.out.1).cell hva
          have hml := HSH.out la (List.mem_of_getElem? hla)
          have HR := Lib.hid ((ints_of_own hrow (by omega)).later HJ.out.1)
          have HOK2 := Lib.hid (show okX T C k = (la.any (fun o => b == o) && !((C.take k).any (fun o => (m : Int) == o))) from by
            rw [HOK.out, decide_eq_true (by omega), decide_eq_true (by rw [HLEN.out]; omega), Int.toNat_natCast, hla]
            rfl)
          clear hla hva hrow h1 h2
          cases hy : la.any (fun o => b == o) with
          | false =>
            have HY := Lib.hid hy
            have HF := Lib.hid (HNO.out (by rw [HOK2.out, hy]; rfl))
            clear hy
            go_wp2_with (go_at_call 103; refine (containsN_call _ la b wj HR.out).mono ?_; rintro e8 w8 ⟨rfl, hb8⟩; rw [HY.out]; have HB8 := Lib.hid (HBJ.out.trans (hb8.mono HBJ.out.size)); clear hb8)
            go_ret
            exact ⟨by rw [HF.out]; rfl, HB8.out⟩
          | true =>
            have HY := Lib.hid hy
            have HOK3 := Lib.hid (show okX T C k = !((C.take k).any (fun o => (m : Int) == o)) from by rw [HOK2.out, hy, Bool.true_and])
            clear hy
            cases hz : (C.take k).any (fun o => (m : Int) == o) with
            | true =>
              have HZ := Lib.hid hz
              have HF := Lib.hid (HNO.out (by rw [HOK3.out, hz]; rfl))
              clear hz
              go_wp2_with (go_at_call 103; first
                | (refine (containsN_call _ la b wj HR.out).mono ?_; rintro e8 w8 ⟨rfl, hb8⟩; rw [HY.out]; have HB8 := Lib.hid (HBJ.out.trans (hb8.mono HBJ.out.size)); have HP8 := Lib.hid (HPF.out.later hb8); clear hb8)
                | (refine (containsN_call _ (C.take k) (m : Int) w8 HP8.out).mono ?_; rintro e9 w9 ⟨rfl, hb9⟩; rw [HZ.out]; have HB9 := Lib.hid (HB8.out.trans (hb9.mono HB8.out.size)); clear hb9))
              go_ret
              exact ⟨by rw [HF.out]; rfl, HB9.out⟩
            | false =>
              have HZ := Lib.hid hz
              have HG := Lib.hid (HNX.out (by rw [HOK3.out, hz]; rfl))
              clear hz
              go_wp2_with (go_at_call 103; first
                | (refine (containsN_call _ la b wj HR.out).mono ?_; rintro e8 w8 ⟨rfl, hb8⟩; rw [HY.out]; have HB8 := Lib.hid (HJ.out.1.trans (hb8.mono HJ.out.1.size)); have HP8 := Lib.hid (HPF.out.later hb8); clear hb8)
                | (refine (containsN_call _ (C.take k) (m : Int) w8 HP8.out).mono ?_; rintro e9 w9 ⟨rfl, hb9⟩; rw [HZ.out]; have HB9 := Lib.hid (HB8.out.trans (hb9.mono HB8.out.size)); clear hb9))
              exact ⟨⟨k + 1, by omega, by go_num, Lib.hid ⟨HB9.out, HG.out⟩⟩, by simp only [intOf]; omega⟩
    · have k1 : decide ((k : Int) < C.length) = false := decide_eq_false (by omega)
      have hke : k = C.length := by omega
      by_cases h0 : 0 < C.length
      · have k3 : decide ((0 : Int) < C.length) = true := decide_eq_true (by omega)
        have HF := Lib.hid (isX_true (T := T) h0 (fun j hj => HJ.out.2 j (by omega)))
        clear hke
        go_wp2_with fail
        go_ret
        exact ⟨by rw [HF.out]; rfl, HBJ.out⟩
      · have k3 : decide ((0 : Int) < C.length) = false := decide_eq_false (by omega)
        have HF := Lib.hid (show isX T C = false from by unfold isX; rw [decide_eq_false h0]; rfl)
        clear hke
        go_wp2_with fail
        go_ret
        exact ⟨by rw [HF.out]; rfl, HBJ.out⟩

end Go.Proofs.YtnacoplokjdglaaGreat

namespace Go.Proofs.YtnacoplokjdglaaGreat
open Go.RowKit Go.Maps
attribute [local go_sem] Oper.semAt_some

/-- A step's node, read: its cycle. -/
def ENode (w : World) (cs : List Value) (C : List Int) : Prop := ∃ u, cs = [u] ∧ RdInts w u C
abbrev RdNodes (w : World) (v : Value) (l : List (List Int)) : Prop := RdS 1 ENode w v l
theorem ENode.later {w w' : World} {cs : List Value} {C : List Int} (h : ENode w cs C) (hb : Below w.heap.size w w') : ENode w' cs C := by
  obtain ⟨u, h1, h2⟩ := h
  exact ⟨u, h1, RdS.below h2 hb fun _ _ h => h⟩
theorem RdNodes.later {w w' : World} {v : Value} {l : List (List Int)} (h : RdNodes w v l) (hb : Below w.heap.size w w') : RdNodes w' v l := RdS.below h hb fun _ _ h => h.later hb
theorem RdS.drop1 {α : Type} {E : World → List Value → α → Prop} {w : World} {b off n c : Nat} {xs : List α} (h : RdS 1 E w (.slice (some ⟨b, off, none⟩) n c) xs) (k : Nat) (hk : k ≤ n) :
    RdS 1 E w (sliced (some ⟨b, off, none⟩) k n c 1) (xs.drop k) := by
  obtain ⟨a, len, cap, h1, rfl, hm, hlc, hn, hc⟩ := h
  cases h1
  unfold sliced
  by_cases h0 : c = k
  · subst h0
    refine ⟨_, _, _, rfl, by simp, by simp; omega, by omega, (fun h => by simp at h), fun j x hj => ?_⟩
    rw [List.getElem?_drop] at hj
    have := (List.getElem?_eq_some_iff.1 hj).1
    omega
  · refine ⟨_, _, _, rfl, by simp, by simp; omega, by omega, (fun h => by simp [h0] at h), fun j x hj => ?_⟩
    rw [List.getElem?_drop] at hj
    obtain ⟨b', off', cs, hb, hl, hcell, he⟩ := hc _ x hj
    cases hb
    refine ⟨b, off + k, cs, by simp [h0, addr_add], hl, fun i u hu => ?_, he⟩
    have := hcell i u hu
    rw [show off + k + (j * 1 + i) = off + ((k + j) * 1 + i) by omega]
    exact this
theorem run_dropN {b off n c k : Nat} (hk : k ≤ n) (w : World) : (Instr.slice 33 (.slice (some ⟨b, off, none⟩) n c) (some (.int .i64 k)) none none).run Tryz.prog w = .ok (sliced (some ⟨b, off, none⟩) k n c 1) w := by
  have hs : ∀ w, (sizeOf 70).run Tryz.prog w = .ok 1 w := fun w => by
    obtain ⟨i0, hi, _, hz1, _⟩ := info_parts Tryz.infoNode
    simp [sizeOf, typeInfo, hi, hz1]
  have he : Tryz.prog.elem 33 = 70 := by kernel_rfl
  rw [run_slice_l w _ _ _ _ (by rw [he]; exact Tryz.underlying33) .i64 _ (by omega) (by omega), he, hs]
  simp [Result.andThen]
theorem RdInts.ints {w : World} {a : Option Addr} {n c : Nat} {l : List Int} (h : RdInts w (.slice a n c) l) (hl : l.length ≤ 1000000000) : IntsAt w (.slice a l.length c) l ∧ l.length ≤ c ∧ n = l.length := by
  obtain ⟨a', len, cap, h1, h2, h3, h4, h5, h6⟩ := h
  cases h1
  refine ⟨⟨a, c, rfl, hl, fun j x hj => ?_⟩, by omega, h2⟩
  obtain ⟨b, off, cs, e1, e2, e3, e4, _⟩ := h6 j x hj
  subst e4
  exact ⟨b, off, e1, by have := e3 0 _ rfl; simpa using this⟩

/-- Is a list a cycle that some facts say and the level forbids? -/
def IsCyc (ts : List GTxn) (L : FaL) (level : Int) (C : List Int) : Prop := ∃ l, EdgesOf ts L l ∧ isX (nextT (sizeM ts.length) (liftL l level)) C = true
theorem isCyc_of {ts : List GTxn} {L : FaL} {level : Int} {C : List Int} {l : List GEdge} (h : EdgesOf ts L l) : IsCyc ts L level C ↔ isX (nextT (sizeM ts.length) (liftL l level)) C = true := by
  constructor
  · rintro ⟨l', h1, h2⟩
    have : l' = l := edges_ext h1.1 h.1 (fun p => (h1.2 p).trans (h.2 p).symm)
    rw [← this]; exact h2
  · exact fun h2 => ⟨l, h, h2⟩
open Classical in
/-- cert.tree: what stands behind the steps, if they show it. -/
noncomputable def treeC (ts : List GTxn) (level : Int) : Nat → FaL → List (List Int) → Option (List (List Int))
  | _, _, [] => none
  | 0, _, _ :: _ => none
  | n + 1, L, C :: rest => if 0 < C.length then (if IsCyc ts L level C then some rest else none) else match nextM ts L with
    | none => none
    | some c => match treeC ts level n ((c, true) :: L) rest with
      | none => none
      | some r => treeC ts level n ((c, false) :: L) r
theorem treeC_len {ts : List GTxn} {level : Int} : ∀ {n : Nat} {L : FaL} {l r : List (List Int)}, treeC ts level n L l = some r → r.length < l.length
  | 0, L, [], r, h => by simp [treeC] at h
  | 0, L, C :: l, r, h => by simp [treeC] at h
  | n + 1, L, [], r, h => by simp [treeC] at h
  | n + 1, L, C :: l, r, h => by
    rw [treeC] at h
    split at h
    · split at h
      · cases h; simp
      · cases h
    · cases hx : nextM ts L with
      | none => rw [hx] at h; cases h
      | some c =>
        rw [hx] at h
        simp only at h
        cases h1 : treeC ts level n ((c, true) :: L) l with
        | none => rw [h1] at h; cases h
        | some r1 =>
          rw [h1] at h
          have g1 := treeC_len h1
          have g2 := treeC_len h
          simp; omega
theorem treeC_mem {ts : List GTxn} {level : Int} : ∀ {n : Nat} {L : FaL} {l r : List (List Int)}, treeC ts level n L l = some r → ∀ D ∈ r, D ∈ l
  | 0, L, [], r, h => by simp [treeC] at h
  | 0, L, C :: l, r, h => by simp [treeC] at h
  | n + 1, L, [], r, h => by simp [treeC] at h
  | n + 1, L, C :: l, r, h => by
    rw [treeC] at h
    split at h
    · split at h
      · cases h; exact fun D hD => List.mem_cons_of_mem _ hD
      · cases h
    · cases hx : nextM ts L with
      | none => rw [hx] at h; cases h
      | some c =>
        rw [hx] at h
        simp only at h
        cases h1 : treeC ts level n ((c, true) :: L) l with
        | none => rw [h1] at h; cases h
        | some r1 =>
          rw [h1] at h
          exact fun D hD => List.mem_cons_of_mem _ (treeC_mem h1 D (treeC_mem h D hD))
/-- What cert.tree answers. -/
def TrcQ (o : Option (List (List Int))) (w : World) (e : Ending) (w' : World) : Prop := ∃ (a : Option Addr) (k c : Nat), e = .returned (.tuple #[.slice a k c, .bool o.isSome]) ∧ (∀ r, o = some r → RdNodes w' (.slice a k c) r) ∧ Below w.heap.size w w'

set_option maxRecDepth 100000 in
set_option maxHeartbeats 8000000 in
theorem tree_call (ts : List GTxn) (level : Int) (tsv : Value) (w0 : World) (hg : GoodTs ts) (hv : RdTxns w0 tsv ts) : ∀ (n : Nat) (L H : FaL) (m : Nat) (nv : Value) (l : List (List Int)) (w : World),
    Below w0.heap.size w0 w → MapF w m H → SameF L H → FaOk ts L → RdNodes w nv l → l.length ≤ n → (∀ C ∈ l, C.length ≤ 1000000000) →
    Calls Tryz.prog 54 #[tsv, vi level, .map (some m), nv] w (TrcQ (treeC ts level n L l) w) := by
  have HG := Lib.hid hg
  have HV := Lib.hid hv
  obtain ⟨ta, nt, tc, rfl, rfl, hmm, -⟩ := hv.at
  clear hg hv
  intro n
  induction n with
  | zero =>
    intro L H m nv l w hb hm hsf hfo hr hl hcs
    obtain ⟨a, k, c, rfl, rfl, -⟩ := hr
    have hl0 : l = [] := List.length_eq_zero_iff.1 (by omega)
    subst hl0
    have HT := Lib.hid (show treeC ts level 0 L [] = none from by simp [treeC])
    clear hb hm hsf hfo hcs hl
    go_enter Tryz.func54, Tryz.ntmps54
    go_wp2_with fail
    go_ret2
    exact ⟨none, 0, 0, by rw [HT.out]; rfl, (fun r h => by rw [HT.out] at h; cases h), Below.refl _ _⟩
  | succ n ih =>
    intro L H m nv l w hb hm hsf hfo hr hl hcs
    have HB := Lib.hid hb
    have HM := Lib.hid hm
    have HSF := Lib.hid hsf
    have HFO := Lib.hid hfo
    have HR := Lib.hid hr
    have HIH := Lib.hid ih
    have hNw := hb.size
    obtain ⟨a, k, cp, rfl, rfl, hkm, hkc, hnone, hel⟩ := hr
    clear hb hm hsf hfo ih
    cases l with
    | nil =>
      have HT := Lib.hid (show treeC ts level (n + 1) L [] = none from by simp [treeC])
      clear hel hnone hcs hl
      go_enter Tryz.func54, Tryz.ntmps54
      go_wp2_with fail
      go_ret2
      exact ⟨none, 0, 0, by rw [HT.out]; rfl, (fun r h => by rw [HT.out] at h; cases h), Below.refl _ _⟩
    | cons C rest =>
      obtain ⟨b, off, cs, rfl, hcl, hcell, u, rfl, hu⟩ := hel 0 C rfl
      have c0 : w.cell? ⟨b, off, none⟩ = some u := by have := hcell 0 u rfl; simpa using this
      have hCl : C.length ≤ 1000000000 := hcs C List.mem_cons_self
      have HCS := Lib.hid (show ∀ D ∈ rest, D.length ≤ 1000000000 from fun D hD => hcs D (List.mem_cons_of_mem _ hD))
      obtain ⟨ua, un, uc, rfl, hun, -⟩ := id hu
      subst hun
      have HU := Lib.hid hu
      have hlr : rest.length ≤ n := by simpa using hl
      have hlen1 : (0 : Int) < ((rest.length + 1 : Nat) : Int) := by omega
      have hlen0 : (((rest.length + 1 : Nat) : Int) == 0) = false := by simp; omega
      obtain ⟨a2, n2, c2, hsl⟩ := slicedY (some ⟨b, off, none⟩) 1 (C :: rest).length cp 1
      have HD := Lib.hid (show RdNodes w (.slice a2 n2 c2) rest from by
        have := RdS.drop1 HR.out 1 (by simp)
        rw [hsl] at this
        simpa using this)
      have hdr : ∀ W, (Instr.slice 33 (.slice (some ⟨b, off, none⟩) (rest.length + 1) cp) (some (.int .i64 1)) none none).run Tryz.prog W = .ok (.slice a2 n2 c2) W := fun W => by
        have h1 := run_dropN (b := b) (off := off) (n := (C :: rest).length) (c := cp) (k := 1) (by simp) W
        rw [hsl] at h1
        simpa using h1
      have HKM := Lib.hid hkm
      clear hcell hcl hel hnone hcs hu hl hsl hkm hkc HR
      simp only [List.length_cons] at *
      go_enter Tryz.func54, Tryz.ntmps54
      go_wp2
      go_quiet (fail)
      have HBq := Lib.hid (below_drewN (Below.refl w.heap.size w) nq)
      have HMq := Lib.hid (HM.out.below HBq.out HM.out.lt)
      have HUq := Lib.hid (show RdInts (w.drewN nq) (.slice ua C.length uc) C from RdS.below HU.out HBq.out fun _ _ h => h)
      have HDq := Lib.hid (HD.out.later HBq.out)
      have HB0 := Lib.hid (HB.out.trans (HBq.out.mono hNw))
      clear c0 hdr
      generalize w.drewN nq = wq at *
      have hwq : w.heap.size ≤ wq.heap.size := HBq.out.size
      have HVq := Lib.hid (HV.out.later HB0.out)
      have HSM := Lib.hid (small_good (L := H) HG.out (by have := HFO.out.len; rw [HSF.out.len]; omega))
      have htl := HG.out.len
      by_cases hC : 0 < C.length
      · have d1 : decide ((0 : Int) < (C.length : Int)) = true := decide_eq_true (by omega)
        have d1' : decide (0 < C.length) = true := decide_eq_true hC
        have HTE := Lib.hid (show ∀ l : List GEdge, EdgesOf ts H l → treeC ts level (n + 1) L (C :: rest) = if isX (nextT (sizeM ts.length) (liftL l level)) C = true then some rest else none from fun l he => by
          have he2 := edges_same HFO.out.pw HM.out.pairwise HSF.out.get he
          rw [treeC, if_pos hC]
          by_cases hx : isX (nextT (sizeM ts.length) (liftL l level)) C = true
          · rw [if_pos ((isCyc_of he2).2 hx), if_pos hx]
          · rw [if_neg (fun h => hx ((isCyc_of he2).1 h)), if_neg hx])
        go_wp2_with (first
          | (go_at_call 79; ((with_reducible refine (is_callX (ts.length : Int) (liftL l1 level) v2 ua uc C w2 HO2.out.rd HLL.out.2 HI2.out.1 HI2.out.2.1).mono ?_); rintro e3 w3 ⟨rfl, hb3⟩; have HB3 := Lib.hid (HB2.out.trans (hb3.mono HB2.out.size)); clear hb3))
          | (go_at_call 76; ((with_reducible refine (lift_call v1 l1 level w1 HO1.out.rd HLL.out.1 (Nat.le_trans HLL.out.2 (by omega))).mono ?_); rintro e2 w2 ⟨v2, rfl, ho2, hb2⟩; have HO2 := Lib.hid ho2; have HB2 := Lib.hid (HB1.out.trans (hb2.mono HB1.out.size)); have HI2 := Lib.hid (RdInts.ints (RdS.below HUq.out HB2.out fun _ _ h => h) hCl); clear ho2 hb2))
          | (go_at_call 77; refine (edges_call _ _ ts H 12 wq HVq.out HG.out.ok (by omega) (FaV.of HMq.out) HSM.out.ops HSM.out.room).mono ?_; rintro e1 w1 ⟨v1, l1, rfl, ho1, he1, hb1⟩; have HO1 := Lib.hid ho1; have HE1 := Lib.hid he1; have HB1 := Lib.hid hb1; have HLL := Lib.hid (lift_len he1 level HSM.out.len); clear ho1 he1 hb1))
        go_ret2
        have HTF := HTE.out l1 HE1.out
        refine ⟨a2, n2, c2, ?_, fun r h => ?_, HBq.out.trans (HB3.out.mono hwq)⟩
        · rw [HTF]
          cases isX (nextT (sizeM ts.length) (liftL l1 level)) C <;> rfl
        · rw [HTF] at h
          split at h
          · cases h
            exact HDq.out.later HB3.out
          · cases h
      · have d1 : decide ((0 : Int) < (C.length : Int)) = false := decide_eq_false (by omega)
        have d1' : decide (0 < C.length) = false := decide_eq_false hC
        have HNX := Lib.hid (nextM_same (ts := ts) HSF.out.get)
        cases hx : nextM ts H with
        | none =>
          have HX := Lib.hid hx
          have HT := Lib.hid (show treeC ts level (n + 1) L (C :: rest) = none from by rw [treeC, if_neg hC, HNX.out.trans hx])
          clear hx hC
          go_wp2_with (go_at_call 62; refine (next_call _ ts m H wq HVq.out HG.out.ok (by omega) HMq.out).mono ?_; rw [HX.out]; rintro e6 w6 ⟨rfl, hb6⟩; have HB6 := Lib.hid (HBq.out.trans (hb6.mono hwq)); clear hb6)
          go_ret2
          exact ⟨none, 0, 0, by rw [HT.out]; rfl, (fun r h => by rw [HT.out] at h; cases h), HB6.out.alloc HB6.out.size _⟩
        | some c =>
          have HX := Lib.hid hx
          have hns := nextM_some (HNX.out.trans hx)
          have HNO := Lib.hid (show getM H c = none from by rw [← HSF.out.get]; exact hns.2)
          have HSC := Lib.hid ((choicesM_ok hns.1).small (by omega))
          have HFN := Lib.hid (show ∀ so : Bool, FaOk ts ((c, so) :: L) from fun so => HFO.out.next (HNX.out.trans hx))
          have HT := Lib.hid (show treeC ts level (n + 1) L (C :: rest) = match treeC ts level n ((c, true) :: L) rest with
            | none => none
            | some r => treeC ts level n ((c, false) :: L) r from by rw [treeC, if_neg hC, HNX.out.trans hx])
          clear hx hns hC
          go_upto_region 9 with (go_at_call 62; refine (next_call _ ts m H wq HVq.out HG.out.ok (by omega) HMq.out).mono ?_; rw [HX.out]; rintro e6 w6 ⟨rfl, hb6⟩; have HB6 := Lib.hid hb6; clear hb6)
          have hw6 : wq.heap.size ≤ w6.heap.size := HB6.out.size
          have HA7 := Lib.hid (HB6.out.alloc HB6.out.size (.cells #[vi c.kind, vi c.key, vi c.a, vi c.b] 128))
          have HX7 := Lib.hid (alloc_at w6 (.cells #[vi c.kind, vi c.key, vi c.a, vi c.b] 128))
          have hw7 : (w6.alloc (.cells #[vi c.kind, vi c.key, vi c.a, vi c.b] 128)).heap.size = w6.heap.size + 1 := by simp
          generalize w6.alloc (.cells #[vi c.kind, vi c.key, vi c.a, vi c.b] 128) = w7 at *
          have HM7 := Lib.hid (HMq.out.below HA7.out HMq.out.lt)
          have HD7 := Lib.hid (HDq.out.later HA7.out)
          have HBW7 := Lib.hid (HB0.out.trans (HA7.out.mono HB0.out.size))
          have x0 : w7.cell? ⟨w6.heap.size, 0, none⟩ = some (vi c.kind) := by rw [cell_of HX7.out]; rfl
          have x1 : w7.cell? ⟨w6.heap.size, 1, none⟩ = some (vi c.key) := by rw [cell_of HX7.out]; rfl
          have x2 : w7.cell? ⟨w6.heap.size, 2, none⟩ = some (vi c.a) := by rw [cell_of HX7.out]; rfl
          have x3 : w7.cell? ⟨w6.heap.size, 3, none⟩ = some (vi c.b) := by rw [cell_of HX7.out]; rfl
          cases h1 : treeC ts level n ((c, true) :: L) rest with
          | none =>
            have H1N := Lib.hid h1
            rw [h1] at HT
            clear h1
            go_wp2_with (first
              | (go_at_call 54; ((with_reducible refine (HIH.out ((c, true) :: L) H1 m1 (.slice a2 n2 c2) rest w8 HBW8.out HM8.out HS1.out (HFN.out true) HD8.out hlr HCS.out).mono ?_); rw [H1N.out]; rintro e9 w9 ⟨a9, k9, c9, rfl, -, hb9⟩; have HB9 := Lib.hid (HB8.out.trans (hb9.mono HB8.out.size)); clear hb9))
              | (go_at_call 63; ((with_reducible refine (with_call m H c true w7 HM7.out HSC.out HNO.out).mono ?_); rintro e8 w8 ⟨H1, m1, rfl, hm1, hM8, hg8, hl8, hb8⟩; have HM8 := Lib.hid hM8; have HS1 := Lib.hid (HSF.out.next hg8 hl8); have HB8 := Lib.hid ((HBq.out.trans (HA7.out.mono hwq)).trans (hb8.mono (by omega))); have HBW8 := Lib.hid (HBW7.out.trans (hb8.mono HBW7.out.size)); have HD8 := Lib.hid (HD7.out.later hb8); clear hm1 hM8 hg8 hl8 hb8)))
            go_ret2
            exact ⟨none, 0, 0, by rw [HT.out]; rfl, (fun r h => by rw [HT.out] at h; cases h), HB9.out⟩
          | some r1 =>
            have H1N := Lib.hid h1
            have hr1 := treeC_len h1
            rw [h1] at HT
            simp only at HT
            have HC1 := Lib.hid (show ∀ D ∈ r1, D.length ≤ 1000000000 from fun D hD => HCS.out D (treeC_mem h1 D hD))
            clear h1
            go_upto_region 12 with (first
              | (go_at_call 54; ((with_reducible refine (HIH.out ((c, true) :: L) H1 m1 (.slice a2 n2 c2) rest w8 HBW8.out HM8.out HS1.out (HFN.out true) HD8.out hlr HCS.out).mono ?_); rw [H1N.out]; rintro e9 w9 ⟨a9, k9, c9, rfl, hr9, hb9⟩; have HR9 := Lib.hid (hr9 r1 rfl); have HB9 := Lib.hid (HB8.out.trans (hb9.mono HB8.out.size)); have HBW9 := Lib.hid (HBW8.out.trans (hb9.mono HBW8.out.size)); have HM9 := Lib.hid ((HM7.out.below HB78.out HM7.out.lt).below hb9 (by have := HM7.out.lt; have := HB78.out.size; omega)); have HX9 := Lib.hid ((hb9.block _ (by have := HB78.out.size; omega)).trans ((HB78.out.block _ (by omega)).trans HX7.out)); clear hr9 hb9))
              | (go_at_call 63; ((with_reducible refine (with_call m H c true w7 HM7.out HSC.out HNO.out).mono ?_); rintro e8 w8 ⟨H1, m1, rfl, hm1, hM8, hg8, hl8, hb8⟩; have HM8 := Lib.hid hM8; have HS1 := Lib.hid (HSF.out.next hg8 hl8); have HB78 := Lib.hid hb8; have HB8 := Lib.hid ((HBq.out.trans (HA7.out.mono hwq)).trans (hb8.mono (by omega))); have HBW8 := Lib.hid (HBW7.out.trans (hb8.mono HBW7.out.size)); have HD8 := Lib.hid (HD7.out.later hb8); clear hm1 hM8 hg8 hl8 hb8)))
            clear x0 x1 x2 x3
            have x0 : w9.cell? ⟨w6.heap.size, 0, none⟩ = some (vi c.kind) := by rw [cell_of HX9.out]; rfl
            have x1 : w9.cell? ⟨w6.heap.size, 1, none⟩ = some (vi c.key) := by rw [cell_of HX9.out]; rfl
            have x2 : w9.cell? ⟨w6.heap.size, 2, none⟩ = some (vi c.a) := by rw [cell_of HX9.out]; rfl
            have x3 : w9.cell? ⟨w6.heap.size, 3, none⟩ = some (vi c.b) := by rw [cell_of HX9.out]; rfl
            go_wp2_with (first
              | (go_at_call 54; ((with_reducible refine (HIH.out ((c, false) :: L) H2 m2 (.slice a9 k9 c9) r1 w10 HBW10.out HM10.out HS2.out (HFN.out false) HR10.out (by omega) HC1.out).mono ?_); rintro e11 w11 ⟨a11, k11, c11, rfl, hr11, hb11⟩; have HR11 := Lib.hid hr11; have HB11 := Lib.hid (HB10.out.trans (hb11.mono HB10.out.size)); clear hr11 hb11))
              | (go_at_call 63; ((with_reducible refine (with_call m H c false w9 HM9.out HSC.out HNO.out).mono ?_); rintro e10 w10 ⟨H2, m2, rfl, hm2, hM10, hg10, hl10, hb10⟩; have HM10 := Lib.hid hM10; have HS2 := Lib.hid (HSF.out.next hg10 hl10); have HB10 := Lib.hid (HB9.out.trans (hb10.mono HB9.out.size)); have HBW10 := Lib.hid (HBW9.out.trans (hb10.mono HBW9.out.size)); have HR10 := Lib.hid (HR9.out.later hb10); clear hm2 hM10 hg10 hl10 hb10)))
            go_ret2
            exact ⟨a11, k11, c11, by rw [HT.out]; rfl, fun r h => by rw [HT.out] at h; exact HR11.out r h, HB11.out⟩
end Go.Proofs.YtnacoplokjdglaaGreat

namespace Go.Proofs.YtnacoplokjdglaaGreat
open Go.RowKit Go.Maps
attribute [local go_sem] Oper.semAt_some

theorem len_ord {w : World} {m : Nat} {O : OrdL} (h : MapO w m O) (ty : TypeId) : (Builtin.len_ #[35] ty #[.map (some m)]).run Tryz.prog w = .ok (.int .i64 O.length) w := by
  obtain ⟨es, clock, hb, hs⟩ := h.size
  rw [← hs]
  simp [Builtin.len_, run_underlying Tryz.underlying35, MapKept.run_getObj_map hb, goInt, Result.andThen]
/-- The orders in a map are readable. -/
def OrdR (w : World) (O : OrdL) : Prop := ∀ p ∈ O, RdInts w p.2.1 p.2.2
theorem OrdR.later {A B : World} {O : OrdL} (h : OrdR A O) (hb : Below A.heap.size A B) : OrdR B O := fun p hp => RdS.below (h p hp) hb fun _ _ h => h
/-- Small enough to be looked through. -/
structure NotBig (es : List GEvent) (N : List (List Int)) (dn : Nat) (O : OrdL) : Prop where
  es : es.length ≤ 40
  tree : N.length ≤ 300
  done : dn ≤ 100
  ords : O.length ≤ 40
  cyc : ∀ C ∈ N, C.length ≤ 60
  ord : ∀ p ∈ O, p.2.2.length ≤ 60

def Big12Q (es : List GEvent) (N : List (List Int)) (dn : Nat) (O : OrdL) (w : World) (e : Ending) (w' : World) : Prop := ∃ b, e = .returned (.bool b) ∧ (b = false → NotBig es N dn O) ∧ Below w.heap.size w w'

set_option maxRecDepth 100000 in
set_option maxHeartbeats 8000000 in
theorem big12_call (v : Value) (es : List GEvent) (k s : Int) (f : Int × Int × Int) (na : Option Addr) (nn nc : Nat) (da : Option Addr) (dn dc : Nat) (m : Nat) (N : List (List Int)) (O : OrdL) (w : World) (hv : RdEvents w v es) (hN : RdNodes w (.slice na nn nc) N) (hM : MapO w m O) (hR : OrdR w O) :
    Calls Tryz.prog 24 #[v, .agg #[vi k, vi s, vi f.1, vi f.2.1, vi f.2.2, .slice na nn nc, .slice da dn dc, .map (some m)]] w (Big12Q es N dn O w) := by
  have HX := Lib.hid (alloc_at w (.cells #[vi k, vi s, vi f.1, vi f.2.1, vi f.2.2, .slice na nn nc, .slice da dn dc, .map (some m)] 39))
  have HB0 := Lib.hid ((Below.refl w.heap.size w).alloc (Nat.le_refl _) (.cells #[vi k, vi s, vi f.1, vi f.2.1, vi f.2.2, .slice na nn nc, .slice da dn dc, .map (some m)] 39))
  have HN := Lib.hid (hN.later HB0.out)
  have hmlt := hM.lt
  have HM := Lib.hid (hM.below HB0.out hmlt)
  have HR := Lib.hid (hR.later HB0.out)
  obtain ⟨a, n, c, rfl, rfl, hm, -⟩ := hv.at
  have hw0 : (w.alloc (.cells #[vi k, vi s, vi f.1, vi f.2.1, vi f.2.2, .slice na nn nc, .slice da dn dc, .map (some m)] 39)).heap.size = w.heap.size + 1 := by simp
  clear hv hN hM hR
  go_enter Tryz.func24, Tryz.ntmps24
  go_upto_region 1 with fail
  generalize w.alloc (.cells #[vi k, vi s, vi f.1, vi f.2.1, vi f.2.2, .slice na nn nc, .slice da dn dc, .map (some m)] 39) = w0 at *
  have x5 : w0.cell? ⟨w.heap.size, 5, none⟩ = some (.slice na nn nc) := by rw [cell_of HX.out]; rfl
  have x6 : w0.cell? ⟨w.heap.size, 6, none⟩ = some (.slice da dn dc) := by rw [cell_of HX.out]; rfl
  have x7 : w0.cell? ⟨w.heap.size, 7, none⟩ = some (.map (some m)) := by rw [cell_of HX.out]; rfl
  have hln := fun ty => len_ord HM.out ty
  obtain ⟨nb, hnb⟩ : ∃ nb : Nat, O.length = nb := ⟨_, rfl⟩
  have HNB := Lib.hid hnb
  rw [hnb] at hln
  clear hnb
  by_cases h1 : (40 : Int) < es.length
  case pos =>
    have d1 : decide ((40 : Int) < es.length) = true := decide_eq_true h1
    clear h1
    go_wp2_with fail
    go_ret
    exact ⟨true, rfl, fun h => (by cases h), HB0.out⟩
  have d1 : decide ((40 : Int) < es.length) = false := decide_eq_false h1
  have h1' : es.length ≤ 40 := by omega
  clear h1
  by_cases h2 : (300 : Int) < nn
  case pos =>
    have d2 : decide ((300 : Int) < nn) = true := decide_eq_true h2
    clear h2
    go_wp2_with fail
    go_ret
    exact ⟨true, rfl, fun h => (by cases h), HB0.out⟩
  have d2 : decide ((300 : Int) < nn) = false := decide_eq_false h2
  have h2' : nn ≤ 300 := by omega
  clear h2
  by_cases h3 : (100 : Int) < dn
  case pos =>
    have d3 : decide ((100 : Int) < dn) = true := decide_eq_true h3
    clear h3
    go_wp2_with fail
    go_ret
    exact ⟨true, rfl, fun h => (by cases h), HB0.out⟩
  have d3 : decide ((100 : Int) < dn) = false := decide_eq_false h3
  have h3' : dn ≤ 100 := by omega
  clear h3
  by_cases h4 : (40 : Int) < nb
  case pos =>
    have d4 : decide ((40 : Int) < nb) = true := decide_eq_true h4
    clear h4
    go_wp2_with fail
    go_ret
    exact ⟨true, rfl, fun h => (by cases h), HB0.out⟩
  have d4 : decide ((40 : Int) < nb) = false := decide_eq_false h4
  have h4' : nb ≤ 40 := by omega
  clear h4
  obtain ⟨_, _, _, e5, hnl, -, -⟩ := id HN.out
  cases e5
  subst hnl
  go_upto_region 4 with fail
  clear hln d1 d2 d3 d4 x5 x6
  go_loopw [37] (fun i wr => ∃ j : Nat, j ≤ N.length ∧ i = .int .i64 j ∧ Hid (∀ C ∈ N.take j, C.length ≤ 60) ∧ Below w0.heap.size w0 wr) (fun i _ => N.length - (intOf i).toNat)
  case atStart => exact ⟨0, Nat.zero_le _, rfl, Lib.hid (fun C hC => by simp at hC), Below.refl _ _⟩
  case round =>
    obtain ⟨wj, rfl⟩ : ∃ wj : World, wj = wr := ⟨_, rfl⟩
    obtain ⟨j, hj, rfl, HC, hb⟩ := hrel
    have HBj := Lib.hid hb
    have HBz := Lib.hid (HB0.out.trans (hb.mono HB0.out.size))
    clear hb
    by_cases hlt : j < N.length
    · have hjI : (j : Int) < (N.length : Int) := by omega
      have wj1 : IntKind.i64.wrap ((j : Int) + 1) = ((j + 1 : Nat) : Int) := by rw [IntWalk.i64_in _ (by omega)]; omega
      obtain ⟨C, hc⟩ := some_at hlt
      obtain ⟨_, _, _, e5, _, _, _, _, hcl⟩ := HN.out.later HBj.out
      cases e5
      obtain ⟨b, off, cs, rfl, hcl2, hcs, u, rfl, hru⟩ := hcl j C hc
      obtain ⟨ua, un, uc, rfl, rfl, hum, -⟩ := hru.at
      have k0 : wj.cell? ⟨b, off + j, none⟩ = some (.slice ua C.length uc) := by have := hcs 0 _ rfl; simpa using this
      have HTK := Lib.hid (take_at hc)
      have HXo := Lib.hid (alloc_at wj (.cells #[.slice ua C.length uc] 70))
      have HBo := Lib.hid (HBj.out.alloc HBj.out.size (.cells #[.slice ua C.length uc] 70))
      have HBzo := Lib.hid (HBz.out.alloc HBz.out.size (.cells #[.slice ua C.length uc] 70))
      clear hcl hcs hru hc
      go_upto_region 6 with fail
      clear k0
      generalize wj.alloc (.cells #[.slice ua C.length uc] 70) = wo at *
      have y0 : wo.cell? ⟨wj.heap.size, 0, none⟩ = some (.slice ua C.length uc) := by rw [cell_of HXo.out]; rfl
      by_cases h6 : (60 : Int) < C.length
      · have d6 : decide ((60 : Int) < C.length) = true := decide_eq_true h6
        clear h6
        go_wp2_with fail
        go_ret
        exact ⟨true, rfl, fun h => (by cases h), HBzo.out⟩
      · have d6 : decide ((60 : Int) < C.length) = false := decide_eq_false h6
        have HCN := Lib.hid (show ∀ D ∈ N.take (j + 1), D.length ≤ 60 from fun D hD => by
          rw [HTK.out, List.mem_append] at hD
          rcases hD with hD | hD
          · exact HC.out D hD
          · rw [List.mem_singleton.1 hD]; omega)
        clear h6
        go_wp2_with fail
        exact ⟨⟨j + 1, by omega, by go_num, Lib.hid HCN.out, HBo.out⟩, by simp only [intOf]; omega⟩
    · obtain rfl : j = N.length := by omega
      have HCA := Lib.hid (show ∀ C ∈ N, C.length ≤ 60 from by have h := HC.out; rwa [List.take_length] at h)
      have HXj := Lib.hid ((HBj.out.block w.heap.size (by omega)).trans HX.out)
      have y7 : wj.cell? ⟨w.heap.size, 7, none⟩ = some (.map (some m)) := by rw [cell_of HXj.out]; rfl
      have HMj := Lib.hid (HM.out.below HBj.out HM.out.lt)
      have HRj := Lib.hid (HR.out.later HBj.out)
      obtain ⟨w2, hrun2, hR2, hg2, hsz2⟩ := HMj.out.range (t := 35) (e := 58) Tryz.underlying35
      have HR2 := Lib.hid hR2
      have HB2 := Lib.hid ((Below.refl wj.heap.size wj).grown hg2 (Nat.le_refl _) (fun j hj => by cases hj))
      clear hR2 hg2 HC
      go_upto_region 10 with fail
      clear hrun2 y7
      go_loopw [8] (fun _ wr => ∃ V : OrdL, RangeT Tryz.prog 3 vi (fun x : Value × List Int => x.1) wr m wj.heap.size O V ∧ Hid (∀ p ∈ V, p.2.2.length ≤ 60) ∧ Below wj.heap.size wj wr) (fun _ wr => wr.rangeLeft m wj.heap.size)
      case atStart => exact ⟨[], HR2.out, Lib.hid (fun p hp => by cases hp), HB2.out⟩
      case round =>
        obtain ⟨wk, rfl⟩ : ∃ wk : World, wk = wr := ⟨_, rfl⟩
        obtain ⟨V, hR, HVS, hb⟩ := hrel
        have HR := Lib.hid hR
        have HBk := Lib.hid hb
        have hwk := hb.size
        have HBzk := Lib.hid (HBz.out.trans (hb.mono HBz.out.size))
        clear hb
        rcases hR.next vi_inj 0 with ⟨hall, hrun⟩ | ⟨p, w3, hpL, hfresh, hrun, hR3, hlt3, hg3, hsz3, hent⟩
        · have HA := Lib.hid hall
          clear hR hall
          go_wp2_with fail
          go_ret
          exact ⟨false, rfl, fun _ => ⟨h1', h2', h3', by rw [HNB.out]; exact h4', HCA.out, fun p hp => HVS.out p (HA.out p hp)⟩, HBzk.out⟩
        · have HR3 := Lib.hid hR3
          have HL3 := Lib.hid hlt3
          have HB3 := Lib.hid (HBk.out.grown hg3 hwk (fun j hj => by cases hj; omega))
          obtain ⟨pa, pn, pc, hpe, hpl, -, -⟩ := id (HRj.out p hpL)
          have HPE := Lib.hid hpe
          have HPV := Lib.hid (show p.2.2.length ≤ 60 → ∀ q ∈ V ++ [p], q.2.2.length ≤ 60 from fun h q hq => by
            rcases List.mem_append.1 hq with hq | hq
            · exact HVS.out q hq
            · rw [List.mem_singleton.1 hq]; exact h)
          have HB3z := Lib.hid (HBz.out.trans (HB3.out.mono HBz.out.size))
          rw [hpe] at hrun hent
          subst hpl
          obtain ⟨pl, hpl2⟩ : ∃ pl, p.2.2.length = pl := ⟨_, rfl⟩
          rw [hpl2] at hrun hent HPV
          clear hR hpL hfresh hR3 hlt3 hg3 hpe hpl2
          by_cases h6 : (60 : Int) < pl
          · have d6 : decide ((60 : Int) < pl) = true := decide_eq_true h6
            clear h6
            go_wp2_with fail
            go_ret
            exact ⟨true, rfl, fun h => (by cases h), HB3z.out⟩
          · have d6 : decide ((60 : Int) < pl) = false := decide_eq_false h6
            have HPV2 := Lib.hid (HPV.out (by omega))
            clear h6
            go_wp2_with fail
            exact ⟨⟨_, HR3.out, Lib.hid HPV2.out, HB3.out⟩, HL3.out⟩
end Go.Proofs.YtnacoplokjdglaaGreat
