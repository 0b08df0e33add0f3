/- Texts of one proof, one behind the other: MvRead, MvPrep3. -/
import Derived.Test.YtdkkpkgfiodlbaaJb6
import Derived.Test.YtdkkpkgfiodlbaaJb5
set_option linter.all false
/- (*mvcc.Store).Read. -/
namespace Go.Proofs.Ytdkkpkgfiodlbaa
open Go.RowKit Go.Shelf Go.Maps
attribute [local go_sem] Oper.semAt_some

/-- Is a bug's flag off? -/
def offB (bugs m : Int) : Bool := bits .and .i64 bugs m == 0
/-- A key's value at a time. -/
def valAt (vs : List Ver) (t : Int) : Int := (((revL vs).find? (fun p => decide (p.2.1 ≤ t))).map (·.2.2)).getD 0
def ReadM (K : KeysL) (R : RdyL) (bugs txn key t v by_ err : Int) : Prop :=
  ∃ id ok, Blk R txn (fun r => writesB r key && decide (r.start < t)) (id, ok) ∧
    ((ok = true ∧ offB bugs 2 = true ∧ v = 0 ∧ by_ = id ∧ err = 60) ∨ ((ok = false ∨ offB bugs 2 = false) ∧ v = valAt (verOf K key) t ∧ by_ = 0 ∧ err = 0))
def ReadQ (K : KeysL) (R : RdyL) (bugs txn key t : Int) (w : World) (e : Ending) (w' : World) : Prop :=
  ∃ v by_ err, e = .returned (.tuple #[vi v, vi by_, vi err]) ∧ ReadM K R bugs txn key t v by_ err ∧ Below w.heap.size w w'

/-- What Read keeps of memory: its boxes. -/
structure RdW (w : World) (key t x2 x3 x4 : Int) (W : World) : Prop where
  b0 : W.heap[w.heap.size]? = some (.cells #[vi key] 3)
  b1 : W.heap[w.heap.size + 1]? = some (.cells #[vi t] 3)
  b2 : W.heap[w.heap.size + 2]? = some (.cells #[vi x2] 3)
  b3 : W.heap[w.heap.size + 3]? = some (.cells #[vi x3] 3)
  b4 : W.heap[w.heap.size + 4]? = some (.cells #[vi x4] 35)
  below : Below w.heap.size w W
theorem RdW.size {w W : World} {key t x2 x3 x4 : Int} (h : RdW w key t x2 x3 x4 W) : w.heap.size + 5 ≤ W.heap.size := (Array.getElem?_eq_some_iff.1 h.b4).1
theorem RdW.turn {w A B : World} {key t x2 x3 x4 : Int} (h : RdW w key t x2 x3 x4 A) (hb : Below w.heap.size A B) (hk : ∀ k cs T, w.heap.size ≤ k → k < w.heap.size + 5 → A.heap[k]? = some (.cells cs T) → B.heap[k]? = some (.cells cs T)) : RdW w key t x2 x3 x4 B :=
  ⟨hk _ _ _ (by omega) (by omega) h.b0, hk _ _ _ (by omega) (by omega) h.b1, hk _ _ _ (by omega) (by omega) h.b2, hk _ _ _ (by omega) (by omega) h.b3, hk _ _ _ (by omega) (by omega) h.b4, h.below.trans hb⟩
theorem RdW.later {w A B : World} {key t x2 x3 x4 : Int} (h : RdW w key t x2 x3 x4 A) (hb : Below A.heap.size A B) : RdW w key t x2 x3 x4 B :=
  h.turn (hb.mono h.below.size) fun k cs T _ _ hk => (hb.block k (Array.getElem?_eq_some_iff.1 hk).1).trans hk
theorem RdW.own {w A B : World} {key t x2 x3 x4 : Int} {row : Option Nat} (h : RdW w key t x2 x3 x4 A) (hg : A.grownBy B row) (hr : ∀ r, row = some r → w.heap.size ≤ r ∧ ∃ o : Obj, A.heap[r]? = some o ∧ o.isCells = false) : RdW w key t x2 x3 x4 B :=
  h.turn ⟨hg.os, hg.tape, hg.output, hg.size, fun k hk => hg.block k (Nat.lt_of_lt_of_le hk h.below.size) (fun e => by have := (hr k e.symm).1; omega)⟩
    fun k cs T _ _ hk => keep_cells hk hg (fun r e => (hr r e).2)
theorem heap_if (w : World) (o : Obj) (k : Nat) : (w.alloc o).heap[k]? = if k = w.heap.size then some o else w.heap[k]? := by
  show (w.heap.push o)[k]? = _
  rw [Array.getElem?_push]
theorem rdW_start (w : World) (key t : Int) : RdW w key t 0 0 0 (((((w.alloc (.cells #[vi key] 3)).alloc (.cells #[vi t] 3)).alloc (.cells #[vi 0] 3)).alloc (.cells #[vi 0] 3)).alloc (.cells #[vi 0] 35)) := by
  refine ⟨?_, ?_, ?_, ?_, ?_, (((((Below.refl _ _).alloc (Nat.le_refl _) _).alloc (by simp) _).alloc (by simp <;> omega) _).alloc (by simp <;> omega) _).alloc (by simp <;> omega) _⟩ <;>
    (simp only [heap_if, World.size_alloc]; repeat rw [if_neg (by omega)]) <;> first | rfl | (rw [if_pos (by omega)])
theorem RdW.set {w A : World} {key t x2 x3 x4 y2 y3 y4 : Int} (h : RdW w key t x2 x3 x4 A) : RdW w key t y2 y3 y4 (((A.setCell ⟨w.heap.size + 2, 0, none⟩ (vi y2)).setCell ⟨w.heap.size + 3, 0, none⟩ (vi y3)).setCell ⟨w.heap.size + 4, 0, none⟩ (vi y4)) := by
  refine ⟨?_, ?_, ?_, ?_, ?_, ((h.below.setCell (by show w.heap.size ≤ w.heap.size + 2; omega) _).setCell (by show w.heap.size ≤ w.heap.size + 3; omega) _).setCell (by show w.heap.size ≤ w.heap.size + 4; omega) _⟩
  all_goals simp [World.setCell, Array.getElem?_modify, h.b0, h.b1, h.b2, h.b3, h.b4]

set_option maxRecDepth 100000 in
set_option maxHeartbeats 4000000 in
theorem read_call {base p mk mr me : Nat} {serial : Bool} {bugs : Int} {K : KeysL} {R : RdyL} {E : EndL} (txn key t : Int) (w : World) (h : MvS base p mk mr me serial bugs K R E w) (hR : R.length ≤ 1048576) (hk : i64 key) :
    Calls Try.prog 29 #[.pointer (some ⟨p, 0, none⟩), vi txn, vi key, vi t] w (ReadQ K R bugs txn key t w) := by
  have HM := Lib.hid h
  clear h
  have HKK := Lib.hid hk
  clear hk
  have hmf : ∀ (fn : Fn) (first cap : Array Value) (w : World), (Instr.makeFunc fn first cap).run Try.prog w = .ok (.func fn first cap) w := fun _ _ _ _ => rfl
  refine (callsIn_wide (n := 8)).1 ?_
  refine callsIn_of_wp_marks Try.func29 rfl trivial ?_ rfl
  simp only [Try.ntmps29, List.size_toArray, List.length_cons, List.length_nil, Nat.reduceAdd, Nat.reduceSub, Array.replicate_succ, Array.replicate_zero, List.push_toArray, List.append_toArray, List.nil_append, List.cons_append]
  gi_wp2_with fail
  have hB5 : Below w.heap.size w (((((w.alloc (.cells #[vi key] 3)).alloc (.cells #[vi t] 3)).alloc (.cells #[vi 0] 3)).alloc (.cells #[vi 0] 3)).alloc (.cells #[vi 0] 35)) :=
    (((((Below.refl _ _).alloc (Nat.le_refl _) _).alloc (by simp) _).alloc (by simp <;> omega) _).alloc (by simp <;> omega) _).alloc (by simp <;> omega) _
  have hS5 : RdW w key t 0 0 0 (((((w.alloc (.cells #[vi key] 3)).alloc (.cells #[vi t] 3)).alloc (.cells #[vi 0] 3)).alloc (.cells #[vi 0] 3)).alloc (.cells #[vi 0] 35)) := rdW_start w key t
  generalize ((((w.alloc (.cells #[vi key] 3)).alloc (.cells #[vi t] 3)).alloc (.cells #[vi 0] 3)).alloc (.cells #[vi 0] 3)).alloc (.cells #[vi 0] 35) = W5 at *
  have HM5 := Lib.hid (HM.out.later hB5)
  have H5 := Lib.hid hS5
  clear hB5 hS5
  refine ⟨trivial, ?_⟩
  refine (callsIn_wide.2 (blocks_call txn 58 _ _ W5 HM5.out hR (enters_of Try.func58 (by kernel_rfl) rfl) (read1_such (key := key) (t := t) HM5.out.rrow (cell_of H5.out.b0 0) (cell_of H5.out.b1 0)))).mono ?_
  rintro e w1 ⟨id, ok, rfl, hblk, hb1⟩
  have HBK := Lib.hid hblk
  have H1 := Lib.hid (H5.out.later hb1)
  have HM1 := Lib.hid (HM5.out.later hb1)
  clear hblk hb1 HM5 H5
  have p1 : w1.cell? ⟨p, 1, none⟩ = some (vi bugs) := by rw [cell_of HM1.out.blk]; rfl
  have p2 : w1.cell? ⟨p, 2, none⟩ = some (.map (some mk)) := by rw [cell_of HM1.out.blk]; rfl
  have c0 : w1.cell? ⟨w.heap.size, 0, none⟩ = some (vi key) := cell_of H1.out.b0 0
  have c2 : w1.cell? ⟨w.heap.size + 1 + 1, 0, none⟩ = some (vi 0) := cell_of H1.out.b2 0
  have c3 : w1.cell? ⟨w.heap.size + 1 + 1 + 1, 0, none⟩ = some (vi 0) := cell_of H1.out.b3 0
  have c4 : w1.cell? ⟨w.heap.size + 1 + 1 + 1 + 1, 0, none⟩ = some (vi 0) := cell_of H1.out.b4 0
  have f2 : w1.frozen? ⟨w.heap.size + 1 + 1, 0, none⟩ = false := free_of H1.out.b2 0
  have f3 : w1.frozen? ⟨w.heap.size + 1 + 1 + 1, 0, none⟩ = false := free_of H1.out.b3 0
  have f4 : w1.frozen? ⟨w.heap.size + 1 + 1 + 1 + 1, 0, none⟩ = false := free_of H1.out.b4 0
  obtain ⟨nb, hnb⟩ : ∃ nb, (bits .and .i64 bugs 2 == 0) = nb := ⟨_, rfl⟩
  have HNB := Lib.hid hnb
  obtain ⟨kv, hkv⟩ : ∃ kv, curK K key = kv := ⟨_, rfl⟩
  have hcur := HM.out.cur key
  have hlk := lookup_keys (w := w1.drew) (HM1.out.keys.frame rfl) HKK.out
  rw [hkv] at hcur hlk
  obtain ⟨kv1, vs⟩ := kv
  obtain ⟨a, len, cap, hv, hl, hm, hcl⟩ := hcur.at
  simp only at hv hl hm hcl hlk
  subst hv hl
  have HVS := Lib.hid (show verOf K key = vs by unfold verOf; rw [hkv])
  have HCL := Lib.hid hcl
  have HM63 := Lib.hid hm
  clear hkv hcur hcl hm
  cases ok <;> cases nb
  rotate_right
  · gi_wp2_with fail
    have hset := H1.out.set (y2 := 0) (y3 := id) (y4 := 60)
    clear p1 p2 c0 c2 c3 c4 f2 f3 f4
    generalize ((w1.setCell ⟨w.heap.size + 1 + 1, 0, none⟩ (vi 0)).setCell ⟨w.heap.size + 1 + 1 + 1, 0, none⟩ (vi id)).setCell ⟨w.heap.size + 1 + 1 + 1 + 1, 0, none⟩ (vi 60) = W3 at *
    refine leaves_marks [] W3 (by simp) (by simp) (fun w' g1 g2 g3 g4 g5 => ?_)
    have hR : RdW w key t 0 id 60 w' := hset.turn ⟨g1, g2, g3, by omega, fun k hk => g5 k (by simp)⟩ (fun k cs T h1 h2 h3 => (g5 k (by simp)).trans h3)
    have r2 : w'.cell? ⟨w.heap.size + 1 + 1, 0, none⟩ = some (vi 0) := cell_of hR.b2 0
    have r3 : w'.cell? ⟨w.heap.size + 1 + 1 + 1, 0, none⟩ = some (vi id) := cell_of hR.b3 0
    have r4 : w'.cell? ⟨w.heap.size + 1 + 1 + 1 + 1, 0, none⟩ = some (vi 60) := cell_of hR.b4 0
    exact ⟨.tuple #[vi 0, vi id, vi 60], by simp [results, Try.f29, go_sem, r2, r3, r4], _, _, _, rfl, ⟨id, true, HBK.out, .inl ⟨rfl, HNB.out, rfl, rfl, rfl⟩⟩, hR.below⟩
  all_goals
    gi_wp2_with fail
    clear hnb
    refine wpIn_wide.2 ?_
    refine wp_region_noPanic ?_
    go_still_tail 5, (by kernel_rfl)
    change wpList _ _ _ _ _ w1.drew
    go_wp2_with fail
    refine (callsIn_wide.1 (back_in Fence.wide 7 trivial rfl a vs.length cap w1.drew)).mono ?_
    rintro e w2 ⟨rfl, rfl⟩
    dsimp only
    have hS2 := H1.out.later (B := w1.drew.alloc (.cells #[.slice a vs.length cap] 133)) (((Below.refl _ _).drew).alloc (Nat.le_refl _) _)
    have hbb : (w1.drew.alloc (.cells #[.slice a vs.length cap] 133)).heap[w1.heap.size]? = some (.cells #[.slice a vs.length cap] 133) := alloc_at w1.drew _
    have hb12 : Below w1.heap.size w1 (w1.drew.alloc (.cells #[.slice a vs.length cap] 133)) := (((Below.refl _ _).drew).alloc (Nat.le_refl _) _)
    have hsz2 : (w1.drew.alloc (.cells #[.slice a vs.length cap] 133)).heap.size = w1.heap.size + 1 := by simp
    have h63 := HM63.out
    generalize w1.drew.alloc (.cells #[.slice a vs.length cap] 133) = W0 at *
    have HB12 := Lib.hid hb12
    have HS2 := Lib.hid hS2
    have hs5 := H1.out.size
    clear p1 p2 c0 c2 c3 c4 f2 f3 f4 hb12 hS2
    gi_wp2_with fail
    show NoPanic _ Exit.normal _ _
    refine NoPanic.normal ?_
    gi_wp2_with fail
    refine wpIn_rangeFunc_ownH rfl (by omega) (gf := 85) (lb := #[.pointer (some ⟨w1.heap.size, 0, none⟩)]) rfl trivial (enters_of Try.func85 (by kernel_rfl) rfl)
      (back_stops Fence.wide _ trivial rfl (by omega) w1.heap.size w.heap.size a cap vs h63 W0 (by omega) (by omega) (cell_of hbb 0) ?hcells) kpb_t (kpb_b (by omega)) (Below.refl _ _) (fun _ => rfl)
      (fun pre W => (∀ q ∈ pre, decide (q.2.1 ≤ t) = false) ∧ RdW w key t 0 0 0 W)
      (fun cd pre W => cd = .ret ∧ ∃ ini last, pre = ini ++ [last] ∧ (∀ q ∈ ini, decide (q.2.1 ≤ t) = false) ∧ decide (last.2.1 ≤ t) = true ∧ RdW w key t last.2.2 0 0 W)
      (fun pre A B row hs hg hr => ⟨hs.1, hs.2.own hg (fun r e => ⟨by have := (hr r e).1; omega, (hr r e).2⟩)⟩)
      (fun cd pre A B row hs hg hr => by
        obtain ⟨h1, ini, last, h2, h3, h4, h5⟩ := hs
        exact ⟨h1, ini, last, h2, h3, h4, h5.own hg (fun r e => ⟨by have := (hr r e).1; omega, (hr r e).2⟩)⟩)
      ⟨by simp, HS2.out⟩
      (fun x a' W => ∃ (Bx : Nat) (u0 u1 u2 u3 u4 u5 u6 u11 u12 u13 u15 u16 u17 u18 u19 u20 u21 u22 u23 u24 u25 u26 u27 u28 u29 u30 u31 u32 u33 u34 u35 u36 u37 u38 u39 u40 u41 u42 u43 u44 u45 u46 u47 u48 : Value), W.heap[Bx]? = some (.cells #[vi x.2.1, vi x.2.2] 135) ∧ a' = { tmps := #[u0, u1, u2, u3, u4, u5, u6, .pointer (some ⟨w.heap.size + 1, 0, none⟩), .pointer (some ⟨w.heap.size + 1 + 1, 0, none⟩), .pointer (some ⟨w.heap.size + 1 + 1 + 1, 0, none⟩), .pointer (some ⟨w.heap.size + 1 + 1 + 1 + 1, 0, none⟩), u11, u12, u13, .pointer (some ⟨Bx, 0, none⟩), u15, u16, u17, u18, u19, u20, u21, u22, u23, u24, u25, u26, u27, u28, u29, u30, u31, u32, u33, u34, u35, u36, u37, u38, u39, u40, u41, u42, u43, u44, u45, u46, u47, u48], defers := [] })
      (fun x a' u A B row hs hg hr => by
        obtain ⟨Bx, u0, u1, u2, u3, u4, u5, u6, u11, u12, u13, u15, u16, u17, u18, u19, u20, u21, u22, u23, u24, u25, u26, u27, u28, u29, u30, u31, u32, u33, u34, u35, u36, u37, u38, u39, u40, u41, u42, u43, u44, u45, u46, u47, u48, hbx, rfl⟩ := hs
        exact ⟨Bx, u0, u1, u2, u3, u4, u5, u6, u11, u12, u13, u15, u16, u17, u18, u19, u20, u21, u22, u23, u24, u25, u26, u27, u28, u29, u30, u31, u32, u33, u34, u35, u36, u37, u38, u39, u40, u41, u42, u43, u44, u45, u46, u47, u48, keep_cells hbx hg (fun r e => (hr r e).2), rfl⟩)
      ?assign ?body ?done ?stop
    case hcells =>
      intro j x hj
      obtain ⟨b, off, rfl, k0, k1, -⟩ := HCL.out j x hj
      exact ⟨b, off, rfl, World.block_lt_of_cell? w _ k0, cell_later HB12.out (cell_later H1.out.below k0), cell_later HB12.out (cell_later H1.out.below k1)⟩
    case assign =>
      rintro lp pre x W K ⟨h1, h2⟩ hK
      have hsW := h2.size
      clear hbb
      gi_wp2
      refine hK _ _ ((KeepsOthers.alloc _ _).from _) ⟨(Below.refl _ _).alloc (by omega) _, fun v hv => ?_⟩ ⟨h1, h2.later ((Below.refl _ _).alloc (Nat.le_refl _) _)⟩ ⟨W.heap.size, _, _, _, _, _, _, _, _, _, _, _, _, _, _, _, _, _, _, _, _, _, _, _, _, _, _, _, _, _, _, _, _, _, _, _, _, _, _, _, _, _, _, _, _, alloc_at _ _, rfl⟩
      rw [World.cell?_alloc_past _ _ _ (World.block_lt_of_cell? _ _ hv)]; exact hv
    case body =>
      rintro lp pre x a' W hlp hrec ⟨h1, h2⟩ ⟨Bx, u0, u1, u2, u3, u4, u5, u6, u11, u12, u13, u15, u16, u17, u18, u19, u20, u21, u22, u23, u24, u25, u26, u27, u28, u29, u30, u31, u32, u33, u34, u35, u36, u37, u38, u39, u40, u41, u42, u43, u44, u45, u46, u47, u48, hbx, rfl⟩ hlen
      have HH := Lib.hid h2
      have H1' := Lib.hid h1
      have x0 : W.cell? ⟨Bx, 0, none⟩ = some (vi x.2.1) := cell_of hbx 0
      have x1 : W.cell? ⟨Bx, 1, none⟩ = some (vi x.2.2) := cell_of hbx 1
      have t0 : W.cell? ⟨w.heap.size + 1, 0, none⟩ = some (vi t) := cell_of h2.b1 0
      have c2 : W.cell? ⟨w.heap.size + 1 + 1, 0, none⟩ = some (vi 0) := cell_of h2.b2 0
      have c3 : W.cell? ⟨w.heap.size + 1 + 1 + 1, 0, none⟩ = some (vi 0) := cell_of h2.b3 0
      have c4 : W.cell? ⟨w.heap.size + 1 + 1 + 1 + 1, 0, none⟩ = some (vi 0) := cell_of h2.b4 0
      have f2 : W.frozen? ⟨w.heap.size + 1 + 1, 0, none⟩ = false := free_of h2.b2 0
      have f3 : W.frozen? ⟨w.heap.size + 1 + 1 + 1, 0, none⟩ = false := free_of h2.b3 0
      have f4 : W.frozen? ⟨w.heap.size + 1 + 1 + 1 + 1, 0, none⟩ = false := free_of h2.b4 0
      have hsW := h2.size
      clear h1 h2 hbx hbb hrec
      obtain ⟨bb, hbb2⟩ : ∃ bb, decide (x.2.1 ≤ t) = bb := ⟨_, rfl⟩
      have HBB := Lib.hid hbb2
      cases bb
      · gi_wp2
        exact ⟨KeepsFrom.refl _ _, ⟨Below.refl _ _, fun _ h => h⟩, fun p hp => (List.mem_append.1 hp).elim (H1'.out p) (fun e => by simp at e; subst e; exact HBB.out), HH.out⟩
      · gi_wp2
        exact ⟨(((KeepsOthers.setCell _ _ _).trans (KeepsOthers.setCell _ _ _)).trans (KeepsOthers.setCell _ _ _)).from _, rfl, pre, x, rfl, H1'.out, HBB.out, HH.out.set⟩
    case done =>
      rintro D ys W hD rfl ⟨h1, h2⟩ hK
      have c2 : W.cell? ⟨w.heap.size + 1 + 1, 0, none⟩ = some (vi 0) := cell_of h2.b2 0
      have c3 : W.cell? ⟨w.heap.size + 1 + 1 + 1, 0, none⟩ = some (vi 0) := cell_of h2.b3 0
      have c4 : W.cell? ⟨w.heap.size + 1 + 1 + 1 + 1, 0, none⟩ = some (vi 0) := cell_of h2.b4 0
      have f2 : W.frozen? ⟨w.heap.size + 1 + 1, 0, none⟩ = false := free_of h2.b2 0
      have f3 : W.frozen? ⟨w.heap.size + 1 + 1 + 1, 0, none⟩ = false := free_of h2.b3 0
      have f4 : W.frozen? ⟨w.heap.size + 1 + 1 + 1 + 1, 0, none⟩ = false := free_of h2.b4 0
      have HH1 := Lib.hid h1
      have HH2 := Lib.hid h2
      have HK := Lib.hid hK
      clear h1 h2 hK hbb
      gi_wp2
      have hset := HH2.out.set (y2 := 0) (y3 := 0) (y4 := 0)
      have hD' : (((W.setCell ⟨w.heap.size + 1 + 1, 0, none⟩ (vi 0)).setCell ⟨w.heap.size + 1 + 1 + 1, 0, none⟩ (vi 0)).setCell ⟨w.heap.size + 1 + 1 + 1 + 1, 0, none⟩ (vi 0)).heap[D]? = some (.deferred (some [])) := (((KeepsOthers.setCell _ _ _).trans (KeepsOthers.setCell _ _ _)).trans (KeepsOthers.setCell _ _ _)).same D _ HK.out rfl
      have hval : valAt vs t = 0 := by
        unfold valAt
        rw [List.find?_eq_none.2 (fun q hq => by simp [HH1.out q hq])]; rfl
      clear c2 c3 c4 f2 f3 f4
      generalize ((W.setCell ⟨w.heap.size + 1 + 1, 0, none⟩ (vi 0)).setCell ⟨w.heap.size + 1 + 1 + 1, 0, none⟩ (vi 0)).setCell ⟨w.heap.size + 1 + 1 + 1 + 1, 0, none⟩ (vi 0) = W3 at *
      refine leaves_marks [D] W3 (fun D' h => by simp at h; subst h; exact hD') (by simp) (fun w' g1 g2 g3 g4 g5 => ?_)
      have hR : RdW w key t 0 0 0 w' := hset.turn ⟨g1, g2, g3, by omega, fun k hk => g5 k (by simp; omega)⟩ (fun k cs T h1 h2 h3 => (g5 k (by simp; omega)).trans h3)
      have r2 : w'.cell? ⟨w.heap.size + 1 + 1, 0, none⟩ = some (vi 0) := cell_of hR.b2 0
      have r3 : w'.cell? ⟨w.heap.size + 1 + 1 + 1, 0, none⟩ = some (vi 0) := cell_of hR.b3 0
      have r4 : w'.cell? ⟨w.heap.size + 1 + 1 + 1 + 1, 0, none⟩ = some (vi 0) := cell_of hR.b4 0
      exact ⟨.tuple #[vi 0, vi 0, vi 0], by simp [results, Try.f29, go_sem, r2, r3, r4], _, _, _, rfl, ⟨id, _, HBK.out, .inr ⟨by first | exact .inl rfl | exact .inr HNB.out, by rw [HVS.out, hval], rfl, rfl⟩⟩, hR.below⟩
    case stop =>
      rintro D cd pre W hD hpre ⟨rfl, ini, last, rfl, h3, h4, h5⟩ hK
      have HH3 := Lib.hid h3
      have HH4 := Lib.hid h4
      have HH5 := Lib.hid h5
      have HK := Lib.hid hK
      have HP := Lib.hid hpre
      clear h3 h4 h5 hK hpre hbb
      gi_wp2
      have hset := HH5.out
      have hD' := HK.out
      have hval : valAt vs t = last.2.2 := by
        obtain ⟨r, hr⟩ := HP.out
        unfold valAt
        rw [← hr, List.append_assoc, List.find?_append, List.find?_eq_none.2 (fun q hq => by simp [HH3.out q hq])]
        have := HH4.out
        simp only [decide_eq_true_eq] at this
        simp [this]
      generalize W = W3 at *
      refine leaves_marks [D] W3 (fun D' h => by simp at h; subst h; exact hD') (by simp) (fun w' g1 g2 g3 g4 g5 => ?_)
      have hR : RdW w key t last.2.2 0 0 w' := hset.turn ⟨g1, g2, g3, by omega, fun k hk => g5 k (by simp; omega)⟩ (fun k cs T h1 h2 h3 => (g5 k (by simp; omega)).trans h3)
      have r2 : w'.cell? ⟨w.heap.size + 1 + 1, 0, none⟩ = some (vi last.2.2) := cell_of hR.b2 0
      have r3 : w'.cell? ⟨w.heap.size + 1 + 1 + 1, 0, none⟩ = some (vi 0) := cell_of hR.b3 0
      have r4 : w'.cell? ⟨w.heap.size + 1 + 1 + 1 + 1, 0, none⟩ = some (vi 0) := cell_of hR.b4 0
      exact ⟨.tuple #[vi last.2.2, vi 0, vi 0], by simp [results, Try.f29, go_sem, r2, r3, r4], _, _, _, rfl, ⟨id, _, HBK.out, .inr ⟨by first | exact .inl rfl | exact .inr HNB.out, by rw [HVS.out, hval], rfl, rfl⟩⟩, hR.below⟩
end Go.Proofs.Ytdkkpkgfiodlbaa

/- (*mvcc.Store).Prepare. -/
namespace Go.Proofs.Ytdkkpkgfiodlbaa
open Go.RowKit Go.Shelf Go.Maps

theorem zero_rdyP (w : World) : (zeroValue 29).run Try.prog w = .ok (.agg #[vi 0, vi 0, vi 0, .slice none 0 0, .slice none 0 0]) w := zero_ready w
def nilR : RV := ⟨.slice none 0 0, .slice none 0 0, ⟨0, 0, 0, [], []⟩⟩
theorem lookup_ready2 {w : World} {mr : Nat} {R : RdyL} (h : MapR w mr R) {txn : Int} (hk : i64 txn) :
    (Instr.lookup 109 (.map (some mr)) (vi txn) true).run Try.prog w = .ok (.tuple #[rdyV ((getM R txn).getD nilR), .bool (getM R txn).isSome]) w := by
  obtain ⟨kl, hkl⟩ := intKey hk
  have h1 := (h.lookup intKeyed vi_inj (t := 109) (e := 29) Try.underlying109 txn hkl (zero_ready w)).2
  have e : ((getM R txn).map rdyV).getD (.agg #[vi 0, vi 0, vi 0, .slice none 0 0, .slice none 0 0]) = rdyV ((getM R txn).getD nilR) := by cases getM R txn <;> rfl
  rw [e] at h1
  exact h1

theorem rdy_slices {base p mk mr me : Nat} {serial : Bool} {bugs : Int} {K : KeysL} {R : RdyL} {E : EndL} {W : World} (h : MvS base p mk mr me serial bugs K R E W) (txn : Int) :
    ∃ (z1 z2 z3 : Int) (a : Option Addr) (n c : Nat) (a' : Option Addr) (n' c' : Nat), rdyV ((getM R txn).getD nilR) = .agg #[vi z1, vi z2, vi z3, .slice a n c, .slice a' n' c'] := by
  cases hg : getM R txn with
  | none => exact ⟨0, 0, 0, none, 0, 0, none, 0, 0, rfl⟩
  | some y =>
    have hy := h.rrow _ (getM_some hg)
    obtain ⟨a, n, c, h1, -⟩ := hy.ws
    obtain ⟨a', n', c', h2, -⟩ := hy.rs
    exact ⟨y.r.txn, y.r.home, y.r.start, a, n, c, a', n', c', by simp [rdyV, rdyC, h1, h2] at *; exact ⟨h1, h2⟩⟩

/-- Is a transaction too late for what it writes, or has read? -/
def lostW (K : KeysL) (bugs : Int) (r : Rdy) : Bool := offB bugs 1 && r.writes.any (fun o => laterB (verOf K o.key) r.start)
def lookP (serial : Bool) (bugs : Int) : Bool := serial && offB bugs 4
def lostR (K : KeysL) (serial : Bool) (bugs : Int) (r : Rdy) : Bool := lookP serial bugs && r.reads.any (fun k => laterB (verOf K k) r.start)
def PrepM (serial : Bool) (bugs : Int) (K : KeysL) (R : RdyL) (E : EndL) (r : Rdy) (by_ err : Int) (R' : RdyL) : Prop :=
  ((getM E r.txn).isSome = true ∧ by_ = 0 ∧ err = 62 ∧ R' = R) ∨
  ((getM E r.txn).isSome = false ∧ (getM R r.txn).isSome = true ∧ by_ = 0 ∧ err = 0 ∧ R' = R) ∨
  ((getM E r.txn).isSome = false ∧ (getM R r.txn).isSome = false ∧ (lostW K bugs r = true ∨ lostR K serial bugs r = true) ∧ by_ = 0 ∧ err = 61 ∧ R' = R) ∨
  ((getM E r.txn).isSome = false ∧ (getM R r.txn).isSome = false ∧ lostW K bugs r = false ∧ lostR K serial bugs r = false ∧
    ∃ id ok, Blk R r.txn (wayB r (lookP serial bugs)) (id, ok) ∧
      ((ok = true ∧ offB bugs 1 = true ∧ by_ = id ∧ err = 60 ∧ R' = R) ∨ ((ok = false ∨ offB bugs 1 = false) ∧ by_ = 0 ∧ err = 0 ∧ ∃ wv rv, R' = putM R r.txn ⟨wv, rv, r⟩)))
def PrepQ (base p mk mr me : Nat) (serial : Bool) (bugs : Int) (K : KeysL) (R : RdyL) (E : EndL) (r : Rdy) (w : World) (e : Ending) (w' : World) : Prop :=
  ∃ by_ err R', e = .returned (.tuple #[vi by_, vi err]) ∧ PrepM serial bugs K R E r by_ err R' ∧ MvS base p mk mr me serial bugs K R' E w' ∧ w.grownBy w' (some mr)

/-- One who waits whose lists lie in memory from base on. -/
def OwnR (base : Nat) (W : World) (y : RV) : Prop := W.ownsRow base 104 3 y.wv y.r.writes.length (y.r.writes.flatMap opV) ∧ W.ownsRow base 3 1 y.rv y.r.reads.length (y.r.reads.flatMap viC)
theorem own_solid {A B : World} {base e size n : Nat} {v : Value} {xs : List Value} (h : A.ownsRow base e size v n xs) (hs : Solid A B) : B.ownsRow base e size v n xs := by
  refine ⟨h.1, ?_⟩
  rcases h.2 with h2 | ⟨g, cap, cur, hv, hg, hh, r⟩
  · exact .inl h2
  · exact .inr ⟨g, cap, cur, hv, hg, hs _ _ _ _ hh, r⟩
/-- .. and those who are new lie in memory of the call's own. -/
def PrepQ2 (base p mk mr me : Nat) (serial : Bool) (bugs : Int) (K : KeysL) (R : RdyL) (E : EndL) (r : Rdy) (w : World) (e : Ending) (w' : World) : Prop :=
  ∃ by_ err R', e = .returned (.tuple #[vi by_, vi err]) ∧ PrepM serial bugs K R E r by_ err R' ∧ MvS base p mk mr me serial bugs K R' E w' ∧ w.grownBy w' (some mr) ∧ ∀ y ∈ R', y ∈ R ∨ OwnR w.heap.size w' y.2
theorem below_any {w w' : World} (h : Below w.heap.size w w') (r : Option Nat) : w.grownBy w' r := ⟨h.os, h.tape, h.output, h.size, fun k hk _ => h.block k hk⟩

theorem grown_after {w A B : World} {r : Option Nat} (h : Below w.heap.size w A) (hg : A.grownBy B r) : w.grownBy B r :=
  ⟨hg.os.trans h.os, hg.tape.trans h.tape, hg.output.trans h.output, Nat.le_trans h.size hg.size, fun k hk hne => (hg.block k (Nat.lt_of_lt_of_le hk h.size) hne).trans (h.block k hk)⟩
theorem mem_putM {κ ν : Type} [DecidableEq κ] {L : List (κ × ν)} {k : κ} {v : ν} {x : κ × ν} (h : x ∈ putM L k v) : x = (k, v) ∨ x ∈ L := by
  unfold putM at h
  split at h
  · obtain ⟨y, hy, rfl⟩ := List.mem_map.1 h
    split
    · exact .inl rfl
    · exact .inr hy
  · rcases List.mem_append.1 h with h | h
    · exact .inr h
    · exact .inl (by simpa using h)
theorem MvS.putR {base p mk mr me : Nat} {serial : Bool} {bugs : Int} {K : KeysL} {R : RdyL} {E : EndL} {A B : World} {txn : Int} {y : RV} (h : MvS base p mk mr me serial bugs K R E A) (hm : MapR B mr (putM R txn y)) (hg : A.grownBy B (some mr)) (hy : RdyS A y) : MvS base p mk mr me serial bugs K (putM R txn y) E B := by
  obtain ⟨es, c, ho⟩ := h.ready.obj
  have hs : Solid A B := (Solid.refl A).map ho hg
  refine ⟨hs _ _ _ _ h.blk, h.keys.kept hg (fun e => h.kr (by cases e; rfl)), hm, h.ends.kept hg (fun e => h.re (by cases e; rfl)), fun x hx => (h.krow x hx).solid hs, fun x hx => ?_, h.bp, h.bk, h.br, h.be, h.kr, h.ke, h.re⟩
  rcases mem_putM hx with rfl | hx
  · exact hy.solid hs
  · exact (h.rrow x hx).solid hs
theorem own_shape {w : World} {base e size n : Nat} {v : Value} {xs : List Value} (h : w.ownsRow base e size v n xs) : ∃ a c, v = .slice a n c := by
  rcases h.2 with ⟨hv, h0⟩ | ⟨g, cap, cur, hv, _⟩
  · exact ⟨none, 0, by rw [hv, h0]⟩
  · exact ⟨_, _, hv⟩
theorem rdy_own {W : World} {v1 v2 : Value} {r : Rdy} {b1 b2 : Nat} (h1 : W.ownsRow b1 104 3 v1 r.writes.length (r.writes.flatMap opV)) (h2 : W.ownsRow b2 3 1 v2 r.reads.length (r.reads.flatMap viC)) (hi : ∀ x ∈ r.reads, i64 x) : RdyS W ⟨v1, v2, r⟩ :=
  ⟨own_rds (enc := opV) (fun _ => rfl) h1 (fun x _ => rfl), own_rds (enc := viC) (fun _ => rfl) h2 (fun x hx => ⟨rfl, hi x hx⟩)⟩
theorem reads_i64 {W : World} {v : Value} {l : List Int} (h : RdInts W v l) : ∀ x ∈ l, i64 x := fun x hx => by
  obtain ⟨a, n, c, -, -, -, h6⟩ := h.at
  obtain ⟨j, hj⟩ := List.mem_iff_getElem?.1 hx
  obtain ⟨b, off, -, -, hi⟩ := h6 j x hj
  exact hi
theorem put_ready {base p mk mr me : Nat} {serial : Bool} {bugs : Int} {K : KeysL} {R : RdyL} {E : EndL} {A B : World} {y : RV} (h : MvS base p mk mr me serial bugs K R E A) (hb : Below A.heap.size A B) (ht : i64 y.r.txn) (hy : RdyS B y) :
    ∃ w', (Instr.mapUpdate 109 (.map (some mr)) (vi y.r.txn) (.agg #[vi y.r.txn, vi y.r.home, vi y.r.start, y.wv, y.rv])).run Try.prog B = .ok () w' ∧ Hid (MvS base p mk mr me serial bugs K (putM R y.r.txn y) E w' ∧ B.grownBy w' (some mr) ∧ Solid B w') := by
  obtain ⟨kl, hkl⟩ := intKey ht
  have hB := h.later hb
  obtain ⟨w', hrun, hm, hg⟩ := hB.ready.update (eV := rdyV) intKeyed vi_inj (t := 109) (e := 29) Try.underlying109 y.r.txn hkl y
  obtain ⟨es, c, ho⟩ := hB.ready.obj
  exact ⟨w', hrun, Lib.hid ⟨hB.putR hm hg hy, hg, (Solid.refl B).map ho hg⟩⟩

set_option maxRecDepth 100000 in
set_option maxHeartbeats 4000000 in
theorem prep_call2 {base p mk mr me : Nat} {serial : Bool} {bugs : Int} {K : KeysL} {R : RdyL} {E : EndL} (x : RV) (w : World) (h : MvS base p mk mr me serial bugs K R E w) (hR : R.length ≤ 1048576) (hx : RdyS w x) (ht : i64 x.r.txn)
    (hok : ∀ o ∈ x.r.writes, i64 o.key) (hlw : x.r.writes.length ≤ 1048576) (hlr : x.r.reads.length ≤ 1048576) :
    Calls Try.prog 31 #[.pointer (some ⟨p, 0, none⟩), rdyV x] w (PrepQ2 base p mk mr me serial bugs K R E x.r w) := by
  obtain ⟨wv, rv, r⟩ := x
  obtain ⟨aw, nw, cw, hwv, rfl, hmw, -⟩ := (show RdOps w wv r.writes from hx.ws).at
  obtain ⟨ar, nr, cr, hrv, rfl, hmr, -⟩ := (show RdInts w rv r.reads from hx.rs).at
  subst hwv hrv
  have HB := Lib.hid ((Below.refl w.heap.size w).alloc (Nat.le_refl _) (.cells (rdyC ⟨.slice aw r.writes.length cw, .slice ar r.reads.length cr, r⟩) 29))
  have HX := Lib.hid (alloc_at w (.cells (rdyC ⟨.slice aw r.writes.length cw, .slice ar r.reads.length cr, r⟩) 29))
  have HM := Lib.hid h
  have HXR := Lib.hid hx
  have HT := Lib.hid ht
  have HOK := Lib.hid hok
  clear h hx ht hok
  unfold rdyV at *
  unfold rdyC at *
  simp only at HB HX HT HOK hlw hlr
  go_enter Try.func31, Try.ntmps31
  go_upto_region 3 with fail
  generalize w.alloc (.cells #[vi r.txn, vi r.home, vi r.start, .slice aw r.writes.length cw, .slice ar r.reads.length cr] 29) = w1 at *
  have HM1 := Lib.hid (HM.out.later HB.out)
  have p4 : w1.cell? ⟨p, 4, none⟩ = some (.map (some me)) := by rw [cell_of HM1.out.blk]; rfl
  have x0 : w1.cell? ⟨w.heap.size, 0, none⟩ = some (vi r.txn) := by rw [cell_of HX.out]; rfl
  obtain ⟨b, hb⟩ : ∃ b, (getM E r.txn).isSome = b := ⟨_, rfl⟩
  have HBE := Lib.hid hb
  have hS : ∀ w' : World, Below w1.heap.size w1 w' → w'.cell? ⟨p, 4, none⟩ = some (.map (some me)) ∧ w'.cell? ⟨w.heap.size, 0, none⟩ = some (vi r.txn) ∧ (Instr.lookup 44 (.map (some me)) (vi r.txn) true).run Try.prog w' = .ok (.tuple #[.agg #[vi ((getM E r.txn).getD ⟨0, false, 0⟩).txn, .bool ((getM E r.txn).getD ⟨0, false, 0⟩).commit, vi ((getM E r.txn).getD ⟨0, false, 0⟩).at_], .bool b]) w' := fun w' hw => by
    have := lookup_ends (HM1.out.later hw).ends HT.out
    rw [hb] at this
    exact ⟨cell_later hw p4, cell_later hw x0, this⟩
  generalize (getM E r.txn).getD ⟨0, false, 0⟩ = ex at *
  have HS := Lib.hid hS
  clear hb hS
  go_cut [7] (fun u wx => u = .bool b ∧ Below w1.heap.size w1 wx)
  case first =>
    go_region_held3 (fun w' : World => w'.cell? ⟨p, 4, none⟩ = some (.map (some me)) ∧ w'.cell? ⟨w.heap.size, 0, none⟩ = some (vi r.txn) ∧ (Instr.lookup 44 (.map (some me)) (vi r.txn) true).run Try.prog w' = .ok (.tuple #[.agg #[vi ex.txn, .bool ex.commit, vi ex.at_], .bool b]) w')
      (first | exact HS.out _ ((Below.refl _ _).drew) | exact HS.out _ (((Below.refl _ _).drew).alloc (Nat.le_refl _) _) | exact HS.out _ ((((Below.refl _ _).drew).alloc (Nat.le_refl _) _).setCell (Nat.le_refl _) _)) (fail)
    all_goals
      go_wp2_with fail
      go_meet
      exact ⟨rfl, by first | exact ((Below.refl _ _).alloc (Nat.le_refl _) _).drew | exact ((Below.refl _ _).drew).alloc (Nat.le_refl _) _⟩
  case rest =>
    obtain ⟨w2, rfl⟩ : ∃ w2 : World, w2 = wc := ⟨_, rfl⟩
    obtain ⟨rfl, hb2⟩ := hcut
    have HB2 := Lib.hid (HB.out.trans (hb2.mono HB.out.size))
    have HX2 := Lib.hid ((hb2.block w.heap.size (Array.getElem?_eq_some_iff.1 HX.out).1).trans HX.out)
    clear hb2 p4 x0 HS HX HM1 ex
    cases b
    rotate_left
    · go_wp2_with fail
      go_ret2
      exact ⟨0, 62, R, rfl, .inl ⟨HBE.out, rfl, rfl, rfl⟩, HM.out.later HB2.out, below_any HB2.out _, fun _ h => .inl h⟩
    have HM2 := Lib.hid (HM.out.later HB2.out)
    have p3 : w2.cell? ⟨p, 3, none⟩ = some (.map (some mr)) := by rw [cell_of HM2.out.blk]; rfl
    have x0 : w2.cell? ⟨w.heap.size, 0, none⟩ = some (vi r.txn) := by rw [cell_of HX2.out]; rfl
    obtain ⟨b, hb⟩ : ∃ b, (getM R r.txn).isSome = b := ⟨_, rfl⟩
    have HBR := Lib.hid hb
    obtain ⟨z1, z2, z3, a, n, c, a', n', c', hz⟩ := rdy_slices HM2.out r.txn
    have hS : ∀ w' : World, Below w2.heap.size w2 w' → w'.cell? ⟨p, 3, none⟩ = some (.map (some mr)) ∧ w'.cell? ⟨w.heap.size, 0, none⟩ = some (vi r.txn) ∧ (Instr.lookup 109 (.map (some mr)) (vi r.txn) true).run Try.prog w' = .ok (.tuple #[.agg #[vi z1, vi z2, vi z3, .slice a n c, .slice a' n' c'], .bool b]) w' := fun w' hw => by
      have := lookup_ready2 (HM2.out.later hw).ready HT.out
      rw [hb, hz] at this
      exact ⟨cell_later hw p3, cell_later hw x0, this⟩
    have HS := Lib.hid hS
    clear hb hS hz
    go_upto_region 6 with fail
    go_cut [9] (fun u wx => u = .bool b ∧ Below w2.heap.size w2 wx)
    case first =>
      go_region_held3 (fun w' : World => w'.cell? ⟨p, 3, none⟩ = some (.map (some mr)) ∧ w'.cell? ⟨w.heap.size, 0, none⟩ = some (vi r.txn) ∧ (Instr.lookup 109 (.map (some mr)) (vi r.txn) true).run Try.prog w' = .ok (.tuple #[.agg #[vi z1, vi z2, vi z3, .slice a n c, .slice a' n' c'], .bool b]) w')
        (first | exact HS.out _ ((Below.refl _ _).drew) | exact HS.out _ (((Below.refl _ _).drew).alloc (Nat.le_refl _) _) | exact HS.out _ ((((Below.refl _ _).drew).alloc (Nat.le_refl _) _).setCell (Nat.le_refl _) _)) (fail)
      all_goals
        go_wp2_with fail
        go_meet
        exact ⟨rfl, by first | exact ((Below.refl _ _).alloc (Nat.le_refl _) _).drew | exact ((Below.refl _ _).drew).alloc (Nat.le_refl _) _⟩
    case rest =>
      obtain ⟨w3, rfl⟩ : ∃ w3 : World, w3 = wc := ⟨_, rfl⟩
      obtain ⟨rfl, hb3⟩ := hcut
      have HB3 := Lib.hid (HB2.out.trans (hb3.mono HB2.out.size))
      have HX3 := Lib.hid ((hb3.block w.heap.size (Array.getElem?_eq_some_iff.1 HX2.out).1).trans HX2.out)
      clear hb3 p3 x0 HS HX2 HM2 HB2
      cases b
      rotate_left
      · go_wp2_with fail
        go_ret2
        exact ⟨0, 0, R, rfl, .inr (.inl ⟨HBE.out, HBR.out, rfl, rfl, rfl⟩), HM.out.later HB3.out, below_any HB3.out _, fun _ h => .inl h⟩
      have HM3 := Lib.hid (HM.out.later HB3.out)
      have p1 : w3.cell? ⟨p, 1, none⟩ = some (vi bugs) := by rw [cell_of HM3.out.blk]; rfl
      have p0 : w3.cell? ⟨p, 0, none⟩ = some (.bool serial) := by rw [cell_of HM3.out.blk]; rfl
      have x0 : w3.cell? ⟨w.heap.size, 0, none⟩ = some (vi r.txn) := by rw [cell_of HX3.out]; rfl
      have x2 : w3.cell? ⟨w.heap.size, 2, none⟩ = some (vi r.start) := by rw [cell_of HX3.out]; rfl
      have x3 : w3.cell? ⟨w.heap.size, 3, none⟩ = some (.slice aw r.writes.length cw) := by rw [cell_of HX3.out]; rfl
      have x4 : w3.cell? ⟨w.heap.size, 4, none⟩ = some (.slice ar r.reads.length cr) := by rw [cell_of HX3.out]; rfl
      go_wp2_with fail
      go_loopw [44] (fun i wr => ∃ k : Nat, k ≤ r.writes.length ∧ i = .int .i64 k ∧ Hid (∀ j o, j < k → r.writes[j]? = some o → (offB bugs 1 && laterB (verOf K o.key) r.start) = false) ∧ Below w3.heap.size w3 wr) (fun i _ => r.writes.length - (intOf i).toNat)
      case atStart => exact ⟨0, Nat.zero_le _, rfl, Lib.hid (fun j o h => absurd h (Nat.not_lt_zero _)), Below.refl _ _⟩
      case round =>
        obtain ⟨wj, rfl⟩ : ∃ wj : World, wj = wr := ⟨_, rfl⟩
        obtain ⟨k, hk, rfl, HN, hbj⟩ := hrel
        have HBj := Lib.hid hbj
        have HB4 := Lib.hid (HB3.out.trans (hbj.mono HB3.out.size))
        clear hbj
        by_cases hlt : k < r.writes.length
        · obtain ⟨o, ho⟩ := some_at hlt
          obtain ⟨_, _, _, e5, -, -, hcl⟩ := (show RdOps w (.slice aw r.writes.length cw) r.writes from HXR.out.ws).at
          cases e5
          obtain ⟨b, off, rfl, k0', k1', k2'⟩ := hcl k o ho
          have k0 := cell_later HB4.out k0'
          have k1 := cell_later HB4.out k1'
          have k2 := cell_later HB4.out k2'
          have HO := Lib.hid ho
          have hio := HOK.out o (List.mem_of_getElem? ho)
          clear hcl ho k0' k1' k2'
          have hlater := later_call (base := base) (p := p) (mk := mk) (mr := mr) (me := me) (serial := serial) (bugs := bugs) (R := R) (E := E) o.key r.start (wj.alloc (.cells #[vi o.kind, vi o.key, vi o.val] 104)) (HM.out.later (HB4.out.alloc HB4.out.size _)) hio
          obtain ⟨lb, hlb⟩ : ∃ lb, laterB (verOf K o.key) r.start = lb := ⟨_, rfl⟩
          rw [hlb] at hlater
          have HL := Lib.hid hlater
          have HLB := Lib.hid hlb
          have x2j := fun o' => cell_later ((Below.refl wj.heap.size wj).alloc (Nat.le_refl _) o') (cell_later HBj.out x2)
          have p1j := fun o' => cell_later ((Below.refl wj.heap.size wj).alloc (Nat.le_refl _) o') (cell_later HBj.out p1)
          have hki : (k : Int) < (r.writes.length : Int) := by omega
          have HBA := Lib.hid (HBj.out.alloc HBj.out.size (.cells #[vi o.kind, vi o.key, vi o.val] 104))
          obtain ⟨nb, hnb⟩ : ∃ nb, (bits .and .i64 bugs 1 == 0) = nb := ⟨_, rfl⟩
          have HNB := Lib.hid hnb
          have HNEXT := Lib.hid (show (offB bugs 1 && laterB (verOf K o.key) r.start) = false → (∀ j o, j < k + 1 → r.writes[j]? = some o → (offB bugs 1 && laterB (verOf K o.key) r.start) = false) from fun h0 j o' hj ho' => by
            rcases Nat.lt_or_ge j k with h | h
            · exact HN.out j o' h ho'
            · obtain rfl : j = k := by omega
              rw [HO.out] at ho'; cases ho'; exact h0)
          clear hlater hlb hio p0 p1 x0 x2 x3 x4
          cases lb
          · clear hnb
            go_wp2_with (go_at_call 61; refine HL.out.mono ?_; rintro e w5 ⟨rfl, hb5⟩; have HB5 := Lib.hid (HBA.out.trans (hb5.mono HBA.out.size)); clear hb5)
            go_roundw
            case rel => exact ⟨k + 1, by omega, by go_num, Lib.hid (HNEXT.out (by rw [HLB.out]; simp)), HB5.out⟩
            case measure => simp [intOf]; omega
          · cases nb
            · go_wp2_with (go_at_call 61; refine HL.out.mono ?_; rintro e w5 ⟨rfl, hb5⟩; have p15 := cell_later hb5 (p1j _); have HB5 := Lib.hid (HBA.out.trans (hb5.mono HBA.out.size)); clear hb5)
              go_roundw
              case rel => exact ⟨k + 1, by omega, by go_num, Lib.hid (HNEXT.out (by unfold offB; rw [HNB.out]; simp)), HB5.out⟩
              case measure => simp [intOf]; omega
            · go_wp2_with (go_at_call 61; refine HL.out.mono ?_; rintro e w5 ⟨rfl, hb5⟩; have p15 := cell_later hb5 (p1j _); have HB5 := Lib.hid (HBA.out.trans (hb5.mono HBA.out.size)); clear hb5)
              go_ret2
              have HB6 := Lib.hid (HB3.out.trans (HB5.out.mono HB3.out.size))
              refine ⟨0, 61, R, rfl, .inr (.inr (.inl ⟨HBE.out, HBR.out, .inl ?_, rfl, rfl, rfl⟩)), HM.out.later HB6.out, below_any HB6.out _, fun _ h => .inl h⟩
              unfold lostW offB
              rw [HNB.out, Bool.true_and, List.any_eq_true]
              exact ⟨o, List.mem_of_getElem? HO.out, HLB.out⟩
        · obtain rfl : k = r.writes.length := by omega
          clear hlt hk
          have HLW := Lib.hid (show lostW K bugs r = false by
            unfold lostW
            cases hoff : offB bugs 1
            · simp
            · rw [Bool.true_and, List.any_eq_false]
              intro o ho
              obtain ⟨j, hj⟩ := List.mem_iff_getElem?.1 ho
              have := HN.out j o (List.getElem?_eq_some_iff.1 hj).1 hj
              rw [hoff, Bool.true_and] at this
              simp [this])
          clear HN
          have HM4 := Lib.hid (HM.out.later HB4.out)
          have HX4 := Lib.hid ((HBj.out.block w.heap.size (Array.getElem?_eq_some_iff.1 HX3.out).1).trans HX3.out)
          clear p0 p1 x0 x2 x3 x4 HM3 HX3 HBj
          have p1 : wj.cell? ⟨p, 1, none⟩ = some (vi bugs) := by rw [cell_of HM4.out.blk]; rfl
          have p0 : wj.cell? ⟨p, 0, none⟩ = some (.bool serial) := by rw [cell_of HM4.out.blk]; rfl
          go_upto_region 15 with fail
          go_cut [12] (fun v wx => v = .pointer (some ⟨wj.heap.size, 0, none⟩) ∧ wx = wj.alloc (.cells #[.bool (lookP serial bugs)] 4))
          case first =>
            obtain ⟨nb, hnb⟩ : ∃ nb, (bits .and .i64 bugs 4 == 0) = nb := ⟨_, rfl⟩
            have HNB := Lib.hid hnb
            cases serial
            · clear hnb
              go_wp2_with fail
              go_meet
              exact ⟨rfl, rfl⟩
            · go_wp2_with fail
              go_meet
              exact ⟨rfl, by unfold lookP offB; rw [HNB.out]; rfl⟩
          case rest =>
            obtain ⟨w4, rfl⟩ : ∃ w4 : World, w4 = wc := ⟨_, rfl⟩
            obtain ⟨rfl, hw4⟩ := hcut
            have hx4 := alloc_at wj (.cells #[.bool (lookP serial bugs)] 4)
            have hb4 : Below wj.heap.size wj (wj.alloc (.cells #[.bool (lookP serial bugs)] 4)) := (Below.refl _ _).alloc (Nat.le_refl _) _
            rw [← hw4] at hx4 hb4
            have HL4 := Lib.hid hx4
            have HB5 := Lib.hid (HB4.out.trans (hb4.mono HB4.out.size))
            have HX5 := Lib.hid ((hb4.block w.heap.size (Array.getElem?_eq_some_iff.1 HX4.out).1).trans HX4.out)
            have hwj := (Array.getElem?_eq_some_iff.1 HX4.out).1
            clear p0 p1 hw4 hx4 hb4 HM4 HB4
            have x4 : w4.cell? ⟨w.heap.size, 4, none⟩ = some (.slice ar r.reads.length cr) := by rw [cell_of HX5.out]; rfl
            have x2 : w4.cell? ⟨w.heap.size, 2, none⟩ = some (vi r.start) := by rw [cell_of HX5.out]; rfl
            have l0 : w4.cell? ⟨wj.heap.size, 0, none⟩ = some (.bool (lookP serial bugs)) := by rw [cell_of HL4.out]; rfl
            go_wp2_with fail
            go_loopw [78] (fun i wr => ∃ k : Nat, k ≤ r.reads.length ∧ i = .int .i64 k ∧ Hid (∀ j o, j < k → r.reads[j]? = some o → (lookP serial bugs && laterB (verOf K o) r.start) = false) ∧ Below w4.heap.size w4 wr) (fun i _ => r.reads.length - (intOf i).toNat)
            case atStart => exact ⟨0, Nat.zero_le _, rfl, Lib.hid (fun j o h => absurd h (Nat.not_lt_zero _)), Below.refl _ _⟩
            case round =>
              obtain ⟨wk, rfl⟩ : ∃ wk : World, wk = wr := ⟨_, rfl⟩
              obtain ⟨k, hk, rfl, HN, hbk⟩ := hrel
              have HBk := Lib.hid hbk
              have HB6 := Lib.hid (HB5.out.trans (hbk.mono HB5.out.size))
              clear hbk
              by_cases hlt : k < r.reads.length
              · obtain ⟨o, ho⟩ := some_at hlt
                obtain ⟨_, _, _, e5, -, -, hcl⟩ := (show RdInts w (.slice ar r.reads.length cr) r.reads from HXR.out.rs).at
                cases e5
                obtain ⟨b, off, rfl, k0', hio⟩ := hcl k o ho
                have k0 := cell_later HB6.out k0'
                have HO := Lib.hid ho
                have x2k := cell_later HBk.out x2
                have l0k := cell_later HBk.out l0
                have hki : (k : Int) < (r.reads.length : Int) := by omega
                have HL := Lib.hid (later_call (base := base) (p := p) (mk := mk) (mr := mr) (me := me) (serial := serial) (bugs := bugs) (R := R) (E := E) o r.start wk (HM.out.later HB6.out) hio)
                have HNEXT := Lib.hid (show (lookP serial bugs && laterB (verOf K o) r.start) = false → (∀ j o, j < k + 1 → r.reads[j]? = some o → (lookP serial bugs && laterB (verOf K o) r.start) = false) from fun h0 j o' hj ho' => by
                  rcases Nat.lt_or_ge j k with h | h
                  · exact HN.out j o' h ho'
                  · obtain rfl : j = k := by omega
                    rw [HO.out] at ho'; cases ho'; exact h0)
                obtain ⟨lk, hlk⟩ : ∃ lk, lookP serial bugs = lk := ⟨_, rfl⟩
                have HLK := Lib.hid hlk
                rw [hlk] at l0k
                obtain ⟨lb, hlb⟩ : ∃ lb, laterB (verOf K o) r.start = lb := ⟨_, rfl⟩
                have HLB := Lib.hid hlb
                rw [hlb] at HL
                clear hcl ho k0' hlk hlb x2 x4 l0 hio
                cases lk
                · go_wp2_with fail
                  go_roundw
                  case rel => exact ⟨k + 1, by omega, by go_num, Lib.hid (HNEXT.out (by rw [HLK.out]; simp)), HBk.out⟩
                  case measure => simp [intOf]; omega
                · cases lb
                  · go_wp2_with (go_at_call 61; refine HL.out.mono ?_; rintro e w5 ⟨rfl, hb5⟩; have HB7 := Lib.hid (HBk.out.trans (hb5.mono HBk.out.size)); clear hb5)
                    go_roundw
                    case rel => exact ⟨k + 1, by omega, by go_num, Lib.hid (HNEXT.out (by rw [HLB.out]; simp)), HB7.out⟩
                    case measure => simp [intOf]; omega
                  · go_wp2_with (go_at_call 61; refine HL.out.mono ?_; rintro e w5 ⟨rfl, hb5⟩; have HB7 := Lib.hid (HB6.out.trans (hb5.mono HB6.out.size)); clear hb5)
                    go_ret2
                    refine ⟨0, 61, R, rfl, .inr (.inr (.inl ⟨HBE.out, HBR.out, .inr ?_, rfl, rfl, rfl⟩)), HM.out.later HB7.out, below_any HB7.out _, fun _ h => .inl h⟩
                    unfold lostR
                    rw [HLK.out, Bool.true_and, List.any_eq_true]
                    exact ⟨o, List.mem_of_getElem? HO.out, HLB.out⟩
              · obtain rfl : k = r.reads.length := by omega
                clear hlt hk
                have HLR := Lib.hid (show lostR K serial bugs r = false by
                  unfold lostR
                  cases hoff : lookP serial bugs
                  · simp
                  · rw [Bool.true_and, List.any_eq_false]
                    intro o ho
                    obtain ⟨j, hj⟩ := List.mem_iff_getElem?.1 ho
                    have := HN.out j o (List.getElem?_eq_some_iff.1 hj).1 hj
                    rw [hoff, Bool.true_and] at this
                    simp [this])
                have HM5 := Lib.hid (HM.out.later HB6.out)
                have HX6 := Lib.hid ((HBk.out.block w.heap.size (Array.getElem?_eq_some_iff.1 HX5.out).1).trans HX5.out)
                have HL6 := Lib.hid ((HBk.out.block wj.heap.size (Array.getElem?_eq_some_iff.1 HL4.out).1).trans HL4.out)
                clear HN x2 x4 l0 HX5 HX4 HL4 HB5 HBk
                have x0 : wk.cell? ⟨w.heap.size, 0, none⟩ = some (vi r.txn) := by rw [cell_of HX6.out]; rfl
                have hmf : ∀ (fn : Fn) (first cap : Array Value) (w : World), (Instr.makeFunc fn first cap).run Try.prog w = .ok (.func fn first cap) w := fun _ _ _ _ => rfl
                have HXK := Lib.hid (show RdyS wk ⟨.slice aw r.writes.length cw, .slice ar r.reads.length cr, r⟩ from HXR.out.later HB6.out)
                have HSUCH := Lib.hid (prep1_such (look := lookP serial bugs) HM5.out.rrow HXK.out HX6.out (cell_of HL6.out 0))
                have eg := enters_of Try.func62 (by kernel_rfl) rfl
                have HE := Lib.hid eg
                clear eg
                go_wp2_with fail
                refine (blocks_call r.txn _ _ (wayB r (lookP serial bugs)) wk HM5.out hR HE.out HSUCH.out).mono ?_
                rintro e w6 ⟨id, ok, rfl, hblk, hb6⟩
                have HBLK := Lib.hid hblk
                have HB7 := Lib.hid (HB6.out.trans (hb6.mono HB6.out.size))
                have HX7 := Lib.hid ((hb6.block w.heap.size (Array.getElem?_eq_some_iff.1 HX6.out).1).trans HX6.out)
                have HM7 := Lib.hid (HM5.out.later hb6)
                clear hblk hb6 HSUCH HE hmf x0 HM5 HX6 HL6
                have p1 : w6.cell? ⟨p, 1, none⟩ = some (vi bugs) := by rw [cell_of HM7.out.blk]; rfl
                dsimp only
                go_upto_region 23 with fail
                go_cut [107] (fun v wx => v = .bool (ok && offB bugs 1) ∧ wx = w6)
                case first =>
                  obtain ⟨nb, hnb⟩ : ∃ nb, (bits .and .i64 bugs 1 == 0) = nb := ⟨_, rfl⟩
                  have HNB := Lib.hid hnb
                  cases ok
                  · clear hnb
                    go_wp2_with fail
                    go_meet
                    exact ⟨rfl, rfl⟩
                  · go_wp2_with fail
                    go_meet
                    exact ⟨by unfold offB; rw [HNB.out]; rfl, rfl⟩
                case rest =>
                  obtain ⟨w7, rfl⟩ : ∃ w7 : World, w7 = wc := ⟨_, rfl⟩
                  obtain ⟨rfl, hw7⟩ := hcut
                  subst hw7
                  obtain ⟨nb, hnb⟩ : ∃ nb, (ok && offB bugs 1) = nb := ⟨_, rfl⟩
                  rw [hnb]
                  have HNB := Lib.hid hnb
                  clear hnb
                  cases nb
                  rotate_left
                  · go_wp2_with fail
                    go_ret2
                    have hn := HNB.out
                    rw [Bool.and_eq_true] at hn
                    exact ⟨id, 60, R, rfl, .inr (.inr (.inr ⟨HBE.out, HBR.out, HLW.out, HLR.out, id, ok, HBLK.out, .inl ⟨hn.1, hn.2, rfl, rfl, rfl⟩⟩)), HM.out.later HB7.out, below_any HB7.out _, fun _ h => .inl h⟩
                  have hS : ∀ w' : World, Below w7.heap.size w7 w' → w'.cell? ⟨p, 3, none⟩ = some (.map (some mr)) ∧ w'.cell? ⟨w.heap.size, 0, none⟩ = some (vi r.txn) ∧ w'.cell? ⟨w.heap.size, 1, none⟩ = some (vi r.home) ∧ w'.cell? ⟨w.heap.size, 2, none⟩ = some (vi r.start) ∧ w'.cell? ⟨w.heap.size, 3, none⟩ = some (.slice aw r.writes.length cw) ∧ w'.cell? ⟨w.heap.size, 4, none⟩ = some (.slice ar r.reads.length cr) := fun w' hw =>
                    ⟨cell_later hw (by rw [cell_of HM7.out.blk]; rfl), cell_later hw (by rw [cell_of HX7.out]; rfl), cell_later hw (by rw [cell_of HX7.out]; rfl), cell_later hw (by rw [cell_of HX7.out]; rfl), cell_later hw (by rw [cell_of HX7.out]; rfl), cell_later hw (by rw [cell_of HX7.out]; rfl)⟩
                  have HS := Lib.hid hS
                  have HXQ := Lib.hid (show RdyS w7.drew ⟨.slice aw r.writes.length cw, .slice ar r.reads.length cr, r⟩ from HXR.out.later (HB7.out.drew))
                  have HBd := Lib.hid ((Below.refl w7.heap.size w7).drew)
                  have T0 : Hid True := trivial
                  have hs7 : w.heap.size ≤ w7.drew.heap.size := HB7.out.size
                  have hs7' : w.heap.size ≤ w7.heap.size := HB7.out.size
                  clear p1 hS
                  go_upto_region 25 with fail
                  go_region_held3 (fun w' : World => w'.cell? ⟨p, 3, none⟩ = some (.map (some mr)) ∧ w'.cell? ⟨w.heap.size, 0, none⟩ = some (vi r.txn) ∧ w'.cell? ⟨w.heap.size, 1, none⟩ = some (vi r.home) ∧ w'.cell? ⟨w.heap.size, 2, none⟩ = some (vi r.start) ∧ w'.cell? ⟨w.heap.size, 3, none⟩ = some (.slice aw r.writes.length cw) ∧ w'.cell? ⟨w.heap.size, 4, none⟩ = some (.slice ar r.reads.length cr))
                    (first | exact HS.out _ HBd.out | exact HS.out _ HB8.out | exact HS.out _ HB9.out | exact (fun s => ⟨HUP.out.2.2.cell s.1, HUP.out.2.2.cell s.2.1, HUP.out.2.2.cell s.2.2.1, HUP.out.2.2.cell s.2.2.2.1, HUP.out.2.2.cell s.2.2.2.2.1, HUP.out.2.2.cell s.2.2.2.2.2⟩) (HS.out _ HB9.out))
                    (first
                      | (go_at_call 43; clear T0; refine (cloneO_call _ r.writes _ HXQ.out.ws hlw).mono ?_; rintro e w8 ⟨v1, rfl, ho1, hb8⟩; obtain ⟨a1, c1, rfl⟩ := own_shape ho1; have HO1 := Lib.hid ho1; have HB8 := Lib.hid (HBd.out.trans hb8); have HX8 := Lib.hid (HXQ.out.later hb8); clear ho1 hb8; have T1 : Hid True := trivial)
                      | (go_at_call 44; clear T1; refine (cloneI_call _ r.reads _ HX8.out.rs hlr).mono ?_; rintro e w9 ⟨v2, rfl, ho2, hb9⟩; obtain ⟨a2, c2, rfl⟩ := own_shape ho2; have HB9 := Lib.hid (HB8.out.trans (hb9.mono HB8.out.size)); have HY := Lib.hid (rdy_own (r := r) (own_below HO1.out hb9) ho2 (reads_i64 HXQ.out.rs)); have HOA := Lib.hid (own_mono (b' := w.heap.size) (own_below HO1.out hb9) hs7); have HOB := Lib.hid (own_mono (b' := w.heap.size) ho2 (by have := HB8.out.size; omega)); clear ho2 hb9; obtain ⟨w10, hup, HUP⟩ := put_ready HM7.out HB9.out HT.out HY.out))
                  all_goals
                    go_wp2_with fail
                    go_ret2
                    have hn := HNB.out
                    rw [Bool.and_eq_false_iff] at hn
                    have hb79 : Below w.heap.size w w9 := HB7.out.trans (HB9.out.mono HB7.out.size)
                    have hup := HUP.out
                    exact ⟨0, 0, _, rfl, .inr (.inr (.inr ⟨HBE.out, HBR.out, HLW.out, HLR.out, id, ok, HBLK.out, .inr ⟨hn, rfl, rfl, _, _, rfl⟩⟩)), hup.1, grown_after hb79 hup.2.1, fun y hy => by
                      rcases mem_putM hy with rfl | hy
                      · exact .inr ⟨own_solid HOA.out hup.2.2, own_solid HOB.out hup.2.2⟩
                      · exact .inl hy⟩

theorem prep_call {base p mk mr me : Nat} {serial : Bool} {bugs : Int} {K : KeysL} {R : RdyL} {E : EndL} (x : RV) (w : World) (h : MvS base p mk mr me serial bugs K R E w) (hR : R.length ≤ 1048576) (hx : RdyS w x) (ht : i64 x.r.txn)
    (hok : ∀ o ∈ x.r.writes, i64 o.key) (hlw : x.r.writes.length ≤ 1048576) (hlr : x.r.reads.length ≤ 1048576) :
    Calls Try.prog 31 #[.pointer (some ⟨p, 0, none⟩), rdyV x] w (PrepQ base p mk mr me serial bugs K R E x.r w) :=
  (prep_call2 x w h hR hx ht hok hlw hlr).mono fun _ _ ⟨b, er, R', h1, h2, h3, h4, _⟩ => ⟨b, er, R', h1, h2, h3, h4⟩
end Go.Proofs.Ytdkkpkgfiodlbaa
