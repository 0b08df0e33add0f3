/- (*mvcc.Store).Read. -/
import Derived.Test.YtbadpfcjoobniaaMvBack
import Derived.Test.YtbadpfcjoobniaaMemIn
namespace Go.Proofs.Ytbadpfcjoobniaa
open Go.RowKit Go.Shelf Go.Maps
attribute [local go_sem] Oper.semAt_some

/-- Is a bug's flag off? -/
def offB (bugs m : Int) : Bool := bits .and .i64 bugs m == 0
/-- A key's value at a time. -/
def valAt (vs : List Ver) (t : Int) : Int := (((revL vs).find? (fun p => decide (p.2.1 ≤ t))).map (·.2.2)).getD 0
def ReadM (K : KeysL) (R : RdyL) (bugs txn key t v by_ err : Int) : Prop :=
  ∃ id ok, Blk R txn (fun r => writesB r key && decide (r.start < t)) (id, ok) ∧
    ((ok = true ∧ offB bugs 2 = true ∧ v = 0 ∧ by_ = id ∧ err = 60) ∨ ((ok = false ∨ offB bugs 2 = false) ∧ v = valAt (verOf K key) t ∧ by_ = 0 ∧ err = 0))
def ReadQ (K : KeysL) (R : RdyL) (bugs txn key t : Int) (w : World) (e : Ending) (w' : World) : Prop :=
  ∃ v by_ err, e = .returned (.tuple #[vi v, vi by_, vi err]) ∧ ReadM K R bugs txn key t v by_ err ∧ Below w.heap.size w w'

/-- What Read keeps of memory: its boxes. -/
structure RdW (w : World) (key t x2 x3 x4 : Int) (W : World) : Prop where
  b0 : W.heap[w.heap.size]? = some (.cells #[vi key] 3)
  b1 : W.heap[w.heap.size + 1]? = some (.cells #[vi t] 3)
  b2 : W.heap[w.heap.size + 2]? = some (.cells #[vi x2] 3)
  b3 : W.heap[w.heap.size + 3]? = some (.cells #[vi x3] 3)
  b4 : W.heap[w.heap.size + 4]? = some (.cells #[vi x4] 35)
  below : Below w.heap.size w W
theorem RdW.size {w W : World} {key t x2 x3 x4 : Int} (h : RdW w key t x2 x3 x4 W) : w.heap.size + 5 ≤ W.heap.size := (Array.getElem?_eq_some_iff.1 h.b4).1
theorem RdW.turn {w A B : World} {key t x2 x3 x4 : Int} (h : RdW w key t x2 x3 x4 A) (hb : Below w.heap.size A B) (hk : ∀ k cs T, w.heap.size ≤ k → k < w.heap.size + 5 → A.heap[k]? = some (.cells cs T) → B.heap[k]? = some (.cells cs T)) : RdW w key t x2 x3 x4 B :=
  ⟨hk _ _ _ (by omega) (by omega) h.b0, hk _ _ _ (by omega) (by omega) h.b1, hk _ _ _ (by omega) (by omega) h.b2, hk _ _ _ (by omega) (by omega) h.b3, hk _ _ _ (by omega) (by omega) h.b4, h.below.trans hb⟩
theorem RdW.later {w A B : World} {key t x2 x3 x4 : Int} (h : RdW w key t x2 x3 x4 A) (hb : Below A.heap.size A B) : RdW w key t x2 x3 x4 B :=
  h.turn (hb.mono h.below.size) fun k cs T _ _ hk => (hb.block k (Array.getElem?_eq_some_iff.1 hk).1).trans hk
theorem RdW.own {w A B : World} {key t x2 x3 x4 : Int} {row : Option Nat} (h : RdW w key t x2 x3 x4 A) (hg : A.grownBy B row) (hr : ∀ r, row = some r → w.heap.size ≤ r ∧ ∃ o : Obj, A.heap[r]? = some o ∧ o.isCells = false) : RdW w key t x2 x3 x4 B :=
  h.turn ⟨hg.os, hg.tape, hg.output, hg.size, fun k hk => hg.block k (Nat.lt_of_lt_of_le hk h.below.size) (fun e => by have := (hr k e.symm).1; omega)⟩
    fun k cs T _ _ hk => keep_cells hk hg (fun r e => (hr r e).2)
theorem heap_if (w : World) (o : Obj) (k : Nat) : (w.alloc o).heap[k]? = if k = w.heap.size then some o else w.heap[k]? := by
  show (w.heap.push o)[k]? = _
  rw [Array.getElem?_push]
theorem rdW_start (w : World) (key t : Int) : RdW w key t 0 0 0 (((((w.alloc (.cells #[vi key] 3)).alloc (.cells #[vi t] 3)).alloc (.cells #[vi 0] 3)).alloc (.cells #[vi 0] 3)).alloc (.cells #[vi 0] 35)) := by
  refine ⟨?_, ?_, ?_, ?_, ?_, (((((Below.refl _ _).alloc (Nat.le_refl _) _).alloc (by simp) _).alloc (by simp <;> omega) _).alloc (by simp <;> omega) _).alloc (by simp <;> omega) _⟩ <;>
    (simp only [heap_if, World.size_alloc]; repeat rw [if_neg (by omega)]) <;> first | rfl | (rw [if_pos (by omega)])
theorem RdW.set {w A : World} {key t x2 x3 x4 y2 y3 y4 : Int} (h : RdW w key t x2 x3 x4 A) : RdW w key t y2 y3 y4 (((A.setCell ⟨w.heap.size + 2, 0, none⟩ (vi y2)).setCell ⟨w.heap.size + 3, 0, none⟩ (vi y3)).setCell ⟨w.heap.size + 4, 0, none⟩ (vi y4)) := by
  refine ⟨?_, ?_, ?_, ?_, ?_, ((h.below.setCell (by show w.heap.size ≤ w.heap.size + 2; omega) _).setCell (by show w.heap.size ≤ w.heap.size + 3; omega) _).setCell (by show w.heap.size ≤ w.heap.size + 4; omega) _⟩
  all_goals simp [World.setCell, Array.getElem?_modify, h.b0, h.b1, h.b2, h.b3, h.b4]

set_option maxRecDepth 100000 in
set_option maxHeartbeats 4000000 in
theorem read_call {base p mk mr me : Nat} {serial : Bool} {bugs : Int} {K : KeysL} {R : RdyL} {E : EndL} (txn key t : Int) (w : World) (h : MvS base p mk mr me serial bugs K R E w) (hR : R.length ≤ 1048576) (hk : i64 key) :
    Calls Try.prog 15 #[.pointer (some ⟨p, 0, none⟩), vi txn, vi key, vi t] w (ReadQ K R bugs txn key t w) := by
  have HM := Lib.hid h
  clear h
  have HKK := Lib.hid hk
  clear hk
  have hmf : ∀ (fn : Fn) (first cap : Array Value) (w : World), (Instr.makeFunc fn first cap).run Try.prog w = .ok (.func fn first cap) w := fun _ _ _ _ => rfl
  refine (callsIn_wide (n := 8)).1 ?_
  refine callsIn_of_wp_marks Try.func15 rfl trivial ?_ rfl
  simp only [Try.ntmps15, List.size_toArray, List.length_cons, List.length_nil, Nat.reduceAdd, Nat.reduceSub, Array.replicate_succ, Array.replicate_zero, List.push_toArray, List.append_toArray, List.nil_append, List.cons_append]
  gi_wp2_with fail
  have hB5 : Below w.heap.size w (((((w.alloc (.cells #[vi key] 3)).alloc (.cells #[vi t] 3)).alloc (.cells #[vi 0] 3)).alloc (.cells #[vi 0] 3)).alloc (.cells #[vi 0] 35)) :=
    (((((Below.refl _ _).alloc (Nat.le_refl _) _).alloc (by simp) _).alloc (by simp <;> omega) _).alloc (by simp <;> omega) _).alloc (by simp <;> omega) _
  have hS5 : RdW w key t 0 0 0 (((((w.alloc (.cells #[vi key] 3)).alloc (.cells #[vi t] 3)).alloc (.cells #[vi 0] 3)).alloc (.cells #[vi 0] 3)).alloc (.cells #[vi 0] 35)) := rdW_start w key t
  generalize ((((w.alloc (.cells #[vi key] 3)).alloc (.cells #[vi t] 3)).alloc (.cells #[vi 0] 3)).alloc (.cells #[vi 0] 3)).alloc (.cells #[vi 0] 35) = W5 at *
  have HM5 := Lib.hid (HM.out.later hB5)
  have H5 := Lib.hid hS5
  clear hB5 hS5
  refine ⟨trivial, ?_⟩
  refine (callsIn_wide.2 (blocks_call txn 51 _ _ W5 HM5.out hR (enters_of Try.func51 (by kernel_rfl) rfl) (read1_such (key := key) (t := t) HM5.out.rrow (cell_of H5.out.b0 0) (cell_of H5.out.b1 0)))).mono ?_
  rintro e w1 ⟨id, ok, rfl, hblk, hb1⟩
  have HBK := Lib.hid hblk
  have H1 := Lib.hid (H5.out.later hb1)
  have HM1 := Lib.hid (HM5.out.later hb1)
  clear hblk hb1 HM5 H5
  have p1 : w1.cell? ⟨p, 1, none⟩ = some (vi bugs) := by rw [cell_of HM1.out.blk]; rfl
  have p2 : w1.cell? ⟨p, 2, none⟩ = some (.map (some mk)) := by rw [cell_of HM1.out.blk]; rfl
  have c0 : w1.cell? ⟨w.heap.size, 0, none⟩ = some (vi key) := cell_of H1.out.b0 0
  have c2 : w1.cell? ⟨w.heap.size + 1 + 1, 0, none⟩ = some (vi 0) := cell_of H1.out.b2 0
  have c3 : w1.cell? ⟨w.heap.size + 1 + 1 + 1, 0, none⟩ = some (vi 0) := cell_of H1.out.b3 0
  have c4 : w1.cell? ⟨w.heap.size + 1 + 1 + 1 + 1, 0, none⟩ = some (vi 0) := cell_of H1.out.b4 0
  have f2 : w1.frozen? ⟨w.heap.size + 1 + 1, 0, none⟩ = false := free_of H1.out.b2 0
  have f3 : w1.frozen? ⟨w.heap.size + 1 + 1 + 1, 0, none⟩ = false := free_of H1.out.b3 0
  have f4 : w1.frozen? ⟨w.heap.size + 1 + 1 + 1 + 1, 0, none⟩ = false := free_of H1.out.b4 0
  obtain ⟨nb, hnb⟩ : ∃ nb, (bits .and .i64 bugs 2 == 0) = nb := ⟨_, rfl⟩
  have HNB := Lib.hid hnb
  obtain ⟨kv, hkv⟩ : ∃ kv, curK K key = kv := ⟨_, rfl⟩
  have hcur := HM.out.cur key
  have hlk := lookup_keys (w := w1.drew) (HM1.out.keys.frame rfl) HKK.out
  rw [hkv] at hcur hlk
  obtain ⟨kv1, vs⟩ := kv
  obtain ⟨a, len, cap, hv, hl, hm, hcl⟩ := hcur.at
  simp only at hv hl hm hcl hlk
  subst hv hl
  have HVS := Lib.hid (show verOf K key = vs by unfold verOf; rw [hkv])
  have HCL := Lib.hid hcl
  have HM63 := Lib.hid hm
  clear hkv hcur hcl hm
  cases ok <;> cases nb
  rotate_right
  · gi_wp2_with fail
    have hset := H1.out.set (y2 := 0) (y3 := id) (y4 := 60)
    clear p1 p2 c0 c2 c3 c4 f2 f3 f4
    generalize ((w1.setCell ⟨w.heap.size + 1 + 1, 0, none⟩ (vi 0)).setCell ⟨w.heap.size + 1 + 1 + 1, 0, none⟩ (vi id)).setCell ⟨w.heap.size + 1 + 1 + 1 + 1, 0, none⟩ (vi 60) = W3 at *
    refine leaves_marks [] W3 (by simp) (by simp) (fun w' g1 g2 g3 g4 g5 => ?_)
    have hR : RdW w key t 0 id 60 w' := hset.turn ⟨g1, g2, g3, by omega, fun k hk => g5 k (by simp)⟩ (fun k cs T h1 h2 h3 => (g5 k (by simp)).trans h3)
    have r2 : w'.cell? ⟨w.heap.size + 1 + 1, 0, none⟩ = some (vi 0) := cell_of hR.b2 0
    have r3 : w'.cell? ⟨w.heap.size + 1 + 1 + 1, 0, none⟩ = some (vi id) := cell_of hR.b3 0
    have r4 : w'.cell? ⟨w.heap.size + 1 + 1 + 1 + 1, 0, none⟩ = some (vi 60) := cell_of hR.b4 0
    exact ⟨.tuple #[vi 0, vi id, vi 60], by simp [results, Try.f15, go_sem, r2, r3, r4], _, _, _, rfl, ⟨id, true, HBK.out, .inl ⟨rfl, HNB.out, rfl, rfl, rfl⟩⟩, hR.below⟩
  all_goals
    gi_wp2_with fail
    clear hnb
    refine wpIn_wide.2 ?_
    refine wp_region_noPanic ?_
    go_still_tail 5, (by kernel_rfl)
    change wpList _ _ _ _ _ w1.drew
    go_wp2_with fail
    refine (callsIn_wide.1 (back_in Fence.wide 7 trivial rfl a vs.length cap w1.drew)).mono ?_
    rintro e w2 ⟨rfl, rfl⟩
    dsimp only
    have hS2 := H1.out.later (B := w1.drew.alloc (.cells #[.slice a vs.length cap] 46)) (((Below.refl _ _).drew).alloc (Nat.le_refl _) _)
    have hbb : (w1.drew.alloc (.cells #[.slice a vs.length cap] 46)).heap[w1.heap.size]? = some (.cells #[.slice a vs.length cap] 46) := alloc_at w1.drew _
    have hb12 : Below w1.heap.size w1 (w1.drew.alloc (.cells #[.slice a vs.length cap] 46)) := (((Below.refl _ _).drew).alloc (Nat.le_refl _) _)
    have hsz2 : (w1.drew.alloc (.cells #[.slice a vs.length cap] 46)).heap.size = w1.heap.size + 1 := by simp
    have h63 := HM63.out
    generalize w1.drew.alloc (.cells #[.slice a vs.length cap] 46) = W0 at *
    have HB12 := Lib.hid hb12
    have HS2 := Lib.hid hS2
    have hs5 := H1.out.size
    clear p1 p2 c0 c2 c3 c4 f2 f3 f4 hb12 hS2
    gi_wp2_with fail
    show NoPanic _ Exit.normal _ _
    refine NoPanic.normal ?_
    gi_wp2_with fail
    refine wpIn_rangeFunc_ownH rfl (by omega) (gf := 73) (lb := #[.pointer (some ⟨w1.heap.size, 0, none⟩)]) rfl trivial (enters_of Try.func73 (by kernel_rfl) rfl)
      (back_stops Fence.wide _ trivial rfl (by omega) w1.heap.size w.heap.size a cap vs h63 W0 (by omega) (by omega) (cell_of hbb 0) ?hcells) kpb_t (kpb_b (by omega)) (Below.refl _ _) (fun _ => rfl)
      (fun pre W => (∀ q ∈ pre, decide (q.2.1 ≤ t) = false) ∧ RdW w key t 0 0 0 W)
      (fun cd pre W => cd = .ret ∧ ∃ ini last, pre = ini ++ [last] ∧ (∀ q ∈ ini, decide (q.2.1 ≤ t) = false) ∧ decide (last.2.1 ≤ t) = true ∧ RdW w key t last.2.2 0 0 W)
      (fun pre A B row hs hg hr => ⟨hs.1, hs.2.own hg (fun r e => ⟨by have := (hr r e).1; omega, (hr r e).2⟩)⟩)
      (fun cd pre A B row hs hg hr => by
        obtain ⟨h1, ini, last, h2, h3, h4, h5⟩ := hs
        exact ⟨h1, ini, last, h2, h3, h4, h5.own hg (fun r e => ⟨by have := (hr r e).1; omega, (hr r e).2⟩)⟩)
      ⟨by simp, HS2.out⟩
      (fun x a' W => ∃ (Bx : Nat) (u0 u1 u2 u3 u4 u5 u6 u11 u12 u13 u15 u16 u17 u18 u19 u20 u21 u22 u23 u24 u25 u26 u27 u28 u29 u30 u31 u32 u33 u34 u35 u36 u37 u38 u39 u40 u41 u42 u43 u44 u45 u46 u47 u48 : Value), W.heap[Bx]? = some (.cells #[vi x.2.1, vi x.2.2] 70) ∧ a' = { tmps := #[u0, u1, u2, u3, u4, u5, u6, .pointer (some ⟨w.heap.size + 1, 0, none⟩), .pointer (some ⟨w.heap.size + 1 + 1, 0, none⟩), .pointer (some ⟨w.heap.size + 1 + 1 + 1, 0, none⟩), .pointer (some ⟨w.heap.size + 1 + 1 + 1 + 1, 0, none⟩), u11, u12, u13, .pointer (some ⟨Bx, 0, none⟩), u15, u16, u17, u18, u19, u20, u21, u22, u23, u24, u25, u26, u27, u28, u29, u30, u31, u32, u33, u34, u35, u36, u37, u38, u39, u40, u41, u42, u43, u44, u45, u46, u47, u48], defers := [] })
      (fun x a' u A B row hs hg hr => by
        obtain ⟨Bx, u0, u1, u2, u3, u4, u5, u6, u11, u12, u13, u15, u16, u17, u18, u19, u20, u21, u22, u23, u24, u25, u26, u27, u28, u29, u30, u31, u32, u33, u34, u35, u36, u37, u38, u39, u40, u41, u42, u43, u44, u45, u46, u47, u48, hbx, rfl⟩ := hs
        exact ⟨Bx, u0, u1, u2, u3, u4, u5, u6, u11, u12, u13, u15, u16, u17, u18, u19, u20, u21, u22, u23, u24, u25, u26, u27, u28, u29, u30, u31, u32, u33, u34, u35, u36, u37, u38, u39, u40, u41, u42, u43, u44, u45, u46, u47, u48, keep_cells hbx hg (fun r e => (hr r e).2), rfl⟩)
      ?assign ?body ?done ?stop
    case hcells =>
      intro j x hj
      obtain ⟨b, off, rfl, k0, k1, -⟩ := HCL.out j x hj
      exact ⟨b, off, rfl, World.block_lt_of_cell? w _ k0, cell_later HB12.out (cell_later H1.out.below k0), cell_later HB12.out (cell_later H1.out.below k1)⟩
    case assign =>
      rintro lp pre x W K ⟨h1, h2⟩ hK
      have hsW := h2.size
      clear hbb
      gi_wp2
      refine hK _ _ ((KeepsOthers.alloc _ _).from _) ⟨(Below.refl _ _).alloc (by omega) _, fun v hv => ?_⟩ ⟨h1, h2.later ((Below.refl _ _).alloc (Nat.le_refl _) _)⟩ ⟨W.heap.size, _, _, _, _, _, _, _, _, _, _, _, _, _, _, _, _, _, _, _, _, _, _, _, _, _, _, _, _, _, _, _, _, _, _, _, _, _, _, _, _, _, _, _, _, alloc_at _ _, rfl⟩
      rw [World.cell?_alloc_past _ _ _ (World.block_lt_of_cell? _ _ hv)]; exact hv
    case body =>
      rintro lp pre x a' W hlp hrec ⟨h1, h2⟩ ⟨Bx, u0, u1, u2, u3, u4, u5, u6, u11, u12, u13, u15, u16, u17, u18, u19, u20, u21, u22, u23, u24, u25, u26, u27, u28, u29, u30, u31, u32, u33, u34, u35, u36, u37, u38, u39, u40, u41, u42, u43, u44, u45, u46, u47, u48, hbx, rfl⟩ hlen
      have HH := Lib.hid h2
      have H1' := Lib.hid h1
      have x0 : W.cell? ⟨Bx, 0, none⟩ = some (vi x.2.1) := cell_of hbx 0
      have x1 : W.cell? ⟨Bx, 1, none⟩ = some (vi x.2.2) := cell_of hbx 1
      have t0 : W.cell? ⟨w.heap.size + 1, 0, none⟩ = some (vi t) := cell_of h2.b1 0
      have c2 : W.cell? ⟨w.heap.size + 1 + 1, 0, none⟩ = some (vi 0) := cell_of h2.b2 0
      have c3 : W.cell? ⟨w.heap.size + 1 + 1 + 1, 0, none⟩ = some (vi 0) := cell_of h2.b3 0
      have c4 : W.cell? ⟨w.heap.size + 1 + 1 + 1 + 1, 0, none⟩ = some (vi 0) := cell_of h2.b4 0
      have f2 : W.frozen? ⟨w.heap.size + 1 + 1, 0, none⟩ = false := free_of h2.b2 0
      have f3 : W.frozen? ⟨w.heap.size + 1 + 1 + 1, 0, none⟩ = false := free_of h2.b3 0
      have f4 : W.frozen? ⟨w.heap.size + 1 + 1 + 1 + 1, 0, none⟩ = false := free_of h2.b4 0
      have hsW := h2.size
      clear h1 h2 hbx hbb hrec
      obtain ⟨bb, hbb2⟩ : ∃ bb, decide (x.2.1 ≤ t) = bb := ⟨_, rfl⟩
      have HBB := Lib.hid hbb2
      cases bb
      · gi_wp2
        exact ⟨KeepsFrom.refl _ _, ⟨Below.refl _ _, fun _ h => h⟩, fun p hp => (List.mem_append.1 hp).elim (H1'.out p) (fun e => by simp at e; subst e; exact HBB.out), HH.out⟩
      · gi_wp2
        exact ⟨(((KeepsOthers.setCell _ _ _).trans (KeepsOthers.setCell _ _ _)).trans (KeepsOthers.setCell _ _ _)).from _, rfl, pre, x, rfl, H1'.out, HBB.out, HH.out.set⟩
    case done =>
      rintro D ys W hD rfl ⟨h1, h2⟩ hK
      have c2 : W.cell? ⟨w.heap.size + 1 + 1, 0, none⟩ = some (vi 0) := cell_of h2.b2 0
      have c3 : W.cell? ⟨w.heap.size + 1 + 1 + 1, 0, none⟩ = some (vi 0) := cell_of h2.b3 0
      have c4 : W.cell? ⟨w.heap.size + 1 + 1 + 1 + 1, 0, none⟩ = some (vi 0) := cell_of h2.b4 0
      have f2 : W.frozen? ⟨w.heap.size + 1 + 1, 0, none⟩ = false := free_of h2.b2 0
      have f3 : W.frozen? ⟨w.heap.size + 1 + 1 + 1, 0, none⟩ = false := free_of h2.b3 0
      have f4 : W.frozen? ⟨w.heap.size + 1 + 1 + 1 + 1, 0, none⟩ = false := free_of h2.b4 0
      have HH1 := Lib.hid h1
      have HH2 := Lib.hid h2
      have HK := Lib.hid hK
      clear h1 h2 hK hbb
      gi_wp2
      have hset := HH2.out.set (y2 := 0) (y3 := 0) (y4 := 0)
      have hD' : (((W.setCell ⟨w.heap.size + 1 + 1, 0, none⟩ (vi 0)).setCell ⟨w.heap.size + 1 + 1 + 1, 0, none⟩ (vi 0)).setCell ⟨w.heap.size + 1 + 1 + 1 + 1, 0, none⟩ (vi 0)).heap[D]? = some (.deferred (some [])) := (((KeepsOthers.setCell _ _ _).trans (KeepsOthers.setCell _ _ _)).trans (KeepsOthers.setCell _ _ _)).same D _ HK.out rfl
      have hval : valAt vs t = 0 := by
        unfold valAt
        rw [List.find?_eq_none.2 (fun q hq => by simp [HH1.out q hq])]; rfl
      clear c2 c3 c4 f2 f3 f4
      generalize ((W.setCell ⟨w.heap.size + 1 + 1, 0, none⟩ (vi 0)).setCell ⟨w.heap.size + 1 + 1 + 1, 0, none⟩ (vi 0)).setCell ⟨w.heap.size + 1 + 1 + 1 + 1, 0, none⟩ (vi 0) = W3 at *
      refine leaves_marks [D] W3 (fun D' h => by simp at h; subst h; exact hD') (by simp) (fun w' g1 g2 g3 g4 g5 => ?_)
      have hR : RdW w key t 0 0 0 w' := hset.turn ⟨g1, g2, g3, by omega, fun k hk => g5 k (by simp; omega)⟩ (fun k cs T h1 h2 h3 => (g5 k (by simp; omega)).trans h3)
      have r2 : w'.cell? ⟨w.heap.size + 1 + 1, 0, none⟩ = some (vi 0) := cell_of hR.b2 0
      have r3 : w'.cell? ⟨w.heap.size + 1 + 1 + 1, 0, none⟩ = some (vi 0) := cell_of hR.b3 0
      have r4 : w'.cell? ⟨w.heap.size + 1 + 1 + 1 + 1, 0, none⟩ = some (vi 0) := cell_of hR.b4 0
      exact ⟨.tuple #[vi 0, vi 0, vi 0], by simp [results, Try.f15, go_sem, r2, r3, r4], _, _, _, rfl, ⟨id, _, HBK.out, .inr ⟨by first | exact .inl rfl | exact .inr HNB.out, by rw [HVS.out, hval], rfl, rfl⟩⟩, hR.below⟩
    case stop =>
      rintro D cd pre W hD hpre ⟨rfl, ini, last, rfl, h3, h4, h5⟩ hK
      have HH3 := Lib.hid h3
      have HH4 := Lib.hid h4
      have HH5 := Lib.hid h5
      have HK := Lib.hid hK
      have HP := Lib.hid hpre
      clear h3 h4 h5 hK hpre hbb
      gi_wp2
      have hset := HH5.out
      have hD' := HK.out
      have hval : valAt vs t = last.2.2 := by
        obtain ⟨r, hr⟩ := HP.out
        unfold valAt
        rw [← hr, List.append_assoc, List.find?_append, List.find?_eq_none.2 (fun q hq => by simp [HH3.out q hq])]
        have := HH4.out
        simp only [decide_eq_true_eq] at this
        simp [this]
      generalize W = W3 at *
      refine leaves_marks [D] W3 (fun D' h => by simp at h; subst h; exact hD') (by simp) (fun w' g1 g2 g3 g4 g5 => ?_)
      have hR : RdW w key t last.2.2 0 0 w' := hset.turn ⟨g1, g2, g3, by omega, fun k hk => g5 k (by simp; omega)⟩ (fun k cs T h1 h2 h3 => (g5 k (by simp; omega)).trans h3)
      have r2 : w'.cell? ⟨w.heap.size + 1 + 1, 0, none⟩ = some (vi last.2.2) := cell_of hR.b2 0
      have r3 : w'.cell? ⟨w.heap.size + 1 + 1 + 1, 0, none⟩ = some (vi 0) := cell_of hR.b3 0
      have r4 : w'.cell? ⟨w.heap.size + 1 + 1 + 1 + 1, 0, none⟩ = some (vi 0) := cell_of hR.b4 0
      exact ⟨.tuple #[vi last.2.2, vi 0, vi 0], by simp [results, Try.f15, go_sem, r2, r3, r4], _, _, _, rfl, ⟨id, _, HBK.out, .inr ⟨by first | exact .inl rfl | exact .inr HNB.out, by rw [HVS.out, hval], rfl, rfl⟩⟩, hR.below⟩
end Go.Proofs.Ytbadpfcjoobniaa
