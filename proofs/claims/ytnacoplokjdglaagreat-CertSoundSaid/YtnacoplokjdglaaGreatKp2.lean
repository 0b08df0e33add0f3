/- Texts of one proof, one behind the other: Writes, Flaws, Sure, ChWrites. -/
import Derived.Test.YtnacoplokjdglaaGreatKp1
set_option linter.all false
namespace Go.Proofs.YtnacoplokjdglaaGreat
open Go.RowKit Go.Shelf Go.Maps
attribute [local go_sem] Oper.semAt_some

def hitB (k : Nat) (o : GOp) : Bool := o.kind == 2 && o.key == (k : Int)
/-- The last write of a key. -/
def lastW (l : List GOp) (k : Nat) : Option GOp := ((revL l).find? (fun p => hitB k p.2)).map (·.2)
def writesTo (l : List GOp) (n : Nat) : List GOp := (List.range n).filterMap (lastW l)
/-- hist.Writes. -/
def writesM (l : List GOp) : List GOp := writesTo l 16

theorem writesTo_succ (l : List GOp) (n : Nat) : writesTo l (n + 1) = writesTo l n ++ (lastW l n).toList := by
  unfold writesTo
  rw [List.range_succ, List.filterMap_append]
  cases h : lastW l n <;> simp [h]

theorem writesTo_le (l : List GOp) (n : Nat) : (writesTo l n).length ≤ n := by
  unfold writesTo; refine Nat.le_trans (List.length_filterMap_le _ _) ?_; simp

/-- What a function's marks are at its end. -/
def markL (Ds : List Nat) : List Deferred := Ds.map fun D => { target := .collected D, args := #[] }

theorem leaves_marks {P : Program} {F : Fence} {n : Nat} {fn : Func} {tmps : Array Value} {R : Ending → World → Prop} : ∀ (Ds : List Nat) (w : World), (∀ D ∈ Ds, w.heap[D]? = some (.deferred (some []))) → Ds.Nodup →
    (∀ w' : World, w'.os = w.os → w'.tape = w.tape → w'.output = w.output → w'.heap.size = w.heap.size → (∀ k, k ∉ Ds → w'.heap[k]? = w.heap[k]?) → LeavesIn F n P fn tmps R [] .returning w') → LeavesInM F n P fn tmps R (markL Ds) .returning w
  | [], w, _, _, h => h w rfl rfl rfl rfl (fun _ _ => rfl)
  | D :: Ds, w, hD, hn, h => by
    refine ⟨by simp, .inl ⟨D, w.putObj D (.deferred none), rfl, run_takeDeferred (hD D (by simp)), ?_⟩⟩
    have hnd := List.nodup_cons.1 hn
    have hput : ∀ k, k ≠ D → (w.putObj D (.deferred none)).heap[k]? = w.heap[k]? := fun k hk => by
      unfold World.putObj; simp only [Array.getElem?_setIfInBounds]; rw [if_neg (fun e => hk e.symm)]
    refine leaves_marks Ds _ (fun D' h' => by rw [hput D' (fun e => hnd.1 (e ▸ h'))]; exact hD D' (by simp [h'])) hnd.2 (fun w' h1 h2 h3 h4 h5 => h w' (h1.trans rfl) (h2.trans rfl) (h3.trans rfl) (by rw [h4]; simp [World.putObj]) (fun k hk => by
      rw [h5 k (fun e => hk (by simp [e])), hput k (fun e => hk (by simp [e]))]))

/-- What Writes keeps of memory: its boxed argument, its boxed answer so far, its marks. -/
structure StW (w : World) (c s : Int) (v : Value) (Ds : List Nat) (acc : List GOp) (W : World) : Prop where
  arg : W.heap[w.heap.size]? = some (.cells #[vi c, vi s, v] 49)
  out : ∃ vo, W.heap[w.heap.size + 1]? = some (.cells #[vo] 47) ∧ W.ownsRow (w.heap.size + 2) 51 3 vo acc.length (acc.flatMap opV)
  marks : ∀ D ∈ Ds, w.heap.size + 2 ≤ D ∧ W.heap[D]? = some (.deferred (some []))
  size : w.heap.size + 2 ≤ W.heap.size
  below : Below w.heap.size w W

theorem cell_of {w : World} {b : Nat} {cs : Array Value} {T : TypeId} {fz : Nat × Nat} (h : w.heap[b]? = some (.cells cs T fz)) (o : Nat) : w.cell? ⟨b, o, none⟩ = cs[o]? := by
  simp [World.cell?, h]
theorem free_of {w : World} {b : Nat} {cs : Array Value} {T : TypeId} (h : w.heap[b]? = some (.cells cs T)) (o : Nat) : w.frozen? ⟨b, o, none⟩ = false := by
  simp [World.frozen?, h]

/-- Cells stay where a block that is no cells turns. -/
theorem keep_cells {A B : World} {row : Option Nat} {b : Nat} {cs : Array Value} {T : TypeId} {fz : Nat × Nat} (h : A.heap[b]? = some (.cells cs T fz)) (hg : A.grownBy B row) (hr : ∀ r, row = some r → ∃ o : Obj, A.heap[r]? = some o ∧ o.isCells = false) : B.heap[b]? = some (.cells cs T fz) := by
  rw [hg.block b (Array.getElem?_eq_some_iff.1 h).1 (fun e => by
    obtain ⟨o, ho, hc⟩ := hr b e.symm
    rw [h] at ho; cases ho; cases hc)]
  exact h

theorem stW_own {w : World} {c s : Int} {v : Value} {Ds : List Nat} {acc : List GOp} {base : Nat} (hDs : ∀ D ∈ Ds, D < base) (hb : w.heap.size ≤ base) {A B : World} {row : Option Nat} (h : StW w c s v Ds acc A) (hg : A.grownBy B row)
    (hr : ∀ r, row = some r → base ≤ r ∧ ∃ o : Obj, A.heap[r]? = some o ∧ o.isCells = false) : StW w c s v Ds acc B := by
  have hr' : ∀ r, row = some r → ∃ o : Obj, A.heap[r]? = some o ∧ o.isCells = false := fun r e => (hr r e).2
  obtain ⟨vo, ho, hrow⟩ := h.out
  refine ⟨keep_cells h.arg hg hr', ⟨vo, keep_cells ho hg hr', ?_⟩, fun D hD => ⟨(h.marks D hD).1, ?_⟩, Nat.le_trans h.size hg.size, h.below.trans ⟨hg.os, hg.tape, hg.output, hg.size, fun k hk => ?_⟩⟩
  · refine ⟨hrow.1, ?_⟩
    rcases hrow.2 with h2 | ⟨g, cp, cur, hv, hg2, hh, r⟩
    · exact .inl h2
    · exact .inr ⟨g, cp, cur, hv, hg2, keep_cells hh hg hr', r⟩
  · have hD2 := (h.marks D hD).2
    rw [hg.block D (Array.getElem?_eq_some_iff.1 hD2).1 (fun e => by have := (hr D e.symm).1; have := hDs D hD; omega)]
    exact hD2
  · exact hg.block k (Nat.lt_of_lt_of_le hk h.below.size) (fun e => by have := (hr k e.symm).1; omega)

theorem StW.alloc {w W : World} {c s : Int} {v : Value} {Ds : List Nat} {acc : List GOp} (h : StW w c s v Ds acc W) (o : Obj) : StW w c s v Ds acc (W.alloc o) := by
  have hs := h.size
  obtain ⟨vo, ho, hrow⟩ := h.out
  refine ⟨by rw [Below.heap_alloc _ _ _ (by omega)]; exact h.arg, ⟨vo, by rw [Below.heap_alloc _ _ _ (by omega)]; exact ho, hrow.alloc _⟩, fun D hD => ⟨(h.marks D hD).1, ?_⟩, by simp; omega, h.below.alloc (by omega) _⟩
  have hD2 := (h.marks D hD).2
  rw [Below.heap_alloc _ _ _ (Array.getElem?_eq_some_iff.1 hD2).1]; exact hD2

theorem stW_put {w W w1 : World} {c s : Int} {v vo v' : Value} {Ds : List Nat} {acc : List GOp} {x : GOp} {o : Obj} (h : StW w c s v Ds acc W) (hrow0 : W.ownsRow (w.heap.size + 2) 51 3 vo acc.length (acc.flatMap opV)) (ho : W.heap[w.heap.size + 1]? = some (.cells #[vo] 47))
    (hg : (W.alloc o).grownBy w1 vo.ownBlock) (hrow : w1.ownsRow (w.heap.size + 2) 51 3 v' (acc.length + 1) (acc.flatMap opV ++ opV x)) : StW w c s v Ds (acc ++ [x]) (w1.setCell ⟨w.heap.size + 1, 0, none⟩ v') := by
  have hs := h.size
  have hlt : ∀ j, vo.ownBlock = some j → w.heap.size + 2 ≤ j ∧ j < W.heap.size := fun j hj => hrow0.lt j hj
  have hold : ∀ k, k < W.heap.size → some k ≠ vo.ownBlock → w1.heap[k]? = W.heap[k]? := fun k hk hne => by
    rw [hg.block k (by simp; omega) hne, Below.heap_alloc _ _ _ hk]
  refine ⟨?_, ⟨v', ?_, ?_⟩, fun D hD => ⟨(h.marks D hD).1, ?_⟩, ?_, ?_⟩
  · rw [Below.heap_setCell _ _ _ _ (by show w.heap.size ≠ w.heap.size + 1; omega), hold _ (by omega) (fun e => by have := hlt _ e.symm; omega)]
    exact h.arg
  · have : w1.heap[w.heap.size + 1]? = some (.cells #[vo] 47) := by rw [hold _ (by omega) (fun e => by have := hlt _ e.symm; omega)]; exact ho
    simp [World.setCell, Array.getElem?_modify, this]
  · rw [List.length_append, List.flatMap_append]
    have := ownsRow_setCell_below hrow (a := ⟨w.heap.size + 1, 0, none⟩) (by show w.heap.size + 1 < _; omega) v'
    simpa using this
  · have hD2 := (h.marks D hD).2
    have hD1 := (h.marks D hD).1
    have hDl := (Array.getElem?_eq_some_iff.1 hD2).1
    rw [Below.heap_setCell _ _ _ _ (by show D ≠ w.heap.size + 1; omega), hold D hDl ?_]
    · exact hD2
    · intro e
      rcases hrow0.2 with ⟨e2, _⟩ | ⟨g, cp, cur, e2, _, hh, _⟩
      · rw [e2] at e; cases e
      · rw [e2] at e; cases e
        rw [hh] at hD2; cases hD2
  · have := hg.size; simp [World.setCell] at this ⊢; omega
  · exact (((h.below.alloc (by omega) o).grown hg (by simp; omega) (fun j hj => by have := hlt j hj; omega))).setCell (by show w.heap.size ≤ w.heap.size + 1; omega) _

theorem stW_q {w W w1 : World} {c s : Int} {v vo : Value} {Ds : List Nat} {acc acc' : List GOp} {o : Obj} (h : StW w c s v Ds acc' W) (hrow0 : W.ownsRow (w.heap.size + 2) 51 3 vo acc.length (acc.flatMap opV)) (ho : W.heap[w.heap.size + 1]? = some (.cells #[vo] 47))
    (hg : (W.alloc o).grownBy w1 vo.ownBlock) : w1.heap[w.heap.size + 1]? = some (.cells #[vo] 47) := by
  have hs := h.size
  rw [hg.block _ (by simp; omega) (fun e => by have := (hrow0.lt _ e.symm).1; omega), Below.heap_alloc _ _ _ (by omega)]; exact ho

theorem hitB_no {k : Nat} {l : List (Nat × GOp)} (h : ∀ p ∈ l, hitB k p.2 = false) : l.find? (fun p => hitB k p.2) = none := by
  rw [List.find?_eq_none]; intro p hp; simp [h p hp]

theorem lastW_hit {l : List GOp} {k : Nat} {ini : List (Nat × GOp)} {last : Nat × GOp} (hp : ini ++ [last] <+: revL l) (h : ∀ p ∈ ini, hitB k p.2 = false) (hh : hitB k last.2 = true) : lastW l k = some last.2 := by
  obtain ⟨r, hr⟩ := hp
  unfold lastW
  rw [← hr, List.append_assoc, List.find?_append, hitB_no h]
  simp [hh]

set_option maxRecDepth 100000 in
set_option maxHeartbeats 4000000 in
theorem writes_call (c s : Int) (v : Value) (l : List GOp) (w : World) (hv : RdOps w v l) (_hl : l.length ≤ 1048576) :
    Calls Tryz.prog 71 #[.agg #[vi c, vi s, v]] w fun e w' => ∃ v', e = .returned v' ∧ OwOps w.heap.size w' v' (writesM l) ∧ Below w.heap.size w w' := by
  have HV := Lib.hid hv
  obtain ⟨a, len, cap, rfl, rfl, hm, -⟩ := hv.at
  clear hv
  refine (callsIn_wide (n := 8)).1 ?_
  refine callsIn_of_wp_marks Tryz.func71 rfl trivial ?_ rfl
  simp only [Tryz.ntmps71, List.size_toArray, List.length_cons, List.length_nil, Nat.reduceAdd, Nat.reduceSub, Array.replicate_succ, Array.replicate_zero, List.push_toArray, List.append_toArray, List.nil_append, List.cons_append]
  gi_wp2_with fail
  refine wpIn_loop (fun a' wr => ∃ (k : Nat) (Ds : List Nat) (u4 u5 u6 u8 u9 u10 u11 u12 u13 u14 u15 u16 u17 u18 u19 u20 u21 u22 u23 u24 u25 u26 u27 u28 u29 : Value), k ≤ 16 ∧ Ds.Nodup ∧ StW w c s (.slice a l.length cap) Ds (writesTo l k) wr ∧ a' = { tmps := #[.agg #[vi c, vi s, .slice a l.length cap], .pointer (some ⟨w.heap.size, 0, none⟩), .slice none 0 0, .pointer (some ⟨w.heap.size + 1, 0, none⟩), u4, u5, u6, .int .i64 (k : Int), u8, u9, u10, u11, u12, u13, u14, u15, u16, u17, u18, u19, u20, u21, u22, u23, u24, u25, u26, u27, u28, u29], defers := markL Ds }) (fun a' _ => (16 - intOf (a'.tmps.getD 7 undef)).toNat) ?start ?round
  case start =>
    refine ⟨0, [], undef, undef, undef, undef, undef, undef, undef, undef, undef, undef, undef, undef, undef, undef, undef, undef, undef, undef, undef, undef, undef, undef, undef, undef, undef, Nat.zero_le _, List.nodup_nil, ⟨?_, ⟨.slice none 0 0, ?_, World.ownsRow_nil _ _ _ _⟩, fun D hD => by simp at hD, by simp, ((Below.refl _ _).alloc (Nat.le_refl _) _).alloc (by simp) _⟩, rfl⟩
    · rw [Below.heap_alloc _ _ _ (by simp)]; exact World.alloc_heap_new w _
    · have := World.alloc_heap_new (w.alloc (.cells #[vi c, vi s, .slice a l.length cap] 49)) (.cells #[.slice none 0 0] 47)
      rwa [World.size_alloc] at this
  case round =>
    rintro a' wr ⟨k, Ds, u4, u5, u6, u8, u9, u10, u11, u12, u13, u14, u15, u16, u17, u18, u19, u20, u21, u22, u23, u24, u25, u26, u27, u28, u29, hk, hn, hS, rfl⟩
    have HS := Lib.hid hS
    have ca2 : wr.cell? ⟨w.heap.size, 2, none⟩ = some (.slice a l.length cap) := cell_of hS.arg 2
    have HN := Lib.hid hn
    have hsz := hS.size
    clear hS hn
    by_cases hlt : k < 16
    · have hlt' : (k : Int) < 16 := by omega
      have ca3 : ∀ o, (wr.alloc o).cell? ⟨w.heap.size, 2, none⟩ = some (.slice a l.length cap) := fun o => by rw [World.cell?_alloc_past _ _ _ (by show w.heap.size < _; omega)]; exact ca2
      clear ca2
      gi_wp2_with (refine ⟨trivial, ?_⟩; gi_at_call 88; refine (back_in Fence.wide _ trivial rfl _ _ _ _).mono ?_; rintro e w' ⟨rfl, rfl⟩)
      clear ca3
      have hDs : ∀ D ∈ Ds, D < wr.heap.size := fun D hD => (Array.getElem?_eq_some_iff.1 (HS.out.marks D hD).2).1
      have HDS := Lib.hid hDs
      clear hDs
      have hS2 : StW w c s (.slice a l.length cap) Ds (writesTo l k) ((wr.alloc (.cells #[.int .i64 (k : Int)] 3)).alloc (.cells #[.slice a l.length cap] 47)) := (HS.out.alloc _).alloc _
      have hkb : ((wr.alloc (.cells #[.int .i64 (k : Int)] 3)).alloc (.cells #[.slice a l.length cap] 47)).heap[wr.heap.size]? = some (.cells #[.int .i64 (k : Int)] 3) := by
        rw [Below.heap_alloc _ _ _ (by simp)]; exact World.alloc_heap_new wr _
      have hbb : ((wr.alloc (.cells #[.int .i64 (k : Int)] 3)).alloc (.cells #[.slice a l.length cap] 47)).heap[wr.heap.size + 1]? = some (.cells #[.slice a l.length cap] 47) := by
        have := World.alloc_heap_new (wr.alloc (.cells #[.int .i64 (k : Int)] 3)) (.cells #[.slice a l.length cap] 47)
        rwa [World.size_alloc] at this
      have hsz2 : ((wr.alloc (.cells #[.int .i64 (k : Int)] 3)).alloc (.cells #[.slice a l.length cap] 47)).heap.size = wr.heap.size + 2 := by simp
      have hcl := (HV.out.later hS2.below).at
      generalize (wr.alloc (.cells #[.int .i64 (k : Int)] 3)).alloc (.cells #[.slice a l.length cap] 47) = W0 at *
      refine wpIn_rangeFunc_ownH rfl (by omega) (gf := 115) (lb := #[.pointer (some ⟨wr.heap.size + 1, 0, none⟩)]) rfl trivial (enters_of Tryz.func115 (by kernel_rfl) rfl)
        (back_stops Fence.wide _ trivial rfl (by omega) (wr.heap.size + 1) w.heap.size a cap l hm W0 (by omega) (by omega) (cell_of hbb 0) ?hcells) kpb_t (kpb_b (by omega)) (Below.refl _ _) (fun _ => rfl)
        (fun pre W => (∀ p ∈ pre, hitB k p.2 = false) ∧ StW w c s (.slice a l.length cap) Ds (writesTo l k) W ∧ W.heap[wr.heap.size]? = some (.cells #[.int .i64 (k : Int)] 3))
        (fun cd pre W => cd = .exit 2 ∧ ∃ ini last, pre = ini ++ [last] ∧ (∀ p ∈ ini, hitB k p.2 = false) ∧ hitB k last.2 = true ∧ StW w c s (.slice a l.length cap) Ds (writesTo l k ++ [last.2]) W)
        (fun pre A B row hs hg hr => ⟨hs.1, stW_own (base := W0.heap.size) (fun D hD => by have := HDS.out D hD; omega) (by omega) hs.2.1 hg hr, keep_cells hs.2.2 hg (fun r e => (hr r e).2)⟩)
        (fun cd pre A B row hs hg hr => by
          obtain ⟨h1, ini, last, h2, h3, h4, h5⟩ := hs
          exact ⟨h1, ini, last, h2, h3, h4, stW_own (base := W0.heap.size) (fun D hD => by have := HDS.out D hD; omega) (by omega) h5 hg hr⟩)
        ⟨by simp, hS2, hkb⟩
        (fun x a' W => ∃ Bx, W.heap[Bx]? = some (.cells #[vi x.2.kind, vi x.2.key, vi x.2.val] 51) ∧ a' = { tmps := #[.agg #[vi c, vi s, .slice a l.length cap], .pointer (some ⟨w.heap.size, 0, none⟩), .slice none 0 0, .pointer (some ⟨w.heap.size + 1, 0, none⟩), .pointer (some ⟨wr.heap.size, 0, none⟩), u5, .pointer (some ⟨Bx, 0, none⟩), .int .i64 (k : Int), .bool true, .int .i64 (k : Int), .pointer (some ⟨w.heap.size, 2, none⟩), .slice a l.length cap, .func (.func 115) #[] #[.pointer (some ⟨wr.heap.size + 1, 0, none⟩)], .int .i64 (x.1 : Int), .agg #[vi x.2.kind, vi x.2.key, vi x.2.val], u15, u16, u17, u18, u19, u20, u21, u22, u23, u24, u25, u26, u27, u28, u29], defers := [] })
        (fun x a' u A B row hs hg hr => by
          obtain ⟨Bx, h2, h3⟩ := hs
          exact ⟨Bx, keep_cells h2 hg (fun r e => (hr r e).2), h3⟩)
        ?assign ?body ?done ?stop
      case hcells =>
        intro j x hj
        obtain ⟨_, _, _, e5, -, -, hcw⟩ := HV.out.at
        cases e5
        obtain ⟨b, off, rfl, k0, k1, k2⟩ := hcw j x hj
        have hb := World.block_lt_of_cell? w _ k0
        exact ⟨b, off, rfl, hb, cell_later hS2.below k0, cell_later hS2.below k1, cell_later hS2.below k2⟩
      case assign =>
        rintro lp pre x W K ⟨h1, h2, h3⟩ hK
        have hsW := h2.size
        have hkl := (Array.getElem?_eq_some_iff.1 h3).1
        clear hcl hbb hkb hS2
        gi_wp2
        refine hK _ _ ((KeepsOthers.alloc _ _).from _) ⟨(Below.refl _ _).alloc (by omega) _, fun v hv => ?_⟩ ⟨h1, h2.alloc _, by rw [Below.heap_alloc _ _ _ hkl]; exact h3⟩ ⟨W.heap.size, World.alloc_heap_new _ _, rfl⟩
        rw [World.cell?_alloc_past _ _ _ (World.block_lt_of_cell? _ _ hv)]; exact hv
      case body =>
        rintro lp pre x a' W hlp hrec ⟨h1, h2, h3⟩ ⟨Bx, hbx, rfl⟩ hlen
        have HH := Lib.hid h2
        have H1 := Lib.hid h1
        have x0 : W.cell? ⟨Bx, 0, none⟩ = some (vi x.2.kind) := cell_of hbx 0
        have x1 : W.cell? ⟨Bx, 1, none⟩ = some (vi x.2.key) := cell_of hbx 1
        have x2 : W.cell? ⟨Bx, 2, none⟩ = some (vi x.2.val) := cell_of hbx 2
        have kc : W.cell? ⟨wr.heap.size, 0, none⟩ = some (.int .i64 (k : Int)) := cell_of h3 0
        obtain ⟨vo, ho, hrow⟩ := h2.out
        have co : W.cell? ⟨w.heap.size + 1, 0, none⟩ = some vo := cell_of ho 0
        have HROW := Lib.hid hrow
        have HO := Lib.hid ho
        have hsW := h2.size
        have H3 := Lib.hid h3
        have hwl := writesTo_le l k
        clear h1 h2 h3 hbx hrow ho hcl hbb hkb hS2 hrec
        by_cases hkind : x.2.kind = 2
        · have hkind' : (x.2.kind == 2) = true := by simp [hkind]
          by_cases hkey : x.2.key = (k : Int)
          · have hkey' : (x.2.key == (k : Int)) = true := by simp [hkey]
            have HHIT := Lib.hid (show hitB k x.2 = true by simp [hitB, hkind, hkey])
            clear hkind hkey
            gi_wp2_with (gi_at_builtin; refine wpListIn_append_src rfl _ _ 47 rfl eltOp (w.heap.size + 2) (writesTo l k).length _ (HROW.out.alloc _) rfl 1 (opV x.2) (src_new (cs := #[vi x.2.kind, vi x.2.key, vi x.2.val]) rfl rfl) rfl (by intro u hu; simp [opV] at hu; rcases hu with rfl | rfl | rfl <;> rfl) (by omega) (by omega) (by simp; omega) ?_; intro v' w1 hown' hgrow _; obtain ⟨g', cap', rfl⟩ := ownsRow_succ hown'; have q0 := stW_q HH.out HROW.out HO.out hgrow; have q1 : w1.cell? ⟨w.heap.size + 1, 0, none⟩ = some vo := cell_of q0 0; have q2 : w1.frozen? ⟨w.heap.size + 1, 0, none⟩ = false := free_of q0 0)
            refine ⟨⟨?_, fun j o hj ho hc => ?_⟩, rfl, pre, x, rfl, H1.out, HHIT.out, stW_put HH.out HROW.out HO.out hgrow hown'⟩
            · have := hgrow.size; simp [World.setCell] at this ⊢; omega
            · rw [Below.heap_setCell _ _ _ _ (by show j ≠ w.heap.size + 1; omega), hgrow.block j (by simp; have := (Array.getElem?_eq_some_iff.1 ho).1; omega) ?_, Below.heap_alloc _ _ _ (Array.getElem?_eq_some_iff.1 ho).1]
              · exact ho
              · intro e
                rcases HROW.out.2 with ⟨e2, _⟩ | ⟨g, cp, cur, e2, _, hh, _⟩
                · rw [e2] at e; cases e
                · rw [e2] at e; cases e
                  rw [hh] at ho; cases ho; cases hc
          · have hkey' : (x.2.key == (k : Int)) = false := by simp [hkey]
            have HHIT := Lib.hid (show hitB k x.2 = false by simp [hitB, hkey])
            clear hkind hkey
            gi_wp2
            exact ⟨KeepsFrom.refl _ _, ⟨Below.refl _ _, fun _ h => h⟩, fun p hp => (List.mem_append.1 hp).elim (H1.out p) (fun e => by simp at e; subst e; exact HHIT.out), HH.out, H3.out⟩
        · have hkind' : (x.2.kind == 2) = false := by simp [hkind]
          have HHIT := Lib.hid (show hitB k x.2 = false by simp [hitB, hkind])
          clear hkind
          gi_wp2
          exact ⟨KeepsFrom.refl _ _, ⟨Below.refl _ _, fun _ h => h⟩, fun p hp => (List.mem_append.1 hp).elim (H1.out p) (fun e => by simp at e; subst e; exact HHIT.out), HH.out, H3.out⟩
      case done =>
        rintro D ys W hD rfl ⟨h1, h2, h3⟩ hK
        have H1 := Lib.hid h1
        have H2 := Lib.hid h2
        have HK := Lib.hid hK
        clear h1 h2 h3 hK hcl hbb hkb hS2
        gi_wp2
        have hW2 : writesTo l (k + 1) = writesTo l k := by rw [writesTo_succ]; unfold lastW; rw [hitB_no H1.out]; simp
        refine ⟨⟨k + 1, D :: Ds, _, _, _, _, _, _, _, _, _, _, _, _, _, _, _, _, _, _, _, _, _, _, _, _, _, by omega, ?_, ?_, by go_num⟩, ?_⟩
        · exact List.nodup_cons.2 ⟨fun hin => by have := HDS.out D hin; omega, HN.out⟩
        · rw [hW2]
          refine ⟨H2.out.arg, H2.out.out, fun D' h' => ?_, H2.out.size, H2.out.below⟩
          rcases List.mem_cons.1 h' with rfl | h'
          · exact ⟨by omega, HK.out⟩
          · exact H2.out.marks D' h'
        · simp [intOf]; omega
      case stop =>
        rintro D cd pre W hD hpre ⟨rfl, ini, last, rfl, h3, h4, h5⟩ hK
        have H3 := Lib.hid h3
        have H4 := Lib.hid h4
        have H5 := Lib.hid h5
        have HK := Lib.hid hK
        have HP := Lib.hid hpre
        clear h3 h4 h5 hK hpre hcl hbb hkb hS2
        gi_wp2
        have hW2 : writesTo l (k + 1) = writesTo l k ++ [last.2] := by rw [writesTo_succ, lastW_hit HP.out H3.out H4.out]; rfl
        refine ⟨⟨k + 1, D :: Ds, _, _, _, _, _, _, _, _, _, _, _, _, _, _, _, _, _, _, _, _, _, _, _, _, _, by omega, ?_, ?_, by go_num⟩, ?_⟩
        · exact List.nodup_cons.2 ⟨fun hin => by have := HDS.out D hin; omega, HN.out⟩
        · rw [hW2]
          refine ⟨H5.out.arg, H5.out.out, fun D' h' => ?_, H5.out.size, H5.out.below⟩
          rcases List.mem_cons.1 h' with rfl | h'
          · exact ⟨by omega, HK.out⟩
          · exact H5.out.marks D' h'
        · simp [intOf]; omega
    · have hke : k = 16 := by omega
      subst hke
      obtain ⟨vo, ho, hrow⟩ := HS.out.out
      have co : wr.cell? ⟨w.heap.size + 1, 0, none⟩ = some vo := cell_of ho 0
      have HROW := Lib.hid hrow
      clear ho hrow ca2 hsz
      gi_wp2
      refine leaves_marks Ds wr (fun D hD => (HS.out.marks D hD).2) HN.out (fun w' h1 h2 h3 h4 h5 => ?_)
      have hb : Below w.heap.size w w' := ⟨h1.trans HS.out.below.os, h2.trans HS.out.below.tape, h3.trans HS.out.below.output, by rw [h4]; exact HS.out.below.size, fun k hk => (h5 k (fun hD => by have := (HS.out.marks k hD).1; omega)).trans (HS.out.below.block k hk)⟩
      refine ⟨vo, by simp [results, Tryz.f71, go_sem], vo, rfl, ?_, hb⟩
      have hrow := HROW.out
      unfold OwOps writesM
      refine own_mono (b := w.heap.size + 2) ⟨hrow.1, ?_⟩ (by omega)
      rcases hrow.2 with h | ⟨g, cp, cur, hv, hg, hh, r⟩
      · exact .inl h
      · refine .inr ⟨g, cp, cur, hv, hg, ?_, r⟩
        rw [h5 g (fun hD => by have := (HS.out.marks g hD).2; rw [hh] at this; cases this)]
        exact hh
end Go.Proofs.YtnacoplokjdglaaGreat

namespace Go.Proofs.YtnacoplokjdglaaGreat
open Go.RowKit Go.Maps

def OkTxns (ts : List GTxn) : Prop := ts.length ≤ 1048576 ∧ ∀ t ∈ ts, OkOps t.ops ∧ t.ops.length ≤ 1048576

abbrev vp (p : Int × Int) : Value := .agg #[vi p.1, vi p.2]
theorem vp_inj (x y : Int × Int) (h : vp x = vp y) : x = y := by
  obtain ⟨a, b⟩ := x; obtain ⟨c, d⟩ := y
  simp [vp] at h; obtain ⟨rfl, rfl⟩ := h; rfl

abbrev ByL := List ((Int × Int) × Int)
def stepBy (i : Nat) (L : ByL) (o : GOp) : ByL := if o.kind = 2 then putM L (o.key, o.val) (i : Int) else L
def byN (ts : List GTxn) (n : Nat) : ByL := (ts.take n).zipIdx.foldl (fun L p => p.1.ops.foldl (stepBy p.2) L) []
abbrev LaL := List ((Int × Int) × Bool)
def stepLa (L : LaL) (o : GOp) : LaL := putM L (o.key, o.val) true
def laN (ts : List GTxn) (n : Nat) : LaL := (ts.take n).foldl (fun L t => (writesM t.ops).foldl stepLa L) []

theorem zipIdx_take_succ {ts : List GTxn} {n : Nat} {t : GTxn} (h : ts[n]? = some t) : (ts.take (n + 1)).zipIdx = (ts.take n).zipIdx ++ [(t, n)] := by
  rw [take_at h, List.zipIdx_append]
  have : (ts.take n).length = n := by
    have := (List.getElem?_eq_some_iff.1 h).1
    simp; omega
  simp [this]

theorem byN_succ {ts : List GTxn} {n : Nat} {t : GTxn} (h : ts[n]? = some t) : byN ts (n + 1) = t.ops.foldl (stepBy n) (byN ts n) := by
  unfold byN; rw [zipIdx_take_succ h, List.foldl_append]; rfl
theorem laN_succ {ts : List GTxn} {n : Nat} {t : GTxn} (h : ts[n]? = some t) : laN ts (n + 1) = (writesM t.ops).foldl stepLa (laN ts n) := by
  unfold laN; rw [take_at h, List.foldl_append]; rfl

theorem alloc_at (w : World) (o : Obj) : (w.alloc o).heap[w.heap.size]? = some o := by show (w.heap.push o)[w.heap.size]? = some o; simp

theorem cell_later {w w' : World} {p : Addr} {v : Value} (h : Below w.heap.size w w') (hc : w.cell? p = some v) : w'.cell? p = some v := by
  have hp : p.block < w.heap.size := by
    rcases Nat.lt_or_ge p.block w.heap.size with h' | h'
    · exact h'
    · simp [World.cell?, Array.getElem?_eq_none h'] at hc
  rw [h.cell hp]; exact hc

theorem fold_at {α β : Type} {f : β → α → β} {l : List α} {k : Nat} {x : α} (b : β) (h : l[k]? = some x) : (l.take (k + 1)).foldl f b = f ((l.take k).foldl f b) x := by
  rw [take_at h, List.foldl_append]; rfl

theorem lastW_mem {l : List GOp} {k : Nat} {o : GOp} (h : lastW l k = some o) : o ∈ l ∧ hitB k o = true := by
  unfold lastW at h
  rw [Option.map_eq_some_iff] at h
  obtain ⟨p, hp, rfl⟩ := h
  refine ⟨?_, by simpa using List.find?_some hp⟩
  have := List.mem_of_find?_eq_some hp
  unfold revL at this
  rw [List.mem_reverse, List.mem_map] at this
  obtain ⟨q, hq, rfl⟩ := this
  exact List.fst_mem_of_mem_zipIdx hq

theorem writesM_mem {l : List GOp} {o : GOp} (h : o ∈ writesM l) : o ∈ l := by
  unfold writesM writesTo at h
  rw [List.mem_filterMap] at h
  obtain ⟨k, _, hk⟩ := h
  exact (lastW_mem hk).1

/-- What a walk wants of a transaction in a readable slice. -/
theorem RdTxns.at {w : World} {v : Value} {l : List GTxn} (h : RdTxns w v l) : ∃ a len cap, v = .slice a len cap ∧ len = l.length ∧ l.length ≤ 9223372036854775807 ∧
    ∀ j x, l[j]? = some x → ∃ b off oa oc, a = some ⟨b, off, none⟩ ∧ RdOps w (.slice oa x.ops.length oc) x.ops ∧ w.cell? ⟨b, off + j * 3, none⟩ = some (vi x.client) ∧ w.cell? ⟨b, off + j * 3 + 1, none⟩ = some (vi x.state) ∧ w.cell? ⟨b, off + j * 3 + 2, none⟩ = some (.slice oa x.ops.length oc) := by
  obtain ⟨a, len, cap, h1, h2, h3, h6⟩ := RdS.at3 h
  refine ⟨a, len, cap, h1, h2, h3, fun j x hj => ?_⟩
  obtain ⟨b, off, c0, c1, c2, ha, ⟨ov, he, hr⟩, k0, k1, k2⟩ := h6 j x hj
  obtain ⟨oa, ol, oc, rfl, rfl, _⟩ := hr.at
  simp only [List.cons.injEq, and_true] at he
  obtain ⟨rfl, rfl, rfl⟩ := he
  exact ⟨b, off, oa, oc, ha, hr, k0, k1, k2⟩

theorem MapT.no_cell {κ ν : Type} {P : Program} {k : TypeId} {eK : κ → Value} {eV : ν → Value} {w : World} {b : Nat} {L : List (κ × ν)} (h : MapT P k eK eV w b L) {p : Addr} {v : Value} (hc : w.cell? p = some v) : p.block ≠ b := by
  obtain ⟨es, clock, hb, _⟩ := h
  intro e
  simp [World.cell?, e, hb] at hc

set_option maxRecDepth 100000 in
set_option maxHeartbeats 2000000 in
theorem writers_call (v : Value) (ts : List GTxn) (w : World) (hv : RdTxns w v ts) (hok : OkTxns ts) :
    Calls Tryz.prog 60 #[v] w fun e w' => e = .returned (.tuple #[.map (some w.heap.size), .map (some (w.heap.size + 1))]) ∧
      MapT Tryz.prog 127 vp vi w' w.heap.size (byN ts ts.length) ∧ MapT Tryz.prog 127 vp Value.bool w' (w.heap.size + 1) (laN ts ts.length) ∧ Below w.heap.size w w' := by
  have HV := Lib.hid hv
  have HOK := Lib.hid hok
  obtain ⟨a, len, cap, rfl, rfl, hm, -⟩ := hv.at
  have htl := hok.1
  clear hv hok
  have hmm := @run_makeMap Tryz.prog
  go_enter Tryz.func60, Tryz.ntmps60
  go_wp2_with fail
  go_loopw [6, 7, 16] (fun _ _ i wr => ∃ k : Nat, k ≤ ts.length ∧ i = .int .i64 k ∧ MapT Tryz.prog 127 vp vi wr w.heap.size (byN ts k) ∧ MapT Tryz.prog 127 vp Value.bool wr (w.heap.size + 1) (laN ts k) ∧ w.heap.size + 2 ≤ wr.heap.size ∧ Below w.heap.size w wr) (fun _ _ i _ => ts.length - (intOf i).toNat)
  case atStart =>
    refine ⟨0, Nat.zero_le _, rfl, ?_, ?_, by simp, ((Below.refl _ _).alloc (Nat.le_refl _) _).alloc (by simp) _⟩
    · have := MapT.made (P := Tryz.prog) (k := 127) (eK := vp) (eV := vi) w
      exact this.frame (Below.heap_alloc _ _ _ (by simp))
    · simpa [laN] using MapT.made (P := Tryz.prog) (k := 127) (eK := vp) (eV := Value.bool) (w.alloc (.map #[] 0))
  case round =>
    obtain ⟨k, hk, rfl, hM1, hM2, hsz, hb⟩ := hrel
    have HM1 := Lib.hid hM1
    have HM2 := Lib.hid hM2
    have HB := Lib.hid hb
    clear hM1 hM2 hb
    by_cases hlt : k < ts.length
    · obtain ⟨t, ht⟩ := some_at hlt
      obtain ⟨_, _, _, e5, -, -, hcl⟩ := HV.out.at
      cases e5
      obtain ⟨b, off, oa, oc, rfl, hr, k0', k1', k2'⟩ := hcl k t ht
      have k0 := cell_later HB.out k0'
      have k1 := cell_later HB.out k1'
      have k2 := cell_later HB.out k2'
      clear k0' k1' k2'
      have HT := Lib.hid ht
      have HR := Lib.hid hr
      obtain ⟨hok1, hok2⟩ := HOK.out.2 t (List.mem_of_getElem? ht)
      have HOP := Lib.hid hok1
      clear hcl ht hr hok1
      obtain ⟨wo, rfl⟩ : ∃ wo : World, wo = wr := ⟨_, rfl⟩
      go_wp2_with fail
      go_loopw [9, 24] (fun _ i wx => ∃ j : Nat, j ≤ t.ops.length ∧ i = .int .i64 j ∧ MapT Tryz.prog 127 vp vi wx w.heap.size ((t.ops.take j).foldl (stepBy k) (byN ts k)) ∧ MapT Tryz.prog 127 vp Value.bool wx (w.heap.size + 1) (laN ts k) ∧ wo.heap.size < wx.heap.size ∧ wx.heap[wo.heap.size]? = some (.cells #[vi t.client, vi t.state, .slice oa t.ops.length oc] 49) ∧ Below w.heap.size w wx) (fun _ i _ => t.ops.length - (intOf i).toNat)
      case atStart =>
        have hwo : (wo.alloc (.cells #[vi t.client, vi t.state, .slice oa t.ops.length oc] 49)).heap[wo.heap.size]? = some (.cells #[vi t.client, vi t.state, .slice oa t.ops.length oc] 49) := alloc_at _ _
        exact ⟨0, Nat.zero_le _, rfl, HM1.out.frame (Below.heap_alloc _ _ _ (by omega)), HM2.out.frame (Below.heap_alloc _ _ _ (by omega)), by simp, hwo, HB.out.alloc (by omega) _⟩
      case round =>
        obtain ⟨wx, rfl⟩ : ∃ wx : World, wx = wr := ⟨_, rfl⟩
        obtain ⟨j, hj, rfl, hN1, hN2, hsx, hbx, hbw⟩ := hrel
        have HN1 := Lib.hid hN1
        have HN2 := Lib.hid hN2
        have HBX := Lib.hid hbx
        have HBW := Lib.hid hbw
        have x0 : wx.cell? ⟨wo.heap.size, 0, none⟩ = some (vi t.client) := cell_of hbx 0
        have x1 : wx.cell? ⟨wo.heap.size, 1, none⟩ = some (vi t.state) := cell_of hbx 1
        have x2 : wx.cell? ⟨wo.heap.size, 2, none⟩ = some (.slice oa t.ops.length oc) := cell_of hbx 2
        clear hN1 hN2 hbx hbw
        by_cases hjl : j < t.ops.length
        · obtain ⟨o, ho⟩ := some_at hjl
          obtain ⟨_, _, _, e5, -, -, hcl⟩ := (HR.out.later HBW.out).at
          cases e5
          obtain ⟨ob, ooff, rfl, y0, y1, y2⟩ := hcl j o ho
          have HO := Lib.hid ho
          have hoo := HOP.out o (List.mem_of_getElem? ho)
          clear hcl
          obtain ⟨kl, hkl⟩ := placeKey hoo.2.1 hoo.2.2
          have HK := Lib.hid hkl
          have HF := Lib.hid (fold_at (f := stepBy k) (byN ts k) ho)
          clear ho hkl
          by_cases hk2 : o.kind = 2
          · have hkb : (o.kind == 2) = true := by simp [hk2]
            have HS := Lib.hid (show ∀ L, stepBy k L o = putM L (o.key, o.val) (k : Int) from fun L => if_pos hk2)
            clear hk2
            go_wp2_with (at_mapUpdate; refine wpList_mapUpdate_T (b := w.heap.size) (eK := vp) (eV := vi) rfl _ _ _ rfl placeKeyed vp_inj Tryz.underlying122 (HN1.out.frame (Below.heap_alloc _ _ _ (by omega))) rfl (o.key, o.val) HK.out rfl (k : Int) rfl ?_; intro w1 hM1 hg1)
            go_roundw
            case rel =>
              refine ⟨j + 1, by omega, by go_num, ?_, ?_, ?_, ?_, ?_⟩
              · rw [HF.out, HS.out]; exact hM1
              · exact (HN2.out.frame (Below.heap_alloc _ _ _ (by omega))).kept hg1 (by simp)
              · have := hg1.size; simp at this; omega
              · rw [hg1.block wo.heap.size (by simp; omega) (by simp; omega), Below.heap_alloc _ _ _ (by omega)]; exact HBX.out
              · exact (HBW.out.alloc (by omega) _).grown hg1 (by simp; omega) (fun j hj => by cases hj; omega)
            case measure => simp [intOf]; omega
          · have hkb : (o.kind == 2) = false := by simp [hk2]
            have HS := Lib.hid (show ∀ L, stepBy k L o = L from fun L => if_neg hk2)
            clear hk2
            go_wp2_with fail
            go_roundw
            case rel =>
              refine ⟨j + 1, by omega, by go_num, ?_, ?_, ?_, ?_, ?_⟩
              · rw [HF.out, HS.out]; exact HN1.out.frame (Below.heap_alloc _ _ _ (by omega))
              · exact HN2.out.frame (Below.heap_alloc _ _ _ (by omega))
              · simp; omega
              · rw [Below.heap_alloc _ _ _ (by omega)]; exact HBX.out
              · exact HBW.out.alloc (by omega) _
            case measure => simp [intOf]; omega
        · obtain rfl : j = t.ops.length := by omega
          rw [List.take_length] at HN1
          go_wp2_with (go_at_call 71; refine (writes_call t.client t.state _ t.ops wx (HR.out.later HBW.out) hok2).mono ?_; rintro e w2 ⟨v2, rfl, ho2, hb2⟩; have hr2 := ho2.rd; obtain ⟨a2, len2, cap2, rfl, rfl, hm2, -⟩ := hr2.at)
          have HR2 := Lib.hid hr2
          have P1 := Lib.hid (HN1.out.below hb2 (by omega))
          have P2 := Lib.hid (HN2.out.below hb2 (by omega))
          have PB := Lib.hid (HBW.out.trans (hb2.mono (by omega)))
          have hs2 := hb2.size
          have hwl : (writesM t.ops).length ≤ 16 := writesTo_le _ _
          generalize hws : writesM t.ops = ws at *
          have HWS := Lib.hid hws
          clear hr2 ho2 hb2 hws HN1 HN2 HBW HBX x0 x1 x2
          go_loopw [11, 42] (fun _ i wy => ∃ j : Nat, j ≤ ws.length ∧ i = .int .i64 j ∧ MapT Tryz.prog 127 vp Value.bool wy (w.heap.size + 1) ((ws.take j).foldl stepLa (laN ts k)) ∧ w2.grownBy wy (some (w.heap.size + 1))) (fun _ i _ => ws.length - (intOf i).toNat)
          case atStart => exact ⟨0, Nat.zero_le _, rfl, P2.out, World.grownBy.refl _ _⟩
          case round =>
            obtain ⟨wy, rfl⟩ : ∃ wy : World, wy = wr := ⟨_, rfl⟩
            obtain ⟨j, hj, rfl, hN2, hgy⟩ := hrel
            have HN2 := Lib.hid hN2
            have HGY := Lib.hid hgy
            have hsy := hgy.size
            clear hN2 hgy
            by_cases hjl : j < ws.length
            · obtain ⟨o, ho⟩ := some_at hjl
              obtain ⟨_, _, _, e5, -, -, hcl⟩ := HR2.out.at
              cases e5
              obtain ⟨ob, ooff, rfl, y0', y1', y2'⟩ := hcl j o ho
              have y0 := HGY.out.cell y0' (fun e => P2.out.no_cell y0' (by cases e; rfl))
              have y1 := HGY.out.cell y1' (fun e => P2.out.no_cell y1' (by cases e; rfl))
              have y2 := HGY.out.cell y2' (fun e => P2.out.no_cell y2' (by cases e; rfl))
              have hoo := HOP.out o (writesM_mem (HWS.out ▸ List.mem_of_getElem? ho))
              obtain ⟨kl, hkl⟩ := placeKey hoo.2.1 hoo.2.2
              have HK := Lib.hid hkl
              have HF := Lib.hid (fold_at (f := stepLa) (laN ts k) ho)
              clear hcl ho hkl y0' y1' y2'
              go_wp2_with (at_mapUpdate; refine wpList_mapUpdate_T (b := w.heap.size + 1) (eK := vp) (eV := Value.bool) rfl _ _ _ rfl placeKeyed vp_inj Tryz.underlying123 (HN2.out.frame (Below.heap_alloc _ _ _ (by omega))) rfl (o.key, o.val) HK.out rfl true rfl ?_; intro w1 hM1 hg1)
              go_roundw
              case rel =>
                refine ⟨j + 1, by omega, by go_num, ?_, ?_⟩
                · rw [HF.out]; exact hM1
                · exact (HGY.out.trans (World.grownBy_alloc _ _ _)).trans hg1
              case measure => simp [intOf]; omega
            · obtain rfl : j = ws.length := by omega
              rw [List.take_length] at HN2
              go_wp2_with fail
              go_roundw
              case rel =>
                refine ⟨k + 1, by omega, by go_num, ?_, ?_, ?_, ?_⟩
                · rw [byN_succ HT.out]; exact P1.out.kept HGY.out (by simp)
                · rw [laN_succ HT.out, HWS.out]; exact HN2.out
                · omega
                · exact PB.out.grown HGY.out (by omega) (fun j hj => by cases hj; omega)
              case measure => simp [intOf]; omega
    · obtain rfl : k = ts.length := by omega
      go_wp2
      go_ret2
      exact ⟨rfl, HM1.out, HM2.out, HB.out⟩
end Go.Proofs.YtnacoplokjdglaaGreat

namespace Go.Proofs.YtnacoplokjdglaaGreat
open Go.RowKit Go.Maps

theorem foldBy_get (n : Nat) (x : Int × Int) (w : Int) : ∀ (l : List GOp) (L : ByL), getM (l.foldl (stepBy n) L) x = some w → w = n ∨ getM L x = some w := by
  intro l
  induction l with
  | nil => exact fun L h => .inr h
  | cons o l ih =>
    intro L h
    rcases ih _ h with h | h
    · exact .inl h
    · unfold stepBy at h
      split at h
      · rw [getM_put] at h
        split at h
        · simp at h; exact .inl h.symm
        · exact .inr h
      · exact .inr h

theorem byN_lt (ts : List GTxn) (x : Int × Int) (w : Int) : ∀ n, n ≤ ts.length → getM (byN ts n) x = some w → ∃ i : Nat, w = i ∧ i < n := by
  intro n
  induction n with
  | zero => intro _ h; simp [byN, getM_nil] at h
  | succ n ih =>
    intro hn h
    obtain ⟨t, ht⟩ := some_at hn
    rw [byN_succ ht] at h
    rcases foldBy_get n x w _ _ h with h | h
    · exact ⟨n, h, by omega⟩
    · obtain ⟨i, h1, h2⟩ := ih (by omega) h; exact ⟨i, h1, by omega⟩

/-- One read, in flaws.Sure. -/
def sureR (M : ByL) (ts : List GTxn) (L : List Bool) (o : GOp) : List Bool :=
  match getM M (o.key, o.val) with
  | some w => if o.val ≠ 0 ∧ (ts[w.toNat]?.map (·.state)) = some 0 then L.set w.toNat true else L
  | none => L
/-- One transaction, in flaws.Sure. -/
def sureT (M : ByL) (ts : List GTxn) (L : List Bool) (p : GTxn × Nat) : List Bool := (readsM p.1).foldl (sureR M ts) (L.set p.2 ((L[p.2]?.getD false) || p.1.state == 1))
def sureN (ts : List GTxn) (n : Nat) : List Bool := (ts.take n).zipIdx.foldl (sureT (byN ts ts.length) ts) (List.replicate ts.length false)
/-- flaws.Sure. -/
def sureM (ts : List GTxn) : List Bool := sureN ts ts.length

theorem sureR_length (M : ByL) (ts : List GTxn) (L : List Bool) (o : GOp) : (sureR M ts L o).length = L.length := by
  unfold sureR; split
  · split <;> simp
  · rfl
theorem foldR_length (M : ByL) (ts : List GTxn) : ∀ (l : List GOp) (L : List Bool), (l.foldl (sureR M ts) L).length = L.length := by
  intro l
  induction l with
  | nil => intro L; rfl
  | cons o l ih => intro L; rw [List.foldl_cons, ih, sureR_length]
theorem sureN_succ {ts : List GTxn} {n : Nat} {t : GTxn} (h : ts[n]? = some t) : sureN ts (n + 1) = sureT (byN ts ts.length) ts (sureN ts n) (t, n) := by
  unfold sureN; rw [zipIdx_take_succ h, List.foldl_append]; rfl
theorem sureN_length (ts : List GTxn) : ∀ n, n ≤ ts.length → (sureN ts n).length = ts.length := by
  intro n
  induction n with
  | zero => intro _; simp [sureN]
  | succ n ih =>
    intro hn
    obtain ⟨t, ht⟩ := some_at hn
    rw [sureN_succ ht]; unfold sureT
    rw [foldR_length, List.length_set, ih (by omega)]
theorem sureM_length (ts : List GTxn) : (sureM ts).length = ts.length := sureN_length ts _ (Nat.le_refl _)

/-- A row of bools in a block of its own. -/
def BoolB (w : World) (b : Nat) (L : List Bool) : Prop := w.heap[b]? = some (.cells (L.map Value.bool).toArray 4)
theorem BoolB.lt {w : World} {b : Nat} {L : List Bool} (h : BoolB w b L) : b < w.heap.size := (Array.getElem?_eq_some_iff.1 h).1
theorem BoolB.at {w : World} {b : Nat} {L : List Bool} (h : BoolB w b L) {j : Nat} {x : Bool} (hj : L[j]? = some x) : w.cell? ⟨b, j, none⟩ = some (.bool x) := by
  rw [cell_of h j]; simp [hj]
theorem BoolB.frame {w w' : World} {b : Nat} {L : List Bool} (h : BoolB w b L) (hw : w'.heap[b]? = w.heap[b]?) : BoolB w' b L := hw.trans h
theorem BoolB.set {w : World} {b : Nat} {L : List Bool} (h : BoolB w b L) (j : Nat) (x : Bool) : BoolB (w.setCell ⟨b, j, none⟩ (.bool x)) b (L.set j x) ∧ w.grownBy (w.setCell ⟨b, j, none⟩ (.bool x)) (some b) := by
  refine ⟨?_, rfl, rfl, rfl, by simp, fun k _ hk => heap_setCell_other w ⟨b, j, none⟩ k _ (fun e => hk (by simp [e]))⟩
  have := heap_setCell_same w b j (L.map Value.bool).toArray 4 (.bool x) h
  unfold BoolB
  rw [this]
  simp [List.map_set]
theorem BoolB.free {w : World} {b : Nat} {L : List Bool} (h : BoolB w b L) (j : Nat) : w.frozen? ⟨b, j, none⟩ = false := free_of h j

theorem Tryz.infoBool : (Tryz.prog.info? 4).map (fun i => (i.zero, i.size, i.bytes)) = some (some (.bool false), 1, 1) := by kernel_rfl
theorem run_makeBools (w : World) (n : Nat) (hn : n ≤ 1048576) : (Instr.makeSlice 34 (.int .i64 (n : Int)) (.int .i64 (n : Int))).run Tryz.prog w = .ok (.slice (some ⟨w.heap.size, 0, none⟩) n n) (w.alloc (.cells ((List.replicate n false).map Value.bool).toArray 4)) := by
  obtain ⟨i, hi, h2⟩ := Option.map_eq_some_iff.1 Tryz.infoBool
  simp only [Prod.mk.injEq] at h2
  obtain ⟨hz, hs, hb⟩ := h2
  have := run_makeSlice (P := Tryz.prog) w 34 4 i (.bool false) Tryz.underlying34 hi hz .i64 .i64 n n (by omega) (Int.le_refl _) (by rw [hs]; omega) (by rw [hb]; omega) (by omega)
  rw [this, hs]
  have e : madeCells (Value.bool false).cells ((n : Int).toNat * 1) = ((List.replicate n false).map Value.bool).toArray := by
    apply Array.toList_inj.1
    rw [show (Value.bool false).cells = #[Value.bool false] from rfl, toList_madeCells_one]
    simp
  rw [e]; simp

theorem stepR_mem {l : List GOp} {o : GOp} : ∀ (s : List (Int × Bool) × List GOp), o ∈ (l.foldl stepR s).2 → o ∈ l ∨ o ∈ s.2 := by
  induction l with
  | nil => exact fun s h => .inr h
  | cons p l ih =>
    intro s h
    rcases ih _ h with h | h
    · exact .inl (List.mem_cons_of_mem _ h)
    · unfold stepR at h
      split at h
      · exact .inr h
      · split at h
        · exact .inr h
        · rcases List.mem_append.1 h with h | h
          · exact .inr h
          · simp at h; exact .inl (by simp [h])
theorem readsM_mem {t : GTxn} {o : GOp} (h : o ∈ readsM t) : o ∈ t.ops := by
  unfold readsM at h
  split at h
  · rcases stepR_mem _ h with h | h
    · exact h
    · simp at h
  · simp at h

theorem start_bools (w : World) (ts : List GTxn) : BoolB (w.alloc (.cells (Array.replicate ts.length (Value.bool false)) 4)) w.heap.size (sureN ts 0) := by
  unfold BoolB
  rw [alloc_at]
  simp [sureN]

set_option maxRecDepth 100000 in
set_option maxHeartbeats 2000000 in
theorem sure_call (v : Value) (ts : List GTxn) (w : World) (hv : RdTxns w v ts) (hok : OkTxns ts) :
    Calls Tryz.prog 65 #[v] w fun e w' => ∃ b, e = .returned (.slice (some ⟨b, 0, none⟩) ts.length ts.length) ∧ w.heap.size ≤ b ∧ BoolB w' b (sureM ts) ∧ Below w.heap.size w w' := by
  have HV := Lib.hid hv
  have HOK := Lib.hid hok
  obtain ⟨a, len, cap, rfl, rfl, hm, -⟩ := hv.at
  have htl := hok.1
  clear hv hok
  have hmb := fun w => run_makeBools w ts.length htl
  go_enter Tryz.func65, Tryz.ntmps65
  go_wp2_with (go_at_call 60; refine (writers_call _ _ _ HV.out HOK.out).mono ?_; rintro e w1 ⟨rfl, hM1, hM2, hb1⟩)
  have hs1 := hb1.size
  have HM1 := Lib.hid hM1
  have HB1 := Lib.hid hb1
  have hB1 := hM2.lt
  clear hM1 hM2 hb1
  go_loopw [6, 7, 22] (fun _ _ i wr => ∃ k : Nat, k ≤ ts.length ∧ i = .int .i64 k ∧ BoolB wr w1.heap.size (sureN ts k) ∧ Below w1.heap.size w1 wr) (fun _ _ i _ => ts.length - (intOf i).toNat)
  case atStart => exact ⟨0, Nat.zero_le _, rfl, start_bools _ _, (Below.refl _ _).alloc (Nat.le_refl _) _⟩
  case round =>
    obtain ⟨wo, rfl⟩ : ∃ wo : World, wo = wr := ⟨_, rfl⟩
    obtain ⟨k, hk, rfl, hL, hb⟩ := hrel
    have hlo := hL.lt
    have HL := Lib.hid hL
    have HB := Lib.hid hb
    have HW := Lib.hid (HB1.out.trans (hb.mono hs1))
    clear hL hb
    by_cases hlt : k < ts.length
    · obtain ⟨t, ht⟩ := some_at hlt
      obtain ⟨_, _, _, e5, -, -, hcl⟩ := HV.out.at
      cases e5
      obtain ⟨b, off, oa, oc, rfl, hr, k0', k1', k2'⟩ := hcl k t ht
      have k0 := cell_later HW.out k0'
      have k1 := cell_later HW.out k1'
      have k2 := cell_later HW.out k2'
      obtain ⟨x, hx⟩ := some_at (l := sureN ts k) (k := k) (by rw [sureN_length ts k hk]; exact hlt)
      have x0 := HL.out.at hx
      have HT := Lib.hid ht
      have HX := Lib.hid hx
      have HR := Lib.hid hr
      have HC := Lib.hid hcl
      obtain ⟨hok1, hok2⟩ := HOK.out.2 t (List.mem_of_getElem? ht)
      have HOP := Lib.hid hok1
      have hfz : ∀ o, (wo.alloc o).frozen? ⟨w1.heap.size, k, none⟩ = false := fun o => (HL.out.frame (Below.heap_alloc _ o _ hlo)).free k
      clear hcl ht hr hok1 k0' k1' k2' hx
      go_upto_region 6 with fail
      go_cut [] (fun wx => BoolB wx w1.heap.size ((sureN ts k).set k (x || t.state == 1)) ∧ wo.heap.size < wx.heap.size ∧ wx.heap[wo.heap.size]? = some (.cells #[vi t.client, vi t.state, .slice oa t.ops.length oc] 49) ∧ Below w1.heap.size w1 wx)
      case first =>
        cases x
        · go_wp2_with fail
          go_meet
          have hset := HL.out.set k (t.state == 1)
          refine ⟨?_, ?_, ?_, ?_⟩
          · exact BoolB.frame (by simpa using hset.1) (Below.heap_alloc _ _ _ (by simpa using hlo))
          · simp
          · have := alloc_at (wo.setCell ⟨w1.heap.size, k, none⟩ (.bool (t.state == 1))) (.cells #[vi t.client, vi t.state, .slice oa t.ops.length oc] 49)
            simpa using this
          · exact (HB.out.setCell (Nat.le_refl _) _).alloc (by simp; omega) _
        · go_wp2_with fail
          go_meet
          have hset := HL.out.set k true
          refine ⟨?_, ?_, ?_, ?_⟩
          · exact BoolB.frame (by simpa using hset.1) (Below.heap_alloc _ _ _ (by simpa using hlo))
          · simp
          · have := alloc_at (wo.setCell ⟨w1.heap.size, k, none⟩ (.bool true)) (.cells #[vi t.client, vi t.state, .slice oa t.ops.length oc] 49)
            simpa using this
          · exact (HB.out.setCell (Nat.le_refl _) _).alloc (by simp; omega) _
      case rest =>
        obtain ⟨hL2, hsz, hbx, hb2⟩ := hcut
        have x0 : wc.cell? ⟨wo.heap.size, 0, none⟩ = some (vi t.client) := cell_of hbx 0
        have x1 : wc.cell? ⟨wo.heap.size, 1, none⟩ = some (vi t.state) := cell_of hbx 1
        have x2 : wc.cell? ⟨wo.heap.size, 2, none⟩ = some (.slice oa t.ops.length oc) := cell_of hbx 2
        have HL2 := Lib.hid hL2
        have HB2 := Lib.hid hb2
        have HW2 := Lib.hid (HB1.out.trans (hb2.mono hs1))
        have hl2 := hL2.lt
        clear hL2 hb2 hbx k0 k1 k2
        go_wp2_with (go_at_call 61; refine (reads_call t.client t.state _ t.ops _ (HR.out.later HW2.out) HOP.out hok2).mono ?_; rintro e w2 ⟨v2, rfl, ho2, hb2⟩; have hr2 := ho2.rd; obtain ⟨a2, len2, cap2, rfl, rfl, hm2, -⟩ := hr2.at)
        have hs2 := hb2.size
        have hws : (readsM ⟨t.client, t.state, t.ops⟩) = readsM t := rfl
        rw [hws] at ho2 hm2
        have HO2 := Lib.hid ho2
        have HB3 := Lib.hid (HB2.out.trans (hb2.mono (by omega)))
        have HL3 := Lib.hid (HL2.out.frame (hb2.block _ (by omega)))
        have hrl : (readsM t).length ≤ 1048576 := by
          unfold readsM; split
          · exact Nat.le_trans (readsS_le _) hok2
          · simp
        clear ho2 hb2 hr2
        try rw [hws]
        generalize hrs : readsM t = rs at *
        have HRS := Lib.hid hrs
        clear hrs
        go_loopw [9, 10, 11, 42] (fun _ _ _ i wy => ∃ j : Nat, j ≤ rs.length ∧ i = .int .i64 j ∧ BoolB wy w1.heap.size ((rs.take j).foldl (sureR (byN ts ts.length) ts) ((sureN ts k).set k (x || t.state == 1))) ∧ w2.grownBy wy (some w1.heap.size)) (fun _ _ _ i _ => rs.length - (intOf i).toNat)
        case atStart => exact ⟨0, Nat.zero_le _, rfl, HL3.out, World.grownBy.refl _ _⟩
        case round =>
          obtain ⟨wy, rfl⟩ : ∃ wy : World, wy = wr := ⟨_, rfl⟩
          obtain ⟨j, hj, rfl, hLy, hgy⟩ := hrel
          have hly := hLy.lt
          have HLY := Lib.hid hLy
          have HGY := Lib.hid hgy
          have HBY := Lib.hid (HB3.out.grown hgy (by omega) (fun j hj => by cases hj; exact Nat.le_refl _))
          clear hLy hgy
          by_cases hjl : j < rs.length
          · obtain ⟨o, ho⟩ := some_at hjl
            obtain ⟨_, _, _, e5, -, -, hcl⟩ := (OwOps.rd (own_keptBelow HO2.out HGY.out hl2)).at
            cases e5
            obtain ⟨ob, ooff, rfl, y0, y1, y2⟩ := hcl j o ho
            have hoo := HOP.out o (readsM_mem (HRS.out ▸ List.mem_of_getElem? ho))
            obtain ⟨kl, hkl⟩ := placeKey hoo.2.1 hoo.2.2
            have HF := Lib.hid (fold_at (f := sureR (byN ts ts.length) ts) ((sureN ts k).set k (x || t.state == 1)) ho)
            have HMY := HM1.out.below HBY.out (by omega)
            have hlk := fun o' => (MapT.lookup placeKeyed vp_inj Tryz.underlying122 (HMY.frame (Below.heap_alloc wy o' _ (by omega))) (o.key, o.val) hkl (zeroI _)).2
            clear hcl ho hkl
            cases hg : getM (byN ts ts.length) (o.key, o.val) with
            | none =>
              have HS := Lib.hid (show ∀ L, sureR (byN ts ts.length) ts L o = L from fun L => by unfold sureR; rw [hg])
              rw [hg] at hlk
              simp only [Option.map_none, Option.getD_none, Option.isSome_none] at hlk
              clear hg
              go_wp2_with fail
              go_roundw
              case rel =>
                refine ⟨j + 1, by omega, by go_num, ?_, ?_⟩
                · rw [HF.out, HS.out]; exact HLY.out.frame (Below.heap_alloc _ _ _ hly)
                · exact HGY.out.trans (World.grownBy_alloc _ _ _)
              case measure => simp [intOf]; omega
            | some wi =>
              obtain ⟨i, rfl, hi⟩ := byN_lt ts _ _ _ (Nat.le_refl _) hg
              obtain ⟨u, hu⟩ := some_at hi
              obtain ⟨_, _, _, _, e6, _, z0', z1', _⟩ := HC.out i u hu
              cases e6
              have z1 := fun o' => cell_later ((HB1.out.trans (HBY.out.mono hs1)).alloc (by have := HBY.out.size; omega) o') z1'
              have hfz := fun o' => (HLY.out.frame (Below.heap_alloc wy o' _ hly)).free i
              obtain ⟨z, hz⟩ := some_at (l := (rs.take j).foldl (sureR (byN ts ts.length) ts) ((sureN ts k).set k (x || t.state == 1))) (k := i) (by rw [foldR_length, List.length_set, sureN_length ts k hk]; exact hi)
              have hzc := fun o' => (HLY.out.frame (Below.heap_alloc wy o' _ hly)).at hz
              rw [hg] at hlk
              simp only [Option.map_some, Option.getD_some, Option.isSome_some] at hlk
              have hi1 : (i : Int) < (ts.length : Int) := by omega
              clear z0' z1' hz
              by_cases hv0 : o.val = 0
              · have HS := Lib.hid (show ∀ L, sureR (byN ts ts.length) ts L o = L from fun L => by unfold sureR; rw [hg]; simp [hv0])
                have hv1 : (o.val == 0) = true := by simp [hv0]
                have hv2 : (o.val != 0) = false := by simp [hv0]
                clear hg hv0 hu
                go_wp2_with fail
                go_roundw
                case rel =>
                  refine ⟨j + 1, by omega, by go_num, ?_, ?_⟩
                  · rw [HF.out, HS.out]; exact HLY.out.frame (Below.heap_alloc _ _ _ hly)
                  · exact HGY.out.trans (World.grownBy_alloc _ _ _)
                case measure => simp [intOf]; omega
              · have hv1 : (o.val == 0) = false := by simp [hv0]
                have hv2 : (o.val != 0) = true := by simp [hv0]
                by_cases hs0 : u.state = 0
                · have HS := Lib.hid (show ∀ L, sureR (byN ts ts.length) ts L o = L.set i true from fun L => by unfold sureR; rw [hg]; simp [hv0, hu, hs0])
                  have hs1' : (u.state == 0) = true := by simp [hs0]
                  clear hg hv0 hu hs0
                  go_wp2_with fail
                  go_roundw
                  case rel =>
                    have hset := HLY.out.set i true
                    refine ⟨j + 1, by omega, by go_num, ?_, ?_⟩
                    · rw [HF.out, HS.out]; exact BoolB.frame hset.1 (Below.heap_alloc _ _ _ (by simpa using hly))
                    · exact (HGY.out.trans hset.2).trans (World.grownBy_alloc _ _ _)
                  case measure => simp [intOf]; omega
                · have HS := Lib.hid (show ∀ L, sureR (byN ts ts.length) ts L o = L from fun L => by unfold sureR; rw [hg]; simp [hv0, hu, hs0])
                  have hs1' : (u.state == 0) = false := by simp [hs0]
                  clear hg hv0 hu hs0
                  go_wp2_with fail
                  go_roundw
                  case rel =>
                    refine ⟨j + 1, by omega, by go_num, ?_, ?_⟩
                    · rw [HF.out, HS.out]; exact HLY.out.frame (Below.heap_alloc _ _ _ hly)
                    · exact HGY.out.trans (World.grownBy_alloc _ _ _)
                  case measure => simp [intOf]; omega
          · obtain rfl : j = rs.length := by omega
            rw [List.take_length] at HLY
            go_wp2_with fail
            go_roundw
            case rel =>
              refine ⟨k + 1, by omega, by go_num, ?_, HBY.out⟩
              rw [sureN_succ HT.out]; unfold sureT
              rw [HRS.out, HX.out]; exact HLY.out
            case measure => simp [intOf]; omega
    · obtain rfl : k = ts.length := by omega
      go_wp2
      go_ret
      exact ⟨_, rfl, hs1, HL.out, HW.out⟩
end Go.Proofs.YtnacoplokjdglaaGreat

namespace Go.Proofs.YtnacoplokjdglaaGreat
open Go.RowKit Go.Maps
/-- Does an operation write a key? -/
def hitK (key : Int) (o : GOp) : Bool := o.kind == 2 && o.key == key
def writesK (t : GTxn) (key : Int) : Bool := t.ops.any (hitK key)
def idxK (key : Int) (l : List GOp) : Int := match l.findIdx? (hitK key) with | some i => (i : Int) | none => -1

theorem idxK_any (key : Int) (l : List GOp) : decide (0 ≤ idxK key l) = l.any (hitK key) := by
  unfold idxK
  cases h : l.findIdx? (hitK key) with
  | none => 
    rw [List.findIdx?_eq_none_iff] at h
    simp only [show ¬ ((0 : Int) ≤ -1) from by decide, decide_false]
    symm; rw [List.any_eq_false]; exact fun x hx => by simp [h x hx]
  | some i => 
    have hs : (l.findIdx? (hitK key)).isSome = true := by rw [h]; rfl
    rw [List.findIdx?_isSome] at hs
    rw [hs]; simp

set_option maxRecDepth 100000 in
theorem hit_call (o : GOp) (key : Int) (kb : Nat) (w : World) (hk : w.cell? ⟨kb, 0, none⟩ = some (.int .i64 key)) :
    Calls Tryz.prog 84 #[.agg #[vi o.kind, vi o.key, vi o.val], .pointer (some ⟨kb, 0, none⟩)] w fun e w' => e = .returned (.bool (hitK key o)) ∧ Below w.heap.size w w' := by
  have hk' := fun o' => cell_later ((Below.refl w.heap.size w).alloc (Nat.le_refl _) o') hk
  by_cases h2 : o.kind = 2
  · have h2' : (o.kind == 2) = true := by simp [h2]
    have hr : hitK key o = (o.key == key) := by simp [hitK, h2]
    clear h2
    go_enter Tryz.func84, Tryz.ntmps84
    go_wp2_with fail
    go_ret
    exact ⟨by rw [hr]; rfl, (Below.refl _ _).alloc (Nat.le_refl _) _⟩
  · have h2' : (o.kind == 2) = false := by simp [h2]
    have hr : hitK key o = false := by simp [hitK, h2]
    clear h2
    go_enter Tryz.func84, Tryz.ntmps84
    go_wp2_with fail
    go_ret
    exact ⟨by rw [hr]; rfl, (Below.refl _ _).alloc (Nat.le_refl _) _⟩

set_option maxRecDepth 100000 in
theorem index_call (v : Value) (l : List GOp) (key : Int) (kb : Nat) (w : World) (hv : RdOps w v l) (hk : w.cell? ⟨kb, 0, none⟩ = some (.int .i64 key)) :
    Calls Tryz.prog 104 #[v, .func (.func 84) #[] #[.pointer (some ⟨kb, 0, none⟩)]] w fun e w' => e = .returned (.int .i64 (idxK key l)) ∧ Below w.heap.size w w' := by
  have HV := Lib.hid hv
  have HK := Lib.hid hk
  obtain ⟨a, len, cap, rfl, rfl, hm, -⟩ := hv.at
  clear hv hk
  go_enter Tryz.func104, Tryz.ntmps104
  go_wp2_with fail
  go_loopw [5, 8] (fun _ i wr => ∃ k : Nat, k ≤ l.length ∧ i = .int .i64 k ∧ (∀ j o, j < k → l[j]? = some o → hitK key o = false) ∧ Below w.heap.size w wr) (fun _ i _ => l.length - (intOf i).toNat)
  case atStart => exact ⟨0, Nat.zero_le _, rfl, fun j o hj => absurd hj (Nat.not_lt_zero _), Below.refl _ _⟩
  case round =>
    obtain ⟨k, hk, rfl, hno, hb⟩ := hrel
    have HB := Lib.hid hb
    have HN := Lib.hid hno
    clear hb hno
    by_cases hlt : k < l.length
    · obtain ⟨o, ho⟩ := some_at hlt
      obtain ⟨_, _, _, e5, -, -, hcl⟩ := HV.out.at
      cases e5
      obtain ⟨b, off, rfl, k0', k1', k2'⟩ := hcl k o ho
      have k0 := cell_later HB.out k0'
      have k1 := cell_later HB.out k1'
      have k2 := cell_later HB.out k2'
      have HO := Lib.hid ho
      clear hcl ho k0' k1' k2'
      cases hh : hitK key o with
      | true =>
        have HH := Lib.hid hh
        clear hh
        go_wp2_with (go_at_call 84; refine (hit_call o key kb _ (cell_later HB.out HK.out)).mono ?_; rintro e w1 ⟨rfl, hb1⟩; rw [HH.out])
        go_ret
        have : idxK key l = k := by
          unfold idxK
          have : l.findIdx? (hitK key) = some k := by
            rw [List.findIdx?_eq_some_iff_getElem]
            have hg := List.getElem?_eq_some_iff.1 HO.out
            refine ⟨hlt, by rw [hg.2]; exact HH.out, fun j hj => ?_⟩
            have := HN.out j l[j] hj (List.getElem?_eq_getElem _)
            simp [this]
          rw [this]
        exact ⟨by rw [this]; rfl, HB.out.trans (hb1.mono HB.out.size)⟩
      | false =>
        have HH := Lib.hid hh
        clear hh
        go_wp2_with (go_at_call 84; refine (hit_call o key kb _ (cell_later HB.out HK.out)).mono ?_; rintro e w1 ⟨rfl, hb1⟩; rw [HH.out])
        go_roundw
        case rel =>
          refine ⟨k + 1, by omega, by go_num, ?_, HB.out.trans (hb1.mono HB.out.size)⟩
          intro j o' hj ho'
          rcases Nat.lt_or_ge j k with h | h
          · exact HN.out j o' h ho'
          · obtain rfl : j = k := by omega
            rw [HO.out] at ho'; cases ho'; exact HH.out
        case measure => simp [intOf]; omega
    · obtain rfl : k = l.length := by omega
      go_wp2_with fail
      go_ret
      have : idxK key l = -1 := by
        unfold idxK
        have : l.findIdx? (hitK key) = none := by
          rw [List.findIdx?_eq_none_iff]
          intro x hx
          obtain ⟨j, hj, rfl⟩ := List.mem_iff_getElem.1 hx
          exact HN.out j l[j] hj (List.getElem?_eq_getElem _)
        rw [this]
      exact ⟨by rw [this]; rfl, HB.out⟩

set_option maxRecDepth 100000 in
theorem contains_call (v : Value) (l : List GOp) (key : Int) (kb : Nat) (w : World) (hv : RdOps w v l) (hk : w.cell? ⟨kb, 0, none⟩ = some (.int .i64 key)) :
    Calls Tryz.prog 83 #[v, .func (.func 84) #[] #[.pointer (some ⟨kb, 0, none⟩)]] w fun e w' => e = .returned (.bool (l.any (hitK key))) ∧ Below w.heap.size w w' := by
  go_enter Tryz.func83, Tryz.ntmps83
  go_wp2_with (go_at_call 104; refine (index_call v l key kb w hv hk).mono ?_; rintro e w1 ⟨rfl, hb1⟩)
  go_ret
  exact ⟨by rw [← idxK_any]; first | rfl | simp, hb1⟩

set_option maxRecDepth 100000 in
theorem writesK_call (c s : Int) (v : Value) (t : GTxn) (key : Int) (w : World) (hv : RdOps w v t.ops) :
    Calls Tryz.prog 66 #[.agg #[vi c, vi s, v], vi key] w fun e w' => e = .returned (.bool (writesK t key)) ∧ Below w.heap.size w w' := by
  have hmf : ∀ (fn : Fn) (first cap : Array Value) (w : World), (Instr.makeFunc fn first cap).run Tryz.prog w = .ok (.func fn first cap) w := fun _ _ _ _ => rfl
  have hB : Below w.heap.size w ((w.alloc (.cells #[vi c, vi s, v] 49)).alloc (.cells #[vi key] 3)) := ((Below.refl _ _).alloc (Nat.le_refl _) _).alloc (by simp) _
  have HV := Lib.hid (hv.later hB)
  have HB := Lib.hid hB
  clear hv hB
  go_enter Tryz.func66, Tryz.ntmps66
  go_wp2_with (go_at_call 83; refine (contains_call v t.ops key (w.heap.size + 1) _ HV.out (by rw [World.cell?_alloc_at _ _ _ _ (by simp)]; rfl)).mono ?_; rintro e w1 ⟨rfl, hb1⟩)
  go_ret
  exact ⟨rfl, HB.out.trans (hb1.mono (by simp; omega))⟩
end Go.Proofs.YtnacoplokjdglaaGreat
