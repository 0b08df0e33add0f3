import Derived.Test.YtafboehdihokhaaBack
import Derived.Test.YtafboehdihokhaaMemIn
namespace Go.Proofs.Ytafboehdihokhaa
open Go.RowKit Go.Shelf Go.Maps
attribute [local go_sem] Oper.semAt_some

def hitB (k : Nat) (o : GOp) : Bool := o.kind == 2 && o.key == (k : Int)
/-- The last write of a key. -/
def lastW (l : List GOp) (k : Nat) : Option GOp := ((revL l).find? (fun p => hitB k p.2)).map (·.2)
def writesTo (l : List GOp) (n : Nat) : List GOp := (List.range n).filterMap (lastW l)
/-- hist.Writes. -/
def writesM (l : List GOp) : List GOp := writesTo l 16

theorem writesTo_succ (l : List GOp) (n : Nat) : writesTo l (n + 1) = writesTo l n ++ (lastW l n).toList := by
  unfold writesTo
  rw [List.range_succ, List.filterMap_append]
  cases h : lastW l n <;> simp [h]

theorem writesTo_le (l : List GOp) (n : Nat) : (writesTo l n).length ≤ n := by
  unfold writesTo; refine Nat.le_trans (List.length_filterMap_le _ _) ?_; simp

/-- What a function's marks are at its end. -/
def markL (Ds : List Nat) : List Deferred := Ds.map fun D => { target := .collected D, args := #[] }

theorem leaves_marks {P : Program} {F : Fence} {n : Nat} {fn : Func} {tmps : Array Value} {R : Ending → World → Prop} : ∀ (Ds : List Nat) (w : World), (∀ D ∈ Ds, w.heap[D]? = some (.deferred (some []))) → Ds.Nodup →
    (∀ w' : World, w'.os = w.os → w'.tape = w.tape → w'.output = w.output → w'.heap.size = w.heap.size → (∀ k, k ∉ Ds → w'.heap[k]? = w.heap[k]?) → LeavesIn F n P fn tmps R [] .returning w') → LeavesInM F n P fn tmps R (markL Ds) .returning w
  | [], w, _, _, h => h w rfl rfl rfl rfl (fun _ _ => rfl)
  | D :: Ds, w, hD, hn, h => by
    refine ⟨by simp, .inl ⟨D, w.putObj D (.deferred none), rfl, run_takeDeferred (hD D (by simp)), ?_⟩⟩
    have hnd := List.nodup_cons.1 hn
    have hput : ∀ k, k ≠ D → (w.putObj D (.deferred none)).heap[k]? = w.heap[k]? := fun k hk => by
      unfold World.putObj; simp only [Array.getElem?_setIfInBounds]; rw [if_neg (fun e => hk e.symm)]
    refine leaves_marks Ds _ (fun D' h' => by rw [hput D' (fun e => hnd.1 (e ▸ h'))]; exact hD D' (by simp [h'])) hnd.2 (fun w' h1 h2 h3 h4 h5 => h w' (h1.trans rfl) (h2.trans rfl) (h3.trans rfl) (by rw [h4]; simp [World.putObj]) (fun k hk => by
      rw [h5 k (fun e => hk (by simp [e])), hput k (fun e => hk (by simp [e]))]))

/-- What Writes keeps of memory: its boxed argument, its boxed answer so far, its marks. -/
structure StW (w : World) (c s : Int) (v : Value) (Ds : List Nat) (acc : List GOp) (W : World) : Prop where
  arg : W.heap[w.heap.size]? = some (.cells #[vi c, vi s, v] 62)
  out : ∃ vo, W.heap[w.heap.size + 1]? = some (.cells #[vo] 60) ∧ W.ownsRow (w.heap.size + 2) 64 3 vo acc.length (acc.flatMap opV)
  marks : ∀ D ∈ Ds, w.heap.size + 2 ≤ D ∧ W.heap[D]? = some (.deferred (some []))
  size : w.heap.size + 2 ≤ W.heap.size
  below : Below w.heap.size w W

theorem cell_of {w : World} {b : Nat} {cs : Array Value} {T : TypeId} {fz : Nat × Nat} (h : w.heap[b]? = some (.cells cs T fz)) (o : Nat) : w.cell? ⟨b, o, none⟩ = cs[o]? := by
  simp [World.cell?, h]
theorem free_of {w : World} {b : Nat} {cs : Array Value} {T : TypeId} (h : w.heap[b]? = some (.cells cs T)) (o : Nat) : w.frozen? ⟨b, o, none⟩ = false := by
  simp [World.frozen?, h]

/-- Cells stay where a block that is no cells turns. -/
theorem keep_cells {A B : World} {row : Option Nat} {b : Nat} {cs : Array Value} {T : TypeId} {fz : Nat × Nat} (h : A.heap[b]? = some (.cells cs T fz)) (hg : A.grownBy B row) (hr : ∀ r, row = some r → ∃ o : Obj, A.heap[r]? = some o ∧ o.isCells = false) : B.heap[b]? = some (.cells cs T fz) := by
  rw [hg.block b (Array.getElem?_eq_some_iff.1 h).1 (fun e => by
    obtain ⟨o, ho, hc⟩ := hr b e.symm
    rw [h] at ho; cases ho; cases hc)]
  exact h

theorem stW_own {w : World} {c s : Int} {v : Value} {Ds : List Nat} {acc : List GOp} {base : Nat} (hDs : ∀ D ∈ Ds, D < base) (hb : w.heap.size ≤ base) {A B : World} {row : Option Nat} (h : StW w c s v Ds acc A) (hg : A.grownBy B row)
    (hr : ∀ r, row = some r → base ≤ r ∧ ∃ o : Obj, A.heap[r]? = some o ∧ o.isCells = false) : StW w c s v Ds acc B := by
  have hr' : ∀ r, row = some r → ∃ o : Obj, A.heap[r]? = some o ∧ o.isCells = false := fun r e => (hr r e).2
  obtain ⟨vo, ho, hrow⟩ := h.out
  refine ⟨keep_cells h.arg hg hr', ⟨vo, keep_cells ho hg hr', ?_⟩, fun D hD => ⟨(h.marks D hD).1, ?_⟩, Nat.le_trans h.size hg.size, h.below.trans ⟨hg.os, hg.tape, hg.output, hg.size, fun k hk => ?_⟩⟩
  · refine ⟨hrow.1, ?_⟩
    rcases hrow.2 with h2 | ⟨g, cp, cur, hv, hg2, hh, r⟩
    · exact .inl h2
    · exact .inr ⟨g, cp, cur, hv, hg2, keep_cells hh hg hr', r⟩
  · have hD2 := (h.marks D hD).2
    rw [hg.block D (Array.getElem?_eq_some_iff.1 hD2).1 (fun e => by have := (hr D e.symm).1; have := hDs D hD; omega)]
    exact hD2
  · exact hg.block k (Nat.lt_of_lt_of_le hk h.below.size) (fun e => by have := (hr k e.symm).1; omega)

theorem StW.alloc {w W : World} {c s : Int} {v : Value} {Ds : List Nat} {acc : List GOp} (h : StW w c s v Ds acc W) (o : Obj) : StW w c s v Ds acc (W.alloc o) := by
  have hs := h.size
  obtain ⟨vo, ho, hrow⟩ := h.out
  refine ⟨by rw [Below.heap_alloc _ _ _ (by omega)]; exact h.arg, ⟨vo, by rw [Below.heap_alloc _ _ _ (by omega)]; exact ho, hrow.alloc _⟩, fun D hD => ⟨(h.marks D hD).1, ?_⟩, by simp; omega, h.below.alloc (by omega) _⟩
  have hD2 := (h.marks D hD).2
  rw [Below.heap_alloc _ _ _ (Array.getElem?_eq_some_iff.1 hD2).1]; exact hD2

theorem stW_put {w W w1 : World} {c s : Int} {v vo v' : Value} {Ds : List Nat} {acc : List GOp} {x : GOp} {o : Obj} (h : StW w c s v Ds acc W) (hrow0 : W.ownsRow (w.heap.size + 2) 64 3 vo acc.length (acc.flatMap opV)) (ho : W.heap[w.heap.size + 1]? = some (.cells #[vo] 60))
    (hg : (W.alloc o).grownBy w1 vo.ownBlock) (hrow : w1.ownsRow (w.heap.size + 2) 64 3 v' (acc.length + 1) (acc.flatMap opV ++ opV x)) : StW w c s v Ds (acc ++ [x]) (w1.setCell ⟨w.heap.size + 1, 0, none⟩ v') := by
  have hs := h.size
  have hlt : ∀ j, vo.ownBlock = some j → w.heap.size + 2 ≤ j ∧ j < W.heap.size := fun j hj => hrow0.lt j hj
  have hold : ∀ k, k < W.heap.size → some k ≠ vo.ownBlock → w1.heap[k]? = W.heap[k]? := fun k hk hne => by
    rw [hg.block k (by simp; omega) hne, Below.heap_alloc _ _ _ hk]
  refine ⟨?_, ⟨v', ?_, ?_⟩, fun D hD => ⟨(h.marks D hD).1, ?_⟩, ?_, ?_⟩
  · rw [Below.heap_setCell _ _ _ _ (by show w.heap.size ≠ w.heap.size + 1; omega), hold _ (by omega) (fun e => by have := hlt _ e.symm; omega)]
    exact h.arg
  · have : w1.heap[w.heap.size + 1]? = some (.cells #[vo] 60) := by rw [hold _ (by omega) (fun e => by have := hlt _ e.symm; omega)]; exact ho
    simp [World.setCell, Array.getElem?_modify, this]
  · rw [List.length_append, List.flatMap_append]
    have := ownsRow_setCell_below hrow (a := ⟨w.heap.size + 1, 0, none⟩) (by show w.heap.size + 1 < _; omega) v'
    simpa using this
  · have hD2 := (h.marks D hD).2
    have hD1 := (h.marks D hD).1
    have hDl := (Array.getElem?_eq_some_iff.1 hD2).1
    rw [Below.heap_setCell _ _ _ _ (by show D ≠ w.heap.size + 1; omega), hold D hDl ?_]
    · exact hD2
    · intro e
      rcases hrow0.2 with ⟨e2, _⟩ | ⟨g, cp, cur, e2, _, hh, _⟩
      · rw [e2] at e; cases e
      · rw [e2] at e; cases e
        rw [hh] at hD2; cases hD2
  · have := hg.size; simp [World.setCell] at this ⊢; omega
  · exact (((h.below.alloc (by omega) o).grown hg (by simp; omega) (fun j hj => by have := hlt j hj; omega))).setCell (by show w.heap.size ≤ w.heap.size + 1; omega) _

theorem stW_q {w W w1 : World} {c s : Int} {v vo : Value} {Ds : List Nat} {acc acc' : List GOp} {o : Obj} (h : StW w c s v Ds acc' W) (hrow0 : W.ownsRow (w.heap.size + 2) 64 3 vo acc.length (acc.flatMap opV)) (ho : W.heap[w.heap.size + 1]? = some (.cells #[vo] 60))
    (hg : (W.alloc o).grownBy w1 vo.ownBlock) : w1.heap[w.heap.size + 1]? = some (.cells #[vo] 60) := by
  have hs := h.size
  rw [hg.block _ (by simp; omega) (fun e => by have := (hrow0.lt _ e.symm).1; omega), Below.heap_alloc _ _ _ (by omega)]; exact ho

theorem hitB_no {k : Nat} {l : List (Nat × GOp)} (h : ∀ p ∈ l, hitB k p.2 = false) : l.find? (fun p => hitB k p.2) = none := by
  rw [List.find?_eq_none]; intro p hp; simp [h p hp]

theorem lastW_hit {l : List GOp} {k : Nat} {ini : List (Nat × GOp)} {last : Nat × GOp} (hp : ini ++ [last] <+: revL l) (h : ∀ p ∈ ini, hitB k p.2 = false) (hh : hitB k last.2 = true) : lastW l k = some last.2 := by
  obtain ⟨r, hr⟩ := hp
  unfold lastW
  rw [← hr, List.append_assoc, List.find?_append, hitB_no h]
  simp [hh]

set_option maxRecDepth 100000 in
set_option maxHeartbeats 4000000 in
theorem writes_call (c s : Int) (v : Value) (l : List GOp) (w : World) (hv : RdOps w v l) (_hl : l.length ≤ 1048576) :
    Calls Try.prog 27 #[.agg #[vi c, vi s, v]] w fun e w' => ∃ v', e = .returned v' ∧ OwOps w.heap.size w' v' (writesM l) ∧ Below w.heap.size w w' := by
  have HV := Lib.hid hv
  obtain ⟨a, len, cap, rfl, rfl, hm, -⟩ := hv.at
  clear hv
  refine (callsIn_wide (n := 8)).1 ?_
  refine callsIn_of_wp_marks Try.func27 rfl trivial ?_ rfl
  simp only [Try.ntmps27, List.size_toArray, List.length_cons, List.length_nil, Nat.reduceAdd, Nat.reduceSub, Array.replicate_succ, Array.replicate_zero, List.push_toArray, List.append_toArray, List.nil_append, List.cons_append]
  gi_wp2_with fail
  refine wpIn_loop (fun a' wr => ∃ (k : Nat) (Ds : List Nat) (u4 u5 u6 u8 u9 u10 u11 u12 u13 u14 u15 u16 u17 u18 u19 u20 u21 u22 u23 u24 u25 u26 u27 u28 u29 : Value), k ≤ 16 ∧ Ds.Nodup ∧ StW w c s (.slice a l.length cap) Ds (writesTo l k) wr ∧ a' = { tmps := #[.agg #[vi c, vi s, .slice a l.length cap], .pointer (some ⟨w.heap.size, 0, none⟩), .slice none 0 0, .pointer (some ⟨w.heap.size + 1, 0, none⟩), u4, u5, u6, .int .i64 (k : Int), u8, u9, u10, u11, u12, u13, u14, u15, u16, u17, u18, u19, u20, u21, u22, u23, u24, u25, u26, u27, u28, u29], defers := markL Ds }) (fun a' _ => (16 - intOf (a'.tmps.getD 7 undef)).toNat) ?start ?round
  case start =>
    refine ⟨0, [], undef, undef, undef, undef, undef, undef, undef, undef, undef, undef, undef, undef, undef, undef, undef, undef, undef, undef, undef, undef, undef, undef, undef, undef, undef, Nat.zero_le _, List.nodup_nil, ⟨?_, ⟨.slice none 0 0, ?_, World.ownsRow_nil _ _ _ _⟩, fun D hD => by simp at hD, by simp, ((Below.refl _ _).alloc (Nat.le_refl _) _).alloc (by simp) _⟩, rfl⟩
    · rw [Below.heap_alloc _ _ _ (by simp)]; exact World.alloc_heap_new w _
    · have := World.alloc_heap_new (w.alloc (.cells #[vi c, vi s, .slice a l.length cap] 62)) (.cells #[.slice none 0 0] 60)
      rwa [World.size_alloc] at this
  case round =>
    rintro a' wr ⟨k, Ds, u4, u5, u6, u8, u9, u10, u11, u12, u13, u14, u15, u16, u17, u18, u19, u20, u21, u22, u23, u24, u25, u26, u27, u28, u29, hk, hn, hS, rfl⟩
    have HS := Lib.hid hS
    have ca2 : wr.cell? ⟨w.heap.size, 2, none⟩ = some (.slice a l.length cap) := cell_of hS.arg 2
    have HN := Lib.hid hn
    have hsz := hS.size
    clear hS hn
    by_cases hlt : k < 16
    · have hlt' : (k : Int) < 16 := by omega
      have ca3 : ∀ o, (wr.alloc o).cell? ⟨w.heap.size, 2, none⟩ = some (.slice a l.length cap) := fun o => by rw [World.cell?_alloc_past _ _ _ (by show w.heap.size < _; omega)]; exact ca2
      clear ca2
      gi_wp2_with (refine ⟨trivial, ?_⟩; gi_at_call 47; refine (back_in Fence.wide _ trivial rfl _ _ _ _).mono ?_; rintro e w' ⟨rfl, rfl⟩)
      clear ca3
      have hDs : ∀ D ∈ Ds, D < wr.heap.size := fun D hD => (Array.getElem?_eq_some_iff.1 (HS.out.marks D hD).2).1
      have HDS := Lib.hid hDs
      clear hDs
      have hS2 : StW w c s (.slice a l.length cap) Ds (writesTo l k) ((wr.alloc (.cells #[.int .i64 (k : Int)] 3)).alloc (.cells #[.slice a l.length cap] 60)) := (HS.out.alloc _).alloc _
      have hkb : ((wr.alloc (.cells #[.int .i64 (k : Int)] 3)).alloc (.cells #[.slice a l.length cap] 60)).heap[wr.heap.size]? = some (.cells #[.int .i64 (k : Int)] 3) := by
        rw [Below.heap_alloc _ _ _ (by simp)]; exact World.alloc_heap_new wr _
      have hbb : ((wr.alloc (.cells #[.int .i64 (k : Int)] 3)).alloc (.cells #[.slice a l.length cap] 60)).heap[wr.heap.size + 1]? = some (.cells #[.slice a l.length cap] 60) := by
        have := World.alloc_heap_new (wr.alloc (.cells #[.int .i64 (k : Int)] 3)) (.cells #[.slice a l.length cap] 60)
        rwa [World.size_alloc] at this
      have hsz2 : ((wr.alloc (.cells #[.int .i64 (k : Int)] 3)).alloc (.cells #[.slice a l.length cap] 60)).heap.size = wr.heap.size + 2 := by simp
      have hcl := (HV.out.later hS2.below).at
      generalize (wr.alloc (.cells #[.int .i64 (k : Int)] 3)).alloc (.cells #[.slice a l.length cap] 60) = W0 at *
      refine wpIn_rangeFunc_ownH rfl (by omega) (gf := 57) (lb := #[.pointer (some ⟨wr.heap.size + 1, 0, none⟩)]) rfl trivial (enters_of Try.func57 (by kernel_rfl) rfl)
        (back_stops Fence.wide _ trivial rfl (by omega) (wr.heap.size + 1) w.heap.size a cap l hm W0 (by omega) (by omega) (cell_of hbb 0) ?hcells) kpb_t (kpb_b (by omega)) (Below.refl _ _) (fun _ => rfl)
        (fun pre W => (∀ p ∈ pre, hitB k p.2 = false) ∧ StW w c s (.slice a l.length cap) Ds (writesTo l k) W ∧ W.heap[wr.heap.size]? = some (.cells #[.int .i64 (k : Int)] 3))
        (fun cd pre W => cd = .exit 2 ∧ ∃ ini last, pre = ini ++ [last] ∧ (∀ p ∈ ini, hitB k p.2 = false) ∧ hitB k last.2 = true ∧ StW w c s (.slice a l.length cap) Ds (writesTo l k ++ [last.2]) W)
        (fun pre A B row hs hg hr => ⟨hs.1, stW_own (base := W0.heap.size) (fun D hD => by have := HDS.out D hD; omega) (by omega) hs.2.1 hg hr, keep_cells hs.2.2 hg (fun r e => (hr r e).2)⟩)
        (fun cd pre A B row hs hg hr => by
          obtain ⟨h1, ini, last, h2, h3, h4, h5⟩ := hs
          exact ⟨h1, ini, last, h2, h3, h4, stW_own (base := W0.heap.size) (fun D hD => by have := HDS.out D hD; omega) (by omega) h5 hg hr⟩)
        ⟨by simp, hS2, hkb⟩
        (fun x a' W => ∃ Bx, W.heap[Bx]? = some (.cells #[vi x.2.kind, vi x.2.key, vi x.2.val] 64) ∧ a' = { tmps := #[.agg #[vi c, vi s, .slice a l.length cap], .pointer (some ⟨w.heap.size, 0, none⟩), .slice none 0 0, .pointer (some ⟨w.heap.size + 1, 0, none⟩), .pointer (some ⟨wr.heap.size, 0, none⟩), u5, .pointer (some ⟨Bx, 0, none⟩), .int .i64 (k : Int), .bool true, .int .i64 (k : Int), .pointer (some ⟨w.heap.size, 2, none⟩), .slice a l.length cap, .func (.func 57) #[] #[.pointer (some ⟨wr.heap.size + 1, 0, none⟩)], .int .i64 (x.1 : Int), .agg #[vi x.2.kind, vi x.2.key, vi x.2.val], u15, u16, u17, u18, u19, u20, u21, u22, u23, u24, u25, u26, u27, u28, u29], defers := [] })
        (fun x a' u A B row hs hg hr => by
          obtain ⟨Bx, h2, h3⟩ := hs
          exact ⟨Bx, keep_cells h2 hg (fun r e => (hr r e).2), h3⟩)
        ?assign ?body ?done ?stop
      case hcells =>
        intro j x hj
        obtain ⟨_, _, _, e5, -, -, hcw⟩ := HV.out.at
        cases e5
        obtain ⟨b, off, rfl, k0, k1, k2⟩ := hcw j x hj
        have hb := World.block_lt_of_cell? w _ k0
        exact ⟨b, off, rfl, hb, cell_later hS2.below k0, cell_later hS2.below k1, cell_later hS2.below k2⟩
      case assign =>
        rintro lp pre x W K ⟨h1, h2, h3⟩ hK
        have hsW := h2.size
        have hkl := (Array.getElem?_eq_some_iff.1 h3).1
        clear hcl hbb hkb hS2
        gi_wp2
        refine hK _ _ ((KeepsOthers.alloc _ _).from _) ⟨(Below.refl _ _).alloc (by omega) _, fun v hv => ?_⟩ ⟨h1, h2.alloc _, by rw [Below.heap_alloc _ _ _ hkl]; exact h3⟩ ⟨W.heap.size, World.alloc_heap_new _ _, rfl⟩
        rw [World.cell?_alloc_past _ _ _ (World.block_lt_of_cell? _ _ hv)]; exact hv
      case body =>
        rintro lp pre x a' W hlp hrec ⟨h1, h2, h3⟩ ⟨Bx, hbx, rfl⟩ hlen
        have HH := Lib.hid h2
        have H1 := Lib.hid h1
        have x0 : W.cell? ⟨Bx, 0, none⟩ = some (vi x.2.kind) := cell_of hbx 0
        have x1 : W.cell? ⟨Bx, 1, none⟩ = some (vi x.2.key) := cell_of hbx 1
        have x2 : W.cell? ⟨Bx, 2, none⟩ = some (vi x.2.val) := cell_of hbx 2
        have kc : W.cell? ⟨wr.heap.size, 0, none⟩ = some (.int .i64 (k : Int)) := cell_of h3 0
        obtain ⟨vo, ho, hrow⟩ := h2.out
        have co : W.cell? ⟨w.heap.size + 1, 0, none⟩ = some vo := cell_of ho 0
        have HROW := Lib.hid hrow
        have HO := Lib.hid ho
        have hsW := h2.size
        have H3 := Lib.hid h3
        have hwl := writesTo_le l k
        clear h1 h2 h3 hbx hrow ho hcl hbb hkb hS2 hrec
        by_cases hkind : x.2.kind = 2
        · have hkind' : (x.2.kind == 2) = true := by simp [hkind]
          by_cases hkey : x.2.key = (k : Int)
          · have hkey' : (x.2.key == (k : Int)) = true := by simp [hkey]
            have HHIT := Lib.hid (show hitB k x.2 = true by simp [hitB, hkind, hkey])
            clear hkind hkey
            gi_wp2_with (gi_at_builtin; refine wpListIn_append_src rfl _ _ 60 rfl eltOp (w.heap.size + 2) (writesTo l k).length _ (HROW.out.alloc _) rfl 1 (opV x.2) (src_new (cs := #[vi x.2.kind, vi x.2.key, vi x.2.val]) rfl rfl) rfl (by intro u hu; simp [opV] at hu; rcases hu with rfl | rfl | rfl <;> rfl) (by omega) (by omega) (by simp; omega) ?_; intro v' w1 hown' hgrow _; obtain ⟨g', cap', rfl⟩ := ownsRow_succ hown'; have q0 := stW_q HH.out HROW.out HO.out hgrow; have q1 : w1.cell? ⟨w.heap.size + 1, 0, none⟩ = some vo := cell_of q0 0; have q2 : w1.frozen? ⟨w.heap.size + 1, 0, none⟩ = false := free_of q0 0)
            refine ⟨⟨?_, fun j o hj ho hc => ?_⟩, rfl, pre, x, rfl, H1.out, HHIT.out, stW_put HH.out HROW.out HO.out hgrow hown'⟩
            · have := hgrow.size; simp [World.setCell] at this ⊢; omega
            · rw [Below.heap_setCell _ _ _ _ (by show j ≠ w.heap.size + 1; omega), hgrow.block j (by simp; have := (Array.getElem?_eq_some_iff.1 ho).1; omega) ?_, Below.heap_alloc _ _ _ (Array.getElem?_eq_some_iff.1 ho).1]
              · exact ho
              · intro e
                rcases HROW.out.2 with ⟨e2, _⟩ | ⟨g, cp, cur, e2, _, hh, _⟩
                · rw [e2] at e; cases e
                · rw [e2] at e; cases e
                  rw [hh] at ho; cases ho; cases hc
          · have hkey' : (x.2.key == (k : Int)) = false := by simp [hkey]
            have HHIT := Lib.hid (show hitB k x.2 = false by simp [hitB, hkey])
            clear hkind hkey
            gi_wp2
            exact ⟨KeepsFrom.refl _ _, ⟨Below.refl _ _, fun _ h => h⟩, fun p hp => (List.mem_append.1 hp).elim (H1.out p) (fun e => by simp at e; subst e; exact HHIT.out), HH.out, H3.out⟩
        · have hkind' : (x.2.kind == 2) = false := by simp [hkind]
          have HHIT := Lib.hid (show hitB k x.2 = false by simp [hitB, hkind])
          clear hkind
          gi_wp2
          exact ⟨KeepsFrom.refl _ _, ⟨Below.refl _ _, fun _ h => h⟩, fun p hp => (List.mem_append.1 hp).elim (H1.out p) (fun e => by simp at e; subst e; exact HHIT.out), HH.out, H3.out⟩
      case done =>
        rintro D ys W hD rfl ⟨h1, h2, h3⟩ hK
        have H1 := Lib.hid h1
        have H2 := Lib.hid h2
        have HK := Lib.hid hK
        clear h1 h2 h3 hK hcl hbb hkb hS2
        gi_wp2
        have hW2 : writesTo l (k + 1) = writesTo l k := by rw [writesTo_succ]; unfold lastW; rw [hitB_no H1.out]; simp
        refine ⟨⟨k + 1, D :: Ds, _, _, _, _, _, _, _, _, _, _, _, _, _, _, _, _, _, _, _, _, _, _, _, _, _, by omega, ?_, ?_, by go_num⟩, ?_⟩
        · exact List.nodup_cons.2 ⟨fun hin => by have := HDS.out D hin; omega, HN.out⟩
        · rw [hW2]
          refine ⟨H2.out.arg, H2.out.out, fun D' h' => ?_, H2.out.size, H2.out.below⟩
          rcases List.mem_cons.1 h' with rfl | h'
          · exact ⟨by omega, HK.out⟩
          · exact H2.out.marks D' h'
        · simp [intOf]; omega
      case stop =>
        rintro D cd pre W hD hpre ⟨rfl, ini, last, rfl, h3, h4, h5⟩ hK
        have H3 := Lib.hid h3
        have H4 := Lib.hid h4
        have H5 := Lib.hid h5
        have HK := Lib.hid hK
        have HP := Lib.hid hpre
        clear h3 h4 h5 hK hpre hcl hbb hkb hS2
        gi_wp2
        have hW2 : writesTo l (k + 1) = writesTo l k ++ [last.2] := by rw [writesTo_succ, lastW_hit HP.out H3.out H4.out]; rfl
        refine ⟨⟨k + 1, D :: Ds, _, _, _, _, _, _, _, _, _, _, _, _, _, _, _, _, _, _, _, _, _, _, _, _, _, by omega, ?_, ?_, by go_num⟩, ?_⟩
        · exact List.nodup_cons.2 ⟨fun hin => by have := HDS.out D hin; omega, HN.out⟩
        · rw [hW2]
          refine ⟨H5.out.arg, H5.out.out, fun D' h' => ?_, H5.out.size, H5.out.below⟩
          rcases List.mem_cons.1 h' with rfl | h'
          · exact ⟨by omega, HK.out⟩
          · exact H5.out.marks D' h'
        · simp [intOf]; omega
    · have hke : k = 16 := by omega
      subst hke
      obtain ⟨vo, ho, hrow⟩ := HS.out.out
      have co : wr.cell? ⟨w.heap.size + 1, 0, none⟩ = some vo := cell_of ho 0
      have HROW := Lib.hid hrow
      clear ho hrow ca2 hsz
      gi_wp2
      refine leaves_marks Ds wr (fun D hD => (HS.out.marks D hD).2) HN.out (fun w' h1 h2 h3 h4 h5 => ?_)
      have hb : Below w.heap.size w w' := ⟨h1.trans HS.out.below.os, h2.trans HS.out.below.tape, h3.trans HS.out.below.output, by rw [h4]; exact HS.out.below.size, fun k hk => (h5 k (fun hD => by have := (HS.out.marks k hD).1; omega)).trans (HS.out.below.block k hk)⟩
      refine ⟨vo, by simp [results, Try.f27, go_sem], vo, rfl, ?_, hb⟩
      have hrow := HROW.out
      unfold OwOps writesM
      refine own_mono (b := w.heap.size + 2) ⟨hrow.1, ?_⟩ (by omega)
      rcases hrow.2 with h | ⟨g, cp, cur, hv, hg, hh, r⟩
      · exact .inl h
      · refine .inr ⟨g, cp, cur, hv, hg, ?_, r⟩
        rw [h5 g (fun hD => by have := (HS.out.marks g hD).2; rw [hh] at this; cases this)]
        exact hh
end Go.Proofs.Ytafboehdihokhaa
