/- (*bits.Writer).Put. -/
import Derived.Test.YtdkkpkgfiodlbaaBtPure
import Derived.Test.YtdkkpkgfiodlbaaData
import Derived.Laws.OwnMore
namespace Go.Proofs.Ytdkkpkgfiodlbaa
open Go.RowKit
namespace Bt
theorem alloc_at (w : World) (o : Obj) : (w.alloc o).heap[w.heap.size]? = some o := by show (w.heap.push o)[w.heap.size]? = some o; simp
theorem cell_of {w : World} {b : Nat} {cs : Array Value} {T : TypeId} {fz : Nat × Nat} (h : w.heap[b]? = some (.cells cs T fz)) (o : Nat) : w.cell? ⟨b, o, none⟩ = cs[o]? := by
  simp [World.cell?, h]
theorem free_of {w : World} {b : Nat} {cs : Array Value} {T : TypeId} (h : w.heap[b]? = some (.cells cs T)) (o : Nat) : w.frozen? ⟨b, o, none⟩ = false := by
  simp [World.frozen?, h]
theorem own_shape {w : World} {base e size n : Nat} {v : Value} {xs : List Value} (h : w.ownsRow base e size v n xs) : ∃ a c, v = .slice a n c := by
  rcases h.2 with ⟨hv, h0⟩ | ⟨g, cap, cur, hv, _⟩
  · exact ⟨none, 0, by rw [hv, h0]⟩
  · exact ⟨_, _, hv⟩
theorem own_some {w : World} {base e size n : Nat} {v : Value} {xs : List Value} (h : w.ownsRow base e size v n xs) (h0 : 0 < n) : ∃ g c, v = .slice (some ⟨g, 0, none⟩) n c := by
  rcases h.2 with ⟨hv, h0'⟩ | ⟨g, cap, cur, hv, _⟩
  · omega
  · exact ⟨g, cap, hv⟩
theorem own_frame {A B : World} {base e size n : Nat} {v : Value} {xs : List Value} (h : A.ownsRow base e size v n xs) (hb : ∀ g, v.ownBlock = some g → B.heap[g]? = A.heap[g]?) : B.ownsRow base e size v n xs := by
  refine ⟨h.1, ?_⟩
  rcases h.2 with h2 | ⟨g, cap, cur, hv, hg, hh, r⟩
  · exact .inl h2
  · exact .inr ⟨g, cap, cur, hv, hg, (hb g (by rw [hv]; rfl)).trans hh, r⟩
theorem cells_set {W : World} {b o : Nat} {cs : Array Value} {T : TypeId} {fz : Nat × Nat} (v : Value) (h : W.heap[b]? = some (.cells cs T fz)) : (W.setCell ⟨b, o, none⟩ v).heap[b]? = some (.cells (cs.setIfInBounds o v) T fz) := by
  simp [World.setCell, Array.getElem?_modify, h]
theorem cells_other {W : World} {b c o : Nat} {ob : Option Obj} (v : Value) (h : W.heap[b]? = ob) (hne : b ≠ c) : (W.setCell ⟨c, o, none⟩ v).heap[b]? = ob := (Below.heap_setCell _ _ _ _ hne).trans h
end Bt

abbrev u8 (n : Nat) : Value := .int .u8 (n : Int)
theorem Try.infoU8 : (Try.prog.info? 5).map (fun i => (i.zero, i.size, i.bytes)) = some (some (.int .u8 0), 1, 1) := by kernel_rfl
theorem eltU8 : Elt Try.prog 39 5 1 1 (.int .u8 0) := by
  obtain ⟨i0, hi, hz0, hz1, hz2⟩ := info_parts Try.infoU8
  exact ⟨Try.underlying39, by decide, rfl, i0, hi, hz0, hz1, hz2⟩
/-- A row of bytes that the call owns. -/
def OwU (base : Nat) (w : World) (v : Value) (bs : List Nat) : Prop := w.ownsRow base 5 1 v bs.length (bs.map u8)
/-- A writer in memory: the bits that were written. -/
def WrS (base p : Nat) (L : List Bool) (W : World) : Prop := base ≤ p ∧ ∃ v, W.heap[p]? = some (.cells #[v, vi L.length] 93) ∧ OwU base W v (btBytes L)
/-- Only a writer turns, and rows of bytes from base on. -/
structure FrW (base p : Nat) (w w' : World) : Prop where
  os : w'.os = w.os
  tape : w'.tape = w.tape
  output : w'.output = w.output
  size : w.heap.size ≤ w'.heap.size
  old : ∀ j, j < w.heap.size → j ≠ p → (j < base ∨ ∀ cs fz, w.heap[j]? ≠ some (.cells cs 5 fz)) → w'.heap[j]? = w.heap[j]?
theorem FrW.refl (base p : Nat) (w : World) : FrW base p w w := ⟨rfl, rfl, rfl, Nat.le_refl _, fun _ _ _ _ => rfl⟩
theorem FrW.trans {base p : Nat} {a b c : World} (h : FrW base p a b) (k : FrW base p b c) : FrW base p a c := by
  refine ⟨k.os.trans h.os, k.tape.trans h.tape, k.output.trans h.output, Nat.le_trans h.size k.size, fun j hj hn ho => ?_⟩
  have e := h.old j hj hn ho
  refine (k.old j (Nat.lt_of_lt_of_le hj h.size) hn ?_).trans e
  rcases ho with ho | ho
  · exact .inl ho
  · exact .inr (fun cs fz => by rw [e]; exact ho cs fz)
theorem FrW.below {base p : Nat} {a b : World} (h : Below a.heap.size a b) : FrW base p a b := ⟨h.os, h.tape, h.output, h.size, fun j hj _ _ => h.block j hj⟩
theorem FrW.toBelow {base p : Nat} {a b : World} (h : FrW base p a b) (hs : base ≤ a.heap.size) (hp : base ≤ p) : Below base a b := ⟨h.os, h.tape, h.output, h.size, fun j hj => h.old j (by omega) (by omega) (.inl hj)⟩
theorem FrW.cells {base p : Nat} {a b : World} (h : FrW base p a b) {j : Nat} {cs : Array Value} {T : TypeId} {fz : Nat × Nat} (hj : a.heap[j]? = some (.cells cs T fz)) (hn : j ≠ p) (hT : T ≠ 5) : b.heap[j]? = some (.cells cs T fz) :=
  (h.old j (Array.getElem?_eq_some_iff.1 hj).1 hn (.inr (fun cs2 fz2 e => by rw [hj] at e; cases e; exact hT rfl))).trans hj
theorem WrS.later {base p : Nat} {L : List Bool} {A B : World} (h : WrS base p L A) (hb : Below A.heap.size A B) : WrS base p L B := by
  obtain ⟨hp, v, h1, h2⟩ := h
  exact ⟨hp, v, (hb.block p (Array.getElem?_eq_some_iff.1 h1).1).trans h1, own_below h2 hb⟩
theorem WrS.lt {base p : Nat} {L : List Bool} {A : World} (h : WrS base p L A) : p < A.heap.size := by
  obtain ⟨hp, v, h1, h2⟩ := h
  exact (Array.getElem?_eq_some_iff.1 h1).1

theorem and7 (n : Nat) (h : n < 9223372036854775808) : bits .and .i64 (n : Int) 7 = ((n % 8 : Nat) : Int) := by
  have := bits_mask .i64 63 (by decide) (fun n h0 h1 => by rw [IntKind.wrap_i64]; omega) 3 (by decide) (n : Int) (by omega) (by omega)
  have h2 : bits .and .i64 (n : Int) 7 = (n : Int) % 8 := this
  rw [h2]; omega
theorem put_byte {b x m k : Nat} (hb : b < 256) (hk : k < 8) (hx : x < 18446744073709551616) : bits .or .u8 (b : Int) (bits .and .u64 ((x : Int) / 2 ^ m) 1 % 256 * 2 ^ (7 - k) % 256) = ((b ||| ((if (x / 2 ^ m % 2 == 1) then 1 else 0) * 2 ^ (7 - k)) : Nat) : Int) := by
  have e1 : (x : Int) / 2 ^ m = ((x / 2 ^ m : Nat) : Int) := by simp
  have hlt : x / 2 ^ m < 18446744073709551616 := Nat.lt_of_le_of_lt (Nat.div_le_self _ _) hx
  have e2 : bits .and .u64 ((x / 2 ^ m : Nat) : Int) 1 = ((x / 2 ^ m % 2 : Nat) : Int) := by
    have := u64_and_nat (x / 2 ^ m) 1 hlt (by decide)
    rw [nat_mask1] at this; exact this
  rw [e1, e2]
  have hp : 2 ^ (7 - k) ≤ 2 ^ 7 := Nat.pow_le_pow_right (by decide) (by omega)
  have hy : (if (x / 2 ^ m % 2 == 1) then 1 else 0) = x / 2 ^ m % 2 := by
    have : x / 2 ^ m % 2 < 2 := Nat.mod_lt _ (by decide)
    rcases (show x / 2 ^ m % 2 = 0 ∨ x / 2 ^ m % 2 = 1 by omega) with h | h <;> rw [h] <;> rfl
  rw [hy]
  have hy2 : x / 2 ^ m % 2 < 2 := Nat.mod_lt _ (by decide)
  generalize x / 2 ^ m % 2 = z at *
  have e3 : ((z : Nat) : Int) % 256 * 2 ^ (7 - k) % 256 = ((z * 2 ^ (7 - k) : Nat) : Int) := by
    have h1 : ((z : Nat) : Int) % 256 = z := by omega
    rw [h1]
    have h2 : ((z : Int) * 2 ^ (7 - k)) = ((z * 2 ^ (7 - k) : Nat) : Int) := by simp
    rw [h2]
    have h3 : z * 2 ^ (7 - k) < 256 := by
      rcases (show z = 0 ∨ z = 1 by omega) with rfl | rfl <;> omega
    omega
  rw [e3]
  refine u8_or_nat b _ hb ?_
  rcases (show z = 0 ∨ z = 1 by omega) with rfl | rfl <;> omega
/-- The writer's block stays while its row grows. -/
theorem wr_kept {A B : World} {base p n : Nat} {v : Value} {xs : List Value} {cs : Array Value} {o : Obj} (h : A.ownsRow base 5 1 v n xs) (hg : (A.alloc o).grownBy B v.ownBlock) (hp : A.heap[p]? = some (.cells cs 93)) : B.heap[p]? = some (.cells cs 93) := by
  have hlt := (Array.getElem?_eq_some_iff.1 hp).1
  rw [hg.block p (by simp; omega) (fun e => by
    rcases h.2 with ⟨hv, h0⟩ | ⟨g, cap, cur, hv, hgb, hb, r⟩
    · rw [hv] at e; cases e
    · rw [hv] at e
      have : p = g := by simpa [Value.ownBlock] using e
      subst this
      rw [hb] at hp; cases hp), Below.heap_alloc _ _ _ hlt]
  exact hp
theorem grow_frame {A B : World} {base p n : Nat} {v : Value} {xs : List Value} {o : Obj} (h : A.ownsRow base 5 1 v n xs) (hg : (A.alloc o).grownBy B v.ownBlock) : FrW base p A B := by
  have hs : A.heap.size ≤ B.heap.size := Nat.le_trans (by simp) hg.size
  refine ⟨hg.os, hg.tape, hg.output, hs, fun j hj _ ho => ?_⟩
  rw [hg.block j (by simp; omega) (fun e => by
    rcases h.2 with ⟨hv, h0⟩ | ⟨g, cap, cur, hv, hgb, hb, r⟩
    · rw [hv] at e; cases e
    · rw [hv] at e
      have : j = g := by simpa [Value.ownBlock] using e
      subst this
      rcases ho with ho | ho
      · omega
      · exact ho _ _ hb), Below.heap_alloc _ _ _ hj]
theorem FrW.setP {base p : Nat} (A : World) (o : Nat) (v : Value) : FrW base p A (A.setCell ⟨p, o, none⟩ v) :=
  ⟨rfl, rfl, rfl, by simp [World.setCell], fun j _ hj _ => Below.heap_setCell _ _ _ j hj⟩
/-- An element of a row of bytes is set. -/
theorem own_byte {b p : Nat} {w : World} {len c : Nat} {cs : List Nat} {g : Nat} (h : w.ownsRow b 5 1 (.slice (some ⟨g, 0, none⟩) len c) len (cs.map u8)) {k : Nat} (hk : k < cs.length) (z : Nat) : (w.setCell ⟨g, k, none⟩ (u8 z)).ownsRow b 5 1 (.slice (some ⟨g, 0, none⟩) len c) len ((cs.set k z).map u8) ∧ FrW b p w (w.setCell ⟨g, k, none⟩ (u8 z)) ∧ (∃ cur, w.heap[g]? = some (.cells cur 5)) ∧ w.cell? ⟨g, k, none⟩ = some (u8 (cs[k]?.getD 0)) := by
  have h1 := h.1
  rcases h.2 with ⟨hv, _⟩ | ⟨g', cap, cur, hv, hg, hh, hn, hm, hs, ht⟩
  · cases hv
  · cases hv
    have hcur : (cur.set! k (u8 z)).size = c * 1 := by simpa using hs
    refine ⟨⟨by simpa using h1, .inr ⟨g, c, cur.set! k (u8 z), rfl, hg, Bt.cells_set _ hh, hn, hm, hcur, ?_⟩⟩, ⟨rfl, rfl, rfl, by simp [World.setCell], fun j _ _ ho => Below.heap_setCell _ _ _ j (fun e => by
      subst e
      rcases ho with ho | ho
      · omega
      · exact ho _ _ hh)⟩, ⟨cur, hh⟩, ?_⟩
    · have e1 : (cur.set! k (u8 z)).toList = cur.toList.set k (u8 z) := by simp
      rw [e1, List.map_set, ← ht, List.take_set]
    · rw [Bt.cell_of hh, List.getElem?_eq_getElem hk]
      have e2 : (cur.toList.take (len * 1))[k]? = some (u8 cs[k]) := by rw [ht, List.getElem?_map, List.getElem?_eq_getElem hk]; rfl
      have hk2 : k < len * 1 := by simp at h1; omega
      rw [List.getElem?_take_of_lt hk2] at e2
      simpa using e2
def PutQ (base p : Nat) (L : List Bool) (w : World) (e : Ending) (w' : World) : Prop := e = .returned (.tuple #[]) ∧ WrS base p L w' ∧ FrW base p w w'

set_option maxRecDepth 100000 in
set_option maxHeartbeats 4000000 in
theorem put_call {base p : Nat} {L : List Bool} (x n : Nat) (w : World) (h : WrS base p L w) (hx : x < 18446744073709551616) (hn : n ≤ 64) (hL : L.length ≤ 1048576) (hb : base ≤ w.heap.size) :
    Calls Try.prog 72 #[.pointer (some ⟨p, 0, none⟩), .int .u64 x, .int .i64 n] w (PutQ base p (L ++ putL x n) w) := by
  have HW := Lib.hid h
  have hmm : IntKind.i64.wrap ((n : Int) - 1) = (n : Int) - 1 := IntWalk.i64_in _ (by omega)
  clear h
  go_enter Try.func72, Try.ntmps72
  go_wp2_with fail
  go_loopw [6] (fun v wr => ∃ k : Nat, k ≤ n ∧ ((k = 0 ∧ v = .int .i64 (-1)) ∨ ∃ m : Nat, k = m + 1 ∧ v = .int .i64 (m : Int)) ∧ Hid (∃ L', L' ++ putL x k = L ++ putL x n ∧ WrS base p L' wr ∧ FrW base p w wr)) (fun v _ => (intOf v + 1).toNat)
  case atStart =>
    refine ⟨n, Nat.le_refl _, ?_, Lib.hid ⟨L, rfl, HW.out, FrW.refl _ _ _⟩⟩
    cases n with
    | zero => exact .inl ⟨rfl, by simp <;> omega⟩
    | succ m => exact .inr ⟨m, rfl, by go_num⟩
  case round =>
    obtain ⟨wj, rfl⟩ : ∃ wj : World, wj = wr := ⟨_, rfl⟩
    obtain ⟨k, hk, hv, HJ⟩ := hrel
    obtain ⟨L', hL', hWr, hFr⟩ := HJ.out
    have hlen : L'.length + k = L.length + n := by
      have := congrArg List.length hL'
      simp [putL_length] at this; exact this
    rcases hv with ⟨rfl, rfl⟩ | ⟨m, rfl, rfl⟩
    · have HE := Lib.hid (show L' = L ++ putL x n by simpa [putL] using hL')
      clear hmm hL' HJ
      have HWr := Lib.hid hWr
      have HFr := Lib.hid hFr
      clear hWr hFr
      go_wp2_with fail
      go_end0
      exact ⟨rfl, by rw [← HE.out]; exact HWr.out, HFr.out⟩
    · have HL' := Lib.hid (show (L' ++ [x / 2 ^ m % 2 == 1]) ++ putL x m = L ++ putL x n by rw [← hL']; simp [putL])
      obtain ⟨hbp, v, hp, hrow⟩ := hWr
      have HROW := Lib.hid hrow
      have HPB := Lib.hid hp
      have HFr := Lib.hid hFr
      obtain ⟨av, cv, rfl⟩ := Bt.own_shape hrow
      rw [btBytes_length] at *
      have hlb : L'.length ≤ 1048640 := by omega
      have c0 : wj.cell? ⟨p, 0, none⟩ = some (.slice av ((L'.length + 7) / 8) cv) := by rw [Bt.cell_of hp]; rfl
      have c1 : wj.cell? ⟨p, 1, none⟩ = some (vi L'.length) := by rw [Bt.cell_of hp]; rfl
      have f0 : ∀ o, wj.frozen? ⟨p, o, none⟩ = false := fun o => Bt.free_of hp o
      have h7 : bits .and .i64 (L'.length : Int) 7 = ((L'.length % 8 : Nat) : Int) := and7 _ (by omega)
      clear hL' hrow hp hFr HJ hmm
      go_upto_if 20 with fail
      go_cut [] (fun wx => ∃ v' bs', wx.heap[p]? = some (.cells #[v', vi L'.length] 93) ∧ OwU base wx v' bs' ∧ bs' = (if L'.length % 8 = 0 then btBytes L' ++ [0] else btBytes L') ∧ FrW base p w wx)
      case first =>
        by_cases h8 : L'.length % 8 = 0
        · have hb0 : (((L'.length % 8 : Nat) : Int) == 0) = true := by simp [h8]
          have hbw := HFr.out.size
          have HP8 := Lib.hid h8
          have HLB := Lib.hid (btBytes_length L')
          have hrw : wj.ownsRow base 5 1 (.slice av ((L'.length + 7) / 8) cv) ((L'.length + 7) / 8) ((btBytes L').map u8) := by have := HROW.out; unfold OwU at this; rw [btBytes_length] at this; exact this
          have HRW := Lib.hid hrw
          have c0a : ∀ o, (wj.alloc o).cell? ⟨p, 0, none⟩ = some (.slice av ((L'.length + 7) / 8) cv) := fun o => cell_later ((Below.refl _ _).alloc (Nat.le_refl _) o) c0
          have hlt := (Array.getElem?_eq_some_iff.1 HPB.out).1
          clear h8 hrw
          go_wp2_with (refine wpList_append_src rfl (.tmp 25) (.tmp 26) 39 rfl eltU8 base ((L'.length + 7) / 8) _ (HRW.out.alloc _) rfl 1 [u8 0] (src_new (cs := #[u8 0]) rfl rfl) rfl (by intro u hu; simp at hu; subst hu; rfl) (by omega) (by omega) (by simp; omega) ?_; intro v1 w1 ho1 hg1 _; obtain ⟨g1, cp1, rfl⟩ := Bt.own_some ho1 (by omega); have HO1 := Lib.hid ho1; have HG1 := Lib.hid hg1; have hp1 : w1.heap[p]? = some (.cells #[.slice av ((L'.length + 7) / 8) cv, vi L'.length] 93) := (wr_kept HRW.out hg1 HPB.out); have q0 : w1.cell? ⟨p, 0, none⟩ = some (.slice av ((L'.length + 7) / 8) cv) := (by rw [Bt.cell_of hp1]; rfl); have q1 : w1.frozen? ⟨p, 0, none⟩ = false := Bt.free_of hp1 0; have HP1 := Lib.hid hp1; clear ho1 hg1 hp1)
          go_meet
          have hbp2 : p ≠ g1 := fun e => by
            have := HP1.out
            rcases HO1.out.2 with ⟨hv, _⟩ | ⟨g', cap, cur, hv, hg, hh, hn, hm, hs, ht⟩
            · cases hv
            · cases hv; rw [e] at this; rw [this] at hh; cases hh
          refine ⟨_, btBytes L' ++ [0], Bt.cells_set _ HP1.out, ?_, by rw [if_pos HP8.out], (HFr.out.trans (grow_frame HRW.out HG1.out)).trans (FrW.setP _ _ _)⟩
          have hx : w1.ownsRow base 5 1 (.slice (some ⟨g1, 0, none⟩) ((L'.length + 7) / 8 + 1) cp1) ((L'.length + 7) / 8 + 1) ((btBytes L' ++ [0]).map u8) := by simpa using HO1.out
          have hl : (btBytes L' ++ [0]).length = (L'.length + 7) / 8 + 1 := by simp [btBytes_length]
          show World.ownsRow _ base _ 1 _ (btBytes L' ++ [0]).length _
          rw [hl]
          exact Bt.own_frame hx (fun g hg => by
            simp only [Value.ownBlock, Option.some.injEq] at hg; subst hg
            exact Bt.cells_other _ rfl (fun e => hbp2 e.symm))
        · have hb0 : (((L'.length % 8 : Nat) : Int) == 0) = false := by simp; omega
          have HP8 := Lib.hid h8
          clear h8
          go_wp2_with fail
          go_meet
          exact ⟨_, btBytes L', HPB.out, HROW.out, by rw [if_neg HP8.out], HFr.out⟩
      case rest =>
        obtain ⟨wx, rfl⟩ : ∃ wx : World, wx = wc := ⟨_, rfl⟩
        obtain ⟨v', bs', hp', ho', rfl, hfr'⟩ := hcut
        generalize hB : (if L'.length % 8 = 0 then btBytes L' ++ [0] else btBytes L') = bs at ho'
        have hl : bs.length = L'.length / 8 + 1 := by
          rw [← hB]; split <;> simp [btBytes_length] <;> omega
        unfold OwU at ho'
        rw [hl] at ho'
        obtain ⟨g, cp, rfl⟩ := Bt.own_some ho' (by omega)
        have HSET := fun z => Lib.hid (own_byte (p := p) ho' (k := L'.length / 8) (by omega) z)
        have hbt : bs[L'.length / 8]?.getD 0 < 256 := by
          rw [← hB]
          by_cases h8 : L'.length % 8 = 0
          · rw [if_pos h8, List.getElem?_append_right (by rw [btBytes_length]; omega)]
            rw [show L'.length / 8 - (btBytes L').length = 0 by rw [btBytes_length]; omega]; decide
          · rw [if_neg h8, btBytes_at (by omega)]; exact btByte_lt _ _
        have HNB := Lib.hid (put_byte (b := bs[L'.length / 8]?.getD 0) (x := x) (m := m) (k := L'.length % 8) hbt (by omega) hx)
        have hnew : bs.set (L'.length / 8) (bs[L'.length / 8]?.getD 0 ||| ((if (x / 2 ^ m % 2 == 1) then 1 else 0) * 2 ^ (7 - L'.length % 8))) = btBytes (L' ++ [x / 2 ^ m % 2 == 1]) := by
          rw [← hB]
          by_cases h8 : L'.length % 8 = 0
          · rw [if_pos h8, btBytes_new h8, List.getElem?_append_right (by rw [btBytes_length]; omega), show L'.length / 8 - (btBytes L').length = 0 by rw [btBytes_length]; omega, h8]
            simp
          · rw [if_neg h8, btBytes_more h8, btBytes_at (by omega)]; rfl
        have HNEW := Lib.hid hnew
        clear hnew hbt
        have hc := (own_byte (p := p) ho' (k := L'.length / 8) (by omega) 0).2.2
        obtain ⟨⟨cur, hcur⟩, hg⟩ := hc
        have hc0 := Lib.hid hcur
        have d0 : wx.cell? ⟨p, 0, none⟩ = some (.slice (some ⟨g, 0, none⟩) (L'.length / 8 + 1) cp) := by rw [Bt.cell_of hp']; rfl
        have d1 : wx.cell? ⟨p, 1, none⟩ = some (vi L'.length) := by rw [Bt.cell_of hp']; rfl
        have d2 : ∀ o, wx.frozen? ⟨p, o, none⟩ = false := fun o => Bt.free_of hp' o
        have d3 : ∀ o, wx.frozen? ⟨g, o, none⟩ = false := fun o => Bt.free_of hcur o
        have HB := Lib.hid hB
        have HL2 := Lib.hid hl
        have HP2 := Lib.hid hp'
        have HF2 := Lib.hid hfr'
        clear hB hl hp' hfr' ho' hcur c0 c1 f0
        go_wp2_with fail
        go_region
        rw [HNB.out]
        generalize hz : (bs[L'.length / 8]?.getD 0 ||| ((if (x / 2 ^ m % 2 == 1) then 1 else 0) * 2 ^ (7 - L'.length % 8))) = z at *
        have HZ := Lib.hid hz
        clear hz
        obtain ⟨ho3, hf3, _, _⟩ := (HSET z).out
        have hgp : p ≠ g := fun e => by
          rcases hc0.out with hcur
          rw [e] at HP2; rw [HP2.out] at hcur; cases hcur
        have hp3 : (wx.setCell ⟨g, L'.length / 8, none⟩ (u8 z)).heap[p]? = some (.cells #[.slice (some ⟨g, 0, none⟩) (L'.length / 8 + 1) cp, vi L'.length] 93) := Bt.cells_other _ HP2.out hgp
        generalize hwy : wx.setCell ⟨g, L'.length / 8, none⟩ (u8 z) = wy at *
        have e1 : wy.cell? ⟨p, 1, none⟩ = some (vi L'.length) := by rw [Bt.cell_of hp3]; rfl
        have e2 : wy.frozen? ⟨p, 1, none⟩ = false := Bt.free_of hp3 1
        have HO3 := Lib.hid ho3
        have HF3 := Lib.hid hf3
        have HP3 := Lib.hid hp3
        have hw1 : IntKind.i64.wrap ((L'.length : Int) + 1) = (L'.length : Int) + 1 := IntWalk.i64_in _ (by omega)
        clear ho3 hf3 hp3 hwy HSET d0 d1 d2 d3
        go_wp2_with fail
        refine ⟨⟨m, by omega, ?_, ?_⟩, by simp only [intOf]; omega⟩
        · cases m with
          | zero => exact .inl ⟨rfl, rfl⟩
          | succ q => exact .inr ⟨q, rfl, by go_num⟩
        · have hgl : ∀ j, (Value.slice (some ⟨g, 0, none⟩) (L'.length / 8 + 1) cp).ownBlock = some j → (wy.setCell ⟨p, 1, none⟩ (.int .i64 ((L'.length : Int) + 1))).drew.heap[j]? = wy.heap[j]? := fun j hj => by
            simp only [Value.ownBlock, Option.some.injEq] at hj; subst hj
            exact Bt.cells_other _ rfl (fun e => hgp e.symm)
          have hz2 : bs.set (L'.length / 8) z = btBytes (L' ++ [x / 2 ^ m % 2 == 1]) := HNEW.out
          have hl2 : (btBytes (L' ++ [x / 2 ^ m % 2 == 1])).length = L'.length / 8 + 1 := by rw [btBytes_length]; simp; omega
          have hp4 : (wy.setCell ⟨p, 1, none⟩ (.int .i64 ((L'.length : Int) + 1))).drew.heap[p]? = some (.cells #[.slice (some ⟨g, 0, none⟩) (L'.length / 8 + 1) cp, vi (L' ++ [x / 2 ^ m % 2 == 1]).length] 93) := by
            have h1 : (wy.setCell ⟨p, 1, none⟩ (.int .i64 ((L'.length : Int) + 1))).heap[p]? = _ := Bt.cells_set _ HP3.out
            refine (show _ = _ from h1).trans ?_
            simp
          have hf4 : FrW base p wy (wy.setCell ⟨p, 1, none⟩ (.int .i64 ((L'.length : Int) + 1))).drew := ⟨rfl, rfl, rfl, by simp [World.setCell], fun j _ hj _ => Below.heap_setCell wy ⟨p, 1, none⟩ _ j hj⟩
          refine Lib.hid ⟨L' ++ [x / 2 ^ m % 2 == 1], HL'.out, ⟨hbp, _, hp4, ?_⟩, (HF2.out.trans HF3.out).trans hf4⟩
          have := Bt.own_frame HO3.out hgl
          rw [hz2] at this
          show World.ownsRow _ base _ 1 _ (btBytes _).length _
          rw [hl2]; exact this
end Go.Proofs.Ytdkkpkgfiodlbaa