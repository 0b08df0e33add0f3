/- Texts of one proof, one behind the other: BtEnd, ShP, ShCmd, BtRead, ShRead, MemIn, MvIter, MvApp, MvLay. -/
import Derived.Test.YtdkkpkgfiodlbaaJb2
import Derived.Test.YtdkkpkgfiodlbaaJb4
import Derived.Test.YtdkkpkgfiodlbaaJb1
import Derived.OwnWalkIn
import Derived.Test.YtdkkpkgfiodlbaaJb3
import Derived.RangeFuncNested
import Derived.RangeFuncBound
import Derived.RangeFuncCalls
import Derived.RangeFuncLeaves
import Derived.RangeFuncBox
import Derived.Shelf.Abstract
import Derived.Shelf.RegionOpen
import Derived.TacticsInMore
import Derived.LoopNIn
import Derived.LoopIn
import Derived.Shelf.SlGeneric
import Derived.Shelf.SlLaysNS
import Derived.Test.YtdkkpkgfiodlbaaProg
set_option linter.all false
/- (*bits.Reader).End; bits.Read. -/
namespace Go.Proofs.Ytdkkpkgfiodlbaa
open Go.RowKit

theorem last_and {b n : Nat} (hb : b < 256) (hn : n ≤ 7) : bits .and .u8 (b : Int) ((2 ^ n - 1) % 256) = ((b % 2 ^ n : Nat) : Int) := by
  have h2 : ((2 : Int) ^ n - 1) % 256 = ((2 ^ n - 1 : Nat) : Int) := by
    rcases (show n = 0 ∨ n = 1 ∨ n = 2 ∨ n = 3 ∨ n = 4 ∨ n = 5 ∨ n = 6 ∨ n = 7 by omega) with rfl | rfl | rfl | rfl | rfl | rfl | rfl | rfl <;> decide
  have hp : 2 ^ n ≤ 2 ^ 7 := Nat.pow_le_pow_right (by decide) hn
  rw [h2, u8_and_nat b _ hb (by omega), Nat.and_two_pow_sub_one_eq_mod]
set_option maxHeartbeats 4000000 in
set_option maxRecDepth 100000 in
theorem end_call {base p : Nat} {s : Rd} (w : World) (h : RdrS base p s w) :
    Calls Try.prog 53 #[.pointer (some ⟨p, 0, none⟩)] w (EndQ s w) := by
  have HW := Lib.hid h
  have c2 := h.badCell
  by_cases hb : s.bad = 0
  · have HB := Lib.hid hb
    have hls : leftS s = s.rest.length := by unfold leftS; rw [if_neg (by simp [hb])]
    obtain ⟨n, hn⟩ : ∃ n, n = s.rest.length := ⟨_, rfl⟩
    rw [← hn] at hls
    have HL := Lib.hid hls
    have HN := Lib.hid hn
    have hbb : (s.bad != 0) = false := by simp [hb]
    obtain ⟨hbp, v, bs, at', hp, ho, hby, hl, hat, hr⟩ := h
    have hle : n = 8 * bs.length - at' := by rw [hn, ← hr]; simp [bitsOf_length]
    have HLE := Lib.hid hle
    clear hls hn hb
    by_cases h7 : 7 < n
    · have h71 : decide ((7 : Int) < n) = true := decide_eq_true (by omega)
      clear hp ho hby hr hle
      go_enter Try.func53, Try.ntmps53
      go_wp2_with (go_at_call 81; refine (left_call w HW.out).mono ?_; rintro e w1 ⟨rfl, n1, rfl⟩; rw [HL.out])
      go_quiet (fail)
      go_wp2_with fail
      go_ret
      exact ⟨12, rfl, ⟨fun h => (by cases h), fun h => (by have h1 := h.2.1; have := HN.out; omega)⟩, fun _ => .inr rfl, fun h => absurd HB.out h, _, World.drewN_drewN _ _ _⟩
    · have h71 : decide ((7 : Int) < n) = false := decide_eq_false (by omega)
      by_cases h0 : n = 0
      · have h01 : decide ((0 : Int) < n) = false := decide_eq_false (by omega)
        have h02 : decide (0 < n) = false := decide_eq_false (by omega)
        have HN0 := Lib.hid h0
        clear hp ho hby hr hle h0
        go_enter Try.func53, Try.ntmps53
        go_wp2_with (go_at_call 81; refine (left_call w HW.out).mono ?_; rintro e w1 ⟨rfl, n1, rfl⟩; rw [HL.out])
        go_quiet (fail)
        go_wp2_with fail
        go_ret
        have he : s.rest = [] := List.length_eq_zero_iff.1 (by rw [← HN.out, HN0.out])
        exact ⟨0, rfl, ⟨fun _ => ⟨HB.out, by rw [he]; simp, by rw [he]; rfl⟩, fun _ => rfl⟩, fun _ => .inl rfl, fun h => absurd HB.out h, _, World.drewN_drewN _ _ _⟩
      · have h01 : decide ((0 : Int) < n) = true := decide_eq_true (by omega)
        have h02 : decide (0 < n) = true := decide_eq_true (by omega)
        rcases ho.2 with ⟨hv, h2⟩ | ⟨g, cap, cur, rfl, hgb, hg, hn2, hm, hs2, ht⟩
        · omega
        have hlen : bs.length - 1 < bs.length := by omega
        obtain ⟨b, hbe⟩ : ∃ b, bs[bs.length - 1]? = some b := ⟨_, List.getElem?_eq_getElem hlen⟩
        have hb256 : b < 256 := hby b (List.mem_of_getElem? hbe)
        have hlb := last_bits hbe hle.symm (by omega) (by omega)
        rw [hr] at hlb
        have hval : valL s.rest = b % 2 ^ n := by rw [hlb, valL_putL]
        have c0 : w.cell? ⟨p, 0, none⟩ = some (.slice (some ⟨g, 0, none⟩) bs.length cap) := by rw [Bt.cell_of hp]; rfl
        have c3 : w.cell? ⟨g, bs.length - 1, none⟩ = some (u8 b) := by
          rw [Bt.cell_of hg]
          have h3 : (bs.map u8)[bs.length - 1]? = some (u8 b) := by rw [List.getElem?_map, hbe]; rfl
          rw [← ht, List.getElem?_take_of_lt (by omega), Array.getElem?_toList] at h3; exact h3
        obtain ⟨m, hm2⟩ : ∃ m, bs.length = m + 1 := ⟨bs.length - 1, by omega⟩
        have hla := last_and hb256 (n := n) (by omega)
        obtain ⟨Y, hY⟩ : ∃ Y, Y = b % 2 ^ n := ⟨_, rfl⟩
        rw [← hY] at hla hval
        clear hY
        have H77 := Lib.hid (show n ≤ 7 by omega)
        have HV := Lib.hid hval
        rw [hm2] at c0 c3
        simp only [Nat.add_sub_cancel] at c3
        have hw1 : IntKind.i64.wrap (m : Int) = (m : Int) := IntWalk.i64_in _ (by omega)
        have hw2 : (((m + 1 : Nat) : Int) - 1) = (m : Int) := by omega
        have hi : (m : Int) < ((m + 1 : Nat) : Int) := by omega
        have hi2 : (m : Int) < (m : Int) + 1 := by omega
        clear hp ho hby hr hle h0 hg hs2 ht hbe hlb hval hm2 hat hn2
        by_cases hy : Y = 0
        · have hy1 : ((Y : Int) != 0) = false := by simp [hy]
          have HY := Lib.hid hy
          clear hy
          go_enter Try.func53, Try.ntmps53
          go_wp2_with (go_at_call 81; refine (left_call w HW.out).mono ?_; rintro e w1 ⟨rfl, n1, rfl⟩; rw [HL.out])
          go_quiet (fail)
          go_wp2_with fail
          go_ret
          exact ⟨0, rfl, ⟨fun _ => ⟨HB.out, by rw [← HN.out]; exact H77.out, by rw [HV.out, HY.out]⟩, fun _ => rfl⟩, fun _ => .inl rfl, fun h => absurd HB.out h, _, World.drewN_drewN _ _ _⟩
        · have hy1 : ((Y : Int) != 0) = true := by simp; exact hy
          have HY := Lib.hid hy
          clear hy
          go_enter Try.func53, Try.ntmps53
          go_wp2_with (go_at_call 81; refine (left_call w HW.out).mono ?_; rintro e w1 ⟨rfl, n1, rfl⟩; rw [HL.out])
          go_quiet (fail)
          go_wp2_with fail
          go_ret
          exact ⟨12, rfl, ⟨fun h => (by cases h), fun h => absurd (HV.out.symm.trans h.2.2) HY.out⟩, fun _ => .inr rfl, fun h => absurd HB.out h, _, World.drewN_drewN _ _ _⟩
  · have HB := Lib.hid hb
    have hbb : (s.bad != 0) = true := by simp [hb]
    clear h hb
    go_enter Try.func53, Try.ntmps53
    go_wp2_with fail
    go_ret
    exact ⟨s.bad, rfl, ⟨fun h => absurd h HB.out, fun h => absurd h.1 HB.out⟩, fun h => absurd h HB.out, fun _ => rfl, 0, rfl⟩

/-- The bits of what was written. -/
theorem bitsOf_btBytes (L : List Bool) : ∃ z, z ≤ 7 ∧ bitsOf (btBytes L) = L ++ List.replicate z false := by
  have hlen : (bitsOf (btBytes L)).length = 8 * ((L.length + 7) / 8) := by rw [bitsOf_length, btBytes_length]
  refine ⟨8 * ((L.length + 7) / 8) - L.length, by omega, ?_⟩
  apply List.ext_getElem?
  intro i
  by_cases hi : i < 8 * ((L.length + 7) / 8)
  · have hj : i / 8 < (L.length + 7) / 8 := by omega
    rw [bitsOf_at _ i _ (btBytes_at hj)]
    have hv : (btByte L (i / 8) / 2 ^ (7 - i % 8) % 2 == 1) = (L[i]? == some true) := by
      have h := fun k => btv_le L (8 * (i / 8) + k)
      have e0 : btv L (8 * (i / 8)) ≤ 1 := btv_le _ _
      have e1 := h 1; have e2 := h 2; have e3 := h 3; have e4 := h 4; have e5 := h 5; have e6 := h 6; have e7 := h 7
      have hb : btv L i = btByte L (i / 8) / 2 ^ (7 - i % 8) % 2 := by
        unfold btByte
        rcases (show i % 8 = 0 ∨ i % 8 = 1 ∨ i % 8 = 2 ∨ i % 8 = 3 ∨ i % 8 = 4 ∨ i % 8 = 5 ∨ i % 8 = 6 ∨ i % 8 = 7 by omega) with hk | hk | hk | hk | hk | hk | hk | hk
        · have : i = 8 * (i / 8) := by omega
          rw [hk]; rw [show btv L i = btv L (8 * (i / 8)) by rw [← this]]; simp only [Nat.reducePow, Nat.reduceSub]; omega
        · rw [hk]; rw [show btv L i = btv L (8 * (i / 8) + 1) by congr 1; omega]; simp only [Nat.reducePow, Nat.reduceSub]; omega
        · rw [hk]; rw [show btv L i = btv L (8 * (i / 8) + 2) by congr 1; omega]; simp only [Nat.reducePow, Nat.reduceSub]; omega
        · rw [hk]; rw [show btv L i = btv L (8 * (i / 8) + 3) by congr 1; omega]; simp only [Nat.reducePow, Nat.reduceSub]; omega
        · rw [hk]; rw [show btv L i = btv L (8 * (i / 8) + 4) by congr 1; omega]; simp only [Nat.reducePow, Nat.reduceSub]; omega
        · rw [hk]; rw [show btv L i = btv L (8 * (i / 8) + 5) by congr 1; omega]; simp only [Nat.reducePow, Nat.reduceSub]; omega
        · rw [hk]; rw [show btv L i = btv L (8 * (i / 8) + 6) by congr 1; omega]; simp only [Nat.reducePow, Nat.reduceSub]; omega
        · rw [hk]; rw [show btv L i = btv L (8 * (i / 8) + 7) by congr 1; omega]; simp only [Nat.reducePow, Nat.reduceSub]; omega
      rw [← hb]; unfold btv
      by_cases ht : L[i]? = some true
      · rw [if_pos ht, ht]; rfl
      · rw [if_neg ht, show (L[i]? == some true) = false by simpa using ht]; rfl
    rw [hv]
    by_cases hL : i < L.length
    · rw [List.getElem?_append_left hL, List.getElem?_eq_getElem hL]
      cases L[i] <;> rfl
    · rw [List.getElem?_append_right (by omega), List.getElem?_eq_none (by omega), List.getElem?_replicate, if_pos (by omega)]; rfl
  · rw [List.getElem?_eq_none (by omega), List.getElem?_eq_none (by simp; omega)]
end Go.Proofs.Ytdkkpkgfiodlbaa

/- Commands in bits. Plain. -/
namespace Go.Proofs.Ytdkkpkgfiodlbaa
/-- A command, in bits. -/
def cmdL (c : Cmd21) : List Bool := intL c.k ++ rdyBL c.r ++ endBL c.e
structure CmdBOk (c : Cmd21) : Prop where
  k : IntOk c.k
  r : RdyBOk c.r
  e : EndOk c.e
theorem cmd_read {s s1 s2 s3 : Rd} {a : Int} {r : Rdy} {e : EndM} (h1 : RdOK intL IntOk s s1 a) (h2 : RdOK rdyBL RdyBOk s1 s2 r) (h3 : RdOK endBL EndOk s2 s3 e) : RdOK cmdL CmdBOk s s3 ⟨a, r, e⟩ :=
  ((h1.seq h2).seq h3).map (fun z => (⟨z.1.1, z.1.2, z.2⟩ : Cmd21)) (fun c => ((c.k, c.r), c.e)) (fun c hc => ⟨⟨⟨hc.k, hc.r⟩, hc.e⟩, by simp [cmdL], rfl⟩) (fun z hz => ⟨⟨hz.1.1, hz.1.2, hz.2⟩, by simp [cmdL]⟩)
/-- The same transaction, each of its operations a write. -/
def killK (r : Rdy) : Rdy := ⟨r.txn, r.home, r.start, r.writes.map (fun o => ⟨2, o.key, o.val⟩), r.reads⟩
def killC (c : Cmd21) : Cmd21 := ⟨c.k, killK c.r, c.e⟩
theorem killK_len (r : Rdy) : (killK r).writes.length = r.writes.length := by simp [killK]
theorem killK_bits (r : Rdy) : rdyBL (killK r) = rdyBL r := by
  have : opsBL (r.writes.map (fun o => (⟨2, o.key, o.val⟩ : GOp))) = opsBL r.writes := by
    unfold opsBL; rw [List.flatMap_map]; rfl
  show intL r.txn ++ intL r.home ++ intL r.start ++ numL (r.writes.map _).length ++ opsBL (r.writes.map _) ++ numL r.reads.length ++ intsBL r.reads = _
  rw [this, List.length_map]; rfl
theorem killC_bits (c : Cmd21) : cmdL (killC c) = cmdL c := by unfold cmdL killC; rw [killK_bits]
theorem RdyI.ok {r : Rdy} (h : RdyI r) : RdyOk r := ⟨h.txn, h.home, h.start, fun o ho => (h.ws o ho).2, h.rs⟩
theorem killK_ok {r : Rdy} (h : RdyOk r) (hw : r.writes.length ≤ 1000) (hr : r.reads.length ≤ 1000) : RdyBOk (killK r) := by
  refine ⟨h.txn, h.home, h.start, ⟨by rw [killK_len]; omega, fun o ho => ?_⟩, ⟨by show r.reads.length < _; omega, h.rs⟩⟩
  obtain ⟨x, hx, rfl⟩ := List.mem_map.1 ho
  exact ⟨rfl, h.ws x hx⟩
theorem killK_at {r : Rdy} {k : Nat} {o : GOp} (h : r.writes[k]? = some o) : (killK r).writes[k]? = some ⟨2, o.key, o.val⟩ := by
  show (r.writes.map _)[k]? = _
  rw [List.getElem?_map, h]; rfl
theorem btBytes_lt (L : List Bool) : ∀ b ∈ btBytes L, b < 256 := by
  intro b hb
  obtain ⟨j, _, rfl⟩ := List.mem_map.1 hb
  exact btByte_lt _ _
theorem rdyBL_length {r : Rdy} (h : RdyOk r) (hw : r.writes.length ≤ 20) (hr : r.reads.length ≤ 20) : (rdyBL r).length ≤ 9000 := by
  have hl1 := intL_length h.txn
  have hl2 := intL_length h.home
  have hl3 := intL_length h.start
  have hl4 := numL_length r.writes.length (by omega)
  have hl5 := numL_length r.reads.length (by omega)
  have hl6 := opsBL_length r.writes h.ws
  have hl7 := intsBL_length r.reads h.rs
  simp only [rdyBL, List.length_append]; omega
end Go.Proofs.Ytdkkpkgfiodlbaa

/- (shard.Cmd).Bytes. -/
namespace Go.Proofs.Ytdkkpkgfiodlbaa
open Go.RowKit

def cmdC (c : Cmd21) (wv rv : Value) : Array Value := #[vi c.k, vi c.r.txn, vi c.r.home, vi c.r.start, wv, rv, vi c.e.txn, .bool c.e.commit, vi c.e.at_]
def cmdV (c : Cmd21) (wv rv : Value) : Value := .agg (cmdC c wv rv)
/-- A command of the law's: its numbers lie in their bounds, its lists are short. -/
structure CmdI (c : Cmd21) : Prop where
  k : IntOk c.k
  r : RdyI c.r
  e : EndI c.e
  lw : c.r.writes.length ≤ 20
  lr : c.r.reads.length ≤ 20
/-- The numbers of a command lie in their bounds. -/
structure CmdJ (c : Cmd21) : Prop where
  k : IntOk c.k
  r : RdyOk c.r
  e : EndOk c.e
theorem CmdI.endOk {c : Cmd21} (h : CmdI c) : EndOk c.e := ⟨h.e.txn, h.e.at_⟩
theorem CmdI.bok {c : Cmd21} (h : CmdI c) : CmdBOk (killC c) := ⟨h.k, killK_ok h.r.ok (by have := h.lw; omega) (by have := h.lr; omega), h.endOk⟩
theorem cmdL_length {c : Cmd21} (h : CmdI c) : (cmdL c).length ≤ 10000 := by
  have h1 := intL_length h.k
  have h2 := rdyBL_length h.r.ok h.lw h.lr
  have h3 := endBL_length h.endOk
  simp only [cmdL, List.length_append]; omega
set_option maxRecDepth 100000 in
set_option maxHeartbeats 8000000 in
theorem cmdBytes_call2 (c : Cmd21) (wv rv : Value) (w : World) (hx : RdyS w ⟨wv, rv, c.r⟩) (hi : CmdJ c) (hT : (cmdL c).length ≤ 900000) :
    Calls Try.prog 12 #[cmdV c wv rv] w (BytesQ (cmdL c) w) := by
  obtain ⟨aw, nw, cw, hwv, rfl, hmw, -⟩ := (show RdOps w wv c.r.writes from hx.ws).at
  obtain ⟨ar, nr, cr, hrv, rfl, hmr, -⟩ := (show RdInts w rv c.r.reads from hx.rs).at
  subst hwv hrv
  have HRD := Lib.hid hx
  have HI := Lib.hid hi
  have hlk := intL_length hi.k
  have hle := endBL_length hi.e
  have hln : (intL c.k).length + (rdyBL c.r).length + (endBL c.e).length ≤ 900000 := by
    have := hT
    simp only [cmdL, List.length_append] at this; omega
  have HX0 := Lib.hid (Bt.alloc_at w (.cells (cmdC c (.slice aw c.r.writes.length cw) (.slice ar c.r.reads.length cr)) 33))
  have HB0 := Lib.hid ((Below.refl w.heap.size w).alloc (Nat.le_refl _) (.cells (cmdC c (.slice aw c.r.writes.length cw) (.slice ar c.r.reads.length cr)) 33))
  clear hx hi
  unfold cmdV at *
  unfold cmdC at *
  go_enter Try.func12, Try.ntmps12
  go_upto_region 1 with fail
  generalize w.alloc (.cells #[vi c.k, vi c.r.txn, vi c.r.home, vi c.r.start, .slice aw c.r.writes.length cw, .slice ar c.r.reads.length cr, vi c.e.txn, .bool c.e.commit, vi c.e.at_] 33) = w1 at *
  have HW2 := Lib.hid (show WrS w.heap.size w1.heap.size [] (w1.alloc (.cells #[.slice none 0 0, vi 0] 93)) from ⟨HB0.out.size, .slice none 0 0, Bt.alloc_at w1 _, ⟨rfl, .inl ⟨rfl, rfl⟩⟩⟩)
  have HB2 := Lib.hid (HB0.out.alloc HB0.out.size (.cells #[.slice none 0 0, vi 0] 93))
  have HX2 := Lib.hid ((Below.heap_alloc w1 (.cells #[.slice none 0 0, vi 0] 93) w.heap.size (Array.getElem?_eq_some_iff.1 HX0.out).1).trans HX0.out)
  have hXP : w.heap.size < w1.heap.size := (Array.getElem?_eq_some_iff.1 HX0.out).1
  go_upto_region 2 with fail
  generalize w1.alloc (.cells #[.slice none 0 0, vi 0] 93) = w2 at *
  obtain ⟨X, hX⟩ : ∃ X, X = w.heap.size := ⟨_, rfl⟩
  obtain ⟨p, hp⟩ : ∃ p, p = w1.heap.size := ⟨_, rfl⟩
  rw [← hp] at HW2 hXP ⊢
  rw [← hX] at HX2 hXP ⊢
  have hnX : X ≠ p := by omega
  have HXE := Lib.hid hX
  have HPE := Lib.hid hp
  clear hX hp HX0 HB0
  have hb2 := HB2.out.size
  have c0 : w2.cell? ⟨X, 0, none⟩ = some (vi c.k) := by rw [Bt.cell_of HX2.out]; rfl
  go_upto_region 3 with (go_at_call 33; refine (int_call (L := []) c.k w2 HW2.out HI.out.k.1 HI.out.k.2 (by simp) hb2).mono ?_; rintro e3 w3 ⟨rfl, hw3, hf3⟩; have HW3 := Lib.hid (show WrS w.heap.size p (intL c.k) w3 from hw3); have HF3 := Lib.hid hf3; have hb3 := Nat.le_trans hb2 hf3.size; have HX3 := Lib.hid (hf3.cells HX2.out hnX (by decide)); clear hw3 hf3)
  have d1 : w3.cell? ⟨X, 1, none⟩ = some (vi c.r.txn) := by rw [Bt.cell_of HX3.out]; rfl
  have d2 : w3.cell? ⟨X, 2, none⟩ = some (vi c.r.home) := by rw [Bt.cell_of HX3.out]; rfl
  have d3 : w3.cell? ⟨X, 3, none⟩ = some (vi c.r.start) := by rw [Bt.cell_of HX3.out]; rfl
  have d4 : w3.cell? ⟨X, 4, none⟩ = some (.slice aw c.r.writes.length cw) := by rw [Bt.cell_of HX3.out]; rfl
  have d5 : w3.cell? ⟨X, 5, none⟩ = some (.slice ar c.r.reads.length cr) := by rw [Bt.cell_of HX3.out]; rfl
  have HB3 := Lib.hid (HB2.out.trans (HF3.out.toBelow hb2 HW2.out.1))
  clear c0
  go_upto_region 4 with (go_at_call 34; refine (rdyBits_call2 (base := w.heap.size) (p := p) (L := intL c.k) ⟨.slice aw c.r.writes.length cw, .slice ar c.r.reads.length cr, c.r⟩ w3 HW3.out hb3 (fun W hW => HRD.out.solid (Solid.below (HB3.out.trans hW))) HI.out.r (by simp only; omega)).mono ?_; rintro e4 w4 ⟨rfl, hw4, hf4⟩; have HW4 := Lib.hid hw4; have HF4 := Lib.hid hf4; have hb4 := Nat.le_trans hb3 hf4.size; have HX4 := Lib.hid (hf4.cells HX3.out hnX (by decide)); clear hw4 hf4)
  have e6 : w4.cell? ⟨X, 6, none⟩ = some (vi c.e.txn) := by rw [Bt.cell_of HX4.out]; rfl
  have e7 : w4.cell? ⟨X, 7, none⟩ = some (.bool c.e.commit) := by rw [Bt.cell_of HX4.out]; rfl
  have e8 : w4.cell? ⟨X, 8, none⟩ = some (vi c.e.at_) := by rw [Bt.cell_of HX4.out]; rfl
  have hl4 : (intL c.k ++ rdyBL c.r).length ≤ 1000000 := by simp; omega
  clear d1 d2 d3 d4 d5
  go_upto_region 5 with (go_at_call 35; refine (shEnd_call (base := w.heap.size) (p := p) (L := intL c.k ++ rdyBL c.r) c.e w4 HW4.out HI.out.e hl4 hb4).mono ?_; rintro e5 w5 ⟨rfl, hw5, hf5⟩; have HW5 := Lib.hid (show WrS w.heap.size p (cmdL c) w5 from hw5); have HF5 := Lib.hid hf5; clear hw5 hf5)
  clear e6 e7 e8
  go_wp2_with (go_at_call 36; refine (bytes_call w5 HW5.out (by simp only [cmdL, List.length_append]; omega)).mono ?_; rintro e6 w6 ⟨v6, rfl, ho6, hb6⟩; have HO6 := Lib.hid ho6; have HB6 := Lib.hid hb6; clear ho6 hb6)
  go_ret
  have hB5 : Below w.heap.size w w5 := (HB3.out.trans (HF4.out.toBelow hb3 HW2.out.1)).trans (HF5.out.toBelow hb4 HW2.out.1)
  exact ⟨_, rfl, own_mono HO6.out hB5.size, hB5.trans (HB6.out.mono hB5.size)⟩
theorem cmdBytes_call (c : Cmd21) (wv rv : Value) (w : World) (hx : RdyS w ⟨wv, rv, c.r⟩) (hi : CmdI c) :
    Calls Try.prog 12 #[cmdV c wv rv] w (BytesQ (cmdL c) w) :=
  cmdBytes_call2 c wv rv w hx ⟨hi.k, hi.r.ok, hi.endOk⟩ (by have := cmdL_length hi; omega)
end Go.Proofs.Ytdkkpkgfiodlbaa

/- bits.Read. -/
namespace Go.Proofs.Ytdkkpkgfiodlbaa
open Go.RowKit

theorem eltU8_one : ∀ (bs : List Nat), ∀ u ∈ bs.map u8, u.oneCell' = true := by
  intro bs u hu; simp at hu; obtain ⟨a, _, rfl⟩ := hu; rfl
def BReadQ (bs : List Nat) (w : World) (e : Ending) (w' : World) : Prop :=
  ∃ p, e = .returned (.pointer (some ⟨p, 0, none⟩)) ∧ RdrS w.heap.size p ⟨bitsOf bs, 0⟩ w' ∧ Below w.heap.size w w'
set_option maxRecDepth 100000 in
set_option maxHeartbeats 4000000 in
theorem readB_call {bs : List Nat} {v : Value} (w : World) (h : Src w v 1 bs.length (bs.map u8)) (hb : ∀ b ∈ bs, b < 256) (hl : bs.length ≤ 1048576) :
    Calls Try.prog 49 #[v] w (BReadQ bs w) := by
  have HS := Lib.hid h
  have HB := Lib.hid hb
  have HL := Lib.hid hl
  have hl2 : 0 + bs.length ≤ 68719476736 := by omega
  clear h hb hl
  go_enter Try.func49, Try.ntmps49
  go_wp2_with (refine wpList_append_src rfl (.const (.slice none 0 0)) (.tmp 3) 39 rfl eltU8 w.heap.size 0 [] (World.ownsRow_nil _ _ _ _) rfl bs.length (bs.map u8) HS.out rfl (eltU8_one bs) hl2 (by omega) (Nat.le_refl _) ?_; intro v1 w1 ho1 hg1 _; obtain ⟨a1, c1, rfl⟩ := Bt.own_shape ho1; have HO1 := Lib.hid ho1; have HG1 := Lib.hid hg1; clear ho1 hg1)
  go_ret
  have hbel : Below w.heap.size w w1 := below_grown HG1.out (Nat.le_refl _) (by simp [Value.ownBlock])
  have ho : OwU w.heap.size w1 (.slice a1 bs.length c1) bs := by
    have := HO1.out
    simp only [Nat.zero_add, List.nil_append] at this; exact this
  refine ⟨w1.heap.size, rfl, ⟨hbel.size, .slice a1 bs.length c1, bs, 0, ?_, ?_, HB.out, HL.out, Nat.zero_le _, rfl⟩, hbel.alloc hbel.size _⟩
  · exact Bt.alloc_at _ _
  · exact own_below ho ((Below.refl _ _).alloc (Nat.le_refl _) _)
end Go.Proofs.Ytdkkpkgfiodlbaa

/- shard.Read. -/
namespace Go.Proofs.Ytdkkpkgfiodlbaa
open Go.RowKit

def zeroC : Cmd21 := ⟨0, ⟨0, 0, 0, [], []⟩, ⟨0, false, 0⟩⟩
/-- What reading a command's bytes gives. -/
structure CmdRd (bs : List Nat) (w w' : World) (c : Cmd21) (wv rv : Value) (err : Int) : Prop where
  bel : Below w.heap.size w w'
  ws : OwOps w.heap.size w' wv c.r.writes
  rs : OwI w.heap.size w' rv c.r.reads
  yes : err = 0 → 1 ≤ c.k ∧ c.k ≤ 5 ∧ CmdBOk c ∧ ∃ z, z ≤ 7 ∧ bitsOf bs = cmdL c ++ List.replicate z false
  no : err ≠ 0 → c = zeroC
  all : ∀ c' z, CmdBOk c' → z ≤ 7 → bitsOf bs = cmdL c' ++ List.replicate z false → (1 ≤ c'.k ∧ c'.k ≤ 5 → err = 0 ∧ c = c') ∧ (¬ (1 ≤ c'.k ∧ c'.k ≤ 5) → err = 14)
def CmdRQ (bs : List Nat) (w : World) (e : Ending) (w' : World) : Prop := ∃ c wv rv err, e = .returned (.tuple #[cmdV c wv rv, vi err]) ∧ CmdRd bs w w' c wv rv err
theorem falses_end {l : List Bool} (h : l.length ≤ 7) (h0 : valL l = 0) : ∃ z, z ≤ 7 ∧ l = List.replicate z false := ⟨l.length, h, valL_zero l h0⟩

theorem gro_below {w w' : World} {B q : Nat} (h : w.grownBy w' (some q)) (hq : B ≤ q) (hB : B ≤ w.heap.size) : Below B w w' :=
  ⟨h.os, h.tape, h.output, h.size, fun j hj => h.block j (by omega) (fun e => by have := Option.some.inj e; omega)⟩
theorem own_gro {A B : World} {base e size n q : Nat} {v : Value} {xs : List Value} (h : A.ownsRow base e size v n xs) (hg : A.grownBy B (some q)) (hq : q < base) : B.ownsRow base e size v n xs := h.kept hg (own_ne h hq)
theorem setCells_below (b : Nat) (cs : List Value) (o : Nat) (w : World) {B : Nat} (hB : B ≤ b) (hw : B ≤ w.heap.size) : Below B w (w.setCells b o cs) := by
  have h := setCells_grown b cs o w
  exact ⟨h.os, h.tape, h.output, h.size, fun j hj => h.block j (by omega) (fun e => by have := Option.some.inj e; omega)⟩
/-- A whole block set anew. -/
theorem setCells_all {w : World} {b : Nat} {T : TypeId} {cur : Array Value} {cs : List Value} (h : w.heap[b]? = some (.cells cur T)) (hl : cs.length = cur.size) : (w.setCells b 0 cs).heap[b]? = some (.cells cs.toArray T) := by
  rw [setCells_block b T (0, 0) cs 0 w cur h (by omega)]
  congr 2
  simp [splice, hl]
theorem own_setAll {A : World} {b e size n Y : Nat} {v : Value} {xs : List Value} (h : A.ownsRow b e size v n xs) {cs : Array Value} {T : TypeId} (hY : A.heap[Y]? = some (.cells cs T)) (h1 : T ≠ e) (o : Nat) (us : List Value) : (A.setCells Y o us).ownsRow b e size v n xs :=
  Bt.own_frame h (fun g hg => setCells_other Y us o A g (fun e => by
    subst e
    rcases h.2 with ⟨hv, _⟩ | ⟨g', cap, cur, hv, _, hh, _⟩
    · rw [hv] at hg; cases hg
    · rw [hv] at hg; simp only [Value.ownBlock, Option.some.injEq] at hg; subst hg; rw [hY] at hh; cases hh; exact h1 rfl))
set_option maxRecDepth 100000 in
set_option maxHeartbeats 8000000 in
theorem shRead_call {bs : List Nat} {v : Value} (w : World) (h : Src w v 1 bs.length (bs.map u8)) (hb : ∀ b ∈ bs, b < 256) (hl : bs.length ≤ 1048576) :
    Calls Try.prog 23 #[v] w (CmdRQ bs w) := by
  have HSR := Lib.hid (fun o => h.below ((Below.refl w.heap.size w).alloc (Nat.le_refl _) o))
  have HB := Lib.hid hb
  have HZ0 := Lib.hid (Bt.alloc_at w (.cells #[vi 0, vi 0, vi 0, vi 0, .slice none 0 0, .slice none 0 0, vi 0, .bool false, vi 0] 33))
  have HB0 := Lib.hid ((Below.refl w.heap.size w).alloc (Nat.le_refl _) (.cells #[vi 0, vi 0, vi 0, vi 0, .slice none 0 0, .slice none 0 0, vi 0, .bool false, vi 0] 33))
  clear h hb
  go_enter Try.func23, Try.ntmps23
  go_upto_region 1 with fail
  have HSR1 := Lib.hid (HSR.out (.cells #[vi 0, vi 0, vi 0, vi 0, .slice none 0 0, .slice none 0 0, vi 0, .bool false, vi 0] 33))
  clear HSR
  generalize w.alloc (.cells #[vi 0, vi 0, vi 0, vi 0, .slice none 0 0, .slice none 0 0, vi 0, .bool false, vi 0] 33) = w1 at *
  have hX1 := (Array.getElem?_eq_some_iff.1 HZ0.out).1
  obtain ⟨X, hX⟩ : ∃ X, X = w.heap.size := ⟨_, rfl⟩
  rw [← hX] at HZ0 hX1 ⊢
  have HXE := Lib.hid hX
  clear hX
  go_upto_region 2 with (go_at_call 49; refine (readB_call (bs := bs) w1 HSR1.out HB.out hl).mono ?_; rintro e2 w2 ⟨q, rfl, hrd2, hbe2⟩; have HRD2 := Lib.hid hrd2; have HBE2 := Lib.hid hbe2; clear hrd2 hbe2)
  have hq1 := HRD2.out.1
  have hqX : X ≠ q := by omega
  have HZ2 := Lib.hid ((HBE2.out.block X hX1).trans HZ0.out)
  have HB2 := Lib.hid (HB0.out.trans (HBE2.out.mono HB0.out.size))
  have hX2 := Nat.lt_of_lt_of_le hX1 HBE2.out.size
  have hneq : some X ≠ some q := fun e => hqX (Option.some.inj e)
  clear HZ0 HB0 HBE2 HSR1
  go_wp2_with fail
  refine (intR_call w2 HRD2.out).mono ?_
  rintro e3 w3 ⟨ck, s3, rfl, hck, hr3, hs3, hg3⟩
  have HR3 := Lib.hid hr3
  have HS3 := Lib.hid hs3
  have HG3 := Lib.hid hg3
  clear hr3 hs3 hg3
  dsimp only
  go_wp2_with fail
  refine (rdyR_call w3 HS3.out).mono ?_
  rintro e4 w4 ⟨⟨yw, yr, ry⟩, s4, rfl, how, hor, hyok, hl1, hl2, hr4, hs4, hg4⟩
  obtain ⟨aY, cY, rfl⟩ := Bt.own_shape (show w4.ownsRow w3.heap.size 104 3 yw ry.writes.length (ry.writes.flatMap opV) from how)
  obtain ⟨aR, cR, rfl⟩ := Bt.own_shape (show w4.ownsRow w3.heap.size 3 1 yr ry.reads.length (ry.reads.flatMap viC) from hor)
  have HOW := Lib.hid how
  have HOR := Lib.hid hor
  have HOK := Lib.hid hyok
  have HR4 := Lib.hid hr4
  have HS4 := Lib.hid hs4
  have HG4 := Lib.hid hg4
  clear how hor hyok hl1 hl2 hr4 hs4 hg4
  unfold rdyV rdyC
  dsimp only
  go_wp2_with fail
  refine (readEnd_call w4 HS4.out).mono ?_
  rintro e5 w5 ⟨⟨etx, eco, eat⟩, s5, rfl, heok, hr5, hs5, hg5⟩
  have HR5 := Lib.hid hr5
  have HS5 := Lib.hid hs5
  have HG5 := Lib.hid hg5
  clear hr5 hs5 hg5
  unfold endV
  dsimp only
  go_upto_region 3 with fail
  have hG35 := gro_trans (gro_trans HG3.out HG4.out) HG5.out
  have hX5 := Nat.lt_of_lt_of_le hX2 hG35.size
  have HZ5 := Lib.hid ((hG35.block X hX2 hneq).trans HZ2.out)
  have HB5 := Lib.hid (HB2.out.trans (gro_below hG35 (by have := HXE.out; omega) HB2.out.size))
  have hq3 : q < w3.heap.size := Nat.lt_of_lt_of_le HRD2.out.lt HG3.out.size
  have HRC := Lib.hid (cmd_read HR3.out HR4.out HR5.out)
  have HOW5 := Lib.hid (show OwOps w3.heap.size w5 (.slice aY ry.writes.length cY) ry.writes from own_gro HOW.out HG5.out hq3)
  have HOR5 := Lib.hid (show OwI w3.heap.size w5 (.slice aR ry.reads.length cR) ry.reads from own_gro HOR.out HG5.out hq3)
  have hw3 : w.heap.size ≤ w3.heap.size := Nat.le_trans HB2.out.size HG3.out.size
  have hw5 : w.heap.size ≤ w5.heap.size := HB5.out.size
  have HS6 := Lib.hid (HS5.out.later ((Below.refl w5.heap.size w5).alloc (Nat.le_refl _) (.cells #[vi ck, vi ry.txn, vi ry.home, vi ry.start, .slice aY ry.writes.length cY, .slice aR ry.reads.length cR, vi etx, .bool eco, vi eat] 33)))
  have HZ6 := Lib.hid ((Below.heap_alloc w5 (.cells #[vi ck, vi ry.txn, vi ry.home, vi ry.start, .slice aY ry.writes.length cY, .slice aR ry.reads.length cR, vi etx, .bool eco, vi eat] 33) X hX5).trans HZ5.out)
  have HY6 := Lib.hid (Bt.alloc_at w5 (.cells #[vi ck, vi ry.txn, vi ry.home, vi ry.start, .slice aY ry.writes.length cY, .slice aR ry.reads.length cR, vi etx, .bool eco, vi eat] 33))
  have HB6 := Lib.hid (HB5.out.alloc hw5 (.cells #[vi ck, vi ry.txn, vi ry.home, vi ry.start, .slice aY ry.writes.length cY, .slice aR ry.reads.length cR, vi etx, .bool eco, vi eat] 33))
  have HOW6 := Lib.hid (own_below HOW5.out ((Below.refl w5.heap.size w5).alloc (Nat.le_refl _) (.cells #[vi ck, vi ry.txn, vi ry.home, vi ry.start, .slice aY ry.writes.length cY, .slice aR ry.reads.length cR, vi etx, .bool eco, vi eat] 33)))
  have HOR6 := Lib.hid (own_below HOR5.out ((Below.refl w5.heap.size w5).alloc (Nat.le_refl _) (.cells #[vi ck, vi ry.txn, vi ry.home, vi ry.start, .slice aY ry.writes.length cY, .slice aR ry.reads.length cR, vi etx, .bool eco, vi eat] 33)))
  clear HR3 HR4 HR5 HS3 HS4 HS5 HG3 HG4 HG5 HOW HOR HZ2 HZ5 HB5 HB2 HOW5 HOR5 hG35 HRD2
  generalize w5.alloc (.cells #[vi ck, vi ry.txn, vi ry.home, vi ry.start, .slice aY ry.writes.length cY, .slice aR ry.reads.length cR, vi etx, .bool eco, vi eat] 33) = w6 at *
  obtain ⟨Y, hY⟩ : ∃ Y, Y = w5.heap.size := ⟨_, rfl⟩
  rw [← hY] at HY6 ⊢
  have HYE := Lib.hid hY
  clear hY
  go_upto_region 4 with (go_at_call 53; refine (end_call w6 HS6.out).mono ?_; rintro e7 w7 ⟨x, rfl, hx1, hx2, hx3, n7, rfl⟩)
  have HX1 := Lib.hid hx1
  clear hx1 hx2 hx3
  have HZ7 := Lib.hid (show (w6.drewN n7).heap[X]? = _ from HZ6.out)
  have HY7 := Lib.hid (show (w6.drewN n7).heap[Y]? = _ from HY6.out)
  have HB7 := Lib.hid (show Below w.heap.size w (w6.drewN n7) from ⟨HB6.out.os, HB6.out.tape, HB6.out.output, HB6.out.size, HB6.out.block⟩)
  have HOW7 := Lib.hid (show OwOps w3.heap.size (w6.drewN n7) _ _ from HOW6.out)
  have HOR7 := Lib.hid (show OwI w3.heap.size (w6.drewN n7) _ _ from HOR6.out)
  have HALL := Lib.hid (show ∀ c' z, CmdBOk c' → z ≤ 7 → bitsOf bs = cmdL c' ++ List.replicate z false → (⟨ck, ry, ⟨etx, eco, eat⟩⟩ : Cmd21) = c' ∧ x = 0 from fun c' z h1 h2 h3 => by
    obtain ⟨a, b, d⟩ := HRC.out.1 rfl c' _ h1 h3
    exact ⟨a, HX1.out.2 ⟨d, by rw [b]; simpa using h2, by rw [b]; exact valL_falses z⟩⟩)
  clear HZ6 HY6 HB6 HOW6 HOR6 HS6
  generalize w6.drewN n7 = w7 at *
  have hXw : w.heap.size ≤ X := by rw [HXE.out]; exact Nat.le_refl _
  have hb7 := HB7.out.size
  have xf : ∀ o, w7.frozen? ⟨X, o, none⟩ = false := fun o => Bt.free_of HZ7.out o
  have x0 : w7.cell? ⟨X, 0, none⟩ = some (vi 0) := by rw [Bt.cell_of HZ7.out]; rfl
  have x1 : w7.cell? ⟨X, 1, none⟩ = some (vi 0) := by rw [Bt.cell_of HZ7.out]; rfl
  have x2 : w7.cell? ⟨X, 2, none⟩ = some (vi 0) := by rw [Bt.cell_of HZ7.out]; rfl
  have x3 : w7.cell? ⟨X, 3, none⟩ = some (vi 0) := by rw [Bt.cell_of HZ7.out]; rfl
  have x4 : w7.cell? ⟨X, 4, none⟩ = some (.slice none 0 0) := by rw [Bt.cell_of HZ7.out]; rfl
  have x5 : w7.cell? ⟨X, 5, none⟩ = some (.slice none 0 0) := by rw [Bt.cell_of HZ7.out]; rfl
  have x6 : w7.cell? ⟨X, 6, none⟩ = some (vi 0) := by rw [Bt.cell_of HZ7.out]; rfl
  have x7 : w7.cell? ⟨X, 7, none⟩ = some (.bool false) := by rw [Bt.cell_of HZ7.out]; rfl
  have x8 : w7.cell? ⟨X, 8, none⟩ = some (vi 0) := by rw [Bt.cell_of HZ7.out]; rfl
  have HZERO := Lib.hid (show ∀ err : Int, err ≠ 0 → (∀ c' z, CmdBOk c' → z ≤ 7 → bitsOf bs = cmdL c' ++ List.replicate z false → ¬ (1 ≤ c'.k ∧ c'.k ≤ 5) ∧ err = 14) → CmdRd bs w (w7.setCells X 0 [vi 0, vi 0, vi 0, vi 0, .slice none 0 0, .slice none 0 0, vi 0, .bool false, vi 0]) zeroC (.slice none 0 0) (.slice none 0 0) err from fun err h0 hA =>
    ⟨HB7.out.trans (setCells_below X _ 0 w7 hXw hb7), World.ownsRow_nil _ _ _ _, World.ownsRow_nil _ _ _ _, fun h => absurd h h0, fun _ => rfl, fun c' z h1 h2 h3 => ⟨fun hk => absurd hk (hA c' z h1 h2 h3).1, fun _ => (hA c' z h1 h2 h3).2⟩⟩)
  have HZS := Lib.hid (setCells_all (cs := [vi 0, vi 0, vi 0, vi 0, .slice none 0 0, .slice none 0 0, vi 0, .bool false, vi 0]) HZ7.out rfl)
  by_cases hx : x = 0
  · have hb1 : (x != 0) = false := by simp [hx]
    have HX0 := Lib.hid hx
    clear hx
    have y0 : w7.cell? ⟨Y, 0, none⟩ = some (vi ck) := by rw [Bt.cell_of HY7.out]; rfl
    by_cases hk : 1 ≤ ck ∧ ck ≤ 5
    · have k1 : decide (ck < 1) = false := decide_eq_false (by omega)
      have k2 : decide ((5 : Int) < ck) = false := decide_eq_false (by omega)
      have y1 : w7.cell? ⟨Y, 1, none⟩ = some (vi ry.txn) := by rw [Bt.cell_of HY7.out]; rfl
      have y2 : w7.cell? ⟨Y, 2, none⟩ = some (vi ry.home) := by rw [Bt.cell_of HY7.out]; rfl
      have y3 : w7.cell? ⟨Y, 3, none⟩ = some (vi ry.start) := by rw [Bt.cell_of HY7.out]; rfl
      have y4 : w7.cell? ⟨Y, 4, none⟩ = some (.slice aY ry.writes.length cY) := by rw [Bt.cell_of HY7.out]; rfl
      have y5 : w7.cell? ⟨Y, 5, none⟩ = some (.slice aR ry.reads.length cR) := by rw [Bt.cell_of HY7.out]; rfl
      have y6 : w7.cell? ⟨Y, 6, none⟩ = some (vi etx) := by rw [Bt.cell_of HY7.out]; rfl
      have y7 : w7.cell? ⟨Y, 7, none⟩ = some (.bool eco) := by rw [Bt.cell_of HY7.out]; rfl
      have y8 : w7.cell? ⟨Y, 8, none⟩ = some (vi eat) := by rw [Bt.cell_of HY7.out]; rfl
      go_wp2_with fail
      change bodyPost _ _ _ _ _ (w7.setCells X 0 [vi ck, vi ry.txn, vi ry.home, vi ry.start, .slice aY ry.writes.length cY, .slice aR ry.reads.length cR, vi etx, .bool eco, vi eat])
      have HZR := Lib.hid (show CmdRd bs w (w7.setCells X 0 [vi ck, vi ry.txn, vi ry.home, vi ry.start, .slice aY ry.writes.length cY, .slice aR ry.reads.length cR, vi etx, .bool eco, vi eat]) ⟨ck, ry, ⟨etx, eco, eat⟩⟩ (.slice aY ry.writes.length cY) (.slice aR ry.reads.length cR) 0 from ⟨HB7.out.trans (setCells_below X _ 0 w7 hXw hb7), own_mono (own_setAll HOW7.out HZ7.out (by decide) 0 _) hw3, own_mono (own_setAll HOR7.out HZ7.out (by decide) 0 _) hw3, fun _ => ⟨hk.1, hk.2, (HRC.out.2 (HX1.out.1 HX0.out).1).2.1, (by obtain ⟨z, hz, he⟩ := falses_end (HX1.out.1 HX0.out).2.1 (HX1.out.1 HX0.out).2.2; exact ⟨z, hz, by rw [← he]; exact (HRC.out.2 (HX1.out.1 HX0.out).1).2.2⟩)⟩, fun h => absurd rfl h, fun c' z h1 h2 h3 => ⟨fun _ => ⟨rfl, (HALL.out c' z h1 h2 h3).1⟩, fun hn => absurd (by rw [← (HALL.out c' z h1 h2 h3).1]; exact hk) hn⟩⟩)
      have HZC := Lib.hid (setCells_all (cs := [vi ck, vi ry.txn, vi ry.home, vi ry.start, .slice aY ry.writes.length cY, .slice aR ry.reads.length cR, vi etx, .bool eco, vi eat]) HZ7.out rfl)
      clear x0 x1 x2 x3 x4 x5 x6 x7 x8 xf HZS HZERO
      generalize w7.setCells X 0 [vi ck, vi ry.txn, vi ry.home, vi ry.start, .slice aY ry.writes.length cY, .slice aR ry.reads.length cR, vi etx, .bool eco, vi eat] = wz at *
      have r0 : wz.cell? ⟨X, 0, none⟩ = some (vi ck) := by rw [Bt.cell_of HZC.out]; rfl
      have r1 : wz.cell? ⟨X, 1, none⟩ = some (vi ry.txn) := by rw [Bt.cell_of HZC.out]; rfl
      have r2 : wz.cell? ⟨X, 2, none⟩ = some (vi ry.home) := by rw [Bt.cell_of HZC.out]; rfl
      have r3 : wz.cell? ⟨X, 3, none⟩ = some (vi ry.start) := by rw [Bt.cell_of HZC.out]; rfl
      have r4 : wz.cell? ⟨X, 4, none⟩ = some (.slice aY ry.writes.length cY) := by rw [Bt.cell_of HZC.out]; rfl
      have r5 : wz.cell? ⟨X, 5, none⟩ = some (.slice aR ry.reads.length cR) := by rw [Bt.cell_of HZC.out]; rfl
      have r6 : wz.cell? ⟨X, 6, none⟩ = some (vi etx) := by rw [Bt.cell_of HZC.out]; rfl
      have r7 : wz.cell? ⟨X, 7, none⟩ = some (.bool eco) := by rw [Bt.cell_of HZC.out]; rfl
      have r8 : wz.cell? ⟨X, 8, none⟩ = some (vi eat) := by rw [Bt.cell_of HZC.out]; rfl
      refine bodyPost_ret (v := .tuple #[cmdV ⟨ck, ry, ⟨etx, eco, eat⟩⟩ (.slice aY ry.writes.length cY) (.slice aR ry.reads.length cR), vi 0]) (by simp [results, Try.results23, go_sem, cmdV, cmdC, zeroC, r0, r1, r2, r3, r4, r5, r6, r7, r8]) rfl ⟨_, _, _, _, rfl, HZR.out⟩
    · have HK := Lib.hid hk
      by_cases hk1 : ck < 1
      · have k1 : decide (ck < 1) = true := decide_eq_true hk1
        go_wp2_with fail
        change bodyPost _ _ _ _ _ (w7.setCells X 0 [vi 0, vi 0, vi 0, vi 0, .slice none 0 0, .slice none 0 0, vi 0, .bool false, vi 0])
        have HZR := Lib.hid (HZERO.out 14 (by decide) (fun c' z h1 h2 h3 => ⟨by rw [← (HALL.out c' z h1 h2 h3).1]; exact HK.out, rfl⟩))
        have HZC := Lib.hid (setCells_all (cs := [vi 0, vi 0, vi 0, vi 0, .slice none 0 0, .slice none 0 0, vi 0, .bool false, vi 0]) HZ7.out rfl)
        clear x0 x1 x2 x3 x4 x5 x6 x7 x8 xf HZS HZERO
        generalize w7.setCells X 0 [vi 0, vi 0, vi 0, vi 0, .slice none 0 0, .slice none 0 0, vi 0, .bool false, vi 0] = wz at *
        have r0 : wz.cell? ⟨X, 0, none⟩ = some (vi 0) := by rw [Bt.cell_of HZC.out]; rfl
        have r1 : wz.cell? ⟨X, 1, none⟩ = some (vi 0) := by rw [Bt.cell_of HZC.out]; rfl
        have r2 : wz.cell? ⟨X, 2, none⟩ = some (vi 0) := by rw [Bt.cell_of HZC.out]; rfl
        have r3 : wz.cell? ⟨X, 3, none⟩ = some (vi 0) := by rw [Bt.cell_of HZC.out]; rfl
        have r4 : wz.cell? ⟨X, 4, none⟩ = some (.slice none 0 0) := by rw [Bt.cell_of HZC.out]; rfl
        have r5 : wz.cell? ⟨X, 5, none⟩ = some (.slice none 0 0) := by rw [Bt.cell_of HZC.out]; rfl
        have r6 : wz.cell? ⟨X, 6, none⟩ = some (vi 0) := by rw [Bt.cell_of HZC.out]; rfl
        have r7 : wz.cell? ⟨X, 7, none⟩ = some (.bool false) := by rw [Bt.cell_of HZC.out]; rfl
        have r8 : wz.cell? ⟨X, 8, none⟩ = some (vi 0) := by rw [Bt.cell_of HZC.out]; rfl
        refine bodyPost_ret (v := .tuple #[cmdV zeroC (.slice none 0 0) (.slice none 0 0), vi 14]) (by simp [results, Try.results23, go_sem, cmdV, cmdC, zeroC, r0, r1, r2, r3, r4, r5, r6, r7, r8]) rfl ⟨_, _, _, _, rfl, HZR.out⟩
      · have k1 : decide (ck < 1) = false := decide_eq_false hk1
        have k2 : decide ((5 : Int) < ck) = true := decide_eq_true (by omega)
        go_wp2_with fail
        change bodyPost _ _ _ _ _ (w7.setCells X 0 [vi 0, vi 0, vi 0, vi 0, .slice none 0 0, .slice none 0 0, vi 0, .bool false, vi 0])
        have HZR := Lib.hid (HZERO.out 14 (by decide) (fun c' z h1 h2 h3 => ⟨by rw [← (HALL.out c' z h1 h2 h3).1]; exact HK.out, rfl⟩))
        have HZC := Lib.hid (setCells_all (cs := [vi 0, vi 0, vi 0, vi 0, .slice none 0 0, .slice none 0 0, vi 0, .bool false, vi 0]) HZ7.out rfl)
        clear x0 x1 x2 x3 x4 x5 x6 x7 x8 xf HZS HZERO
        generalize w7.setCells X 0 [vi 0, vi 0, vi 0, vi 0, .slice none 0 0, .slice none 0 0, vi 0, .bool false, vi 0] = wz at *
        have r0 : wz.cell? ⟨X, 0, none⟩ = some (vi 0) := by rw [Bt.cell_of HZC.out]; rfl
        have r1 : wz.cell? ⟨X, 1, none⟩ = some (vi 0) := by rw [Bt.cell_of HZC.out]; rfl
        have r2 : wz.cell? ⟨X, 2, none⟩ = some (vi 0) := by rw [Bt.cell_of HZC.out]; rfl
        have r3 : wz.cell? ⟨X, 3, none⟩ = some (vi 0) := by rw [Bt.cell_of HZC.out]; rfl
        have r4 : wz.cell? ⟨X, 4, none⟩ = some (.slice none 0 0) := by rw [Bt.cell_of HZC.out]; rfl
        have r5 : wz.cell? ⟨X, 5, none⟩ = some (.slice none 0 0) := by rw [Bt.cell_of HZC.out]; rfl
        have r6 : wz.cell? ⟨X, 6, none⟩ = some (vi 0) := by rw [Bt.cell_of HZC.out]; rfl
        have r7 : wz.cell? ⟨X, 7, none⟩ = some (.bool false) := by rw [Bt.cell_of HZC.out]; rfl
        have r8 : wz.cell? ⟨X, 8, none⟩ = some (vi 0) := by rw [Bt.cell_of HZC.out]; rfl
        refine bodyPost_ret (v := .tuple #[cmdV zeroC (.slice none 0 0) (.slice none 0 0), vi 14]) (by simp [results, Try.results23, go_sem, cmdV, cmdC, zeroC, r0, r1, r2, r3, r4, r5, r6, r7, r8]) rfl ⟨_, _, _, _, rfl, HZR.out⟩
  · have hb1 : (x != 0) = true := by simp [hx]
    have HX0 := Lib.hid hx
    clear hx
    go_wp2_with fail
    change bodyPost _ _ _ _ _ (w7.setCells X 0 [vi 0, vi 0, vi 0, vi 0, .slice none 0 0, .slice none 0 0, vi 0, .bool false, vi 0])
    have HZR := Lib.hid (HZERO.out x HX0.out (fun c' z h1 h2 h3 => absurd (HALL.out c' z h1 h2 h3).2 HX0.out))
    have HZC := Lib.hid (setCells_all (cs := [vi 0, vi 0, vi 0, vi 0, .slice none 0 0, .slice none 0 0, vi 0, .bool false, vi 0]) HZ7.out rfl)
    clear x0 x1 x2 x3 x4 x5 x6 x7 x8 xf HZS HZERO
    generalize w7.setCells X 0 [vi 0, vi 0, vi 0, vi 0, .slice none 0 0, .slice none 0 0, vi 0, .bool false, vi 0] = wz at *
    have r0 : wz.cell? ⟨X, 0, none⟩ = some (vi 0) := by rw [Bt.cell_of HZC.out]; rfl
    have r1 : wz.cell? ⟨X, 1, none⟩ = some (vi 0) := by rw [Bt.cell_of HZC.out]; rfl
    have r2 : wz.cell? ⟨X, 2, none⟩ = some (vi 0) := by rw [Bt.cell_of HZC.out]; rfl
    have r3 : wz.cell? ⟨X, 3, none⟩ = some (vi 0) := by rw [Bt.cell_of HZC.out]; rfl
    have r4 : wz.cell? ⟨X, 4, none⟩ = some (.slice none 0 0) := by rw [Bt.cell_of HZC.out]; rfl
    have r5 : wz.cell? ⟨X, 5, none⟩ = some (.slice none 0 0) := by rw [Bt.cell_of HZC.out]; rfl
    have r6 : wz.cell? ⟨X, 6, none⟩ = some (vi 0) := by rw [Bt.cell_of HZC.out]; rfl
    have r7 : wz.cell? ⟨X, 7, none⟩ = some (.bool false) := by rw [Bt.cell_of HZC.out]; rfl
    have r8 : wz.cell? ⟨X, 8, none⟩ = some (vi 0) := by rw [Bt.cell_of HZC.out]; rfl
    refine bodyPost_ret (v := .tuple #[cmdV zeroC (.slice none 0 0) (.slice none 0 0), vi x]) (by simp [results, Try.results23, go_sem, cmdV, cmdC, zeroC, r0, r1, r2, r3, r4, r5, r6, r7, r8]) rfl ⟨_, _, _, _, rfl, HZR.out⟩
end Go.Proofs.Ytdkkpkgfiodlbaa

/- The append law of XMem inside a fence. Names no program. -/
namespace Go.Proofs.Ytdkkpkgfiodlbaa
open Go.RowKit

theorem wpListIn_append_src {F : Fence} {nf : Nat} {P : Program} {w : World} {ops : Array Oper} {rest : List Oper} {o : Oper} {a : Act} {Q : Exit → Act → World → Prop} (hgd : o.guard = none) (s x : Operand) (t : TypeId)
    (ho : o.op = .call { callee := .builtin .append, args := #[s, x], argTypes := #[t, t] })
    {e : TypeId} {size bytes : Nat} {z : Value} (he : Elt P t e size bytes z) (base : Nat)
    {v vx : Value} (n : Nat) (xs : List Value) (hown : w.ownsRow base e size v n xs) (hs : a.eval s = v)
    (m : Nat) (news : List Value) (hsrc : Src w vx size m news) (hx : a.eval x = vx) (h1 : ∀ u ∈ news, u.oneCell' = true)
    (hsz : n + m ≤ 68719476736) (hbytes : bytes ≤ 2048) (hbase : base ≤ w.heap.size)
    (h : ∀ v' w', w'.ownsRow base e size v' (n + m) (xs ++ news) → w.grownBy w' v.ownBlock → (v' = .slice none 0 0 → v = .slice none 0 0) → wpListIn F nf P ops Q rest (a.put o.dst v') w') : wpListIn F nf P ops Q (o :: rest) a w := by
  obtain ⟨ht, h0, hzs, i, hi, hz, his, hib⟩ := he
  obtain ⟨ad, c, rfl, hl, hnone, hsome⟩ := hsrc
  cases ad with
  | none =>
    obtain ⟨rfl, rfl⟩ := hnone rfl
    have hn : news = [] := List.length_eq_zero_iff.1 (by simpa using hl)
    subst hn
    refine wpListIn_plain hgd fun K hK' => ?_
    have hrun := run_append_owned_none (P := P) (w := w) base t o.type e i size ht hi v n xs hown
    unfold Oper.wpIn
    refine ⟨?_, ?_⟩
    · simp [Oper.about, ho, resolve, Target.leads, Sem.run_pure]
    · rw [Oper.semAt_plain F _ _ (by rw [ho]; intro c hc'; cases hc')]
      simp [execOp, ho, resolve, invoke, builtin, hs, hx, hrun, Result.andThen]
      exact hK' _ _ (h v w (by simpa using hown) ⟨rfl, rfl, rfl, Nat.le_refl _, fun _ _ _ => rfl⟩ id)
  | some ad =>
    refine wpListIn_append_own w hgd s x t ho base e i z size bytes ht hi hz his hib hzs h0 v n xs hs hown ad m c news hx hl (hsome ad rfl) h1 (by simp only [maxLen]; omega) ?_ hbase (fun v' w' a b c => h v' w' a b (fun e => (c.1 e).1))
    exact Nat.le_trans (Nat.mul_le_mul hsz hbytes) (by decide)
end Go.Proofs.Ytdkkpkgfiodlbaa

/- maps.Keys of the map of those who wait, collected. -/
namespace Go.Proofs.Ytdkkpkgfiodlbaa
open Go.RowKit Go.Shelf Go.Maps
attribute [local go_sem] Oper.semAt_some

abbrev encK (x : Int) : Array Value := #[vi x]
def markL (Ds : List Nat) : List Deferred := Ds.map fun D => { target := .collected D, args := #[] }

theorem leaves_marks {P : Program} {F : Fence} {n : Nat} {fn : Func} {tmps : Array Value} {R : Ending → World → Prop} : ∀ (Ds : List Nat) (w : World), (∀ D ∈ Ds, w.heap[D]? = some (.deferred (some []))) → Ds.Nodup →
    (∀ w' : World, w'.os = w.os → w'.tape = w.tape → w'.output = w.output → w'.heap.size = w.heap.size → (∀ k, k ∉ Ds → w'.heap[k]? = w.heap[k]?) → LeavesIn F n P fn tmps R [] .returning w') → LeavesInM F n P fn tmps R (markL Ds) .returning w
  | [], w, _, _, h => h w rfl rfl rfl rfl (fun _ _ => rfl)
  | D :: Ds, w, hD, hn, h => by
    refine ⟨by simp, .inl ⟨D, w.putObj D (.deferred none), rfl, run_takeDeferred (hD D (by simp)), ?_⟩⟩
    have hnd := List.nodup_cons.1 hn
    have hput : ∀ k, k ≠ D → (w.putObj D (.deferred none)).heap[k]? = w.heap[k]? := fun k hk => by
      unfold World.putObj; simp only [Array.getElem?_setIfInBounds]; rw [if_neg (fun e => hk e.symm)]
    refine leaves_marks Ds _ (fun D' h' => by rw [hput D' (fun e => hnd.1 (e ▸ h'))]; exact hD D' (by simp [h'])) hnd.2 (fun w' h1 h2 h3 h4 h5 => h w' (h1.trans rfl) (h2.trans rfl) (h3.trans rfl) (by rw [h4]; simp [World.putObj]) (fun k hk => by
      rw [h5 k (fun e => hk (by simp [e])), hput k (fun e => hk (by simp [e]))]))

theorem keep_cells {A B : World} {row : Option Nat} {b : Nat} {cs : Array Value} {T : TypeId} (h : A.heap[b]? = some (.cells cs T)) (hg : A.grownBy B row) (hr : ∀ r, row = some r → ∃ o : Obj, A.heap[r]? = some o ∧ o.isCells = false) : B.heap[b]? = some (.cells cs T) := by
  rw [hg.block b (Array.getElem?_eq_some_iff.1 h).1 (fun e => by
    obtain ⟨o, ho, hc⟩ := hr b e.symm
    rw [h] at ho; cases ho; cases hc)]
  exact h

theorem nodup_le {α : Type} [DecidableEq α] : ∀ (V L : List α), V.Nodup → (∀ x ∈ V, x ∈ L) → V.length ≤ L.length
  | [], _, _, _ => Nat.zero_le _
  | x :: V, L, h, hs => by
    have hx := hs x (by simp)
    have h2 := List.nodup_cons.1 h
    have := nodup_le V (L.erase x) h2.2 (fun y hy => (List.mem_erase_of_ne (fun e : y = x => h2.1 (by rw [← e]; exact hy))).2 (hs y (by simp [hy])))
    rw [List.length_erase_of_mem hx] at this
    have := List.length_pos_of_mem hx
    simp only [List.length_cons]; omega

theorem RangeT.obj {κ ν : Type} {P : Program} {k : TypeId} {eK : κ → Value} {eV : ν → Value} {w : World} {b r : Nat} {L V : List (κ × ν)} (h : RangeT P k eK eV w b r L V) : (∃ o, w.heap[r]? = some o ∧ o.isWalk = true) ∧ (∃ o, w.heap[b]? = some o ∧ o.isWalk = true) := by
  obtain ⟨es, clock, since, seen, c0, hb, _, _, _, hr, _⟩ := h
  exact ⟨⟨_, hr, rfl⟩, ⟨_, hb, rfl⟩⟩
theorem RangeT.walks {κ ν : Type} {P : Program} {k : TypeId} {eK : κ → Value} {eV : ν → Value} {w w' : World} {b r : Nat} {L V : List (κ × ν)} (h : RangeT P k eK eV w b r L V) (hk : KeepsWalks w w') : RangeT P k eK eV w' b r L V ∧ w'.rangeLeft b r = w.rangeLeft b r := by
  obtain ⟨⟨o, ho, hw⟩, ⟨o2, ho2, hw2⟩⟩ := h.obj
  have e1 : w'.heap[b]? = w.heap[b]? := (hk.same _ _ ho2 hw2).trans ho2.symm
  have e2 : w'.heap[r]? = w.heap[r]? := (hk.same _ _ ho hw).trans ho.symm
  exact ⟨h.frame e1 e2, rangeLeft_frame e1 e2⟩
theorem RangeT.sub {κ ν : Type} {P : Program} {k : TypeId} {eK : κ → Value} {eV : ν → Value} {w : World} {b r : Nat} {L V : List (κ × ν)} (h : RangeT P k eK eV w b r L V) : (∀ p ∈ V, p ∈ L) ∧ V.Pairwise (fun p q => p.1 ≠ q.1) := by
  obtain ⟨es, clock, since, seen, c0, _, _, _, _, _, _, _, _, _, h1, h2⟩ := h
  exact ⟨h1, h2⟩
theorem keys_nodup {ν : Type} {L : List (Int × ν)} (h : L.Pairwise (fun p q => p.1 ≠ q.1)) : (L.map (·.1)).Nodup := by
  rw [List.nodup_iff_pairwise_ne]
  exact List.pairwise_map.2 h

set_option maxRecDepth 100000 in
set_option maxHeartbeats 2000000 in
theorem keysN_in (F : Fence) (n : Nat) (hF : F.fn 78) (hro : F.round = none) (hn : 1 ≤ n) (lp Bs mw : Nat) (L : RdyL) (J Jx : List Int → World → Prop)
    (hY : ∀ pre x W, J pre W → pre.length < L.length → YieldAt F (n - 1) Try.prog lp (encK x) W fun e W' =>
      (e = .returned (.bool true) ∧ J (pre ++ [x]) W' ∧ KeepsWalks W W') ∨ (e = .returned (.bool false) ∧ Jx (pre ++ [x]) W'))
    (W : World) (hJ : AbidesFrom W.heap.size J) (hBs : W.cell? ⟨Bs, 0, none⟩ = some (.map (some mw))) (hm : MapR W mw L) (h0 : J [] W) :
    CallsIn F n Try.prog 78 #[.func (.yield lp) #[] #[], .pointer (some ⟨Bs, 0, none⟩)] W fun e W' => (∃ v, e = .returned v) ∧
      ((∃ ys, ys.Perm (L.map (·.1)) ∧ J ys W') ∨ (∃ pre : List Int, True ∧ Jx pre W')) := by
  obtain ⟨W1, hrun, hR, hg, hsz⟩ := hm.range (t := 109) (e := 29) Try.underlying109
  have hJ1 : J [] W1 := hJ [] W W1 none h0 hg (fun r hr => by cases hr)
  have HJ1 := Lib.hid hJ1
  have HJ := Lib.hid hJ
  have HY := Lib.hid hY
  have HR := Lib.hid hR
  have HND := Lib.hid (keys_nodup hm.pairwise)
  clear hJ hJ1 hR hg hsz hm h0 hY
  refine callsIn_of_wp Try.func78 rfl hF ?_ hro
  simp only [Try.ntmps78, List.size_toArray, List.length_cons, List.length_nil, Nat.reduceAdd, Nat.reduceSub, Array.replicate_succ, Array.replicate_zero, List.push_toArray, List.append_toArray, List.nil_append, List.cons_append]
  gi_wp2
  gi_loopw [3] (fun _ wr => ∃ V, RangeT Try.prog 3 vi rdyV wr mw W.heap.size L V ∧ J (V.map (·.1)) wr) (fun _ wr => wr.rangeLeft mw W.heap.size)
  case atStart => exact ⟨[], HR.out, HJ1.out⟩
  case round =>
    obtain ⟨V, hR, hJs⟩ := hrel
    have HV := Lib.hid hR.sub
    have HO := Lib.hid hR.obj
    rcases hR.next vi_inj 0 with ⟨hall, hnx⟩ | ⟨p, w2, hp, hfr, hnx, hR2, hlt, hg2, hs2, hen⟩
    · have HP := Lib.hid (show (V.map (·.1)).Perm (L.map (·.1)) from (List.perm_ext_iff_of_nodup (keys_nodup HV.out.2) HND.out).2 fun a => by
        rw [List.mem_map, List.mem_map]
        exact ⟨fun ⟨x, h1, h2⟩ => ⟨x, HV.out.1 x h1, h2⟩, fun ⟨x, h1, h2⟩ => ⟨x, hall x h1, h2⟩⟩)
      have HJS := Lib.hid hJs
      clear hall hR hJs
      gi_wp2
      go_end0
      exact ⟨⟨_, rfl⟩, .inl ⟨_, HP.out, HJS.out⟩⟩
    · have hJ2 : J (V.map (·.1)) w2 := HJ.out _ wr w2 (some W.heap.size) hJs hg2 (fun r e => by cases e; exact ⟨Nat.le_refl _, HO.out.1⟩)
      have hlen : (V.map (·.1)).length < L.length := by
        have h1 := hR2.sub
        have := nodup_le ((V ++ [p]).map (·.1)) (L.map (·.1)) (keys_nodup h1.2) (fun x hx => by
          rw [List.mem_map] at hx ⊢
          obtain ⟨y, h2, h3⟩ := hx
          exact ⟨y, h1.1 y h2, h3⟩)
        simp at this ⊢; omega
      have HR2 := Lib.hid hR2
      have HLT := Lib.hid hlt
      obtain ⟨fn, tmps, assign, body, hy, hRd⟩ := HY.out _ p.1 _ hJ2 hlen
      clear hR hJs hR2 hlt hg2 hs2 hfr hlen hJ2
      gi_wp2
      refine hRd.mono ?_
      rintro e W3 (⟨rfl, hJ4, hk4⟩ | ⟨rfl, hJx4⟩)
      · obtain ⟨h3, h4⟩ := HR2.out.walks hk4
        have H3 := Lib.hid h3
        have H4 := Lib.hid h4
        have HJ4 := Lib.hid hJ4
        clear h3 h4 hJ4 hk4
        gi_wp2
        go_roundw
        case rel => exact ⟨V ++ [p], H3.out, by simpa using HJ4.out⟩
        case measure => rw [H4.out]; exact HLT.out
      · have HX := Lib.hid hJx4
        clear hJx4
        gi_wp2
        refine bodyPost_ret (results_none rfl _ _ _) rfl ?_
        exact ⟨⟨_, rfl⟩, .inr ⟨_, trivial, HX.out⟩⟩

theorem keysN_seq (F : Fence) (n : Nat) (hF : F.fn 78) (hro : F.round = none) (hn : 1 ≤ n) {Bs mw : Nat} {L : RdyL} {w : World} (hb : w.cell? ⟨Bs, 0, none⟩ = some (.map (some mw))) (hm : MapR w mw L) :
    SeqStopsK F n Try.prog 78 #[.pointer (some ⟨Bs, 0, none⟩)] encK KeepsWalks (fun ys => ys.Perm (L.map (·.1))) (fun _ => True) L.length w := fun lp J Jx W hW hJ _ hY h0 =>
  keysN_in F n hF hro hn lp Bs mw L J Jx hY W hJ (cell_later hW hb) (hm.below hW hm.lt) h0
end Go.Proofs.Ytdkkpkgfiodlbaa

/- slices.AppendSeq and slices.Collect over the keys of the map of those who wait. -/
namespace Go.Proofs.Ytdkkpkgfiodlbaa
open Go.RowKit Go.Shelf Go.Maps
attribute [local go_sem] Oper.semAt_some

/-- What AppendSeq keeps of memory: its boxed answer so far. -/
structure StL (w : World) (acc : List Int) (W : World) : Prop where
  out : ∃ vo, W.heap[w.heap.size]? = some (.cells #[vo] 27) ∧ OwI (w.heap.size + 1) W vo acc
  size : w.heap.size + 1 ≤ W.heap.size
  below : Below w.heap.size w W

theorem stL_own {w : World} {acc : List Int} {base : Nat} (hb : w.heap.size ≤ base) {A B : World} {row : Option Nat} (h : StL w acc A) (hg : A.grownBy B row)
    (hr : ∀ r, row = some r → base ≤ r ∧ ∃ o : Obj, A.heap[r]? = some o ∧ o.isCells = false) : StL w acc B := by
  have hr' : ∀ r, row = some r → ∃ o : Obj, A.heap[r]? = some o ∧ o.isCells = false := fun r e => (hr r e).2
  obtain ⟨vo, ho, hrow⟩ := h.out
  refine ⟨⟨vo, keep_cells ho hg hr', ?_⟩, Nat.le_trans h.size hg.size, h.below.grown hg h.below.size (fun j hj => Nat.le_trans hb (hr j hj).1)⟩
  refine ⟨hrow.1, ?_⟩
  rcases hrow.2 with h2 | ⟨g, cp, cur, hv, hg2, hh, r⟩
  · exact .inl h2
  · exact .inr ⟨g, cp, cur, hv, hg2, keep_cells hh hg hr', r⟩

theorem StL.alloc {w W : World} {acc : List Int} (h : StL w acc W) (o : Obj) : StL w acc (W.alloc o) := by
  have hs := h.size
  obtain ⟨vo, ho, hrow⟩ := h.out
  exact ⟨⟨vo, by rw [Below.heap_alloc _ _ _ (by omega)]; exact ho, World.ownsRow.alloc hrow _⟩, by simp; omega, h.below.alloc (by omega) _⟩

theorem stL_put {w W w1 : World} {vo v' : Value} {acc : List Int} {x : Int} {o : Obj} (h : StL w acc W) (hrow0 : OwI (w.heap.size + 1) W vo acc) (ho : W.heap[w.heap.size]? = some (.cells #[vo] 27))
    (hg : (W.alloc o).grownBy w1 vo.ownBlock) (hrow : w1.ownsRow (w.heap.size + 1) 3 1 v' (acc.length + 1) (acc.flatMap viC ++ viC x)) : StL w (acc ++ [x]) (w1.setCell ⟨w.heap.size, 0, none⟩ v') := by
  have hs := h.size
  have hlt : ∀ j, vo.ownBlock = some j → w.heap.size + 1 ≤ j ∧ j < W.heap.size := fun j hj => World.ownsRow.lt hrow0 j hj
  refine ⟨⟨v', ?_, ?_⟩, ?_, ?_⟩
  · have : w1.heap[w.heap.size]? = some (.cells #[vo] 27) := by
      rw [hg.block _ (by simp; omega) (fun e => by have := hlt _ e.symm; omega), Below.heap_alloc _ _ _ (by omega)]; exact ho
    simp [World.setCell, Array.getElem?_modify, this]
  · unfold OwI
    rw [List.length_append, List.flatMap_append]
    have := ownsRow_setCell_below hrow (a := ⟨w.heap.size, 0, none⟩) (by show w.heap.size < _; omega) v'
    simpa using this
  · have := hg.size; simp [World.setCell] at this ⊢; omega
  · exact ((h.below.alloc (by omega) o).grown hg (by simp; omega) (fun j hj => by have := hlt j hj; omega)).setCell (Nat.le_refl _) _

theorem keeps_put {W w1 : World} {vo v' : Value} {base : Nat} {acc : List Int} {o : Obj} {a : Addr} (hrow0 : OwI base W vo acc) (ho : ∃ cs T, W.heap[a.block]? = some (.cells cs T))
    (hg : (W.alloc o).grownBy w1 vo.ownBlock) : KeepsOthers W (w1.setCell a v') := by
  obtain ⟨cs, T, ho⟩ := ho
  refine ⟨?_, fun j o' hj hc => ?_⟩
  · have := hg.size; simp [World.setCell] at this ⊢; omega
  · have hne : j ≠ a.block := fun e => by subst e; rw [ho] at hj; cases hj; cases hc
    rw [Below.heap_setCell _ _ _ _ hne, hg.block j (by simp; have := (Array.getElem?_eq_some_iff.1 hj).1; omega) ?_, Below.heap_alloc _ _ _ (Array.getElem?_eq_some_iff.1 hj).1]
    · exact hj
    · intro e
      rcases hrow0.2 with ⟨e2, _⟩ | ⟨g, cp, cur, e2, _, hh, _⟩
      · rw [e2] at e; cases e
      · rw [e2] at e; cases e
        rw [hh] at hj; cases hj; cases hc
theorem keepsW {W W' : World} (h : KeepsOthers W W') : KeepsWalks W W' := ⟨h.size, fun k o hk ho => h.same k o hk (Obj.not_cells_of_walk ho)⟩

set_option maxRecDepth 100000 in
set_option maxHeartbeats 4000000 in
theorem appendSeq_call {Bs mw : Nat} {L : RdyL} (w : World) (hb : w.cell? ⟨Bs, 0, none⟩ = some (.map (some mw))) (hm : MapR w mw L) (hL : L.length ≤ 1048576) :
    Calls Try.prog 92 #[.slice none 0 0, .func (.func 78) #[] #[.pointer (some ⟨Bs, 0, none⟩)]] w fun e w' => ∃ v ks, e = .returned v ∧ OwI w.heap.size w' v ks ∧ ks.Perm (L.map (·.1)) ∧ Below w.heap.size w w' := by
  have HB := Lib.hid ((Below.refl w.heap.size w).alloc (Nat.le_refl _) (.cells #[.slice none 0 0] 27))
  have HX := Lib.hid (alloc_at w (.cells #[.slice none 0 0] 27))
  have HQ := Lib.hid (keysN_seq Fence.wide 7 trivial rfl (by omega) (cell_later HB.out hb) (hm.below HB.out hm.lt))
  have hs0 : (w.alloc (.cells #[.slice none 0 0] 27)).heap.size = w.heap.size + 1 := by simp
  clear hb hm
  refine (callsIn_wide (n := 8)).1 ?_
  refine callsIn_of_wp_marks Try.func92 rfl trivial ?_ rfl
  simp only [Try.ntmps92, List.size_toArray, List.length_cons, List.length_nil, Nat.reduceAdd, Nat.reduceSub, Array.replicate_succ, Array.replicate_zero, List.push_toArray, List.append_toArray, List.nil_append, List.cons_append]
  gi_wp2_with fail
  generalize w.alloc (.cells #[.slice none 0 0] 27) = w0 at *
  refine wpIn_rangeFunc_ownH rfl (by omega) (gf := 78) (lb := #[.pointer (some ⟨Bs, 0, none⟩)]) rfl trivial (enters_of Try.func78 (by kernel_rfl) rfl)
    HQ.out KeepsWalks.trans walksK_b (Below.refl _ _) (fun _ => rfl)
    (fun pre W => StL w pre W)
    (fun _ _ _ => False)
    (fun pre A B row hs hg hr => stL_own (base := w0.heap.size) (by omega) hs hg hr)
    (fun _ pre A B row hs _ _ => hs) ⟨⟨_, HX.out, World.ownsRow_nil _ _ _ _⟩, by omega, HB.out⟩
    (fun x a' W => a' = { tmps := #[.slice none 0 0, .func (.func 78) #[] #[.pointer (some ⟨Bs, 0, none⟩)], .pointer (some ⟨w.heap.size, 0, none⟩), undef, .slice none 0 0, vi x, .func (.func 78) #[] #[.pointer (some ⟨Bs, 0, none⟩)], vi x, undef, undef, undef, undef, undef], defers := [] })
    (fun x a' u A B row hs hg hr => hs)
    ?assign ?body ?done (fun _ _ _ _ _ _ h _ => h.elim)
  case assign =>
    rintro lp pre x W K h2 hK
    gi_wp2
    exact hK _ _ ((⟨Nat.le_refl _, fun _ _ h _ => h⟩ : KeepsOthers W W).from _) (⟨Nat.le_refl _, fun _ _ h _ => h⟩ : KeepsWalks W W) h2 rfl
  case body =>
    rintro lp pre x a' W hlp hrec h2 rfl hlen
    have HH := Lib.hid h2
    obtain ⟨vo, ho, hrow⟩ := h2.out
    have co : W.cell? ⟨w.heap.size, 0, none⟩ = some vo := cell_of ho 0
    have HROW := Lib.hid hrow
    have HO := Lib.hid ho
    have hsW := h2.size
    have hlW : (W.alloc (.cells #[vi x] 3)).heap.size = W.heap.size + 1 := by simp
    clear h2 hrow ho hrec
    gi_wp2_with (gi_at_builtin; refine wpListIn_append_src rfl _ _ 27 rfl eltI (w.heap.size + 1) pre.length _ (World.ownsRow.alloc HROW.out _) rfl 1 (viC x) (src_new (cs := #[vi x]) rfl rfl) rfl (by intro u hu; simp [viC] at hu; subst hu; rfl) (by omega) (by omega) (by omega) ?_; intro v' w1 hown' hgrow _; obtain ⟨g', cap', rfl⟩ := ownsRow_succ hown'; have q0 : w1.heap[w.heap.size]? = some (.cells #[vo] 27) := (hgrow.block w.heap.size (by omega) (fun e => by have := (World.ownsRow.lt HROW.out _ e.symm).1; omega)).trans ((Below.heap_alloc _ _ _ (by omega)).trans HO.out); have q1 : w1.cell? ⟨w.heap.size, 0, none⟩ = some vo := cell_of q0 0; have q2 : w1.frozen? ⟨w.heap.size, 0, none⟩ = false := free_of q0 0)
    have hk := keeps_put (v' := .slice (some ⟨g', 0, none⟩) (pre.length + 1) cap') (a := ⟨w.heap.size, 0, none⟩) HROW.out ⟨_, _, HO.out⟩ hgrow
    exact ⟨hk.from _, keepsW hk, stL_put HH.out HROW.out HO.out hgrow hown'⟩
  case done =>
    rintro D ys W hD hys h1 hK
    have HK := Lib.hid hK
    have HH := Lib.hid h1
    have HP := Lib.hid hys
    obtain ⟨vo, ho, hrow⟩ := h1.out
    have HROW := Lib.hid hrow
    have c0 : W.cell? ⟨w.heap.size, 0, none⟩ = some vo := by rw [cell_of ho]; rfl
    clear h1 hK hys ho hrow
    gi_wp2
    refine leaves_marks [D] W (fun D' hD' => by simp at hD'; subst hD'; exact HK.out) (by simp) (fun w' h1 h2 h3 h4 h5 => ?_)
    have hb : Below w.heap.size w w' := ⟨h1.trans HH.out.below.os, h2.trans HH.out.below.tape, h3.trans HH.out.below.output, by rw [h4]; exact HH.out.below.size, fun k hk => (h5 k (fun hD' => by simp at hD'; have := HB.out.size; omega)).trans (HH.out.below.block k hk)⟩
    refine ⟨vo, by simp [results, Try.f92, go_sem], vo, ys, rfl, ?_, HP.out, hb⟩
    have hrow := HROW.out
    unfold OwI
    refine own_mono (b := w.heap.size + 1) ⟨hrow.1, ?_⟩ (by omega)
    rcases hrow.2 with h | ⟨g, cp, cur, hv, hg, hh, r⟩
    · exact .inl h
    · refine .inr ⟨g, cp, cur, hv, hg, ?_, r⟩
      rw [h5 g (fun hD' => by simp at hD'; subst hD'; have := HK.out; rw [hh] at this; cases this)]
      exact hh

set_option maxRecDepth 100000 in
set_option maxHeartbeats 2000000 in
theorem collect_call {Bs mw : Nat} {L : RdyL} (w : World) (hb : w.cell? ⟨Bs, 0, none⟩ = some (.map (some mw))) (hm : MapR w mw L) (hL : L.length ≤ 1048576) :
    Calls Try.prog 76 #[.func (.func 78) #[] #[.pointer (some ⟨Bs, 0, none⟩)]] w fun e w' => ∃ v ks, e = .returned v ∧ OwI w.heap.size w' v ks ∧ ks.Perm (L.map (·.1)) ∧ Below w.heap.size w w' := by
  have HA := Lib.hid (appendSeq_call w hb hm hL)
  clear hb hm
  go_enter Try.func76, Try.ntmps76
  go_wp2_with (go_at_call 92; refine HA.out.mono ?_; rintro e w1 ⟨v, ks, rfl, h1, h2, h3⟩)
  go_ret
  exact ⟨v, ks, rfl, h1, h2, h3⟩
end Go.Proofs.Ytdkkpkgfiodlbaa

/- Contracts of Go's library, laid at this program. -/
namespace Go.Proofs.Ytdkkpkgfiodlbaa
open Go.Proofs Go.Shelf
def sortI_ren : Go.Shelf.Ren := ⟨fun | 53 => 77 | 64 => 94 | 63 => 93 | 78 => 105 | 79 => 82 | 70 => 96 | 71 => 97 | 72 => 98 | 73 => 99 | 74 => 100 | 75 => 101 | 59 => 102 | 76 => 103 | 77 => 104 | 88 => 107 | 89 => 108 | 90 => 109 | 91 => 110 | 92 => 111 | 68 => 89 | 96 => 112 | n => n, fun | 22 => 27 | 23 => 3 | 3 => 3 | 51 => 147 | 0 => 0 | 67 => 176 | 69 => 117 | 4 => 4 | 61 => 170 | 60 => 169 | 44 => 126 | 5 => 5 | 9 => 9 | 75 => 178 | 79 => 181 | 83 => 183 | 84 => 184 | n => n, fun | n => n⟩
theorem sortI : Go.Proofs.SlLaysN.n53 Try.prog sortI_ren := {
  mixed := by kernel_rfl,
  f53 := ⟨Try.f77.name, by decide, Try.func77.trans (congrArg some (by kernel_rfl))⟩,
  f59 := ⟨Try.f102.name, by decide, Try.func102.trans (congrArg some (by kernel_rfl))⟩,
  f63 := ⟨Try.f93.name, by decide, Try.func93.trans (congrArg some (by kernel_rfl))⟩,
  f64 := Try.func94.trans (congrArg some (by kernel_rfl)),
  f68 := ⟨Try.f89.name, by decide, Try.func89.trans (congrArg some (by kernel_rfl))⟩,
  f70 := ⟨Try.f96.name, by decide, Try.func96.trans (congrArg some (by kernel_rfl))⟩,
  f71 := ⟨Try.f97.name, by decide, Try.func97.trans (congrArg some (by kernel_rfl))⟩,
  f72 := ⟨Try.f98.name, by decide, Try.func98.trans (congrArg some (by kernel_rfl))⟩,
  f73 := ⟨Try.f99.name, by decide, Try.func99.trans (congrArg some (by kernel_rfl))⟩,
  f74 := ⟨Try.f100.name, by decide, Try.func100.trans (congrArg some (by kernel_rfl))⟩,
  f75 := ⟨Try.f101.name, by decide, Try.func101.trans (congrArg some (by kernel_rfl))⟩,
  f76 := ⟨Try.f103.name, by decide, Try.func103.trans (congrArg some (by kernel_rfl))⟩,
  f77 := ⟨Try.f104.name, by decide, Try.func104.trans (congrArg some (by kernel_rfl))⟩,
  f78 := Try.func105.trans (congrArg some (by kernel_rfl)),
  f79 := Try.func82.trans (congrArg some (by kernel_rfl)),
  f88 := ⟨Try.f107.name, by decide, Try.func107.trans (congrArg some (by kernel_rfl))⟩,
  f89 := Try.func108.trans (congrArg some (by kernel_rfl)),
  f90 := Try.func109.trans (congrArg some (by kernel_rfl)),
  f91 := ⟨Try.f110.name, by decide, Try.func110.trans (congrArg some (by kernel_rfl))⟩,
  f92 := ⟨Try.f111.name, by decide, Try.func111.trans (congrArg some (by kernel_rfl))⟩,
  f96 := ⟨Try.f112.name, by decide, Try.func112.trans (congrArg some (by kernel_rfl))⟩,
  t0 := Try.underlying0,
  a0 := Try.isAgg0,
  z0 := Try.sizeOf0,
  v0 := Try.zeroValue0,
  t3 := Try.underlying3,
  a3 := Try.isAgg3,
  z3 := Try.sizeOf3,
  v3 := Try.zeroValue3,
  t4 := Try.underlying4,
  a4 := Try.isAgg4,
  z4 := Try.sizeOf4,
  v4 := Try.zeroValue4,
  t5 := Try.underlying5,
  a5 := Try.isAgg5,
  z5 := Try.sizeOf5,
  v5 := Try.zeroValue5,
  t9 := Try.underlying9,
  a9 := Try.isAgg9,
  z9 := Try.sizeOf9,
  v9 := Try.zeroValue9,
  t22 := Try.underlying27,
  a22 := Try.isAgg27,
  z22 := Try.sizeOf27,
  v22 := Try.zeroValue27,
  t23 := Try.underlying3,
  a23 := Try.isAgg3,
  z23 := Try.sizeOf3,
  v23 := Try.zeroValue3,
  t44 := Try.underlying126,
  a44 := Try.isAgg126,
  z44 := Try.sizeOf126,
  v44 := Try.zeroValue126,
  t51 := Try.underlying147,
  a51 := Try.isAgg147,
  z51 := Try.sizeOf147,
  v51 := Try.zeroValue147,
  t60 := Try.underlying169,
  a60 := Try.isAgg169,
  z60 := Try.sizeOf169,
  v60 := Try.zeroValue169,
  t61 := Try.underlying170,
  a61 := Try.isAgg170,
  z61 := Try.sizeOf170,
  v61 := Try.zeroValue170,
  t67 := Try.underlying176,
  a67 := Try.isAgg176,
  z67 := Try.sizeOf176,
  v67 := Try.zeroValue176,
  t69 := Try.underlying117,
  a69 := Try.isAgg117,
  z69 := Try.sizeOf117,
  v69 := Try.zeroValue117,
  t75 := Try.underlying178,
  a75 := Try.isAgg178,
  z75 := Try.sizeOf178,
  v75 := Try.zeroValue178,
  t79 := Try.underlying181,
  a79 := Try.isAgg181,
  z79 := Try.sizeOf181,
  v79 := Try.zeroValue181,
  t83 := Try.underlying183,
  a83 := Try.isAgg183,
  z83 := Try.sizeOf183,
  v83 := Try.zeroValue183,
  t84 := Try.underlying184,
  a84 := Try.isAgg184,
  z84 := Try.sizeOf184,
  v84 := Try.zeroValue184 }
end Go.Proofs.Ytdkkpkgfiodlbaa
