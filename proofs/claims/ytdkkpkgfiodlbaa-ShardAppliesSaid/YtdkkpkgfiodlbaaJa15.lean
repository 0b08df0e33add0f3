/- Texts of one proof, one behind the other: BtEnd, ShP, ShCmd, BtRead, ShRead, ShSt, ShAp1. -/
import Derived.Test.YtdkkpkgfiodlbaaJa13
import Derived.Test.YtdkkpkgfiodlbaaJa14
import Derived.Test.YtdkkpkgfiodlbaaJa12
import Derived.Test.YtdkkpkgfiodlbaaJa5
import Derived.Test.YtdkkpkgfiodlbaaJa4
set_option linter.all false
/- (*bits.Reader).End; bits.Read. -/
namespace Go.Proofs.Ytdkkpkgfiodlbaa
open Go.RowKit

theorem last_and {b n : Nat} (hb : b < 256) (hn : n ≤ 7) : bits .and .u8 (b : Int) ((2 ^ n - 1) % 256) = ((b % 2 ^ n : Nat) : Int) := by
  have h2 : ((2 : Int) ^ n - 1) % 256 = ((2 ^ n - 1 : Nat) : Int) := by
    rcases (show n = 0 ∨ n = 1 ∨ n = 2 ∨ n = 3 ∨ n = 4 ∨ n = 5 ∨ n = 6 ∨ n = 7 by omega) with rfl | rfl | rfl | rfl | rfl | rfl | rfl | rfl <;> decide
  have hp : 2 ^ n ≤ 2 ^ 7 := Nat.pow_le_pow_right (by decide) hn
  rw [h2, u8_and_nat b _ hb (by omega), Nat.and_two_pow_sub_one_eq_mod]
set_option maxHeartbeats 4000000 in
set_option maxRecDepth 100000 in
theorem end_call {base p : Nat} {s : Rd} (w : World) (h : RdrS base p s w) :
    Calls Try.prog 53 #[.pointer (some ⟨p, 0, none⟩)] w (EndQ s w) := by
  have HW := Lib.hid h
  have c2 := h.badCell
  by_cases hb : s.bad = 0
  · have HB := Lib.hid hb
    have hls : leftS s = s.rest.length := by unfold leftS; rw [if_neg (by simp [hb])]
    obtain ⟨n, hn⟩ : ∃ n, n = s.rest.length := ⟨_, rfl⟩
    rw [← hn] at hls
    have HL := Lib.hid hls
    have HN := Lib.hid hn
    have hbb : (s.bad != 0) = false := by simp [hb]
    obtain ⟨hbp, v, bs, at', hp, ho, hby, hl, hat, hr⟩ := h
    have hle : n = 8 * bs.length - at' := by rw [hn, ← hr]; simp [bitsOf_length]
    have HLE := Lib.hid hle
    clear hls hn hb
    by_cases h7 : 7 < n
    · have h71 : decide ((7 : Int) < n) = true := decide_eq_true (by omega)
      clear hp ho hby hr hle
      go_enter Try.func53, Try.ntmps53
      go_wp2_with (go_at_call 81; refine (left_call w HW.out).mono ?_; rintro e w1 ⟨rfl, n1, rfl⟩; rw [HL.out])
      go_quiet (fail)
      go_wp2_with fail
      go_ret
      exact ⟨12, rfl, ⟨fun h => (by cases h), fun h => (by have h1 := h.2.1; have := HN.out; omega)⟩, fun _ => .inr rfl, fun h => absurd HB.out h, _, World.drewN_drewN _ _ _⟩
    · have h71 : decide ((7 : Int) < n) = false := decide_eq_false (by omega)
      by_cases h0 : n = 0
      · have h01 : decide ((0 : Int) < n) = false := decide_eq_false (by omega)
        have h02 : decide (0 < n) = false := decide_eq_false (by omega)
        have HN0 := Lib.hid h0
        clear hp ho hby hr hle h0
        go_enter Try.func53, Try.ntmps53
        go_wp2_with (go_at_call 81; refine (left_call w HW.out).mono ?_; rintro e w1 ⟨rfl, n1, rfl⟩; rw [HL.out])
        go_quiet (fail)
        go_wp2_with fail
        go_ret
        have he : s.rest = [] := List.length_eq_zero_iff.1 (by rw [← HN.out, HN0.out])
        exact ⟨0, rfl, ⟨fun _ => ⟨HB.out, by rw [he]; simp, by rw [he]; rfl⟩, fun _ => rfl⟩, fun _ => .inl rfl, fun h => absurd HB.out h, _, World.drewN_drewN _ _ _⟩
      · have h01 : decide ((0 : Int) < n) = true := decide_eq_true (by omega)
        have h02 : decide (0 < n) = true := decide_eq_true (by omega)
        rcases ho.2 with ⟨hv, h2⟩ | ⟨g, cap, cur, rfl, hgb, hg, hn2, hm, hs2, ht⟩
        · omega
        have hlen : bs.length - 1 < bs.length := by omega
        obtain ⟨b, hbe⟩ : ∃ b, bs[bs.length - 1]? = some b := ⟨_, List.getElem?_eq_getElem hlen⟩
        have hb256 : b < 256 := hby b (List.mem_of_getElem? hbe)
        have hlb := last_bits hbe hle.symm (by omega) (by omega)
        rw [hr] at hlb
        have hval : valL s.rest = b % 2 ^ n := by rw [hlb, valL_putL]
        have c0 : w.cell? ⟨p, 0, none⟩ = some (.slice (some ⟨g, 0, none⟩) bs.length cap) := by rw [Bt.cell_of hp]; rfl
        have c3 : w.cell? ⟨g, bs.length - 1, none⟩ = some (u8 b) := by
          rw [Bt.cell_of hg]
          have h3 : (bs.map u8)[bs.length - 1]? = some (u8 b) := by rw [List.getElem?_map, hbe]; rfl
          rw [← ht, List.getElem?_take_of_lt (by omega), Array.getElem?_toList] at h3; exact h3
        obtain ⟨m, hm2⟩ : ∃ m, bs.length = m + 1 := ⟨bs.length - 1, by omega⟩
        have hla := last_and hb256 (n := n) (by omega)
        obtain ⟨Y, hY⟩ : ∃ Y, Y = b % 2 ^ n := ⟨_, rfl⟩
        rw [← hY] at hla hval
        clear hY
        have H77 := Lib.hid (show n ≤ 7 by omega)
        have HV := Lib.hid hval
        rw [hm2] at c0 c3
        simp only [Nat.add_sub_cancel] at c3
        have hw1 : IntKind.i64.wrap (m : Int) = (m : Int) := IntWalk.i64_in _ (by omega)
        have hw2 : (((m + 1 : Nat) : Int) - 1) = (m : Int) := by omega
        have hi : (m : Int) < ((m + 1 : Nat) : Int) := by omega
        have hi2 : (m : Int) < (m : Int) + 1 := by omega
        clear hp ho hby hr hle h0 hg hs2 ht hbe hlb hval hm2 hat hn2
        by_cases hy : Y = 0
        · have hy1 : ((Y : Int) != 0) = false := by simp [hy]
          have HY := Lib.hid hy
          clear hy
          go_enter Try.func53, Try.ntmps53
          go_wp2_with (go_at_call 81; refine (left_call w HW.out).mono ?_; rintro e w1 ⟨rfl, n1, rfl⟩; rw [HL.out])
          go_quiet (fail)
          go_wp2_with fail
          go_ret
          exact ⟨0, rfl, ⟨fun _ => ⟨HB.out, by rw [← HN.out]; exact H77.out, by rw [HV.out, HY.out]⟩, fun _ => rfl⟩, fun _ => .inl rfl, fun h => absurd HB.out h, _, World.drewN_drewN _ _ _⟩
        · have hy1 : ((Y : Int) != 0) = true := by simp; exact hy
          have HY := Lib.hid hy
          clear hy
          go_enter Try.func53, Try.ntmps53
          go_wp2_with (go_at_call 81; refine (left_call w HW.out).mono ?_; rintro e w1 ⟨rfl, n1, rfl⟩; rw [HL.out])
          go_quiet (fail)
          go_wp2_with fail
          go_ret
          exact ⟨12, rfl, ⟨fun h => (by cases h), fun h => absurd (HV.out.symm.trans h.2.2) HY.out⟩, fun _ => .inr rfl, fun h => absurd HB.out h, _, World.drewN_drewN _ _ _⟩
  · have HB := Lib.hid hb
    have hbb : (s.bad != 0) = true := by simp [hb]
    clear h hb
    go_enter Try.func53, Try.ntmps53
    go_wp2_with fail
    go_ret
    exact ⟨s.bad, rfl, ⟨fun h => absurd h HB.out, fun h => absurd h.1 HB.out⟩, fun h => absurd h HB.out, fun _ => rfl, 0, rfl⟩

/-- The bits of what was written. -/
theorem bitsOf_btBytes (L : List Bool) : ∃ z, z ≤ 7 ∧ bitsOf (btBytes L) = L ++ List.replicate z false := by
  have hlen : (bitsOf (btBytes L)).length = 8 * ((L.length + 7) / 8) := by rw [bitsOf_length, btBytes_length]
  refine ⟨8 * ((L.length + 7) / 8) - L.length, by omega, ?_⟩
  apply List.ext_getElem?
  intro i
  by_cases hi : i < 8 * ((L.length + 7) / 8)
  · have hj : i / 8 < (L.length + 7) / 8 := by omega
    rw [bitsOf_at _ i _ (btBytes_at hj)]
    have hv : (btByte L (i / 8) / 2 ^ (7 - i % 8) % 2 == 1) = (L[i]? == some true) := by
      have h := fun k => btv_le L (8 * (i / 8) + k)
      have e0 : btv L (8 * (i / 8)) ≤ 1 := btv_le _ _
      have e1 := h 1; have e2 := h 2; have e3 := h 3; have e4 := h 4; have e5 := h 5; have e6 := h 6; have e7 := h 7
      have hb : btv L i = btByte L (i / 8) / 2 ^ (7 - i % 8) % 2 := by
        unfold btByte
        rcases (show i % 8 = 0 ∨ i % 8 = 1 ∨ i % 8 = 2 ∨ i % 8 = 3 ∨ i % 8 = 4 ∨ i % 8 = 5 ∨ i % 8 = 6 ∨ i % 8 = 7 by omega) with hk | hk | hk | hk | hk | hk | hk | hk
        · have : i = 8 * (i / 8) := by omega
          rw [hk]; rw [show btv L i = btv L (8 * (i / 8)) by rw [← this]]; simp only [Nat.reducePow, Nat.reduceSub]; omega
        · rw [hk]; rw [show btv L i = btv L (8 * (i / 8) + 1) by congr 1; omega]; simp only [Nat.reducePow, Nat.reduceSub]; omega
        · rw [hk]; rw [show btv L i = btv L (8 * (i / 8) + 2) by congr 1; omega]; simp only [Nat.reducePow, Nat.reduceSub]; omega
        · rw [hk]; rw [show btv L i = btv L (8 * (i / 8) + 3) by congr 1; omega]; simp only [Nat.reducePow, Nat.reduceSub]; omega
        · rw [hk]; rw [show btv L i = btv L (8 * (i / 8) + 4) by congr 1; omega]; simp only [Nat.reducePow, Nat.reduceSub]; omega
        · rw [hk]; rw [show btv L i = btv L (8 * (i / 8) + 5) by congr 1; omega]; simp only [Nat.reducePow, Nat.reduceSub]; omega
        · rw [hk]; rw [show btv L i = btv L (8 * (i / 8) + 6) by congr 1; omega]; simp only [Nat.reducePow, Nat.reduceSub]; omega
        · rw [hk]; rw [show btv L i = btv L (8 * (i / 8) + 7) by congr 1; omega]; simp only [Nat.reducePow, Nat.reduceSub]; omega
      rw [← hb]; unfold btv
      by_cases ht : L[i]? = some true
      · rw [if_pos ht, ht]; rfl
      · rw [if_neg ht, show (L[i]? == some true) = false by simpa using ht]; rfl
    rw [hv]
    by_cases hL : i < L.length
    · rw [List.getElem?_append_left hL, List.getElem?_eq_getElem hL]
      cases L[i] <;> rfl
    · rw [List.getElem?_append_right (by omega), List.getElem?_eq_none (by omega), List.getElem?_replicate, if_pos (by omega)]; rfl
  · rw [List.getElem?_eq_none (by omega), List.getElem?_eq_none (by simp; omega)]
end Go.Proofs.Ytdkkpkgfiodlbaa

/- Commands in bits. Plain. -/
namespace Go.Proofs.Ytdkkpkgfiodlbaa
/-- A command, in bits. -/
def cmdL (c : Cmd21) : List Bool := intL c.k ++ rdyBL c.r ++ endBL c.e
structure CmdBOk (c : Cmd21) : Prop where
  k : IntOk c.k
  r : RdyBOk c.r
  e : EndOk c.e
theorem cmd_read {s s1 s2 s3 : Rd} {a : Int} {r : Rdy} {e : EndM} (h1 : RdOK intL IntOk s s1 a) (h2 : RdOK rdyBL RdyBOk s1 s2 r) (h3 : RdOK endBL EndOk s2 s3 e) : RdOK cmdL CmdBOk s s3 ⟨a, r, e⟩ :=
  ((h1.seq h2).seq h3).map (fun z => (⟨z.1.1, z.1.2, z.2⟩ : Cmd21)) (fun c => ((c.k, c.r), c.e)) (fun c hc => ⟨⟨⟨hc.k, hc.r⟩, hc.e⟩, by simp [cmdL], rfl⟩) (fun z hz => ⟨⟨hz.1.1, hz.1.2, hz.2⟩, by simp [cmdL]⟩)
/-- The same transaction, each of its operations a write. -/
def killK (r : Rdy) : Rdy := ⟨r.txn, r.home, r.start, r.writes.map (fun o => ⟨2, o.key, o.val⟩), r.reads⟩
def killC (c : Cmd21) : Cmd21 := ⟨c.k, killK c.r, c.e⟩
theorem killK_len (r : Rdy) : (killK r).writes.length = r.writes.length := by simp [killK]
theorem killK_bits (r : Rdy) : rdyBL (killK r) = rdyBL r := by
  have : opsBL (r.writes.map (fun o => (⟨2, o.key, o.val⟩ : GOp))) = opsBL r.writes := by
    unfold opsBL; rw [List.flatMap_map]; rfl
  show intL r.txn ++ intL r.home ++ intL r.start ++ numL (r.writes.map _).length ++ opsBL (r.writes.map _) ++ numL r.reads.length ++ intsBL r.reads = _
  rw [this, List.length_map]; rfl
theorem killC_bits (c : Cmd21) : cmdL (killC c) = cmdL c := by unfold cmdL killC; rw [killK_bits]
theorem RdyI.ok {r : Rdy} (h : RdyI r) : RdyOk r := ⟨h.txn, h.home, h.start, fun o ho => (h.ws o ho).2, h.rs⟩
theorem killK_ok {r : Rdy} (h : RdyOk r) (hw : r.writes.length ≤ 1000) (hr : r.reads.length ≤ 1000) : RdyBOk (killK r) := by
  refine ⟨h.txn, h.home, h.start, ⟨by rw [killK_len]; omega, fun o ho => ?_⟩, ⟨by show r.reads.length < _; omega, h.rs⟩⟩
  obtain ⟨x, hx, rfl⟩ := List.mem_map.1 ho
  exact ⟨rfl, h.ws x hx⟩
theorem killK_at {r : Rdy} {k : Nat} {o : GOp} (h : r.writes[k]? = some o) : (killK r).writes[k]? = some ⟨2, o.key, o.val⟩ := by
  show (r.writes.map _)[k]? = _
  rw [List.getElem?_map, h]; rfl
theorem btBytes_lt (L : List Bool) : ∀ b ∈ btBytes L, b < 256 := by
  intro b hb
  obtain ⟨j, _, rfl⟩ := List.mem_map.1 hb
  exact btByte_lt _ _
theorem rdyBL_length {r : Rdy} (h : RdyOk r) (hw : r.writes.length ≤ 20) (hr : r.reads.length ≤ 20) : (rdyBL r).length ≤ 9000 := by
  have hl1 := intL_length h.txn
  have hl2 := intL_length h.home
  have hl3 := intL_length h.start
  have hl4 := numL_length r.writes.length (by omega)
  have hl5 := numL_length r.reads.length (by omega)
  have hl6 := opsBL_length r.writes h.ws
  have hl7 := intsBL_length r.reads h.rs
  simp only [rdyBL, List.length_append]; omega
end Go.Proofs.Ytdkkpkgfiodlbaa

/- (shard.Cmd).Bytes. -/
namespace Go.Proofs.Ytdkkpkgfiodlbaa
open Go.RowKit

def cmdC (c : Cmd21) (wv rv : Value) : Array Value := #[vi c.k, vi c.r.txn, vi c.r.home, vi c.r.start, wv, rv, vi c.e.txn, .bool c.e.commit, vi c.e.at_]
def cmdV (c : Cmd21) (wv rv : Value) : Value := .agg (cmdC c wv rv)
/-- A command of the law's: its numbers lie in their bounds, its lists are short. -/
structure CmdI (c : Cmd21) : Prop where
  k : IntOk c.k
  r : RdyI c.r
  e : EndI c.e
  lw : c.r.writes.length ≤ 20
  lr : c.r.reads.length ≤ 20
theorem CmdI.endOk {c : Cmd21} (h : CmdI c) : EndOk c.e := ⟨h.e.txn, h.e.at_⟩
theorem CmdI.bok {c : Cmd21} (h : CmdI c) : CmdBOk (killC c) := ⟨h.k, killK_ok h.r.ok (by have := h.lw; omega) (by have := h.lr; omega), h.endOk⟩
theorem cmdL_length {c : Cmd21} (h : CmdI c) : (cmdL c).length ≤ 10000 := by
  have h1 := intL_length h.k
  have h2 := rdyBL_length h.r.ok h.lw h.lr
  have h3 := endBL_length h.endOk
  simp only [cmdL, List.length_append]; omega
set_option maxRecDepth 100000 in
set_option maxHeartbeats 8000000 in
theorem cmdBytes_call (c : Cmd21) (wv rv : Value) (w : World) (hx : RdyS w ⟨wv, rv, c.r⟩) (hi : CmdI c) :
    Calls Try.prog 12 #[cmdV c wv rv] w (BytesQ (cmdL c) w) := by
  obtain ⟨aw, nw, cw, hwv, rfl, hmw, -⟩ := (show RdOps w wv c.r.writes from hx.ws).at
  obtain ⟨ar, nr, cr, hrv, rfl, hmr, -⟩ := (show RdInts w rv c.r.reads from hx.rs).at
  subst hwv hrv
  have HRD := Lib.hid hx
  have HI := Lib.hid hi
  have hln := cmdL_length hi
  have hlk := intL_length hi.k
  have hlr := rdyBL_length hi.r.ok hi.lw hi.lr
  have hle := endBL_length hi.endOk
  have HX0 := Lib.hid (Bt.alloc_at w (.cells (cmdC c (.slice aw c.r.writes.length cw) (.slice ar c.r.reads.length cr)) 33))
  have HB0 := Lib.hid ((Below.refl w.heap.size w).alloc (Nat.le_refl _) (.cells (cmdC c (.slice aw c.r.writes.length cw) (.slice ar c.r.reads.length cr)) 33))
  clear hx hi
  unfold cmdV at *
  unfold cmdC at *
  go_enter Try.func12, Try.ntmps12
  go_upto_region 1 with fail
  generalize w.alloc (.cells #[vi c.k, vi c.r.txn, vi c.r.home, vi c.r.start, .slice aw c.r.writes.length cw, .slice ar c.r.reads.length cr, vi c.e.txn, .bool c.e.commit, vi c.e.at_] 33) = w1 at *
  have HW2 := Lib.hid (show WrS w.heap.size w1.heap.size [] (w1.alloc (.cells #[.slice none 0 0, vi 0] 93)) from ⟨HB0.out.size, .slice none 0 0, Bt.alloc_at w1 _, ⟨rfl, .inl ⟨rfl, rfl⟩⟩⟩)
  have HB2 := Lib.hid (HB0.out.alloc HB0.out.size (.cells #[.slice none 0 0, vi 0] 93))
  have HX2 := Lib.hid ((Below.heap_alloc w1 (.cells #[.slice none 0 0, vi 0] 93) w.heap.size (Array.getElem?_eq_some_iff.1 HX0.out).1).trans HX0.out)
  have hXP : w.heap.size < w1.heap.size := (Array.getElem?_eq_some_iff.1 HX0.out).1
  go_upto_region 2 with fail
  generalize w1.alloc (.cells #[.slice none 0 0, vi 0] 93) = w2 at *
  obtain ⟨X, hX⟩ : ∃ X, X = w.heap.size := ⟨_, rfl⟩
  obtain ⟨p, hp⟩ : ∃ p, p = w1.heap.size := ⟨_, rfl⟩
  rw [← hp] at HW2 hXP ⊢
  rw [← hX] at HX2 hXP ⊢
  have hnX : X ≠ p := by omega
  have HXE := Lib.hid hX
  have HPE := Lib.hid hp
  clear hX hp HX0 HB0
  have hb2 := HB2.out.size
  have c0 : w2.cell? ⟨X, 0, none⟩ = some (vi c.k) := by rw [Bt.cell_of HX2.out]; rfl
  go_upto_region 3 with (go_at_call 33; refine (int_call (L := []) c.k w2 HW2.out HI.out.k.1 HI.out.k.2 (by simp) hb2).mono ?_; rintro e3 w3 ⟨rfl, hw3, hf3⟩; have HW3 := Lib.hid (show WrS w.heap.size p (intL c.k) w3 from hw3); have HF3 := Lib.hid hf3; have hb3 := Nat.le_trans hb2 hf3.size; have HX3 := Lib.hid (hf3.cells HX2.out hnX (by decide)); clear hw3 hf3)
  have d1 : w3.cell? ⟨X, 1, none⟩ = some (vi c.r.txn) := by rw [Bt.cell_of HX3.out]; rfl
  have d2 : w3.cell? ⟨X, 2, none⟩ = some (vi c.r.home) := by rw [Bt.cell_of HX3.out]; rfl
  have d3 : w3.cell? ⟨X, 3, none⟩ = some (vi c.r.start) := by rw [Bt.cell_of HX3.out]; rfl
  have d4 : w3.cell? ⟨X, 4, none⟩ = some (.slice aw c.r.writes.length cw) := by rw [Bt.cell_of HX3.out]; rfl
  have d5 : w3.cell? ⟨X, 5, none⟩ = some (.slice ar c.r.reads.length cr) := by rw [Bt.cell_of HX3.out]; rfl
  have HB3 := Lib.hid (HB2.out.trans (HF3.out.toBelow hb2 HW2.out.1))
  clear c0
  go_upto_region 4 with (go_at_call 34; refine (rdyBits_call (base := w.heap.size) (p := p) (L := intL c.k) ⟨.slice aw c.r.writes.length cw, .slice ar c.r.reads.length cr, c.r⟩ w3 HW3.out hb3 (fun W hW => HRD.out.solid (Solid.below (HB3.out.trans hW))) HI.out.r.ok (by have := HI.out.lw; simp only; omega) (by have := HI.out.lr; simp only; omega) (by omega)).mono ?_; rintro e4 w4 ⟨rfl, hw4, hf4⟩; have HW4 := Lib.hid hw4; have HF4 := Lib.hid hf4; have hb4 := Nat.le_trans hb3 hf4.size; have HX4 := Lib.hid (hf4.cells HX3.out hnX (by decide)); clear hw4 hf4)
  have e6 : w4.cell? ⟨X, 6, none⟩ = some (vi c.e.txn) := by rw [Bt.cell_of HX4.out]; rfl
  have e7 : w4.cell? ⟨X, 7, none⟩ = some (.bool c.e.commit) := by rw [Bt.cell_of HX4.out]; rfl
  have e8 : w4.cell? ⟨X, 8, none⟩ = some (vi c.e.at_) := by rw [Bt.cell_of HX4.out]; rfl
  have hl4 : (intL c.k ++ rdyBL c.r).length ≤ 1000000 := by simp; omega
  clear d1 d2 d3 d4 d5
  go_upto_region 5 with (go_at_call 35; refine (shEnd_call (base := w.heap.size) (p := p) (L := intL c.k ++ rdyBL c.r) c.e w4 HW4.out HI.out.endOk hl4 hb4).mono ?_; rintro e5 w5 ⟨rfl, hw5, hf5⟩; have HW5 := Lib.hid (show WrS w.heap.size p (cmdL c) w5 from hw5); have HF5 := Lib.hid hf5; clear hw5 hf5)
  clear e6 e7 e8
  go_wp2_with (go_at_call 36; refine (bytes_call w5 HW5.out (by omega)).mono ?_; rintro e6 w6 ⟨v6, rfl, ho6, hb6⟩; have HO6 := Lib.hid ho6; have HB6 := Lib.hid hb6; clear ho6 hb6)
  go_ret
  have hB5 : Below w.heap.size w w5 := (HB3.out.trans (HF4.out.toBelow hb3 HW2.out.1)).trans (HF5.out.toBelow hb4 HW2.out.1)
  exact ⟨_, rfl, own_mono HO6.out hB5.size, hB5.trans (HB6.out.mono hB5.size)⟩
end Go.Proofs.Ytdkkpkgfiodlbaa

/- bits.Read. -/
namespace Go.Proofs.Ytdkkpkgfiodlbaa
open Go.RowKit

theorem eltU8_one : ∀ (bs : List Nat), ∀ u ∈ bs.map u8, u.oneCell' = true := by
  intro bs u hu; simp at hu; obtain ⟨a, _, rfl⟩ := hu; rfl
def BReadQ (bs : List Nat) (w : World) (e : Ending) (w' : World) : Prop :=
  ∃ p, e = .returned (.pointer (some ⟨p, 0, none⟩)) ∧ RdrS w.heap.size p ⟨bitsOf bs, 0⟩ w' ∧ Below w.heap.size w w'
set_option maxRecDepth 100000 in
set_option maxHeartbeats 4000000 in
theorem readB_call {bs : List Nat} {v : Value} (w : World) (h : Src w v 1 bs.length (bs.map u8)) (hb : ∀ b ∈ bs, b < 256) (hl : bs.length ≤ 1048576) :
    Calls Try.prog 49 #[v] w (BReadQ bs w) := by
  have HS := Lib.hid h
  have HB := Lib.hid hb
  have HL := Lib.hid hl
  have hl2 : 0 + bs.length ≤ 68719476736 := by omega
  clear h hb hl
  go_enter Try.func49, Try.ntmps49
  go_wp2_with (refine wpList_append_src rfl (.const (.slice none 0 0)) (.tmp 3) 39 rfl eltU8 w.heap.size 0 [] (World.ownsRow_nil _ _ _ _) rfl bs.length (bs.map u8) HS.out rfl (eltU8_one bs) hl2 (by omega) (Nat.le_refl _) ?_; intro v1 w1 ho1 hg1 _; obtain ⟨a1, c1, rfl⟩ := Bt.own_shape ho1; have HO1 := Lib.hid ho1; have HG1 := Lib.hid hg1; clear ho1 hg1)
  go_ret
  have hbel : Below w.heap.size w w1 := below_grown HG1.out (Nat.le_refl _) (by simp [Value.ownBlock])
  have ho : OwU w.heap.size w1 (.slice a1 bs.length c1) bs := by
    have := HO1.out
    simp only [Nat.zero_add, List.nil_append] at this; exact this
  refine ⟨w1.heap.size, rfl, ⟨hbel.size, .slice a1 bs.length c1, bs, 0, ?_, ?_, HB.out, HL.out, Nat.zero_le _, rfl⟩, hbel.alloc hbel.size _⟩
  · exact Bt.alloc_at _ _
  · exact own_below ho ((Below.refl _ _).alloc (Nat.le_refl _) _)
end Go.Proofs.Ytdkkpkgfiodlbaa

/- shard.Read. -/
namespace Go.Proofs.Ytdkkpkgfiodlbaa
open Go.RowKit

def zeroC : Cmd21 := ⟨0, ⟨0, 0, 0, [], []⟩, ⟨0, false, 0⟩⟩
/-- What reading a command's bytes gives. -/
structure CmdRd (bs : List Nat) (w w' : World) (c : Cmd21) (wv rv : Value) (err : Int) : Prop where
  bel : Below w.heap.size w w'
  ws : OwOps w.heap.size w' wv c.r.writes
  rs : OwI w.heap.size w' rv c.r.reads
  yes : err = 0 → 1 ≤ c.k ∧ c.k ≤ 5 ∧ CmdBOk c ∧ ∃ z, z ≤ 7 ∧ bitsOf bs = cmdL c ++ List.replicate z false
  no : err ≠ 0 → c = zeroC
  all : ∀ c' z, CmdBOk c' → z ≤ 7 → bitsOf bs = cmdL c' ++ List.replicate z false → (1 ≤ c'.k ∧ c'.k ≤ 5 → err = 0 ∧ c = c') ∧ (¬ (1 ≤ c'.k ∧ c'.k ≤ 5) → err = 14)
def CmdRQ (bs : List Nat) (w : World) (e : Ending) (w' : World) : Prop := ∃ c wv rv err, e = .returned (.tuple #[cmdV c wv rv, vi err]) ∧ CmdRd bs w w' c wv rv err
theorem falses_end {l : List Bool} (h : l.length ≤ 7) (h0 : valL l = 0) : ∃ z, z ≤ 7 ∧ l = List.replicate z false := ⟨l.length, h, valL_zero l h0⟩

theorem gro_below {w w' : World} {B q : Nat} (h : w.grownBy w' (some q)) (hq : B ≤ q) (hB : B ≤ w.heap.size) : Below B w w' :=
  ⟨h.os, h.tape, h.output, h.size, fun j hj => h.block j (by omega) (fun e => by have := Option.some.inj e; omega)⟩
theorem own_gro {A B : World} {base e size n q : Nat} {v : Value} {xs : List Value} (h : A.ownsRow base e size v n xs) (hg : A.grownBy B (some q)) (hq : q < base) : B.ownsRow base e size v n xs := h.kept hg (own_ne h hq)
theorem setCells_below (b : Nat) (cs : List Value) (o : Nat) (w : World) {B : Nat} (hB : B ≤ b) (hw : B ≤ w.heap.size) : Below B w (w.setCells b o cs) := by
  have h := setCells_grown b cs o w
  exact ⟨h.os, h.tape, h.output, h.size, fun j hj => h.block j (by omega) (fun e => by have := Option.some.inj e; omega)⟩
/-- A whole block set anew. -/
theorem setCells_all {w : World} {b : Nat} {T : TypeId} {cur : Array Value} {cs : List Value} (h : w.heap[b]? = some (.cells cur T)) (hl : cs.length = cur.size) : (w.setCells b 0 cs).heap[b]? = some (.cells cs.toArray T) := by
  rw [setCells_block b T (0, 0) cs 0 w cur h (by omega)]
  congr 2
  simp [splice, hl]
theorem own_setAll {A : World} {b e size n Y : Nat} {v : Value} {xs : List Value} (h : A.ownsRow b e size v n xs) {cs : Array Value} {T : TypeId} (hY : A.heap[Y]? = some (.cells cs T)) (h1 : T ≠ e) (o : Nat) (us : List Value) : (A.setCells Y o us).ownsRow b e size v n xs :=
  Bt.own_frame h (fun g hg => setCells_other Y us o A g (fun e => by
    subst e
    rcases h.2 with ⟨hv, _⟩ | ⟨g', cap, cur, hv, _, hh, _⟩
    · rw [hv] at hg; cases hg
    · rw [hv] at hg; simp only [Value.ownBlock, Option.some.injEq] at hg; subst hg; rw [hY] at hh; cases hh; exact h1 rfl))
set_option maxRecDepth 100000 in
set_option maxHeartbeats 8000000 in
theorem shRead_call {bs : List Nat} {v : Value} (w : World) (h : Src w v 1 bs.length (bs.map u8)) (hb : ∀ b ∈ bs, b < 256) (hl : bs.length ≤ 1048576) :
    Calls Try.prog 23 #[v] w (CmdRQ bs w) := by
  have HSR := Lib.hid (fun o => h.below ((Below.refl w.heap.size w).alloc (Nat.le_refl _) o))
  have HB := Lib.hid hb
  have HZ0 := Lib.hid (Bt.alloc_at w (.cells #[vi 0, vi 0, vi 0, vi 0, .slice none 0 0, .slice none 0 0, vi 0, .bool false, vi 0] 33))
  have HB0 := Lib.hid ((Below.refl w.heap.size w).alloc (Nat.le_refl _) (.cells #[vi 0, vi 0, vi 0, vi 0, .slice none 0 0, .slice none 0 0, vi 0, .bool false, vi 0] 33))
  clear h hb
  go_enter Try.func23, Try.ntmps23
  go_upto_region 1 with fail
  have HSR1 := Lib.hid (HSR.out (.cells #[vi 0, vi 0, vi 0, vi 0, .slice none 0 0, .slice none 0 0, vi 0, .bool false, vi 0] 33))
  clear HSR
  generalize w.alloc (.cells #[vi 0, vi 0, vi 0, vi 0, .slice none 0 0, .slice none 0 0, vi 0, .bool false, vi 0] 33) = w1 at *
  have hX1 := (Array.getElem?_eq_some_iff.1 HZ0.out).1
  obtain ⟨X, hX⟩ : ∃ X, X = w.heap.size := ⟨_, rfl⟩
  rw [← hX] at HZ0 hX1 ⊢
  have HXE := Lib.hid hX
  clear hX
  go_upto_region 2 with (go_at_call 49; refine (readB_call (bs := bs) w1 HSR1.out HB.out hl).mono ?_; rintro e2 w2 ⟨q, rfl, hrd2, hbe2⟩; have HRD2 := Lib.hid hrd2; have HBE2 := Lib.hid hbe2; clear hrd2 hbe2)
  have hq1 := HRD2.out.1
  have hqX : X ≠ q := by omega
  have HZ2 := Lib.hid ((HBE2.out.block X hX1).trans HZ0.out)
  have HB2 := Lib.hid (HB0.out.trans (HBE2.out.mono HB0.out.size))
  have hX2 := Nat.lt_of_lt_of_le hX1 HBE2.out.size
  have hneq : some X ≠ some q := fun e => hqX (Option.some.inj e)
  clear HZ0 HB0 HBE2 HSR1
  go_wp2_with fail
  refine (intR_call w2 HRD2.out).mono ?_
  rintro e3 w3 ⟨ck, s3, rfl, hck, hr3, hs3, hg3⟩
  have HR3 := Lib.hid hr3
  have HS3 := Lib.hid hs3
  have HG3 := Lib.hid hg3
  clear hr3 hs3 hg3
  dsimp only
  go_wp2_with fail
  refine (rdyR_call w3 HS3.out).mono ?_
  rintro e4 w4 ⟨⟨yw, yr, ry⟩, s4, rfl, how, hor, hyok, hl1, hl2, hr4, hs4, hg4⟩
  obtain ⟨aY, cY, rfl⟩ := Bt.own_shape (show w4.ownsRow w3.heap.size 104 3 yw ry.writes.length (ry.writes.flatMap opV) from how)
  obtain ⟨aR, cR, rfl⟩ := Bt.own_shape (show w4.ownsRow w3.heap.size 3 1 yr ry.reads.length (ry.reads.flatMap viC) from hor)
  have HOW := Lib.hid how
  have HOR := Lib.hid hor
  have HOK := Lib.hid hyok
  have HR4 := Lib.hid hr4
  have HS4 := Lib.hid hs4
  have HG4 := Lib.hid hg4
  clear how hor hyok hl1 hl2 hr4 hs4 hg4
  unfold rdyV rdyC
  dsimp only
  go_wp2_with fail
  refine (readEnd_call w4 HS4.out).mono ?_
  rintro e5 w5 ⟨⟨etx, eco, eat⟩, s5, rfl, heok, hr5, hs5, hg5⟩
  have HR5 := Lib.hid hr5
  have HS5 := Lib.hid hs5
  have HG5 := Lib.hid hg5
  clear hr5 hs5 hg5
  unfold endV
  dsimp only
  go_upto_region 3 with fail
  have hG35 := gro_trans (gro_trans HG3.out HG4.out) HG5.out
  have hX5 := Nat.lt_of_lt_of_le hX2 hG35.size
  have HZ5 := Lib.hid ((hG35.block X hX2 hneq).trans HZ2.out)
  have HB5 := Lib.hid (HB2.out.trans (gro_below hG35 (by have := HXE.out; omega) HB2.out.size))
  have hq3 : q < w3.heap.size := Nat.lt_of_lt_of_le HRD2.out.lt HG3.out.size
  have HRC := Lib.hid (cmd_read HR3.out HR4.out HR5.out)
  have HOW5 := Lib.hid (show OwOps w3.heap.size w5 (.slice aY ry.writes.length cY) ry.writes from own_gro HOW.out HG5.out hq3)
  have HOR5 := Lib.hid (show OwI w3.heap.size w5 (.slice aR ry.reads.length cR) ry.reads from own_gro HOR.out HG5.out hq3)
  have hw3 : w.heap.size ≤ w3.heap.size := Nat.le_trans HB2.out.size HG3.out.size
  have hw5 : w.heap.size ≤ w5.heap.size := HB5.out.size
  have HS6 := Lib.hid (HS5.out.later ((Below.refl w5.heap.size w5).alloc (Nat.le_refl _) (.cells #[vi ck, vi ry.txn, vi ry.home, vi ry.start, .slice aY ry.writes.length cY, .slice aR ry.reads.length cR, vi etx, .bool eco, vi eat] 33)))
  have HZ6 := Lib.hid ((Below.heap_alloc w5 (.cells #[vi ck, vi ry.txn, vi ry.home, vi ry.start, .slice aY ry.writes.length cY, .slice aR ry.reads.length cR, vi etx, .bool eco, vi eat] 33) X hX5).trans HZ5.out)
  have HY6 := Lib.hid (Bt.alloc_at w5 (.cells #[vi ck, vi ry.txn, vi ry.home, vi ry.start, .slice aY ry.writes.length cY, .slice aR ry.reads.length cR, vi etx, .bool eco, vi eat] 33))
  have HB6 := Lib.hid (HB5.out.alloc hw5 (.cells #[vi ck, vi ry.txn, vi ry.home, vi ry.start, .slice aY ry.writes.length cY, .slice aR ry.reads.length cR, vi etx, .bool eco, vi eat] 33))
  have HOW6 := Lib.hid (own_below HOW5.out ((Below.refl w5.heap.size w5).alloc (Nat.le_refl _) (.cells #[vi ck, vi ry.txn, vi ry.home, vi ry.start, .slice aY ry.writes.length cY, .slice aR ry.reads.length cR, vi etx, .bool eco, vi eat] 33)))
  have HOR6 := Lib.hid (own_below HOR5.out ((Below.refl w5.heap.size w5).alloc (Nat.le_refl _) (.cells #[vi ck, vi ry.txn, vi ry.home, vi ry.start, .slice aY ry.writes.length cY, .slice aR ry.reads.length cR, vi etx, .bool eco, vi eat] 33)))
  clear HR3 HR4 HR5 HS3 HS4 HS5 HG3 HG4 HG5 HOW HOR HZ2 HZ5 HB5 HB2 HOW5 HOR5 hG35 HRD2
  generalize w5.alloc (.cells #[vi ck, vi ry.txn, vi ry.home, vi ry.start, .slice aY ry.writes.length cY, .slice aR ry.reads.length cR, vi etx, .bool eco, vi eat] 33) = w6 at *
  obtain ⟨Y, hY⟩ : ∃ Y, Y = w5.heap.size := ⟨_, rfl⟩
  rw [← hY] at HY6 ⊢
  have HYE := Lib.hid hY
  clear hY
  go_upto_region 4 with (go_at_call 53; refine (end_call w6 HS6.out).mono ?_; rintro e7 w7 ⟨x, rfl, hx1, hx2, hx3, n7, rfl⟩)
  have HX1 := Lib.hid hx1
  clear hx1 hx2 hx3
  have HZ7 := Lib.hid (show (w6.drewN n7).heap[X]? = _ from HZ6.out)
  have HY7 := Lib.hid (show (w6.drewN n7).heap[Y]? = _ from HY6.out)
  have HB7 := Lib.hid (show Below w.heap.size w (w6.drewN n7) from ⟨HB6.out.os, HB6.out.tape, HB6.out.output, HB6.out.size, HB6.out.block⟩)
  have HOW7 := Lib.hid (show OwOps w3.heap.size (w6.drewN n7) _ _ from HOW6.out)
  have HOR7 := Lib.hid (show OwI w3.heap.size (w6.drewN n7) _ _ from HOR6.out)
  have HALL := Lib.hid (show ∀ c' z, CmdBOk c' → z ≤ 7 → bitsOf bs = cmdL c' ++ List.replicate z false → (⟨ck, ry, ⟨etx, eco, eat⟩⟩ : Cmd21) = c' ∧ x = 0 from fun c' z h1 h2 h3 => by
    obtain ⟨a, b, d⟩ := HRC.out.1 rfl c' _ h1 h3
    exact ⟨a, HX1.out.2 ⟨d, by rw [b]; simpa using h2, by rw [b]; exact valL_falses z⟩⟩)
  clear HZ6 HY6 HB6 HOW6 HOR6 HS6
  generalize w6.drewN n7 = w7 at *
  have hXw : w.heap.size ≤ X := by rw [HXE.out]; exact Nat.le_refl _
  have hb7 := HB7.out.size
  have xf : ∀ o, w7.frozen? ⟨X, o, none⟩ = false := fun o => Bt.free_of HZ7.out o
  have x0 : w7.cell? ⟨X, 0, none⟩ = some (vi 0) := by rw [Bt.cell_of HZ7.out]; rfl
  have x1 : w7.cell? ⟨X, 1, none⟩ = some (vi 0) := by rw [Bt.cell_of HZ7.out]; rfl
  have x2 : w7.cell? ⟨X, 2, none⟩ = some (vi 0) := by rw [Bt.cell_of HZ7.out]; rfl
  have x3 : w7.cell? ⟨X, 3, none⟩ = some (vi 0) := by rw [Bt.cell_of HZ7.out]; rfl
  have x4 : w7.cell? ⟨X, 4, none⟩ = some (.slice none 0 0) := by rw [Bt.cell_of HZ7.out]; rfl
  have x5 : w7.cell? ⟨X, 5, none⟩ = some (.slice none 0 0) := by rw [Bt.cell_of HZ7.out]; rfl
  have x6 : w7.cell? ⟨X, 6, none⟩ = some (vi 0) := by rw [Bt.cell_of HZ7.out]; rfl
  have x7 : w7.cell? ⟨X, 7, none⟩ = some (.bool false) := by rw [Bt.cell_of HZ7.out]; rfl
  have x8 : w7.cell? ⟨X, 8, none⟩ = some (vi 0) := by rw [Bt.cell_of HZ7.out]; rfl
  have HZERO := Lib.hid (show ∀ err : Int, err ≠ 0 → (∀ c' z, CmdBOk c' → z ≤ 7 → bitsOf bs = cmdL c' ++ List.replicate z false → ¬ (1 ≤ c'.k ∧ c'.k ≤ 5) ∧ err = 14) → CmdRd bs w (w7.setCells X 0 [vi 0, vi 0, vi 0, vi 0, .slice none 0 0, .slice none 0 0, vi 0, .bool false, vi 0]) zeroC (.slice none 0 0) (.slice none 0 0) err from fun err h0 hA =>
    ⟨HB7.out.trans (setCells_below X _ 0 w7 hXw hb7), World.ownsRow_nil _ _ _ _, World.ownsRow_nil _ _ _ _, fun h => absurd h h0, fun _ => rfl, fun c' z h1 h2 h3 => ⟨fun hk => absurd hk (hA c' z h1 h2 h3).1, fun _ => (hA c' z h1 h2 h3).2⟩⟩)
  have HZS := Lib.hid (setCells_all (cs := [vi 0, vi 0, vi 0, vi 0, .slice none 0 0, .slice none 0 0, vi 0, .bool false, vi 0]) HZ7.out rfl)
  by_cases hx : x = 0
  · have hb1 : (x != 0) = false := by simp [hx]
    have HX0 := Lib.hid hx
    clear hx
    have y0 : w7.cell? ⟨Y, 0, none⟩ = some (vi ck) := by rw [Bt.cell_of HY7.out]; rfl
    by_cases hk : 1 ≤ ck ∧ ck ≤ 5
    · have k1 : decide (ck < 1) = false := decide_eq_false (by omega)
      have k2 : decide ((5 : Int) < ck) = false := decide_eq_false (by omega)
      have y1 : w7.cell? ⟨Y, 1, none⟩ = some (vi ry.txn) := by rw [Bt.cell_of HY7.out]; rfl
      have y2 : w7.cell? ⟨Y, 2, none⟩ = some (vi ry.home) := by rw [Bt.cell_of HY7.out]; rfl
      have y3 : w7.cell? ⟨Y, 3, none⟩ = some (vi ry.start) := by rw [Bt.cell_of HY7.out]; rfl
      have y4 : w7.cell? ⟨Y, 4, none⟩ = some (.slice aY ry.writes.length cY) := by rw [Bt.cell_of HY7.out]; rfl
      have y5 : w7.cell? ⟨Y, 5, none⟩ = some (.slice aR ry.reads.length cR) := by rw [Bt.cell_of HY7.out]; rfl
      have y6 : w7.cell? ⟨Y, 6, none⟩ = some (vi etx) := by rw [Bt.cell_of HY7.out]; rfl
      have y7 : w7.cell? ⟨Y, 7, none⟩ = some (.bool eco) := by rw [Bt.cell_of HY7.out]; rfl
      have y8 : w7.cell? ⟨Y, 8, none⟩ = some (vi eat) := by rw [Bt.cell_of HY7.out]; rfl
      go_wp2_with fail
      change bodyPost _ _ _ _ _ (w7.setCells X 0 [vi ck, vi ry.txn, vi ry.home, vi ry.start, .slice aY ry.writes.length cY, .slice aR ry.reads.length cR, vi etx, .bool eco, vi eat])
      have HZR := Lib.hid (show CmdRd bs w (w7.setCells X 0 [vi ck, vi ry.txn, vi ry.home, vi ry.start, .slice aY ry.writes.length cY, .slice aR ry.reads.length cR, vi etx, .bool eco, vi eat]) ⟨ck, ry, ⟨etx, eco, eat⟩⟩ (.slice aY ry.writes.length cY) (.slice aR ry.reads.length cR) 0 from ⟨HB7.out.trans (setCells_below X _ 0 w7 hXw hb7), own_mono (own_setAll HOW7.out HZ7.out (by decide) 0 _) hw3, own_mono (own_setAll HOR7.out HZ7.out (by decide) 0 _) hw3, fun _ => ⟨hk.1, hk.2, (HRC.out.2 (HX1.out.1 HX0.out).1).2.1, (by obtain ⟨z, hz, he⟩ := falses_end (HX1.out.1 HX0.out).2.1 (HX1.out.1 HX0.out).2.2; exact ⟨z, hz, by rw [← he]; exact (HRC.out.2 (HX1.out.1 HX0.out).1).2.2⟩)⟩, fun h => absurd rfl h, fun c' z h1 h2 h3 => ⟨fun _ => ⟨rfl, (HALL.out c' z h1 h2 h3).1⟩, fun hn => absurd (by rw [← (HALL.out c' z h1 h2 h3).1]; exact hk) hn⟩⟩)
      have HZC := Lib.hid (setCells_all (cs := [vi ck, vi ry.txn, vi ry.home, vi ry.start, .slice aY ry.writes.length cY, .slice aR ry.reads.length cR, vi etx, .bool eco, vi eat]) HZ7.out rfl)
      clear x0 x1 x2 x3 x4 x5 x6 x7 x8 xf HZS HZERO
      generalize w7.setCells X 0 [vi ck, vi ry.txn, vi ry.home, vi ry.start, .slice aY ry.writes.length cY, .slice aR ry.reads.length cR, vi etx, .bool eco, vi eat] = wz at *
      have r0 : wz.cell? ⟨X, 0, none⟩ = some (vi ck) := by rw [Bt.cell_of HZC.out]; rfl
      have r1 : wz.cell? ⟨X, 1, none⟩ = some (vi ry.txn) := by rw [Bt.cell_of HZC.out]; rfl
      have r2 : wz.cell? ⟨X, 2, none⟩ = some (vi ry.home) := by rw [Bt.cell_of HZC.out]; rfl
      have r3 : wz.cell? ⟨X, 3, none⟩ = some (vi ry.start) := by rw [Bt.cell_of HZC.out]; rfl
      have r4 : wz.cell? ⟨X, 4, none⟩ = some (.slice aY ry.writes.length cY) := by rw [Bt.cell_of HZC.out]; rfl
      have r5 : wz.cell? ⟨X, 5, none⟩ = some (.slice aR ry.reads.length cR) := by rw [Bt.cell_of HZC.out]; rfl
      have r6 : wz.cell? ⟨X, 6, none⟩ = some (vi etx) := by rw [Bt.cell_of HZC.out]; rfl
      have r7 : wz.cell? ⟨X, 7, none⟩ = some (.bool eco) := by rw [Bt.cell_of HZC.out]; rfl
      have r8 : wz.cell? ⟨X, 8, none⟩ = some (vi eat) := by rw [Bt.cell_of HZC.out]; rfl
      refine bodyPost_ret (v := .tuple #[cmdV ⟨ck, ry, ⟨etx, eco, eat⟩⟩ (.slice aY ry.writes.length cY) (.slice aR ry.reads.length cR), vi 0]) (by simp [results, Try.results23, go_sem, cmdV, cmdC, zeroC, r0, r1, r2, r3, r4, r5, r6, r7, r8]) rfl ⟨_, _, _, _, rfl, HZR.out⟩
    · have HK := Lib.hid hk
      by_cases hk1 : ck < 1
      · have k1 : decide (ck < 1) = true := decide_eq_true hk1
        go_wp2_with fail
        change bodyPost _ _ _ _ _ (w7.setCells X 0 [vi 0, vi 0, vi 0, vi 0, .slice none 0 0, .slice none 0 0, vi 0, .bool false, vi 0])
        have HZR := Lib.hid (HZERO.out 14 (by decide) (fun c' z h1 h2 h3 => ⟨by rw [← (HALL.out c' z h1 h2 h3).1]; exact HK.out, rfl⟩))
        have HZC := Lib.hid (setCells_all (cs := [vi 0, vi 0, vi 0, vi 0, .slice none 0 0, .slice none 0 0, vi 0, .bool false, vi 0]) HZ7.out rfl)
        clear x0 x1 x2 x3 x4 x5 x6 x7 x8 xf HZS HZERO
        generalize w7.setCells X 0 [vi 0, vi 0, vi 0, vi 0, .slice none 0 0, .slice none 0 0, vi 0, .bool false, vi 0] = wz at *
        have r0 : wz.cell? ⟨X, 0, none⟩ = some (vi 0) := by rw [Bt.cell_of HZC.out]; rfl
        have r1 : wz.cell? ⟨X, 1, none⟩ = some (vi 0) := by rw [Bt.cell_of HZC.out]; rfl
        have r2 : wz.cell? ⟨X, 2, none⟩ = some (vi 0) := by rw [Bt.cell_of HZC.out]; rfl
        have r3 : wz.cell? ⟨X, 3, none⟩ = some (vi 0) := by rw [Bt.cell_of HZC.out]; rfl
        have r4 : wz.cell? ⟨X, 4, none⟩ = some (.slice none 0 0) := by rw [Bt.cell_of HZC.out]; rfl
        have r5 : wz.cell? ⟨X, 5, none⟩ = some (.slice none 0 0) := by rw [Bt.cell_of HZC.out]; rfl
        have r6 : wz.cell? ⟨X, 6, none⟩ = some (vi 0) := by rw [Bt.cell_of HZC.out]; rfl
        have r7 : wz.cell? ⟨X, 7, none⟩ = some (.bool false) := by rw [Bt.cell_of HZC.out]; rfl
        have r8 : wz.cell? ⟨X, 8, none⟩ = some (vi 0) := by rw [Bt.cell_of HZC.out]; rfl
        refine bodyPost_ret (v := .tuple #[cmdV zeroC (.slice none 0 0) (.slice none 0 0), vi 14]) (by simp [results, Try.results23, go_sem, cmdV, cmdC, zeroC, r0, r1, r2, r3, r4, r5, r6, r7, r8]) rfl ⟨_, _, _, _, rfl, HZR.out⟩
      · have k1 : decide (ck < 1) = false := decide_eq_false hk1
        have k2 : decide ((5 : Int) < ck) = true := decide_eq_true (by omega)
        go_wp2_with fail
        change bodyPost _ _ _ _ _ (w7.setCells X 0 [vi 0, vi 0, vi 0, vi 0, .slice none 0 0, .slice none 0 0, vi 0, .bool false, vi 0])
        have HZR := Lib.hid (HZERO.out 14 (by decide) (fun c' z h1 h2 h3 => ⟨by rw [← (HALL.out c' z h1 h2 h3).1]; exact HK.out, rfl⟩))
        have HZC := Lib.hid (setCells_all (cs := [vi 0, vi 0, vi 0, vi 0, .slice none 0 0, .slice none 0 0, vi 0, .bool false, vi 0]) HZ7.out rfl)
        clear x0 x1 x2 x3 x4 x5 x6 x7 x8 xf HZS HZERO
        generalize w7.setCells X 0 [vi 0, vi 0, vi 0, vi 0, .slice none 0 0, .slice none 0 0, vi 0, .bool false, vi 0] = wz at *
        have r0 : wz.cell? ⟨X, 0, none⟩ = some (vi 0) := by rw [Bt.cell_of HZC.out]; rfl
        have r1 : wz.cell? ⟨X, 1, none⟩ = some (vi 0) := by rw [Bt.cell_of HZC.out]; rfl
        have r2 : wz.cell? ⟨X, 2, none⟩ = some (vi 0) := by rw [Bt.cell_of HZC.out]; rfl
        have r3 : wz.cell? ⟨X, 3, none⟩ = some (vi 0) := by rw [Bt.cell_of HZC.out]; rfl
        have r4 : wz.cell? ⟨X, 4, none⟩ = some (.slice none 0 0) := by rw [Bt.cell_of HZC.out]; rfl
        have r5 : wz.cell? ⟨X, 5, none⟩ = some (.slice none 0 0) := by rw [Bt.cell_of HZC.out]; rfl
        have r6 : wz.cell? ⟨X, 6, none⟩ = some (vi 0) := by rw [Bt.cell_of HZC.out]; rfl
        have r7 : wz.cell? ⟨X, 7, none⟩ = some (.bool false) := by rw [Bt.cell_of HZC.out]; rfl
        have r8 : wz.cell? ⟨X, 8, none⟩ = some (vi 0) := by rw [Bt.cell_of HZC.out]; rfl
        refine bodyPost_ret (v := .tuple #[cmdV zeroC (.slice none 0 0) (.slice none 0 0), vi 14]) (by simp [results, Try.results23, go_sem, cmdV, cmdC, zeroC, r0, r1, r2, r3, r4, r5, r6, r7, r8]) rfl ⟨_, _, _, _, rfl, HZR.out⟩
  · have hb1 : (x != 0) = true := by simp [hx]
    have HX0 := Lib.hid hx
    clear hx
    go_wp2_with fail
    change bodyPost _ _ _ _ _ (w7.setCells X 0 [vi 0, vi 0, vi 0, vi 0, .slice none 0 0, .slice none 0 0, vi 0, .bool false, vi 0])
    have HZR := Lib.hid (HZERO.out x HX0.out (fun c' z h1 h2 h3 => absurd (HALL.out c' z h1 h2 h3).2 HX0.out))
    have HZC := Lib.hid (setCells_all (cs := [vi 0, vi 0, vi 0, vi 0, .slice none 0 0, .slice none 0 0, vi 0, .bool false, vi 0]) HZ7.out rfl)
    clear x0 x1 x2 x3 x4 x5 x6 x7 x8 xf HZS HZERO
    generalize w7.setCells X 0 [vi 0, vi 0, vi 0, vi 0, .slice none 0 0, .slice none 0 0, vi 0, .bool false, vi 0] = wz at *
    have r0 : wz.cell? ⟨X, 0, none⟩ = some (vi 0) := by rw [Bt.cell_of HZC.out]; rfl
    have r1 : wz.cell? ⟨X, 1, none⟩ = some (vi 0) := by rw [Bt.cell_of HZC.out]; rfl
    have r2 : wz.cell? ⟨X, 2, none⟩ = some (vi 0) := by rw [Bt.cell_of HZC.out]; rfl
    have r3 : wz.cell? ⟨X, 3, none⟩ = some (vi 0) := by rw [Bt.cell_of HZC.out]; rfl
    have r4 : wz.cell? ⟨X, 4, none⟩ = some (.slice none 0 0) := by rw [Bt.cell_of HZC.out]; rfl
    have r5 : wz.cell? ⟨X, 5, none⟩ = some (.slice none 0 0) := by rw [Bt.cell_of HZC.out]; rfl
    have r6 : wz.cell? ⟨X, 6, none⟩ = some (vi 0) := by rw [Bt.cell_of HZC.out]; rfl
    have r7 : wz.cell? ⟨X, 7, none⟩ = some (.bool false) := by rw [Bt.cell_of HZC.out]; rfl
    have r8 : wz.cell? ⟨X, 8, none⟩ = some (vi 0) := by rw [Bt.cell_of HZC.out]; rfl
    refine bodyPost_ret (v := .tuple #[cmdV zeroC (.slice none 0 0) (.slice none 0 0), vi x]) (by simp [results, Try.results23, go_sem, cmdV, cmdC, zeroC, r0, r1, r2, r3, r4, r5, r6, r7, r8]) rfl ⟨_, _, _, _, rfl, HZR.out⟩
end Go.Proofs.Ytdkkpkgfiodlbaa

/- A shard in memory. -/
namespace Go.Proofs.Ytdkkpkgfiodlbaa
open Go.RowKit Go.Maps

theorem Turns.toBelow' {bs : List Nat} {base : Nat} {a b : World} (h : Turns bs a b) (hs : base ≤ a.heap.size) (hb : ∀ k ∈ bs, base ≤ k) : Below base a b :=
  ⟨h.os, h.tape, h.output, h.size, fun k hk => h.block k (by omega) (fun hm => by have := hb k hm; omega)⟩
structure ShS (base p ps mk mr me md : Nat) (serial : Bool) (bugs stamps now : Int) (K : KeysL) (R : RdyL) (E D : EndL) (W : World) : Prop where
  blk : W.heap[p]? = some (.cells #[.pointer (some ⟨ps, 0, none⟩), vi bugs, vi stamps, vi now, .map (some md)] 84)
  st : MvS base ps mk mr me serial bugs K R E W
  dm : MapE W md D
  bp : base ≤ p
  bd : base ≤ md
  dk : md ≠ mk
  dr : md ≠ mr
  de : md ≠ me
theorem ShS.later {base p ps mk mr me md : Nat} {serial : Bool} {bugs stamps now : Int} {K : KeysL} {R : RdyL} {E D : EndL} {A B : World} (h : ShS base p ps mk mr me md serial bugs stamps now K R E D A) (hb : Below A.heap.size A B) : ShS base p ps mk mr me md serial bugs stamps now K R E D B :=
  ⟨(hb.block p (Array.getElem?_eq_some_iff.1 h.blk).1).trans h.blk, h.st.later hb, h.dm.below hb h.dm.lt, h.bp, h.bd, h.dk, h.dr, h.de⟩
/-- An answer. -/
structure Ans where
  err : Int
  vals : List Int
  at_ : Int
  by_ : Int
  home : Int
  e : EndM
def ansC (a : Ans) (vv : Value) : Array Value := #[vi a.err, vv, vi a.at_, vi a.by_, vi a.home, vi a.e.txn, .bool a.e.commit, vi a.e.at_]
def ansV (a : Ans) (vv : Value) : Value := .agg (ansC a vv)
abbrev zeroE' : EndM := ⟨0, false, 0⟩
def AppQ (base p ps mk mr me md : Nat) (serial : Bool) (bugs stamps : Int) (P : Ans → Int → KeysL → RdyL → EndL → EndL → Prop) (w : World) (e : Ending) (w' : World) : Prop :=
  ∃ a vv now' K' R' E' D', e = .returned (ansV a vv) ∧ OwI w.heap.size w' vv a.vals ∧ ShS base p ps mk mr me md serial bugs stamps now' K' R' E' D' w' ∧ Turns [p, md, mk, mr, me] w w' ∧ P a now' K' R' E' D'
/-- The bytes of a command are read as it was. -/
theorem cmd_back {c : Cmd21} (hi : CmdI c) {w w' : World} {c' : Cmd21} {wv rv : Value} {err : Int} (h : CmdRd (btBytes (cmdL c)) w w' c' wv rv err) : (1 ≤ c.k ∧ c.k ≤ 5 → err = 0 ∧ c' = killC c) ∧ (¬ (1 ≤ c.k ∧ c.k ≤ 5) → err = 14) := by
  obtain ⟨z, hz, hb⟩ := bitsOf_btBytes (cmdL c)
  exact h.all (killC c) z hi.bok hz (by rw [killC_bits]; exact hb)
abbrev ansZ : Array Value := #[vi 0, .slice none 0 0, vi 0, vi 0, vi 0, vi 0, .bool false, vi 0]
theorem setCell_cong {A B : World} {j : Nat} (h : A.heap[j]? = B.heap[j]?) (a : Addr) (v : Value) : (A.setCell a v).heap[j]? = (B.setCell a v).heap[j]? := by
  simp only [World.setCell, Array.getElem?_modify, h]
theorem ShS.np {base p ps mk mr me md : Nat} {serial : Bool} {bugs stamps now : Int} {K : KeysL} {R : RdyL} {E D : EndL} {A : World} (h : ShS base p ps mk mr me md serial bugs stamps now K R E D A) : p ≠ md := by
  intro e
  obtain ⟨es, c, ho⟩ := h.dm.obj
  have := h.blk
  rw [e, ho] at this; cases this
theorem ShS.put {base p ps mk mr me md : Nat} {serial : Bool} {bugs stamps now : Int} {K : KeysL} {R : RdyL} {E D : EndL} {B : World} {y : EndM} (h : ShS base p ps mk mr me md serial bugs stamps now K R E D B) (ht : i64 y.txn) :
    ∃ w', (Instr.mapUpdate 44 (.map (some md)) (vi y.txn) (.agg #[vi y.txn, .bool y.commit, vi y.at_])).run Try.prog B = .ok () w' ∧ Hid (ShS base p ps mk mr me md serial bugs stamps now K R E (putM D y.txn y) w' ∧ B.grownBy w' (some md) ∧ Solid B w') := by
  obtain ⟨kl, hkl⟩ := intKey ht
  obtain ⟨w', hrun, hm, hg⟩ := h.dm.update (eV := endV) intKeyed vi_inj (t := 44) (e := 31) Try.underlying44 y.txn hkl y
  obtain ⟨es, c, ho⟩ := h.dm.obj
  have hs : Solid B w' := (Solid.refl B).map ho hg
  exact ⟨w', hrun, Lib.hid ⟨⟨hs _ _ _ _ h.blk, ⟨hs _ _ _ _ h.st.blk, h.st.keys.kept hg (fun e => h.dk (by cases e; rfl)), h.st.ready.kept hg (fun e => h.dr (by cases e; rfl)), h.st.ends.kept hg (fun e => h.de (by cases e; rfl)), fun x hx => (h.st.krow x hx).solid hs, fun x hx => (h.st.rrow x hx).solid hs, h.st.bp, h.st.bk, h.st.br, h.st.be, h.st.kr, h.st.ke, h.st.re⟩, hm, h.bp, h.bd, h.dk, h.dr, h.de⟩, hg, hs⟩⟩
/-- Another time. -/
theorem ShS.tick {base p ps mk mr me md : Nat} {serial : Bool} {bugs stamps now : Int} {K : KeysL} {R : RdyL} {E D : EndL} {A : World} (h : ShS base p ps mk mr me md serial bugs stamps now K R E D A) (x : Int) (hs : MvS base ps mk mr me serial bugs K R E (A.setCell ⟨p, 3, none⟩ (vi x))) : ShS base p ps mk mr me md serial bugs stamps x K R E D (A.setCell ⟨p, 3, none⟩ (vi x)) :=
  ⟨Bt.cells_set _ h.blk, hs, h.dm.kept (gro_setP (gro_refl A (some p)) _) (fun e => h.np (by cases e; rfl)), h.bp, h.bd, h.dk, h.dr, h.de⟩
/-- Behind a change of one block, and new ones. -/
theorem tick_below {w w3 W : World} {p A nq : Nat} {x : Int} {us : List Value} (hb : Below w.heap.size w w3) (hA : w.heap.size ≤ A) (hW : W = ((w3.drewN nq).setCell ⟨p, 3, none⟩ (vi x)).setCells A 0 us) : Below (w.setCell ⟨p, 3, none⟩ (vi x)).heap.size (w.setCell ⟨p, 3, none⟩ (vi x)) W := by
  subst hW
  have h := setCells_grown A us 0 ((w3.drewN nq).setCell ⟨p, 3, none⟩ (vi x))
  have hs : (w.setCell ⟨p, 3, none⟩ (vi x)).heap.size = w.heap.size := by simp [World.setCell]
  refine ⟨h.os.trans hb.os, h.tape.trans hb.tape, h.output.trans hb.output, by rw [hs]; exact Nat.le_trans hb.size (Nat.le_trans (by simp [World.setCell]) h.size), fun j hj => ?_⟩
  rw [hs] at hj
  rw [setCells_other A us 0 _ j (by omega)]
  exact setCell_cong (hb.block j hj) _ _
theorem tick_turns {w w3 W : World} {p A nq : Nat} {x : Int} {us : List Value} {bs : List Nat} (hb : Below w.heap.size w w3) (hA : w.heap.size ≤ A) (hp : p ∈ bs) (hW : W = ((w3.drewN nq).setCell ⟨p, 3, none⟩ (vi x)).setCells A 0 us) : Turns bs w W := by
  subst hW
  have h := setCells_grown A us 0 ((w3.drewN nq).setCell ⟨p, 3, none⟩ (vi x))
  refine ⟨h.os.trans hb.os, h.tape.trans hb.tape, h.output.trans hb.output, Nat.le_trans hb.size (Nat.le_trans (by simp [World.setCell]) h.size), fun j hj hn => ?_⟩
  rw [setCells_other A us 0 _ j (by omega)]
  exact (Below.heap_setCell _ _ _ j (fun e => hn (by rw [e]; exact hp))).trans (hb.block j hj)
theorem ans_below {w w3 : World} {A : Nat} {us : List Value} (hb : Below w.heap.size w w3) (hA : w.heap.size ≤ A) (nq : Nat) : Below w.heap.size w ((w3.drewN nq).setCells A 0 us) :=
  (show Below w.heap.size w (w3.drewN nq) from ⟨hb.os, hb.tape, hb.output, hb.size, hb.block⟩).trans (setCells_below A us 0 _ hA hb.size)
theorem ans_below0 {w w3 : World} {A : Nat} {us : List Value} (hb : Below w.heap.size w w3) (hA : w.heap.size ≤ A) : Below w.heap.size w (w3.setCells A 0 us) :=
  hb.trans (setCells_below A us 0 _ hA hb.size)
theorem endsNone {D : EndL} {k : Int} (h1 : (getM D k).isSome = false) : getM D k = none := by
  cases h : getM D k with
  | none => rfl
  | some x => rw [h] at h1; cases h1
theorem endsSome {D : EndL} {k : Int} {ex : EndM} (h1 : (getM D k).isSome = true) (h2 : (getM D k).getD ⟨0, false, 0⟩ = ex) : getM D k = some ex := by
  cases h : getM D k with
  | none => rw [h] at h1; cases h1
  | some x => rw [h] at h2; rw [← h2]; rfl
theorem ShS.dec {base p ps mk mr me md : Nat} {serial : Bool} {bugs stamps now : Int} {K : KeysL} {R : RdyL} {E D D' : EndL} {w W : World} (h : ShS base p ps mk mr me md serial bugs stamps now K R E D w) (hT : Turns [md] w W) (hd : MapE W md D') : ShS base p ps mk mr me md serial bugs stamps now K R E D' W := by
  have hs : Solid w W := hT.solid (fun k hk => by simp at hk; subst hk; exact h.dm.obj)
  exact ⟨hs _ _ _ _ h.blk, ⟨hs _ _ _ _ h.st.blk, h.st.keys.frame (hT.block mk h.st.keys.lt (by simp; exact fun e => h.dk e.symm)), h.st.ready.frame (hT.block mr h.st.ready.lt (by simp; exact fun e => h.dr e.symm)), h.st.ends.frame (hT.block me h.st.ends.lt (by simp; exact fun e => h.de e.symm)), fun x hx => (h.st.krow x hx).solid hs, fun x hx => (h.st.rrow x hx).solid hs, h.st.bp, h.st.bk, h.st.br, h.st.be, h.st.kr, h.st.ke, h.st.re⟩, hd, h.bp, h.bd, h.dk, h.dr, h.de⟩
theorem dec_turns {w w4 w5 : World} {A md : Nat} {us : List Value} (hb : Below w.heap.size w w4) (hg : w4.drew.grownBy w5 (some md)) (hA : w.heap.size ≤ A) : Turns [md] w (w5.setCells A 0 us) := by
  have h := setCells_grown A us 0 w5
  refine ⟨h.os.trans (hg.os.trans hb.os), h.tape.trans (hg.tape.trans hb.tape), h.output.trans (hg.output.trans hb.output), Nat.le_trans hb.size (Nat.le_trans hg.size h.size), fun j hj hn => ?_⟩
  rw [setCells_other A us 0 _ j (by omega)]
  exact (hg.block j (Nat.lt_of_lt_of_le hj hb.size) (fun e => hn (by simp; exact Option.some.inj e))).trans (hb.block j hj)
theorem ShS.aside {base p ps mk mr me md m : Nat} {serial : Bool} {bugs stamps now : Int} {K : KeysL} {R : RdyL} {E D : EndL} {A B : World} (h : ShS base p ps mk mr me md serial bugs stamps now K R E D A) (hT : A.grownBy B (some m)) (hm : ∃ es c, A.heap[m]? = some (.map es c)) (hd : m ≠ md) (hk : m ≠ mk) (hr : m ≠ mr) (he : m ≠ me) : ShS base p ps mk mr me md serial bugs stamps now K R E D B := by
  obtain ⟨es, c, ho⟩ := hm
  have hs : Solid A B := (Solid.refl A).map ho hT
  exact ⟨hs _ _ _ _ h.blk, ⟨hs _ _ _ _ h.st.blk, h.st.keys.kept hT (fun e => hk (by cases e; rfl)), h.st.ready.kept hT (fun e => hr (by cases e; rfl)), h.st.ends.kept hT (fun e => he (by cases e; rfl)), fun x hx => (h.st.krow x hx).solid hs, fun x hx => (h.st.rrow x hx).solid hs, h.st.bp, h.st.bk, h.st.br, h.st.be, h.st.kr, h.st.ke, h.st.re⟩, h.dm.kept hT (fun e => hd (by cases e; rfl)), h.bp, h.bd, h.dk, h.dr, h.de⟩
end Go.Proofs.Ytdkkpkgfiodlbaa

/- (*shard.State).Apply: a time. -/
namespace Go.Proofs.Ytdkkpkgfiodlbaa
open Go.RowKit Go.Maps

def StampP (stamps now : Int) (K : KeysL) (R : RdyL) (E D : EndL) (a : Ans) (now' : Int) (K' : KeysL) (R' : RdyL) (E' D' : EndL) : Prop :=
  ((now < stamps ∧ a = ⟨0, [], now + 1, 0, 0, zeroE'⟩ ∧ now' = now + 1) ∨ (stamps ≤ now ∧ a = ⟨63, [], 0, 0, 0, zeroE'⟩ ∧ now' = now)) ∧ K' = K ∧ R' = R ∧ E' = E ∧ D' = D
set_option maxRecDepth 100000 in
set_option maxHeartbeats 8000000 in
theorem apply_stamp {base p ps mk mr me md : Nat} {serial : Bool} {bugs stamps now : Int} {K : KeysL} {R : RdyL} {E D : EndL} (c : Cmd21) {v : Value} (w : World) (h : ShS base p ps mk mr me md serial bugs stamps now K R E D w) (hi : CmdI c) (hk : c.k = 1)
    (hv : Src w v 1 (btBytes (cmdL c)).length ((btBytes (cmdL c)).map u8)) (hn : 0 ≤ now ∧ now ≤ 1000000) (hsep : ∀ x : Int, MvS base ps mk mr me serial bugs K R E (w.setCell ⟨p, 3, none⟩ (vi x))) :
    Calls Try.prog 11 #[.pointer (some ⟨p, 0, none⟩), v] w (AppQ base p ps mk mr me md serial bugs stamps (StampP stamps now K R E D) w) := by
  have HI := Lib.hid hi
  have HK := Lib.hid hk
  have HH := Lib.hid (h.later ((Below.refl w.heap.size w).alloc (Nat.le_refl _) (.cells ansZ 37)))
  have HV := Lib.hid (hv.below ((Below.refl w.heap.size w).alloc (Nat.le_refl _) (.cells ansZ 37)))
  have HA0 := Lib.hid (Bt.alloc_at w (.cells ansZ 37))
  have HB0 := Lib.hid ((Below.refl w.heap.size w).alloc (Nat.le_refl _) (.cells ansZ 37))
  have hcl : (btBytes (cmdL c)).length ≤ 1048576 := by rw [btBytes_length]; have := cmdL_length hi; omega
  obtain ⟨bs, hbs⟩ : ∃ bs, bs = btBytes (cmdL c) := ⟨_, rfl⟩
  rw [← hbs] at HV hcl
  have HBS := Lib.hid hbs
  have hpw : p < w.heap.size := (Array.getElem?_eq_some_iff.1 h.blk).1
  have H0 := Lib.hid h
  have HSEP := Lib.hid hsep
  clear h hi hk hv hbs hsep
  go_enter Try.func11, Try.ntmps11
  go_upto_region 1 with fail
  generalize w.alloc (.cells ansZ 37) = w1 at *
  obtain ⟨A, hA⟩ : ∃ A, A = w.heap.size := ⟨_, rfl⟩
  rw [← hA] at HA0 ⊢
  have HAE := Lib.hid hA
  have hAw : A < w1.heap.size := (Array.getElem?_eq_some_iff.1 HA0.out).1
  clear hA
  go_wp2_with fail
  refine (shRead_call (bs := bs) w1 HV.out (by rw [HBS.out]; exact btBytes_lt _) hcl).mono ?_
  rintro e2 w2 ⟨c', wv, rv, err, rfl, hrd⟩
  rw [HBS.out] at hrd
  obtain ⟨rfl, rfl⟩ := (cmd_back HI.out hrd).1 ⟨by rw [HK.out]; decide, by rw [HK.out]; decide⟩
  have hkl := killK_len c.r
  have hows : w2.ownsRow w1.heap.size 104 3 wv c.r.writes.length ((killK c.r).writes.flatMap opV) := by have := hrd.ws; unfold OwOps at this; rw [show (killC c).r.writes.length = c.r.writes.length from hkl] at this; exact this
  have hors : w2.ownsRow w1.heap.size 3 1 rv c.r.reads.length (c.r.reads.flatMap viC) := hrd.rs
  obtain ⟨aw, cw, rfl⟩ := Bt.own_shape hows
  obtain ⟨ar, cr, rfl⟩ := Bt.own_shape hors
  have HWS := Lib.hid hrd.ws
  have HRS := Lib.hid hrd.rs
  have HH2 := Lib.hid (HH.out.later hrd.bel)
  have HA2 := Lib.hid ((hrd.bel.block A hAw).trans HA0.out)
  have HB2 := Lib.hid (HB0.out.trans (hrd.bel.mono HB0.out.size))
  have hA2w : A < w2.heap.size := Nat.lt_of_lt_of_le hAw hrd.bel.size
  have hw12 := hrd.bel.size
  have HKL := Lib.hid hkl
  clear hrd hkl hows hors HH HA0 HB0 HV
  unfold cmdV cmdC
  dsimp only [killC, killK]
  have HC3 := Lib.hid (Bt.alloc_at w2 (.cells #[vi c.k, vi c.r.txn, vi c.r.home, vi c.r.start, .slice aw c.r.writes.length cw, .slice ar c.r.reads.length cr, vi c.e.txn, .bool c.e.commit, vi c.e.at_] 33))
  have HH3 := Lib.hid (HH2.out.later ((Below.refl w2.heap.size w2).alloc (Nat.le_refl _) (.cells #[vi c.k, vi c.r.txn, vi c.r.home, vi c.r.start, .slice aw c.r.writes.length cw, .slice ar c.r.reads.length cr, vi c.e.txn, .bool c.e.commit, vi c.e.at_] 33)))
  have HA3 := Lib.hid ((Below.heap_alloc w2 (.cells #[vi c.k, vi c.r.txn, vi c.r.home, vi c.r.start, .slice aw c.r.writes.length cw, .slice ar c.r.reads.length cr, vi c.e.txn, .bool c.e.commit, vi c.e.at_] 33) A hA2w).trans HA2.out)
  have HB3 := Lib.hid (HB2.out.alloc HB2.out.size (.cells #[vi c.k, vi c.r.txn, vi c.r.home, vi c.r.start, .slice aw c.r.writes.length cw, .slice ar c.r.reads.length cr, vi c.e.txn, .bool c.e.commit, vi c.e.at_] 33))
  have HWS3 := Lib.hid (own_below HWS.out ((Below.refl w2.heap.size w2).alloc (Nat.le_refl _) (.cells #[vi c.k, vi c.r.txn, vi c.r.home, vi c.r.start, .slice aw c.r.writes.length cw, .slice ar c.r.reads.length cr, vi c.e.txn, .bool c.e.commit, vi c.e.at_] 33)))
  have HRS3 := Lib.hid (own_below HRS.out ((Below.refl w2.heap.size w2).alloc (Nat.le_refl _) (.cells #[vi c.k, vi c.r.txn, vi c.r.home, vi c.r.start, .slice aw c.r.writes.length cw, .slice ar c.r.reads.length cr, vi c.e.txn, .bool c.e.commit, vi c.e.at_] 33)))
  go_upto_region 4 with fail
  clear HH2 HA2 HB2 HWS HRS
  generalize w2.alloc (.cells #[vi c.k, vi c.r.txn, vi c.r.home, vi c.r.start, .slice aw c.r.writes.length cw, .slice ar c.r.reads.length cr, vi c.e.txn, .bool c.e.commit, vi c.e.at_] 33) = w3 at *
  have hC3w : w2.heap.size < w3.heap.size := (Array.getElem?_eq_some_iff.1 HC3.out).1
  obtain ⟨C, hC⟩ : ∃ C, C = w2.heap.size := ⟨_, rfl⟩
  rw [← hC] at HC3 hC3w ⊢
  have HCE := Lib.hid hC
  have hAC : A ≠ C := by omega
  have hpA : p < A := by have := HAE.out; omega
  clear hC
  have k0 : w3.cell? ⟨C, 0, none⟩ = some (vi c.k) := by rw [Bt.cell_of HC3.out]; rfl
  have b1 : (c.k == 1) = true := by rw [HK.out]; rfl
  have b2 : (c.k == 2) = false := by rw [HK.out]; rfl
  have b3 : (c.k == 3) = false := by rw [HK.out]; rfl
  have b4 : (c.k == 4) = false := by rw [HK.out]; rfl
  go_upto_region 8 with fail
  have hBw : w.heap.size ≤ w3.heap.size := HB3.out.size
  have q2 : w3.cell? ⟨p, 2, none⟩ = some (vi stamps) := by rw [cell_of HH3.out.blk]; rfl
  have q3 : w3.cell? ⟨p, 3, none⟩ = some (vi now) := by rw [cell_of HH3.out.blk]; rfl
  have qf : ∀ o, w3.frozen? ⟨p, o, none⟩ = false := fun o => free_of HH3.out.blk o
  have xf : ∀ o, w3.frozen? ⟨A, o, none⟩ = false := fun o => free_of HA3.out o
  have x0 : w3.cell? ⟨A, 0, none⟩ = some (vi 0) := by rw [Bt.cell_of HA3.out]; rfl
  have x1 : w3.cell? ⟨A, 1, none⟩ = some (.slice none 0 0) := by rw [Bt.cell_of HA3.out]; rfl
  have x2 : w3.cell? ⟨A, 2, none⟩ = some (vi 0) := by rw [Bt.cell_of HA3.out]; rfl
  have x3 : w3.cell? ⟨A, 3, none⟩ = some (vi 0) := by rw [Bt.cell_of HA3.out]; rfl
  have x4 : w3.cell? ⟨A, 4, none⟩ = some (vi 0) := by rw [Bt.cell_of HA3.out]; rfl
  have x5 : w3.cell? ⟨A, 5, none⟩ = some (vi 0) := by rw [Bt.cell_of HA3.out]; rfl
  have x6 : w3.cell? ⟨A, 6, none⟩ = some (.bool false) := by rw [Bt.cell_of HA3.out]; rfl
  have x7 : w3.cell? ⟨A, 7, none⟩ = some (vi 0) := by rw [Bt.cell_of HA3.out]; rfl
  have hne : ¬ (A = p) := by omega
  have hne' : ¬ (p = A) := by omega
  by_cases hlt : now < stamps
  · have l1 : decide (stamps ≤ now) = false := decide_eq_false (by omega)
    have hw1 : IntKind.i64.wrap (now + 1) = now + 1 := IntWalk.i64_in _ (by omega)
    go_quiet (fail)
    go_wp2_with fail
    have HAQ : ((w3.drewN nq).setCell ⟨p, 3, none⟩ (vi (now + 1))).heap[A]? = some (.cells ansZ 37) := Bt.cells_other _ HA3.out hne
    change bodyPost _ _ _ _ _ (((w3.drewN nq).setCell ⟨p, 3, none⟩ (vi (now + 1))).setCells A 0 [vi 0, .slice none 0 0, vi (now + 1), vi 0, vi 0, vi 0, .bool false, vi 0])
    obtain ⟨wz, hwz⟩ : ∃ wz, wz = ((w3.drewN nq).setCell ⟨p, 3, none⟩ (vi (now + 1))).setCells A 0 [vi 0, .slice none 0 0, vi (now + 1), vi 0, vi 0, vi 0, .bool false, vi 0] := ⟨_, rfl⟩
    have HZC := Lib.hid (show wz.heap[A]? = some (.cells #[vi 0, .slice none 0 0, vi (now + 1), vi 0, vi 0, vi 0, .bool false, vi 0] 37) by rw [hwz]; exact setCells_all (cs := [vi 0, .slice none 0 0, vi (now + 1), vi 0, vi 0, vi 0, .bool false, vi 0]) HAQ rfl)
    rw [← hwz]
    have HWZ := Lib.hid hwz
    clear hwz x0 x1 x2 x3 x4 x5 x6 x7 xf q2 q3 qf
    have r0 : wz.cell? ⟨A, 0, none⟩ = some (vi 0) := by rw [Bt.cell_of HZC.out]; rfl
    have r1 : wz.cell? ⟨A, 1, none⟩ = some (.slice none 0 0) := by rw [Bt.cell_of HZC.out]; rfl
    have r2 : wz.cell? ⟨A, 2, none⟩ = some (vi (now + 1)) := by rw [Bt.cell_of HZC.out]; rfl
    have r3 : wz.cell? ⟨A, 3, none⟩ = some (vi 0) := by rw [Bt.cell_of HZC.out]; rfl
    have r4 : wz.cell? ⟨A, 4, none⟩ = some (vi 0) := by rw [Bt.cell_of HZC.out]; rfl
    have r5 : wz.cell? ⟨A, 5, none⟩ = some (vi 0) := by rw [Bt.cell_of HZC.out]; rfl
    have r6 : wz.cell? ⟨A, 6, none⟩ = some (.bool false) := by rw [Bt.cell_of HZC.out]; rfl
    have r7 : wz.cell? ⟨A, 7, none⟩ = some (vi 0) := by rw [Bt.cell_of HZC.out]; rfl
    refine bodyPost_ret (v := ansV ⟨0, [], now + 1, 0, 0, zeroE'⟩ (.slice none 0 0)) (by simp [results, Try.results11, go_sem, ansV, ansC, r0, r1, r2, r3, r4, r5, r6, r7]) rfl ⟨⟨0, [], now + 1, 0, 0, zeroE'⟩, .slice none 0 0, now + 1, K, R, E, D, rfl, World.ownsRow_nil _ _ _ _, (H0.out.tick (now + 1) (HSEP.out _)).later (tick_below HB3.out (by rw [HAE.out]; exact Nat.le_refl _) HWZ.out), tick_turns HB3.out (by rw [HAE.out]; exact Nat.le_refl _) (by simp) HWZ.out, .inl ⟨hlt, rfl, rfl⟩, rfl, rfl, rfl, rfl⟩
  · have l1 : decide (stamps ≤ now) = true := decide_eq_true (by omega)
    go_quiet (fail)
    go_wp2_with fail
    have HAQ : (w3.drewN nq).heap[A]? = some (.cells ansZ 37) := HA3.out
    change bodyPost _ _ _ _ _ ((w3.drewN nq).setCells A 0 [vi 63, .slice none 0 0, vi 0, vi 0, vi 0, vi 0, .bool false, vi 0])
    obtain ⟨wz, hwz⟩ : ∃ wz, wz = (w3.drewN nq).setCells A 0 [vi 63, .slice none 0 0, vi 0, vi 0, vi 0, vi 0, .bool false, vi 0] := ⟨_, rfl⟩
    have HZC := Lib.hid (show wz.heap[A]? = some (.cells #[vi 63, .slice none 0 0, vi 0, vi 0, vi 0, vi 0, .bool false, vi 0] 37) by rw [hwz]; exact setCells_all (cs := [vi 63, .slice none 0 0, vi 0, vi 0, vi 0, vi 0, .bool false, vi 0]) HAQ rfl)
    rw [← hwz]
    have HWZ := Lib.hid hwz
    clear hwz x0 x1 x2 x3 x4 x5 x6 x7 xf q2 q3 qf
    have r0 : wz.cell? ⟨A, 0, none⟩ = some (vi 63) := by rw [Bt.cell_of HZC.out]; rfl
    have r1 : wz.cell? ⟨A, 1, none⟩ = some (.slice none 0 0) := by rw [Bt.cell_of HZC.out]; rfl
    have r2 : wz.cell? ⟨A, 2, none⟩ = some (vi 0) := by rw [Bt.cell_of HZC.out]; rfl
    have r3 : wz.cell? ⟨A, 3, none⟩ = some (vi 0) := by rw [Bt.cell_of HZC.out]; rfl
    have r4 : wz.cell? ⟨A, 4, none⟩ = some (vi 0) := by rw [Bt.cell_of HZC.out]; rfl
    have r5 : wz.cell? ⟨A, 5, none⟩ = some (vi 0) := by rw [Bt.cell_of HZC.out]; rfl
    have r6 : wz.cell? ⟨A, 6, none⟩ = some (.bool false) := by rw [Bt.cell_of HZC.out]; rfl
    have r7 : wz.cell? ⟨A, 7, none⟩ = some (vi 0) := by rw [Bt.cell_of HZC.out]; rfl
    refine bodyPost_ret (v := ansV ⟨63, [], 0, 0, 0, zeroE'⟩ (.slice none 0 0)) (by simp [results, Try.results11, go_sem, ansV, ansC, r0, r1, r2, r3, r4, r5, r6, r7]) rfl ⟨⟨63, [], 0, 0, 0, zeroE'⟩, .slice none 0 0, now, K, R, E, D, rfl, World.ownsRow_nil _ _ _ _, H0.out.later (by rw [HWZ.out]; exact ans_below HB3.out (by rw [HAE.out]; exact Nat.le_refl _) nq), Turns.below (by rw [HWZ.out]; exact ans_below HB3.out (by rw [HAE.out]; exact Nat.le_refl _) nq), .inr ⟨by omega, rfl, rfl⟩, rfl, rfl, rfl, rfl⟩
end Go.Proofs.Ytdkkpkgfiodlbaa
