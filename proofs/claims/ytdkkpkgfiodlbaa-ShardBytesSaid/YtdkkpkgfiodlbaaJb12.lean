/- Texts of one proof, one behind the other: ShAns, SbRda, SbRdb, BtRefPut, BtZeros, BtRefNum, BtRefInt. -/
import Derived.Test.YtdkkpkgfiodlbaaJb8
import Derived.Test.YtdkkpkgfiodlbaaJb5
import Derived.Test.YtdkkpkgfiodlbaaJb4
import Derived.Lib.AppendZerosOnto
import Derived.Laws.IdiomStrings
import Derived.Laws.BytesArg
set_option linter.all false
/- (shard.Answer).Bytes. -/
namespace Go.Proofs.Ytdkkpkgfiodlbaa
open Go.RowKit Go.Maps
/-- An answer, in bits. -/
def ansL (a : Ans) : List Bool := intL a.err ++ numL a.vals.length ++ intsBL a.vals ++ intL a.at_ ++ intL a.by_ ++ intL a.home ++ endBL a.e
structure AnsI (a : Ans) : Prop where
  err : IntOk a.err
  vals : ∀ v ∈ a.vals, IntOk v
  at_ : IntOk a.at_
  by_ : IntOk a.by_
  home : IntOk a.home
  e : EndOk a.e
  lv : a.vals.length ≤ 50
/-- The numbers of an answer lie in their bounds. -/
structure AnsJ (a : Ans) : Prop where
  err : IntOk a.err
  vals : ∀ v ∈ a.vals, IntOk v
  at_ : IntOk a.at_
  by_ : IntOk a.by_
  home : IntOk a.home
  e : EndOk a.e
set_option maxRecDepth 100000 in
set_option maxHeartbeats 8000000 in
theorem ansBytes_call2 (a : Ans) (vv : Value) (w : World) (hx : RdInts w vv a.vals) (hi : AnsJ a) (hT : (ansL a).length ≤ 900000) :
    Calls Try.prog 24 #[ansV a vv] w (BytesQ (ansL a) w) := by
  obtain ⟨av, nv, cv, hvv, rfl, hmv, -⟩ := hx.at
  subst hvv
  have HRD := Lib.hid hx
  have HI := Lib.hid hi
  have l1 := intL_length hi.err
  have l2 := numL_length a.vals.length (by omega)
  have l4 := intL_length hi.at_
  have l5 := intL_length hi.by_
  have l6 := intL_length hi.home
  have l7 := endBL_length hi.e
  have lT : (intL a.err).length + (numL a.vals.length).length + (intsBL a.vals).length + (intL a.at_).length + (intL a.by_).length + (intL a.home).length + (endBL a.e).length ≤ 900000 := by
    have := hT
    simp only [ansL, List.length_append] at this; omega
  have HX0 := Lib.hid (Bt.alloc_at w (.cells (ansC a (.slice av a.vals.length cv)) 37))
  have HB0 := Lib.hid ((Below.refl w.heap.size w).alloc (Nat.le_refl _) (.cells (ansC a (.slice av a.vals.length cv)) 37))
  clear hx hi
  unfold ansV at *
  unfold ansC at *
  go_enter Try.func24, Try.ntmps24
  go_upto_region 1 with fail
  generalize w.alloc (.cells #[vi a.err, .slice av a.vals.length cv, vi a.at_, vi a.by_, vi a.home, vi a.e.txn, .bool a.e.commit, vi a.e.at_] 37) = w1 at *
  have HW2 := Lib.hid (show WrS w.heap.size w1.heap.size [] (w1.alloc (.cells #[.slice none 0 0, vi 0] 93)) from ⟨HB0.out.size, .slice none 0 0, Bt.alloc_at w1 _, ⟨rfl, .inl ⟨rfl, rfl⟩⟩⟩)
  have HB2 := Lib.hid (HB0.out.alloc HB0.out.size (.cells #[.slice none 0 0, vi 0] 93))
  have HX2 := Lib.hid ((Below.heap_alloc w1 (.cells #[.slice none 0 0, vi 0] 93) w.heap.size (Array.getElem?_eq_some_iff.1 HX0.out).1).trans HX0.out)
  have hXP : w.heap.size < w1.heap.size := (Array.getElem?_eq_some_iff.1 HX0.out).1
  go_upto_region 2 with fail
  generalize w1.alloc (.cells #[.slice none 0 0, vi 0] 93) = w2 at *
  obtain ⟨X, hX⟩ : ∃ X, X = w.heap.size := ⟨_, rfl⟩
  obtain ⟨p, hp⟩ : ∃ p, p = w1.heap.size := ⟨_, rfl⟩
  rw [← hp] at HW2 hXP ⊢
  rw [← hX] at HX2 hXP ⊢
  have hnX : X ≠ p := by omega
  have HXE := Lib.hid hX
  have HPE := Lib.hid hp
  clear hX hp HX0 HB0
  have hb2 := HB2.out.size
  have c0 : w2.cell? ⟨X, 0, none⟩ = some (vi a.err) := by rw [Bt.cell_of HX2.out]; rfl
  go_upto_region 3 with (go_at_call 33; refine (int_call (L := []) a.err w2 HW2.out HI.out.err.1 HI.out.err.2 (by simp) hb2).mono ?_; rintro e3 w3 ⟨rfl, hw3, hf3⟩; have HW3 := Lib.hid (show WrS w.heap.size p (intL a.err) w3 from hw3); have HF3 := Lib.hid hf3; have hb3 := Nat.le_trans hb2 hf3.size; have HX3 := Lib.hid (hf3.cells HX2.out hnX (by decide)); clear hw3 hf3)
  have d1 : w3.cell? ⟨X, 1, none⟩ = some (.slice av a.vals.length cv) := by rw [Bt.cell_of HX3.out]; rfl
  have hwr1 : IntKind.u64.wrap (a.vals.length : Int) = (a.vals.length : Int) := by rw [IntKind.wrap_u64]; omega
  clear c0
  go_upto_region 4 with (go_at_call 54; refine (num_call (L := intL a.err) a.vals.length w3 HW3.out (by omega) (by omega) hb3).mono ?_; rintro e4 w4 ⟨rfl, hw4, hf4⟩; have HW4 := Lib.hid hw4; have HF4 := Lib.hid (HF3.out.trans hf4); have hb4 := Nat.le_trans hb3 hf4.size; have HX4 := Lib.hid (hf4.cells HX3.out hnX (by decide)); clear hw4 hf4)
  have d1' : w4.cell? ⟨X, 1, none⟩ = some (.slice av a.vals.length cv) := by rw [Bt.cell_of HX4.out]; rfl
  obtain ⟨L4, hL4⟩ : ∃ L4, L4 = intL a.err ++ numL a.vals.length := ⟨_, rfl⟩
  rw [← hL4] at HW4
  have hl4 : L4.length ≤ 300 := by rw [hL4]; simp; omega
  have HL4 := Lib.hid hL4
  clear hL4 d1 hwr1
  go_wp2_with fail
  clear d1'
  go_loopw [21] (fun i wr => ∃ k : Nat, k ≤ a.vals.length ∧ i = vi k ∧ Hid (WrS w.heap.size p (L4 ++ intsBL (a.vals.take k)) wr ∧ FrW w.heap.size p w2 wr ∧ wr.heap[X]? = some (.cells #[vi a.err, .slice av a.vals.length cv, vi a.at_, vi a.by_, vi a.home, vi a.e.txn, .bool a.e.commit, vi a.e.at_] 37))) (fun i _ => a.vals.length - (intOf i).toNat)
  case atStart => exact ⟨0, Nat.zero_le _, rfl, Lib.hid ⟨by simpa [intsBL] using HW4.out, HF4.out, HX4.out⟩⟩
  case round =>
    obtain ⟨wj, rfl⟩ : ∃ wj : World, wj = wr := ⟨_, rfl⟩
    obtain ⟨k, hk, rfl, HJ⟩ := hrel
    have HBJ := Lib.hid (HB2.out.trans (HJ.out.2.1.toBelow hb2 HW2.out.1))
    have hbj := HBJ.out.size
    by_cases hlt : k < a.vals.length
    · have k1 : decide ((k : Int) < a.vals.length) = true := decide_eq_true (by omega)
      have hwk : IntKind.i64.wrap ((k : Int) + 1) = (k : Int) + 1 := IntWalk.i64_in _ (by omega)
      obtain ⟨o, ho⟩ := some_at hlt
      have hoi := HI.out.vals o (List.mem_of_getElem? ho)
      obtain ⟨a', n', c', he, _, _, hcells⟩ := (show RdInts wj (.slice av a.vals.length cv) a.vals from HRD.out.later HBJ.out).at
      obtain ⟨b, off, ha, k2, _⟩ := hcells k o ho
      simp only [Value.slice.injEq] at he
      obtain ⟨rfl, -, -⟩ := he
      subst ha
      have htk := intsBL_snoc ho
      have hlk : (intsBL (a.vals.take k)).length ≤ (intsBL a.vals).length := intsBL_take _ _
      have HTK := Lib.hid htk
      clear hcells ho htk
      go_wp2_with (go_at_call 33; refine (int_call (L := L4 ++ intsBL (a.vals.take k)) o wj HJ.out.1 hoi.1 hoi.2 (by simp; omega) hbj).mono ?_; rintro eb wb ⟨rfl, hwb, hfb⟩; have HWB := Lib.hid hwb; have HFB := Lib.hid hfb; clear hwb hfb)
      refine ⟨⟨k + 1, by omega, by go_num, Lib.hid ⟨?_, HJ.out.2.1.trans HFB.out, HFB.out.cells HJ.out.2.2 hnX (by decide)⟩⟩, by simp only [intOf]; omega⟩
      rw [HTK.out, ← List.append_assoc]; exact HWB.out
    · have k1 : decide ((k : Int) < a.vals.length) = false := decide_eq_false (by omega)
      have hke := Lib.hid (show k = a.vals.length by omega)
      have HWJ : Hid (WrS w.heap.size p (L4 ++ intsBL a.vals) wj) := by have := HJ.out.1; rw [hke.out, List.take_length] at this; exact Lib.hid this
      have HXJ := Lib.hid HJ.out.2.2
      have HFJ := Lib.hid HJ.out.2.1
      have HJ0 := HJ
      clear HJ0 HJ
      obtain ⟨L5, hL5⟩ : ∃ L5, L5 = L4 ++ intsBL a.vals := ⟨_, rfl⟩
      rw [← hL5] at HWJ
      have hl5 : L5.length ≤ 900300 := by rw [hL5]; simp; omega
      have HL5 := Lib.hid hL5
      clear hL5
      have x2 : wj.cell? ⟨X, 2, none⟩ = some (vi a.at_) := by rw [Bt.cell_of HXJ.out]; rfl
      go_upto_region 10 with (go_at_call 33; refine (int_call (L := L5) a.at_ wj HWJ.out HI.out.at_.1 HI.out.at_.2 (by omega) hbj).mono ?_; rintro e6 w6 ⟨rfl, hw6, hf6⟩; have HW6 := Lib.hid hw6; have HF6 := Lib.hid (HFJ.out.trans hf6); have hb6 := Nat.le_trans hbj hf6.size; have HX6 := Lib.hid (hf6.cells HXJ.out hnX (by decide)); clear hw6 hf6)
      clear x2
      have x3 : w6.cell? ⟨X, 3, none⟩ = some (vi a.by_) := by rw [Bt.cell_of HX6.out]; rfl
      go_upto_region 11 with (go_at_call 33; refine (int_call (L := L5 ++ intL a.at_) a.by_ w6 HW6.out HI.out.by_.1 HI.out.by_.2 (by simp; omega) hb6).mono ?_; rintro e7 w7 ⟨rfl, hw7, hf7⟩; have HW7 := Lib.hid hw7; have HF7 := Lib.hid (HF6.out.trans hf7); have hb7 := Nat.le_trans hb6 hf7.size; have HX7 := Lib.hid (hf7.cells HX6.out hnX (by decide)); clear hw7 hf7)
      clear x3
      have x4 : w7.cell? ⟨X, 4, none⟩ = some (vi a.home) := by rw [Bt.cell_of HX7.out]; rfl
      go_upto_region 12 with (go_at_call 33; refine (int_call (L := L5 ++ intL a.at_ ++ intL a.by_) a.home w7 HW7.out HI.out.home.1 HI.out.home.2 (by simp; omega) hb7).mono ?_; rintro e8 w8 ⟨rfl, hw8, hf8⟩; have HW8 := Lib.hid hw8; have HF8 := Lib.hid (HF7.out.trans hf8); have hb8 := Nat.le_trans hb7 hf8.size; have HX8 := Lib.hid (hf8.cells HX7.out hnX (by decide)); clear hw8 hf8)
      clear x4
      have x5 : w8.cell? ⟨X, 5, none⟩ = some (vi a.e.txn) := by rw [Bt.cell_of HX8.out]; rfl
      have x6 : w8.cell? ⟨X, 6, none⟩ = some (.bool a.e.commit) := by rw [Bt.cell_of HX8.out]; rfl
      have x7 : w8.cell? ⟨X, 7, none⟩ = some (vi a.e.at_) := by rw [Bt.cell_of HX8.out]; rfl
      have hl8 : (L5 ++ intL a.at_ ++ intL a.by_ ++ intL a.home).length ≤ 901000 := by simp; omega
      obtain ⟨L8, hL8⟩ : ∃ L8, L8 = L5 ++ intL a.at_ ++ intL a.by_ ++ intL a.home := ⟨_, rfl⟩
      rw [← hL8] at HW8 hl8
      have HL8 := Lib.hid hL8
      clear hL8
      go_upto_region 13 with (go_at_call 35; refine (shEnd_call (base := w.heap.size) (p := p) (L := L8) a.e w8 HW8.out HI.out.e (by omega) hb8).mono ?_; rintro e9 w9 ⟨rfl, hw9, hf9⟩; have HW9 := Lib.hid hw9; have HF9 := Lib.hid (HF8.out.trans hf9); clear hw9 hf9)
      clear x5 x6 x7
      go_wp2_with (go_at_call 36; refine (bytes_call w9 HW9.out (by simp; omega)).mono ?_; rintro e10 w10 ⟨v10, rfl, ho10, hb10⟩; have HO10 := Lib.hid ho10; have HB10 := Lib.hid hb10; clear ho10 hb10)
      go_ret
      have hB9 : Below w.heap.size w w9 := HB2.out.trans (HF9.out.toBelow hb2 HW2.out.1)
      have hLL : L8 ++ endBL a.e = ansL a := by rw [HL8.out, HL5.out, HL4.out]; simp [ansL]
      exact ⟨_, rfl, by rw [← hLL]; exact own_mono HO10.out hB9.size, hB9.trans (HB10.out.mono hB9.size)⟩
theorem ansBytes_call (a : Ans) (vv : Value) (w : World) (hx : RdInts w vv a.vals) (hi : AnsI a) :
    Calls Try.prog 24 #[ansV a vv] w (BytesQ (ansL a) w) := by
  have l1 := intL_length hi.err
  have l2 := numL_length a.vals.length (by have := hi.lv; omega)
  have l3 := intsBL_length a.vals hi.vals
  have l4 := intL_length hi.at_
  have l5 := intL_length hi.by_
  have l6 := intL_length hi.home
  have l7 := endBL_length hi.e
  have lv := hi.lv
  exact ansBytes_call2 a vv w hx ⟨hi.err, hi.vals, hi.at_, hi.by_, hi.home, hi.e⟩ (by simp only [ansL, List.length_append]; omega)
end Go.Proofs.Ytdkkpkgfiodlbaa

/- shard.ReadAnswer: what is held while it reads. -/
namespace Go.Proofs.Ytdkkpkgfiodlbaa
open Go.RowKit Go.Maps
/-- What is read as an answer. -/
structure AnsBOk (a : Ans) : Prop where
  err : IntOk a.err
  vs : SeqOk IntOk a.vals
  at_ : IntOk a.at_
  by_ : IntOk a.by_
  home : IntOk a.home
  e : EndOk a.e
theorem ans_read {s s1 s2 s3 s4 s5 s6 : Rd} {er t b h : Int} {vs : List Int} {e : EndM} (h1 : RdOK intL IntOk s s1 er) (h2 : RdOK (seqL intL) (SeqOk IntOk) s1 s2 vs) (h3 : RdOK intL IntOk s2 s3 t) (h4 : RdOK intL IntOk s3 s4 b) (h5 : RdOK intL IntOk s4 s5 h) (h6 : RdOK endBL EndOk s5 s6 e) : RdOK ansL AnsBOk s s6 ⟨er, vs, t, b, h, e⟩ :=
  (((((h1.seq h2).seq h3).seq h4).seq h5).seq h6).map (fun z => (⟨z.1.1.1.1.1, z.1.1.1.1.2, z.1.1.1.2, z.1.1.2, z.1.2, z.2⟩ : Ans)) (fun a => (((((a.err, a.vals), a.at_), a.by_), a.home), a.e))
    (fun a ha => ⟨⟨⟨⟨⟨⟨ha.err, ha.vs⟩, ha.at_⟩, ha.by_⟩, ha.home⟩, ha.e⟩, by simp [ansL, seqL, intsBL], rfl⟩)
    (fun z hz => ⟨⟨hz.1.1.1.1.1, hz.1.1.1.1.2, hz.1.1.1.2, hz.1.1.2, hz.1.2, hz.2⟩, by simp [ansL, seqL, intsBL]⟩)
def zeroAns : Ans := ⟨0, [], 0, 0, 0, ⟨0, false, 0⟩⟩
/-- What reading an answer's bytes gives. -/
structure AnsRd (bs : List Nat) (w w' : World) (a : Ans) (vv : Value) (err : Int) : Prop where
  bel : Below w.heap.size w w'
  vs : OwI w.heap.size w' vv a.vals
  yes : err = 0 → AnsBOk a ∧ ∃ z, z ≤ 7 ∧ bitsOf bs = ansL a ++ List.replicate z false
  no : err ≠ 0 → a = zeroAns
  all : ∀ a' z, AnsBOk a' → z ≤ 7 → bitsOf bs = ansL a' ++ List.replicate z false → err = 0 ∧ a = a'
def AnsRQ (bs : List Nat) (w : World) (e : Ending) (w' : World) : Prop := ∃ a vv err, e = .returned (.tuple #[ansV a vv, vi err]) ∧ AnsRd bs w w' a vv err
/-- The reading of an answer, in memory. -/
structure RAS (w : World) (base p Y : Nat) (s : Rd) (e : Int) (vv : Value) (vs : List Int) (W : World) : Prop where
  rd : RdrS base p s W
  gro : w.grownBy W (some p)
  box : W.heap[Y]? = some (.cells #[vi e, vv, vi 0, vi 0, vi 0, vi 0, .bool false, vi 0] 37)
  ovs : OwI w.heap.size W vv vs
  px : p < w.heap.size
  ly : w.heap.size ≤ Y
section
variable {w A B : World} {base p Y : Nat} {s s' : Rd} {e : Int} {vv vv' : Value} {vs : List Int}
theorem RAS.y1 (h : RAS w base p Y s e vv vs A) : A.cell? ⟨Y, 1, none⟩ = some vv := by rw [Bt.cell_of h.box]; rfl
theorem RAS.read (h : RAS w base p Y s e vv vs A) (hg : A.grownBy B (some p)) (hs : RdrS base p s' B) : RAS w base p Y s' e vv vs B :=
  ⟨hs, gro_trans h.gro hg, (hg.block Y (Array.getElem?_eq_some_iff.1 h.box).1 (fun e => by have := Option.some.inj e; have := h.px; have := h.ly; omega)).trans h.box,
    World.ownsRow.kept h.ovs hg (own_ne h.ovs h.px), h.px, h.ly⟩
theorem RAS.alloc (h : RAS w base p Y s e vv vs A) (o : Obj) : RAS w base p Y s e vv vs (A.alloc o) :=
  h.read (World.grownBy_alloc A o _) (h.rd.later ((Below.refl _ _).alloc (Nat.le_refl _) o))
theorem RAS.drew (h : RAS w base p Y s e vv vs A) : RAS w base p Y s e vv vs A.drew :=
  h.read ⟨rfl, rfl, rfl, Nat.le_refl _, fun _ _ _ => rfl⟩ h.rd
/-- One value more. -/
theorem RAS.addV (o : Int) (h : RAS w base p Y s e vv vs A) (hg : A.grownBy B vv.ownBlock) (hr : B.ownsRow w.heap.size 3 1 vv' (vs.length + 1) (vs.flatMap viC ++ [vi o])) :
    RAS w base p Y s e vv' (vs ++ [o]) (B.setCell ⟨Y, 1, none⟩ vv') := by
  have hY : B.heap[Y]? = _ := (hg.block Y (Array.getElem?_eq_some_iff.1 h.box).1 (row_ne h.ovs h.box (by decide))).trans h.box
  have hrow : OwI w.heap.size B vv' (vs ++ [o]) := by
    show World.ownsRow _ _ _ _ _ _ _
    rw [List.length_append, List.flatMap_append]; simpa [viC] using hr
  have hgro : w.grownBy B (some p) := ⟨hg.os.trans h.gro.os, hg.tape.trans h.gro.tape, hg.output.trans h.gro.output, Nat.le_trans h.gro.size hg.size, fun k hk hne => (hg.block k (Nat.lt_of_lt_of_le hk h.gro.size) (fun e => by have := (World.ownsRow.lt h.ovs k e.symm).1; omega)).trans (h.gro.block k hk hne)⟩
  refine ⟨(h.rd.grown h.ovs hg (by decide) (by decide)).setO hY (by decide) (by decide) _, ⟨hgro.os, hgro.tape, hgro.output, by simpa [World.setCell] using hgro.size, fun k hk hne => (Bt.cells_other _ rfl (fun e => by subst e; have := h.ly; omega)).trans (hgro.block k hk hne)⟩, ?_, own_setO hrow hY (by decide) _, h.px, h.ly⟩
  exact Bt.cells_set _ hY
end
end Go.Proofs.Ytdkkpkgfiodlbaa

/- shard.ReadAnswer. Printed by wip/gen/gen_sbrd.py. -/
namespace Go.Proofs.Ytdkkpkgfiodlbaa
open Go.RowKit Go.Maps
attribute [local go_sem] Oper.semAt_some

theorem RAS.fin {w W : World} {base p Y : Nat} {s : Rd} {e : Int} {vv : Value} {vs : List Int} (h : RAS w base p Y s e vv vs W) (t b h' x at_ : Int) (c : Bool) :
    ((((((W.setCell ⟨Y, 2, none⟩ (vi t)).setCell ⟨Y, 3, none⟩ (vi b)).setCell ⟨Y, 4, none⟩ (vi h')).setCell ⟨Y, 5, none⟩ (vi x)).setCell ⟨Y, 6, none⟩ (.bool c)).setCell ⟨Y, 7, none⟩ (vi at_)).heap[Y]? = some (.cells #[vi e, vv, vi t, vi b, vi h', vi x, .bool c, vi at_] 37) ∧ RdrS base p s ((((((W.setCell ⟨Y, 2, none⟩ (vi t)).setCell ⟨Y, 3, none⟩ (vi b)).setCell ⟨Y, 4, none⟩ (vi h')).setCell ⟨Y, 5, none⟩ (vi x)).setCell ⟨Y, 6, none⟩ (.bool c)).setCell ⟨Y, 7, none⟩ (vi at_)) ∧ OwI w.heap.size ((((((W.setCell ⟨Y, 2, none⟩ (vi t)).setCell ⟨Y, 3, none⟩ (vi b)).setCell ⟨Y, 4, none⟩ (vi h')).setCell ⟨Y, 5, none⟩ (vi x)).setCell ⟨Y, 6, none⟩ (.bool c)).setCell ⟨Y, 7, none⟩ (vi at_)) vv vs ∧ w.grownBy ((((((W.setCell ⟨Y, 2, none⟩ (vi t)).setCell ⟨Y, 3, none⟩ (vi b)).setCell ⟨Y, 4, none⟩ (vi h')).setCell ⟨Y, 5, none⟩ (vi x)).setCell ⟨Y, 6, none⟩ (.bool c)).setCell ⟨Y, 7, none⟩ (vi at_)) (some p) := by
  have h0 := h.box
  have h1 := Bt.cells_set (o := 2) (vi t) h0
  have h2 := Bt.cells_set (o := 3) (vi b) h1
  have h3 := Bt.cells_set (o := 4) (vi h') h2
  have h4 := Bt.cells_set (o := 5) (vi x) h3
  have h5 := Bt.cells_set (o := 6) (.bool c) h4
  have h6 := Bt.cells_set (o := 7) (vi at_) h5
  exact ⟨h6, (((((h.rd.setO h0 (by decide) (by decide) _).setO h1 (by decide) (by decide) _).setO h2 (by decide) (by decide) _).setO h3 (by decide) (by decide) _).setO h4 (by decide) (by decide) _).setO h5 (by decide) (by decide) _,
    own_setO (own_setO (own_setO (own_setO (own_setO (own_setO h.ovs h0 (by decide) _) h1 (by decide) _) h2 (by decide) _) h3 (by decide) _) h4 (by decide) _) h5 (by decide) _,
    gro_setNew (gro_setNew (gro_setNew (gro_setNew (gro_setNew (gro_setNew h.gro h.ly _) h.ly _) h.ly _) h.ly _) h.ly _) h.ly _⟩
set_option maxRecDepth 100000 in
set_option maxHeartbeats 8000000 in
theorem readAnswer_call {bs : List Nat} {v : Value} (w : World) (h : Src w v 1 bs.length (bs.map u8)) (hb : ∀ b ∈ bs, b < 256) (hl : bs.length ≤ 1048576) :
    Calls Try.prog 25 #[v] w (AnsRQ bs w) := by
  have HSR := Lib.hid (fun o => h.below ((Below.refl w.heap.size w).alloc (Nat.le_refl _) o))
  have HB := Lib.hid hb
  have HZ0 := Lib.hid (Bt.alloc_at w (.cells #[vi 0, .slice none 0 0, vi 0, vi 0, vi 0, vi 0, .bool false, vi 0] 37))
  have HB0 := Lib.hid ((Below.refl w.heap.size w).alloc (Nat.le_refl _) (.cells #[vi 0, .slice none 0 0, vi 0, vi 0, vi 0, vi 0, .bool false, vi 0] 37))
  clear h hb
  go_enter Try.func25, Try.ntmps25
  go_upto_region 1 with fail
  have HSR1 := Lib.hid (HSR.out (.cells #[vi 0, .slice none 0 0, vi 0, vi 0, vi 0, vi 0, .bool false, vi 0] 37))
  clear HSR
  generalize w.alloc (.cells #[vi 0, .slice none 0 0, vi 0, vi 0, vi 0, vi 0, .bool false, vi 0] 37) = w1 at *
  have hX1 := (Array.getElem?_eq_some_iff.1 HZ0.out).1
  obtain ⟨X, hX⟩ : ∃ X, X = w.heap.size := ⟨_, rfl⟩
  rw [← hX] at HZ0 hX1 ⊢
  have HXE := Lib.hid hX
  clear hX
  go_upto_region 2 with (go_at_call 49; refine (readB_call (bs := bs) w1 HSR1.out HB.out hl).mono ?_; rintro e2 w2 ⟨q, rfl, hrd2, hbe2⟩; have HRD2 := Lib.hid hrd2; have HBE2 := Lib.hid hbe2; clear hrd2 hbe2)
  have hq1 := HRD2.out.1
  have hqX : X ≠ q := by omega
  have HZ2 := Lib.hid ((HBE2.out.block X hX1).trans HZ0.out)
  have HB2 := Lib.hid (HB0.out.trans (HBE2.out.mono HB0.out.size))
  have hX2 := Nat.lt_of_lt_of_le hX1 HBE2.out.size
  have hneq : some X ≠ some q := fun e => hqX (Option.some.inj e)
  clear HZ0 HB0 HBE2 HSR1
  go_wp2_with fail
  refine (intR_call w2 HRD2.out).mono ?_
  rintro e3 w3 ⟨er, s3, rfl, hck, hr3, hs3, hg3⟩
  have HEO := Lib.hid hck
  have HER := Lib.hid hr3
  have HI3 := Lib.hid (show RAS w2 _ q w3.heap.size s3 er (.slice none 0 0) [] (w3.alloc (.cells #[vi er, .slice none 0 0, vi 0, vi 0, vi 0, vi 0, .bool false, vi 0] 37)) from
    ⟨hs3.later ((Below.refl _ _).alloc (Nat.le_refl _) _), gro_trans hg3 (World.grownBy_alloc w3 _ _), Bt.alloc_at w3 _, World.ownsRow_nil _ _ _ _, HRD2.out.lt, hg3.size⟩)
  clear hck hr3 hs3 hg3
  dsimp only
  go_upto_region 3 with fail
  generalize w3.alloc (.cells #[vi er, .slice none 0 0, vi 0, vi 0, vi 0, vi 0, .bool false, vi 0] 37) = w4 at *
  obtain ⟨Y, hY⟩ : ∃ Y, Y = w3.heap.size := ⟨_, rfl⟩
  rw [← hY] at HI3 ⊢
  clear hY
  go_wp2_with (go_at_call 55; refine (numR_call w4 HI3.out.rd).mono ?_; rintro e5 w5 ⟨n5, s5, rfl, hn5, hr5, hs5, hg5⟩; have HR5 := Lib.hid hr5; have HI5 := Lib.hid (HI3.out.read hg5 hs5); clear hr5 hs5 hg5)
  have hrl := HI5.out.rd.restLe
  go_loopw [6] (fun t wr => ∃ m : Nat, t = .int .u64 (m : Nat) ∧ m < 2 ^ 64 ∧ Hid (∃ (sk : Rd) (vv : Value) (vs : List Int), RAS w2 _ q Y sk er vv vs wr ∧ RdOK (fun l : List Int => l.flatMap intL) (LenOk IntOk vs.length) s5 sk vs ∧ vs.length + m = n5 ∧ (∀ o ∈ vs, IntOk o) ∧ (sk.bad = 0 → vs.length + sk.rest.length ≤ s5.rest.length) ∧ vs.length ≤ s5.rest.length + 1)) (fun t _ => (intOf t).toNat)
  case atStart => exact ⟨n5, rfl, hn5, Lib.hid ⟨s5, _, [], HI5.out, RdOK.none _, by simp, (fun o h => by cases h), (fun _ => by simp), by simp⟩⟩
  case round =>
    obtain ⟨wq, rfl⟩ : ∃ wq : World, wq = wr := ⟨_, rfl⟩
    obtain ⟨m, rfl, hm, HJ⟩ := hrel
    obtain ⟨sq, vv, vs, hI, hR, hn, hok, hlen, hle⟩ := HJ.out
    have HQ := Lib.hid hI
    have HR := Lib.hid hR
    have HN := Lib.hid hn
    have HOKQ := Lib.hid hok
    have HLEN := Lib.hid hlen
    clear HJ hI hR hn hok hlen
    have fin : (m = 0 ∨ sq.bad ≠ 0) → RdOK (seqL intL) (SeqOk IntOk) s3 sq vs := by
      intro hc
      have hRn : RdOK (fun l : List Int => l.flatMap intL) (LenOk IntOk n5) s5 sq vs := by
        have hn := HN.out
        rcases hc with h0 | hb
        · rw [h0, Nat.add_zero] at hn; rw [← hn]; exact HR.out
        · exact HR.out.cut hb (by omega)
      exact HR5.out.dep hRn
    have FINH := Lib.hid fin
    clear fin
    by_cases hm0 : m = 0
    · have h1 : decide ((0 : Int) < m) = false := decide_eq_false (by omega)
      have h2 : decide (0 < m) = false := decide_eq_false (by omega)
      have HFI := Lib.hid (FINH.out (.inl hm0))
      clear hm0
      go_upto_region 7 with fail
      obtain ⟨av, cv, rfl⟩ := Bt.own_shape (show World.ownsRow _ _ _ _ vv vs.length _ from HQ.out.ovs)
      have hqY : q ≠ Y := by have := HQ.out.px; have := HQ.out.ly; omega
      clear h1 h2
      go_upto_region 8 with (first
        | (go_at_call 52; refine (readEnd_call wc HC3.out.rd).mono ?_; rintro ed wd ⟨⟨etx, eco, eat⟩, sd, rfl, heok, hrd, hsd, hgd⟩; have HEOK := Lib.hid heok; have HRd := Lib.hid hrd; have HD3 := Lib.hid (HC3.out.read hgd hsd); clear heok hrd hsd hgd; have y2 : wd.cell? ⟨Y, 2, none⟩ = some (vi 0) := (by rw [Bt.cell_of HD3.out.box]; rfl); have y3 : wd.cell? ⟨Y, 3, none⟩ = some (vi 0) := (by rw [Bt.cell_of HD3.out.box]; rfl); have y4 : wd.cell? ⟨Y, 4, none⟩ = some (vi 0) := (by rw [Bt.cell_of HD3.out.box]; rfl); have y5 : wd.cell? ⟨Y, 5, none⟩ = some (vi 0) := (by rw [Bt.cell_of HD3.out.box]; rfl); have y6 : wd.cell? ⟨Y, 6, none⟩ = some (.bool false) := (by rw [Bt.cell_of HD3.out.box]; rfl); have y7 : wd.cell? ⟨Y, 7, none⟩ = some (vi 0) := (by rw [Bt.cell_of HD3.out.box]; rfl); have yf := (fun o => Bt.free_of HD3.out.box o); unfold endV; dsimp only)
        | (go_at_call 50; refine (intR_call wb HB3.out.rd).mono ?_; rintro ec wc ⟨h, sc, rfl, hh, hrc, hsc, hgc⟩; have HH := Lib.hid hh; have HRc := Lib.hid hrc; have HC3 := Lib.hid (HB3.out.read hgc hsc); clear hh hrc hsc hgc)
        | (go_at_call 50; refine (intR_call wa HA3.out.rd).mono ?_; rintro eb wb ⟨b, sb, rfl, hb, hrb, hsb, hgb⟩; have HBB := Lib.hid hb; have HRb := Lib.hid hrb; have HB3 := Lib.hid (HA3.out.read hgb hsb); clear hb hrb hsb hgb)
        | (go_at_call 50; refine (intR_call wq HQ.out.rd).mono ?_; rintro ea wa ⟨t, sa, rfl, ht, hra, hsa, hga⟩; have HTT := Lib.hid ht; have HRa := Lib.hid hra; have HA3 := Lib.hid (HQ.out.read hga hsa); clear ht hra hsa hga))
      have HE := Lib.hid (HD3.out.fin t b h etx eat eco)
      clear y2 y3 y4 y5 y6 y7 yf
      generalize ((((((wd.setCell ⟨Y, 2, none⟩ (vi t)).setCell ⟨Y, 3, none⟩ (vi b)).setCell ⟨Y, 4, none⟩ (vi h)).setCell ⟨Y, 5, none⟩ (vi etx)).setCell ⟨Y, 6, none⟩ (.bool eco)).setCell ⟨Y, 7, none⟩ (vi eat)) = wE at *
      have HRC := Lib.hid (ans_read HER.out HFI.out HRa.out HRb.out HRc.out HRd.out)
      have HZE := Lib.hid ((HE.out.2.2.2.block X hX2 hneq).trans HZ2.out)
      have HBE := Lib.hid (HB2.out.trans (gro_below HE.out.2.2.2 (by have := HXE.out; omega) HB2.out.size))
      go_upto_region 9 with (go_at_call 53; refine (end_call wE HE.out.2.1).mono ?_; rintro e7 w7 ⟨x, rfl, hx1, hx2, hx3, n7, rfl⟩)
      have HX1 := Lib.hid hx1
      have HX3 := Lib.hid hx3
      clear hx1 hx2 hx3
      have HZ7 := Lib.hid (show (wE.drewN n7).heap[X]? = _ from HZE.out)
      have HY7 := Lib.hid (show (wE.drewN n7).heap[Y]? = _ from HE.out.1)
      have HB7 := Lib.hid (show Below w.heap.size w (wE.drewN n7) from ⟨HBE.out.os, HBE.out.tape, HBE.out.output, HBE.out.size, HBE.out.block⟩)
      have HOV7 := Lib.hid (show OwI w2.heap.size (wE.drewN n7) (.slice av vs.length cv) vs from HE.out.2.2.1)
      have HALL := Lib.hid (show ∀ a' z, AnsBOk a' → z ≤ 7 → bitsOf bs = ansL a' ++ List.replicate z false → (⟨er, vs, t, b, h, ⟨etx, eco, eat⟩⟩ : Ans) = a' ∧ x = 0 from fun a' z h1 h2 h3 => by
        obtain ⟨a, b', d⟩ := HRC.out.1 rfl a' _ h1 h3
        exact ⟨a, HX1.out.2 ⟨d, by rw [b']; simpa using h2, by rw [b']; exact valL_falses z⟩⟩)
      generalize wE.drewN n7 = w7 at *
      have hXw : w.heap.size ≤ X := by rw [HXE.out]; exact Nat.le_refl _
      have hb7 := HB7.out.size
      have xf : ∀ o, w7.frozen? ⟨X, o, none⟩ = false := fun o => Bt.free_of HZ7.out o
      have x0 : w7.cell? ⟨X, 0, none⟩ = some (vi 0) := (by rw [Bt.cell_of HZ7.out]; rfl)
      have x1 : w7.cell? ⟨X, 1, none⟩ = some (.slice none 0 0) := (by rw [Bt.cell_of HZ7.out]; rfl)
      have x2 : w7.cell? ⟨X, 2, none⟩ = some (vi 0) := (by rw [Bt.cell_of HZ7.out]; rfl)
      have x3 : w7.cell? ⟨X, 3, none⟩ = some (vi 0) := (by rw [Bt.cell_of HZ7.out]; rfl)
      have x4 : w7.cell? ⟨X, 4, none⟩ = some (vi 0) := (by rw [Bt.cell_of HZ7.out]; rfl)
      have x5 : w7.cell? ⟨X, 5, none⟩ = some (vi 0) := (by rw [Bt.cell_of HZ7.out]; rfl)
      have x6 : w7.cell? ⟨X, 6, none⟩ = some (.bool false) := (by rw [Bt.cell_of HZ7.out]; rfl)
      have x7 : w7.cell? ⟨X, 7, none⟩ = some (vi 0) := (by rw [Bt.cell_of HZ7.out]; rfl)
      by_cases hx : x = 0
      · have hb1 : (x != 0) = false := by simp [hx]
        have HX0 := Lib.hid hx
        clear hx
        have y0 : w7.cell? ⟨Y, 0, none⟩ = some (vi er) := (by rw [Bt.cell_of HY7.out]; rfl)
        have y1 : w7.cell? ⟨Y, 1, none⟩ = some (.slice av vs.length cv) := (by rw [Bt.cell_of HY7.out]; rfl)
        have y2 : w7.cell? ⟨Y, 2, none⟩ = some (vi t) := (by rw [Bt.cell_of HY7.out]; rfl)
        have y3 : w7.cell? ⟨Y, 3, none⟩ = some (vi b) := (by rw [Bt.cell_of HY7.out]; rfl)
        have y4 : w7.cell? ⟨Y, 4, none⟩ = some (vi h) := (by rw [Bt.cell_of HY7.out]; rfl)
        have y5 : w7.cell? ⟨Y, 5, none⟩ = some (vi etx) := (by rw [Bt.cell_of HY7.out]; rfl)
        have y6 : w7.cell? ⟨Y, 6, none⟩ = some (.bool eco) := (by rw [Bt.cell_of HY7.out]; rfl)
        have y7 : w7.cell? ⟨Y, 7, none⟩ = some (vi eat) := (by rw [Bt.cell_of HY7.out]; rfl)
        go_wp2_with fail
        change bodyPost _ _ _ _ _ (w7.setCells X 0 [vi er, .slice av vs.length cv, vi t, vi b, vi h, vi etx, .bool eco, vi eat])
        have HZR := Lib.hid (show AnsRd bs w (w7.setCells X 0 [vi er, .slice av vs.length cv, vi t, vi b, vi h, vi etx, .bool eco, vi eat]) ⟨er, vs, t, b, h, ⟨etx, eco, eat⟩⟩ (.slice av vs.length cv) 0 from ⟨HB7.out.trans (setCells_below X _ 0 w7 hXw hb7), own_mono (own_setAll HOV7.out HZ7.out (by decide) 0 _) HB2.out.size, fun _ => (by have h0 := HX1.out.1 HX0.out; obtain ⟨h1, h2, h3⟩ := HRC.out.2 h0.1; obtain ⟨z, hz, he⟩ := falses_end h0.2.1 h0.2.2; exact ⟨h2, z, hz, h3.trans (by rw [he])⟩), fun h => absurd rfl h, fun a' z h1 h2 h3 => ⟨rfl, (HALL.out a' z h1 h2 h3).1⟩⟩)
        have HZC := Lib.hid (setCells_all (cs := [vi er, .slice av vs.length cv, vi t, vi b, vi h, vi etx, .bool eco, vi eat]) HZ7.out rfl)
        clear x0 x1 x2 x3 x4 x5 x6 x7 xf
        generalize w7.setCells X 0 [vi er, .slice av vs.length cv, vi t, vi b, vi h, vi etx, .bool eco, vi eat] = wz at *
        have r0 : wz.cell? ⟨X, 0, none⟩ = some (vi er) := (by rw [Bt.cell_of HZC.out]; rfl)
        have r1 : wz.cell? ⟨X, 1, none⟩ = some (.slice av vs.length cv) := (by rw [Bt.cell_of HZC.out]; rfl)
        have r2 : wz.cell? ⟨X, 2, none⟩ = some (vi t) := (by rw [Bt.cell_of HZC.out]; rfl)
        have r3 : wz.cell? ⟨X, 3, none⟩ = some (vi b) := (by rw [Bt.cell_of HZC.out]; rfl)
        have r4 : wz.cell? ⟨X, 4, none⟩ = some (vi h) := (by rw [Bt.cell_of HZC.out]; rfl)
        have r5 : wz.cell? ⟨X, 5, none⟩ = some (vi etx) := (by rw [Bt.cell_of HZC.out]; rfl)
        have r6 : wz.cell? ⟨X, 6, none⟩ = some (.bool eco) := (by rw [Bt.cell_of HZC.out]; rfl)
        have r7 : wz.cell? ⟨X, 7, none⟩ = some (vi eat) := (by rw [Bt.cell_of HZC.out]; rfl)
        refine bodyPost_ret (v := .tuple #[ansV ⟨er, vs, t, b, h, ⟨etx, eco, eat⟩⟩ (.slice av vs.length cv), vi 0]) (by simp [results, Try.results25, go_sem, ansV, ansC, zeroAns, r0, r1, r2, r3, r4, r5, r6, r7]) rfl ⟨_, _, _, rfl, HZR.out⟩
      · have hb1 : (x != 0) = true := by simp [hx]
        have HX0 := Lib.hid hx
        clear hx
        go_wp2_with fail
        change bodyPost _ _ _ _ _ (w7.setCells X 0 [vi 0, .slice none 0 0, vi 0, vi 0, vi 0, vi 0, .bool false, vi 0])
        have HZR := Lib.hid (show AnsRd bs w (w7.setCells X 0 [vi 0, .slice none 0 0, vi 0, vi 0, vi 0, vi 0, .bool false, vi 0]) zeroAns (.slice none 0 0) x from ⟨HB7.out.trans (setCells_below X _ 0 w7 hXw hb7), World.ownsRow_nil _ _ _ _, fun h0 => absurd h0 HX0.out, fun _ => rfl, fun a' z h1 h2 h3 => absurd (HALL.out a' z h1 h2 h3).2 HX0.out⟩)
        have HZC := Lib.hid (setCells_all (cs := [vi 0, .slice none 0 0, vi 0, vi 0, vi 0, vi 0, .bool false, vi 0]) HZ7.out rfl)
        clear x0 x1 x2 x3 x4 x5 x6 x7 xf
        generalize w7.setCells X 0 [vi 0, .slice none 0 0, vi 0, vi 0, vi 0, vi 0, .bool false, vi 0] = wz at *
        have r0 : wz.cell? ⟨X, 0, none⟩ = some (vi 0) := (by rw [Bt.cell_of HZC.out]; rfl)
        have r1 : wz.cell? ⟨X, 1, none⟩ = some (.slice none 0 0) := (by rw [Bt.cell_of HZC.out]; rfl)
        have r2 : wz.cell? ⟨X, 2, none⟩ = some (vi 0) := (by rw [Bt.cell_of HZC.out]; rfl)
        have r3 : wz.cell? ⟨X, 3, none⟩ = some (vi 0) := (by rw [Bt.cell_of HZC.out]; rfl)
        have r4 : wz.cell? ⟨X, 4, none⟩ = some (vi 0) := (by rw [Bt.cell_of HZC.out]; rfl)
        have r5 : wz.cell? ⟨X, 5, none⟩ = some (vi 0) := (by rw [Bt.cell_of HZC.out]; rfl)
        have r6 : wz.cell? ⟨X, 6, none⟩ = some (.bool false) := (by rw [Bt.cell_of HZC.out]; rfl)
        have r7 : wz.cell? ⟨X, 7, none⟩ = some (vi 0) := (by rw [Bt.cell_of HZC.out]; rfl)
        refine bodyPost_ret (v := .tuple #[ansV zeroAns (.slice none 0 0), vi x]) (by simp [results, Try.results25, go_sem, ansV, ansC, zeroAns, r0, r1, r2, r3, r4, r5, r6, r7]) rfl ⟨_, _, _, rfl, HZR.out⟩
    · have h1 : decide ((0 : Int) < m) = true := decide_eq_true (by omega)
      have h2 : decide (0 < m) = true := decide_eq_true (by omega)
      by_cases hb : sq.bad = 0
      · have hb1 : (sq.bad == 0) = true := by simp [hb]
        have HB := Lib.hid hb
        clear hb
        go_upto_region 6 with (go_at_call 56; refine (err_call wq HQ.out.rd).mono ?_; rintro e9 w9 ⟨rfl, rfl⟩)
        obtain ⟨m', rfl⟩ : ∃ m'', m = m'' + 1 := ⟨m - 1, by omega⟩
        obtain ⟨av, cv, rfl⟩ := Bt.own_shape (show World.ownsRow _ _ _ _ vv vs.length _ from HQ.out.ovs)
        have HID := Lib.hid (HQ.out.drew)
        have y3 := HQ.out.y1
        have y3' := HID.out.y1
        have hwm : IntKind.u64.wrap (m' : Int) = (m' : Int) := by rw [IntKind.wrap_u64]; omega
        have hbw := HQ.out.gro.size
        have hwl : vs.length + 1 ≤ 68719476736 := by omega
        clear hm0
        go_region_law (first
          | (go_simp; go_at_call 50; refine (intR_call _ HID.out.rd).mono ?_; rintro ea1 wa1 ⟨q1, t1, rfl, hq1, hra, hsa, hga⟩; have HRA := Lib.hid hra; have HA1 := Lib.hid (HID.out.read hga hsa); have hbw1 : w2.heap.size ≤ wa1.heap.size := Nat.le_trans hbw hga.size; have y3a := HA1.out.y1; have y3a' := (fun o => (HA1.out.alloc o).y1); clear hra hsa hga)
          | (refine step_append_src rfl _ _ 27 rfl eltI w2.heap.size vs.length _ ((HA1.out.alloc _).ovs) rfl 1 [vi q1] (src_new (cs := #[vi q1]) rfl rfl) rfl (by intro u hu; simp at hu; subst hu; rfl) hwl (by omega) (by simp; omega) ?_; intro vc1 wc1 hoc hgc _; obtain ⟨gc, cc, rfl⟩ := Bt.own_some hoc (by omega); have HC1 := Lib.hid ((HA1.out.alloc (.cells #[vi q1] 3)).addV q1 hgc hoc); have hYc : wc1.heap[Y]? = _ := (hgc.block Y (Array.getElem?_eq_some_iff.1 (HA1.out.alloc (.cells #[vi q1] 3)).box).1 (row_ne (HA1.out.alloc (.cells #[vi q1] 3)).ovs (HA1.out.alloc (.cells #[vi q1] 3)).box (by decide))).trans (HA1.out.alloc (.cells #[vi q1] 3)).box; have y3c : wc1.cell? ⟨Y, 1, none⟩ = some (.slice av vs.length cv) := (by rw [Bt.cell_of hYc]; rfl); have f3c : wc1.frozen? ⟨Y, 1, none⟩ = false := Bt.free_of hYc 1; clear hoc hgc hYc))
        all_goals
          go_wp2
          refine ⟨⟨m', by go_num, by omega, Lib.hid ⟨t1, _, vs ++ [q1], HC1.out, ?_, ?_, ?_, ?_, ?_⟩⟩, by simp only [intOf]; omega⟩
          · rw [List.length_append]; exact HR.out.snoc HRA.out
          · have := HN.out; simp; omega
          · intro o ho
            rcases List.mem_append.1 ho with ho | ho
            · exact HOKQ.out o ho
            · simp at ho; subst ho; exact hq1
          · intro h
            have e1 := HRA.out.less h
            have e2 := HLEN.out HB.out
            have e3 := numL_pos (x := zig q1) (by have := zig_lt hq1.1 hq1.2; omega)
            have e4 : 1 ≤ (intL q1).length := e3
            simp; omega
          · have e2 := HLEN.out HB.out
            simp; omega
      · have hb1 : (sq.bad == 0) = false := by simp [hb]
        have HFI := Lib.hid (FINH.out (.inr hb))
        clear hb
        go_upto_region 7 with (go_at_call 56; refine (err_call wq HQ.out.rd).mono ?_; rintro e9 w9 ⟨rfl, rfl⟩)
        obtain ⟨av, cv, rfl⟩ := Bt.own_shape (show World.ownsRow _ _ _ _ vv vs.length _ from HQ.out.ovs)
        have hqY : q ≠ Y := by have := HQ.out.px; have := HQ.out.ly; omega
        clear h1 h2
        go_upto_region 8 with (first
          | (go_at_call 52; refine (readEnd_call wc HC3.out.rd).mono ?_; rintro ed wd ⟨⟨etx, eco, eat⟩, sd, rfl, heok, hrd, hsd, hgd⟩; have HEOK := Lib.hid heok; have HRd := Lib.hid hrd; have HD3 := Lib.hid (HC3.out.read hgd hsd); clear heok hrd hsd hgd; have y2 : wd.cell? ⟨Y, 2, none⟩ = some (vi 0) := (by rw [Bt.cell_of HD3.out.box]; rfl); have y3 : wd.cell? ⟨Y, 3, none⟩ = some (vi 0) := (by rw [Bt.cell_of HD3.out.box]; rfl); have y4 : wd.cell? ⟨Y, 4, none⟩ = some (vi 0) := (by rw [Bt.cell_of HD3.out.box]; rfl); have y5 : wd.cell? ⟨Y, 5, none⟩ = some (vi 0) := (by rw [Bt.cell_of HD3.out.box]; rfl); have y6 : wd.cell? ⟨Y, 6, none⟩ = some (.bool false) := (by rw [Bt.cell_of HD3.out.box]; rfl); have y7 : wd.cell? ⟨Y, 7, none⟩ = some (vi 0) := (by rw [Bt.cell_of HD3.out.box]; rfl); have yf := (fun o => Bt.free_of HD3.out.box o); unfold endV; dsimp only)
          | (go_at_call 50; refine (intR_call wb HB3.out.rd).mono ?_; rintro ec wc ⟨h, sc, rfl, hh, hrc, hsc, hgc⟩; have HH := Lib.hid hh; have HRc := Lib.hid hrc; have HC3 := Lib.hid (HB3.out.read hgc hsc); clear hh hrc hsc hgc)
          | (go_at_call 50; refine (intR_call wa HA3.out.rd).mono ?_; rintro eb wb ⟨b, sb, rfl, hb, hrb, hsb, hgb⟩; have HBB := Lib.hid hb; have HRb := Lib.hid hrb; have HB3 := Lib.hid (HA3.out.read hgb hsb); clear hb hrb hsb hgb)
          | (go_at_call 50; refine (intR_call wq HQ.out.rd).mono ?_; rintro ea wa ⟨t, sa, rfl, ht, hra, hsa, hga⟩; have HTT := Lib.hid ht; have HRa := Lib.hid hra; have HA3 := Lib.hid (HQ.out.read hga hsa); clear ht hra hsa hga))
        have HE := Lib.hid (HD3.out.fin t b h etx eat eco)
        clear y2 y3 y4 y5 y6 y7 yf
        generalize ((((((wd.setCell ⟨Y, 2, none⟩ (vi t)).setCell ⟨Y, 3, none⟩ (vi b)).setCell ⟨Y, 4, none⟩ (vi h)).setCell ⟨Y, 5, none⟩ (vi etx)).setCell ⟨Y, 6, none⟩ (.bool eco)).setCell ⟨Y, 7, none⟩ (vi eat)) = wE at *
        have HRC := Lib.hid (ans_read HER.out HFI.out HRa.out HRb.out HRc.out HRd.out)
        have HZE := Lib.hid ((HE.out.2.2.2.block X hX2 hneq).trans HZ2.out)
        have HBE := Lib.hid (HB2.out.trans (gro_below HE.out.2.2.2 (by have := HXE.out; omega) HB2.out.size))
        go_upto_region 9 with (go_at_call 53; refine (end_call wE HE.out.2.1).mono ?_; rintro e7 w7 ⟨x, rfl, hx1, hx2, hx3, n7, rfl⟩)
        have HX1 := Lib.hid hx1
        have HX3 := Lib.hid hx3
        clear hx1 hx2 hx3
        have HZ7 := Lib.hid (show (wE.drewN n7).heap[X]? = _ from HZE.out)
        have HY7 := Lib.hid (show (wE.drewN n7).heap[Y]? = _ from HE.out.1)
        have HB7 := Lib.hid (show Below w.heap.size w (wE.drewN n7) from ⟨HBE.out.os, HBE.out.tape, HBE.out.output, HBE.out.size, HBE.out.block⟩)
        have HOV7 := Lib.hid (show OwI w2.heap.size (wE.drewN n7) (.slice av vs.length cv) vs from HE.out.2.2.1)
        have HALL := Lib.hid (show ∀ a' z, AnsBOk a' → z ≤ 7 → bitsOf bs = ansL a' ++ List.replicate z false → (⟨er, vs, t, b, h, ⟨etx, eco, eat⟩⟩ : Ans) = a' ∧ x = 0 from fun a' z h1 h2 h3 => by
          obtain ⟨a, b', d⟩ := HRC.out.1 rfl a' _ h1 h3
          exact ⟨a, HX1.out.2 ⟨d, by rw [b']; simpa using h2, by rw [b']; exact valL_falses z⟩⟩)
        generalize wE.drewN n7 = w7 at *
        have hXw : w.heap.size ≤ X := by rw [HXE.out]; exact Nat.le_refl _
        have hb7 := HB7.out.size
        have xf : ∀ o, w7.frozen? ⟨X, o, none⟩ = false := fun o => Bt.free_of HZ7.out o
        have x0 : w7.cell? ⟨X, 0, none⟩ = some (vi 0) := (by rw [Bt.cell_of HZ7.out]; rfl)
        have x1 : w7.cell? ⟨X, 1, none⟩ = some (.slice none 0 0) := (by rw [Bt.cell_of HZ7.out]; rfl)
        have x2 : w7.cell? ⟨X, 2, none⟩ = some (vi 0) := (by rw [Bt.cell_of HZ7.out]; rfl)
        have x3 : w7.cell? ⟨X, 3, none⟩ = some (vi 0) := (by rw [Bt.cell_of HZ7.out]; rfl)
        have x4 : w7.cell? ⟨X, 4, none⟩ = some (vi 0) := (by rw [Bt.cell_of HZ7.out]; rfl)
        have x5 : w7.cell? ⟨X, 5, none⟩ = some (vi 0) := (by rw [Bt.cell_of HZ7.out]; rfl)
        have x6 : w7.cell? ⟨X, 6, none⟩ = some (.bool false) := (by rw [Bt.cell_of HZ7.out]; rfl)
        have x7 : w7.cell? ⟨X, 7, none⟩ = some (vi 0) := (by rw [Bt.cell_of HZ7.out]; rfl)
        by_cases hx : x = 0
        · have hb1 : (x != 0) = false := by simp [hx]
          have HX0 := Lib.hid hx
          clear hx
          have y0 : w7.cell? ⟨Y, 0, none⟩ = some (vi er) := (by rw [Bt.cell_of HY7.out]; rfl)
          have y1 : w7.cell? ⟨Y, 1, none⟩ = some (.slice av vs.length cv) := (by rw [Bt.cell_of HY7.out]; rfl)
          have y2 : w7.cell? ⟨Y, 2, none⟩ = some (vi t) := (by rw [Bt.cell_of HY7.out]; rfl)
          have y3 : w7.cell? ⟨Y, 3, none⟩ = some (vi b) := (by rw [Bt.cell_of HY7.out]; rfl)
          have y4 : w7.cell? ⟨Y, 4, none⟩ = some (vi h) := (by rw [Bt.cell_of HY7.out]; rfl)
          have y5 : w7.cell? ⟨Y, 5, none⟩ = some (vi etx) := (by rw [Bt.cell_of HY7.out]; rfl)
          have y6 : w7.cell? ⟨Y, 6, none⟩ = some (.bool eco) := (by rw [Bt.cell_of HY7.out]; rfl)
          have y7 : w7.cell? ⟨Y, 7, none⟩ = some (vi eat) := (by rw [Bt.cell_of HY7.out]; rfl)
          go_wp2_with fail
          change bodyPost _ _ _ _ _ (w7.setCells X 0 [vi er, .slice av vs.length cv, vi t, vi b, vi h, vi etx, .bool eco, vi eat])
          have HZR := Lib.hid (show AnsRd bs w (w7.setCells X 0 [vi er, .slice av vs.length cv, vi t, vi b, vi h, vi etx, .bool eco, vi eat]) ⟨er, vs, t, b, h, ⟨etx, eco, eat⟩⟩ (.slice av vs.length cv) 0 from ⟨HB7.out.trans (setCells_below X _ 0 w7 hXw hb7), own_mono (own_setAll HOV7.out HZ7.out (by decide) 0 _) HB2.out.size, fun _ => (by have h0 := HX1.out.1 HX0.out; obtain ⟨h1, h2, h3⟩ := HRC.out.2 h0.1; obtain ⟨z, hz, he⟩ := falses_end h0.2.1 h0.2.2; exact ⟨h2, z, hz, h3.trans (by rw [he])⟩), fun h => absurd rfl h, fun a' z h1 h2 h3 => ⟨rfl, (HALL.out a' z h1 h2 h3).1⟩⟩)
          have HZC := Lib.hid (setCells_all (cs := [vi er, .slice av vs.length cv, vi t, vi b, vi h, vi etx, .bool eco, vi eat]) HZ7.out rfl)
          clear x0 x1 x2 x3 x4 x5 x6 x7 xf
          generalize w7.setCells X 0 [vi er, .slice av vs.length cv, vi t, vi b, vi h, vi etx, .bool eco, vi eat] = wz at *
          have r0 : wz.cell? ⟨X, 0, none⟩ = some (vi er) := (by rw [Bt.cell_of HZC.out]; rfl)
          have r1 : wz.cell? ⟨X, 1, none⟩ = some (.slice av vs.length cv) := (by rw [Bt.cell_of HZC.out]; rfl)
          have r2 : wz.cell? ⟨X, 2, none⟩ = some (vi t) := (by rw [Bt.cell_of HZC.out]; rfl)
          have r3 : wz.cell? ⟨X, 3, none⟩ = some (vi b) := (by rw [Bt.cell_of HZC.out]; rfl)
          have r4 : wz.cell? ⟨X, 4, none⟩ = some (vi h) := (by rw [Bt.cell_of HZC.out]; rfl)
          have r5 : wz.cell? ⟨X, 5, none⟩ = some (vi etx) := (by rw [Bt.cell_of HZC.out]; rfl)
          have r6 : wz.cell? ⟨X, 6, none⟩ = some (.bool eco) := (by rw [Bt.cell_of HZC.out]; rfl)
          have r7 : wz.cell? ⟨X, 7, none⟩ = some (vi eat) := (by rw [Bt.cell_of HZC.out]; rfl)
          refine bodyPost_ret (v := .tuple #[ansV ⟨er, vs, t, b, h, ⟨etx, eco, eat⟩⟩ (.slice av vs.length cv), vi 0]) (by simp [results, Try.results25, go_sem, ansV, ansC, zeroAns, r0, r1, r2, r3, r4, r5, r6, r7]) rfl ⟨_, _, _, rfl, HZR.out⟩
        · have hb1 : (x != 0) = true := by simp [hx]
          have HX0 := Lib.hid hx
          clear hx
          go_wp2_with fail
          change bodyPost _ _ _ _ _ (w7.setCells X 0 [vi 0, .slice none 0 0, vi 0, vi 0, vi 0, vi 0, .bool false, vi 0])
          have HZR := Lib.hid (show AnsRd bs w (w7.setCells X 0 [vi 0, .slice none 0 0, vi 0, vi 0, vi 0, vi 0, .bool false, vi 0]) zeroAns (.slice none 0 0) x from ⟨HB7.out.trans (setCells_below X _ 0 w7 hXw hb7), World.ownsRow_nil _ _ _ _, fun h0 => absurd h0 HX0.out, fun _ => rfl, fun a' z h1 h2 h3 => absurd (HALL.out a' z h1 h2 h3).2 HX0.out⟩)
          have HZC := Lib.hid (setCells_all (cs := [vi 0, .slice none 0 0, vi 0, vi 0, vi 0, vi 0, .bool false, vi 0]) HZ7.out rfl)
          clear x0 x1 x2 x3 x4 x5 x6 x7 xf
          generalize w7.setCells X 0 [vi 0, .slice none 0 0, vi 0, vi 0, vi 0, vi 0, .bool false, vi 0] = wz at *
          have r0 : wz.cell? ⟨X, 0, none⟩ = some (vi 0) := (by rw [Bt.cell_of HZC.out]; rfl)
          have r1 : wz.cell? ⟨X, 1, none⟩ = some (.slice none 0 0) := (by rw [Bt.cell_of HZC.out]; rfl)
          have r2 : wz.cell? ⟨X, 2, none⟩ = some (vi 0) := (by rw [Bt.cell_of HZC.out]; rfl)
          have r3 : wz.cell? ⟨X, 3, none⟩ = some (vi 0) := (by rw [Bt.cell_of HZC.out]; rfl)
          have r4 : wz.cell? ⟨X, 4, none⟩ = some (vi 0) := (by rw [Bt.cell_of HZC.out]; rfl)
          have r5 : wz.cell? ⟨X, 5, none⟩ = some (vi 0) := (by rw [Bt.cell_of HZC.out]; rfl)
          have r6 : wz.cell? ⟨X, 6, none⟩ = some (.bool false) := (by rw [Bt.cell_of HZC.out]; rfl)
          have r7 : wz.cell? ⟨X, 7, none⟩ = some (vi 0) := (by rw [Bt.cell_of HZC.out]; rfl)
          refine bodyPost_ret (v := .tuple #[ansV zeroAns (.slice none 0 0), vi x]) (by simp [results, Try.results25, go_sem, ansV, ansC, zeroAns, r0, r1, r2, r3, r4, r5, r6, r7]) rfl ⟨_, _, _, rfl, HZR.out⟩
end Go.Proofs.Ytdkkpkgfiodlbaa

/- crucibleref01.Put. -/
namespace Go.Proofs.Ytdkkpkgfiodlbaa
open Go.RowKit
/-- Bits as a list of noughts and ones. -/
def b01 (L : List Bool) : List Nat := L.map (fun b => if b then 1 else 0)
theorem b01_length (L : List Bool) : (b01 L).length = L.length := by simp [b01]
theorem b01_append (A B : List Bool) : b01 (A ++ B) = b01 A ++ b01 B := by simp [b01]
theorem b01_cons (b : Bool) (B : List Bool) : b01 (b :: B) = (if b then 1 else 0) :: b01 B := by simp [b01]
theorem u8_one (bs : List Nat) : ∀ u ∈ bs.map u8, u.oneCell' = true := by
  intro u hu; simp at hu; obtain ⟨a, _, rfl⟩ := hu; rfl
/-- A row of bits that the call owns. -/
def Ow01 (base : Nat) (w : World) (v : Value) (L : List Bool) : Prop := w.ownsRow base 5 1 v L.length ((b01 L).map u8)
def O01Q (L : List Bool) (w : World) (e : Ending) (w' : World) : Prop := ∃ v, e = .returned v ∧ Ow01 w.heap.size w' v L ∧ Below w.heap.size w w'
theorem own_lit {base : Nat} (w : World) (z : Value) (hb : base ≤ w.heap.size) : (w.alloc (.cells #[z] 5)).ownsRow base 5 1 (.slice (some ⟨w.heap.size, 0, none⟩) 1 1) 1 [z] :=
  ⟨rfl, .inr ⟨w.heap.size, 1, #[z], rfl, hb, Bt.alloc_at _ _, Nat.le_refl _, by decide, rfl, rfl⟩⟩
set_option maxRecDepth 100000 in
set_option maxHeartbeats 4000000 in
theorem refPut_call (x n : Nat) (w : World) (hx : x < 18446744073709551616) (hn : n ≤ 64) :
    Calls Try.prog 79 #[.int .u64 x, .int .i64 n] w (O01Q (putL x n) w) := by
  have h64 : decide ((64 : Int) < n) = false := decide_eq_false (by omega)
  go_enter Try.func79, Try.ntmps79
  go_wp2_with fail
  go_loopw [0, 5, 6] (fun y v i wr => ∃ (k : Nat) (z : Nat), k ≤ n ∧ i = vi k ∧ z < 18446744073709551616 ∧ y = .int .u64 (z : Nat) ∧ Hid (z = x / 2 ^ k ∧ Ow01 w.heap.size wr v (putL x k) ∧ Below w.heap.size w wr)) (fun _ _ i _ => (n : Int).toNat - (intOf i).toNat)
  case atStart =>
    refine ⟨0, x, Nat.zero_le _, rfl, hx, rfl, Lib.hid ⟨by simp, ?_, ?_⟩⟩
    · exact ⟨rfl, .inr ⟨w.heap.size, 0, #[], rfl, Nat.le_refl _, Bt.alloc_at _ _, Nat.le_refl _, by decide, rfl, rfl⟩⟩
    · exact (Below.refl _ _).alloc (Nat.le_refl _) _
  case round =>
    obtain ⟨wj, rfl⟩ : ∃ wj : World, wj = wr := ⟨_, rfl⟩
    obtain ⟨k, z, hk, rfl, hz, rfl, HJ⟩ := hrel
    by_cases hkn : k < n
    · have hkn2 : decide ((k : Int) < n) = true := decide_eq_true (by omega)
      have hw1 : IntKind.i64.wrap ((k : Int) + 1) = (k : Int) + 1 := IntWalk.i64_in _ (by omega)
      have hbw := HJ.out.2.2.size
      have hw2 : IntKind.u8.wrap ((z : Int) % 2) = ((z % 2 : Nat) : Int) := by rw [IntKind.wrap_u8]; omega
      have hk2 : 1 + (putL x k).length ≤ 68719476736 := by rw [putL_length]; omega
      have hrow := HJ.out.2.1
      obtain ⟨a, c, rfl⟩ := Bt.own_shape hrow
      rw [putL_length] at hk2 ⊢
      have hrow2 : wj.ownsRow w.heap.size 5 1 (.slice a (putL x k).length c) k ((b01 (putL x k)).map u8) := by unfold Ow01 at hrow; rw [putL_length] at hrow ⊢; exact hrow
      clear hrow
      rw [putL_length] at hrow2
      have HROW := Lib.hid hrow2
      have HSRC := fun o => Lib.hid ((own_src hrow2).below ((Below.refl wj.heap.size wj).alloc (Nat.le_refl _) o))
      clear hrow2
      go_wp2_with (refine wpList_append_src rfl (.tmp 18) (.tmp 19) 39 rfl eltU8 w.heap.size 1 _ (own_lit wj _ hbw) rfl k _ (HSRC _).out rfl (u8_one _) hk2 (by omega) (by simp; omega) ?_; intro v1 w1 ho1 hg1 _; have HO1 := Lib.hid ho1; have HG1 := Lib.hid hg1; clear ho1 hg1)
      refine ⟨⟨k + 1, z / 2, by omega, by go_num, by omega, by go_num, Lib.hid ⟨?_, ?_, ?_⟩⟩, by simp only [intOf]; omega⟩
      · rw [HJ.out.1, Nat.div_div_eq_div_mul, Nat.pow_succ]
      · have h1 := HO1.out
        unfold Ow01
        rw [putL_length, putL, b01_cons, List.map_cons, Nat.add_comm k 1, ← HJ.out.1]
        have h2 : (u8 (if (z % 2 == 1) = true then 1 else 0)) = Value.int IntKind.u8 ((z : Int) % 2) := by
          rcases (show z % 2 = 0 ∨ z % 2 = 1 by omega) with h | h
          · rw [h, show ((z : Int) % 2) = 0 by omega]; rfl
          · rw [h, show ((z : Int) % 2) = 1 by omega]; rfl
        rw [h2]; exact h1
      · exact HJ.out.2.2.trans (((Below.refl _ _).alloc hbw _).trans (below_grown HG1.out (by simp; omega) (fun j hj => by simp [Value.ownBlock] at hj; omega)))
    · have hkn2 : decide ((k : Int) < n) = false := decide_eq_false (by omega)
      have hke := Lib.hid (show k = n by omega)
      go_wp2_with fail
      go_ret
      exact ⟨_, rfl, by rw [← hke.out]; exact HJ.out.2.1, HJ.out.2.2⟩
end Go.Proofs.Ytdkkpkgfiodlbaa

/- append(s, make([]byte, k)...) at a row of bytes of the call's own. -/
namespace Go.Proofs.Ytdkkpkgfiodlbaa
open Go.RowKit

theorem zeroCells_u8 (k : Nat) : (Builtin.zeroCells (Value.int .u8 0).cells k).toList = List.replicate k (u8 0) := by
  unfold Builtin.zeroCells
  apply List.ext_getElem?
  intro j
  simp only [Array.toList_map, Array.toList_range, List.getElem?_map]
  have hs : (Value.int .u8 0).cells.size = 1 := rfl
  rw [hs, Nat.mul_one]
  by_cases h : j < k
  · rw [List.getElem?_range h, List.getElem?_replicate, if_pos h, Option.map_some, Nat.mod_one]; rfl
  · rw [List.getElem?_eq_none (by simp; omega), List.getElem?_eq_none (by simp; omega)]; rfl
theorem run_append_zeros {base : Nat} (w : World) (ty : TypeId) (g n cap k : Nat) (xs : List Value) (h : w.ownsRow base 5 1 (.slice (some ⟨g, 0, none⟩) n cap) n xs) (h0 : 0 < k) (hk : k ≤ 1048576) (hn : n ≤ 1048576) (hbase : base ≤ w.heap.size) :
    ∃ v' w', (Builtin.append_ #[39, 3] ty #[.slice (some ⟨g, 0, none⟩) n cap, .int .i64 (k : Nat)]).run Try.prog w = .ok v' w' ∧ Hid (w'.ownsRow base 5 1 v' (n + k) (xs ++ List.replicate k (u8 0)) ∧ w.grownBy w' (some g)) := by
  obtain ⟨i, hi, h2⟩ := Option.map_eq_some_iff.1 Try.infoU8
  simp only [Prod.mk.injEq] at h2
  obtain ⟨hz, hs, hb⟩ := h2
  have ht := Try.underlying39
  have hlen : (xs ++ List.replicate k (u8 0)).length = (n + k) * 1 := by rw [List.length_append, h.1, List.length_replicate]; omega
  rcases h.2 with ⟨hv, _⟩ | ⟨g', cap', cur, hv, hbg, hg, hnc, hcm, hcs, htake⟩
  · cases hv
  cases hv
  by_cases hroom : n + k ≤ cap
  · have hfit : n * 1 + (List.replicate k (u8 0)).length ≤ cur.size := by rw [hcs, List.length_replicate]; omega
    have hst := run_storeCells_at Try.prog g (n * 1) 5 (List.replicate k (u8 0)) 0 cur w hg (by simpa using hfit) (by intro u hu; rw [List.eq_of_mem_replicate hu]; rfl)
    have hkz : k ≠ 0 := by omega
    have hw : IntKind.i64.wrap (k : Int) = k := by rw [IntKind.wrap_i64]; omega
    have hneg : ¬ ((k : Int) < 0) := by omega
    have h48i : ¬ (281474976710656 < (k : Int)) := by omega
    simp only [Nat.add_zero, Nat.mul_one] at hst
    refine ⟨_, _, ?_, Lib.hid ⟨⟨hlen, .inr ⟨g, cap, (cur.toList.take n ++ List.replicate k (u8 0) ++ cur.toList.drop (n + k)).toArray, rfl, hbg, setRow_heap w g cur _ _ _ hg, hroom, hcm, ?_, ?_⟩⟩, ⟨rfl, rfl, rfl, by simp, fun j hj hne => setRow_other w g j _ (fun e => hne (by rw [e]))⟩⟩⟩
    · have hzc := zeroCells_u8 k
      simp [Builtin.append_, run_underlying ht, run_underlying Try.underlying3, sizeOf, typeInfo, zeroValue, hi, hz, hs, hb, asInt, asIntOf, hw, hneg, h48i, hkz, hroom, Addr.add_lit, hzc, hst]
    · simp only [List.size_toArray, List.length_append, List.length_take, List.length_drop, Array.length_toList, List.length_replicate]
      omega
    · have : cur.toList.take n = xs := by rw [← htake, Nat.mul_one]
      rw [this, ← hlen]; exact List.take_left
  · have hold := run_firstCells_some (P := Try.prog) w.drew 1 n ⟨g, 0, none⟩ n cap xs h.1 (fun j u hu => h.cells (g := g) rfl j u hu)
    have hold2 : (Builtin.firstCells i.size n (.slice (some ⟨g, 0, none⟩) n cap)).run Try.prog w.drew = .ok xs.toArray w.drew := by rw [hs]; exact hold
    have hnx : Builtin.nextslicecap (n + k) cap * i.bytes ≤ 281474976710656 := growslice_fits (by omega) (by rw [hb]; omega)
    have hr := Lib.run_append_grow_zeros (P := Try.prog) w 39 3 ty 5 i (.int .u8 0) .i64 .i64 ht Try.underlying3 hi hz (some ⟨g, 0, none⟩) n cap xs hold2 k h0 (by omega) (by omega) (by omega) (by rw [hb]; omega) hnx
    refine ⟨_, _, hr, Lib.hid ⟨⟨hlen, .inr ⟨w.heap.size, _, _, rfl, hbase, heap_alloc_new w.drew _, grownCap_ge w _ _ _, grownCap_le_maxLen w _ _ _ (by unfold maxLen; omega), ?_, ?_⟩⟩, ⟨rfl, rfl, rfl, by simp, fun j hj _ => heap_alloc_old w.drew _ hj⟩⟩⟩
    · have hge := grownCap_ge w (n + k) cap 5
      have e1 : xs.length = n := by rw [h.1]; omega
      simp only [Array.size_append, List.size_toArray, size_zeroCells, e1]
      have e2 : (Value.int IntKind.u8 0).cells.size = 1 := rfl
      rw [e2]; omega
    · simp only [Array.toList_append, zeroCells_u8, List.append_assoc]
      rw [← List.append_assoc, ← hlen]
      exact List.take_left
end Go.Proofs.Ytdkkpkgfiodlbaa

/- crucibleref01.Num. -/
namespace Go.Proofs.Ytdkkpkgfiodlbaa
open Go.RowKit

theorem b01_falses (n : Nat) : (b01 (List.replicate n false)).map u8 = List.replicate n (u8 0) := by simp [b01]
theorem b01_zeros (n : Nat) : (b01 (putL 0 n)).map u8 = List.replicate n (u8 0) := by rw [putL_zero]; exact b01_falses n
theorem own_zeros {base : Nat} (w : World) (n : Nat) (hb : base ≤ w.heap.size) (hn : n ≤ 1048576) : (w.alloc (.cells (Array.replicate n (u8 0)) 5)).ownsRow base 5 1 (.slice (some ⟨w.heap.size, 0, none⟩) n n) n (List.replicate n (u8 0)) :=
  ⟨by simp, .inr ⟨w.heap.size, n, Array.replicate n (u8 0), rfl, hb, Bt.alloc_at _ _, Nat.le_refl _, by unfold maxLen; omega, by simp, by simp⟩⟩
set_option maxRecDepth 100000 in
set_option maxHeartbeats 4000000 in
theorem refNum_big (w : World) :
    Calls Try.prog 46 #[.int .u64 18446744073709551615] w (O01Q (numL 18446744073709551615) w) := by
  go_enter Try.func46, Try.ntmps46
  have hmk : ∀ w : World, (Instr.makeSlice 39 (.int .i64 64) (.int .i64 64)).run Try.prog w = .ok (.slice (some ⟨w.heap.size, 0, none⟩) 64 64) (w.alloc (.cells (Array.replicate 64 (u8 0)) 5)) := fun w => run_makeBytes w 64 (by decide)
  have hrow := fun (o : Obj) => Lib.hid ((own_zeros (base := w.heap.size) w 64 (Nat.le_refl _) (by decide)).alloc o)
  go_wp2_with (first
    | (refine wpList_append_src rfl (.tmp 7) (.tmp 8) 39 rfl eltU8 w.heap.size 64 _ (hrow _).out rfl 1 [u8 1] (src_new (cs := #[u8 1]) rfl (by simp)) rfl (by intro u hu; simp at hu; subst hu; rfl) (by omega) (by omega) (by simp; omega) ?_; intro v1 w1 ho1 hg1 _; obtain ⟨g1, c1, rfl⟩ := Bt.own_some ho1 (by omega); have HO1 := Lib.hid ho1; have HG1 := Lib.hid hg1; obtain ⟨v2, w2, hr2, H2⟩ := run_append_zeros (base := w.heap.size) w1 39 g1 65 c1 64 _ ho1 (by omega) (by omega) (by omega) (by have := hg1.size; simp at this; omega); have HR2 := Lib.hid hr2; clear ho1 hg1 hr2)
    | (at_builtin; refine Lib.wpList_append_run _ rfl _ _ _ _ rfl _ _ rfl rfl _ _ HR2.out ?_))
  go_ret
  obtain ⟨h2, g2⟩ := H2.out
  have hs1 := HG1.out.size
  simp at hs1
  refine ⟨_, rfl, ?_, ?_⟩
  · unfold Ow01
    have e : numL 18446744073709551615 = putL 0 64 ++ putL 1 1 ++ putL 0 64 := by unfold numL; rw [if_pos rfl]
    rw [e, b01_append, b01_append, List.map_append, List.map_append, b01_zeros, List.length_append, List.length_append, putL_length, putL_length]
    exact h2
  · refine ((((Below.refl _ _).alloc (Nat.le_refl _) _).alloc (by simp) _).trans (below_grown HG1.out (by simp; omega) (fun j hj => by simp [Value.ownBlock] at hj; omega))).trans ?_
    refine (Below.refl _ _).grown g2 (by omega) (fun j hj => ?_)
    rcases HO1.out.2 with ⟨h, _⟩ | ⟨g', cap, cur, h, hg, _⟩
    · cases h
    · cases h; simp at hj; omega
set_option maxRecDepth 100000 in
set_option maxHeartbeats 4000000 in
theorem refNum_small (x : Nat) (w : World) (hx : x < 18446744073709551615) :
    Calls Try.prog 46 #[.int .u64 x] w (O01Q (numL x) w) := by
  have hb1 : ((x : Int) == 18446744073709551615) = false := by simp; omega
  have hlt : x + 1 < 18446744073709551616 := by omega
  have hw1 : IntKind.u64.wrap ((x : Int) + 1) = (x : Int) + 1 := by rw [IntKind.wrap_u64]; omega
  have hle := Lib.bitLen_le (x + 1) 64 (by decide) hlt
  have hp := bitLen_pos (x := x + 1) (by omega) hlt
  have HN := Lib.hid (show numL x = putL 0 (Lib.bitLen (x + 1) - 1) ++ putL (x + 1) (Lib.bitLen (x + 1)) by unfold numL; rw [if_neg (by omega)])
  go_enter Try.func46, Try.ntmps46
  go_wp2_with fail
  go_loop [3, 4] (fun n y => ∃ (k z : Nat), n = vi k ∧ y = .int .u64 (z : Nat) ∧ z < 18446744073709551616 ∧ k ≤ 64 ∧ Hid (Lib.bitLen (x + 1) = k + Lib.bitLen z)) (fun _ y => (intOf y).toNat)
  case atStart => exact ⟨0, x + 1, rfl, by go_num, hlt, by omega, Lib.hid (by omega)⟩
  case round =>
    obtain ⟨k, z, rfl, rfl, hz, hk, HB⟩ := hrel
    by_cases h0 : z = 0
    · have h01 : decide ((0 : Int) < z) = false := decide_eq_false (by omega)
      have h02 : decide (0 < z) = false := decide_eq_false (by omega)
      have hkb : Lib.bitLen (x + 1) = k := by
        have h2 : Lib.bitLen 0 = 0 := by decide
        rw [HB.out, h0, h2]; rfl
      obtain ⟨m, rfl⟩ : ∃ m, k = m + 1 := ⟨k - 1, by omega⟩
      have HK := Lib.hid hkb
      have hw2 : IntKind.i64.wrap (m : Int) = (m : Int) := IntWalk.i64_in _ (by omega)
      have hm0 : (0 : Int) ≤ m := by omega
      have hm1 : (m : Int) ≤ 1048576 := by omega
      have hmk : ∀ w : World, (Instr.makeSlice 39 (.int .i64 (m : Int)) (.int .i64 (m : Int))).run Try.prog w = .ok (.slice (some ⟨w.heap.size, 0, none⟩) m m) (w.alloc (.cells (Array.replicate m (u8 0)) 5)) := fun w => run_makeBytes w m (by omega)
      clear hkb h0 hle hp HB
      have hmm : m ≤ 1048576 := by omega
      have hm64 : m + 1 ≤ 64 := by omega
      have hln := putL_length (x + 1) (m + 1)
      have HLN := Lib.hid hln
      clear hln
      go_wp2_with fail
      go_region_law (first
        | (go_simp; go_at_call 79; refine (refPut_call (x + 1) (m + 1) _ hlt hm64).mono ?_; rintro e2 w2 ⟨v2, rfl, ho2, hb2⟩; have hs2 : w.heap.size ≤ w2.heap.size := Nat.le_trans (by simp) hb2.size; have hs3 := hb2.size; unfold Ow01 at ho2; rw [HLN.out] at ho2; obtain ⟨a2, c2, rfl⟩ := Bt.own_shape ho2; have HO2 := Lib.hid ho2; have HB2 := Lib.hid hb2; clear ho2 hb2)
        | (refine step_append_src rfl _ _ 39 rfl eltU8 w.heap.size m _ (own_below (w := (w.alloc (.cells (Array.replicate m (u8 0)) 5)).drew) (own_zeros (base := w.heap.size) w m (Nat.le_refl _) hmm) HB2.out) rfl (m + 1) _ (own_src HO2.out) rfl (u8_one _) (by omega) (by omega) (by simp at hs3; omega) ?_; intro v3 w3 ho3 hg3 _; have HO3 := Lib.hid ho3; have HB3 := Lib.hid (show Below w.heap.size w w3 from (((Below.refl w.heap.size w).alloc (Nat.le_refl _) (.cells (Array.replicate m (u8 0)) 5)).drew).trans ((HB2.out.mono (by simp)).trans (below_grown hg3 (by simp at hs3; omega) (fun j hj => by simp [Value.ownBlock] at hj; omega)))); clear ho3 hg3)
        | (refine step_append_src rfl _ _ 39 rfl eltU8 w.heap.size m _ (own_zeros (base := w.heap.size) w2 m hs2 hmm) rfl (m + 1) _ (own_src (HO2.out.alloc _)) rfl (u8_one _) (by omega) (by omega) (by simp; omega) ?_; intro v3 w3 ho3 hg3 _; have HO3 := Lib.hid ho3; have HB3 := Lib.hid (show Below w.heap.size w w3 from ((((Below.refl w.heap.size w).drew).trans HB2.out).alloc hs2 _).trans (below_grown hg3 (by simp; omega) (fun j hj => by simp [Value.ownBlock] at hj; omega))); clear ho3 hg3))
      all_goals
        go_wp2
        go_ret
        refine ⟨_, rfl, ?_, HB3.out⟩
        unfold Ow01
        rw [HN.out, HK.out, Nat.add_sub_cancel, b01_append, List.map_append, b01_zeros, List.length_append, putL_length, putL_length]
        exact HO3.out
    · have h01 : decide ((0 : Int) < z) = true := decide_eq_true (by omega)
      have h02 : decide (0 < z) = true := decide_eq_true (by omega)
      have hh := Lib.bitLen_half z h0 hz
      have hk2 : k + 1 ≤ 64 := by have := HB.out; omega
      have HH := Lib.hid hh
      have hw2 : IntKind.i64.wrap ((k : Int) + 1) = (k : Int) + 1 := IntWalk.i64_in _ (by omega)
      clear hh
      go_wp2_with fail
      exact ⟨⟨k + 1, z / 2, by go_num, by go_num, by omega, hk2, Lib.hid (by rw [HB.out, HH.out]; omega)⟩, by simp only [intOf]; omega⟩
end Go.Proofs.Ytdkkpkgfiodlbaa

/- crucibleref01.Int, Same. -/
namespace Go.Proofs.Ytdkkpkgfiodlbaa
open Go.RowKit

theorem refNum_call (x : Nat) (i : Int) (hi : i = x) (w : World) (hx : x < 18446744073709551616) :
    Calls Try.prog 46 #[.int .u64 i] w (O01Q (numL x) w) := by
  subst hi
  by_cases h : x = 18446744073709551615
  · subst h; exact refNum_big w
  · exact refNum_small x w (by omega)
set_option maxRecDepth 100000 in
set_option maxHeartbeats 4000000 in
theorem refInt_call (z : Int) (w : World) (h : IntOk z) :
    Calls Try.prog 45 #[.int .i64 z] w (O01Q (intL z) w) := by
  have hlt := zig_lt h.1 h.2
  obtain ⟨h1, h2⟩ := h
  by_cases hz : z < 0
  · have hb : decide (z < 0) = true := decide_eq_true hz
    have he : (zig z : Int) = -(z + 1) * 2 + 1 := by unfold zig; rw [if_pos hz]; omega
    have hw1 : IntKind.i64.wrap (z + 1) = z + 1 := IntWalk.i64_in _ (by omega)
    have hw2 : IntKind.i64.wrap (-(z + 1)) = -(z + 1) := IntWalk.i64_in _ (by omega)
    have hw3 : IntKind.u64.wrap (-(z + 1)) = -(z + 1) := by rw [IntKind.wrap_u64]; omega
    have hw4 : IntKind.u64.wrap (-(z + 1) * 2) = -(z + 1) * 2 := by rw [IntKind.wrap_u64]; omega
    have hw5 : IntKind.u64.wrap (-(z + 1) * 2 + 1) = -(z + 1) * 2 + 1 := by rw [IntKind.wrap_u64]; omega
    have HE := Lib.hid he
    clear he
    go_enter Try.func45, Try.ntmps45
    go_wp2_with (go_at_call 46; refine (refNum_call (zig z) _ (by rw [HE.out]) w hlt).mono ?_; rintro e1 w1 ⟨v1, rfl, ho1, hb1⟩)
    go_ret
    exact ⟨_, rfl, ho1, hb1⟩
  · have hb : decide (z < 0) = false := decide_eq_false hz
    have he : (zig z : Int) = z * 2 := by unfold zig; rw [if_neg hz]; omega
    have hw3 : IntKind.u64.wrap z = z := by rw [IntKind.wrap_u64]; omega
    have hw4 : IntKind.u64.wrap (z * 2) = z * 2 := by rw [IntKind.wrap_u64]; omega
    have HE := Lib.hid he
    clear he
    go_enter Try.func45, Try.ntmps45
    go_wp2_with (go_at_call 46; refine (refNum_call (zig z) _ (by rw [HE.out]) w hlt).mono ?_; rintro e1 w1 ⟨v1, rfl, ho1, hb1⟩)
    go_ret
    exact ⟨_, rfl, ho1, hb1⟩

/-- Rows of bytes as a string. -/
theorem conv_u8 {w : World} {v : Value} {bs : List Nat} (h : Src w v 1 bs.length (bs.map u8)) (hb : ∀ b ∈ bs, b < 256) : ∃ a c, v = .slice a bs.length c ∧ (convert 39 9 (.slice a bs.length c)).run Try.prog w = .ok (.string ⟨(bs.map UInt8.ofNat).toArray⟩) w := by
  obtain ⟨a, c, rfl, hl, hn, hs⟩ := h
  refine ⟨a, c, rfl, ?_⟩
  cases a with
  | none =>
    obtain ⟨h0, rfl⟩ := hn rfl
    obtain rfl := List.length_eq_zero_iff.1 h0
    show (convert 39 9 (.slice none 0 0)).run Try.prog w = _
    rw [run_convert_bytes_string w 39 9 5 none 0 0 Try.underlying39 Try.underlying5 Try.underlying9]
    rfl
  | some ad =>
    have hr := run_convert_bytes_back (P := Try.prog) w 39 9 5 ad c (bs.map UInt8.ofNat) Try.underlying39 Try.underlying5 Try.underlying9 (fun j hj => by
      rw [List.length_map] at hj
      have h1 : (bs.map u8)[j]? = some (u8 bs[j]) := by rw [List.getElem?_map, List.getElem?_eq_getElem hj]; rfl
      have h2 := hs ad rfl j _ h1
      rw [h2, List.getElem_map]
      have h3 := hb bs[j] (List.getElem_mem _)
      have h4 : (UInt8.ofNat bs[j]).toNat = bs[j] := by rw [UInt8.toNat_ofNat']; omega
      rw [h4])
    rw [List.length_map] at hr
    exact hr
theorem u8s_inj {a b : List Nat} (ha : ∀ x ∈ a, x < 256) (hb : ∀ x ∈ b, x < 256) : (a.map UInt8.ofNat == b.map UInt8.ofNat) = (a == b) := by
  have key : ∀ a b : List Nat, (∀ x ∈ a, x < 256) → (∀ x ∈ b, x < 256) → a.map UInt8.ofNat = b.map UInt8.ofNat → a = b := by
    intro a
    induction a with
    | nil => intro b _ _ h; cases b; rfl; cases h
    | cons x a ih =>
      intro b ha hb h
      cases b with
      | nil => cases h
      | cons y b =>
        simp only [List.map_cons, List.cons.injEq] at h
        have h1 := congrArg UInt8.toNat h.1
        rw [UInt8.toNat_ofNat', UInt8.toNat_ofNat'] at h1
        have := ha x (by simp); have := hb y (by simp)
        rw [show x = y by omega, ih b (fun z hz => ha z (by simp [hz])) (fun z hz => hb z (by simp [hz])) h.2]
  rw [Bool.eq_iff_iff]
  simp only [beq_iff_eq]
  exact ⟨key a b ha hb, fun h => by rw [h]⟩
set_option maxRecDepth 100000 in
set_option maxHeartbeats 4000000 in
theorem sameB_call {v v' : Value} {a b : List Nat} (w : World) (h : Src w v 1 a.length (a.map u8)) (h' : Src w v' 1 b.length (b.map u8)) (ha : ∀ x ∈ a, x < 256) (hb : ∀ x ∈ b, x < 256) :
    Calls Try.prog 21 #[v, v'] w fun e w' => e = .returned (.bool (a == b)) ∧ w = w' := by
  obtain ⟨p, c, rfl, hr⟩ := conv_u8 h ha
  obtain ⟨p', c', rfl, hr'⟩ := conv_u8 h' hb
  have HE := Lib.hid (show ((ByteArray.mk (a.map UInt8.ofNat).toArray).toList == (ByteArray.mk (b.map UInt8.ofNat).toArray).toList) = (a == b) by
    have e : ∀ l : List UInt8, (ByteArray.mk l.toArray).toList = l := fun l => by rw [Go.ByteArray.toList_eq]
    rw [e, e]; exact u8s_inj ha hb)
  have HE2 := Lib.hid (u8s_inj ha hb)
  clear h h' ha hb
  obtain ⟨A, hA⟩ : ∃ A, A = a.map UInt8.ofNat := ⟨_, rfl⟩
  obtain ⟨B, hB⟩ : ∃ B, B = b.map UInt8.ofNat := ⟨_, rfl⟩
  rw [← hA] at hr HE HE2
  rw [← hB] at hr' HE HE2
  clear hA hB
  go_enter Try.func21, Try.ntmps21
  go_wp2_with fail
  go_ret
  exact ⟨by first | (rw [← HE.out]; rfl) | (simp; exact HE.out) | (simp; exact HE2.out), rfl⟩
end Go.Proofs.Ytdkkpkgfiodlbaa
