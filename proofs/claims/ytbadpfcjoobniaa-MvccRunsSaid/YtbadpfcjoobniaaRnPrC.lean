/- Layer 19's reference: the end of Prepare: who is in the way, or one more waits. -/
import Derived.Test.YtbadpfcjoobniaaRnPrE
namespace Go.Proofs.Ytbadpfcjoobniaa
open Go.RowKit Go.Maps
attribute [local go_sem] Oper.semAt_some

def fstSeq : Code → Code
  | .seq a _ => a
  | c => c
set_option maxRecDepth 1000000 in
set_option maxHeartbeats 16000000 in
theorem prC (A w0 : World) (x : RSV) (rv : RV) (X X1 X2 : Nat) (f : Nat → Value) (by_ : Int) (lk first : Bool) (w : World) (hB : PrB x rv X X1 X2 w) (hxA : RdSt A x) (hA : Below A.heap.size A w0) (hr : RdyS w0 rv) (h0 : Below w0.heap.size w0 w)
    (hl : x.s.ws.length ≤ 1000 ∧ rv.r.writes.length ≤ 1000 ∧ rv.r.reads.length ≤ 1000) (hne : ∀ y ∈ x.s.ws, y.txn ≠ rv.r.txn) (hb : w0.heap.size ≤ X ∧ w0.heap.size ≤ X1 ∧ w0.heap.size ≤ X2 ∧ X ≠ X1 ∧ X ≠ X2 ∧ X1 ≠ X2)
    (e2 : f 2 = .pointer (some ⟨X, 0, none⟩)) (e3 : f 3 = .pointer (some ⟨X1, 0, none⟩)) (e4 : f 4 = .pointer (some ⟨X2, 0, none⟩)) (e11 : f 11 = .bool first) (e17 : f 17 = vi by_) (e18 : f 18 = .bool lk) :
    Code.wp Try.prog cPrC (bodyPost Try.prog Try.f18 (fun e w' => if lk && first then PrR A w0 x.s by_ 60 e w' else PrR A w0 ⟨x.s.serial, x.s.bugs, x.s.vs, insR x.s.ws rv.r, x.s.es⟩ 0 0 e w')) (frN 226 f) w := by
  have hx := hxA.later hA
  have HHA := Lib.hid hA
  have HXA := Lib.hid hxA
  clear hxA hA
  obtain ⟨vv, wv, ev, s⟩ := x
  have HV := Lib.hid hx.vs
  have HW := Lib.hid hx.ws
  have HE := Lib.hid hx.es
  obtain ⟨av, nv, cv, hwv, rfl, hmv, -⟩ := (show RdVer3 w0 vv s.vs from hx.vs).at
  obtain ⟨aw, nw, cw, hww, rfl, hmw, -⟩ := (show RdRdy w0 wv s.ws from hx.ws).at
  obtain ⟨ae, ne, ce, hwe, rfl, hme, -⟩ := (show RdEn w0 ev s.es from hx.es).at
  subst hwv hww hwe
  obtain ⟨rw_, rr, r⟩ := rv
  obtain ⟨a1, l1, c1, h1, rfl, -, -⟩ := (show RdOps w0 rw_ r.writes from hr.ws).at
  obtain ⟨a2, l2, c2, h2, rfl, -, -⟩ := (show RdInts w0 rr r.reads from hr.rs).at
  subst h1 h2
  have HR := Lib.hid hr
  have HB := Lib.hid hB
  simp only at HV HW HE
  obtain ⟨hb0, hb1, hb2, hn1, hn2, hn3⟩ := hb
  have hX2l := (Array.getElem?_eq_some_iff.1 hB.rs).1
  have H0 := Lib.hid h0
  have HHB := Lib.hid hB
  have HHX := Lib.hid hx
  have HHR := Lib.hid hr
  have HHN := Lib.hid hne
  clear hx hr hB h0 hne
  show Code.wp Try.prog cPrC _ _ _
  have hgo : (lk && first) = true ∨ (lk && first) = false := by cases lk && first <;> simp
  rcases hgo with hlf | hlf
  · rw [hlf]
    rw [Bool.and_eq_true] at hlf
    obtain ⟨rfl, rfl⟩ := hlf
    rw [fr226, e2, e3, e4, e11, e17, e18]
    clear e2 e3 e4 e11 e17 e18
    conv => arg 2; whnf
    have hX := HB.out.st
    have hX2 := HB.out.rs
    have q0 : ∀ j, w.frozen? ⟨X2, j, none⟩ = false := fun j => free_of hX2 j
    have p0 : w.cell? ⟨X2, 0, none⟩ = some (.bool false) := by rw [cell_of hX2]; rfl
    have p1 : w.cell? ⟨X2, 1, none⟩ = some (vi 0) := by rw [cell_of hX2]; rfl
    have p2 : w.cell? ⟨X2, 2, none⟩ = some (.slice none 0 0) := by rw [cell_of hX2]; rfl
    have p3 : w.cell? ⟨X2, 3, none⟩ = some (.slice none 0 0) := by rw [cell_of hX2]; rfl
    have p4 : w.cell? ⟨X2, 4, none⟩ = some (.slice none 0 0) := by rw [cell_of hX2]; rfl
    have x0 : w.cell? ⟨X, 0, none⟩ = some (.bool s.serial) := by rw [cell_of hX]; rfl
    have x1 : w.cell? ⟨X, 1, none⟩ = some (vi s.bugs) := by rw [cell_of hX]; rfl
    have x2 : w.cell? ⟨X, 2, none⟩ = some (.slice av s.vs.length cv) := by rw [cell_of hX]; rfl
    have x3 : w.cell? ⟨X, 3, none⟩ = some (.slice aw s.ws.length cw) := by rw [cell_of hX]; rfl
    have x4 : w.cell? ⟨X, 4, none⟩ = some (.slice ae s.es.length ce) := by rw [cell_of hX]; rfl
    have HS := Lib.hid (rn_set5 (.bool s.serial) (vi s.bugs) (.slice av s.vs.length cv) (.slice aw s.ws.length cw) (.slice ae s.es.length ce) hX2)
    have HBF := Lib.hid (H0.out.trans (rn_below5 (W := w) (.bool s.serial) (vi s.bugs) (.slice av s.vs.length cv) (.slice aw s.ws.length cw) (.slice ae s.es.length ce) hb2))
    clear hX hX2
    go_wp2_with fail
    generalize (((((w.setCell ⟨X2, 0, none⟩ (.bool s.serial)).setCell ⟨X2, 1, none⟩ (vi s.bugs)).setCell ⟨X2, 2, none⟩ (.slice av s.vs.length cv)).setCell ⟨X2, 3, none⟩ (.slice aw s.ws.length cw)).setCell ⟨X2, 4, none⟩ (.slice ae s.es.length ce)) = wf at *
    have r0 : wf.cell? ⟨X2, 0, none⟩ = some (.bool s.serial) := by rw [cell_of HS.out]; rfl
    have r1 : wf.cell? ⟨X2, 1, none⟩ = some (vi s.bugs) := by rw [cell_of HS.out]; rfl
    have r2 : wf.cell? ⟨X2, 2, none⟩ = some (.slice av s.vs.length cv) := by rw [cell_of HS.out]; rfl
    have r3 : wf.cell? ⟨X2, 3, none⟩ = some (.slice aw s.ws.length cw) := by rw [cell_of HS.out]; rfl
    have r4 : wf.cell? ⟨X2, 4, none⟩ = some (.slice ae s.es.length ce) := by rw [cell_of HS.out]; rfl
    refine bodyPost_ret (v := .tuple #[rsV ⟨.slice av s.vs.length cv, .slice aw s.ws.length cw, .slice ae s.es.length ce, s⟩, vi by_, vi 60]) (by simp [results, Try.results18, go_sem, r0, r1, r2, r3, r4, rsV, rsC]) rfl ?_
    exact ⟨_, rfl, rfl, PrR.same HXA.out HHA.out HBF.out⟩
  · rw [hlf]
    have hlf' : lk = false ∨ (lk = true ∧ first = false) := by cases lk <;> simp_all
    show Code.wp Try.prog cPrC (bodyPost Try.prog Try.f18 (PrR A w0 ⟨s.serial, s.bugs, s.vs, insR s.ws r, s.es⟩ 0 0)) _ _
    have go : ∀ u0 u1 u2 u3 : Value, Code.wp Try.prog cPrD (bodyPost Try.prog Try.f18 (PrR A w0 ⟨s.serial, s.bugs, s.vs, insR s.ws r, s.es⟩ 0 0)) (⟨#[f 0, f 1, .pointer (some ⟨X, 0, none⟩), .pointer (some ⟨X1, 0, none⟩), .pointer (some ⟨X2, 0, none⟩), f 5, f 6, f 7, f 8, f 9, f 10, .bool first, f 12, f 13, f 14, f 15, f 16, vi by_, .bool lk, f 19, f 20, f 21, f 22, f 23, f 24, f 25, f 26, f 27, f 28, f 29, f 30, f 31, f 32, f 33, f 34, f 35, f 36, f 37, f 38, f 39, f 40, f 41, f 42, f 43, f 44, f 45, f 46, f 47, f 48, f 49, f 50, f 51, f 52, f 53, f 54, f 55, f 56, f 57, f 58, f 59, f 60, f 61, f 62, f 63, f 64, f 65, f 66, f 67, f 68, f 69, f 70, f 71, f 72, f 73, f 74, f 75, f 76, f 77, f 78, f 79, f 80, f 81, f 82, f 83, f 84, f 85, f 86, f 87, f 88, f 89, f 90, f 91, f 92, f 93, f 94, f 95, f 96, f 97, f 98, f 99, f 100, f 101, f 102, f 103, f 104, f 105, f 106, f 107, f 108, f 109, f 110, f 111, f 112, f 113, f 114, f 115, f 116, f 117, f 118, f 119, f 120, f 121, f 122, f 123, f 124, f 125, f 126, f 127, f 128, f 129, f 130, f 131, f 132, f 133, f 134, f 135, f 136, f 137, f 138, f 139, f 140, f 141, f 142, f 143, f 144, f 145, f 146, f 147, f 148, f 149, f 150, f 151, f 152, f 153, f 154, f 155, f 156, f 157, f 158, f 159, f 160, f 161, f 162, f 163, f 164, f 165, f 166, f 167, f 168, f 169, u0, u1, u2, u3, f 174, f 175, f 176, f 177, f 178, f 179, f 180, f 181, f 182, f 183, f 184, f 185, f 186, f 187, f 188, f 189, f 190, f 191, f 192, f 193, f 194, f 195, f 196, f 197, f 198, f 199, f 200, f 201, f 202, f 203, f 204, f 205, f 206, f 207, f 208, f 209, f 210, f 211, f 212, f 213, f 214, f 215, f 216, f 217, f 218, f 219, f 220, f 221, f 222, f 223, f 224, f 225], []⟩ : Act) w := fun u0 u1 u2 u3 => by
      refine wp_fr 226 _ rfl ?_
      exact prD A w0 ⟨.slice av s.vs.length cv, .slice aw s.ws.length cw, .slice ae s.es.length ce, s⟩ ⟨.slice a1 r.writes.length c1, .slice a2 r.reads.length c2, r⟩ X X1 X2 _ w HHB.out HXA.out HHA.out HHR.out H0.out hl HHN.out ⟨hb0, hb1, hb2, hn1, hn2, hn3⟩ rfl rfl rfl
    have GO := Lib.hid go
    rw [fr226, e2, e3, e4, e11, e17, e18]
    clear go e2 e3 e4 e11 e17 e18
    show Code.wp Try.prog (Code.seq (fstSeq cPrC) cPrD) _ _ _
    generalize cPrD = D at *
    conv => arg 2; arg 1; whnf
    rcases hlf' with rfl | ⟨rfl, rfl⟩
    · go_wp2_with fail
      exact GO.out _ _ _ _
    · go_wp2_with fail
      exact GO.out _ _ _ _
end Go.Proofs.Ytbadpfcjoobniaa
