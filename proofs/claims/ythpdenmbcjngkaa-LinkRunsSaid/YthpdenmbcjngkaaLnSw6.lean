/- The law LinkRuns: the step that heals, and the step that does nothing. -/
import Derived.Test.YthpdenmbcjngkaaLnSw0
namespace Go.Proofs.Ythpdenmbcjngkaa.linkRuns
open Go.RowKit Go.Maps
attribute [local go_sem] Oper.semAt_some

set_option maxRecDepth 1000000 in
set_option maxHeartbeats 16000000 in
theorem sw6 {b p mw ma : Nat} {va vc : Value} {J : List Itm} {ks : List LK} {lost : Nat} {o : OpL} {vb : Value} {bx : Nat} {w0 : World} (wj : World) (f : Nat → Value) (KX : Act → World → Prop) (s0 s7 : Value) (r : Int) (AP : Bool)
    (hs0 : f 0 = s0) (e3 : f 3 = .pointer (some ⟨p, 0, none⟩)) (e4 : f 4 = va) (e5 : f 5 = vc) (e6 : f 6 = .int .i64 lost) (hs7 : f 7 = s7) (e8 : f 8 = .pointer (some ⟨bx, 0, none⟩)) (e9 : f 9 = .int .i64 r) (e10 : f 10 = .bool AP) (e70 : f 70 = .int .i64 6)
    (hk : o.k = 6) (hr : ∀ n : Nat, o.n = (n : Int) → r = atI J o.l n) (hap : ks.any (fun c => sameB c o.l) = AP)
    (hS : Step b p mw ma va vc J ks lost o vb bx w0 wj) (hE : ExitK b p mw ma J ks lost s0 (.pointer (some ⟨p, 0, none⟩)) s7 wj KX) : Code.wp Try.prog cSwitch (OnlyN KX) (frN 341 f) wj := by
  have HEX := Lib.hid hE
  have HI := Lib.hid hS.inv
  obtain ⟨L, C, hnet, hspec⟩ := hS.inv.net
  have HN := Lib.hid hnet
  have HP := Lib.hid hspec
  have hfew := hS.few
  have hll := hS.wide
  have hbw : b ≤ wj.heap.size := by have := hS.below.size; have := hS.start; omega
  have hbx := (Array.getElem?_eq_some_iff.1 hS.box).1
  have HX := Lib.hid hS.box
  have hlen := hS.len
  have HR := Lib.hid hr
  have HAP := Lib.hid hap
  obtain ⟨ja, jc, hva, -, -⟩ := hS.inv.items.at
  obtain ⟨ka, kc, hvc, -, -⟩ := OwL.at hS.inv.cuts
  rw [fr_lit, hs0, e3, e4, e5, e6, hs7, e8, e9, e10, e70]
  subst hva hvc
  clear hE hS hnet hspec hs0 e3 e4 e5 e6 hs7 e8 e9 e10 e70 hr hap
  have f0 : wj.cell? ⟨bx, 0, none⟩ = some (vi 6) := by rw [← hk, cell_of HX.out]; rfl
  have f2 : wj.cell? ⟨bx, 2, none⟩ = some (vi o.l.1) := by rw [cell_of HX.out]; rfl
  have f3 : wj.cell? ⟨bx, 3, none⟩ = some (vi o.l.2) := by rw [cell_of HX.out]; rfl
  clear hk
  conv => arg 2; whnf
  go_wp2_with (go_at_call 20; refine (heal_call (base := b) _ HN.out hbw).mono ?_; rintro e w5 ⟨rfl, hn5, hb5, hs5⟩)
  exact HEX.out _ _ J [] lost rfl rfl rfl rfl rfl (by omega) (by omega) (by simp) ⟨⟨L, [], hn5, HP.out.healK⟩, HI.out.items.stays hs5, (show OwL b w5 (.slice none 0 0) [] by simpa [OwL] using World.ownsRow_nil w5 b 29 2)⟩ hb5

set_option maxRecDepth 1000000 in
set_option maxHeartbeats 16000000 in
theorem sw7 {b p mw ma : Nat} {va vc : Value} {J : List Itm} {ks : List LK} {lost : Nat} {o : OpL} {vb : Value} {bx : Nat} {w0 : World} (wj : World) (f : Nat → Value) (KX : Act → World → Prop) (s0 s7 : Value) (r : Int) (AP : Bool)
    (hs0 : f 0 = s0) (e3 : f 3 = .pointer (some ⟨p, 0, none⟩)) (e4 : f 4 = va) (e5 : f 5 = vc) (e6 : f 6 = .int .i64 lost) (hs7 : f 7 = s7) (e8 : f 8 = .pointer (some ⟨bx, 0, none⟩)) (e9 : f 9 = .int .i64 r) (e10 : f 10 = .bool AP) (e70 : f 70 = .int .i64 o.k)
    (hk : o.k < 0 ∨ 6 < o.k) (hr : ∀ n : Nat, o.n = (n : Int) → r = atI J o.l n) (hap : ks.any (fun c => sameB c o.l) = AP)
    (hS : Step b p mw ma va vc J ks lost o vb bx w0 wj) (hE : ExitK b p mw ma J ks lost s0 (.pointer (some ⟨p, 0, none⟩)) s7 wj KX) : Code.wp Try.prog cSwitch (OnlyN KX) (frN 341 f) wj := by
  have HEX := Lib.hid hE
  have HI := Lib.hid hS.inv
  obtain ⟨L, C, hnet, hspec⟩ := hS.inv.net
  have HN := Lib.hid hnet
  have HP := Lib.hid hspec
  have hfew := hS.few
  have hll := hS.wide
  have hbw : b ≤ wj.heap.size := by have := hS.below.size; have := hS.start; omega
  have hbx := (Array.getElem?_eq_some_iff.1 hS.box).1
  have HX := Lib.hid hS.box
  have hlen := hS.len
  have HR := Lib.hid hr
  have HAP := Lib.hid hap
  obtain ⟨ja, jc, hva, -, -⟩ := hS.inv.items.at
  obtain ⟨ka, kc, hvc, -, -⟩ := OwL.at hS.inv.cuts
  rw [fr_lit, hs0, e3, e4, e5, e6, hs7, e8, e9, e10, e70]
  subst hva hvc
  clear hE hS hnet hspec hs0 e3 e4 e5 e6 hs7 e8 e9 e10 e70 hr hap
  have n0 : (o.k == 0) = false := by simp; omega
  have n1 : (o.k == 1) = false := by simp; omega
  have n2 : (o.k == 2) = false := by simp; omega
  have n3 : (o.k == 3) = false := by simp; omega
  have n4 : (o.k == 4) = false := by simp; omega
  have n5 : (o.k == 5) = false := by simp; omega
  have n6 : (o.k == 6) = false := by simp; omega
  clear hk
  conv => arg 2; whnf
  go_wp2_with fail
  exact HEX.out _ _ J ks lost rfl rfl rfl rfl rfl (by omega) (by omega) (by omega) HI.out (Below.refl _ _)
end Go.Proofs.Ythpdenmbcjngkaa.linkRuns
