/- The law LinkRuns: any step. -/
import Derived.Test.YthpdenmbcjngkaaLnSw1
import Derived.Test.YthpdenmbcjngkaaLnSw2
import Derived.Test.YthpdenmbcjngkaaLnSw3
import Derived.Test.YthpdenmbcjngkaaLnSw4
import Derived.Test.YthpdenmbcjngkaaLnSw5
import Derived.Test.YthpdenmbcjngkaaLnSw6
namespace Go.Proofs.Ythpdenmbcjngkaa.linkRuns
open Go.RowKit Go.Maps

theorem sw {b p mw ma : Nat} {va vc : Value} {J : List Itm} {ks : List LK} {lost : Nat} {o : OpL} {vb : Value} {bx : Nat} {w0 : World} (wj : World) (f : Nat → Value) (KX : Act → World → Prop) (s0 s7 : Value) (r : Int) (AP : Bool)
    (hs0 : f 0 = s0) (e3 : f 3 = .pointer (some ⟨p, 0, none⟩)) (e4 : f 4 = va) (e5 : f 5 = vc) (e6 : f 6 = .int .i64 lost) (hs7 : f 7 = s7) (e8 : f 8 = .pointer (some ⟨bx, 0, none⟩)) (e9 : f 9 = .int .i64 r) (e10 : f 10 = .bool AP) (e70 : f 70 = .int .i64 o.k)
    (hr : ∀ n : Nat, o.n = (n : Int) → r = atI J o.l n) (hap : ks.any (fun c => sameB c o.l) = AP)
    (hS : Step b p mw ma va vc J ks lost o vb bx w0 wj) (hE : ExitK b p mw ma J ks lost s0 (.pointer (some ⟨p, 0, none⟩)) s7 wj KX) : Code.wp Try.prog cSwitch (OnlyN KX) (frN 341 f) wj := by
  by_cases h0 : o.k = 0
  · exact sw0 wj f KX s0 s7 hs0 e3 e4 e5 e6 hs7 e8 (by rw [e70, h0]) hS hE
  by_cases h1 : o.k = 1
  · exact sw1 wj f KX s0 s7 r AP hs0 e3 e4 e5 e6 hs7 e8 e9 e10 (by rw [e70, h1]) hr hap hS hE
  by_cases h2 : o.k = 2
  · exact sw2 wj f KX s0 s7 r AP hs0 e3 e4 e5 e6 hs7 e8 e9 e10 (by rw [e70, h2]) hr hap hS hE
  by_cases h3 : o.k = 3
  · exact sw3 wj f KX s0 s7 r AP hs0 e3 e4 e5 e6 hs7 e8 e9 e10 (by rw [e70, h3]) hr hap hS hE
  by_cases h4 : o.k = 4
  · exact sw4 wj f KX s0 s7 r AP hs0 e3 e4 e5 e6 hs7 e8 e9 e10 (by rw [e70, h4]) h4 hr hap hS hE
  by_cases h5 : o.k = 5
  · exact sw5 wj f KX s0 s7 r AP hs0 e3 e4 e5 e6 hs7 e8 e9 e10 (by rw [e70, h5]) h5 hr hap hS hE
  by_cases h6 : o.k = 6
  · exact sw6 wj f KX s0 s7 r AP hs0 e3 e4 e5 e6 hs7 e8 e9 e10 (by rw [e70, h6]) h6 hr hap hS hE
  exact sw7 wj f KX s0 s7 r AP hs0 e3 e4 e5 e6 hs7 e8 e9 e10 e70 (by omega) hr hap hS hE
end Go.Proofs.Ythpdenmbcjngkaa.linkRuns
