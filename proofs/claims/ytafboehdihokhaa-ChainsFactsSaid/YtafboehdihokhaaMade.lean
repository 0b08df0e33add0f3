/- cruciblelaw09.made: a history's transactions, when there are few enough. -/
import Derived.Test.YtafboehdihokhaaOf
namespace Go.Proofs.Ytafboehdihokhaa
open Go.RowKit Go.Maps

/-- What cruciblelaw09.made answers. -/
def MadeQ (w : World) (r : Ending) (w' : World) : Prop := ∃ (v : Value) (b : Bool), r = .returned (.tuple #[v, .bool b]) ∧ (b = true → ∃ ts, RdTxns w' v ts ∧ GoodTs ts) ∧ Below w.heap.size w w'
theorem MadeQ.no {w w' : World} {r : Ending} {v : Value} (h : r = .returned (.tuple #[v, .bool false])) (hb : Below w.heap.size w w') : MadeQ w r w' := ⟨v, false, h, (fun h => by cases h), hb⟩
theorem MadeQ.of {w w' : World} {r : Ending} {v : Value} {b : Bool} (h : r = .returned (.tuple #[v, .bool b])) (hg : b = true → ∃ ts, RdTxns w' v ts ∧ GoodTs ts) (hb : Below w.heap.size w w') : MadeQ w r w' := ⟨v, b, h, hg, hb⟩

set_option maxRecDepth 100000 in
set_option maxHeartbeats 1000000 in
theorem made_call (v : Value) (es : List GEvent) (w : World) (hv : RdEvents w v es) :
    Calls Try.prog 9 #[v] w (MadeQ w) := by
  have HV := Lib.hid hv
  obtain ⟨a, len, cap, rfl, rfl, hm, -⟩ := hv.at
  clear hv
  go_enter Try.func9, Try.ntmps9
  by_cases hlen : (es.length : Int) > 60
  · go_wp2_with fail
    go_ret2
    exact .no rfl (Below.refl _ _)
  · go_wp2_with (go_at_call 25; refine (of_call _ es _ HV.out (by omega)).mono ?_; rintro r w1 ⟨v1, p, err, rfl, hg, hb⟩)
    go_ret2
    exact .of rfl (fun h => hg (by simpa using h)) hb
end Go.Proofs.Ytafboehdihokhaa
