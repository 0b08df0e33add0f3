/- mvcc.Ready.writes; (*mvcc.Store).blocks for whatever test of one who waits. -/
import Derived.Test.YtbadpfcjoobniaaMvLater
namespace Go.Proofs.Ytbadpfcjoobniaa
open Go.RowKit Go.Maps

def keyB (key : Int) (o : GOp) : Bool := o.key == key
def idxB (key : Int) (l : List GOp) : Int := match l.findIdx? (keyB key) with | some i => (i : Int) | none => -1
theorem idxB_any (key : Int) (l : List GOp) : decide (0 ≤ idxB key l) = l.any (keyB key) := by
  unfold idxB
  cases h : l.findIdx? (keyB key) with
  | none =>
    rw [List.findIdx?_eq_none_iff] at h
    simp only [show ¬ ((0 : Int) ≤ -1) from by decide, decide_false]
    symm; rw [List.any_eq_false]; exact fun x hx => by simp [h x hx]
  | some i =>
    have hs : (l.findIdx? (keyB key)).isSome = true := by rw [h]; rfl
    rw [List.findIdx?_isSome] at hs
    rw [hs]; simp

set_option maxRecDepth 100000 in
theorem key_call (o : GOp) (key : Int) (kb : Nat) (w : World) (hk : w.cell? ⟨kb, 0, none⟩ = some (.int .i64 key)) :
    Calls Try.prog 64 #[.agg #[vi o.kind, vi o.key, vi o.val], .pointer (some ⟨kb, 0, none⟩)] w fun e w' => e = .returned (.bool (keyB key o)) ∧ Below w.heap.size w w' := by
  have hk' := fun o' => cell_later ((Below.refl w.heap.size w).alloc (Nat.le_refl _) o') hk
  go_enter Try.func64, Try.ntmps64
  go_wp2_with fail
  go_ret
  exact ⟨rfl, (Below.refl _ _).alloc (Nat.le_refl _) _⟩

/-- What a test of an operation answers. -/
def OpTest (f : FuncId) (cp : Array Value) (q : GOp → Bool) (w : World) : Prop := ∀ (o : GOp) (W : World), Below w.heap.size w W → Calls Try.prog f (#[.agg #[vi o.kind, vi o.key, vi o.val]] ++ cp) W fun e W' => e = .returned (.bool (q o)) ∧ Below W.heap.size W W'
def idxQ (q : GOp → Bool) (l : List GOp) : Int := match l.findIdx? q with | some i => (i : Int) | none => -1

set_option maxRecDepth 100000 in
theorem index_call (v : Value) (l : List GOp) (key : Int) (kb : Nat) (w : World) (hv : RdOps w v l) (hk : w.cell? ⟨kb, 0, none⟩ = some (.int .i64 key)) :
    Calls Try.prog 63 #[v, .func (.func 64) #[] #[.pointer (some ⟨kb, 0, none⟩)]] w fun e w' => e = .returned (.int .i64 (idxB key l)) ∧ Below w.heap.size w w' := by
  have HV := Lib.hid hv
  have HK := Lib.hid hk
  obtain ⟨a, len, cap, rfl, rfl, hm, -⟩ := hv.at
  clear hv hk
  go_enter Try.func63, Try.ntmps63
  go_wp2_with fail
  go_loopw [5, 8] (fun _ i wr => ∃ k : Nat, k ≤ l.length ∧ i = .int .i64 k ∧ (∀ j o, j < k → l[j]? = some o → keyB key o = false) ∧ Below w.heap.size w wr) (fun _ i _ => l.length - (intOf i).toNat)
  case atStart => exact ⟨0, Nat.zero_le _, rfl, fun j o hj => absurd hj (Nat.not_lt_zero _), Below.refl _ _⟩
  case round =>
    obtain ⟨k, hk, rfl, hno, hb⟩ := hrel
    have HB := Lib.hid hb
    have HN := Lib.hid hno
    clear hb hno
    by_cases hlt : k < l.length
    · obtain ⟨o, ho⟩ := some_at hlt
      obtain ⟨_, _, _, e5, -, -, hcl⟩ := HV.out.at
      cases e5
      obtain ⟨b, off, rfl, k0', k1', k2'⟩ := hcl k o ho
      have k0 := cell_later HB.out k0'
      have k1 := cell_later HB.out k1'
      have k2 := cell_later HB.out k2'
      have HO := Lib.hid ho
      clear hcl ho k0' k1' k2'
      cases hh : keyB key o with
      | true =>
        have HH := Lib.hid hh
        clear hh
        go_wp2_with (go_at_call 64; refine (key_call o key kb _ (cell_later HB.out HK.out)).mono ?_; rintro e w1 ⟨rfl, hb1⟩; rw [HH.out])
        go_ret
        have : idxB key l = k := by
          unfold idxB
          have : l.findIdx? (keyB key) = some k := by
            rw [List.findIdx?_eq_some_iff_getElem]
            have hg := List.getElem?_eq_some_iff.1 HO.out
            refine ⟨hlt, by rw [hg.2]; exact HH.out, fun j hj => ?_⟩
            have := HN.out j l[j] hj (List.getElem?_eq_getElem _)
            simp [this]
          rw [this]
        exact ⟨by rw [this]; rfl, HB.out.trans (hb1.mono HB.out.size)⟩
      | false =>
        have HH := Lib.hid hh
        clear hh
        go_wp2_with (go_at_call 64; refine (key_call o key kb _ (cell_later HB.out HK.out)).mono ?_; rintro e w1 ⟨rfl, hb1⟩; rw [HH.out])
        go_roundw
        case rel =>
          refine ⟨k + 1, by omega, by go_num, ?_, HB.out.trans (hb1.mono HB.out.size)⟩
          intro j o' hj ho'
          rcases Nat.lt_or_ge j k with h | h
          · exact HN.out j o' h ho'
          · obtain rfl : j = k := by omega
            rw [HO.out] at ho'; cases ho'; exact HH.out
        case measure => simp [intOf]; omega
    · obtain rfl : k = l.length := by omega
      go_wp2_with fail
      go_ret
      have : idxB key l = -1 := by
        unfold idxB
        have : l.findIdx? (keyB key) = none := by
          rw [List.findIdx?_eq_none_iff]
          intro x hx
          obtain ⟨j, hj, rfl⟩ := List.mem_iff_getElem.1 hx
          exact HN.out j l[j] hj (List.getElem?_eq_getElem _)
        rw [this]
      exact ⟨by rw [this]; rfl, HB.out⟩

set_option maxRecDepth 100000 in
theorem contains_call (v : Value) (l : List GOp) (key : Int) (kb : Nat) (w : World) (hv : RdOps w v l) (hk : w.cell? ⟨kb, 0, none⟩ = some (.int .i64 key)) :
    Calls Try.prog 37 #[v, .func (.func 64) #[] #[.pointer (some ⟨kb, 0, none⟩)]] w fun e w' => e = .returned (.bool (l.any (keyB key))) ∧ Below w.heap.size w w' := by
  go_enter Try.func37, Try.ntmps37
  go_wp2_with (go_at_call 63; refine (index_call v l key kb w hv hk).mono ?_; rintro e w1 ⟨rfl, hb1⟩)
  go_ret
  exact ⟨by rw [← idxB_any]; first | rfl | simp, hb1⟩

/-- Does one who waits write a key? -/
def writesB (r : Rdy) (key : Int) : Bool := r.writes.any (keyB key)
set_option maxRecDepth 100000 in
set_option maxHeartbeats 2000000 in
theorem writes_call (x : RV) (key : Int) (w : World) (hx : RdyS w x) :
    Calls Try.prog 39 #[rdyV x, vi key] w fun e w' => e = .returned (.bool (writesB x.r key)) ∧ Below w.heap.size w w' := by
  have hmf : ∀ (fn : Fn) (first cap : Array Value) (w : World), (Instr.makeFunc fn first cap).run Try.prog w = .ok (.func fn first cap) w := fun _ _ _ _ => rfl
  have hB : Below w.heap.size w ((w.alloc (.cells (rdyC x) 29)).alloc (.cells #[vi key] 3)) := ((Below.refl _ _).alloc (Nat.le_refl _) _).alloc (by simp) _
  have HV := Lib.hid (hx.ws.later hB)
  have HB := Lib.hid hB
  have q3 : ((w.alloc (.cells #[vi x.r.txn, vi x.r.home, vi x.r.start, x.wv, x.rv] 29)).alloc (.cells #[vi key] 3)).cell? ⟨w.heap.size, 3, none⟩ = some x.wv := by
    rw [World.cell?_alloc_past _ _ _ (by simp), World.cell?_alloc_at _ _ _ _ rfl]; rfl
  unfold rdyC at HV HB
  clear hx hB
  unfold rdyV rdyC
  go_enter Try.func39, Try.ntmps39
  go_wp2_with (go_at_call 37; refine (contains_call x.wv x.r.writes key (w.heap.size + 1) _ HV.out (by rw [World.cell?_alloc_at _ _ _ _ (by simp)]; rfl)).mono ?_; rintro e w1 ⟨rfl, hb1⟩)
  go_ret
  exact ⟨rfl, HB.out.trans (hb1.mono (by simp; omega))⟩
end Go.Proofs.Ytbadpfcjoobniaa
