/- (*mvcc.Store).later: has a key a version behind a time? -/
import Derived.Test.YtbadpfcjoobniaaMvSort
namespace Go.Proofs.Ytbadpfcjoobniaa
open Go.RowKit Go.Maps

def nilK : KV := (.slice none 0 0, [])
def curK (K : KeysL) (key : Int) : KV := (getM K key).getD nilK
def verOf (K : KeysL) (key : Int) : List Ver := (curK K key).2
def laterB (vs : List Ver) (t : Int) : Bool := match vs.getLast? with | some x => decide (t < x.1) | none => false

theorem MvS.cur {base p mk mr me : Nat} {serial : Bool} {bugs : Int} {K : KeysL} {R : RdyL} {E : EndL} {W : World} (h : MvS base p mk mr me serial bugs K R E W) (key : Int) : RdVer W (curK K key).1 (curK K key).2 := by
  unfold curK
  cases hg : getM K key with
  | none => exact ⟨none, 0, 0, rfl, rfl, by simp [nilK], Nat.le_refl _, fun _ => ⟨rfl, rfl⟩, fun j x hj => by simp [nilK] at hj⟩
  | some x => exact h.krow (key, x) (getM_some hg)
theorem zero_vers (w : World) : (zeroValue 46).run Try.prog w = .ok (.slice none 0 0) w := by kernel_rfl
theorem lookup_keys {w : World} {mk : Nat} {K : KeysL} (h : MapK w mk K) {key : Int} (hk : i64 key) :
    (Instr.lookup 91 (.map (some mk)) (vi key) false).run Try.prog w = .ok (curK K key).1 w := by
  obtain ⟨kl, hkl⟩ := intKey hk
  have h1 := (h.lookup intKeyed vi_inj (t := 91) (e := 46) Try.underlying91 key hkl (zero_vers w)).1
  have e : ((getM K key).map (fun x : KV => x.1)).getD (.slice none 0 0) = (curK K key).1 := by unfold curK; cases getM K key <;> rfl
  rw [e] at h1
  exact h1

set_option maxRecDepth 100000 in
set_option maxHeartbeats 2000000 in
theorem later_call {base p mk mr me : Nat} {serial : Bool} {bugs : Int} {K : KeysL} {R : RdyL} {E : EndL} (key t : Int) (w : World) (h : MvS base p mk mr me serial bugs K R E w) (hk : i64 key) :
    Calls Try.prog 34 #[.pointer (some ⟨p, 0, none⟩), vi key, vi t] w fun e w' => e = .returned (.bool (laterB (verOf K key) t)) ∧ Below w.heap.size w w' := by
  have hlk := lookup_keys h.keys hk
  have p2 : w.cell? ⟨p, 2, none⟩ = some (.map (some mk)) := by rw [cell_of h.blk]; rfl
  have hr := h.cur key
  unfold verOf
  generalize curK K key = kv at *
  obtain ⟨kv1, vs⟩ := kv
  obtain ⟨a, len, cap, hv, hl, hm, hc⟩ := hr.at
  simp only at hv hl hm hc hlk
  subst hv hl
  clear h hr
  go_enter Try.func34, Try.ntmps34
  by_cases h0 : vs.length = 0
  · have hv0 : vs = [] := List.length_eq_zero_iff.1 h0
    subst hv0
    clear hc
    go_wp2_with fail
    go_ret
    exact ⟨by simp [laterB], Below.refl _ _⟩
  · obtain ⟨x, hx⟩ := some_at (l := vs) (k := vs.length - 1) (by omega)
    obtain ⟨b, off, rfl, c0, -, hi⟩ := hc _ x hx
    have hpos : (0 : Int) < (vs.length : Int) := by omega
    have hwr : IntKind.i64.wrap ((vs.length : Int) - 1) = ((vs.length - 1 : Nat) : Int) := by rw [IntWalk.i64_in _ (by omega)]; omega
    have hL := Lib.hid (show laterB vs t = decide (t < x.1) by
      have : vs.getLast? = some x := by rw [List.getLast?_eq_getElem?]; exact hx
      unfold laterB; rw [this])
    have hlt1 : ((vs.length - 1 : Nat) : Int) < (vs.length : Int) := by omega
    clear hc hx h0
    go_wp2_with fail
    go_ret
    exact ⟨by rw [hL.out]; rfl, Below.refl _ _⟩
end Go.Proofs.Ytbadpfcjoobniaa
