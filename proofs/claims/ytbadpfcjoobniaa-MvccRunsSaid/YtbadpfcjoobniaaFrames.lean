/- Frames as functions: a loop or a cut whose relation forgets all slots but those it names, by one letter for the whole frame. Names no program. -/
import Derived.Test.YtbadpfcjoobniaaMem
import Derived.Deep.CutBlock
import Derived.Deep.LoopGhost
namespace Go.Proofs.Ytbadpfcjoobniaa
open Go.RowKit

/-- A frame of n slots, slot by slot. -/
def frN (n : Nat) (f : Nat → Value) : Act := ⟨((List.range n).map f).toArray, []⟩
/-- What lies in the slots of a frame that is written out. -/
def slotsOf (l : List Value) : Nat → Value := fun i => (l[i]?).getD undef
theorem frN_of (n : Nat) (l : List Value) (h : l.length = n) : (⟨l.toArray, []⟩ : Act) = frN n (slotsOf l) := by
  have : (List.range n).map (slotsOf l) = l := by
    apply List.ext_getElem?
    intro i
    rw [List.getElem?_map]
    by_cases hi : i < n
    · rw [List.getElem?_range hi, Option.map_some]
      unfold slotsOf
      rw [List.getElem?_eq_getElem (by omega)]; rfl
    · rw [List.getElem?_eq_none (by simp; omega), List.getElem?_eq_none (by omega)]; rfl
  unfold frN; rw [this]

theorem wp_fr {P : Program} {c : Code} {Q : Exit → Act → World → Prop} {w : World} (n : Nat) (l : List Value) (hl : l.length = n) (h : c.wp P Q (frN n (slotsOf l)) w) : c.wp P Q ⟨l.toArray, []⟩ w := by
  rw [frN_of n l hl]; exact h

theorem wp_cutF {P : Program} {s : Code} {K : Act → World → Prop} {Q' : Exit → Act → World → Prop} {a : Act} {w : World} (n : Nat) (R : (Nat → Value) → World → Prop)
    (rest : ∀ f w', R f w' → K (frN n f) w')
    (first : ∀ (J K' : Act → World → Prop), (∀ (l : List Value) w', l.length = n → R (slotsOf l) w' → J ⟨l.toArray, []⟩ w') → (∀ a' w', Met J a' w' → K' a' w') → s.wp P (Exit.then K' Q') a w) : s.wp P (Exit.then K Q') a w :=
  wp_cut (fun a' w' => ∃ f, a' = frN n f ∧ R f w') (fun _ _ ⟨f, e, h⟩ => e ▸ rest f _ h)
    (fun J K' h1 h2 => first J K' (fun l w' hl hr => h1 _ _ ⟨_, frN_of n l hl, hr⟩) h2)

theorem wp_loopF {P : Program} {c : Code} {Q : Exit → Act → World → Prop} {w : World} (n : Nat) (R : Nat → (Nat → Value) → World → Prop) (l0 : List Value) (hl : l0.length = n) (m0 : Nat) (h0 : R m0 (slotsOf l0) w)
    (round : ∀ m f w, R m f w → ∀ (J : Nat → Act → World → Prop) (K : Act → World → Prop), (∀ k (l : List Value) w', l.length = n → R k (slotsOf l) w' → J k ⟨l.toArray, []⟩ w') → (∀ a' w', Handed J m a' w' → K a' w') → c.wp P (Exit.then K Q) (frN n f) w) : (Code.loop c).wp P Q ⟨l0.toArray, []⟩ w :=
  wp_loop_ghost_k (fun m a' w' => ∃ f, a' = frN n f ∧ R m f w') m0 ⟨_, frN_of n l0 hl, h0⟩
    (fun m a' w' ⟨f, e, h⟩ J K h1 h2 => e ▸ round m f w' h J K (fun k l w'' hl hr => h1 k _ _ ⟨_, frN_of n l hl, hr⟩) h2)

/-- What holds of the plain end; no other end. -/
def OnlyN (K : Act → World → Prop) : Exit → Act → World → Prop
  | .normal, a, w => K a w
  | _, _, _ => False
theorem wp_onlyN {P : Program} {c : Code} {K : Act → World → Prop} {Q : Exit → Act → World → Prop} {a : Act} {w : World} (h : c.wp P (OnlyN K) a w) (hK : ∀ a w, K a w → Q .normal a w) : c.wp P Q a w :=
  wp_mono h (fun e a w hq => by
    cases e with
    | normal => exact hK _ _ hq
    | exit id => exact hq.elim
    | goto l => exact hq.elim
    | ret => exact hq.elim
    | panic ch => exact hq.elim
    | outgrown => exact hq.elim)

section codes
def blockOf (n : Nat) : Code → Option Code
  | .block m c => if m = n then some (.block m c) else blockOf n c
  | .seq a b => match blockOf n a with
    | some c => some c
    | none => blockOf n b
  | .cond _ a b => match blockOf n a with
    | some c => some c
    | none => blockOf n b
  | .loop c => blockOf n c
  | .scope c => blockOf n c
  | _ => none
def endsIn (n : Nat) : Code → Bool
  | .block m _ => m == n
  | .seq _ b => endsIn n b
  | _ => false
/-- What follows a block in its sequence. -/
def afterBlock (n : Nat) : Code → Option Code
  | .seq a b => if endsIn n a then some b else match afterBlock n a with
    | some c => some c
    | none => afterBlock n b
  | .block _ c => afterBlock n c
  | .cond _ a b => match afterBlock n a with
    | some c => some c
    | none => afterBlock n b
  | .loop c => afterBlock n c
  | .scope c => afterBlock n c
  | _ => none
end codes
end Go.Proofs.Ytbadpfcjoobniaa
