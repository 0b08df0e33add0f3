import Derived.Test.YtkobpjndkgjcjaaShrinkB
namespace Go.Proofs.Ytkobpjndkgjcjaa
open Go.RowKit

/-- From block B on, but for block r, the world w' is as w was where w had blocks. -/
structure Over (B : Nat) (r : Option Nat) (w w' : World) : Prop where
  os : w'.os = w.os
  tape : w'.tape = w.tape
  output : w'.output = w.output
  size : w.heap.size ≤ w'.heap.size
  block : ∀ k, B ≤ k → k < w.heap.size → some k ≠ r → w'.heap[k]? = w.heap[k]?

/-- A closure over [] int that tells a bool by 'step', its state s held in memory as I says. -/
structure Bad {σ : Type} (B : Nat) (fb : FuncId) (cp : Array Value) (budget : Int) (I : Int × σ → World → Prop) (step : σ → List Int → Bool × σ) : Prop where
  enter : ∀ args w, (callFunc fb args).run Try.prog w = .ok (.enter fb args) w
  stable : ∀ s w w', I s w → Below B w w' → I s w'
  call : ∀ n s w v xs, 0 ≤ n → n < budget → I (n, s) w → B ≤ w.heap.size → OwI B w v xs → xs.length ≤ 1048576 →
    Calls Try.prog fb (#[v] ++ cp) w fun e w' => e = .returned (.bool (step s xs).1) ∧ I (n + 1, (step s xs).2) w' ∧ Over B v.ownBlock w w'

/-- What 'try' does: it counts, and asks. -/
def tryM {σ : Type} (step : σ → List Int → Bool × σ) (budget : Int) (st : Int × σ) (xs : List Int) : Bool × Int × σ :=
  if budget ≤ st.1 then (false, st.1, st.2) else ((step st.2 xs).1, st.1 + 1, (step st.2 xs).2)

theorem OwI.mono {b b' : Nat} {w : World} {v : Value} {xs : List Int} (h : OwI b w v xs) (hb : b' ≤ b) : OwI b' w v xs := by
  obtain ⟨h1, h2⟩ := h
  refine ⟨h1, ?_⟩
  rcases h2 with h2 | ⟨g, cap, cur, hv, hg, r⟩
  · exact .inl h2
  · exact .inr ⟨g, cap, cur, hv, by omega, r⟩

variable {σ : Type} {I : Int × σ → World → Prop} {step : σ → List Int → Bool × σ}

theorem Below.drewSize {w w' : World} (h : Below w.drew.heap.size w.drew w') : Below w.heap.size w w' := ⟨h.os, h.tape, h.output, h.size, h.block⟩

theorem Below.over {B : Nat} {r : Option Nat} {w w' : World} (h : Below w.heap.size w w') : Over B r w w' :=
  ⟨h.os, h.tape, h.output, h.size, fun k _ hk _ => h.block k hk⟩

theorem Over.trans {B : Nat} {r r' : Option Nat} {a b c : World} (h : Over B r a b) (k : Over B r' b c) (hr : ∀ j, r' = some j → j < a.heap.size → r = some j) : Over B r a c :=
  ⟨k.os.trans h.os, k.tape.trans h.tape, k.output.trans h.output, Nat.le_trans h.size k.size, fun i hi hlt hne => by
    rw [k.block i hi (Nat.lt_of_lt_of_le hlt h.size) (fun e => hne (hr i e.symm hlt).symm)]
    exact h.block i hi hlt hne⟩

theorem Over.setCell {B : Nat} {b : Nat} {o : Nat} {w : World} {u : Value} : Over B (some b) w (w.setCell ⟨b, o, none⟩ u) :=
  ⟨rfl, rfl, rfl, by simp [World.setCell], fun k _ _ hne => Below.heap_setCell _ _ _ _ (fun e => hne (by rw [e]))⟩

theorem try_end {B : Nat} {w W w1 w2 : World} {v1 a : Value} {xs : List Int} (F6 : Over B (some (B + 2)) w W) (H1 : Below W.drew.heap.size W.drew w1) (HO : OwI W.drew.heap.size w1 v1 xs)
    (hov : Over B v1.ownBlock w1 w2) (hsz : B + 3 ≤ W.heap.size) (F2 : W.cell? ⟨B + 2, 0, none⟩ = some a) (F3 : W.frozen? ⟨B + 2, 0, none⟩ = false) :
    w2.cell? ⟨B + 2, 0, none⟩ = some a ∧ w2.frozen? ⟨B + 2, 0, none⟩ = false ∧ Over B (some (B + 2)) w w2 := by
  have hlt : ∀ j, v1.ownBlock = some j → W.heap.size ≤ j := fun j hj => (HO.lt j hj).1
  have h1 := Below.drewSize H1
  have hs1 := h1.size
  have hb : w2.heap[B + 2]? = W.heap[B + 2]? := by
    rw [hov.block (B + 2) (by omega) (by omega) (fun e => by have := hlt _ e.symm; omega), h1.block (B + 2) (by omega)]
  refine ⟨(World.cell?_of_block hb).trans F2, (World.frozen?_of_block hb).trans F3, (F6.trans (Below.over h1 (r := none)) (fun j hj => by cases hj)).trans hov (fun j hj hl => ?_)⟩
  have := hlt j hj
  have := F6.size
  omega

set_option maxHeartbeats 400000 in
theorem try_any (B : Nat) (fb : FuncId) (cp : Array Value) (budget : Int) (hbad : Bad B fb cp budget I step) (v : Value) (xs : List Int) (n : Int) (s : σ) (w : World)
    (hB : B + 3 ≤ w.heap.size) (hv : OwI (B + 3) w v xs) (hl : xs.length ≤ 1048576) (hI : I (n, s) w) (hn : 0 ≤ n) (hbu : budget ≤ 9223372036854775807)
    (h2 : w.cell? ⟨B + 2, 0, none⟩ = some (.int .i64 n)) (h0 : w.cell? ⟨B, 0, none⟩ = some (.int .i64 budget)) (h1 : w.cell? ⟨B + 1, 0, none⟩ = some (.func (.func fb) #[] cp)) (hf : w.frozen? ⟨B + 2, 0, none⟩ = false) :
    Calls Try.prog 15 #[v, .pointer (some ⟨B + 2, 0, none⟩), .pointer (some ⟨B, 0, none⟩), .pointer (some ⟨B + 1, 0, none⟩)] w fun e w' =>
      e = .returned (.bool (tryM step budget (n, s) xs).1) ∧ I (tryM step budget (n, s) xs).2 w' ∧ w'.cell? ⟨B + 2, 0, none⟩ = some (.int .i64 (tryM step budget (n, s) xs).2.1) ∧ w'.frozen? ⟨B + 2, 0, none⟩ = false ∧ Over B (some (B + 2)) w w' := by
  have HI := Lib.hid hI
  have HV := Lib.hid hv
  clear hI hv
  by_cases hb : budget ≤ n
  · have hT : tryM step budget (n, s) xs = (false, n, s) := by simp [tryM, hb]
    rw [hT]
    go_enter Try.func15, Try.ntmps15
    go_wp2
    go_ret
    exact ⟨rfl, HI.out, h2, hf, rfl, rfl, rfl, Nat.le_refl _, fun _ _ _ _ => rfl⟩
  · have hT : tryM step budget (n, s) xs = ((step s xs).1, n + 1, (step s xs).2) := by simp [tryM, hb]
    rw [hT]
    go_enter Try.func15, Try.ntmps15
    go_wp2_with fail
    have f1 : (w.setCell ⟨B + 2, 0, none⟩ (.int .i64 (n + 1))).cell? ⟨B + 1, 0, none⟩ = some (.func (.func fb) #[] cp) := (World.cell?_setCell_other _ _ _ _ (by simp)).trans h1
    have f2 : (w.setCell ⟨B + 2, 0, none⟩ (.int .i64 (n + 1))).cell? ⟨B + 2, 0, none⟩ = some (.int .i64 (n + 1)) := World.cell?_setCell_same _ _ _ h2
    have f3 : (w.setCell ⟨B + 2, 0, none⟩ (.int .i64 (n + 1))).frozen? ⟨B + 2, 0, none⟩ = false := (World.frozen?_setCell _ _ _ _).trans hf
    have f4 : I (n, s) (w.setCell ⟨B + 2, 0, none⟩ (.int .i64 (n + 1))) := hbad.stable _ _ _ HI.out ((Below.refl B w).setCell (by show B ≤ B + 2; omega) _)
    have f5 : RdI (w.setCell ⟨B + 2, 0, none⟩ (.int .i64 (n + 1))) v xs := OwI.rd (base := B + 3) (ownsRow_setCell_below HV.out (by show B + 2 < B + 3; omega) _)
    have f6 : Over B (some (B + 2)) w (w.setCell ⟨B + 2, 0, none⟩ (.int .i64 (n + 1))) := Over.setCell
    have hsz : B + 3 ≤ (w.setCell ⟨B + 2, 0, none⟩ (.int .i64 (n + 1))).heap.size := Nat.le_trans hB f6.size
    generalize (w.setCell ⟨B + 2, 0, none⟩ (.int .i64 (n + 1))) = W at *
    have HNB := Lib.hid hb
    clear h0 h1 h2 hf HI HV hT hb
    have F2 := Lib.hid f2
    have F3 := Lib.hid f3
    have F4 := Lib.hid f4
    have F5 := Lib.hid f5
    have F6 := Lib.hid f6
    have FB := Lib.hid hbad
    have hent := hbad.enter
    clear f2 f3 f4 f5 f6 hbad
    go_region_with (first | (go_at_call 16; refine (clone_any _ _ _ (F5.out.below ((Below.refl _ _).drew)) (by omega)).mono ?_; rintro e w1 ⟨v1, rfl, ho, hb1⟩; have g1 := cell_later hb1 (show W.drew.cell? ⟨B + 1, 0, none⟩ = _ from f1); have H1 := Lib.hid hb1; have HO := Lib.hid ho; clear hb1 ho) | ((with_reducible refine (FB.out.call n s _ _ xs hn (by have := HNB.out; omega) (FB.out.stable _ _ _ F4.out (((Below.refl B W).drew).trans (H1.out.mono (by simp; omega)))) (by have := H1.out.size; simp at this; omega) (HO.out.mono (by simp; omega)) hl).mono ?_); rintro e w2 ⟨rfl, hI2, hov⟩))
    all_goals
      go_wp2
      go_ret
      obtain ⟨g2, g3, g4⟩ := try_end F6.out H1.out HO.out hov hsz F2.out F3.out
      exact ⟨rfl, hI2, g2, g3, g4⟩

/-- What the loops of Less keep of memory: the count, the budget and the closure in their blocks; the closure's state; the room. -/
structure LW {σ : Type} (B : Nat) (fb : FuncId) (cp : Array Value) (I : Int × σ → World → Prop) (budget : Int) (st : Int × σ) (w : World) : Prop where
  inv : I st w
  n : 0 ≤ st.1
  asked : w.cell? ⟨B + 2, 0, none⟩ = some (.int .i64 st.1)
  free : w.frozen? ⟨B + 2, 0, none⟩ = false
  bud : w.cell? ⟨B, 0, none⟩ = some (.int .i64 budget)
  bad : w.cell? ⟨B + 1, 0, none⟩ = some (.func (.func fb) #[] cp)
  size : B + 3 ≤ w.heap.size

/-- What the call owns above the three blocks stays as it is. -/
def Keeps (B : Nat) (w w' : World) : Prop := ∀ u ys, OwI (B + 3) w u ys → OwI (B + 3) w' u ys

theorem Keeps.refl (B : Nat) (w : World) : Keeps B w w := fun _ _ h => h
theorem Keeps.trans {B : Nat} {a b c : World} (h : Keeps B a b) (k : Keeps B b c) : Keeps B a c := fun u ys hu => k u ys (h u ys hu)
theorem Over.keeps {B : Nat} {w w' : World} (h : Over B (some (B + 2)) w w') : Keeps B w w' := by
  intro u ys hu
  obtain ⟨h1, h2⟩ := hu
  refine ⟨h1, ?_⟩
  rcases h2 with h2 | ⟨g, cap, cur, hv, hg, hh, r⟩
  · exact .inl h2
  · have hlt := (Array.getElem?_eq_some_iff.1 hh).1
    exact .inr ⟨g, cap, cur, hv, hg, by rw [h.block g (by omega) hlt (by simp; omega)]; exact hh, r⟩
theorem Below.keeps {B : Nat} {w w' : World} (h : Below w.heap.size w w') : Keeps B w w' := Over.keeps (Below.over h)

theorem LW.below {B : Nat} {fb : FuncId} {cp : Array Value} {budget : Int} {st : Int × σ} {w w' : World} (h : LW B fb cp I budget st w) (hbad : Bad B fb cp budget I step) (hb : Below w.heap.size w w') : LW B fb cp I budget st w' := by
  have hs := h.size
  exact ⟨hbad.stable _ _ _ h.inv (hb.mono (by omega)), h.n, cell_later hb h.asked, (hb.frozen (p := ⟨B + 2, 0, none⟩) (by show B + 2 < _; omega)).trans h.free, cell_later hb h.bud, cell_later hb h.bad, Nat.le_trans hs hb.size⟩

theorem try_lw (B : Nat) (fb : FuncId) (cp : Array Value) (budget : Int) (hbad : Bad B fb cp budget I step) (v : Value) (xs : List Int) (st : Int × σ) (w : World)
    (hv : OwI (B + 3) w v xs) (hl : xs.length ≤ 1048576) (hw : LW B fb cp I budget st w) (hbu : budget ≤ 9223372036854775807) :
    Calls Try.prog 15 #[v, .pointer (some ⟨B + 2, 0, none⟩), .pointer (some ⟨B, 0, none⟩), .pointer (some ⟨B + 1, 0, none⟩)] w fun e w' =>
      e = .returned (.bool (tryM step budget st xs).1) ∧ LW B fb cp I budget (tryM step budget st xs).2 w' ∧ Keeps B w w' := by
  obtain ⟨h1, h2, h3, h4, h5, h6, h7⟩ := hw
  refine (try_any B fb cp budget hbad v xs st.1 st.2 w h7 hv hl h1 h2 hbu h3 h5 h6 h4).mono ?_
  rintro e w' ⟨he, hI, hc, hf, ho⟩
  refine ⟨he, ⟨hI, ?_, hc, hf, ?_, ?_, Nat.le_trans h7 ho.size⟩, ho.keeps⟩
  · show 0 ≤ (tryM step budget st xs).2.1
    unfold tryM; split <;> simp <;> omega
  · rw [World.cell?_of_block (w := w) (ho.block B (Nat.le_refl _) (by omega) (by simp))]; exact h5
  · rw [World.cell?_of_block (w := w) (ho.block (B + 1) (by show B ≤ B + 1; omega) (by show B + 1 < _; omega) (by simp))]; exact h6
end Go.Proofs.Ytkobpjndkgjcjaa
