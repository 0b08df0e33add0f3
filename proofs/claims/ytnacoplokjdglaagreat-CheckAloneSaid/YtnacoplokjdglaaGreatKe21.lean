/- Texts of one proof, one behind the other: CkC, CkH, CtPP, DpCn. -/
import Derived.Test.YtnacoplokjdglaaGreatKe1
import Derived.Test.YtnacoplokjdglaaGreatKe2
import Derived.Test.YtnacoplokjdglaaGreatKe3
import Derived.Test.YtnacoplokjdglaaGreatKe4
import Derived.Test.YtnacoplokjdglaaGreatKe5
import Derived.Test.YtnacoplokjdglaaGreatKe6
import Derived.Test.YtnacoplokjdglaaGreatKe7
import Derived.Test.YtnacoplokjdglaaGreatKe8
import Derived.Test.YtnacoplokjdglaaGreatKe9
import Derived.Test.YtnacoplokjdglaaGreatKe10
import Derived.Test.YtnacoplokjdglaaGreatKe11
import Derived.Test.YtnacoplokjdglaaGreatKe12
import Derived.Test.YtnacoplokjdglaaGreatKe13
import Derived.Test.YtnacoplokjdglaaGreatKe14
import Derived.Test.YtnacoplokjdglaaGreatKe15
import Derived.Test.YtnacoplokjdglaaGreatKe16
import Derived.Test.YtnacoplokjdglaaGreatKe17
import Derived.Test.YtnacoplokjdglaaGreatKe18
import Derived.Test.YtnacoplokjdglaaGreatKe19
import Derived.Test.YtnacoplokjdglaaGreatKe20
set_option linter.all false
namespace Go.Proofs.YtnacoplokjdglaaGreat
open Go.RowKit Go.Maps
attribute [local go_sem] Oper.semAt_some

theorem aheadOf_same {L H : FaL} (h : ∀ c, getM L c = getM H c) : aheadOf L = aheadOf H := by
  funext key a c
  unfold aheadOf
  rw [h]
theorem wrl_same {ts : List GTxn} {L H : FaL} (h : ∀ c, getM L c = getM H c) : wrl ts L = wrl ts H := by
  funext key
  unfold wrl wrlK
  have : inW ts L key = inW ts H key := by
    funext i
    unfold inW
    rw [isM_same h]
  rw [this]
theorem onceB_same {L H : FaL} (h : ∀ c, getM L c = getM H c) : onceB L = onceB H := by
  funext key D
  unfold onceB aheadN
  rw [aheadOf_same h]

/-- The whole search. -/
noncomputable def tree0 (ts : List GTxn) (level : Int) : WT := treeM ts level (choicesM ts).length []
def verdV (k s : Int) (f : Int × Int × Int) (tr dn od : Value) : Value := .agg #[vi k, vi s, vi f.1, vi f.2.1, vi f.2.2, tr, dn, od]
/-- A tree of cycles in memory. -/
def TreeV (N : Nat) (W : World) (tr : Value) (l : List (List Nat)) : Prop := ∃ T : TrL, T.map (·.2) = l ∧ W.ownsRow N 70 1 tr T.length (T.map (·.1)) ∧ ∀ q ∈ T, W.ownsRow N 3 1 q.1 q.2.length ((q.2.map natI).flatMap viC)
/-- The orders of the first n keys, by some facts. -/
structure OrdC (ts : List GTxn) (F : FaL) (n : Nat) (N : Nat) (O : OrdL) (W : World) : Prop where
  at_ : ∀ key : Nat, key < n → ∃ E : List Int, (onceB F key (wrl ts F key) = true → (wrl ts F key).Perm E ∧ E.Pairwise (fun x y => aheadOf F key x y = true)) ∧ (onceB F key (wrl ts F key) = false → E = []) ∧ (E = [] → getM O (key : Int) = none) ∧ (E ≠ [] → ∃ v, getM O (key : Int) = some (v, E) ∧ OwI N W v E)
  off : ∀ x : Int, (∀ key : Nat, key < n → x ≠ key) → getM O x = none
theorem OrdC.nil (ts : List GTxn) (F : FaL) (N : Nat) (W : World) : OrdC ts F 0 N [] W := ⟨fun _ h => absurd h (Nat.not_lt_zero _), fun _ _ => rfl⟩
theorem OrdC.frame {ts : List GTxn} {F : FaL} {n N : Nat} {O : OrdL} {W W' : World} (h : OrdC ts F n N O W) (hf : ∀ (v : Value) (E : List Int), OwI N W v E → OwI N W' v E) : OrdC ts F n N O W' :=
  ⟨fun key hk => by
    obtain ⟨E, h1, h2, h3, h4⟩ := h.at_ key hk
    exact ⟨E, h1, h2, h3, fun hE => by obtain ⟨v, h5, h6⟩ := h4 hE; exact ⟨v, h5, hf v E h6⟩⟩, h.off⟩
/-- What check.Check answers: the kind, the steps, the flaw, the tree, who is done, the orders. -/
inductive CkR (h : Option (List GTxn)) (level B : Int) (N : Nat) (W : World) : Int → Int → Int × Int × Int → Value → Value → Value → Prop
  | no : (h = none ∨ ¬ (level = 1 ∨ level = 2)) → CkR h level B N W 0 0 (0, 0, 0) (.slice none 0 0) (.slice none 0 0) (.map none)
  | flaw (ts : List GTxn) (f : Int × Int × Int) (l : List (Int × Int × Int)) : h = some ts → (level = 1 ∨ level = 2) → flawsM ts = f :: l → CkR h level B N W 2 0 f (.slice none 0 0) (.slice none 0 0) (.map none)
  | pass (ts : List GTxn) (F : FaL) (db om : Nat) (O : OrdL) : h = some ts → (level = 1 ∨ level = 2) → flawsM ts = [] → endB (tree0 ts level) 0 B = true → (tree0 ts level).found = some F → BoolB W db ((List.range ts.length).map (dnM ts F)) → MapO W om O → OrdC ts F 16 N O W → CkR h level B N W 1 (endS (tree0 ts level) 0 B) (0, 0, 0) (.slice none 0 0) (.slice (some ⟨db, 0, none⟩) ts.length ts.length) (.map (some om))
  | over (ts : List GTxn) : h = some ts → (level = 1 ∨ level = 2) → flawsM ts = [] → endO (tree0 ts level) 0 B = true → CkR h level B N W 3 (endS (tree0 ts level) 0 B) (0, 0, 0) (.slice none 0 0) (.slice none 0 0) (.map none)
  | fail (ts : List GTxn) (l : List (List Nat)) (tr : Value) : h = some ts → (level = 1 ∨ level = 2) → flawsM ts = [] → endB (tree0 ts level) 0 B = false → endO (tree0 ts level) 0 B = false → Nodes ts level (tree0 ts level) l → TreeV N W tr l → CkR h level B N W 2 (endS (tree0 ts level) 0 B) (0, 0, 0) tr (.slice none 0 0) (.map none)
def CheckQ (es : List GEvent) (level B : Int) (w : World) (e : Ending) (w' : World) : Prop :=
  ∃ k s f tr dn od, e = .returned (verdV k s f tr dn od) ∧ CkR (histH es) level B w.heap.size w' k s f tr dn od ∧ Below w.heap.size w w'

/-- Eight cells of a box are written. -/
def put8 (W : World) (b : Nat) (v0 v1 v2 v3 v4 v5 v6 v7 : Value) : World :=
  (((((((W.setCell ⟨b, 0, none⟩ v0).setCell ⟨b, 1, none⟩ v1).setCell ⟨b, 2, none⟩ v2).setCell ⟨b, 3, none⟩ v3).setCell ⟨b, 4, none⟩ v4).setCell ⟨b, 5, none⟩ v5).setCell ⟨b, 6, none⟩ v6).setCell ⟨b, 7, none⟩ v7
theorem grown8 (W : World) (b : Nat) (v0 v1 v2 v3 v4 v5 v6 v7 : Value) : W.grownBy (put8 W b v0 v1 v2 v3 v4 v5 v6 v7) (some b) := by
  unfold put8
  exact grown_setCell (grown_setCell (grown_setCell (grown_setCell (grown_setCell (grown_setCell (grown_setCell (grown_put W b 0 v0)))))))

theorem set_far {W : World} {A o' j o : Nat} {u v : Value} (h : W.cell? ⟨j, o, none⟩ = some v) (hj : j ≠ A) : (W.setCell ⟨A, o', none⟩ u).cell? ⟨j, o, none⟩ = some v :=
  (World.cell?_of_block (a := ⟨j, o, none⟩) (Below.heap_setCell W ⟨A, o', none⟩ u j hj)).trans h
theorem pass_drew {W : World} {db om N : Nat} {O : OrdL} {dn : List Bool} {ts : List GTxn} {F : FaL} (h : BoolB W db dn ∧ MapO W om O ∧ OrdC ts F 16 N O W) : BoolB W.drew db dn ∧ MapO W.drew om O ∧ OrdC ts F 16 N O W.drew := ⟨h.1, h.2.1.frame rfl, h.2.2.frame (fun v E ho => ho)⟩
theorem pass_put {W : World} {b db om N : Nat} {O : OrdL} {dn : List Bool} {ts : List GTxn} {F : FaL} {cs : Array Value} (h : BoolB W db dn ∧ MapO W om O ∧ OrdC ts F 16 N O W) (hb : W.heap[b]? = some (.cells cs 39)) (v0 v1 v2 v3 v4 v5 v6 v7 : Value) :
    BoolB (put8 W b v0 v1 v2 v3 v4 v5 v6 v7).drew db dn ∧ MapO (put8 W b v0 v1 v2 v3 v4 v5 v6 v7).drew om O ∧ OrdC ts F 16 N O (put8 W b v0 v1 v2 v3 v4 v5 v6 v7).drew := by
  obtain ⟨h1, h2, h3⟩ := h
  have hg := grown8 W b v0 v1 v2 v3 v4 v5 v6 v7
  generalize put8 W b v0 v1 v2 v3 v4 v5 v6 v7 = X at *
  refine pass_drew ⟨h1.frame (hg.block db h1.lt ?_), h2.kept hg ?_, h3.frame (fun v E ho => own_boxed ho hb (by decide) hg)⟩
  · intro e
    have e2 : db = b := by simpa using e
    subst e2
    unfold BoolB at h1
    rw [h1] at hb
    simp at hb
  · intro e
    have e2 : om = b := by simpa using e
    subst e2
    obtain ⟨es, c, ho, _⟩ := h2
    rw [ho] at hb; cases hb
theorem tree_drew {N : Nat} {W : World} {tr : Value} {l : List (List Nat)} (h : TreeV N W tr l) : TreeV N W.drew tr l := h
theorem tree_put {N b : Nat} {W : World} {tr : Value} {l : List (List Nat)} {cs : Array Value} (h : TreeV N W tr l) (hb : W.heap[b]? = some (.cells cs 39)) (v0 v1 v2 v3 v4 v5 v6 v7 : Value) : TreeV N (put8 W b v0 v1 v2 v3 v4 v5 v6 v7).drew tr l := by
  obtain ⟨T, h1, h2, h3⟩ := h
  have hg := grown8 W b v0 v1 v2 v3 v4 v5 v6 v7
  generalize put8 W b v0 v1 v2 v3 v4 v5 v6 v7 = X at *
  exact tree_drew ⟨T, h1, own_boxed h2 hb (by decide) hg, fun q hq => own_boxed (h3 q hq) hb (by decide) hg⟩
theorem below_put {N b : Nat} {w W : World} (h : Below N w W) (hb : N ≤ b) (v0 v1 v2 v3 v4 v5 v6 v7 : Value) (hN : N ≤ W.heap.size) : Below N w (put8 W b v0 v1 v2 v3 v4 v5 v6 v7).drew := by
  have hg := grown8 W b v0 v1 v2 v3 v4 v5 v6 v7
  generalize put8 W b v0 v1 v2 v3 v4 v5 v6 v7 = X at *
  exact (h.grown hg hN (fun j hj => by cases hj; exact hb)).drew

set_option maxRecDepth 100000 in
set_option maxHeartbeats 3000000 in
theorem check_call0 (v : Value) (es : List GEvent) (level B : Int) (w : World) (hv : RdEvents w v es) (hes : es.length ≤ 60) (hB : i64 B) (hroom : B ≤ 34359738368 ∨ ∀ ts, histH es = some ts → ((tree0 ts level).size : Int) ≤ 34359738368) :
    Calls Tryz.prog 18 #[v, vi level, vi B] w (CheckQ es level B w) := by
  have HB0 := Lib.hid ((Below.refl w.heap.size w).alloc (Nat.le_refl _) (.cells #[vi 0, vi 0, vi 0, vi 0, vi 0, .slice none 0 0, .slice none 0 0, .map none] 39))
  have HX0 := Lib.hid (alloc_at w (.cells #[vi 0, vi 0, vi 0, vi 0, vi 0, .slice none 0 0, .slice none 0 0, .map none] 39))
  have HV := Lib.hid (hv.later HB0.out)
  have HBI := Lib.hid hB
  have HRM := Lib.hid hroom
  obtain ⟨ea, ne, ec, rfl, rfl, hme, -⟩ := hv.at
  have hw0 : (w.alloc (.cells #[vi 0, vi 0, vi 0, vi 0, vi 0, .slice none 0 0, .slice none 0 0, .map none] 39)).heap.size = w.heap.size + 1 := by simp
  clear hv hB hroom
  go_enter Tryz.func18, Tryz.ntmps18
  go_upto_region 1 with fail
  generalize w.alloc (.cells #[vi 0, vi 0, vi 0, vi 0, vi 0, .slice none 0 0, .slice none 0 0, .map none] 39) = w1 at *
  go_upto_region 2 with (go_at_call 38; refine (hof_call _ es w1 HV.out hes).mono ?_; rintro e2 w2 ⟨v2, p2, err, rfl, hok2, hbad2, ⟨a2, n2, c2, rfl⟩, hb2⟩; have HOK2 := Lib.hid hok2; have HBAD2 := Lib.hid hbad2; have HB2 := Lib.hid hb2; clear hok2 hbad2 hb2)
  have HX2 := Lib.hid ((HB2.out.block w.heap.size (by omega)).trans HX0.out)
  have HBW := Lib.hid (HB0.out.trans (HB2.out.mono (by omega)))
  have z2 := fun j => free_of HX2.out j
  have y2 := fun j => cell_of HX2.out j
  go_cut [32] (fun r wx => (∃ b, r = .bool b ∧ (b = false → err = 0 ∧ (level = 1 ∨ level = 2)) ∧ (b = true → err ≠ 0 ∨ ¬ (level = 1 ∨ level = 2))) ∧ wx = w2)
  case first =>
    by_cases h0 : err = 0
    · have c0 := bne_f h0
      have H0 := Lib.hid h0
      clear h0
      by_cases h1 : level = 1
      · have c1 := bne_f h1
        have H1 := Lib.hid h1
        clear h1
        go_wp2_with fail
        go_meet
        exact ⟨⟨false, rfl, (fun _ => ⟨H0.out, .inl H1.out⟩), fun h => by cases h⟩, rfl⟩
      · have c1 := bne_t h1
        have H1 := Lib.hid h1
        clear h1
        by_cases h2 : level = 2
        · have c2 := bne_f h2
          have H2 := Lib.hid h2
          clear h2
          go_wp2_with fail
          go_meet
          exact ⟨⟨false, rfl, (fun _ => ⟨H0.out, .inr H2.out⟩), fun h => by cases h⟩, rfl⟩
        · have c2 := bne_t h2
          have H2 := Lib.hid h2
          clear h2
          go_wp2_with fail
          go_meet
          exact ⟨⟨true, rfl, (fun h => by cases h), fun _ => .inr (fun h => h.elim H1.out H2.out)⟩, rfl⟩
    · have c0 := bne_t h0
      have H0 := Lib.hid h0
      clear h0
      go_wp2_with fail
      go_meet
      exact ⟨⟨true, rfl, (fun h => by cases h), fun _ => .inl H0.out⟩, rfl⟩
  case rest =>
    obtain ⟨⟨b, rfl, hbf, hbt⟩, hwx⟩ := hcut
    replace hwx := hwx.symm
    subst hwx
    cases b with
    | true =>
      have HNO := Lib.hid (show histH es = none ∨ ¬ (level = 1 ∨ level = 2) from (hbt rfl).elim (fun h => .inl (HBAD2.out h)) .inr)
      clear hbf hbt
      go_wp2_with fail
      refine bodyPost_ret (v := verdV 0 0 (0, 0, 0) (.slice none 0 0) (.slice none 0 0) (.map none)) (by simp [results, Tryz.results18, go_sem, verdV, y2]) rfl ⟨_, _, _, _, _, _, rfl, .no HNO.out, ?_⟩
      exact HBW.out.grown (grown8 _ _ _ _ _ _ _ _ _ _) HBW.out.size (fun j hj => by cases hj; exact Nat.le_refl _)
    | false =>
      have HLV := Lib.hid (hbf rfl).2
      have he0 := (hbf rfl).1
      subst he0
      obtain ⟨ts, hts, hrd⟩ := HOK2.out rfl
      have HTS := Lib.hid hts
      have HRD := Lib.hid hrd
      have HG := Lib.hid (hist_good hes hts).1
      obtain ⟨_, _, _, e5, e6, -, -⟩ := hrd.at
      cases e5
      subst e6
      clear hbf hbt hts hrd
      have hokt := HG.out.ok
      have HOKT := Lib.hid hokt
      have htl : ts.length ≤ 60 := HG.out.len
      clear hokt
      cases hfl : flawsM ts with
      | cons f l =>
        have HFL := Lib.hid hfl
        clear hfl
        go_upto_region 6 with (go_at_call 39; refine (all_call _ ts w2 HRD.out HOKT.out (by omega) HG.out.uniq).mono ?_; rw [HFL.out]; rintro e3 w3 ⟨v3, rfl, ho3, hb3⟩; have HO3 := Lib.hid (show w3.ownsRow w2.heap.size 32 3 v3 (l.length + 1) ((f :: l).flatMap flV) from ho3); have HB3 := Lib.hid hb3; obtain ⟨a3, c3, rfl⟩ := Gr.own_shape HO3.out; have hl3 : (0 : Int) < ((l.length + 1 : Nat) : Int) := (by omega); clear ho3 hb3)
        obtain ⟨g3, rfl⟩ : ∃ g3, a3 = some ⟨g3, 0, none⟩ := by
          rcases HO3.out.2 with ⟨_, h2⟩ | ⟨g, cap, cur, h1, _⟩
          · omega
          · simp only [Value.slice.injEq] at h1
            exact ⟨_, h1.1⟩
        have k0 : w3.cell? ⟨g3, 0, none⟩ = some (vi f.1) := by have := World.ownsRow.cells HO3.out (g := g3) rfl 0 (vi f.1) (by simp [flV]); rwa [addr_add] at this
        have k1 : w3.cell? ⟨g3, 1, none⟩ = some (vi f.2.1) := by have := World.ownsRow.cells HO3.out (g := g3) rfl 1 (vi f.2.1) (by simp [flV]); rwa [addr_add] at this
        have k2 : w3.cell? ⟨g3, 2, none⟩ = some (vi f.2.2) := by have := World.ownsRow.cells HO3.out (g := g3) rfl 2 (vi f.2.2) (by simp [flV]); rwa [addr_add] at this
        have HX3 := Lib.hid ((HB3.out.block w.heap.size (Array.getElem?_eq_some_iff.1 HX2.out).1).trans HX2.out)
        have HBX := Lib.hid (HBW.out.trans (HB3.out.mono HBW.out.size))
        clear z2 y2
        have z2 := fun j => free_of HX3.out j
        have y2 := fun j => cell_of HX3.out j
        go_wp2_with fail
        refine bodyPost_ret (v := verdV 2 0 f (.slice none 0 0) (.slice none 0 0) (.map none)) (by simp [results, Tryz.results18, go_sem, verdV, y2]) rfl ⟨_, _, _, _, _, _, rfl, .flaw ts f l HTS.out HLV.out HFL.out, ?_⟩
        exact HBX.out.grown (grown8 _ _ _ _ _ _ _ _ _ _) HBX.out.size (fun j hj => by cases hj; exact Nat.le_refl _)
      | nil =>
        have HFL := Lib.hid hfl
        have hmm := @run_makeMap Tryz.prog
        clear hfl
        go_upto_region 7 with (go_at_call 39; refine (all_call _ ts w2 HRD.out HOKT.out (by omega) HG.out.uniq).mono ?_; rw [HFL.out]; rintro e3 w3 ⟨v3, rfl, ho3, hb3⟩; have HO3 := Lib.hid (show w3.ownsRow w2.heap.size 32 3 v3 0 [] from ho3); have HB3 := Lib.hid hb3; obtain ⟨a3, c3, rfl⟩ := Gr.own_shape HO3.out; clear ho3 hb3)
        have HX3 := Lib.hid ((HB3.out.block w.heap.size (Array.getElem?_eq_some_iff.1 HX2.out).1).trans HX2.out)
        have HBX := Lib.hid (HBW.out.trans (HB3.out.mono HBW.out.size))
        have HR3 := Lib.hid (HRD.out.later HB3.out)
        have hw3 : w.heap.size < w3.heap.size := (Array.getElem?_eq_some_iff.1 HX3.out).1
        clear z2 y2
        have HS4 := Lib.hid (show SeS w3.heap.size w3.heap.size (.slice a2 ts.length c2) level B 0 (.slice none 0 0) (.map none) false [] (w3.alloc (.cells #[.slice a2 ts.length c2, vi level, vi B, vi 0, .slice none 0 0, .map none, .bool false] 89)) from ⟨alloc_at _ _, World.ownsRow_nil _ _ _ _, (fun q hq => by cases hq), Nat.le_refl _⟩)
        have HB4 := Lib.hid ((Below.refl w3.heap.size w3).alloc (Nat.le_refl _) (.cells #[.slice a2 ts.length c2, vi level, vi B, vi 0, .slice none 0 0, .map none, .bool false] 89))
        have hw4 : (w3.alloc (.cells #[.slice a2 ts.length c2, vi level, vi B, vi 0, .slice none 0 0, .map none, .bool false] 89)).heap.size = w3.heap.size + 1 := by simp
        go_upto_region 8 with fail
        generalize w3.alloc (.cells #[.slice a2 ts.length c2, vi level, vi B, vi 0, .slice none 0 0, .map none, .bool false] 89) = w4 at *
        have HM5 := Lib.hid (show MapF (w4.alloc (.map #[] 0)) (w3.heap.size + 1) [] from by rw [← hw4]; exact MapT.made w4)
        have HS5 := Lib.hid (HS4.out.later ((Below.refl w4.heap.size w4).alloc (Nat.le_refl _) (.map #[] 0)))
        have HB5 := Lib.hid (HB4.out.alloc (by omega) (.map #[] 0))
        have HWK := Lib.hid (show Calls Tryz.prog 40 #[.pointer (some ⟨w3.heap.size, 0, none⟩), .map (some (w3.heap.size + 1))] (w4.alloc (.map #[] 0)) (WalkQ ts level (tree0 ts level) w3.heap.size w3.heap.size (.slice a2 ts.length c2) B 0 [] (w4.alloc (.map #[] 0))) from walkCk_call ts level B (.slice a2 ts.length c2) w3 HG.out HR3.out HBI.out (choicesM ts).length [] [] (w3.heap.size + 1) w3.heap.size 0 _ _ [] _ HS5.out HB5.out HM5.out (SameF.refl _) (FaOk.nil ts) (by omega) rfl (by
          rcases HRM.out with h | h
          · exact .inl h
          · have := h ts HTS.out
            unfold tree0 at this
            exact .inr (by omega)))
        have hw4' : w4.heap.size = w3.heap.size + 1 := hw4
        have HKB := Lib.hid (show ∀ W, KeepS w3.heap.size (w4.alloc (.map #[] 0)) W → Below w.heap.size w W ∧ W.heap[w.heap.size]? = some (.cells #[vi 0, vi 0, vi 0, vi 0, vi 0, .slice none 0 0, .slice none 0 0, .map none] 39) ∧ Below w3.heap.size w3 W from fun W hk => by
          have h1 := HB5.out.trans hk.below
          exact ⟨HBX.out.trans (h1.mono (by omega)), (h1.block w.heap.size hw3).trans HX3.out, h1⟩)
        cases h1 : endB (tree0 ts level) 0 B with
        | true =>
          have HE1 := Lib.hid h1
          clear h1
          have er : ((List.replicate ts.length false).map Value.bool).toArray = Array.replicate ts.length (Value.bool false) := by simp
          have hmb := fun w => run_makeBools w ts.length (by omega)
          rw [er] at hmb
          have ER := Lib.hid er
          clear er
          go_upto_region 10 with (go_at_call 40; ((with_reducible refine HWK.out.mono ?_); rintro e6 w6 ⟨vt, fm, T, e10, hs6, hk6, hf6, hn6⟩; rw [HE1.out] at e10; subst e10; have HS6 := Lib.hid hs6; have HK6 := Lib.hid (HKB.out w6 hk6); have HF6 := Lib.hid (hf6 HE1.out); clear hs6 hk6 hf6 hn6))
          obtain ⟨m, H, F, rfl, hmf, hff, hsf⟩ := HF6.out
          have HMF := Lib.hid hmf
          have HFF := Lib.hid hff
          have HSF := Lib.hid hsf
          have hDN : dnM ts H = dnM ts F := by funext i; unfold dnM; rw [isM_same hsf.get]
          have HDN := Lib.hid hDN
          have hw6 : w3.heap.size < w6.heap.size := HS6.out.plt
          have hw63 : w.heap.size < w6.heap.size := by omega
          clear hmf hff hsf hmm hmb HF6 hDN
          have hs7 : (((w6.alloc (.cells (Array.replicate ts.length (Value.bool false)) 4)).alloc (.map #[] 0)).alloc (.cells #[vi 0, vi 0, vi 0, .slice none 0 0, .slice (some ⟨w6.heap.size, 0, none⟩) ts.length ts.length, .map (some (w6.heap.size + 1))] 37)).heap.size = w6.heap.size + 3 := by simp
          have HB7 := Lib.hid (((Below.refl w6.heap.size w6).alloc (Nat.le_refl _) (.cells (Array.replicate ts.length (Value.bool false)) 4)).alloc (by simp) (.map #[] 0) |>.alloc (by simp; omega) (.cells #[vi 0, vi 0, vi 0, .slice none 0 0, .slice (some ⟨w6.heap.size, 0, none⟩) ts.length ts.length, .map (some (w6.heap.size + 1))] 37))
          have HX7 := Lib.hid (show (((w6.alloc (.cells (Array.replicate ts.length (Value.bool false)) 4)).alloc (.map #[] 0)).alloc (.cells #[vi 0, vi 0, vi 0, .slice none 0 0, .slice (some ⟨w6.heap.size, 0, none⟩) ts.length ts.length, .map (some (w6.heap.size + 1))] 37)).heap[w6.heap.size + 2]? = some (.cells #[vi 0, vi 0, vi 0, .slice none 0 0, .slice (some ⟨w6.heap.size, 0, none⟩) ts.length ts.length, .map (some (w6.heap.size + 1))] 37) from by
            have := alloc_at ((w6.alloc (.cells (Array.replicate ts.length (Value.bool false)) 4)).alloc (.map #[] 0)) (.cells #[vi 0, vi 0, vi 0, .slice none 0 0, .slice (some ⟨w6.heap.size, 0, none⟩) ts.length ts.length, .map (some (w6.heap.size + 1))] 37)
            simpa using this)
          have HD7 := Lib.hid (show BoolB (((w6.alloc (.cells (Array.replicate ts.length (Value.bool false)) 4)).alloc (.map #[] 0)).alloc (.cells #[vi 0, vi 0, vi 0, .slice none 0 0, .slice (some ⟨w6.heap.size, 0, none⟩) ts.length ts.length, .map (some (w6.heap.size + 1))] 37)) w6.heap.size (dnTo (dnM ts F) ts.length 0) from by
            unfold BoolB
            rw [dnTo_zero, ER.out, Below.heap_alloc _ _ _ (by simp; omega), Below.heap_alloc _ _ _ (by simp)]
            exact alloc_at _ _)
          have HM7 := Lib.hid (show MapO (((w6.alloc (.cells (Array.replicate ts.length (Value.bool false)) 4)).alloc (.map #[] 0)).alloc (.cells #[vi 0, vi 0, vi 0, .slice none 0 0, .slice (some ⟨w6.heap.size, 0, none⟩) ts.length ts.length, .map (some (w6.heap.size + 1))] 37)) (w6.heap.size + 1) [] from by
            have h := MapT.made (P := Tryz.prog) (k := 3) (eK := vi) (eV := fun x : Value × List Int => x.1) (w6.alloc (.cells (Array.replicate ts.length (Value.bool false)) 4))
            have e : (w6.alloc (.cells (Array.replicate ts.length (Value.bool false)) 4)).heap.size = w6.heap.size + 1 := by simp
            rw [e] at h
            exact h.frame (Below.heap_alloc _ _ _ (by simp)))
          generalize ((w6.alloc (.cells (Array.replicate ts.length (Value.bool false)) 4)).alloc (.map #[] 0)).alloc (.cells #[vi 0, vi 0, vi 0, .slice none 0 0, .slice (some ⟨w6.heap.size, 0, none⟩) ts.length ts.length, .map (some (w6.heap.size + 1))] 37) = w7 at *
          go_upto_region 11 with fail
          go_loopw [60] (fun i wr => ∃ k : Nat, k ≤ ts.length ∧ i = .int .i64 k ∧ Hid (BoolB wr w6.heap.size (dnTo (dnM ts F) ts.length k) ∧ Below w6.heap.size w6 wr ∧ MapO wr (w6.heap.size + 1) [] ∧ wr.heap[w6.heap.size + 2]? = some (.cells #[vi 0, vi 0, vi 0, .slice none 0 0, .slice (some ⟨w6.heap.size, 0, none⟩) ts.length ts.length, .map (some (w6.heap.size + 1))] 37))) (fun i _ => ts.length - (intOf i).toNat)
          case atStart => exact ⟨0, Nat.zero_le _, rfl, Lib.hid ⟨HD7.out, HB7.out, HM7.out, HX7.out⟩⟩
          case round =>
            obtain ⟨wk, rfl⟩ : ∃ wk : World, wk = wr := ⟨_, rfl⟩
            obtain ⟨k, hk, rfl, HJ⟩ := hrel
            have HBk := Lib.hid HJ.out.2.1
            have hwk : w6.heap.size + 2 < wk.heap.size := (Array.getElem?_eq_some_iff.1 HJ.out.2.2.2).1
            have HSk := Lib.hid (show wk.heap[w3.heap.size]? = _ from (HBk.out.block w3.heap.size hw6).trans HS6.out.box)
            by_cases hlt : k < ts.length
            · have k1 : decide ((k : Int) < ts.length) = true := decide_eq_true (by omega)
              have k2 : (k : Int) < ts.length := by omega
              have k3 : (0 : Int) ≤ (k : Int) := by omega
              have hwk1 : IntKind.i64.wrap ((k : Int) + 1) = (k : Int) + 1 := IntWalk.i64_in _ (by omega)
              have hdl : (dnTo (dnM ts F) ts.length k).length = ts.length := by unfold dnTo; simp
              obtain ⟨x, hx⟩ := some_at (l := dnTo (dnM ts F) ts.length k) (k := k) (by rw [hdl]; exact hlt)
              have HXX := Lib.hid hx
              clear hx hdl
              have HRd := Lib.hid (show RdTxns wk.drew (.slice a2 ts.length c2) ts from (HR3.out.later (((HK6.out.2.2).trans (HBk.out.mono (show w3.heap.size ≤ w6.heap.size by omega))).drew)))
              have HFd := Lib.hid (show FaV wk.drew (.map (some m)) H from FaV.of ((HMF.out.below HBk.out HMF.out.lt).frame rfl))
              go_upto_region 13 with fail
              have d4 : wk.drew.cell? ⟨w6.heap.size + 2, 4, none⟩ = some (.slice (some ⟨w6.heap.size, 0, none⟩) ts.length ts.length) := by show wk.cell? _ = _; rw [cell_of HJ.out.2.2.2]; rfl
              have f5 : wk.drew.cell? ⟨w3.heap.size, 5, none⟩ = some (.map (some m)) := by show wk.cell? _ = _; rw [cell_of HSk.out]; rfl
              have hne1 : w6.heap.size + 2 ≠ w6.heap.size := by omega
              have hne2 : w3.heap.size ≠ w6.heap.size := by omega
              go_region_held3 (fun w' : World => w'.cell? ⟨w6.heap.size + 2, 4, none⟩ = some (.slice (some ⟨w6.heap.size, 0, none⟩) ts.length ts.length) ∧ w'.cell? ⟨w3.heap.size, 5, none⟩ = some (.map (some m)))
                (first | exact ⟨d4, f5⟩ | exact ⟨d4', f5'⟩ | exact ⟨d4'', f5''⟩)
                (first | (go_at_call 41; refine (Is_callV _ ts _ H k _ HRd.out HOKT.out (by omega) HFd.out hlt).mono ?_; rintro e8 w8 ⟨rfl, hb8⟩; have d4' := cell_later hb8 d4; have f5' := cell_later hb8 f5; have HB8 := Lib.hid (((Below.refl wk.heap.size wk).drew).trans hb8); have HD8 := Lib.hid (HJ.out.1.frame (HB8.out.block _ HJ.out.1.lt)); have c8 := HD8.out.at HXX.out; have z8 := HD8.out.free k; have d4'' := set_far (o' := k) (u := .bool (isM ts H k).1) d4' hne1; have f5'' := set_far (o' := k) (u := .bool (isM ts H k).1) f5' hne2; clear hb8))
              all_goals
                obtain ⟨hD9, hg9⟩ := HD8.out.set k (dnM ts F k)
                rw [dnTo_set] at hD9
                have hmm9 : (isM ts H k).1 = dnM ts F k := by rw [← HDN.out]; rfl
                have HZ := Lib.hid (show BoolB (w8.setCell ⟨w6.heap.size, k, none⟩ (.bool (isM ts H k).1)) w6.heap.size (dnTo (dnM ts F) ts.length (k + 1)) ∧ Below w6.heap.size w6 (w8.setCell ⟨w6.heap.size, k, none⟩ (.bool (isM ts H k).1)) ∧ MapO (w8.setCell ⟨w6.heap.size, k, none⟩ (.bool (isM ts H k).1)) (w6.heap.size + 1) [] ∧ (w8.setCell ⟨w6.heap.size, k, none⟩ (.bool (isM ts H k).1)).heap[w6.heap.size + 2]? = some (.cells #[vi 0, vi 0, vi 0, .slice none 0 0, .slice (some ⟨w6.heap.size, 0, none⟩) ts.length ts.length, .map (some (w6.heap.size + 1))] 37) from by
                  rw [hmm9]
                  refine ⟨hD9, (HBk.out.trans (HB8.out.mono (by omega))).grown hg9 (HBk.out.trans (HB8.out.mono (by omega))).size (fun j hj => by cases hj; omega), ?_, ?_⟩
                  · exact (HJ.out.2.2.1.below HB8.out HJ.out.2.2.1.lt).kept hg9 (by simp)
                  · exact (hg9.block _ (by have := HB8.out.size; omega) (by simp)).trans ((HB8.out.block _ hwk).trans HJ.out.2.2.2))
                clear hD9 hg9 hmm9
                go_wp2_with fail
                exact ⟨⟨k + 1, by omega, by go_num, HZ⟩, by simp only [intOf]; omega⟩
            · have k1 : decide ((k : Int) < ts.length) = false := decide_eq_false (by omega)
              have HD := Lib.hid (show BoolB wk w6.heap.size ((List.range ts.length).map (dnM ts F)) from by
                have h := HJ.out.1
                have hke : k = ts.length := by omega
                rw [hke, dnTo_all] at h
                exact h)
              go_upto_region 16 with fail
              have hwr := congrFun (wrl_same (ts := ts) HSF.out.get)
              have HWR := Lib.hid hwr
              clear hwr
              go_loopw [78] (fun i wr => ∃ (key : Nat) (O : OrdL), key ≤ 16 ∧ i = .int .i64 key ∧ Hid (MapO wr (w6.heap.size + 1) O ∧ OrdC ts F key w6.heap.size O wr ∧ BoolB wr w6.heap.size ((List.range ts.length).map (dnM ts F)) ∧ Below w6.heap.size w6 wr ∧ wr.heap[w6.heap.size + 2]? = some (.cells #[vi 0, vi 0, vi 0, .slice none 0 0, .slice (some ⟨w6.heap.size, 0, none⟩) ts.length ts.length, .map (some (w6.heap.size + 1))] 37))) (fun i _ => 16 - (intOf i).toNat)
              case atStart => exact ⟨0, [], Nat.zero_le _, rfl, Lib.hid ⟨HJ.out.2.2.1, OrdC.nil _ _ _ _, HD.out, HBk.out, HJ.out.2.2.2⟩⟩
              case round =>
                obtain ⟨wq, rfl⟩ : ∃ wq : World, wq = wr := ⟨_, rfl⟩
                obtain ⟨key, O, hkey, rfl, HQ⟩ := hrel
                have HBq := Lib.hid HQ.out.2.2.2.1
                have hwq : w6.heap.size + 2 < wq.heap.size := (Array.getElem?_eq_some_iff.1 HQ.out.2.2.2.2).1
                have HSq := Lib.hid (show wq.heap[w3.heap.size]? = _ from (HBq.out.block w3.heap.size hw6).trans HS6.out.box)
                by_cases hk16 : key < 16
                · have q1 : decide ((key : Int) < 16) = true := decide_eq_true (by omega)
                  have q2 : (key : Int) < 16 := by omega
                  have q3 : (0 : Int) ≤ (key : Int) := by omega
                  have hwk1 : IntKind.i64.wrap ((key : Int) + 1) = (key : Int) + 1 := IntWalk.i64_in _ (by omega)
                  have HRq := Lib.hid (show RdTxns wq (.slice a2 ts.length c2) ts from (HR3.out.later ((HK6.out.2.2).trans (HBq.out.mono (show w3.heap.size ≤ w6.heap.size by omega)))))
                  have HMq := Lib.hid (HMF.out.below HBq.out HMF.out.lt)
                  have f5 : wq.cell? ⟨w3.heap.size, 5, none⟩ = some (.map (some m)) := by rw [cell_of HSq.out]; rfl
                  have d5 : wq.cell? ⟨w6.heap.size + 2, 5, none⟩ = some (.map (some (w6.heap.size + 1))) := by rw [cell_of HQ.out.2.2.2.2]; rfl
                  go_upto_region 19 with (go_at_call 42; refine (chain_call _ ts m H key wq HRq.out HOKT.out (by omega) HMq.out (by unfold i64; omega)).mono ?_; rintro e8 w8 ⟨v8, E, rfl, ho8, hb8, hyes8, hno8⟩; have HO8 := Lib.hid ho8; have HB8 := Lib.hid hb8; have HY8 := Lib.hid hyes8; have HN8 := Lib.hid hno8; clear ho8 hb8 hyes8 hno8)
                  have hyy : onceB H (key : Int) (wrl ts H key) = onceB F (key : Int) (wrl ts F key) := by rw [← HWR.out key, onceB_same HSF.out.get]
                  have HY9 := Lib.hid (show onceB F (key : Int) (wrl ts F key) = true → (wrl ts F key).Perm E ∧ E.Pairwise (fun x y => aheadOf F key x y = true) from fun h => by
                    obtain ⟨h1, h2⟩ := HY8.out (by rw [hyy]; exact h)
                    rw [← HWR.out key] at h1
                    rw [← aheadOf_same HSF.out.get] at h2
                    exact ⟨h1, h2⟩)
                  have HN9 := Lib.hid (show onceB F (key : Int) (wrl ts F key) = false → E = [] from fun h => HN8.out (by rw [hyy]; exact h))
                  obtain ⟨a8, c8, rfl⟩ := Gr.own_shape HO8.out
                  have HX8 := Lib.hid ((HB8.out.block _ hwq).trans HQ.out.2.2.2.2)
                  have HM8 := Lib.hid (HQ.out.1.below HB8.out HQ.out.1.lt)
                  have HC8 := Lib.hid (HQ.out.2.1.frame (W' := w8) (fun v E ho => own_below ho HB8.out))
                  have HD8 := Lib.hid (HQ.out.2.2.1.frame (HB8.out.block _ HQ.out.2.2.1.lt))
                  have HB9 := Lib.hid (HBq.out.trans (HB8.out.mono (by omega)))
                  clear hyy f5 d5 HY8 HN8
                  have d5 : w8.cell? ⟨w6.heap.size + 2, 5, none⟩ = some (.map (some (w6.heap.size + 1))) := by rw [cell_of HX8.out]; rfl
                  by_cases hE : E = []
                  · subst hE
                    have HC9 := Lib.hid (show OrdC ts F (key + 1) w6.heap.size O w8 from ⟨fun k hk => by
                      rcases Nat.lt_or_ge k key with h | h
                      · exact HC8.out.at_ k h
                      · obtain rfl : k = key := by omega
                        exact ⟨[], HY9.out, fun _ => rfl, fun _ => HC8.out.off _ (fun j hj e => by omega), fun h => absurd rfl h⟩, fun x hx => HC8.out.off x (fun j hj => hx j (by omega))⟩)
                    go_wp2_with fail
                    exact ⟨⟨key + 1, O, by omega, by go_num, Lib.hid ⟨HM8.out, HC9.out, HD8.out, HB9.out, HX8.out⟩⟩, by simp only [intOf]; omega⟩
                  · have hEl : (0 : Int) < (E.length : Int) := by have := List.length_pos_iff.2 hE; omega
                    have HEN := Lib.hid hE
                    clear hE
                    go_wp2_with (at_mapUpdate; refine wpList_mapUpdate_T (b := w6.heap.size + 1) (eK := vi) (eV := fun x : Value × List Int => x.1) rfl _ _ _ rfl intKeyed vi_inj Tryz.underlying35 HM8.out rfl (key : Int) (intKey (by unfold i64; omega)) rfl ((.slice a8 E.length c8, E) : Value × List Int) rfl ?_; intro w9 hM9 hg9)
                    obtain ⟨esm, cm, hom⟩ := map_is HM8.out
                    refine ⟨⟨key + 1, putM O (key : Int) (.slice a8 E.length c8, E), by omega, by go_num, Lib.hid ⟨hM9, ⟨fun k hk => ?_, fun x hx => ?_⟩, HD8.out.frame (hg9.block _ HD8.out.lt (by simp)), HB9.out.grown hg9 HB9.out.size (fun j hj => by cases hj; omega), (hg9.block _ (by have := HB8.out.size; omega) (by simp)).trans HX8.out⟩⟩, by simp only [intOf]; omega⟩
                    · rcases Nat.lt_or_ge k key with h | h
                      · obtain ⟨E', h1, h2, h3, h4⟩ := HC8.out.at_ k h
                        have hne : ¬ ((key : Int) = (k : Int)) := by omega
                        refine ⟨E', h1, h2, fun h5 => by rw [getM_put, if_neg hne]; exact h3 h5, fun h5 => ?_⟩
                        obtain ⟨v', h6, h7⟩ := h4 h5
                        exact ⟨v', by rw [getM_put, if_neg hne]; exact h6, own_map h7 hom hg9⟩
                      · obtain rfl : k = key := by omega
                        exact ⟨E, HY9.out, HN9.out, fun h5 => absurd h5 HEN.out, fun _ => ⟨_, by rw [getM_put, if_pos rfl], own_mono (own_map HO8.out hom hg9) (by omega)⟩⟩
                    · have hne : ¬ ((key : Int) = x) := fun e => hx key (by omega) e.symm
                      rw [getM_put, if_neg hne]
                      exact HC8.out.off x (fun j hj => hx j (by omega))
                · have q1 : decide ((key : Int) < 16) = false := decide_eq_false (by omega)
                  obtain rfl : key = 16 := by omega
                  have b3 : wq.cell? ⟨w3.heap.size, 3, none⟩ = some (vi (endS (tree0 ts level) 0 B)) := by rw [cell_of HSq.out]; rfl
                  have HXq := Lib.hid ((HBq.out.block w.heap.size hw63).trans HK6.out.2.1)
                  have z2 := fun j => free_of HXq.out j
                  have y2 := fun j => cell_of HXq.out j
                  have d0 := fun j => cell_of HQ.out.2.2.2.2 j
                  have HBf := Lib.hid (HK6.out.1.trans (HBq.out.mono (by omega)))
                  go_upto_region 22 with fail
                  go_still_tail 6, (by kernel_rfl)
                  change wpList _ _ _ _ _ wq.drew
                  go_wp2_with fail
                  refine bodyPost_ret (v := verdV 1 (endS (tree0 ts level) 0 B) (0, 0, 0) (.slice none 0 0) (.slice (some ⟨w6.heap.size, 0, none⟩) ts.length ts.length) (.map (some (w6.heap.size + 1)))) (by simp [results, Tryz.results18, go_sem, verdV, y2]) rfl ?_
                  have hpp := pass_put (N := w.heap.size) (ts := ts) (F := F) (db := w6.heap.size) (om := w6.heap.size + 1) (O := O) (dn := (List.range ts.length).map (dnM ts F)) ⟨HQ.out.2.2.1, HQ.out.1, ⟨fun k hk => by
                    obtain ⟨E', h1, h2, h3, h4⟩ := HQ.out.2.1.at_ k hk
                    exact ⟨E', h1, h2, h3, fun h5 => by obtain ⟨v', h6, h7⟩ := h4 h5; exact ⟨v', h6, own_mono h7 (by omega)⟩⟩, HQ.out.2.1.off⟩⟩ HXq.out (vi 1) (vi (endS (tree0 ts level) 0 B)) (vi 0) (vi 0) (vi 0) (.slice none 0 0) (.slice (some ⟨w6.heap.size, 0, none⟩) ts.length ts.length) (.map (some (w6.heap.size + 1)))
                  exact ⟨_, _, _, _, _, _, rfl, .pass ts F w6.heap.size (w6.heap.size + 1) O HTS.out HLV.out HFL.out HE1.out HFF.out hpp.1 hpp.2.1 hpp.2.2, below_put HBf.out (Nat.le_refl _) _ _ _ _ _ _ _ _ HBf.out.size⟩
        | false =>
          have HE1 := Lib.hid h1
          clear h1
          cases h2 : endO (tree0 ts level) 0 B with
          | true =>
            have HE2 := Lib.hid h2
            clear h2
            go_upto_region 24 with (go_at_call 40; ((with_reducible refine HWK.out.mono ?_); rintro e6 w6 ⟨vt, fm, T, e10, hs6, hk6, hf6, hn6⟩; rw [HE1.out] at e10; subst e10; rw [HE2.out] at hs6; have HS6 := Lib.hid hs6; have HK6 := Lib.hid (HKB.out w6 hk6); have b6 : w6.cell? ⟨w3.heap.size, 6, none⟩ = some (.bool true) := (by rw [cell_of HS6.out.box]; rfl); have b3 : w6.cell? ⟨w3.heap.size, 3, none⟩ = some (vi (endS (tree0 ts level) 0 B)) := (by rw [cell_of HS6.out.box]; rfl); clear hs6 hk6 hf6 hn6))
            have z2 := fun j => free_of HK6.out.2.1 j
            have y2 := fun j => cell_of HK6.out.2.1 j
            go_wp2_with fail
            refine bodyPost_ret (v := verdV 3 (endS (tree0 ts level) 0 B) (0, 0, 0) (.slice none 0 0) (.slice none 0 0) (.map none)) (by simp [results, Tryz.results18, go_sem, verdV, y2]) rfl ⟨_, _, _, _, _, _, rfl, .over ts HTS.out HLV.out HFL.out HE2.out, ?_⟩
            exact HK6.out.1.grown (grown8 _ _ _ _ _ _ _ _ _ _) HK6.out.1.size (fun j hj => by cases hj; exact Nat.le_refl _)
          | false =>
            have HE2 := Lib.hid h2
            clear h2
            go_upto_region 25 with (go_at_call 40; ((with_reducible refine HWK.out.mono ?_); rintro e6 w6 ⟨vt, fm, T, e10, hs6, hk6, hf6, hn6⟩; rw [HE1.out] at e10; subst e10; rw [HE2.out] at hs6; have HS6 := Lib.hid hs6; have HK6 := Lib.hid (HKB.out w6 hk6); have HN6 := Lib.hid (hn6 HE1.out HE2.out); have b6 : w6.cell? ⟨w3.heap.size, 6, none⟩ = some (.bool false) := (by rw [cell_of HS6.out.box]; rfl); clear hs6 hk6 hf6 hn6))
            obtain ⟨at', ct, rfl⟩ := Gr.own_shape HS6.out.row
            have b3 : w6.cell? ⟨w3.heap.size, 3, none⟩ = some (vi (endS (tree0 ts level) 0 B)) := by rw [cell_of HS6.out.box]; rfl
            have b4 : w6.cell? ⟨w3.heap.size, 4, none⟩ = some (.slice at' ([] ++ T).length ct) := by rw [cell_of HS6.out.box]; rfl
            have z2 := fun j => free_of HK6.out.2.1 j
            have y2 := fun j => cell_of HK6.out.2.1 j
            go_still_tail 10, (by kernel_rfl)
            change wpList _ _ _ _ _ w6.drew
            go_wp2_with fail
            have HTR := Lib.hid (show TreeV w.heap.size w6 (.slice at' ([] ++ T).length ct) (T.map (·.2)) from ⟨[] ++ T, rfl, own_mono HS6.out.row (by omega), fun q hq => own_mono (HS6.out.cyc q hq) (by omega)⟩)
            refine bodyPost_ret (v := verdV 2 (endS (tree0 ts level) 0 B) (0, 0, 0) (.slice at' ([] ++ T).length ct) (.slice none 0 0) (.map none)) (by simp [results, Tryz.results18, go_sem, verdV, y2]) rfl ⟨_, _, _, _, _, _, rfl, .fail ts (T.map (·.2)) _ HTS.out HLV.out HFL.out HE1.out HE2.out HN6.out ?_, ?_⟩
            · exact tree_put HTR.out HK6.out.2.1 _ _ _ _ _ _ _ _
            · exact below_put HK6.out.1 (Nat.le_refl _) _ _ _ _ _ _ _ _ HK6.out.1.size
end Go.Proofs.YtnacoplokjdglaaGreat

namespace Go.Proofs.YtnacoplokjdglaaGreat
open Go.RowKit Go.Maps
section
variable {ts : List GTxn} {level B : Int} {N : Nat} {W : World} {k s : Int} {f : Int × Int × Int} {tr dn od : Value}
theorem CkR.not_one {h : Option (List GTxn)} (hk : CkR h level B N W k s f tr dn od) (hn : h = none ∨ ¬ (level = 1 ∨ level = 2)) : k = 0 ∧ s = 0 ∧ f = (0, 0, 0) ∧ tr = .slice none 0 0 ∧ dn = .slice none 0 0 ∧ od = .map none := by
  cases hk with
  | no _ => exact ⟨rfl, rfl, rfl, rfl, rfl, rfl⟩
  | flaw ts f l h1 h2 _ => rcases hn with hn | hn; · rw [hn] at h1; cases h1
                           · exact absurd h2 hn
  | pass ts F db om O h1 h2 => rcases hn with hn | hn; · rw [hn] at h1; cases h1
                               · exact absurd h2 hn
  | over ts h1 h2 => rcases hn with hn | hn; · rw [hn] at h1; cases h1
                     · exact absurd h2 hn
  | fail ts l tr h1 h2 => rcases hn with hn | hn; · rw [hn] at h1; cases h1
                          · exact absurd h2 hn
theorem CkR.flawed (hk : CkR (some ts) level B N W k s f tr dn od) (hl : level = 1 ∨ level = 2) {f' : Int × Int × Int} {l : List (Int × Int × Int)} (hf : flawsM ts = f' :: l) : k = 2 ∧ s = 0 ∧ f = f' ∧ tr = .slice none 0 0 ∧ dn = .slice none 0 0 ∧ od = .map none := by
  cases hk with
  | no h => rcases h with h | h; · cases h
            · exact absurd hl h
  | flaw ts' f l h1 h2 h3 => cases h1; rw [hf] at h3; cases h3; exact ⟨rfl, rfl, rfl, rfl, rfl, rfl⟩
  | pass ts' F db om O h1 h2 h3 => cases h1; rw [hf] at h3; cases h3
  | over ts' h1 h2 h3 => cases h1; rw [hf] at h3; cases h3
  | fail ts' l tr h1 h2 h3 => cases h1; rw [hf] at h3; cases h3
theorem end_bo {t : WT} {s B : Int} (h : endO t s B = true) : endB t s B = false := by
  unfold endO at h
  unfold endB
  rw [decide_eq_true_eq] at h
  rw [decide_eq_false (by omega)]; rfl
theorem CkR.passed (hk : CkR (some ts) level B N W k s f tr dn od) (hl : level = 1 ∨ level = 2) (hf : flawsM ts = []) (hb : endB (tree0 ts level) 0 B = true) :
    k = 1 ∧ s = endS (tree0 ts level) 0 B ∧ f = (0, 0, 0) ∧ tr = .slice none 0 0 ∧ ∃ (F : FaL) (db om : Nat) (O : OrdL), (tree0 ts level).found = some F ∧ BoolB W db ((List.range ts.length).map (dnM ts F)) ∧ MapO W om O ∧ OrdC ts F 16 N O W ∧ dn = .slice (some ⟨db, 0, none⟩) ts.length ts.length ∧ od = .map (some om) := by
  cases hk with
  | no h => rcases h with h | h; · cases h
            · exact absurd hl h
  | flaw ts' f l h1 h2 h3 => cases h1; rw [hf] at h3; cases h3
  | pass ts' F db om O h1 h2 h3 h4 h5 h6 h7 h8 => cases h1; exact ⟨rfl, rfl, rfl, rfl, F, db, om, O, h5, h6, h7, h8, rfl, rfl⟩
  | over ts' h1 h2 h3 h4 => cases h1; rw [end_bo h4] at hb; cases hb
  | fail ts' l tr h1 h2 h3 h4 => cases h1; rw [h4] at hb; cases hb
theorem CkR.overed (hk : CkR (some ts) level B N W k s f tr dn od) (hl : level = 1 ∨ level = 2) (hf : flawsM ts = []) (ho : endO (tree0 ts level) 0 B = true) : k = 3 ∧ s = endS (tree0 ts level) 0 B ∧ f = (0, 0, 0) ∧ tr = .slice none 0 0 ∧ dn = .slice none 0 0 ∧ od = .map none := by
  cases hk with
  | no h => rcases h with h | h; · cases h
            · exact absurd hl h
  | flaw ts' f l h1 h2 h3 => cases h1; rw [hf] at h3; cases h3
  | pass ts' F db om O h1 h2 h3 h4 => cases h1; rw [end_bo ho] at h4; cases h4
  | over ts' h1 h2 h3 h4 => cases h1; exact ⟨rfl, rfl, rfl, rfl, rfl, rfl⟩
  | fail ts' l tr h1 h2 h3 h4 h5 => cases h1; rw [h5] at ho; cases ho
theorem CkR.failed (hk : CkR (some ts) level B N W k s f tr dn od) (hl : level = 1 ∨ level = 2) (hf : flawsM ts = []) (hb : endB (tree0 ts level) 0 B = false) (ho : endO (tree0 ts level) 0 B = false) :
    k = 2 ∧ s = endS (tree0 ts level) 0 B ∧ f = (0, 0, 0) ∧ dn = .slice none 0 0 ∧ od = .map none ∧ ∃ l, Nodes ts level (tree0 ts level) l ∧ TreeV N W tr l := by
  cases hk with
  | no h => rcases h with h | h; · cases h
            · exact absurd hl h
  | flaw ts' f l h1 h2 h3 => cases h1; rw [hf] at h3; cases h3
  | pass ts' F db om O h1 h2 h3 h4 => cases h1; rw [hb] at h4; cases h4
  | over ts' h1 h2 h3 h4 => cases h1; rw [h4] at ho; cases ho
  | fail ts' l tr h1 h2 h3 h4 h5 h6 h7 => cases h1; exact ⟨rfl, rfl, rfl, rfl, rfl, l, h6, h7⟩
end
/-! The example. -/
def skA : List GOp := [⟨1, 0, 0⟩, ⟨2, 1, 1⟩]
def skB : List GOp := [⟨1, 1, 0⟩, ⟨2, 0, 2⟩]
def skewEv : List GEvent := [⟨1, 1, skA⟩, ⟨1, 2, skB⟩, ⟨2, 1, skA⟩, ⟨2, 2, skB⟩]
theorem skA_op (k : Int) : ∀ o ∈ skA, RightOp k o := by
  intro o ho
  simp [skA] at ho
  rcases ho with rfl | rfl <;> exact ⟨⟨by decide, by decide, by decide, by decide, by decide⟩, by decide, fun _ _ => by first | rfl | contradiction⟩
theorem skB_op (k : Int) : ∀ o ∈ skB, RightOp k o := by
  intro o ho
  simp [skB] at ho
  rcases ho with rfl | rfl <;> exact ⟨⟨by decide, by decide, by decide, by decide, by decide⟩, by decide, fun _ _ => by first | rfl | contradiction⟩
theorem skew_right {k c : Int} {l : List GOp} (hk : k = 1 ∨ k = 2) (hc : c = 1 ∨ c = 2) (hl : l = skA ∨ l = skB) : RightEv ⟨k, c, l⟩ := by
  have ho : ∀ o ∈ l, RightOp k o := by rcases hl with rfl | rfl; exact skA_op k; exact skB_op k
  refine ⟨⟨by show 1 ≤ k; omega, by show k ≤ 4; omega, by show 1 ≤ c; omega, by show c ≤ 16; omega, ?_, fun o h => (ho o h).good⟩, fun _ => ?_, ho⟩
  · show l.length ≤ 12; rcases hl with rfl | rfl <;> decide
  · rcases hl with rfl | rfl <;> simp [skA, skB]
theorem skew_ans {l : List GOp} (hl : l = skA ∨ l = skB) : AnsOK l l := by
  refine ⟨rfl, shapeN_refl _ _, fun i o v hi ho h2 hv => ?_⟩
  match i with
  | 0 => simp [lstW] at hv
  | 1 =>
    rcases hl with rfl | rfl <;> (simp [skA, skB] at ho; subst ho; exact absurd rfl h2)
  | i + 2 => rcases hl with rfl | rfl <;> (simp [skA, skB] at hi; omega)
theorem skew_hist : histH skewEv = some skewT := by
  have s1 : stepH hst0 ⟨1, 1, skA⟩ = some ⟨[⟨1, 0, skA⟩], [(1, 0)], [(1, true)]⟩ := by
    rw [stepH_new (skew_right (.inl rfl) (.inl rfl) (.inl rfl)) rfl rfl]; rfl
  have s2 : stepH ⟨[⟨1, 0, skA⟩], [(1, 0)], [(1, true)]⟩ ⟨1, 2, skB⟩ = some ⟨[⟨1, 0, skA⟩, ⟨2, 0, skB⟩], [(1, 0), (2, 1)], [(1, true), (2, true)]⟩ := by
    rw [stepH_new (skew_right (.inl rfl) (.inr rfl) (.inr rfl)) (by decide) rfl]; rfl
  have s3 : stepH ⟨[⟨1, 0, skA⟩, ⟨2, 0, skB⟩], [(1, 0), (2, 1)], [(1, true), (2, true)]⟩ ⟨2, 1, skA⟩ = some ⟨[⟨1, 1, skA⟩, ⟨2, 0, skB⟩], [(2, 1)], [(1, true), (2, true)]⟩ := by
    rw [stepH_end (k := 0) (t := ⟨1, 0, skA⟩) (skew_right (.inr rfl) (.inl rfl) (.inl rfl)) (by decide) (by decide) rfl (by unfold EndOK; rw [if_pos rfl]; exact skew_ans (.inl rfl))]; rfl
  have s4 : stepH ⟨[⟨1, 1, skA⟩, ⟨2, 0, skB⟩], [(2, 1)], [(1, true), (2, true)]⟩ ⟨2, 2, skB⟩ = some ⟨[⟨1, 1, skA⟩, ⟨2, 1, skB⟩], [], [(1, true), (2, true)]⟩ := by
    rw [stepH_end (k := 1) (t := ⟨2, 0, skB⟩) (skew_right (.inr rfl) (.inr rfl) (.inr rfl)) (by decide) (by decide) rfl (by unfold EndOK; rw [if_pos rfl]; exact skew_ans (.inr rfl))]; rfl
  unfold histH skewEv
  simp only [runH, s1, s2, s3, s4, Option.bind_some, Option.map_some]
  rfl
theorem skew_flaws : flawsM skewT = [] := by decide
end Go.Proofs.YtnacoplokjdglaaGreat

namespace Go.Proofs.YtnacoplokjdglaaGreat
open Go.RowKit Go.Maps

theorem sure_alive {ts : List GTxn} (hu : Uniq ts) {i : Nat} (h : (sureM ts)[i]?.getD false = true) : stOf ts i ≠ 2 := by
  intro h2
  by_cases hi : i < ts.length
  · unfold sureM at h
    rw [sureN_at hu i hi _ (Nat.le_refl _), h2] at h
    simp only [show ((2 : Int) == 1) = false from rfl, Bool.and_false, Bool.false_or, List.any_eq_true] at h
    obtain ⟨t, _, h3⟩ := h
    unfold hitT at h3
    simp only [List.any_eq_true] at h3
    obtain ⟨o, _, h4⟩ := h3
    unfold hitS at h4
    rw [show ((2 : Int) == 0) = false from rfl] at h4
    simp at h4
  · rw [List.getElem?_eq_none (by rw [sureM_length]; omega)] at h
    cases h
theorem is_alive {ts : List GTxn} (hu : Uniq ts) {F : FaL} {i : Nat} (h : (isM ts F i).1 = true) : stOf ts i ≠ 2 := by
  unfold isM at h
  split at h
  · rename_i h1; exact sure_alive hu h1
  · split at h
    · cases h
    · rename_i h1
      intro h2
      apply h1
      unfold deadB
      rw [h2]; rfl
theorem FixF.alive {ts : List GTxn} {dn : List Bool} {O : OrdL} {F : FaL} (hu : Uniq ts) (h : FixF ts dn O F) {key : Nat} (hk : key < 16) {x : Int} (hx : x ∈ ordL O key) : ∃ i : Nat, x = i ∧ i < ts.length ∧ wrOf ts i key = true ∧ stOf ts i ≠ 2 := by
  have h1 : x ∈ wantL ts dn key ts.length := by rw [← h.good key hk]; exact (srt_perm _).mem_iff.2 hx
  obtain ⟨i, hi, rfl, h2⟩ := wantL_mem.1 h1
  rw [Bool.and_eq_true] at h2
  exact ⟨i, rfl, hi, h2.2, is_alive hu ((h.fits i hi).trans h2.1)⟩
theorem befK_in {ts : List GTxn} {key a b : Nat} (hk : key < 16) (hab : a < b) (hb : b < ts.length) (h : condB ts key a b = true) : (⟨2, key, a, b⟩ : GChoice) ∈ choicesM ts := by
  unfold choicesM
  refine List.mem_append_right _ ?_
  unfold befK
  refine List.mem_flatMap.2 ⟨key, List.mem_range.2 hk, ?_⟩
  unfold befB
  refine List.mem_flatMap.2 ⟨b, List.mem_range.2 hb, ?_⟩
  unfold befA
  exact List.mem_filterMap.2 ⟨a, List.mem_range.2 hab, by rw [if_pos h]⟩
theorem get_mem {F : FaL} {p : GChoice × Bool} (hp : p ∈ F) (hn : F.Pairwise (fun p q => p.1 ≠ q.1)) : getM F p.1 = some p.2 := by
  induction F with
  | nil => cases hp
  | cons q F ih =>
    rw [getM_cons]
    rcases List.mem_cons.1 hp with h | h
    · subst h; rw [if_pos rfl]
    · rw [if_neg ((List.pairwise_cons.1 hn).1 p h)]
      exact ih h (List.pairwise_cons.1 hn).2
theorem FixF.faOk {ts : List GTxn} {dn : List Bool} {O : OrdL} {F : FaL} (hu : Uniq ts) (h : FixF ts dn O F) (hn : F.Pairwise (fun p q => p.1 ≠ q.1)) : FaOk ts F := by
  refine ⟨fun p hp => ?_, by rw [List.nodup_iff_pairwise_ne, List.pairwise_map]; exact hn⟩
  have hg := get_mem hp hn
  by_cases hk : p.1.kind = 1
  · rw [h.one _ hk] at hg
    split at hg
    · assumption
    · cases hg
  · obtain ⟨key, h1, x, y, hx, hy, hxy, he⟩ := h.nox _ _ hk hg
    obtain ⟨i, rfl, hi, wi, si⟩ := h.alive hu h1 hx
    obtain ⟨j, rfl, hj, wj, sj⟩ := h.alive hu h1 hy
    rw [he]
    have hij : i ≠ j := fun e => hxy (by rw [e])
    have c : ∀ {a b : Nat}, wrOf ts a key = true → stOf ts a ≠ 2 → wrOf ts b key = true → stOf ts b ≠ 2 → condB ts key a b = true := fun wa sa wb sb => by
      unfold condB
      rw [wa, wb, bne_iff_ne.2 sa, bne_iff_ne.2 sb]; rfl
    rcases Nat.lt_or_gt_of_ne hij with h2 | h2
    · rw [show min (i : Int) j = i by omega, show max (i : Int) j = j by omega]
      exact befK_in h1 h2 hj (c wi si wj sj)
    · rw [show min (i : Int) j = j by omega, show max (i : Int) j = i by omega]
      exact befK_in h1 h2 hi (c wj sj wi si)
/-- A Pass is shown. -/
def passB (ts : List GTxn) (level : Int) (dn : List Bool) (O : OrdL) : Prop := ∃ F, FixF ts dn O F ∧ F.Pairwise (fun p q => p.1 ≠ q.1) ∧ flawsM ts = [] ∧ ¬ Brk ts F level
theorem passB_of {ts : List GTxn} {level : Int} {dn : List Bool} {O : OrdL} {F : FaL} (h : FixF ts dn O F) (hn : F.Pairwise (fun p q => p.1 ≠ q.1)) (hf : flawsM ts = []) : passB ts level dn O ↔ ¬ Brk ts F level :=
  ⟨fun ⟨_, h1, h2, _, h3⟩ hb => h3 ((brk_same hn h2 (fun c => h.same h1 c)).1 hb), fun hb => ⟨F, h, hn, hf, hb⟩⟩
end Go.Proofs.YtnacoplokjdglaaGreat

namespace Go.Proofs.YtnacoplokjdglaaGreat
open Go.RowKit Go.Maps

def idxN (q : Int → Bool) (l : List Int) : Int := match l.findIdx? q with | some i => (i : Int) | none => -1
theorem idxN_any (q : Int → Bool) (l : List Int) : decide (0 ≤ idxN q l) = l.any q := by
  unfold idxN
  cases h : l.findIdx? q with
  | none =>
    rw [List.findIdx?_eq_none_iff] at h
    simp only [show ¬ ((0 : Int) ≤ -1) from by decide, decide_false]
    symm; rw [List.any_eq_false]; exact fun x hx => by simp [h x hx]
  | some i =>
    have hs : (l.findIdx? q).isSome = true := by rw [h]; rfl
    rw [List.findIdx?_isSome] at hs
    rw [hs]; simp


/-- A row of ints, read. -/
def IntsAt (w : World) (v : Value) (l : List Int) : Prop := ∃ a c, v = .slice a l.length c ∧ l.length ≤ 1000000000 ∧ ∀ (j : Nat) x, l[j]? = some x → ∃ b off, a = some ⟨b, off, none⟩ ∧ w.cell? ⟨b, off + j, none⟩ = some (vi x)
theorem ints_of_own {w : World} {N : Nat} {a : Option Addr} {c : Nat} {l : List Int} (h : w.ownsRow N 3 1 (.slice a l.length c) l.length (l.flatMap viC)) (hl : l.length ≤ 1000000000) : IntsAt w (.slice a l.length c) l :=
  ⟨a, c, rfl, hl, fun j x hj => by
    obtain ⟨g, h1, h2⟩ := row_cell h j x hj
    exact ⟨g, 0, h1, by rw [Nat.zero_add]; exact h2⟩⟩
theorem IntsAt.later {A B : World} {v : Value} {l : List Int} (h : IntsAt A v l) (hb : Below A.heap.size A B) : IntsAt B v l := by
  obtain ⟨a, c, h1, h2, h3⟩ := h
  exact ⟨a, c, h1, h2, fun j x hj => by
    obtain ⟨b, off, h4, h5⟩ := h3 j x hj
    exact ⟨b, off, h4, cell_later hb h5⟩⟩
set_option maxRecDepth 100000 in
theorem indexN_call (v : Value) (l : List Int) (z : Int) (w : World) (hv : IntsAt w v l) :
    Calls Tryz.prog 124 #[v, vi z] w fun e w' => e = .returned (.int .i64 (idxN (fun o => z == o) l)) ∧ Below w.heap.size w w' := by
  have HV := Lib.hid hv
  obtain ⟨a, cap, rfl, hm, -⟩ := HV.out
  clear hv
  go_enter Tryz.func124, Tryz.ntmps124
  go_wp2_with fail
  go_loopw [5, 8] (fun _ i wr => ∃ k : Nat, k ≤ l.length ∧ i = .int .i64 k ∧ (∀ j o, j < k → l[j]? = some o → (z == o) = false) ∧ Below w.heap.size w wr) (fun _ i _ => l.length - (intOf i).toNat)
  case atStart => exact ⟨0, Nat.zero_le _, rfl, fun j o hj => absurd hj (Nat.not_lt_zero _), Below.refl _ _⟩
  case round =>
    obtain ⟨k, hk, rfl, hno, hb⟩ := hrel
    have HB := Lib.hid hb
    have HN := Lib.hid hno
    clear hb hno
    by_cases hlt : k < l.length
    · obtain ⟨o, ho⟩ := some_at hlt
      obtain ⟨_, _, e5, -, hcl⟩ := HV.out
      cases e5
      obtain ⟨b, off, rfl, k0'⟩ := hcl k o ho
      have k0 := cell_later HB.out k0'
      have HO := Lib.hid ho
      clear hcl ho k0'
      cases hh : (z == o) with
      | true =>
        have HH := Lib.hid hh
        go_wp2_with fail
        go_ret
        have : idxN (fun o => z == o) l = k := by
          unfold idxN
          have : l.findIdx? (fun o => z == o) = some k := by
            rw [List.findIdx?_eq_some_iff_getElem]
            have hg := List.getElem?_eq_some_iff.1 HO.out
            refine ⟨hlt, by rw [hg.2]; exact HH.out, fun j hj => ?_⟩
            have := HN.out j l[j] hj (List.getElem?_eq_getElem _)
            simp [this]
          rw [this]
        exact ⟨by rw [this]; rfl, HB.out⟩
      | false =>
        have HH := Lib.hid hh
        go_wp2_with fail
        go_roundw
        case rel =>
          refine ⟨k + 1, by omega, by go_num, ?_, HB.out⟩
          intro j o' hj ho'
          rcases Nat.lt_or_ge j k with h | h
          · exact HN.out j o' h ho'
          · obtain rfl : j = k := by omega
            rw [HO.out] at ho'; cases ho'; exact HH.out
        case measure => simp [intOf]; omega
    · obtain rfl : k = l.length := by omega
      go_wp2_with fail
      go_ret
      have : idxN (fun o => z == o) l = -1 := by
        unfold idxN
        have : l.findIdx? (fun o => z == o) = none := by
          rw [List.findIdx?_eq_none_iff]
          intro x hx
          obtain ⟨j, hj, rfl⟩ := List.mem_iff_getElem.1 hx
          exact HN.out j l[j] hj (List.getElem?_eq_getElem _)
        rw [this]
      exact ⟨by rw [this]; rfl, HB.out⟩

set_option maxRecDepth 100000 in
theorem containsN_call (v : Value) (l : List Int) (z : Int) (w : World) (hv : IntsAt w v l) :
    Calls Tryz.prog 103 #[v, vi z] w fun e w' => e = .returned (.bool (l.any (fun o => z == o))) ∧ Below w.heap.size w w' := by
  go_enter Tryz.func103, Tryz.ntmps103
  go_wp2_with (go_at_call 124; refine (indexN_call v l z w hv).mono ?_; rintro e w1 ⟨rfl, hb1⟩)
  go_ret
  exact ⟨by rw [← idxN_any]; first | rfl | simp, hb1⟩

end Go.Proofs.YtnacoplokjdglaaGreat
