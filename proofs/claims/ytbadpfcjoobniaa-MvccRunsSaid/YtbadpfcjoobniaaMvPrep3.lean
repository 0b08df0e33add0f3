/- (*mvcc.Store).Prepare. -/
import Derived.Test.YtbadpfcjoobniaaMvRead
namespace Go.Proofs.Ytbadpfcjoobniaa
open Go.RowKit Go.Shelf Go.Maps

theorem zero_rdyP (w : World) : (zeroValue 29).run Try.prog w = .ok (.agg #[vi 0, vi 0, vi 0, .slice none 0 0, .slice none 0 0]) w := zero_ready w
def nilR : RV := ⟨.slice none 0 0, .slice none 0 0, ⟨0, 0, 0, [], []⟩⟩
theorem lookup_ready2 {w : World} {mr : Nat} {R : RdyL} (h : MapR w mr R) {txn : Int} (hk : i64 txn) :
    (Instr.lookup 92 (.map (some mr)) (vi txn) true).run Try.prog w = .ok (.tuple #[rdyV ((getM R txn).getD nilR), .bool (getM R txn).isSome]) w := by
  obtain ⟨kl, hkl⟩ := intKey hk
  have h1 := (h.lookup intKeyed vi_inj (t := 92) (e := 29) Try.underlying92 txn hkl (zero_ready w)).2
  have e : ((getM R txn).map rdyV).getD (.agg #[vi 0, vi 0, vi 0, .slice none 0 0, .slice none 0 0]) = rdyV ((getM R txn).getD nilR) := by cases getM R txn <;> rfl
  rw [e] at h1
  exact h1

theorem rdy_slices {base p mk mr me : Nat} {serial : Bool} {bugs : Int} {K : KeysL} {R : RdyL} {E : EndL} {W : World} (h : MvS base p mk mr me serial bugs K R E W) (txn : Int) :
    ∃ (z1 z2 z3 : Int) (a : Option Addr) (n c : Nat) (a' : Option Addr) (n' c' : Nat), rdyV ((getM R txn).getD nilR) = .agg #[vi z1, vi z2, vi z3, .slice a n c, .slice a' n' c'] := by
  cases hg : getM R txn with
  | none => exact ⟨0, 0, 0, none, 0, 0, none, 0, 0, rfl⟩
  | some y =>
    have hy := h.rrow _ (getM_some hg)
    obtain ⟨a, n, c, h1, -⟩ := hy.ws
    obtain ⟨a', n', c', h2, -⟩ := hy.rs
    exact ⟨y.r.txn, y.r.home, y.r.start, a, n, c, a', n', c', by simp [rdyV, rdyC, h1, h2] at *; exact ⟨h1, h2⟩⟩

/-- Is a transaction too late for what it writes, or has read? -/
def lostW (K : KeysL) (bugs : Int) (r : Rdy) : Bool := offB bugs 1 && r.writes.any (fun o => laterB (verOf K o.key) r.start)
def lookP (serial : Bool) (bugs : Int) : Bool := serial && offB bugs 4
def lostR (K : KeysL) (serial : Bool) (bugs : Int) (r : Rdy) : Bool := lookP serial bugs && r.reads.any (fun k => laterB (verOf K k) r.start)
def PrepM (serial : Bool) (bugs : Int) (K : KeysL) (R : RdyL) (E : EndL) (r : Rdy) (by_ err : Int) (R' : RdyL) : Prop :=
  ((getM E r.txn).isSome = true ∧ by_ = 0 ∧ err = 62 ∧ R' = R) ∨
  ((getM E r.txn).isSome = false ∧ (getM R r.txn).isSome = true ∧ by_ = 0 ∧ err = 0 ∧ R' = R) ∨
  ((getM E r.txn).isSome = false ∧ (getM R r.txn).isSome = false ∧ (lostW K bugs r = true ∨ lostR K serial bugs r = true) ∧ by_ = 0 ∧ err = 61 ∧ R' = R) ∨
  ((getM E r.txn).isSome = false ∧ (getM R r.txn).isSome = false ∧ lostW K bugs r = false ∧ lostR K serial bugs r = false ∧
    ∃ id ok, Blk R r.txn (wayB r (lookP serial bugs)) (id, ok) ∧
      ((ok = true ∧ offB bugs 1 = true ∧ by_ = id ∧ err = 60 ∧ R' = R) ∨ ((ok = false ∨ offB bugs 1 = false) ∧ by_ = 0 ∧ err = 0 ∧ ∃ wv rv, R' = putM R r.txn ⟨wv, rv, r⟩)))
def PrepQ (base p mk mr me : Nat) (serial : Bool) (bugs : Int) (K : KeysL) (R : RdyL) (E : EndL) (r : Rdy) (w : World) (e : Ending) (w' : World) : Prop :=
  ∃ by_ err R', e = .returned (.tuple #[vi by_, vi err]) ∧ PrepM serial bugs K R E r by_ err R' ∧ MvS base p mk mr me serial bugs K R' E w' ∧ w.grownBy w' (some mr)

/-- One who waits whose lists lie in memory from base on. -/
def OwnR (base : Nat) (W : World) (y : RV) : Prop := W.ownsRow base 55 3 y.wv y.r.writes.length (y.r.writes.flatMap opV) ∧ W.ownsRow base 3 1 y.rv y.r.reads.length (y.r.reads.flatMap viC)
theorem own_solid {A B : World} {base e size n : Nat} {v : Value} {xs : List Value} (h : A.ownsRow base e size v n xs) (hs : Solid A B) : B.ownsRow base e size v n xs := by
  refine ⟨h.1, ?_⟩
  rcases h.2 with h2 | ⟨g, cap, cur, hv, hg, hh, r⟩
  · exact .inl h2
  · exact .inr ⟨g, cap, cur, hv, hg, hs _ _ _ _ hh, r⟩
/-- .. and those who are new lie in memory of the call's own. -/
def PrepQ2 (base p mk mr me : Nat) (serial : Bool) (bugs : Int) (K : KeysL) (R : RdyL) (E : EndL) (r : Rdy) (w : World) (e : Ending) (w' : World) : Prop :=
  ∃ by_ err R', e = .returned (.tuple #[vi by_, vi err]) ∧ PrepM serial bugs K R E r by_ err R' ∧ MvS base p mk mr me serial bugs K R' E w' ∧ w.grownBy w' (some mr) ∧ ∀ y ∈ R', y ∈ R ∨ OwnR w.heap.size w' y.2
theorem below_any {w w' : World} (h : Below w.heap.size w w') (r : Option Nat) : w.grownBy w' r := ⟨h.os, h.tape, h.output, h.size, fun k hk _ => h.block k hk⟩

theorem grown_after {w A B : World} {r : Option Nat} (h : Below w.heap.size w A) (hg : A.grownBy B r) : w.grownBy B r :=
  ⟨hg.os.trans h.os, hg.tape.trans h.tape, hg.output.trans h.output, Nat.le_trans h.size hg.size, fun k hk hne => (hg.block k (Nat.lt_of_lt_of_le hk h.size) hne).trans (h.block k hk)⟩
theorem mem_putM {κ ν : Type} [DecidableEq κ] {L : List (κ × ν)} {k : κ} {v : ν} {x : κ × ν} (h : x ∈ putM L k v) : x = (k, v) ∨ x ∈ L := by
  unfold putM at h
  split at h
  · obtain ⟨y, hy, rfl⟩ := List.mem_map.1 h
    split
    · exact .inl rfl
    · exact .inr hy
  · rcases List.mem_append.1 h with h | h
    · exact .inr h
    · exact .inl (by simpa using h)
theorem MvS.putR {base p mk mr me : Nat} {serial : Bool} {bugs : Int} {K : KeysL} {R : RdyL} {E : EndL} {A B : World} {txn : Int} {y : RV} (h : MvS base p mk mr me serial bugs K R E A) (hm : MapR B mr (putM R txn y)) (hg : A.grownBy B (some mr)) (hy : RdyS A y) : MvS base p mk mr me serial bugs K (putM R txn y) E B := by
  obtain ⟨es, c, ho⟩ := h.ready.obj
  have hs : Solid A B := (Solid.refl A).map ho hg
  refine ⟨hs _ _ _ _ h.blk, h.keys.kept hg (fun e => h.kr (by cases e; rfl)), hm, h.ends.kept hg (fun e => h.re (by cases e; rfl)), fun x hx => (h.krow x hx).solid hs, fun x hx => ?_, h.bp, h.bk, h.br, h.be, h.kr, h.ke, h.re⟩
  rcases mem_putM hx with rfl | hx
  · exact hy.solid hs
  · exact (h.rrow x hx).solid hs
theorem own_shape {w : World} {base e size n : Nat} {v : Value} {xs : List Value} (h : w.ownsRow base e size v n xs) : ∃ a c, v = .slice a n c := by
  rcases h.2 with ⟨hv, h0⟩ | ⟨g, cap, cur, hv, _⟩
  · exact ⟨none, 0, by rw [hv, h0]⟩
  · exact ⟨_, _, hv⟩
theorem rdy_own {W : World} {v1 v2 : Value} {r : Rdy} {b1 b2 : Nat} (h1 : W.ownsRow b1 55 3 v1 r.writes.length (r.writes.flatMap opV)) (h2 : W.ownsRow b2 3 1 v2 r.reads.length (r.reads.flatMap viC)) (hi : ∀ x ∈ r.reads, i64 x) : RdyS W ⟨v1, v2, r⟩ :=
  ⟨own_rds (enc := opV) (fun _ => rfl) h1 (fun x _ => rfl), own_rds (enc := viC) (fun _ => rfl) h2 (fun x hx => ⟨rfl, hi x hx⟩)⟩
theorem reads_i64 {W : World} {v : Value} {l : List Int} (h : RdInts W v l) : ∀ x ∈ l, i64 x := fun x hx => by
  obtain ⟨a, n, c, -, -, -, h6⟩ := h.at
  obtain ⟨j, hj⟩ := List.mem_iff_getElem?.1 hx
  obtain ⟨b, off, -, -, hi⟩ := h6 j x hj
  exact hi
theorem put_ready {base p mk mr me : Nat} {serial : Bool} {bugs : Int} {K : KeysL} {R : RdyL} {E : EndL} {A B : World} {y : RV} (h : MvS base p mk mr me serial bugs K R E A) (hb : Below A.heap.size A B) (ht : i64 y.r.txn) (hy : RdyS B y) :
    ∃ w', (Instr.mapUpdate 92 (.map (some mr)) (vi y.r.txn) (.agg #[vi y.r.txn, vi y.r.home, vi y.r.start, y.wv, y.rv])).run Try.prog B = .ok () w' ∧ Hid (MvS base p mk mr me serial bugs K (putM R y.r.txn y) E w' ∧ B.grownBy w' (some mr) ∧ Solid B w') := by
  obtain ⟨kl, hkl⟩ := intKey ht
  have hB := h.later hb
  obtain ⟨w', hrun, hm, hg⟩ := hB.ready.update (eV := rdyV) intKeyed vi_inj (t := 92) (e := 29) Try.underlying92 y.r.txn hkl y
  obtain ⟨es, c, ho⟩ := hB.ready.obj
  exact ⟨w', hrun, Lib.hid ⟨hB.putR hm hg hy, hg, (Solid.refl B).map ho hg⟩⟩

set_option maxRecDepth 100000 in
set_option maxHeartbeats 4000000 in
theorem prep_call2 {base p mk mr me : Nat} {serial : Bool} {bugs : Int} {K : KeysL} {R : RdyL} {E : EndL} (x : RV) (w : World) (h : MvS base p mk mr me serial bugs K R E w) (hR : R.length ≤ 1048576) (hx : RdyS w x) (ht : i64 x.r.txn)
    (hok : ∀ o ∈ x.r.writes, i64 o.key) (hlw : x.r.writes.length ≤ 1048576) (hlr : x.r.reads.length ≤ 1048576) :
    Calls Try.prog 12 #[.pointer (some ⟨p, 0, none⟩), rdyV x] w (PrepQ2 base p mk mr me serial bugs K R E x.r w) := by
  obtain ⟨wv, rv, r⟩ := x
  obtain ⟨aw, nw, cw, hwv, rfl, hmw, -⟩ := (show RdOps w wv r.writes from hx.ws).at
  obtain ⟨ar, nr, cr, hrv, rfl, hmr, -⟩ := (show RdInts w rv r.reads from hx.rs).at
  subst hwv hrv
  have HB := Lib.hid ((Below.refl w.heap.size w).alloc (Nat.le_refl _) (.cells (rdyC ⟨.slice aw r.writes.length cw, .slice ar r.reads.length cr, r⟩) 29))
  have HX := Lib.hid (alloc_at w (.cells (rdyC ⟨.slice aw r.writes.length cw, .slice ar r.reads.length cr, r⟩) 29))
  have HM := Lib.hid h
  have HXR := Lib.hid hx
  have HT := Lib.hid ht
  have HOK := Lib.hid hok
  clear h hx ht hok
  unfold rdyV at *
  unfold rdyC at *
  simp only at HB HX HT HOK hlw hlr
  go_enter Try.func12, Try.ntmps12
  go_upto_region 3 with fail
  generalize w.alloc (.cells #[vi r.txn, vi r.home, vi r.start, .slice aw r.writes.length cw, .slice ar r.reads.length cr] 29) = w1 at *
  have HM1 := Lib.hid (HM.out.later HB.out)
  have p4 : w1.cell? ⟨p, 4, none⟩ = some (.map (some me)) := by rw [cell_of HM1.out.blk]; rfl
  have x0 : w1.cell? ⟨w.heap.size, 0, none⟩ = some (vi r.txn) := by rw [cell_of HX.out]; rfl
  obtain ⟨b, hb⟩ : ∃ b, (getM E r.txn).isSome = b := ⟨_, rfl⟩
  have HBE := Lib.hid hb
  have hS : ∀ w' : World, Below w1.heap.size w1 w' → w'.cell? ⟨p, 4, none⟩ = some (.map (some me)) ∧ w'.cell? ⟨w.heap.size, 0, none⟩ = some (vi r.txn) ∧ (Instr.lookup 93 (.map (some me)) (vi r.txn) true).run Try.prog w' = .ok (.tuple #[.agg #[vi ((getM E r.txn).getD ⟨0, false, 0⟩).txn, .bool ((getM E r.txn).getD ⟨0, false, 0⟩).commit, vi ((getM E r.txn).getD ⟨0, false, 0⟩).at_], .bool b]) w' := fun w' hw => by
    have := lookup_ends (HM1.out.later hw).ends HT.out
    rw [hb] at this
    exact ⟨cell_later hw p4, cell_later hw x0, this⟩
  generalize (getM E r.txn).getD ⟨0, false, 0⟩ = ex at *
  have HS := Lib.hid hS
  clear hb hS
  go_cut [7] (fun u wx => u = .bool b ∧ Below w1.heap.size w1 wx)
  case first =>
    go_region_held3 (fun w' : World => w'.cell? ⟨p, 4, none⟩ = some (.map (some me)) ∧ w'.cell? ⟨w.heap.size, 0, none⟩ = some (vi r.txn) ∧ (Instr.lookup 93 (.map (some me)) (vi r.txn) true).run Try.prog w' = .ok (.tuple #[.agg #[vi ex.txn, .bool ex.commit, vi ex.at_], .bool b]) w')
      (first | exact HS.out _ ((Below.refl _ _).drew) | exact HS.out _ (((Below.refl _ _).drew).alloc (Nat.le_refl _) _) | exact HS.out _ ((((Below.refl _ _).drew).alloc (Nat.le_refl _) _).setCell (Nat.le_refl _) _)) (fail)
    all_goals
      go_wp2_with fail
      go_meet
      exact ⟨rfl, by first | exact ((Below.refl _ _).alloc (Nat.le_refl _) _).drew | exact ((Below.refl _ _).drew).alloc (Nat.le_refl _) _⟩
  case rest =>
    obtain ⟨w2, rfl⟩ : ∃ w2 : World, w2 = wc := ⟨_, rfl⟩
    obtain ⟨rfl, hb2⟩ := hcut
    have HB2 := Lib.hid (HB.out.trans (hb2.mono HB.out.size))
    have HX2 := Lib.hid ((hb2.block w.heap.size (Array.getElem?_eq_some_iff.1 HX.out).1).trans HX.out)
    clear hb2 p4 x0 HS HX HM1 ex
    cases b
    rotate_left
    · go_wp2_with fail
      go_ret2
      exact ⟨0, 62, R, rfl, .inl ⟨HBE.out, rfl, rfl, rfl⟩, HM.out.later HB2.out, below_any HB2.out _, fun _ h => .inl h⟩
    have HM2 := Lib.hid (HM.out.later HB2.out)
    have p3 : w2.cell? ⟨p, 3, none⟩ = some (.map (some mr)) := by rw [cell_of HM2.out.blk]; rfl
    have x0 : w2.cell? ⟨w.heap.size, 0, none⟩ = some (vi r.txn) := by rw [cell_of HX2.out]; rfl
    obtain ⟨b, hb⟩ : ∃ b, (getM R r.txn).isSome = b := ⟨_, rfl⟩
    have HBR := Lib.hid hb
    obtain ⟨z1, z2, z3, a, n, c, a', n', c', hz⟩ := rdy_slices HM2.out r.txn
    have hS : ∀ w' : World, Below w2.heap.size w2 w' → w'.cell? ⟨p, 3, none⟩ = some (.map (some mr)) ∧ w'.cell? ⟨w.heap.size, 0, none⟩ = some (vi r.txn) ∧ (Instr.lookup 92 (.map (some mr)) (vi r.txn) true).run Try.prog w' = .ok (.tuple #[.agg #[vi z1, vi z2, vi z3, .slice a n c, .slice a' n' c'], .bool b]) w' := fun w' hw => by
      have := lookup_ready2 (HM2.out.later hw).ready HT.out
      rw [hb, hz] at this
      exact ⟨cell_later hw p3, cell_later hw x0, this⟩
    have HS := Lib.hid hS
    clear hb hS hz
    go_upto_region 6 with fail
    go_cut [9] (fun u wx => u = .bool b ∧ Below w2.heap.size w2 wx)
    case first =>
      go_region_held3 (fun w' : World => w'.cell? ⟨p, 3, none⟩ = some (.map (some mr)) ∧ w'.cell? ⟨w.heap.size, 0, none⟩ = some (vi r.txn) ∧ (Instr.lookup 92 (.map (some mr)) (vi r.txn) true).run Try.prog w' = .ok (.tuple #[.agg #[vi z1, vi z2, vi z3, .slice a n c, .slice a' n' c'], .bool b]) w')
        (first | exact HS.out _ ((Below.refl _ _).drew) | exact HS.out _ (((Below.refl _ _).drew).alloc (Nat.le_refl _) _) | exact HS.out _ ((((Below.refl _ _).drew).alloc (Nat.le_refl _) _).setCell (Nat.le_refl _) _)) (fail)
      all_goals
        go_wp2_with fail
        go_meet
        exact ⟨rfl, by first | exact ((Below.refl _ _).alloc (Nat.le_refl _) _).drew | exact ((Below.refl _ _).drew).alloc (Nat.le_refl _) _⟩
    case rest =>
      obtain ⟨w3, rfl⟩ : ∃ w3 : World, w3 = wc := ⟨_, rfl⟩
      obtain ⟨rfl, hb3⟩ := hcut
      have HB3 := Lib.hid (HB2.out.trans (hb3.mono HB2.out.size))
      have HX3 := Lib.hid ((hb3.block w.heap.size (Array.getElem?_eq_some_iff.1 HX2.out).1).trans HX2.out)
      clear hb3 p3 x0 HS HX2 HM2 HB2
      cases b
      rotate_left
      · go_wp2_with fail
        go_ret2
        exact ⟨0, 0, R, rfl, .inr (.inl ⟨HBE.out, HBR.out, rfl, rfl, rfl⟩), HM.out.later HB3.out, below_any HB3.out _, fun _ h => .inl h⟩
      have HM3 := Lib.hid (HM.out.later HB3.out)
      have p1 : w3.cell? ⟨p, 1, none⟩ = some (vi bugs) := by rw [cell_of HM3.out.blk]; rfl
      have p0 : w3.cell? ⟨p, 0, none⟩ = some (.bool serial) := by rw [cell_of HM3.out.blk]; rfl
      have x0 : w3.cell? ⟨w.heap.size, 0, none⟩ = some (vi r.txn) := by rw [cell_of HX3.out]; rfl
      have x2 : w3.cell? ⟨w.heap.size, 2, none⟩ = some (vi r.start) := by rw [cell_of HX3.out]; rfl
      have x3 : w3.cell? ⟨w.heap.size, 3, none⟩ = some (.slice aw r.writes.length cw) := by rw [cell_of HX3.out]; rfl
      have x4 : w3.cell? ⟨w.heap.size, 4, none⟩ = some (.slice ar r.reads.length cr) := by rw [cell_of HX3.out]; rfl
      go_wp2_with fail
      go_loopw [44] (fun i wr => ∃ k : Nat, k ≤ r.writes.length ∧ i = .int .i64 k ∧ Hid (∀ j o, j < k → r.writes[j]? = some o → (offB bugs 1 && laterB (verOf K o.key) r.start) = false) ∧ Below w3.heap.size w3 wr) (fun i _ => r.writes.length - (intOf i).toNat)
      case atStart => exact ⟨0, Nat.zero_le _, rfl, Lib.hid (fun j o h => absurd h (Nat.not_lt_zero _)), Below.refl _ _⟩
      case round =>
        obtain ⟨wj, rfl⟩ : ∃ wj : World, wj = wr := ⟨_, rfl⟩
        obtain ⟨k, hk, rfl, HN, hbj⟩ := hrel
        have HBj := Lib.hid hbj
        have HB4 := Lib.hid (HB3.out.trans (hbj.mono HB3.out.size))
        clear hbj
        by_cases hlt : k < r.writes.length
        · obtain ⟨o, ho⟩ := some_at hlt
          obtain ⟨_, _, _, e5, -, -, hcl⟩ := (show RdOps w (.slice aw r.writes.length cw) r.writes from HXR.out.ws).at
          cases e5
          obtain ⟨b, off, rfl, k0', k1', k2'⟩ := hcl k o ho
          have k0 := cell_later HB4.out k0'
          have k1 := cell_later HB4.out k1'
          have k2 := cell_later HB4.out k2'
          have HO := Lib.hid ho
          have hio := HOK.out o (List.mem_of_getElem? ho)
          clear hcl ho k0' k1' k2'
          have hlater := later_call (base := base) (p := p) (mk := mk) (mr := mr) (me := me) (serial := serial) (bugs := bugs) (R := R) (E := E) o.key r.start (wj.alloc (.cells #[vi o.kind, vi o.key, vi o.val] 55)) (HM.out.later (HB4.out.alloc HB4.out.size _)) hio
          obtain ⟨lb, hlb⟩ : ∃ lb, laterB (verOf K o.key) r.start = lb := ⟨_, rfl⟩
          rw [hlb] at hlater
          have HL := Lib.hid hlater
          have HLB := Lib.hid hlb
          have x2j := fun o' => cell_later ((Below.refl wj.heap.size wj).alloc (Nat.le_refl _) o') (cell_later HBj.out x2)
          have p1j := fun o' => cell_later ((Below.refl wj.heap.size wj).alloc (Nat.le_refl _) o') (cell_later HBj.out p1)
          have hki : (k : Int) < (r.writes.length : Int) := by omega
          have HBA := Lib.hid (HBj.out.alloc HBj.out.size (.cells #[vi o.kind, vi o.key, vi o.val] 55))
          obtain ⟨nb, hnb⟩ : ∃ nb, (bits .and .i64 bugs 1 == 0) = nb := ⟨_, rfl⟩
          have HNB := Lib.hid hnb
          have HNEXT := Lib.hid (show (offB bugs 1 && laterB (verOf K o.key) r.start) = false → (∀ j o, j < k + 1 → r.writes[j]? = some o → (offB bugs 1 && laterB (verOf K o.key) r.start) = false) from fun h0 j o' hj ho' => by
            rcases Nat.lt_or_ge j k with h | h
            · exact HN.out j o' h ho'
            · obtain rfl : j = k := by omega
              rw [HO.out] at ho'; cases ho'; exact h0)
          clear hlater hlb hio p0 p1 x0 x2 x3 x4
          cases lb
          · clear hnb
            go_wp2_with (go_at_call 34; refine HL.out.mono ?_; rintro e w5 ⟨rfl, hb5⟩; have HB5 := Lib.hid (HBA.out.trans (hb5.mono HBA.out.size)); clear hb5)
            go_roundw
            case rel => exact ⟨k + 1, by omega, by go_num, Lib.hid (HNEXT.out (by rw [HLB.out]; simp)), HB5.out⟩
            case measure => simp [intOf]; omega
          · cases nb
            · go_wp2_with (go_at_call 34; refine HL.out.mono ?_; rintro e w5 ⟨rfl, hb5⟩; have p15 := cell_later hb5 (p1j _); have HB5 := Lib.hid (HBA.out.trans (hb5.mono HBA.out.size)); clear hb5)
              go_roundw
              case rel => exact ⟨k + 1, by omega, by go_num, Lib.hid (HNEXT.out (by unfold offB; rw [HNB.out]; simp)), HB5.out⟩
              case measure => simp [intOf]; omega
            · go_wp2_with (go_at_call 34; refine HL.out.mono ?_; rintro e w5 ⟨rfl, hb5⟩; have p15 := cell_later hb5 (p1j _); have HB5 := Lib.hid (HBA.out.trans (hb5.mono HBA.out.size)); clear hb5)
              go_ret2
              have HB6 := Lib.hid (HB3.out.trans (HB5.out.mono HB3.out.size))
              refine ⟨0, 61, R, rfl, .inr (.inr (.inl ⟨HBE.out, HBR.out, .inl ?_, rfl, rfl, rfl⟩)), HM.out.later HB6.out, below_any HB6.out _, fun _ h => .inl h⟩
              unfold lostW offB
              rw [HNB.out, Bool.true_and, List.any_eq_true]
              exact ⟨o, List.mem_of_getElem? HO.out, HLB.out⟩
        · obtain rfl : k = r.writes.length := by omega
          clear hlt hk
          have HLW := Lib.hid (show lostW K bugs r = false by
            unfold lostW
            cases hoff : offB bugs 1
            · simp
            · rw [Bool.true_and, List.any_eq_false]
              intro o ho
              obtain ⟨j, hj⟩ := List.mem_iff_getElem?.1 ho
              have := HN.out j o (List.getElem?_eq_some_iff.1 hj).1 hj
              rw [hoff, Bool.true_and] at this
              simp [this])
          clear HN
          have HM4 := Lib.hid (HM.out.later HB4.out)
          have HX4 := Lib.hid ((HBj.out.block w.heap.size (Array.getElem?_eq_some_iff.1 HX3.out).1).trans HX3.out)
          clear p0 p1 x0 x2 x3 x4 HM3 HX3 HBj
          have p1 : wj.cell? ⟨p, 1, none⟩ = some (vi bugs) := by rw [cell_of HM4.out.blk]; rfl
          have p0 : wj.cell? ⟨p, 0, none⟩ = some (.bool serial) := by rw [cell_of HM4.out.blk]; rfl
          go_upto_region 15 with fail
          go_cut [12] (fun v wx => v = .pointer (some ⟨wj.heap.size, 0, none⟩) ∧ wx = wj.alloc (.cells #[.bool (lookP serial bugs)] 4))
          case first =>
            obtain ⟨nb, hnb⟩ : ∃ nb, (bits .and .i64 bugs 4 == 0) = nb := ⟨_, rfl⟩
            have HNB := Lib.hid hnb
            cases serial
            · clear hnb
              go_wp2_with fail
              go_meet
              exact ⟨rfl, rfl⟩
            · go_wp2_with fail
              go_meet
              exact ⟨rfl, by unfold lookP offB; rw [HNB.out]; rfl⟩
          case rest =>
            obtain ⟨w4, rfl⟩ : ∃ w4 : World, w4 = wc := ⟨_, rfl⟩
            obtain ⟨rfl, hw4⟩ := hcut
            have hx4 := alloc_at wj (.cells #[.bool (lookP serial bugs)] 4)
            have hb4 : Below wj.heap.size wj (wj.alloc (.cells #[.bool (lookP serial bugs)] 4)) := (Below.refl _ _).alloc (Nat.le_refl _) _
            rw [← hw4] at hx4 hb4
            have HL4 := Lib.hid hx4
            have HB5 := Lib.hid (HB4.out.trans (hb4.mono HB4.out.size))
            have HX5 := Lib.hid ((hb4.block w.heap.size (Array.getElem?_eq_some_iff.1 HX4.out).1).trans HX4.out)
            have hwj := (Array.getElem?_eq_some_iff.1 HX4.out).1
            clear p0 p1 hw4 hx4 hb4 HM4 HB4
            have x4 : w4.cell? ⟨w.heap.size, 4, none⟩ = some (.slice ar r.reads.length cr) := by rw [cell_of HX5.out]; rfl
            have x2 : w4.cell? ⟨w.heap.size, 2, none⟩ = some (vi r.start) := by rw [cell_of HX5.out]; rfl
            have l0 : w4.cell? ⟨wj.heap.size, 0, none⟩ = some (.bool (lookP serial bugs)) := by rw [cell_of HL4.out]; rfl
            go_wp2_with fail
            go_loopw [78] (fun i wr => ∃ k : Nat, k ≤ r.reads.length ∧ i = .int .i64 k ∧ Hid (∀ j o, j < k → r.reads[j]? = some o → (lookP serial bugs && laterB (verOf K o) r.start) = false) ∧ Below w4.heap.size w4 wr) (fun i _ => r.reads.length - (intOf i).toNat)
            case atStart => exact ⟨0, Nat.zero_le _, rfl, Lib.hid (fun j o h => absurd h (Nat.not_lt_zero _)), Below.refl _ _⟩
            case round =>
              obtain ⟨wk, rfl⟩ : ∃ wk : World, wk = wr := ⟨_, rfl⟩
              obtain ⟨k, hk, rfl, HN, hbk⟩ := hrel
              have HBk := Lib.hid hbk
              have HB6 := Lib.hid (HB5.out.trans (hbk.mono HB5.out.size))
              clear hbk
              by_cases hlt : k < r.reads.length
              · obtain ⟨o, ho⟩ := some_at hlt
                obtain ⟨_, _, _, e5, -, -, hcl⟩ := (show RdInts w (.slice ar r.reads.length cr) r.reads from HXR.out.rs).at
                cases e5
                obtain ⟨b, off, rfl, k0', hio⟩ := hcl k o ho
                have k0 := cell_later HB6.out k0'
                have HO := Lib.hid ho
                have x2k := cell_later HBk.out x2
                have l0k := cell_later HBk.out l0
                have hki : (k : Int) < (r.reads.length : Int) := by omega
                have HL := Lib.hid (later_call (base := base) (p := p) (mk := mk) (mr := mr) (me := me) (serial := serial) (bugs := bugs) (R := R) (E := E) o r.start wk (HM.out.later HB6.out) hio)
                have HNEXT := Lib.hid (show (lookP serial bugs && laterB (verOf K o) r.start) = false → (∀ j o, j < k + 1 → r.reads[j]? = some o → (lookP serial bugs && laterB (verOf K o) r.start) = false) from fun h0 j o' hj ho' => by
                  rcases Nat.lt_or_ge j k with h | h
                  · exact HN.out j o' h ho'
                  · obtain rfl : j = k := by omega
                    rw [HO.out] at ho'; cases ho'; exact h0)
                obtain ⟨lk, hlk⟩ : ∃ lk, lookP serial bugs = lk := ⟨_, rfl⟩
                have HLK := Lib.hid hlk
                rw [hlk] at l0k
                obtain ⟨lb, hlb⟩ : ∃ lb, laterB (verOf K o) r.start = lb := ⟨_, rfl⟩
                have HLB := Lib.hid hlb
                rw [hlb] at HL
                clear hcl ho k0' hlk hlb x2 x4 l0 hio
                cases lk
                · go_wp2_with fail
                  go_roundw
                  case rel => exact ⟨k + 1, by omega, by go_num, Lib.hid (HNEXT.out (by rw [HLK.out]; simp)), HBk.out⟩
                  case measure => simp [intOf]; omega
                · cases lb
                  · go_wp2_with (go_at_call 34; refine HL.out.mono ?_; rintro e w5 ⟨rfl, hb5⟩; have HB7 := Lib.hid (HBk.out.trans (hb5.mono HBk.out.size)); clear hb5)
                    go_roundw
                    case rel => exact ⟨k + 1, by omega, by go_num, Lib.hid (HNEXT.out (by rw [HLB.out]; simp)), HB7.out⟩
                    case measure => simp [intOf]; omega
                  · go_wp2_with (go_at_call 34; refine HL.out.mono ?_; rintro e w5 ⟨rfl, hb5⟩; have HB7 := Lib.hid (HB6.out.trans (hb5.mono HB6.out.size)); clear hb5)
                    go_ret2
                    refine ⟨0, 61, R, rfl, .inr (.inr (.inl ⟨HBE.out, HBR.out, .inr ?_, rfl, rfl, rfl⟩)), HM.out.later HB7.out, below_any HB7.out _, fun _ h => .inl h⟩
                    unfold lostR
                    rw [HLK.out, Bool.true_and, List.any_eq_true]
                    exact ⟨o, List.mem_of_getElem? HO.out, HLB.out⟩
              · obtain rfl : k = r.reads.length := by omega
                clear hlt hk
                have HLR := Lib.hid (show lostR K serial bugs r = false by
                  unfold lostR
                  cases hoff : lookP serial bugs
                  · simp
                  · rw [Bool.true_and, List.any_eq_false]
                    intro o ho
                    obtain ⟨j, hj⟩ := List.mem_iff_getElem?.1 ho
                    have := HN.out j o (List.getElem?_eq_some_iff.1 hj).1 hj
                    rw [hoff, Bool.true_and] at this
                    simp [this])
                have HM5 := Lib.hid (HM.out.later HB6.out)
                have HX6 := Lib.hid ((HBk.out.block w.heap.size (Array.getElem?_eq_some_iff.1 HX5.out).1).trans HX5.out)
                have HL6 := Lib.hid ((HBk.out.block wj.heap.size (Array.getElem?_eq_some_iff.1 HL4.out).1).trans HL4.out)
                clear HN x2 x4 l0 HX5 HX4 HL4 HB5 HBk
                have x0 : wk.cell? ⟨w.heap.size, 0, none⟩ = some (vi r.txn) := by rw [cell_of HX6.out]; rfl
                have hmf : ∀ (fn : Fn) (first cap : Array Value) (w : World), (Instr.makeFunc fn first cap).run Try.prog w = .ok (.func fn first cap) w := fun _ _ _ _ => rfl
                have HXK := Lib.hid (show RdyS wk ⟨.slice aw r.writes.length cw, .slice ar r.reads.length cr, r⟩ from HXR.out.later HB6.out)
                have HSUCH := Lib.hid (prep1_such (look := lookP serial bugs) HM5.out.rrow HXK.out HX6.out (cell_of HL6.out 0))
                have eg := enters_of Try.func36 (by kernel_rfl) rfl
                have HE := Lib.hid eg
                clear eg
                go_wp2_with fail
                refine (blocks_call r.txn _ _ (wayB r (lookP serial bugs)) wk HM5.out hR HE.out HSUCH.out).mono ?_
                rintro e w6 ⟨id, ok, rfl, hblk, hb6⟩
                have HBLK := Lib.hid hblk
                have HB7 := Lib.hid (HB6.out.trans (hb6.mono HB6.out.size))
                have HX7 := Lib.hid ((hb6.block w.heap.size (Array.getElem?_eq_some_iff.1 HX6.out).1).trans HX6.out)
                have HM7 := Lib.hid (HM5.out.later hb6)
                clear hblk hb6 HSUCH HE hmf x0 HM5 HX6 HL6
                have p1 : w6.cell? ⟨p, 1, none⟩ = some (vi bugs) := by rw [cell_of HM7.out.blk]; rfl
                dsimp only
                go_upto_region 23 with fail
                go_cut [107] (fun v wx => v = .bool (ok && offB bugs 1) ∧ wx = w6)
                case first =>
                  obtain ⟨nb, hnb⟩ : ∃ nb, (bits .and .i64 bugs 1 == 0) = nb := ⟨_, rfl⟩
                  have HNB := Lib.hid hnb
                  cases ok
                  · clear hnb
                    go_wp2_with fail
                    go_meet
                    exact ⟨rfl, rfl⟩
                  · go_wp2_with fail
                    go_meet
                    exact ⟨by unfold offB; rw [HNB.out]; rfl, rfl⟩
                case rest =>
                  obtain ⟨w7, rfl⟩ : ∃ w7 : World, w7 = wc := ⟨_, rfl⟩
                  obtain ⟨rfl, hw7⟩ := hcut
                  subst hw7
                  obtain ⟨nb, hnb⟩ : ∃ nb, (ok && offB bugs 1) = nb := ⟨_, rfl⟩
                  rw [hnb]
                  have HNB := Lib.hid hnb
                  clear hnb
                  cases nb
                  rotate_left
                  · go_wp2_with fail
                    go_ret2
                    have hn := HNB.out
                    rw [Bool.and_eq_true] at hn
                    exact ⟨id, 60, R, rfl, .inr (.inr (.inr ⟨HBE.out, HBR.out, HLW.out, HLR.out, id, ok, HBLK.out, .inl ⟨hn.1, hn.2, rfl, rfl, rfl⟩⟩)), HM.out.later HB7.out, below_any HB7.out _, fun _ h => .inl h⟩
                  have hS : ∀ w' : World, Below w7.heap.size w7 w' → w'.cell? ⟨p, 3, none⟩ = some (.map (some mr)) ∧ w'.cell? ⟨w.heap.size, 0, none⟩ = some (vi r.txn) ∧ w'.cell? ⟨w.heap.size, 1, none⟩ = some (vi r.home) ∧ w'.cell? ⟨w.heap.size, 2, none⟩ = some (vi r.start) ∧ w'.cell? ⟨w.heap.size, 3, none⟩ = some (.slice aw r.writes.length cw) ∧ w'.cell? ⟨w.heap.size, 4, none⟩ = some (.slice ar r.reads.length cr) := fun w' hw =>
                    ⟨cell_later hw (by rw [cell_of HM7.out.blk]; rfl), cell_later hw (by rw [cell_of HX7.out]; rfl), cell_later hw (by rw [cell_of HX7.out]; rfl), cell_later hw (by rw [cell_of HX7.out]; rfl), cell_later hw (by rw [cell_of HX7.out]; rfl), cell_later hw (by rw [cell_of HX7.out]; rfl)⟩
                  have HS := Lib.hid hS
                  have HXQ := Lib.hid (show RdyS w7.drew ⟨.slice aw r.writes.length cw, .slice ar r.reads.length cr, r⟩ from HXR.out.later (HB7.out.drew))
                  have HBd := Lib.hid ((Below.refl w7.heap.size w7).drew)
                  have T0 : Hid True := trivial
                  have hs7 : w.heap.size ≤ w7.drew.heap.size := HB7.out.size
                  have hs7' : w.heap.size ≤ w7.heap.size := HB7.out.size
                  clear p1 hS
                  go_upto_region 25 with fail
                  go_region_held3 (fun w' : World => w'.cell? ⟨p, 3, none⟩ = some (.map (some mr)) ∧ w'.cell? ⟨w.heap.size, 0, none⟩ = some (vi r.txn) ∧ w'.cell? ⟨w.heap.size, 1, none⟩ = some (vi r.home) ∧ w'.cell? ⟨w.heap.size, 2, none⟩ = some (vi r.start) ∧ w'.cell? ⟨w.heap.size, 3, none⟩ = some (.slice aw r.writes.length cw) ∧ w'.cell? ⟨w.heap.size, 4, none⟩ = some (.slice ar r.reads.length cr))
                    (first | exact HS.out _ HBd.out | exact HS.out _ HB8.out | exact HS.out _ HB9.out | exact (fun s => ⟨HUP.out.2.2.cell s.1, HUP.out.2.2.cell s.2.1, HUP.out.2.2.cell s.2.2.1, HUP.out.2.2.cell s.2.2.2.1, HUP.out.2.2.cell s.2.2.2.2.1, HUP.out.2.2.cell s.2.2.2.2.2⟩) (HS.out _ HB9.out))
                    (first
                      | (go_at_call 42; clear T0; refine (cloneO_call _ r.writes _ HXQ.out.ws hlw).mono ?_; rintro e w8 ⟨v1, rfl, ho1, hb8⟩; obtain ⟨a1, c1, rfl⟩ := own_shape ho1; have HO1 := Lib.hid ho1; have HB8 := Lib.hid (HBd.out.trans hb8); have HX8 := Lib.hid (HXQ.out.later hb8); clear ho1 hb8; have T1 : Hid True := trivial)
                      | (go_at_call 43; clear T1; refine (cloneI_call _ r.reads _ HX8.out.rs hlr).mono ?_; rintro e w9 ⟨v2, rfl, ho2, hb9⟩; obtain ⟨a2, c2, rfl⟩ := own_shape ho2; have HB9 := Lib.hid (HB8.out.trans (hb9.mono HB8.out.size)); have HY := Lib.hid (rdy_own (r := r) (own_below HO1.out hb9) ho2 (reads_i64 HXQ.out.rs)); have HOA := Lib.hid (own_mono (b' := w.heap.size) (own_below HO1.out hb9) hs7); have HOB := Lib.hid (own_mono (b' := w.heap.size) ho2 (by have := HB8.out.size; omega)); clear ho2 hb9; obtain ⟨w10, hup, HUP⟩ := put_ready HM7.out HB9.out HT.out HY.out))
                  all_goals
                    go_wp2_with fail
                    go_ret2
                    have hn := HNB.out
                    rw [Bool.and_eq_false_iff] at hn
                    have hb79 : Below w.heap.size w w9 := HB7.out.trans (HB9.out.mono HB7.out.size)
                    have hup := HUP.out
                    exact ⟨0, 0, _, rfl, .inr (.inr (.inr ⟨HBE.out, HBR.out, HLW.out, HLR.out, id, ok, HBLK.out, .inr ⟨hn, rfl, rfl, _, _, rfl⟩⟩)), hup.1, grown_after hb79 hup.2.1, fun y hy => by
                      rcases mem_putM hy with rfl | hy
                      · exact .inr ⟨own_solid HOA.out hup.2.2, own_solid HOB.out hup.2.2⟩
                      · exact .inl hy⟩

theorem prep_call {base p mk mr me : Nat} {serial : Bool} {bugs : Int} {K : KeysL} {R : RdyL} {E : EndL} (x : RV) (w : World) (h : MvS base p mk mr me serial bugs K R E w) (hR : R.length ≤ 1048576) (hx : RdyS w x) (ht : i64 x.r.txn)
    (hok : ∀ o ∈ x.r.writes, i64 o.key) (hlw : x.r.writes.length ≤ 1048576) (hlr : x.r.reads.length ≤ 1048576) :
    Calls Try.prog 12 #[.pointer (some ⟨p, 0, none⟩), rdyV x] w (PrepQ base p mk mr me serial bugs K R E x.r w) :=
  (prep_call2 x w h hR hx ht hok hlw hlr).mono fun _ _ ⟨b, er, R', h1, h2, h3, h4, _⟩ => ⟨b, er, R', h1, h2, h3, h4⟩
end Go.Proofs.Ytbadpfcjoobniaa
