/- Layer 19's reference: Prepare: who is in the way. -/
import Derived.Test.YtbadpfcjoobniaaRnPrC
import Derived.Test.YtbadpfcjoobniaaMvPrep2
namespace Go.Proofs.Ytbadpfcjoobniaa
open Go.RowKit Go.Maps
attribute [local go_sem] Oper.semAt_some

theorem any_next6 {α : Type} {q : α → Bool} {l : List α} {k : Nat} {x : α} (h : l[k]? = some x) : (l.take (k + 1)).any q = ((l.take k).any q || q x) := by
  rw [take_at h, List.any_append]; simp
/-- One who waits, looked at by one who prepares. -/
def blkStepP (r : Rdy) (look : Bool) (s : Int × Bool) (x : Rdy) : Int × Bool := if wayB r look x && (!s.2 || decide (x.txn < s.1)) then (x.txn, true) else s
def blkOfP (ws : List Rdy) (r : Rdy) (look : Bool) : Int × Bool := ws.foldl (blkStepP r look) (0, false)
noncomputable def cPrB : Code := (Try.f18.body.bind (afterBlock 6)).getD .skip

set_option maxRecDepth 1000000 in
set_option maxHeartbeats 16000000 in
theorem prB (A w0 : World) (x : RSV) (rv : RV) (X X1 X2 : Nat) (f : Nat → Value) (look first : Bool) (w : World) (hB : PrB x rv X X1 X2 w) (hxA : RdSt A x) (hA : Below A.heap.size A w0) (hr : RdyS w0 rv) (h0 : Below w0.heap.size w0 w)
    (hl : x.s.ws.length ≤ 1000 ∧ rv.r.writes.length ≤ 1000 ∧ rv.r.reads.length ≤ 1000) (hne : ∀ y ∈ x.s.ws, y.txn ≠ rv.r.txn) (hb : w0.heap.size ≤ X ∧ w0.heap.size ≤ X1 ∧ w0.heap.size ≤ X2 ∧ X ≠ X1 ∧ X ≠ X2 ∧ X1 ≠ X2)
    (e2 : f 2 = .pointer (some ⟨X, 0, none⟩)) (e3 : f 3 = .pointer (some ⟨X1, 0, none⟩)) (e4 : f 4 = .pointer (some ⟨X2, 0, none⟩)) (e11 : f 11 = .bool first) (e12 : f 12 = .bool look) :
    Code.wp Try.prog cPrB (bodyPost Try.prog Try.f18 (fun e w' => if (blkOfP x.s.ws rv.r look).2 && first then PrR A w0 x.s (blkOfP x.s.ws rv.r look).1 60 e w' else PrR A w0 ⟨x.s.serial, x.s.bugs, x.s.vs, insR x.s.ws rv.r, x.s.es⟩ 0 0 e w')) (frN 226 f) w := by
  rw [fr226, e2, e3, e4, e11, e12]
  clear e2 e3 e4 e11 e12
  have hx := hxA.later hA
  have HHA := Lib.hid hA
  have HXA := Lib.hid hxA
  clear hxA hA
  obtain ⟨vv, wv, ev, s⟩ := x
  have HW := Lib.hid hx.ws
  obtain ⟨aw, nw, cw, hww, rfl, hmw, -⟩ := (show RdRdy w0 wv s.ws from hx.ws).at
  subst hww
  obtain ⟨rw_, rr, r⟩ := rv
  obtain ⟨a1, l1, c1, h1, rfl, hm1, -⟩ := (show RdOps w0 rw_ r.writes from hr.ws).at
  obtain ⟨a2, l2, c2, h2, rfl, hm2, -⟩ := (show RdInts w0 rr r.reads from hr.rs).at
  subst h1 h2
  have HX := Lib.hid hx
  have HR := Lib.hid hr
  have HB := Lib.hid hB
  have HN := Lib.hid hne
  have HL := Lib.hid hl
  have HBB := Lib.hid hb
  have H0 := Lib.hid h0
  simp only at HW
  clear hx hr hB h0 hl hne hb
  have x3 : w.cell? ⟨X, 3, none⟩ = some (.slice aw s.ws.length cw) := by rw [cell_of HB.out.st]; rfl
  conv => arg 2; whnf
  go_wp2_with fail
  clear x3
  rename_i KB hKB
  have HKB := Lib.hid hKB
  clear hKB
  refine wp_loopF 226 (fun m g wr => g 2 = .pointer (some ⟨X, 0, none⟩) ∧ g 3 = .pointer (some ⟨X1, 0, none⟩) ∧ g 4 = .pointer (some ⟨X2, 0, none⟩) ∧ g 11 = .bool first ∧ g 12 = .bool look ∧ g 108 = .slice aw s.ws.length cw ∧ g 109 = .int .i64 s.ws.length ∧
    ∃ k : Nat, k ≤ s.ws.length ∧ m = s.ws.length - k ∧ g 110 = .int .i64 k ∧ g 17 = vi ((s.ws.take k).foldl (blkStepP r look) (0, false)).1 ∧ g 18 = .bool ((s.ws.take k).foldl (blkStepP r look) (0, false)).2 ∧ Below w.heap.size w wr) _ rfl s.ws.length ?start ?round
  case start => exact ⟨rfl, rfl, rfl, rfl, rfl, rfl, rfl, 0, Nat.zero_le _, rfl, rfl, rfl, rfl, Below.refl _ _⟩
  case round =>
    rintro gm g wr ⟨g2, g3, g4, g11, g12, g108, g109, k, hk, hgm, g110, g17, g18, hJ⟩ JJ KK HJ HKK
    have HJJ := Lib.hid HJ
    have HGM := Lib.hid hgm
    have HJ1 := Lib.hid hJ
    have HG := Lib.hid (show g 2 = _ ∧ g 3 = _ ∧ g 4 = _ ∧ g 11 = _ from ⟨g2, g3, g4, g11⟩)
    obtain ⟨s0, hs0⟩ : ∃ b, b = (s.ws.take k).foldl (blkStepP r look) (0, false) := ⟨_, rfl⟩
    rw [← hs0] at g17 g18
    have HS0 := Lib.hid hs0
    obtain ⟨by_, lk⟩ := s0
    simp only at g17 g18
    have hBW := HB.out.later hJ
    clear HJ hgm hJ hs0
    by_cases hlt : k < s.ws.length
    · rw [fr226, g2, g3, g4, g11, g12, g108, g109, g110, g17, g18]
      clear g2 g3 g4 g11 g12 g108 g109 g110 g17 g18
      have k1 : decide ((k : Int) < s.ws.length) = true := decide_eq_true (by omega)
      have k2 : (k : Int) < s.ws.length := by omega
      have hwk : IntKind.i64.wrap ((k : Int) + 1) = (k : Int) + 1 := IntWalk.i64_in _ (by omega)
      obtain ⟨x, hx⟩ := some_at hlt
      obtain ⟨gg, off, rw_, rr, ha, hrs, c0, c1', c2', c3, c4⟩ := HW.out.el hx
      obtain ⟨b1, l1, e1, rfl, -, -, -⟩ := (show RdOps w0 rw_ x.writes from hrs.ws).at
      obtain ⟨b2, l2, e2, rfl, -, -, -⟩ := (show RdInts w0 rr x.reads from hrs.rs).at
      have hwq := H0.out.trans (HJ1.out.mono H0.out.size)
      replace c0 := cell_later hwq c0
      replace c1' := cell_later hwq c1'
      replace c2' := cell_later hwq c2'
      replace c3 := cell_later hwq c3
      replace c4 := cell_later hwq c4
      subst ha
      have HXS := Lib.hid hrs
      have HF := Lib.hid (fold_take (f := blkStepP r look) (b := (0, false)) hx)
      rw [← HS0.out] at HF
      have hBA := hBW.later ((Below.refl _ wr).alloc (Nat.le_refl _) (.cells #[vi x.txn, vi x.home, vi x.start, .slice b1 l1 e1, .slice b2 l2 e2] 58))
      have HAE := Lib.hid (alloc_at wr (.cells #[vi x.txn, vi x.home, vi x.start, .slice b1 l1 e1, .slice b2 l2 e2] 58))
      have HJA := Lib.hid (HJ1.out.alloc HJ1.out.size (.cells #[vi x.txn, vi x.home, vi x.start, .slice b1 l1 e1, .slice b2 l2 e2] 58))
      clear hx hrs hwq hBW
      go_upto_region 33 with fail
      generalize wr.alloc (.cells #[vi x.txn, vi x.home, vi x.start, .slice b1 l1 e1, .slice b2 l2 e2] 58) = wz at *
      generalize wr.heap.size = Zb at *
      have HBZ := Lib.hid hBA
      have HZ0 := Lib.hid (H0.out.trans (HJA.out.mono H0.out.size))
      have r3 : wz.cell? ⟨X1, 3, none⟩ = some (.slice a1 r.writes.length c1) := by rw [cell_of hBA.rd]; rfl
      clear c0 c1' c2' c3 c4 hBA
      go_wp2_with fail
      clear r3
      refine wp_loopF 226 (fun m h wq => h 2 = .pointer (some ⟨X, 0, none⟩) ∧ h 3 = .pointer (some ⟨X1, 0, none⟩) ∧ h 4 = .pointer (some ⟨X2, 0, none⟩) ∧ h 11 = .bool first ∧ h 12 = .bool look ∧ h 17 = vi by_ ∧ h 18 = .bool lk ∧ h 20 = .pointer (some ⟨Zb, 0, none⟩) ∧ h 108 = .slice (some ⟨gg, off, none⟩) s.ws.length cw ∧ h 109 = .int .i64 s.ws.length ∧ h 110 = .int .i64 k ∧ h 115 = .slice a1 r.writes.length c1 ∧ h 116 = .int .i64 r.writes.length ∧
        ∃ j : Nat, j ≤ r.writes.length ∧ m = r.writes.length - j ∧ h 117 = .int .i64 j ∧ h 21 = .bool ((r.writes.take j).any (wayO x look)) ∧ Below wz.heap.size wz wq) _ rfl r.writes.length ?start6 ?round6
      case start6 => exact ⟨rfl, rfl, rfl, rfl, rfl, rfl, rfl, rfl, rfl, rfl, rfl, rfl, rfl, 0, Nat.zero_le _, rfl, rfl, rfl, Below.refl _ _⟩
      case round6 =>
        rintro gm6 h wq ⟨h2, h3, h4, h11, h12, h17, h18, h20, h108, h109, h110, h115, h116, j, hj, hgm6, h117, h21, hq⟩ JJ6 KK6 HJ6 HKK6
        have HJJ6 := Lib.hid HJ6
        have HGM6 := Lib.hid hgm6
        have HQ := Lib.hid hq
        obtain ⟨wy, hwy⟩ : ∃ b, b = (r.writes.take j).any (wayO x look) := ⟨_, rfl⟩
        rw [← hwy] at h21
        rw [fr226, h2, h3, h4, h11, h12, h17, h18, h20, h108, h109, h110, h115, h116, h117, h21]
        have HWY := Lib.hid hwy
        clear HJ6 hgm6 hq hwy h2 h3 h4 h11 h12 h17 h18 h20 h108 h109 h110 h115 h116 h117 h21
        have HQ0 := Lib.hid (HZ0.out.trans (HQ.out.mono HZ0.out.size))
        by_cases hlt6 : j < r.writes.length
        · have q1 : decide ((j : Int) < r.writes.length) = true := decide_eq_true (by omega)
          have q2 : (j : Int) < r.writes.length := by omega
          have hwk6 : IntKind.i64.wrap ((j : Int) + 1) = (j : Int) + 1 := IntWalk.i64_in _ (by omega)
          obtain ⟨o, ho⟩ := some_at hlt6
          obtain ⟨og, oo, ha, c0, c1', c2'⟩ := (show RdOps w0 (.slice a1 r.writes.length c1) r.writes from HR.out.ws).el ho
          subst ha
          replace c0 := cell_later HQ0.out c0
          replace c1' := cell_later HQ0.out c1'
          replace c2' := cell_later HQ0.out c2'
          have HA := Lib.hid (any_next6 (q := wayO x look) ho)
          rw [← HWY.out] at HA
          have HBo := Lib.hid (HQ.out.alloc HQ.out.size (.cells #[vi o.kind, vi o.key, vi o.val] 55))
          have HOo := Lib.hid (alloc_at wq (.cells #[vi o.kind, vi o.key, vi o.val] 55))
          have HAo := Lib.hid (heap_un (o := (.cells #[vi o.kind, vi o.key, vi o.val] 55)) ((HQ.out.block Zb (Array.getElem?_eq_some_iff.1 HAE.out).1).trans HAE.out))
          have HXo := Lib.hid (HXS.out.later (HQ0.out.alloc HQ0.out.size (.cells #[vi o.kind, vi o.key, vi o.val] 55)))
          clear ho
          go_upto_region 36 with fail
          generalize wq.alloc (.cells #[vi o.kind, vi o.key, vi o.val] 55) = wo at *
          generalize wq.heap.size = Ob at *
          clear c0 c1' c2'
          have y0 : wo.cell? ⟨Zb, 0, none⟩ = some (vi x.txn) := cell_at HAo.out rfl
          have y1 : wo.cell? ⟨Zb, 1, none⟩ = some (vi x.home) := cell_at HAo.out rfl
          have y2 : wo.cell? ⟨Zb, 2, none⟩ = some (vi x.start) := cell_at HAo.out rfl
          have y3 : wo.cell? ⟨Zb, 3, none⟩ = some (.slice b1 l1 e1) := cell_at HAo.out rfl
          have y4 : wo.cell? ⟨Zb, 4, none⟩ = some (.slice b2 l2 e2) := cell_at HAo.out rfl
          have ok1 : wo.cell? ⟨Ob, 1, none⟩ = some (vi o.key) := cell_at HOo.out rfl
          have next6 : ∀ (l : List Value) (W : World) (bb : Bool), l.length = 226 → slotsOf l 2 = .pointer (some ⟨X, 0, none⟩) ∧ slotsOf l 3 = .pointer (some ⟨X1, 0, none⟩) ∧ slotsOf l 4 = .pointer (some ⟨X2, 0, none⟩) ∧ slotsOf l 11 = .bool first ∧ slotsOf l 12 = .bool look ∧ slotsOf l 17 = vi by_ ∧ slotsOf l 18 = .bool lk ∧ slotsOf l 20 = .pointer (some ⟨Zb, 0, none⟩) ∧ slotsOf l 108 = .slice (some ⟨gg, off, none⟩) s.ws.length cw ∧ slotsOf l 109 = .int .i64 s.ws.length ∧ slotsOf l 110 = .int .i64 k ∧ slotsOf l 115 = .slice (some ⟨og, oo, none⟩) r.writes.length c1 ∧ slotsOf l 116 = .int .i64 r.writes.length → slotsOf l 117 = .int .i64 ((j : Int) + 1) → slotsOf l 21 = .bool bb → bb = (wy || wayO x look o) → Below wz.heap.size wz W → Handed JJ6 gm6 ⟨l.toArray, []⟩ W := fun l W bb hl'  hc h117 h21 hbb hW => by
            obtain ⟨t0, t1, t2, t3, t4, t5, t6, t7, t8, t9, t10, t11, t12⟩ := hc
            exact Handed.intro (r.writes.length - (j + 1)) (by rw [HGM6.out]; omega) (HJJ6.out _ _ _ hl' ⟨t0, t1, t2, t3, t4, t5, t6, t7, t8, t9, t10, t11, t12, j + 1, by omega, rfl, by rw [h117]; go_num, by rw [h21, HA.out, hbb], hW⟩)
          have NEXT6 := Lib.hid next6
          clear next6
          cases wy with
          | true =>
            go_wp2_with fail
            exact NEXT6.out _ _ true rfl ⟨rfl, rfl, rfl, rfl, rfl, rfl, rfl, rfl, rfl, rfl, rfl, rfl, rfl⟩ rfl rfl rfl HBo.out
          | false =>
            have hcw := rnWrites_call ⟨.slice b1 l1 e1, .slice b2 l2 e2, x⟩ o.key wo HXo.out
            unfold rdyV rdyC at hcw
            simp only at hcw
            obtain ⟨b, hb⟩ : ∃ b, writesB x o.key = b := ⟨_, rfl⟩
            rw [hb] at hcw
            have HCW := Lib.hid hcw
            have HBB' := Lib.hid hb
            clear hcw hb
            cases b with
            | true =>
              go_wp2_with (go_at_call 54; refine HCW.out.mono ?_; rintro e w5 ⟨rfl, hb5⟩; have HB5 := Lib.hid (HBo.out.trans (hb5.mono HBo.out.size)); clear hb5)
              exact NEXT6.out _ _ true rfl ⟨rfl, rfl, rfl, rfl, rfl, rfl, rfl, rfl, rfl, rfl, rfl, rfl, rfl⟩ rfl rfl (by unfold wayO; rw [HBB'.out]; rfl) HB5.out
            | false =>
              cases look with
              | false =>
                go_wp2_with (go_at_call 54; refine HCW.out.mono ?_; rintro e w5 ⟨rfl, hb5⟩; have HB5 := Lib.hid (HBo.out.trans (hb5.mono HBo.out.size)); clear hb5)
                exact NEXT6.out _ _ false rfl ⟨rfl, rfl, rfl, rfl, rfl, rfl, rfl, rfl, rfl, rfl, rfl, rfl, rfl⟩ rfl rfl (by unfold wayO; rw [HBB'.out]; rfl) HB5.out
              | true =>
                go_wp2_with (first
                  | (go_at_call 54; refine HCW.out.mono ?_; rintro e w5 ⟨rfl, hb5⟩; have HB5 := Lib.hid (HBo.out.trans (hb5.mono HBo.out.size)); have y4' := cell_later hb5 y4; have ok1' := cell_later hb5 ok1; have HX5 := Lib.hid (HXo.out.later hb5); clear hb5)
                  | (go_at_call 55; refine (rnHas_call _ x.reads o.key _ HX5.out.rs).mono ?_; rintro e w6 ⟨rfl, hb6⟩; have HB6 := Lib.hid (HB5.out.trans (hb6.mono HB5.out.size)); clear hb6))
                exact NEXT6.out _ _ _ rfl ⟨rfl, rfl, rfl, rfl, rfl, rfl, rfl, rfl, rfl, rfl, rfl, rfl, rfl⟩ rfl rfl (by unfold wayO; rw [HBB'.out]; rfl) HB6.out
        · have q1 : decide ((j : Int) < r.writes.length) = false := decide_eq_false (by omega)
          have hjl : r.writes.take j = r.writes := List.take_of_length_le (by omega)
          rw [hjl] at HWY
          have r4 : wq.cell? ⟨X1, 4, none⟩ = some (.slice a2 r.reads.length c2) := by rw [cell_of (HBZ.out.later HQ.out).rd]; rfl
          have HAQ := Lib.hid ((HQ.out.block Zb (Array.getElem?_eq_some_iff.1 HAE.out).1).trans HAE.out)
          clear HJJ6 HGM6
          go_wp2_with fail
          clear r4
          refine wp_loopF 226 (fun m h wp => h 2 = .pointer (some ⟨X, 0, none⟩) ∧ h 3 = .pointer (some ⟨X1, 0, none⟩) ∧ h 4 = .pointer (some ⟨X2, 0, none⟩) ∧ h 11 = .bool first ∧ h 12 = .bool look ∧ h 17 = vi by_ ∧ h 18 = .bool lk ∧ h 20 = .pointer (some ⟨Zb, 0, none⟩) ∧ h 108 = .slice (some ⟨gg, off, none⟩) s.ws.length cw ∧ h 109 = .int .i64 s.ws.length ∧ h 110 = .int .i64 k ∧ h 140 = .slice a2 r.reads.length c2 ∧ h 141 = .int .i64 r.reads.length ∧
            ∃ q : Nat, q ≤ r.reads.length ∧ m = r.reads.length - q ∧ h 142 = .int .i64 q ∧ h 21 = .bool (wy || (r.reads.take q).any (fun kk => look && writesB x kk)) ∧ Below wq.heap.size wq wp) _ rfl r.reads.length ?start7 ?round7
          case start7 => exact ⟨rfl, rfl, rfl, rfl, rfl, rfl, rfl, rfl, rfl, rfl, rfl, rfl, rfl, 0, Nat.zero_le _, rfl, rfl, by cases wy <;> rfl, Below.refl _ _⟩
          case round7 =>
            rintro gm7 h wp ⟨h2, h3, h4, h11, h12, h17, h18, h20, h108, h109, h110, h140, h141, q, hq7, hgm7, h142, h21, hp⟩ JJ7 KK7 HJ7 HKK7
            have HJJ7 := Lib.hid HJ7
            have HGM7 := Lib.hid hgm7
            have HP := Lib.hid hp
            obtain ⟨wv7, hwv7⟩ : ∃ b, b = (wy || (r.reads.take q).any (fun kk => look && writesB x kk)) := ⟨_, rfl⟩
            rw [← hwv7] at h21
            rw [fr226, h2, h3, h4, h11, h12, h17, h18, h20, h108, h109, h110, h140, h141, h142, h21]
            have HWV := Lib.hid hwv7
            clear HJ7 hgm7 hp hwv7 h2 h3 h4 h11 h12 h17 h18 h20 h108 h109 h110 h140 h141 h142 h21
            have HP0 := Lib.hid ((HZ0.out.trans (HQ.out.mono HZ0.out.size)).trans (HP.out.mono (HZ0.out.trans (HQ.out.mono HZ0.out.size)).size))
            by_cases hlt7 : q < r.reads.length
            · have q3 : decide ((q : Int) < r.reads.length) = true := decide_eq_true (by omega)
              have q4 : (q : Int) < r.reads.length := by omega
              have hwk7 : IntKind.i64.wrap ((q : Int) + 1) = (q : Int) + 1 := IntWalk.i64_in _ (by omega)
              obtain ⟨o, ho⟩ := some_at hlt7
              obtain ⟨og, oo, ha, c0, -⟩ := (show RdInts w0 (.slice a2 r.reads.length c2) r.reads from HR.out.rs).el ho
              subst ha
              replace c0 := cell_later HP0.out c0
              have HA := Lib.hid (any_next6 (q := fun kk => look && writesB x kk) ho)
              have HAo := Lib.hid ((HP.out.block Zb (Array.getElem?_eq_some_iff.1 HAQ.out).1).trans HAQ.out)
              have HXo := Lib.hid (HXS.out.later HP0.out)
              clear ho
              have y0 : wp.cell? ⟨Zb, 0, none⟩ = some (vi x.txn) := cell_at HAo.out rfl
              have y1 : wp.cell? ⟨Zb, 1, none⟩ = some (vi x.home) := cell_at HAo.out rfl
              have y2 : wp.cell? ⟨Zb, 2, none⟩ = some (vi x.start) := cell_at HAo.out rfl
              have y3 : wp.cell? ⟨Zb, 3, none⟩ = some (.slice b1 l1 e1) := cell_at HAo.out rfl
              have y4 : wp.cell? ⟨Zb, 4, none⟩ = some (.slice b2 l2 e2) := cell_at HAo.out rfl
              have next7 : ∀ (l : List Value) (W : World) (bb : Bool), l.length = 226 → slotsOf l 2 = .pointer (some ⟨X, 0, none⟩) ∧ slotsOf l 3 = .pointer (some ⟨X1, 0, none⟩) ∧ slotsOf l 4 = .pointer (some ⟨X2, 0, none⟩) ∧ slotsOf l 11 = .bool first ∧ slotsOf l 12 = .bool look ∧ slotsOf l 17 = vi by_ ∧ slotsOf l 18 = .bool lk ∧ slotsOf l 20 = .pointer (some ⟨Zb, 0, none⟩) ∧ slotsOf l 108 = .slice (some ⟨gg, off, none⟩) s.ws.length cw ∧ slotsOf l 109 = .int .i64 s.ws.length ∧ slotsOf l 110 = .int .i64 k ∧ slotsOf l 140 = .slice (some ⟨og, oo, none⟩) r.reads.length c2 ∧ slotsOf l 141 = .int .i64 r.reads.length → slotsOf l 142 = .int .i64 ((q : Int) + 1) → slotsOf l 21 = .bool bb → bb = (wv7 || (look && writesB x o)) → Below wq.heap.size wq W → Handed JJ7 gm7 ⟨l.toArray, []⟩ W := fun l W bb hl' hc h117 h21 hbb hW => by
                obtain ⟨t0, t1, t2, t3, t4, t5, t6, t7, t8, t9, t10, t11, t12⟩ := hc
                exact Handed.intro (r.reads.length - (q + 1)) (by rw [HGM7.out]; omega) (HJJ7.out _ _ _ hl' ⟨t0, t1, t2, t3, t4, t5, t6, t7, t8, t9, t10, t11, t12, q + 1, by omega, rfl, by rw [h117]; go_num, by rw [h21, hbb, HA.out, HWV.out, Bool.or_assoc], hW⟩)
              have NEXT7 := Lib.hid next7
              clear next7
              cases wv7 with
              | true =>
                go_wp2_with fail
                exact NEXT7.out _ _ true rfl ⟨rfl, rfl, rfl, rfl, rfl, rfl, rfl, rfl, rfl, rfl, rfl, rfl, rfl⟩ rfl rfl rfl HP.out
              | false =>
                cases look with
                | false =>
                  go_wp2_with fail
                  exact NEXT7.out _ _ false rfl ⟨rfl, rfl, rfl, rfl, rfl, rfl, rfl, rfl, rfl, rfl, rfl, rfl, rfl⟩ rfl rfl rfl HP.out
                | true =>
                  have hcw := rnWrites_call ⟨.slice b1 l1 e1, .slice b2 l2 e2, x⟩ o wp HXo.out
                  unfold rdyV rdyC at hcw
                  simp only at hcw
                  have HCW := Lib.hid hcw
                  clear hcw
                  go_wp2_with (go_at_call 54; refine HCW.out.mono ?_; rintro e w5 ⟨rfl, hb5⟩; have HB5 := Lib.hid (HP.out.trans (hb5.mono HP.out.size)); clear hb5)
                  exact NEXT7.out _ _ _ rfl ⟨rfl, rfl, rfl, rfl, rfl, rfl, rfl, rfl, rfl, rfl, rfl, rfl, rfl⟩ rfl rfl rfl HB5.out
            · have q3 : decide ((q : Int) < r.reads.length) = false := decide_eq_false (by omega)
              have hql : r.reads.take q = r.reads := List.take_of_length_le (by omega)
              rw [hql] at HWV
              have HWW := Lib.hid (show wv7 = wayB r look x from by
                rw [HWV.out, HWY.out]; unfold wayB; congr 1
                cases look <;> simp)
              have HAo := Lib.hid ((HP.out.block Zb (Array.getElem?_eq_some_iff.1 HAQ.out).1).trans HAQ.out)
              have y0 : wp.cell? ⟨Zb, 0, none⟩ = some (vi x.txn) := cell_at HAo.out rfl
              have HBF := Lib.hid ((HJA.out.trans (HQ.out.mono HJA.out.size)).trans (HP.out.mono (HJA.out.trans (HQ.out.mono HJA.out.size)).size))
              clear HJJ7 HGM7
              have next5 : ∀ (l : List Value) (W : World) (s' : Int × Bool), l.length = 226 → slotsOf l 2 = .pointer (some ⟨X, 0, none⟩) ∧ slotsOf l 3 = .pointer (some ⟨X1, 0, none⟩) ∧ slotsOf l 4 = .pointer (some ⟨X2, 0, none⟩) ∧ slotsOf l 11 = .bool first ∧ slotsOf l 12 = .bool look ∧ slotsOf l 108 = .slice (some ⟨gg, off, none⟩) s.ws.length cw ∧ slotsOf l 109 = .int .i64 s.ws.length → slotsOf l 110 = .int .i64 ((k : Int) + 1) → slotsOf l 17 = vi s'.1 → slotsOf l 18 = .bool s'.2 → s' = blkStepP r look (by_, lk) x → Below w.heap.size w W → Handed JJ gm ⟨l.toArray, []⟩ W := fun l W s' hl' hc h110 h17 h18 hs' hW => by
                obtain ⟨t0, t1, t2, t3, t4, t5, t6⟩ := hc
                exact Handed.intro (s.ws.length - (k + 1)) (by rw [HGM.out]; omega) (HJJ.out _ _ _ hl' ⟨t0, t1, t2, t3, t4, t5, t6, k + 1, by omega, rfl, by rw [h110]; go_num, by rw [h17, hs', HF.out], by rw [h18, hs', HF.out], hW⟩)
              have NEXT5 := Lib.hid next5
              clear next5
              have hstep : ∀ b1 b2, wayB r look x = b1 → (!lk || decide (x.txn < by_)) = b2 → blkStepP r look (by_, lk) x = if b1 && b2 then (x.txn, true) else (by_, lk) := fun b1 b2 h1 h2 => by unfold blkStepP; rw [h1, h2]
              have HST := Lib.hid hstep
              clear hstep
              cases wv7 with
              | false =>
                go_wp2_with fail
                exact NEXT5.out _ _ (by_, lk) rfl ⟨rfl, rfl, rfl, rfl, rfl, rfl, rfl⟩ rfl rfl rfl (HST.out _ _ HWW.out.symm rfl).symm HBF.out
              | true =>
                cases lk with
                | false =>
                  go_wp2_with fail
                  exact NEXT5.out _ _ (x.txn, true) rfl ⟨rfl, rfl, rfl, rfl, rfl, rfl, rfl⟩ rfl rfl rfl (HST.out _ _ HWW.out.symm rfl).symm HBF.out
                | true =>
                  cases hq5 : decide (x.txn < by_) with
                  | false =>
                    have hq5' : by_ ≤ x.txn := by have := of_decide_eq_false hq5; omega
                    have HQ5 := Lib.hid (HST.out _ _ HWW.out.symm hq5).symm
                    go_wp2_with fail
                    exact NEXT5.out _ _ (by_, true) rfl ⟨rfl, rfl, rfl, rfl, rfl, rfl, rfl⟩ rfl rfl rfl HQ5.out HBF.out
                  | true =>
                    have hq5' : x.txn < by_ := of_decide_eq_true hq5
                    have HQ5 := Lib.hid (HST.out _ _ HWW.out.symm hq5).symm
                    go_wp2_with fail
                    exact NEXT5.out _ _ (x.txn, true) rfl ⟨rfl, rfl, rfl, rfl, rfl, rfl, rfl⟩ rfl rfl rfl HQ5.out HBF.out
    · have k1 : decide ((k : Int) < s.ws.length) = false := decide_eq_false (by omega)
      have hql : s.ws.take k = s.ws := List.take_of_length_le (by omega)
      have hblk : blkOfP s.ws r look = (by_, lk) := by rw [HS0.out, hql]; rfl
      have HC := Lib.hid (prC A w0 ⟨vv, .slice aw s.ws.length cw, ev, s⟩ ⟨.slice a1 r.writes.length c1, .slice a2 r.reads.length c2, r⟩ X X1 X2)
      have hcc : ∀ u, Code.wp Try.prog cPrC (bodyPost Try.prog Try.f18 (fun e w' => if (blkOfP s.ws r look).2 && first then PrR A w0 s (blkOfP s.ws r look).1 60 e w' else PrR A w0 ⟨s.serial, s.bugs, s.vs, insR s.ws r, s.es⟩ 0 0 e w')) (⟨#[g 0, g 1, g 2, g 3, g 4, g 5, g 6, g 7, g 8, g 9, g 10, g 11, g 12, g 13, g 14, g 15, g 16, g 17, g 18, g 19, g 20, g 21, g 22, g 23, g 24, g 25, g 26, g 27, g 28, g 29, g 30, g 31, g 32, g 33, g 34, g 35, g 36, g 37, g 38, g 39, g 40, g 41, g 42, g 43, g 44, g 45, g 46, g 47, g 48, g 49, g 50, g 51, g 52, g 53, g 54, g 55, g 56, g 57, g 58, g 59, g 60, g 61, g 62, g 63, g 64, g 65, g 66, g 67, g 68, g 69, g 70, g 71, g 72, g 73, g 74, g 75, g 76, g 77, g 78, g 79, g 80, g 81, g 82, g 83, g 84, g 85, g 86, g 87, g 88, g 89, g 90, g 91, g 92, g 93, g 94, g 95, g 96, g 97, g 98, g 99, g 100, g 101, g 102, g 103, g 104, g 105, g 106, g 107, g 108, g 109, g 110, u, g 112, g 113, g 114, g 115, g 116, g 117, g 118, g 119, g 120, g 121, g 122, g 123, g 124, g 125, g 126, g 127, g 128, g 129, g 130, g 131, g 132, g 133, g 134, g 135, g 136, g 137, g 138, g 139, g 140, g 141, g 142, g 143, g 144, g 145, g 146, g 147, g 148, g 149, g 150, g 151, g 152, g 153, g 154, g 155, g 156, g 157, g 158, g 159, g 160, g 161, g 162, g 163, g 164, g 165, g 166, g 167, g 168, g 169, g 170, g 171, g 172, g 173, g 174, g 175, g 176, g 177, g 178, g 179, g 180, g 181, g 182, g 183, g 184, g 185, g 186, g 187, g 188, g 189, g 190, g 191, g 192, g 193, g 194, g 195, g 196, g 197, g 198, g 199, g 200, g 201, g 202, g 203, g 204, g 205, g 206, g 207, g 208, g 209, g 210, g 211, g 212, g 213, g 214, g 215, g 216, g 217, g 218, g 219, g 220, g 221, g 222, g 223, g 224, g 225], []⟩ : Act) wr := fun u => by
        rw [hblk]
        refine wp_fr 226 _ rfl ?_
        exact HC.out _ by_ lk first wr hBW HXA.out HHA.out HR.out (H0.out.trans (HJ1.out.mono H0.out.size)) HL.out HN.out HBB.out g2 g3 g4 g11 g17 g18
      have HCC := Lib.hid hcc
      clear hcc HC
      rw [fr226, g2, g3, g4, g11, g12, g108, g109, g110, g17, g18]
      rw [g2, g3, g4, g11, g12, g108, g109, g110, g17, g18] at HCC
      clear g2 g3 g4 g11 g12 g108 g109 g110 g17 g18 hBW hblk
      go_wp2_with fail
      exact HKB.out _ _ (HCC.out _)
end Go.Proofs.Ytbadpfcjoobniaa
