/- Texts of one proof, one behind the other: DpRefE, DpEqv, RdEv, DpL2. -/
import Derived.Test.YtefpmcbpodlabaaJb14
import Derived.Test.YtefpmcbpodlabaaJb13
import Derived.Test.YtefpmcbpodlabaaJb1
import Derived.Deep.Strs
set_option linter.all false
/- crucibleref10.Edges. -/
namespace Go.Proofs.Ytefpmcbpodlabaa
open Go.RowKit Go.Maps
attribute [local go_sem] Oper.semAt_some

def hasAll (ts : List GTxn) (G : FaL) (a b k : Nat) : Bool := match ts[a]?, ts[b]? with
  | some ta, some tb => if a = b ∨ isI ts G a ≠ 1 ∨ isI ts G b ≠ 1 then false else if k = 1 then hasR1 G ta tb a b else if k = 2 then hasR2 ts tb a else hasR3 ts G ta tb b
  | _, _ => false
theorem hasAll_call (v g : Value) (ts : List GTxn) (G : FaL) (a b k : Nat) (w : World) (hv : RdTxns w v ts) (hok : OkTxns ts) (hg : RdSaid w g G) (ha : a < ts.length) (hb : b < ts.length) (hk : 1 ≤ k ∧ k ≤ 3) :
    Calls Try.prog 48 #[v, g, vi a, vi b, vi k] w fun e w' => e = .returned (.bool (hasAll ts G a b k)) ∧ Below w.heap.size w w' := by
  obtain ⟨ta, hta⟩ := some_at ha
  obtain ⟨tb, htb⟩ := some_at hb
  have he : hasAll ts G a b k = if a = b ∨ isI ts G a ≠ 1 ∨ isI ts G b ≠ 1 then false else if k = 1 then hasR1 G ta tb a b else if k = 2 then hasR2 ts tb a else hasR3 ts G ta tb b := by unfold hasAll; rw [hta, htb]
  rw [he]
  by_cases hno : a = b ∨ isI ts G a ≠ 1 ∨ isI ts G b ≠ 1
  · rw [if_pos hno]
    exact hasR_no v g ts G a b k w hv hok hg ha hb hno
  · rw [if_neg hno]
    have h1 : a ≠ b := fun h => hno (.inl h)
    have h2 : isI ts G a = 1 := Classical.byContradiction fun h => hno (.inr (.inl h))
    have h3 : isI ts G b = 1 := Classical.byContradiction fun h => hno (.inr (.inr h))
    have h4 : k = 1 ∨ k = 2 ∨ k = 3 := by omega
    rcases h4 with rfl | rfl | rfl
    · exact hasR1_call v g ts G a b ta tb w hv hok hg hta htb h1 h2 h3
    · exact hasR2_call v g ts G a b ta tb w hv hok hg hta htb h1 h2 h3
    · exact hasR3_call v g ts G a b ta tb w hv hok hg hta htb h1 h2 h3
def kE (ts : List GTxn) (G : FaL) (a b m : Nat) : List GEdge := (List.range m).flatMap (fun j : Nat => if hasAll ts G a b (j + 1) then [⟨(a : Int), (b : Int), ((j + 1 : Nat) : Int)⟩] else [])
def bE (ts : List GTxn) (G : FaL) (a m : Nat) : List GEdge := (List.range m).flatMap (fun b : Nat => kE ts G a b 3)
def aE (ts : List GTxn) (G : FaL) (m : Nat) : List GEdge := (List.range m).flatMap (fun a : Nat => bE ts G a ts.length)
def refE (ts : List GTxn) (G : FaL) : List GEdge := aE ts G ts.length
theorem kE_next (ts : List GTxn) (G : FaL) (a b m : Nat) : kE ts G a b (m + 1) = kE ts G a b m ++ (if hasAll ts G a b (m + 1) then [⟨(a : Int), (b : Int), ((m + 1 : Nat) : Int)⟩] else []) := by
  unfold kE; rw [List.range_succ, List.flatMap_append]; simp
theorem bE_next (ts : List GTxn) (G : FaL) (a m : Nat) : bE ts G a (m + 1) = bE ts G a m ++ kE ts G a m 3 := by
  unfold bE; rw [List.range_succ, List.flatMap_append]; simp
theorem aE_next (ts : List GTxn) (G : FaL) (m : Nat) : aE ts G (m + 1) = aE ts G m ++ bE ts G m ts.length := by
  unfold aE; rw [List.range_succ, List.flatMap_append]; simp
theorem range_le {α : Type} (g : Nat → List α) (c : Nat) (h : ∀ i, (g i).length ≤ c) (n : Nat) : ((List.range n).flatMap g).length ≤ n * c := by
  have := flatMap_le c h (List.range n)
  simpa using this
theorem kE_len (ts : List GTxn) (G : FaL) (a b m : Nat) : (kE ts G a b m).length ≤ m := by
  have := range_le (fun j : Nat => if hasAll ts G a b (j + 1) then [(⟨(a : Int), (b : Int), ((j + 1 : Nat) : Int)⟩ : GEdge)] else []) 1 (fun j => by split <;> simp) m
  unfold kE; omega
theorem bE_len (ts : List GTxn) (G : FaL) (a m : Nat) : (bE ts G a m).length ≤ m * 3 := range_le _ 3 (fun b => kE_len ts G a b 3) m
theorem aE_len (ts : List GTxn) (G : FaL) (m : Nat) : (aE ts G m).length ≤ m * (ts.length * 3) := range_le _ _ (fun a => bE_len ts G a ts.length) m

set_option maxRecDepth 100000 in
set_option maxHeartbeats 8000000 in
theorem refEdges_call (v g : Value) (ts : List GTxn) (G : FaL) (w : World) (hv : RdTxns w v ts) (hok : OkTxns ts) (hg : RdSaid w g G) (htl : ts.length ≤ 4096) :
    Calls Try.prog 17 #[v, g] w fun e w' => ∃ v', e = .returned v' ∧ OwE w.heap.size w' v' (refE ts G) ∧ Below w.heap.size w w' := by
  have HV := Lib.hid hv
  have HG := Lib.hid hg
  have HOK := Lib.hid hok
  obtain ⟨ta, nt, tc, rfl, rfl, hm, -⟩ := hv.at
  have HN0 := Lib.hid (World.ownsRow_lit (base := w.heap.size) (e := 27) (size := 3) w #[] 0 (Nat.le_refl _) (by simp [maxLen]) rfl)
  have HB0 := Lib.hid ((Below.refl w.heap.size w).alloc (Nat.le_refl _) (.cells #[] 27))
  have HAL := Lib.hid (fun m (h : m ≤ 4096) => show (aE ts G m).length ≤ 67108864 from by
    have h1 := aE_len ts G m
    have h2 := Nat.mul_le_mul h (show ts.length * 3 ≤ 12288 by omega)
    omega)
  have HBL := Lib.hid (fun a m (h : m ≤ 4096) => show (bE ts G a m).length ≤ 12288 from by have := bE_len ts G a m; omega)
  have HKL := Lib.hid (fun a b m => kE_len ts G a b m)
  clear hv hg hok
  go_enter Try.func17, Try.ntmps17
  go_wp2_with fail
  generalize w.alloc (.cells #[] 27) = w0 at *
  go_loopw [5, 12] (fun x i wr => ∃ a : Nat, a ≤ ts.length ∧ i = .int .i64 a ∧ Hid (OwE w.heap.size wr x (aE ts G a) ∧ Below w.heap.size w wr)) (fun _ i _ => ts.length - (intOf i).toNat)
  case atStart => exact ⟨0, Nat.zero_le _, rfl, Lib.hid ⟨by have h := HN0.out; unfold OwE aE; simpa using h, HB0.out⟩⟩
  case round =>
    obtain ⟨wj, rfl⟩ : ∃ wj : World, wj = wr := ⟨_, rfl⟩
    obtain ⟨a, ha, rfl, HJ⟩ := hrel
    obtain ⟨A0, hA0⟩ : ∃ A0, A0 = aE ts G a := ⟨_, rfl⟩
    have HA0 := Lib.hid hA0
    have HA0L := Lib.hid (show A0.length ≤ 67108864 from by rw [hA0]; exact HAL.out a (by omega))
    rw [← hA0] at HJ
    obtain ⟨ax, cx, rfl⟩ := Gr.own_shape (show World.ownsRow _ _ _ _ _ A0.length _ from HJ.out.1)
    clear hA0
    by_cases hlt : a < ts.length
    · have k1 : decide ((a : Int) < ts.length) = true := decide_eq_true (by omega)
      have k2 : (a : Int) < ts.length := by omega
      have hwk : IntKind.i64.wrap ((a : Int) + 1) = (a : Int) + 1 := IntWalk.i64_in _ (by omega)
      have HNA := Lib.hid (aE_next ts G a)
      go_wp2_with fail
      go_loopw [5, 17] (fun x i wr => ∃ b : Nat, b ≤ ts.length ∧ i = .int .i64 b ∧ Hid (OwE w.heap.size wr x (A0 ++ bE ts G a b) ∧ Below w.heap.size w wr)) (fun _ i _ => ts.length - (intOf i).toNat)
      case atStart => exact ⟨0, Nat.zero_le _, rfl, Lib.hid ⟨by have h := HJ.out.1; simpa [bE] using h, HJ.out.2⟩⟩
      case round =>
        obtain ⟨wq, rfl⟩ : ∃ wq : World, wq = wr := ⟨_, rfl⟩
        obtain ⟨b, hb, rfl, HQ⟩ := hrel
        obtain ⟨B0, hB0⟩ : ∃ B0, B0 = A0 ++ bE ts G a b := ⟨_, rfl⟩
        have HB0' := Lib.hid hB0
        have HB0L := Lib.hid (show B0.length ≤ 67108864 + 12288 from by rw [hB0, List.length_append]; have := HBL.out a b (by omega); have := HA0L.out; omega)
        rw [← hB0] at HQ
        obtain ⟨aq, cq, rfl⟩ := Gr.own_shape (show World.ownsRow _ _ _ _ _ B0.length _ from HQ.out.1)
        clear hB0
        by_cases hltb : b < ts.length
        · have j1 : decide ((b : Int) < ts.length) = true := decide_eq_true (by omega)
          have j2 : (b : Int) < ts.length := by omega
          have hwj : IntKind.i64.wrap ((b : Int) + 1) = (b : Int) + 1 := IntWalk.i64_in _ (by omega)
          have HNB := Lib.hid (bE_next ts G a b)
          go_wp2_with fail
          go_loopw [5, 8] (fun x i wr => ∃ m : Nat, m ≤ 3 ∧ i = vi ((m + 1 : Nat) : Int) ∧ Hid (OwE w.heap.size wr x (B0 ++ kE ts G a b m) ∧ Below w.heap.size w wr)) (fun _ i _ => 4 - (intOf i).toNat)
          case atStart => exact ⟨0, by omega, rfl, Lib.hid ⟨by have h := HQ.out.1; simpa [kE] using h, HQ.out.2⟩⟩
          case round =>
            obtain ⟨wp, rfl⟩ : ∃ wp : World, wp = wr := ⟨_, rfl⟩
            obtain ⟨m, hm3, rfl, HP⟩ := hrel
            obtain ⟨C0, hC0⟩ : ∃ C0, C0 = B0 ++ kE ts G a b m := ⟨_, rfl⟩
            have HC0 := Lib.hid hC0
            have hcl : C0.length ≤ 67108864 + 12288 + 3 := by rw [hC0, List.length_append]; have := HKL.out a b m; have := HB0L.out; omega
            rw [← hC0] at HP
            obtain ⟨ap, cp, rfl⟩ := Gr.own_shape (show World.ownsRow _ _ _ _ _ C0.length _ from HP.out.1)
            clear hC0
            obtain ⟨q, hq⟩ : ∃ q : Nat, q = m + 1 := ⟨_, rfl⟩
            have HQQ := Lib.hid hq
            rw [← hq]
            have hq1 : 1 ≤ q := by omega
            have hq4 : q ≤ 4 := by omega
            by_cases hltm : m < 3
            · have i1 : decide ((q : Int) ≤ 3) = true := decide_eq_true (by omega)
              have i2 : (q : Int) ≤ 3 := by omega
              have i3 : q ≤ 3 := by omega
              have hwm : IntKind.i64.wrap ((q : Int) + 1) = (q : Int) + 1 := IntWalk.i64_in _ (by omega)
              have HNK := Lib.hid (show kE ts G a b (m + 1) = kE ts G a b m ++ (if hasAll ts G a b q then [⟨(a : Int), (b : Int), (q : Int)⟩] else []) from by rw [hq]; exact kE_next ts G a b m)
              clear hq
              cases hh : hasAll ts G a b q with
              | false =>
                have HH := Lib.hid hh
                clear hh
                go_wp2_with (go_at_call 48; refine (hasAll_call _ g ts G a b q wp (HV.out.later HP.out.2) HOK.out (HG.out.later HP.out.2) hlt hltb ⟨hq1, i3⟩).mono ?_; rw [HH.out]; rintro e1 w1 ⟨rfl, hb1⟩; have HO1 := Lib.hid (own_below HP.out.1 hb1); have HB1 := Lib.hid (HP.out.2.trans (hb1.mono HP.out.2.size)); clear hb1)
                refine ⟨⟨m + 1, by omega, ?_, Lib.hid ⟨?_, HB1.out⟩⟩, ?_⟩
                · have := HQQ.out; subst this; go_num
                · rw [HNK.out, HH.out, ← List.append_assoc, ← HC0.out]; simpa [OwE] using HO1.out
                · simp only [intOf]; omega
              | true =>
                have HH := Lib.hid hh
                clear hh
                go_wp2_with (first
                  | (go_at_call 48; refine (hasAll_call _ g ts G a b q wp (HV.out.later HP.out.2) HOK.out (HG.out.later HP.out.2) hlt hltb ⟨hq1, i3⟩).mono ?_; rw [HH.out]; rintro e1 w1 ⟨rfl, hb1⟩; have HO1 := Lib.hid (own_below HP.out.1 hb1); have HB1 := Lib.hid (HP.out.2.trans (hb1.mono HP.out.2.size)); clear hb1)
                  | (at_builtin; refine wpList_append_src rfl _ _ 22 rfl eltEdge w.heap.size C0.length _ (World.ownsRow.alloc HO1.out _) rfl 1 (edV ⟨a, b, q⟩) (src_new (cs := #[vi a, vi b, vi q]) rfl rfl) rfl (edV_one _) (by omega) (by omega) (by have := HB1.out.size; simp; omega) ?_; intro v2 w2 ho2 hg2 _; have HO2 := Lib.hid ho2; have HB2 := Lib.hid ((HB1.out.alloc HB1.out.size _).grown hg2 (by have := HB1.out.size; simp; omega) (fun j hj => (World.ownsRow.lt HO1.out j hj).1)); clear ho2 hg2))
                refine ⟨⟨m + 1, by omega, ?_, Lib.hid ⟨?_, HB2.out⟩⟩, ?_⟩
                · have := HQQ.out; subst this; go_num
                · rw [HNK.out, HH.out, ← List.append_assoc, ← HC0.out]; have h := HO2.out; unfold OwE; simpa using h
                · simp only [intOf]; omega
            · have i1 : decide ((q : Int) ≤ 3) = false := decide_eq_false (by omega)
              have HF := Lib.hid (show OwE w.heap.size wp (.slice ap C0.length cp) (A0 ++ bE ts G a (b + 1)) from by
                have hme : m = 3 := by omega
                have h2 : A0 ++ bE ts G a (b + 1) = C0 := by rw [HNB.out, HC0.out, HB0'.out, hme, List.append_assoc]
                rw [h2]; exact HP.out.1)
              clear hq
              go_wp2_with fail
              exact ⟨⟨b + 1, by omega, by go_num, Lib.hid ⟨HF.out, HP.out.2⟩⟩, by simp only [intOf]; omega⟩
        · have j1 : decide ((b : Int) < ts.length) = false := decide_eq_false (by omega)
          have HF := Lib.hid (show OwE w.heap.size wq (.slice aq B0.length cq) (aE ts G (a + 1)) from by
            have hbe : b = ts.length := by omega
            have h2 : aE ts G (a + 1) = B0 := by rw [HNA.out, HB0'.out, HA0.out, hbe]
            rw [h2]; exact HQ.out.1)
          go_wp2_with fail
          exact ⟨⟨a + 1, by omega, by go_num, Lib.hid ⟨HF.out, HQ.out.2⟩⟩, by simp only [intOf]; omega⟩
    · have k1 : decide ((a : Int) < ts.length) = false := decide_eq_false (by omega)
      have HF := Lib.hid (show OwE w.heap.size wj (.slice ax A0.length cx) (refE ts G) from by
        have hae : a = ts.length := by omega
        have h2 : refE ts G = A0 := by rw [HA0.out, hae]; rfl
        rw [h2]; exact HJ.out.1)
      go_wp2_with fail
      go_ret
      exact ⟨_, rfl, HF.out, HJ.out.2⟩
end Go.Proofs.Ytefpmcbpodlabaa

/- The edges of the program are the reference's: plain. -/
namespace Go.Proofs.Ytefpmcbpodlabaa
open Go.RowKit Go.Maps

theorem kE_mem {ts : List GTxn} {G : FaL} {a b m : Nat} {e : GEdge} : e ∈ kE ts G a b m ↔ ∃ k : Nat, 1 ≤ k ∧ k ≤ m ∧ hasAll ts G a b k = true ∧ e = ⟨a, b, k⟩ := by
  unfold kE
  rw [List.mem_flatMap]
  constructor
  · rintro ⟨j, hj, he⟩
    split at he
    · rename_i hh
      simp only [List.mem_singleton] at he
      exact ⟨j + 1, by omega, by have := List.mem_range.1 hj; omega, hh, he⟩
    · simp at he
  · rintro ⟨k, h1, h2, h3, h4⟩
    refine ⟨k - 1, List.mem_range.2 (by omega), ?_⟩
    rw [show k - 1 + 1 = k by omega, if_pos h3]
    simp [h4]
theorem refE_mem {ts : List GTxn} {G : FaL} {e : GEdge} : e ∈ refE ts G ↔ ∃ a b k : Nat, a < ts.length ∧ b < ts.length ∧ 1 ≤ k ∧ k ≤ 3 ∧ hasAll ts G a b k = true ∧ e = ⟨a, b, k⟩ := by
  unfold refE aE bE
  simp only [List.mem_flatMap, List.mem_range, kE_mem]
  constructor
  · rintro ⟨a, ha, b, hb, k, h1, h2, h3, h4⟩; exact ⟨a, b, k, ha, hb, h1, h2, h3, h4⟩
  · rintro ⟨a, b, k, ha, hb, h1, h2, h3, h4⟩; exact ⟨a, ha, b, hb, k, h1, h2, h3, h4⟩
theorem refE_up (ts : List GTxn) (G : FaL) : (refE ts G).Pairwise ltE := by
  unfold refE aE
  rw [List.pairwise_flatMap]
  refine ⟨fun a ha => ?_, List.pairwise_lt_range.imp fun {a c} h x hx y hy => ?_⟩
  · unfold bE
    rw [List.pairwise_flatMap]
    refine ⟨fun b hb => ?_, List.pairwise_lt_range.imp fun {b d} h x hx y hy => ?_⟩
    · unfold kE
      rw [List.pairwise_flatMap]
      refine ⟨fun j hj => by split <;> simp, List.pairwise_lt_range.imp fun {i j} h x hx y hy => ?_⟩
      split at hx
      · split at hy
        · simp only [List.mem_singleton] at hx hy
          subst hx hy
          exact .inr ⟨rfl, .inr ⟨rfl, by simp only; omega⟩⟩
        · simp at hy
      · simp at hx
    · obtain ⟨k, _, _, _, rfl⟩ := kE_mem.1 hx
      obtain ⟨k', _, _, _, rfl⟩ := kE_mem.1 hy
      exact .inr ⟨rfl, .inl (by simp only; omega)⟩
  · unfold bE at hx hy
    simp only [List.mem_flatMap, List.mem_range, kE_mem] at hx hy
    obtain ⟨b, _, k, _, _, _, rfl⟩ := hx
    obtain ⟨b', _, k', _, _, _, rfl⟩ := hy
    exact .inl (by simp only; omega)

section
variable {ts : List GTxn} {L : FaL}
theorem dn_iff (hg : GoodTs ts) (i : Nat) : dnM ts L i = true ↔ isI ts L i = 1 := by
  have := isI_one hg.uniq L i
  unfold dnM
  rw [← this]
  simp
theorem reads_state {t : GTxn} {o : GOp} (h : o ∈ readsM t) : t.state = 1 := by
  unfold readsM at h
  split at h
  · assumption
  · simp at h
theorem done_dn (hg : GoodTs ts) {i : Nat} {t : GTxn} (ht : ts[i]? = some t) (hs : t.state = 1) : isI ts L i = 1 := by
  have hi := (List.getElem?_eq_some_iff.1 ht).1
  unfold isI
  have : (refSureN ts ts.length)[i]?.getD false = true := by
    unfold refSureN
    rw [List.getElem?_map, List.getElem?_range hi]
    show refSure1 ts i = true
    unfold refSure1 stOf
    rw [ht]
    simp [hs]
  rw [this]; rfl
theorem wr_of_wrote {t : GTxn} {key val : Int} (h : t.ops.any (wroteB key val) = true) : wrB t key = true := by
  obtain ⟨o, ho, hh⟩ := List.any_eq_true.1 h
  refine List.any_eq_true.2 ⟨o, ho, ?_⟩
  simp [wroteB] at hh
  simp [wkB, hh]
theorem writer_some {key val : Int} {n : Nat} (h : writerM ts key val = n) : ∃ t, ts[n]? = some t ∧ t.ops.any (wroteB key val) = true := by
  unfold writerM at h
  cases hf : ts.findIdx? (fun t => t.ops.any (wroteB key val)) with
  | none =>
    rw [hf] at h
    have h' : (-1 : Int) = (n : Int) := h
    omega
  | some i =>
    rw [hf] at h
    have h' : (i : Int) = (n : Int) := h
    have : i = n := by omega
    subst this
    rw [List.findIdx?_eq_some_iff_getElem] at hf
    obtain ⟨hi, h1, -⟩ := hf
    exact ⟨_, List.getElem?_eq_getElem hi, h1⟩
theorem src_writer (hg : GoodTs ts) (key val : Int) (h0 : val ≠ 0) : (∃ n : Nat, writerM ts key val = n ∧ srcM ts key val = ((n : Int), true)) ∨ (writerM ts key val = -1 ∧ (srcM ts key val).2 = false) := by
  rcases by_writer hg.uniq key val with ⟨h1, h2⟩ | ⟨i, t, ht, h1, h2⟩
  · refine .inr ⟨h2, ?_⟩
    unfold srcM; rw [if_neg h0, h1]
  · refine .inl ⟨i, h2, ?_⟩
    unfold srcM; rw [if_neg h0, h1]
theorem writesM_key {t : GTxn} (hg : GoodTs ts) (ht : t ∈ ts) {key : Int} : (∃ o ∈ writesM t.ops, o.key = key) ↔ wrB t key = true := by
  constructor
  · rintro ⟨o, ho, rfl⟩
    refine List.any_eq_true.2 ⟨o, writesM_mem ho, ?_⟩
    unfold writesM writesTo at ho
    obtain ⟨k, -, hk⟩ := List.mem_filterMap.1 ho
    have := (lastW_mem hk).2
    simp [hitB] at this
    simp [wkB, this.1]
  · intro h
    obtain ⟨o, ho, hh⟩ := List.any_eq_true.1 h
    simp [wkB] at hh
    have hgo := (hg.txn t ht).2.1 o ho
    obtain ⟨k, hk, hk16⟩ : ∃ k : Nat, key = k ∧ k < 16 := ⟨key.toNat, by have := hgo.key0; have := hh.2; omega, by have := hgo.key1; have := hh.2; omega⟩
    have h1 := refWk_eq t.ops k hk16
    have h2 : t.ops.any (hitK (k : Int)) = true := by rw [← hk]; exact h
    rw [h2] at h1
    unfold refWk at h1
    obtain ⟨p, hp, hpk⟩ := List.any_eq_true.1 h1
    exact ⟨p, hp, by rw [hk]; simpa using hpk⟩
theorem fact_get (hf : FaOk ts L) {c : GChoice} {b : Bool} : getM L c = some b ↔ (c, b) ∈ L :=
  ⟨getM_some, fun h => getM_of_mem hf.pw h⟩
/-- The facts say that one stands ahead of another one. -/
theorem ahead_iff (hf : FaOk ts L) {key a b : Int} (hab : a ≠ b) : aheadB L key a b = true ↔ ∃ p ∈ L, p.1.kind = 2 ∧ p.1.key = key ∧ (p.2 = true ∧ a = p.1.a ∧ b = p.1.b ∨ p.2 = false ∧ a = p.1.b ∧ b = p.1.a) := by
  have g1 : ∀ c, (getI L c == 1) = true ↔ getM L c = some true := fun c => by
    unfold getI; cases getM L c with | none => simp | some x => cases x <;> simp
  have g0 : ∀ c, (getI L c == 0) = true ↔ getM L c = some false := fun c => by
    unfold getI; cases getM L c with | none => simp | some x => cases x <;> simp
  unfold aheadB
  constructor
  · intro h
    split at h
    · exact ⟨_, (fact_get hf).1 ((g1 _).1 h), rfl, rfl, .inl ⟨rfl, rfl, rfl⟩⟩
    · exact ⟨_, (fact_get hf).1 ((g0 _).1 h), rfl, rfl, .inr ⟨rfl, rfl, rfl⟩⟩
  · rintro ⟨⟨c, s⟩, hp, hk, hky, h⟩
    have hok := choicesM_ok (hf.mem _ hp)
    have hk' : c.kind = 2 := hk
    have hlt : c.a < c.b := by
      rcases hok.kind with ⟨h1, _⟩ | ⟨_, h2⟩
      · have h1' : c.kind = 1 := h1
        omega
      · exact h2
    clear hk'
    obtain ⟨ck, cy, ca, cb⟩ := c
    simp only at hk hky h hlt
    subst hk hky
    rcases h with ⟨rfl, rfl, rfl⟩ | ⟨rfl, rfl, rfl⟩
    · rw [if_pos hlt]; exact (g1 _).2 ((fact_get hf).2 hp)
    · rw [if_neg (by omega)]; exact (g0 _).2 ((fact_get hf).2 hp)
theorem hasM_iff (hg : GoodTs ts) {c : GChoice} : hasM ts (dnM ts L) c = true ↔ ∃ (a b : Nat) (ta tb : GTxn), c.a = a ∧ c.b = b ∧ ts[a]? = some ta ∧ ts[b]? = some tb ∧ isI ts L a = 1 ∧ isI ts L b = 1 ∧ wrB ta c.key = true ∧ wrB tb c.key = true := by
  unfold hasM
  rw [Bool.and_eq_true, has1_iff, has1_iff]
  constructor
  · rintro ⟨⟨a, ta, h1, h2, h3, h4⟩, ⟨b, tb, h5, h6, h7, h8⟩⟩
    exact ⟨a, b, ta, tb, h1, h5, h2, h6, (dn_iff hg a).1 h3, (dn_iff hg b).1 h7, h4, h8⟩
  · rintro ⟨a, b, ta, tb, h1, h5, h2, h6, h3, h7, h4, h8⟩
    exact ⟨⟨a, ta, h1, h2, (dn_iff hg a).2 h3, h4⟩, ⟨b, tb, h5, h6, (dn_iff hg b).2 h7, h8⟩⟩
theorem hasAll_iff {a b k : Nat} : hasAll ts L a b k = true ↔ ∃ ta tb, ts[a]? = some ta ∧ ts[b]? = some tb ∧ a ≠ b ∧ isI ts L a = 1 ∧ isI ts L b = 1 ∧ (if k = 1 then hasR1 L ta tb a b else if k = 2 then hasR2 ts tb a else hasR3 ts L ta tb b) = true := by
  unfold hasAll
  cases hta : ts[a]? with
  | none => simp
  | some ta =>
    cases htb : ts[b]? with
    | none => simp
    | some tb =>
      simp only
      by_cases hno : a = b ∨ isI ts L a ≠ 1 ∨ isI ts L b ≠ 1
      · rw [if_pos hno]
        constructor
        · intro h; cases h
        · rintro ⟨_, _, h1, h2, h3, h4, h5, -⟩
          rcases hno with h | h | h
          · exact absurd h h3
          · exact absurd h4 h
          · exact absurd h5 h
      · rw [if_neg hno]
        constructor
        · intro h
          exact ⟨ta, tb, rfl, rfl, fun h => hno (.inl h), Classical.byContradiction fun h => hno (.inr (.inl h)), Classical.byContradiction fun h => hno (.inr (.inr h)), h⟩
        · rintro ⟨_, _, h1, h2, _, _, _, h⟩
          cases h1; cases h2; exact h

theorem wr_key (hg : GoodTs ts) {t : GTxn} (ht : t ∈ ts) {key : Int} (h : wrB t key = true) : 0 ≤ key ∧ key ≤ 15 := by
  obtain ⟨o, ho, hh⟩ := List.any_eq_true.1 h
  simp [wkB] at hh
  have hgo := (hg.txn t ht).2.1 o ho
  have := hgo.key0; have := hgo.key1; have := hh.2
  omega
theorem rds_of (hg : GoodTs ts) {a : Nat} {ta : GTxn} {o : GOp} (hta : ts[a]? = some ta) (ho : o ∈ readsM ta) (h0 : o.val = 0) : (⟨a, -1, o.key⟩ : GRd) ∈ rdsL ts (dnM ts L) := by
  have hs : srcM ts o.key o.val = (-1, true) := by unfold srcM; rw [if_pos h0]
  exact rds_mem.2 ⟨a, ta, o, hta, ho, by rw [hs], by rw [hs]; exact .inl (by decide), by rw [hs]⟩
theorem rds_wr (hg : GoodTs ts) {a n : Nat} {ta : GTxn} {o : GOp} (hta : ts[a]? = some ta) (ho : o ∈ readsM ta) (h0 : o.val ≠ 0) (hn : writerM ts o.key o.val = n) (hd : isI ts L n = 1) : (⟨a, n, o.key⟩ : GRd) ∈ rdsL ts (dnM ts L) := by
  rcases src_writer hg o.key o.val h0 with ⟨m, h1, h2⟩ | ⟨h1, -⟩
  · have hmn : m = n := by omega
    subst hmn
    exact rds_mem.2 ⟨a, ta, o, hta, ho, by rw [h2], by rw [h2]; exact .inr ((dn_iff hg m).2 hd), by rw [h2]⟩
  · omega
/-- A read that has a source. -/
theorem rds_cases (hg : GoodTs ts) {r : GRd} (h : r ∈ rdsL ts (dnM ts L)) : ∃ (a : Nat) (ta : GTxn) (o : GOp), ts[a]? = some ta ∧ o ∈ readsM ta ∧ r.by_ = a ∧ r.key = o.key ∧ isI ts L a = 1 ∧
    (o.val = 0 ∧ r.of_ = -1 ∨ ∃ n : Nat, o.val ≠ 0 ∧ writerM ts o.key o.val = n ∧ r.of_ = n ∧ isI ts L n = 1) := by
  obtain ⟨a, ta, o, hta, ho, h1, h2, rfl⟩ := rds_mem.1 h
  refine ⟨a, ta, o, hta, ho, rfl, rfl, done_dn hg hta (reads_state ho), ?_⟩
  by_cases h0 : o.val = 0
  · refine .inl ⟨h0, ?_⟩
    show (srcM ts o.key o.val).1 = -1
    unfold srcM; rw [if_pos h0]
  · rcases src_writer hg o.key o.val h0 with ⟨n, h3, h4⟩ | ⟨-, h4⟩
    · refine .inr ⟨n, h0, h3, ?_, ?_⟩
      · show (srcM ts o.key o.val).1 = n
        rw [h4]
      · rw [h4] at h2
        rcases h2 with h2 | h2
        · simp only at h2; omega
        · exact (dn_iff hg n).1 h2
    · rw [h4] at h1; cases h1
theorem has1_eqv (hg : GoodTs ts) (hf : FaOk ts L) {a b : Nat} {ta tb : GTxn} (hta : ts[a]? = some ta) (htb : ts[b]? = some tb) (hab : a ≠ b) (hda : isI ts L a = 1) (hdb : isI ts L b = 1) :
    hasR1 L ta tb a b = true ↔ ∃ p ∈ L, p.1.kind = 2 ∧ hasM ts (dnM ts L) p.1 = true ∧ (p.2 = true ∧ (a : Int) = p.1.a ∧ (b : Int) = p.1.b ∨ p.2 = false ∧ (a : Int) = p.1.b ∧ (b : Int) = p.1.a) := by
  have hab' : (a : Int) ≠ b := by omega
  unfold hasR1
  rw [List.any_eq_true]
  constructor
  · rintro ⟨key, hk, hh⟩
    simp only [ww1, Bool.and_eq_true] at hh
    obtain ⟨h1, h2, h3⟩ := hh
    obtain ⟨p, hp, h4, h5, h6⟩ := (ahead_iff hf hab').1 h3
    refine ⟨p, hp, h4, (hasM_iff hg).2 ?_, h6⟩
    rcases h6 with ⟨-, h7, h8⟩ | ⟨-, h7, h8⟩
    · exact ⟨a, b, ta, tb, h7.symm, h8.symm, hta, htb, hda, hdb, by rw [h5]; exact h1, by rw [h5]; exact h2⟩
    · exact ⟨b, a, tb, ta, h8.symm, h7.symm, htb, hta, hdb, hda, by rw [h5]; exact h2, by rw [h5]; exact h1⟩
  · rintro ⟨p, hp, h4, hm, h6⟩
    obtain ⟨x, y, tx, ty, e1, e2, htx, hty, -, -, w1, w2⟩ := (hasM_iff hg).1 hm
    have hw : wrB ta p.1.key = true ∧ wrB tb p.1.key = true := by
      rcases h6 with ⟨-, h7, h8⟩ | ⟨-, h7, h8⟩
      · have h9 : x = a := by omega
        have h10 : y = b := by omega
        subst h9 h10
        rw [hta] at htx; rw [htb] at hty
        cases htx; cases hty
        exact ⟨w1, w2⟩
      · have h9 : x = b := by omega
        have h10 : y = a := by omega
        subst h9 h10
        rw [htb] at htx; rw [hta] at hty
        cases htx; cases hty
        exact ⟨w2, w1⟩
    have hk := wr_key hg (List.mem_of_getElem? hta) hw.1
    obtain ⟨k, hkk⟩ : ∃ k : Nat, p.1.key = k := ⟨p.1.key.toNat, by omega⟩
    refine ⟨k, List.mem_range.2 (by omega), ?_⟩
    simp only [ww1, Bool.and_eq_true]
    rw [← hkk]
    exact ⟨hw.1, hw.2, (ahead_iff hf hab').2 ⟨p, hp, h4, rfl, h6⟩⟩
theorem refE_iff (hg : GoodTs ts) (hf : FaOk ts L) (e : GEdge) : e ∈ refE ts L ↔ e ∈ edgeL ts L := by
  rw [refE_mem, edge_mem]
  constructor
  · rintro ⟨a, b, k, ha, hb, h1, h3, hh, rfl⟩
    obtain ⟨ta, tb, hta, htb, hab, hda, hdb, hk⟩ := hasAll_iff.1 hh
    have h4 : k = 1 ∨ k = 2 ∨ k = 3 := by omega
    rcases h4 with rfl | rfl | rfl
    · rw [if_pos rfl] at hk
      obtain ⟨p, hp, h5, h6, h7⟩ := (has1_eqv hg hf hta htb hab hda hdb).1 hk
      exact .inr (.inr ⟨p, hp, a, b, h5, h6, h7, .inl ⟨by omega, rfl⟩⟩)
    · rw [if_neg (by decide), if_pos rfl] at hk
      obtain ⟨o, ho, hr⟩ := List.any_eq_true.1 hk
      simp only [r2B, Bool.and_eq_true, bne_iff_ne, ne_eq, beq_iff_eq] at hr
      exact .inl ⟨_, rds_wr hg htb ho hr.1 hr.2 hda, by simp, by simp only; omega, rfl⟩
    · rw [if_neg (by decide), if_neg (by decide)] at hk
      obtain ⟨o, ho, hr⟩ := List.any_eq_true.1 hk
      simp only [r3B, r3W, Bool.and_eq_true, Bool.or_eq_true, bne_iff_ne, ne_eq, beq_iff_eq, decide_eq_true_eq] at hr
      obtain ⟨hw, hr⟩ := hr
      by_cases h0 : o.val = 0
      · obtain ⟨o', ho', hk'⟩ := (writesM_key hg (List.mem_of_getElem? htb)).2 hw
        exact .inr (.inl ⟨b, tb, o', _, htb, (dn_iff hg b).2 hdb, ho', rds_of hg hta ho h0, by simp, by simp only; exact hk'.symm, by simp only; omega, rfl⟩)
      · obtain ⟨h5, h6, h7, h8⟩ := hr.resolve_left h0
        obtain ⟨n, hn⟩ : ∃ n : Nat, writerM ts o.key o.val = n := ⟨(writerM ts o.key o.val).toNat, by omega⟩
        rw [hn] at h6 h7 h8
        rw [Int.toNat_natCast] at h7
        have hv0 : o.val ≠ 0 := h0
        obtain ⟨tn, htn, hwn⟩ := writer_some hn
        obtain ⟨p, hp, h9, h10, h11⟩ := (ahead_iff hf (by omega : (n : Int) ≠ b)).1 h8
        refine .inr (.inr ⟨p, hp, n, b, h9, (hasM_iff hg).2 ?_, h11, .inr ⟨_, rds_wr hg hta ho hv0 hn h7, rfl, h10.symm, by simp only; omega, rfl⟩⟩)
        have hwn' := wr_of_wrote hwn
        rcases h11 with ⟨-, h12, h13⟩ | ⟨-, h12, h13⟩
        · exact ⟨n, b, tn, tb, h12.symm, h13.symm, htn, htb, h7, hdb, by rw [h10]; exact hwn', by rw [h10]; exact hw⟩
        · exact ⟨b, n, tb, tn, h13.symm, h12.symm, htb, htn, hdb, h7, by rw [h10]; exact hw, by rw [h10]; exact hwn'⟩
  · rintro (⟨r, hr, h0, h1, rfl⟩ | ⟨b, tb, o', r, htb, hd, ho', hr, h1, h2, h3, rfl⟩ | ⟨p, hp, A, B, h1, h2, h3, ⟨h4, rfl⟩ | ⟨r, hr, h5, h6, h7, rfl⟩⟩)
    · obtain ⟨b, tb, o, htb, ho, e1, e2, hdb, ⟨h5, h6⟩ | ⟨n, h5, h6, h7, h8⟩⟩ := rds_cases hg hr
      · omega
      · obtain ⟨tn, htn, -⟩ := writer_some h6
        refine ⟨n, b, 2, (List.getElem?_eq_some_iff.1 htn).1, (List.getElem?_eq_some_iff.1 htb).1, by omega, by omega, hasAll_iff.2 ⟨tn, tb, htn, htb, by omega, h8, hdb, ?_⟩, by rw [h7, e1]; rfl⟩
        rw [if_neg (by decide), if_pos rfl]
        exact List.any_eq_true.2 ⟨o, ho, by simp only [r2B, Bool.and_eq_true, bne_iff_ne, ne_eq, beq_iff_eq]; exact ⟨h5, h6⟩⟩
    · obtain ⟨a, ta, o, hta, ho, e1, e2, hda, ⟨h5, h6⟩ | ⟨n, h5, h6, h7, h8⟩⟩ := rds_cases hg hr
      · refine ⟨a, b, 3, (List.getElem?_eq_some_iff.1 hta).1, (List.getElem?_eq_some_iff.1 htb).1, by omega, by omega, hasAll_iff.2 ⟨ta, tb, hta, htb, by omega, hda, (dn_iff hg b).1 hd, ?_⟩, by rw [e1]; rfl⟩
        rw [if_neg (by decide), if_neg (by decide)]
        have hw := (writesM_key hg (List.mem_of_getElem? htb)).1 ⟨o', ho', (h2.symm.trans e2)⟩
        exact List.any_eq_true.2 ⟨o, ho, by unfold r3B; rw [hw, h5]; rfl⟩
      · omega
    · obtain ⟨x, y, tx, ty, e1, e2, htx, hty, d1, d2, w1, w2⟩ := (hasM_iff hg).1 h2
      obtain ⟨a, b, ta, tb, ha, hb, hta, htb, hda, hdb⟩ : ∃ (a b : Nat) (ta tb : GTxn), A = a ∧ B = b ∧ ts[a]? = some ta ∧ ts[b]? = some tb ∧ isI ts L a = 1 ∧ isI ts L b = 1 := by
        rcases h3 with ⟨-, h5, h6⟩ | ⟨-, h5, h6⟩
        · exact ⟨x, y, tx, ty, by omega, by omega, htx, hty, d1, d2⟩
        · exact ⟨y, x, ty, tx, by omega, by omega, hty, htx, d2, d1⟩
      subst ha hb
      refine ⟨a, b, 1, (List.getElem?_eq_some_iff.1 hta).1, (List.getElem?_eq_some_iff.1 htb).1, by omega, by omega, hasAll_iff.2 ⟨ta, tb, hta, htb, by omega, hda, hdb, ?_⟩, rfl⟩
      rw [if_pos rfl]
      exact (has1_eqv hg hf hta htb (by omega) hda hdb).2 ⟨p, hp, h1, h2, h3⟩
    · obtain ⟨x, y, tx, ty, e1, e2, htx, hty, d1, d2, w1, w2⟩ := (hasM_iff hg).1 h2
      obtain ⟨n', b, tn, tb, ha, hb, htn, htb, hdn, hdb, hwb⟩ : ∃ (a b : Nat) (ta tb : GTxn), A = a ∧ B = b ∧ ts[a]? = some ta ∧ ts[b]? = some tb ∧ isI ts L a = 1 ∧ isI ts L b = 1 ∧ wrB tb p.1.key = true := by
        rcases h3 with ⟨-, h8, h9⟩ | ⟨-, h8, h9⟩
        · exact ⟨x, y, tx, ty, by omega, by omega, htx, hty, d1, d2, w2⟩
        · exact ⟨y, x, ty, tx, by omega, by omega, hty, htx, d2, d1, w1⟩
      have hABne : A ≠ B := by
        have hok := choicesM_ok (hf.mem p hp)
        have hlt : p.1.a < p.1.b := by
          rcases hok.kind with ⟨h8, _⟩ | ⟨_, h8⟩
          · omega
          · exact h8
        rcases h3 with ⟨-, h8, h9⟩ | ⟨-, h8, h9⟩ <;> omega
      subst ha hb
      obtain ⟨a, ta, o, hta, ho, e3, e4, hda, ⟨h8, h9⟩ | ⟨n, h8, h9, h10, h11⟩⟩ := rds_cases hg hr
      · omega
      · have hnn : n = n' := by omega
        subst hnn
        refine ⟨a, b, 3, (List.getElem?_eq_some_iff.1 hta).1, (List.getElem?_eq_some_iff.1 htb).1, by omega, by omega, hasAll_iff.2 ⟨ta, tb, hta, htb, by omega, hda, hdb, ?_⟩, by rw [e3]; rfl⟩
        rw [if_neg (by decide), if_neg (by decide)]
        refine List.any_eq_true.2 ⟨o, ho, ?_⟩
        have hkk : p.1.key = o.key := by rw [← h6, e4]
        have hah := (ahead_iff hf hABne).2 ⟨p, hp, h1, hkk, h3⟩
        unfold r3B r3W
        rw [h9, Int.toNat_natCast, h11, hah, ← hkk, hwb, decide_eq_true (by omega : (0 : Int) ≤ (n : Int))]
        have : ((n : Int) != (b : Int)) = true := by simpa using hABne
        rw [this]; simp
theorem refE_edges (hg : GoodTs ts) (hf : FaOk ts L) : EdgesOf ts L (refE ts L) := ⟨refE_up ts L, refE_iff hg hf⟩
end
end Go.Proofs.Ytefpmcbpodlabaa

/- From the row's own reading of an argument of type []api.Event to the readable slice. Names no function. -/
namespace Go.Proofs.Ytefpmcbpodlabaa
open Go.RowKit
open Go.ChangeShapes Go.WideShapes

section
variable {H : Type} {enc : TypeId × Value → H} {w : World} {spare : Nat → Bool} {held : Bool}

theorem int_cell {m : Nat} {c : Value} {y : DataW H × List MemPlace} (h : DataW.trod enc Try.prog w 0 spare held m 3 [c] = some y) : ∃ n, c = vi n := by
  obtain ⟨n, hc, -, -⟩ := DataW.trod_int Try.underlying3 h
  exact ⟨n, by simpa using hc⟩

theorem cells_int : Try.prog.cellsOf 3 = 1 := by kernel_rfl
theorem cells_op : Try.prog.cellsOf 48 = 3 := by kernel_rfl
theorem cells_ops : Try.prog.cellsOf 44 = 1 := by kernel_rfl
theorem cells_event : Try.prog.cellsOf 119 = 3 := by kernel_rfl

set_option maxRecDepth 100000 in
theorem op_cells {m : Nat} {cs : List Value} {y : DataW H × List MemPlace} (hl : cs.length = 3) (h : DataW.trod enc Try.prog w 0 spare held m 48 cs = some y) : ∃ o, EOp w cs o := by
  obtain ⟨y0, y1, y2, n, -, -, h0, h1, h2⟩ := Deep.trod_struct3 Try.underlying48 h
  match cs, hl with
  | [c0, c1, c2], _ =>
    dsimp only at h0 h1 h2
    rw [cells_int] at h0 h1 h2
    obtain ⟨a, rfl⟩ := int_cell h0
    obtain ⟨b, rfl⟩ := int_cell h1
    obtain ⟨c, rfl⟩ := int_cell h2
    exact ⟨⟨a, b, c⟩, rfl⟩

set_option maxRecDepth 100000 in
theorem ops_read {m : Nat} {v : Value} {y : DataW H × List MemPlace} (h : DataW.trod enc Try.prog w 0 spare held m 44 [v] = some y) : ∃ l, RdOps w v l :=
  rds_of_trod Try.underlying44 cells_op (by omega) h fun _ _ _ hl hy => op_cells hl hy

set_option maxRecDepth 100000 in
theorem event_cells {m : Nat} {cs : List Value} {y : DataW H × List MemPlace} (hl : cs.length = 3) (h : DataW.trod enc Try.prog w 0 spare held m 119 cs = some y) : ∃ e, EEvent w cs e := by
  obtain ⟨y0, y1, y2, n, -, -, h0, h1, h2⟩ := Deep.trod_struct3 Try.underlying119 h
  match cs, hl with
  | [c0, c1, c2], _ =>
    dsimp only at h0 h1 h2
    rw [cells_int] at h0 h1
    rw [cells_ops] at h2
    obtain ⟨a, rfl⟩ := int_cell h0
    obtain ⟨b, rfl⟩ := int_cell h1
    obtain ⟨l, hr⟩ := ops_read h2
    exact ⟨⟨a, b, l⟩, c2, rfl, hr⟩

set_option maxRecDepth 100000 in
theorem events_of_trod {v : Value} {d : DataW H} {ps : List MemPlace} (hv : ∃ a l c, v = .slice a l c) (h : DataW.Trod enc Try.prog w 0 spare held 31 v d ps) : ∃ es, RdEvents w v es := by
  obtain ⟨fuel, hf⟩ := h
  obtain ⟨a, l, c, rfl⟩ := hv
  exact rds_of_trod Try.underlying31 cells_event (by omega) hf fun _ _ _ hl hy => event_cells hl hy
end
set_option maxRecDepth 100000 in
theorem events_of_row {H : Type} {enc : TypeId × Value → H} {w : World} {spare : Nat → Bool} {held : Bool} {base : Nat} {v : Value} {d : DataW H} {ps : List MemPlace} (hk : Value.okWide Try.prog w .any base 31 v) (h : DataW.Trod enc Try.prog w 0 spare held 31 v d ps) : ∃ es, RdEvents w v es :=
  events_of_trod (okWide_slice Try.underlying31 hk) h
end Go.Proofs.Ytefpmcbpodlabaa

/- cruciblelaw10.DepsEdges. -/
namespace Go.Proofs.Ytefpmcbpodlabaa.depsEdges
open Go.RowKit Go.Maps Go.Proofs.Ytefpmcbpodlabaa
attribute [local go_sem] Oper.semAt_some

set_option maxRecDepth 100000 in
set_option maxHeartbeats 8000000 in
theorem walk (v u : Value) (es : List GEvent) (picks : List Int) (w : World) (hv : RdEvents w v es) (hu : RdInts w u picks) :
    Calls Try.prog 4 #[v, u] w fun e w' => e = .returned (.bool true) ∧ Below w.heap.size w w' := by
  have HV := Lib.hid hv
  have HU := Lib.hid hu
  clear hv hu
  go_enter Try.func4, Try.ntmps4
  go_upto_region 4 with (first
    | (go_at_call 12; refine (head10_call _).mono ?_; rintro e w1 ⟨rfl, hb1⟩; have HB1 := Lib.hid hb1; have HV1 := Lib.hid (HV.out.later hb1); clear hb1)
    | (go_at_call 14; refine (made10_call _ es _ HV1.out).mono ?_; rintro e w2 ⟨v2, b, rfl, hg, hb2⟩))
  have HB2 := Lib.hid (HB1.out.trans (hb2.mono HB1.out.size))
  clear hb2
  cases b with
  | false =>
    go_wp2_with fail
    go_ret
    exact ⟨by rfl, HB2.out⟩
  | true =>
    obtain ⟨ts, hr, hgood, -⟩ := hg rfl
    have HR := Lib.hid hr
    have HGD := Lib.hid hgood
    have HOK := Lib.hid hgood.ok
    have HUN := Lib.hid hgood.uniq
    have htl : ts.length ≤ 60 := hgood.len
    clear hg hr hgood
    go_upto_region 7 with (go_at_call 15; refine (some10_call _ _ ts picks _ HR.out HOK.out (by omega) HUN.out (HU.out.later HB2.out)).mono ?_; rintro e w3 ⟨L, m, sv, rfl, hm0, hM, hS, hkeys, hll, hmem, hb3⟩)
    have HM := Lib.hid (FaV.of hM)
    have HS := Lib.hid hS
    have HB3 := Lib.hid (HB2.out.trans (hb3.mono HB2.out.size))
    have HR3 := Lib.hid (HR.out.later hb3)
    have HFA := Lib.hid (show FaOk ts L from ⟨hmem, hkeys⟩)
    have HSM := Lib.hid (small_good (L := L) HGD.out (by omega))
    clear hM hS hkeys hb3 hll hmem hm0
    go_upto_region 8 with (go_at_call 16; refine (edges_call _ _ ts L 12 w3 HR3.out HOK.out (by omega) HM.out HSM.out.ops HSM.out.room).mono ?_; rintro e4 w4 ⟨v4, l, rfl, ho4, he4, hb4⟩; have HO4 := Lib.hid ho4; have HE4 := Lib.hid (edges_ext he4.1 (refE_edges HGD.out HFA.out).1 (fun p => (he4.2 p).trans ((refE_edges HGD.out HFA.out).2 p).symm)); have HB4 := Lib.hid (HB3.out.trans (hb4.mono HB3.out.size)); have HR4 := Lib.hid (HR3.out.later hb4); have HS4 := Lib.hid (HS.out.later hb4); clear ho4 he4 hb4)
    go_upto_region 9 with (go_at_call 17; refine (refEdges_call _ sv ts L w4 HR4.out HOK.out HS4.out (by omega)).mono ?_; rw [← HE4.out]; rintro e5 w5 ⟨v5, rfl, ho5, hb5⟩; have HO5 := Lib.hid ho5.rd; have HB5 := Lib.hid (HB4.out.trans (hb5.mono HB4.out.size)); have HO45 := Lib.hid (HO4.out.rd.later hb5); clear ho5 hb5)
    obtain ⟨a4, n4, c4, rfl, e9, hml, -⟩ := HO45.out.at
    subst e9
    obtain ⟨a5, n5, c5, rfl, e9, -, -⟩ := HO5.out.at
    subst e9
    have hnn : ((l.length : Int) != (l.length : Int)) = false := by simp
    go_wp2_with fail
    go_loopw [40] (fun i wr => ∃ k : Nat, k ≤ l.length ∧ i = .int .i64 k ∧ Hid (Below w5.heap.size w5 wr)) (fun i _ => l.length - (intOf i).toNat)
    case atStart => exact ⟨0, Nat.zero_le _, rfl, Lib.hid (Below.refl _ _)⟩
    case round =>
      obtain ⟨wj, rfl⟩ : ∃ wj : World, wj = wr := ⟨_, rfl⟩
      obtain ⟨k, hk, rfl, HJ⟩ := hrel
      have HBJ := Lib.hid (HB5.out.trans (HJ.out.mono HB5.out.size))
      by_cases hlt : k < l.length
      · have k1 : decide ((k : Int) < l.length) = true := decide_eq_true (by omega)
        have k2 : (k : Int) < l.length := by omega
        have k3 : (0 : Int) ≤ (k : Int) := by omega
        have hwk : IntKind.i64.wrap ((k : Int) + 1) = (k : Int) + 1 := IntWalk.i64_in _ (by omega)
        obtain ⟨e, he⟩ := some_at hlt
        obtain ⟨_, _, _, e5, -, -, hcl⟩ := (HO45.out.later HJ.out).at
        cases e5
        obtain ⟨b, off, rfl, c0, c1, c2'⟩ := hcl k e he
        obtain ⟨_, _, _, e6, -, -, hcl2⟩ := (HO5.out.later HJ.out).at
        cases e6
        obtain ⟨b2, off2, rfl, y0, y1, y2⟩ := hcl2 k e he
        have q : ∀ W, (binOp .neq 27 (edA e) (edA e)).run Try.prog W = .ok (.bool false) W := fun W => by rw [neqE, decide_eq_true rfl]; rfl
        clear hcl hcl2 he
        go_upto_region 14 with fail
        go_quiet (fail)
        go_wp2_with fail
        exact ⟨⟨k + 1, by omega, by go_num, Lib.hid (below_drewN HJ.out _)⟩, by simp only [intOf]; omega⟩
      · have k1 : decide ((k : Int) < l.length) = false := decide_eq_false (by omega)
        go_wp2_with fail
        go_ret
        exact ⟨rfl, HBJ.out⟩
end Go.Proofs.Ytefpmcbpodlabaa.depsEdges
