/- Texts of one proof, one behind the other: L12p. -/
import Derived.Shelf.SlSortCmp.Insertion
import Derived.Sort.Walk13a
import Derived.Sort.AssemblyPlain
import Derived.Shelf.SlSortCmp.Kit1
import Derived.Sort.WalkA
import Derived.Sort.Lot0
import Derived.Shelf.SlSortCmp.BreakPatterns1
import Derived.Sort.LotD1
import Derived.Sort.Walk13
import Derived.Sort.WalkB2
import Derived.Sort.WalkB12
import Derived.BigQuiet
import Derived.Sort.WalkB3
import Derived.Shelf.SlGeneric
import Derived.Shelf.SlLaysF
import Derived.Test.YtnacoplokjdglaaGreatProg
import Derived.Test.YtnacoplokjdglaaGreatKp1
import Derived.Test.YtnacoplokjdglaaGreatKp2
import Derived.Test.YtnacoplokjdglaaGreatKp3
import Derived.Test.YtnacoplokjdglaaGreatKp4
import Derived.Test.YtnacoplokjdglaaGreatKp5
import Derived.Test.YtnacoplokjdglaaGreatKp6
import Derived.Test.YtnacoplokjdglaaGreatKp7
import Derived.Test.YtnacoplokjdglaaGreatKp8
import Derived.Test.YtnacoplokjdglaaGreatKp9
import Derived.Test.YtnacoplokjdglaaGreatKp10
import Derived.Test.YtnacoplokjdglaaGreatKp11
import Derived.Test.YtnacoplokjdglaaGreatKp12
import Derived.Test.YtnacoplokjdglaaGreatKp13
import Derived.Test.YtnacoplokjdglaaGreatKp14
import Derived.Test.YtnacoplokjdglaaGreatKp15
import Derived.Test.YtnacoplokjdglaaGreatKp16
import Derived.Test.YtnacoplokjdglaaGreatKp17
import Derived.Test.YtnacoplokjdglaaGreatKp18
import Derived.Test.YtnacoplokjdglaaGreatKp19
import Derived.Test.YtnacoplokjdglaaGreatKp20
import Derived.Test.YtnacoplokjdglaaGreatKp21
import Derived.Test.YtnacoplokjdglaaGreatKp22
import Derived.Test.YtnacoplokjdglaaGreatKp23
import Derived.Test.YtnacoplokjdglaaGreatKp24
set_option linter.all false
namespace Go.Proofs.YtnacoplokjdglaaGreat
open Go.RowKit Go.Maps
section
open Go.ChangeShapes Go.WideShapes
set_option maxRecDepth 100000 in
theorem intss_of_row {H : Type} {enc : TypeId × Value → H} {w : World} {spare : Nat → Bool} {held : Bool} {base : Nat} {v : Value} {d : DataW H} {ps : List MemPlace} (hk : Value.okWide Tryz.prog w .any base 59 v) (h : DataW.Trod enc Tryz.prog w 0 spare held 59 v d ps) : ∃ l, RdNodes w v l := by
  obtain ⟨a, l, c, rfl⟩ := okWide_slice Tryz.underlying59 hk
  obtain ⟨fuel, hf⟩ := h
  refine rds_of_trod Tryz.underlying59 (show Tryz.prog.cellsOf 58 = 1 from by kernel_rfl) (by omega) hf fun m cs y hl hy => ?_
  match cs, hl with
  | [c0], _ =>
    obtain ⟨xs, hx⟩ := rds_of_trod (E := EInt) Tryz.underlying58 (show Tryz.prog.cellsOf 3 = 1 from by kernel_rfl) (by omega) hy fun m cs y _ hy => by
      obtain ⟨n, rfl, _, hw⟩ := DataW.trod_int Tryz.underlying3 hy
      exact ⟨n, rfl, wf_i64 hw⟩
    exact ⟨xs, c0, rfl, hx⟩
end
theorem brk_refP {ts : List GTxn} {L : FaL} {level : Int} {l : List GEdge} (he : EdgesOf ts L l) : Brk ts L level ↔ Rounds (StepK l (level == 1)) := by
  rw [rounds_iff]
  constructor
  · rintro ⟨l', he', hr⟩
    have : l' = l := edges_ext he'.1 he.1 (fun p => (he'.2 p).trans (he.2 p).symm)
    subst this
    exact hr
  · exact fun hr => ⟨l, he, hr⟩
theorem mem_put {O : OrdL} {x : Int} {v : Value × List Int} {p : Int × (Value × List Int)} (h : p ∈ putM O x v) : p = (x, v) ∨ p ∈ O := by
  unfold putM at h
  split at h
  · obtain ⟨q, hq, rfl⟩ := List.mem_map.1 h
    split
    · exact .inl rfl
    · exact .inr hq
  · rcases List.mem_append.1 h with h | h
    · exact .inr h
    · exact .inl (List.mem_singleton.1 h)
theorem OrdR.put {w : World} {O : OrdL} (h : OrdR w O) {x : Int} {v : Value} {l : List Int} (hv : RdInts w v l) : OrdR w (putM O x (v, l)) := fun p hp => by
  rcases mem_put hp with rfl | hp
  · exact hv
  · exact h p hp
theorem OrdR.g {w : World} {O : OrdL} (h : OrdR w O) (hl : ∀ p ∈ O, p.2.2.length ≤ 60) : OrdG w O := fun key v l _ hg => by
  have hm := getM_some hg
  exact ⟨h _ hm, by have := hl _ hm; simp only at this; omega⟩
theorem ord60 {O : OrdL} (hl : ∀ p ∈ O, p.2.2.length ≤ 60) (key : Nat) : (ordL O key).length ≤ 60 := by
  cases hg : getM O (key : Int) with
  | none => unfold ordL; rw [hg]; simp
  | some p => rw [ordL_of hg]; exact hl _ (getM_some hg)
theorem leftL_snoc (x : Int) : ∀ (ws l : List Int), leftL l (ws ++ [x]) = (leftL l ws).bind (fun l' => if 0 ≤ lastAt l' x l'.length then some (l'.eraseIdx (lastAt l' x l'.length).toNat) else none)
  | [], l => by
    rw [List.nil_append, leftL, leftL]
    simp only [Option.bind_some]
    split <;> rfl
  | z :: ws, l => by
    rw [List.cons_append, leftL, leftL]
    split
    · exact leftL_snoc x ws _
    · rfl
theorem leftL_none {x : Int} : ∀ {ws us l : List Int}, leftL l ws = none → leftL l (ws ++ us) = none
  | [], us, l, h => by simp [leftL] at h
  | z :: ws, us, l, h => by
    rw [leftL] at h
    rw [List.cons_append, leftL]
    split
    · rename_i h1; rw [if_pos h1] at h; exact leftL_none (x := x) h
    · rfl
/-- What cert.Holds says at a Pass, whatever is told. -/
def HAnyQ (ts : List GTxn) (level : Int) (dn : List Bool) (O : OrdL) (w : World) (e : Ending) (w' : World) : Prop := ∃ b : Bool, e = .returned (.bool b) ∧ (b = true ↔ dn.length = ts.length ∧ passB ts level dn O) ∧ Below w.heap.size w w'
theorem holds_anyP (v : Value) (es : List GEvent) (ts : List GTxn) (level : Int) (da : Option Addr) (dc : Nat) (om : Option Nat) (dn : List Bool) (O : OrdL) (w : World) (hv : RdEvents w v es) (hes : es.length ≤ 60)
    (hh : histH es = some ts) (hlv : level = 1 ∨ level = 2) (hd : RdB w (.slice da dn.length dc) dn) (hdl : dn.length ≤ 4096) (hO : LookO w (.map om) O) :
    Calls Tryz.prog 25 #[v, vi level, .agg #[vi 1, vi 0, vi 0, vi 0, vi 0, .slice none 0 0, .slice da dn.length dc, .map om]] w (HAnyQ ts level dn O w) := by
  by_cases h : dn.length = ts.length
  · have hd' := hd
    rw [h] at hd'
    rw [h]
    refine (holds_pass v es ts level 0 (0, 0, 0) none 0 0 da dc om dn O w hv hes hh hlv hd' h hO).mono ?_
    rintro e w' ⟨b, h1, h2, h3⟩
    exact ⟨b, h1, by rw [h2]; exact ⟨fun h4 => ⟨h, h4⟩, fun h4 => h4.2⟩, h3⟩
  · refine (holds_short v es ts level 0 (0, 0, 0) none 0 0 da dn.length dc om w hv hes hh hlv h hdl).mono ?_
    rintro e w' ⟨h1, h2⟩
    exact ⟨false, h1, ⟨fun h => (by cases h), fun h4 => absurd h4.1 h⟩, h2⟩

set_option maxRecDepth 100000 in
set_option maxHeartbeats 1000000 in
theorem said12_short (a : Option Addr) (c tl : Nat) (da : Option Addr) (dl dc : Nat) (mv : Value) (w : World) (hd : dl ≠ tl) (htl : tl ≤ 4096) (hdl : dl ≤ 4096) :
    Calls Tryz.prog 26 #[.slice a tl c, .slice da dl dc, mv] w fun e w' => e = .returned (.tuple #[.slice none 0 0, .bool false]) ∧ Below w.heap.size w w' := by
  have hne : ((dl : Int) != (tl : Int)) = true := by simp; omega
  have HB := Lib.hid ((Below.refl w.heap.size w).alloc (Nat.le_refl _) (.cells #[] 109))
  clear hd
  go_enter Tryz.func26, Tryz.ntmps26
  go_wp2_with fail
  go_ret2
  exact ⟨rfl, HB.out⟩

namespace certPasses
attribute [local go_sem] Oper.semAt_some

/-- What the law finds fit. -/
def OkF (ts : List GTxn) (dn : List Bool) : Prop := dn.length = ts.length ∧ Fits ts dn (sd0 (choicesM ts) dn)
def PermK (ts : List GTxn) (dn : List Bool) (O : OrdL) (key : Nat) : Prop := (ordL O key).Perm (wrl ts (sd0 (choicesM ts) dn) key)

set_option maxRecDepth 100000 in
set_option maxHeartbeats 16000000 in
theorem walk (v dv kv ov : Value) (level : Int) (es : List GEvent) (dn : List Bool) (ks : List Int) (os : List (List Int)) (w : World) (hv : RdEvents w v es) (hd : RdB w dv dn) (hk : RdInts w kv ks) (ho : RdNodes w ov os) :
    Calls Tryz.prog 9 #[v, vi level, dv, kv, ov] w fun e w' => e = .returned (.bool true) ∧ Below w.heap.size w w' := by
  have HV := Lib.hid hv
  have HD := Lib.hid hd
  have HK := Lib.hid hk
  have HOS := Lib.hid ho
  obtain ⟨a, n, c, rfl, rfl, hm, -⟩ := hv.at
  obtain ⟨da, dl, dc, rfl, rfl, hdm, -⟩ := hd.at
  obtain ⟨ka, kl, kc, rfl, rfl, hkm, -⟩ := hk.at
  obtain ⟨oa, ol, oc, rfl, rfl, hom, -⟩ := id ho
  obtain ⟨y, hy, hy01⟩ := and1 level
  have hmkm := @run_makeMap Tryz.prog
  clear hv hd hk ho
  go_enter Tryz.func9, Tryz.ntmps9
  go_upto_region 3 with (go_at_call 23; refine (head12_call w).mono ?_; rintro e1 w1 ⟨rfl, hb1⟩; have HB1 := Lib.hid hb1; clear hb1)
  have HM0 := Lib.hid (show MapO (w1.alloc (.map #[] 0)) w1.heap.size [] from MapT.made w1)
  have HBm := Lib.hid ((Below.refl w1.heap.size w1).alloc (Nat.le_refl _) (.map #[] 0))
  have hwm : (w1.alloc (.map #[] 0)).heap.size = w1.heap.size + 1 := by simp
  have HX2 := Lib.hid (show ((w1.alloc (.map #[] 0)).alloc (.cells #[vi 1, vi 0, vi 0, vi 0, vi 0, .slice none 0 0, .slice da dn.length dc, .map (some w1.heap.size)] 39)).heap[w1.heap.size + 1]? = some (.cells #[vi 1, vi 0, vi 0, vi 0, vi 0, .slice none 0 0, .slice da dn.length dc, .map (some w1.heap.size)] 39) from by
    have h := alloc_at (w1.alloc (.map #[] 0)) (.cells #[vi 1, vi 0, vi 0, vi 0, vi 0, .slice none 0 0, .slice da dn.length dc, .map (some w1.heap.size)] 39)
    rw [hwm] at h
    exact h)
  have HB2 := Lib.hid (HBm.out.alloc HBm.out.size (.cells #[vi 1, vi 0, vi 0, vi 0, vi 0, .slice none 0 0, .slice da dn.length dc, .map (some w1.heap.size)] 39))
  have HM2 := Lib.hid (HM0.out.frame (Below.heap_alloc (w1.alloc (.map #[] 0)) (.cells #[vi 1, vi 0, vi 0, vi 0, vi 0, .slice none 0 0, .slice da dn.length dc, .map (some w1.heap.size)] 39) w1.heap.size (by simp)))
  clear hwm
  go_upto_region 4 with fail
  clear hmkm
  generalize (w1.alloc (.map #[] 0)).alloc (.cells #[vi 1, vi 0, vi 0, vi 0, vi 0, .slice none 0 0, .slice da dn.length dc, .map (some w1.heap.size)] 39) = w2 at *
  have HKz := Lib.hid (HK.out.later HB1.out)
  have HOz := Lib.hid (HOS.out.later HB1.out)
  go_wp2_with fail
  go_loopw [12, 13, 35] (fun _ _ n wr => ∃ (k : Nat) (O : OrdL), k ≤ ks.length ∧ n = .int .i64 k ∧ Hid (MapO wr w1.heap.size O ∧ OrdR w1 O ∧ wr.heap[w1.heap.size + 1]? = some (.cells #[vi 1, vi 0, vi 0, vi 0, vi 0, .slice none 0 0, .slice da dn.length dc, .map (some w1.heap.size)] 39) ∧ Below w1.heap.size w1 wr)) (fun _ _ n _ => ks.length - (intOf n).toNat)
  case atStart => exact ⟨0, [], Nat.zero_le _, rfl, Lib.hid ⟨HM2.out, fun p hp => (by cases hp), HX2.out, HB2.out⟩⟩
  case round =>
    clear HM0 HM2 HX2 HB2 HBm
    obtain ⟨wr, rfl⟩ : ∃ wk : World, wk = wr := ⟨_, rfl⟩
    obtain ⟨k, O, hk, rfl, HJ⟩ := hrel
    have HMr := Lib.hid HJ.out.1
    have HOr := Lib.hid HJ.out.2.1
    have HXr := Lib.hid HJ.out.2.2.1
    have HBr := Lib.hid HJ.out.2.2.2
    clear HJ
    have hbr := HBr.out.size
    have hmr := HMr.out.lt
    have x7 : wr.cell? ⟨w1.heap.size + 1, 7, none⟩ = some (.map (some w1.heap.size)) := by rw [cell_of HXr.out]; rfl
    by_cases hlt : k < ks.length
    · have hkI : (k : Int) < (ks.length : Int) := by omega
      have wk1 : IntKind.i64.wrap ((k : Int) + 1) = ((k + 1 : Nat) : Int) := by rw [IntWalk.i64_in _ (by omega)]; omega
      obtain ⟨x, hx⟩ := some_at hlt
      obtain ⟨_, _, _, e5, -, -, hul⟩ := (HKz.out.later HBr.out).at
      cases e5
      obtain ⟨kb, ko, rfl, k0, hx64⟩ := hul k x hx
      have HX64 := Lib.hid hx64
      clear hul hx hx64
      by_cases hko : k < os.length
      · have hoI : (k : Int) < (os.length : Int) := by omega
        obtain ⟨o, hoo⟩ := some_at hko
        obtain ⟨_, _, _, e6, _, _, _, _, hcl⟩ := HOz.out.later HBr.out
        cases e6
        obtain ⟨ob, oo, cs, rfl, hcl2, hcs, u, rfl, hru⟩ := hcl k o hoo
        obtain ⟨ua, un, uc, rfl, rfl, hum, -⟩ := hru.at
        have z0 : wr.cell? ⟨ob, oo + k, none⟩ = some (.slice ua o.length uc) := by have := hcs 0 _ rfl; simpa using this
        have HRU := Lib.hid (show RdInts w1 (.slice ua o.length uc) o from by
          obtain ⟨_, _, _, e7, _, _, _, _, hcl'⟩ := HOz.out
          cases e7
          obtain ⟨ob', oo', cs', e8, _, hcs', u', e9, hru'⟩ := hcl' k o hoo
          cases e8
          subst e9
          have h1 := cell_later HBr.out (hcs' 0 _ rfl)
          have h2 : wr.cell? ⟨ob, oo + (k * 1 + 0), none⟩ = some (.slice ua o.length uc) := by simpa using z0
          rw [h2] at h1
          cases h1
          exact hru')
        clear hcl hcs hoo hcl2 hru
        go_upto_region 8 with fail
        go_still_tail 8, (by kernel_rfl)
        change wpList _ _ _ _ _ wr.drew
        have HMd := Lib.hid (show MapO wr.drew w1.heap.size O from HMr.out.frame rfl)
        have HXd := Lib.hid (show wr.drew.heap[w1.heap.size + 1]? = some (.cells #[vi 1, vi 0, vi 0, vi 0, vi 0, .slice none 0 0, .slice da dn.length dc, .map (some w1.heap.size)] 39) from HXr.out)
        have HBd := Lib.hid (show Below w1.heap.size w1 wr.drew from HBr.out.drew)
        have hbd : w1.heap.size + 1 < wr.drew.heap.size := (Array.getElem?_eq_some_iff.1 HXr.out).1
        clear x7 k0 z0
        generalize wr.drew = wd at *
        go_wp2_with (at_mapUpdate; refine wpList_mapUpdate_T (b := w1.heap.size) (eK := vi) (eV := fun x : Value × List Int => x.1) rfl _ _ _ rfl intKeyed vi_inj Tryz.underlying35 HMd.out rfl x (intKey HX64.out) rfl ((.slice ua o.length uc, o) : Value × List Int) rfl ?_; intro w4 hM4 hg4; have HM4 := Lib.hid hM4; have HX4 := Lib.hid ((hg4.block (w1.heap.size + 1) hbd (by simp)).trans HXd.out); have HB4 := Lib.hid (HBd.out.grown hg4 HBd.out.size (fun j hj => by cases hj; exact Nat.le_refl _)); clear hM4 hg4)
        refine ⟨⟨k + 1, putM O x (.slice ua o.length uc, o), by omega, by go_num, Lib.hid ⟨HM4.out, HOr.out.put HRU.out, HX4.out, HB4.out⟩⟩, ?_⟩
        simp only [intOf]; omega
      · have hoI : ¬ (k : Int) < (os.length : Int) := by omega
        have hoD : decide ((k : Int) < (os.length : Int)) = false := decide_eq_false hoI
        go_wp2_with fail
        refine ⟨⟨k + 1, O, by omega, by go_num, Lib.hid ⟨HMr.out, HOr.out, HXr.out, HBr.out⟩⟩, ?_⟩
        simp only [intOf]; omega
    · obtain rfl : k = ks.length := by omega
      have HBZ := Lib.hid (HB1.out.trans (HBr.out.mono HB1.out.size))
      have HEV := Lib.hid (HV.out.later HBZ.out)
      have HORr := Lib.hid (HOr.out.later HBr.out)
      have hxr := (Array.getElem?_eq_some_iff.1 HXr.out).1
      have xr := fun j => cell_of HXr.out j
      clear x7 HKz HOz
      go_upto_if 55 with (go_at_call 24; refine (big12_call _ es 1 0 (0, 0, 0) none 0 0 da dn.length dc w1.heap.size [] O wr HEV.out (nodes_none0 wr) HMr.out HORr.out).mono ?_; rintro e3 w3 ⟨bg, rfl, hbg, hb3⟩; have HBG := Lib.hid hbg; have HB3 := Lib.hid hb3; clear hbg hb3)
      have HB3z := Lib.hid (HBZ.out.trans (HB3.out.mono HBZ.out.size))
      cases bg with
      | true =>
        go_wp2_with fail
        go_ret
        exact ⟨rfl, HB3z.out⟩
      | false =>
        have HNB := Lib.hid (HBG.out (by first | rfl | trivial))
        have hes : es.length ≤ 60 := by have := HNB.out.es; omega
        have hdn := HNB.out.done
        clear HBG xr
        have HE3 := Lib.hid (HV.out.later HB3z.out)
        go_upto_region 13 with (go_at_call 14; go_loud (refine (of_callA _ es w3 HE3.out).mono ?_; rintro e5 w5 ⟨v5, p5, err, rfl, hok5, hbad5, ⟨a5, n5, c5, rfl⟩, hb5⟩); have HOK5 := Lib.hid hok5; have HB5 := Lib.hid (HB3.out.trans (hb5.mono HB3.out.size)); clear hok5 hbad5 hb5)
        have HB5z := Lib.hid (HBZ.out.trans (HB5.out.mono HBZ.out.size))
        by_cases h0 : err = 0
        case neg =>
          have c0 := bne_t h0
          clear h0
          go_wp2_with fail
          go_ret
          exact ⟨rfl, HB5z.out⟩
        obtain ⟨ts, hts, hrd⟩ := HOK5.out h0
        have HTS := Lib.hid hts
        have HRD := Lib.hid hrd
        obtain ⟨_, _, _, e5, e6, -, -⟩ := hrd.at
        cases e5
        subst e6
        subst h0
        clear hts hrd
        have HG := Lib.hid (hist_good hes HTS.out).1
        have htl := HG.out.len
        have hl1 : IntKind.i64.wrap (1 + y) = 1 + y := IntWalk.i64_in _ (by omega)
        have HLV := Lib.hid (show 1 + y = 1 ∨ 1 + y = 2 from by omega)
        have HM5 := Lib.hid (HMr.out.below HB5.out HMr.out.lt)
        have HX5 := Lib.hid ((HB5.out.block _ hxr).trans HXr.out)
        have HD5 := Lib.hid (HD.out.later HB5z.out)
        have HLO5 := Lib.hid (LookO.of_map HM5.out ((HORr.out.later HB5.out).g HNB.out.ord))
        have H60 := Lib.hid (fun (key : Nat) (_ : key < 16) => ord60 HNB.out.ord key)
        have hx5 := (Array.getElem?_eq_some_iff.1 HX5.out).1
        have x57 : w5.cell? ⟨w1.heap.size + 1, 7, none⟩ = some (.map (some w1.heap.size)) := by rw [cell_of HX5.out]; rfl
        clear HBr HB3 HB3z HE3 HMr HXr HOr HORr HEV hxr hbr hmr
        go_upto_region 16 with fail
        go_cut [17, 18] (fun f ok wx => ∃ (fa : Option Addr) (fn fc : Nat) (okb : Bool), f = .slice fa fn fc ∧ ok = .bool okb ∧ Hid ((okb = true → OkF ts dn ∧ fn = (saidL ts dn O).length ∧ OwSaid w5.heap.size wx (.slice fa fn fc) (saidL ts dn O)) ∧ (okb = false → ¬ OkF ts dn)) ∧ Below w5.heap.size w5 wx)
        case first =>
          by_cases hdl : dn.length = ts.length
          · have HDL := Lib.hid hdl
            have HD6 := Lib.hid (show RdB w5 (.slice da ts.length dc) dn from by have h := HD5.out; rwa [hdl] at h)
            have HSC := Lib.hid (show Calls Tryz.prog 26 #[.slice a5 ts.length c5, .slice da dn.length dc, .map (some w1.heap.size)] w5 (Said12Q ts dn O w5) from by rw [hdl]; exact said12_call _ ts da dc _ dn O w5 HRD.out HG.out HD6.out hdl HLO5.out H60.out)
            clear hdl
            go_wp2_with (go_at_call 26; refine HSC.out.mono ?_; rintro e6 w6 ⟨fa, fn, fc, okb, rfl, hq, hb6⟩; have HQ := Lib.hid hq.out; have HB6 := Lib.hid hb6; clear hq hb6)
            go_meet
            exact ⟨fa, fn, fc, okb, rfl, rfl, Lib.hid ⟨fun h => ⟨⟨HDL.out, (HQ.out.1 h).1⟩, (HQ.out.1 h).2⟩, fun h h2 => HQ.out.2 h h2.2⟩, HB6.out⟩
          · have HDL := Lib.hid hdl
            have HSS := Lib.hid (fun (a : Option Addr) (c : Nat) (mv : Value) (W : World) => said12_short a c ts.length da dn.length dc mv W hdl (by omega) (by omega))
            clear hdl
            go_wp2_with (go_at_call 26; refine (HSS.out _ _ _ w5).mono ?_; rintro e6 w6 ⟨rfl, hb6⟩; have HB6 := Lib.hid hb6; clear hb6)
            go_meet
            exact ⟨none, 0, 0, false, rfl, rfl, Lib.hid ⟨fun h => (by cases h), fun _ h2 => HDL.out h2.1⟩, HB6.out⟩
        case rest =>
          obtain ⟨w6, rfl⟩ : ∃ w6 : World, w6 = wc := ⟨_, rfl⟩
          obtain ⟨fa, fn, fc, okb0, rfl, rfl, hq, hb6⟩ := hcut
          have HQ := Lib.hid hq.out
          have HB6 := Lib.hid hb6
          have HB6z := Lib.hid (HB5z.out.trans (hb6.mono HB5z.out.size))
          have HR6 := Lib.hid (HRD.out.later hb6)
          have HX6 := Lib.hid ((hb6.block _ hx5).trans HX5.out)
          have HLO6 := Lib.hid (HLO5.out.later hb6)
          have HD6 := Lib.hid (HD5.out.later hb6)
          have hx6 := (Array.getElem?_eq_some_iff.1 HX6.out).1
          clear hq hb6 x57 HB5 HM5 HX5 HD5 HLO5 HRD hx5 HB5z
          go_wp2_with fail
          go_loopw [18, 19, 20, 22, 23, 24, 25, 95, 101] (fun ok n _ _ _ _ _ _ _ wr => ∃ (key : Nat) (okb : Bool), key ≤ 16 ∧ n = .int .i64 key ∧ ok = .bool okb ∧ Hid ((okb = true → okb0 = true ∧ ∀ k : Nat, k < key → PermK ts dn O k) ∧ (okb = false → okb0 = false ∨ ∃ k : Nat, k < 16 ∧ ¬ PermK ts dn O k)) ∧ Below w6.heap.size w6 wr) (fun _ n _ _ _ _ _ _ _ _ => 16 - (intOf n).toNat)
          case atStart => exact ⟨0, okb0, by omega, rfl, rfl, Lib.hid ⟨fun h => ⟨h, fun k hk => absurd hk (Nat.not_lt_zero _)⟩, fun h => .inl h⟩, Below.refl _ _⟩
          case round =>
            obtain ⟨wq, rfl⟩ : ∃ wq : World, wq = wr := ⟨_, rfl⟩
            obtain ⟨key, okb, hkey, rfl, rfl, hJ, hbq⟩ := hrel
            have HJ := Lib.hid hJ.out
            have HBq := Lib.hid hbq
            have HBqz := Lib.hid (HB6z.out.trans (hbq.mono HB6z.out.size))
            have HRq := Lib.hid (HR6.out.later hbq)
            have HXq := Lib.hid ((hbq.block _ hx6).trans HX6.out)
            have HLOq := Lib.hid (HLO6.out.later hbq)
            have HDq := Lib.hid (HD6.out.later hbq)
            have HEq := Lib.hid (HV.out.later HBqz.out)
            have xq := fun j => cell_of HXq.out j
            have hxq := (Array.getElem?_eq_some_iff.1 HXq.out).1
            clear hJ hbq
            cases okb with
            | false =>
              have HNP := Lib.hid (show ∀ lv, ¬ (dn.length = ts.length ∧ passB ts lv dn O) from fun lv hp => by
                obtain ⟨h1, F, hF, _⟩ := hp
                obtain ⟨h2, h3⟩ := hF.said
                rcases HJ.out.2 (by first | rfl | trivial) with h4 | ⟨k, hk, h4⟩
                · exact HQ.out.2 h4 ⟨h1, h2⟩
                · exact h4 (h3 k hk))
              go_wp2_with (go_at_call 25; refine (holds_anyP _ es ts (1 + y) da dc _ dn O wq HEq.out hes HTS.out HLV.out HDq.out (by omega) HLOq.out).mono ?_; rintro e9 w9 ⟨b9, rfl, hi9, hb9⟩; have hb0 : b9 = false := (by cases b9 with | false => rfl | true => exact absurd (hi9.1 rfl) (HNP.out _)); subst hb0; have HB9 := Lib.hid (HBqz.out.trans (hb9.mono HBqz.out.size)); clear hi9 hb9)
              all_goals
                go_ret
                exact ⟨rfl, HB9.out⟩
            | true =>
              have hok0 := (HJ.out.1 (by first | rfl | trivial)).1
              have HPK := Lib.hid (HJ.out.1 (by first | rfl | trivial)).2
              obtain ⟨hokf, hfn, hfo⟩ := HQ.out.1 hok0
              have HOKF := Lib.hid hokf
              have HSD := Lib.hid ((hfo.rd.later HBq.out))
              have HSDq := Lib.hid ((hfo.rd.later HBq.out))
              have HOK0 := Lib.hid hok0
              clear hokf hfo hfn hok0
              by_cases h16 : key < 16
              · have k16 : (key : Int) < 16 := by omega
                have wky : IntKind.i64.wrap ((key : Int) + 1) = ((key + 1 : Nat) : Int) := by rw [IntWalk.i64_in _ (by omega)]; omega
                obtain ⟨lv, hlk, hrl, hll⟩ := HLOq.out key h16
                have hlkq := hlk
                obtain ⟨L, hL⟩ : ∃ L, ordL O key = L := ⟨_, rfl⟩
                have HL := Lib.hid hL
                have hl60 : L.length ≤ 60 := by rw [← hL]; exact H60.out key h16
                rw [hL] at hrl
                obtain ⟨la, ll, lc, rfl, rfl, hlm, -⟩ := hrl.at
                have HRL := Lib.hid hrl
                have HO0 := Lib.hid (World.ownsRow_lit (base := wq.heap.size) (e := 3) (size := 1) wq #[] 0 (Nat.le_refl _) (by simp [maxLen]) rfl)
                have HA0 := Lib.hid ((Below.refl wq.heap.size wq).alloc (Nat.le_refl _) (.cells #[] 3))
                have hlk1 := hlk (wq.alloc (.cells #[] 3)) HA0.out
                have xa : (wq.alloc (.cells #[] 3)).cell? ⟨w1.heap.size + 1, 7, none⟩ = some (.map (some w1.heap.size)) := cell_later HA0.out (by rw [xq]; rfl)
                have HSL := Lib.hid (hrl.src.below HA0.out)
                clear hrl hL hll hlkq hlk
                go_upto_region 21 with (at_builtin; refine wpList_append_src rfl _ _ 58 rfl eltI wq.heap.size 0 [] HO0.out rfl L.length _ HSL.out rfl (viY_one _) (by omega) (by omega) (by first | (simp; done) | (simp; omega)) ?_; intro v7 w7 ho7 hg7 _; have HL7 := Lib.hid (show OwI wq.heap.size w7 v7 L from by have h := ho7; unfold OwI; simpa using h); have HB7 := Lib.hid (HA0.out.grown hg7 (by first | (simp; done) | (simp; omega)) (fun j hj => (World.ownsRow.lt HO0.out j hj).1)); clear ho7 hg7)
                clear hlk1 xa xq
                obtain ⟨la7, lc7, rfl⟩ := Gr.own_shape (show World.ownsRow _ _ _ _ v7 L.length _ from HL7.out)
                have HB67 := Lib.hid (HBq.out.trans (HB7.out.mono HBq.out.size))
                have HWF := Lib.hid (show wrl ts (saidL ts dn O) key = wrl ts (sd0 (choicesM ts) dn) key from wrl_fact (saidL_fact 16) sd0_fact1 _)
                obtain ⟨WS, hWS⟩ : ∃ WS, wrl ts (saidL ts dn O) key = WS := ⟨_, rfl⟩
                have hwl : WS.length ≤ ts.length := by rw [← hWS]; exact wrlK_le _ _ _ _
                have HPE := Lib.hid (show PermK ts dn O key ↔ L.Perm WS from by unfold PermK; rw [HL.out, ← HWF.out, hWS])
                have HWB := Lib.hid (show ∀ x ∈ WS, i64 x from fun x hx => by
                  rw [← hWS] at hx
                  obtain ⟨i, hi, rfl, _⟩ := wrl_mem.1 hx
                  unfold i64; omega)
                have HRW := Lib.hid (show Calls Tryz.prog 27 #[.slice a5 ts.length c5, .slice fa fn fc, vi key] w7 (fun e w' => ∃ v', e = .returned v' ∧ OwI w7.heap.size w' v' WS ∧ Below w7.heap.size w7 w') from by rw [← hWS]; exact refWriters_call _ _ ts (saidL ts dn O) (key : Int) w7 (HRq.out.later HB7.out) HG.out (HSD.out.later HB7.out))
                clear hWS
                go_wp2_with (go_at_call 27; refine HRW.out.mono ?_; rintro e8 w8 ⟨v8, rfl, ho8, hb8⟩; have HW8 := Lib.hid ho8; have HB8 := Lib.hid hb8; obtain ⟨wa8, wc8, rfl⟩ := Gr.own_shape (show World.ownsRow _ _ _ _ v8 WS.length _ from ho8); clear ho8 hb8)
                have HWI := Lib.hid (show OwI w7.heap.size w8 (.slice wa8 WS.length wc8) WS from HW8.out)
                have HLA := Lib.hid (show ∀ z : Addr, la7 = some z → z.block < w7.heap.size from fun z hz => (World.ownsRow.lt HL7.out z.block (by rw [hz]; rfl)).2)
                have HB78 := Lib.hid (HB7.out.trans (HB8.out.mono HB7.out.size))
                have HL8 := Lib.hid (show OwI wq.heap.size w8 (.slice la7 L.length lc7) L from own_below HL7.out (by have := HB8.out; exact this))
                clear HW8 HWF HL7 HRL HSL HO0 HRW
                go_loopw [18, 20, 22, 23, 24, 25, 95, 101] (fun ok lv _ _ _ _ n _ wr => ∃ (i : Nat) (l : List Int) (ga : Option Addr) (gc : Nat), i ≤ WS.length ∧ n = .int .i64 i ∧ ok = .bool true ∧ lv = .slice ga l.length gc ∧ Hid (OwI wq.heap.size wr (.slice ga l.length gc) l ∧ leftL L (WS.take i) = some l ∧ l.length ≤ 60 ∧ Below wq.heap.size wq wr ∧ OwI w7.heap.size wr (.slice wa8 WS.length wc8) WS ∧ ∀ z : Addr, ga = some z → z.block < w7.heap.size)) (fun _ _ _ _ _ _ n _ _ => WS.length - (intOf n).toNat)
                case atStart => exact ⟨0, L, la7, lc7, Nat.zero_le _, rfl, rfl, rfl, Lib.hid ⟨HL8.out, by rw [List.take_zero, leftL], hl60, HB78.out, HWI.out, HLA.out⟩⟩
                case round =>
                  clear HL8 HWI HB78 HB8 HLA
                  obtain ⟨wp, rfl⟩ : ∃ wp : World, wp = wr := ⟨_, rfl⟩
                  obtain ⟨i, l, ga, gc, hi, rfl, rfl, rfl, hJ3⟩ := hrel
                  have HLp := Lib.hid hJ3.out.1
                  have HLF := Lib.hid hJ3.out.2.1
                  have hlp := hJ3.out.2.2.1
                  have HBp := Lib.hid hJ3.out.2.2.2.1
                  have HWp := Lib.hid hJ3.out.2.2.2.2.1
                  have HGL := Lib.hid hJ3.out.2.2.2.2.2
                  have HBpz := Lib.hid (HBq.out.trans (HBp.out.mono HBq.out.size))
                  clear hJ3
                  by_cases hlt3 : i < WS.length
                  · have hiI : (i : Int) < (WS.length : Int) := by omega
                    have wi1 : IntKind.i64.wrap ((i : Int) + 1) = ((i + 1 : Nat) : Int) := by rw [IntWalk.i64_in _ (by omega)]; omega
                    obtain ⟨x, hx⟩ := some_at hlt3
                    obtain ⟨_, _, _, e5, -, -, hul⟩ := (HWp.out.rdY HWB.out).at
                    cases e5
                    obtain ⟨wb, wo, rfl, x0, -⟩ := hul i x hx
                    have HTK := Lib.hid (take_at hx)
                    clear hul hx
                    go_wp2_with fail
                    clear x0
                    go_loopw [23, 24, 25, 101] (fun at_ _ _ n wr => ∃ j : Nat, j ≤ l.length ∧ n = .int .i64 j ∧ at_ = .int .i64 (lastAt l x j) ∧ wr = wp) (fun _ _ _ n _ => l.length - (intOf n).toNat)
                    case atStart => exact ⟨0, Nat.zero_le _, rfl, rfl, rfl⟩
                    case round =>
                      obtain ⟨j, hj, rfl, rfl, hwr⟩ := hrel
                      replace hwr := hwr.symm
                      subst hwr
                      by_cases hlt4 : j < l.length
                      · have hjI : (j : Int) < (l.length : Int) := by omega
                        have wj1 : IntKind.i64.wrap ((j : Int) + 1) = ((j + 1 : Nat) : Int) := by rw [IntWalk.i64_in _ (by omega)]; omega
                        obtain ⟨z, hz⟩ := some_at hlt4
                        obtain ⟨_, _, _, e6, _, _, _, _, hcl⟩ := rds_of_own (V := viC) (fun _ => rfl) (show wp.ownsRow wq.heap.size 3 1 _ l.length (l.flatMap viC) from HLp.out)
                        cases e6
                        obtain ⟨gb, go, cs, rfl, hcl2, hcs, rfl⟩ := hcl j z hz
                        have z0 : wp.cell? ⟨gb, go + j, none⟩ = some (vi z) := by have := hcs 0 _ rfl; simpa using this
                        have HLS := Lib.hid (show lastAt l x (j + 1) = if z = x then (j : Int) else lastAt l x j from by rw [lastAt_succ, hz]; simp)
                        clear hcl hcs hz hcl2
                        by_cases hzx : z = x
                        · have czx := beq_t hzx
                          rw [if_pos hzx] at HLS
                          clear hzx
                          go_wp2_with fail
                          exact ⟨⟨j + 1, by omega, by go_num, by rw [HLS.out], by first | rfl | trivial⟩, by simp only [intOf]; omega⟩
                        · have czx := beq_f hzx
                          rw [if_neg hzx] at HLS
                          clear hzx
                          go_wp2_with fail
                          exact ⟨⟨j + 1, by omega, by go_num, by rw [HLS.out], by first | rfl | trivial⟩, by simp only [intOf]; omega⟩
                      · obtain rfl : j = l.length := by omega
                        have HSP := Lib.hid (lastAt_spec l x l.length (Nat.le_refl _))
                        have HSN := Lib.hid (leftL_snoc x (WS.take i) L)
                        rw [HLF.out] at HSN
                        rcases HSP.out with ⟨h1, -⟩ | ⟨q, hq, h1, -⟩
                        · have HNO := Lib.hid (show ¬ PermK ts dn O key from fun hp => by
                            have h2 := leftL_nil.2 (HPE.out.1 hp)
                            have h3 := HSN.out
                            simp only [Option.bind_some] at h3
                            rw [h1, if_neg (by decide), ← HTK.out] at h3
                            have h4 := leftL_none (x := x) (us := WS.drop (i + 1)) h3
                            rw [List.take_append_drop, h2] at h4
                            cases h4)
                          rw [h1]
                          go_wp2_with fail
                          exact ⟨⟨key + 1, false, by omega, by go_num, rfl, Lib.hid ⟨fun h => (by cases h), fun _ => .inr ⟨key, h16, HNO.out⟩⟩, HBpz.out⟩, by simp only [intOf]; omega⟩
                        · have HSQ := Lib.hid (show leftL L (WS.take (i + 1)) = some (l.eraseIdx q) from by
                            have h3 := HSN.out
                            simp only [Option.bind_some] at h3
                            rw [h1, if_pos (by omega), Int.toNat_natCast, ← HTK.out] at h3
                            exact h3)
                          rw [h1]
                          have hel : (l.eraseIdx q).length = q + (l.length - (q + 1)) := by rw [List.length_eraseIdx, if_pos hq]; omega
                          obtain ⟨gg, gcap, e7⟩ := own_someB (show World.ownsRow _ _ _ _ _ l.length _ from HLp.out) (by omega)
                          cases e7
                          have HLd := Lib.hid (show OwI wq.heap.size wp.drew (.slice (some ⟨gg, 0, none⟩) l.length gc) l from HLp.out)
                          obtain ⟨A, news, hdel⟩ := del_room HLd.out hq
                          have HDEL := Lib.hid hdel
                          have hgl := (World.ownsRow.lt HLp.out gg rfl)
                          have hbp := HBp.out.size
                          have HBX := Lib.hid ((show Below wq.heap.size wq wp.drew from HBp.out.drew).grown hdel.grown hbp (fun j hj => by cases hj; exact hgl.1))
                          have HWX := Lib.hid (show OwI w7.heap.size (wp.drew.setCells gg (0 + q * 1) news) (.slice (some ⟨wb, wo, none⟩) WS.length wc8) WS from World.ownsRow.kept (show World.ownsRow wp.drew _ _ _ _ _ _ from HWp.out) hdel.grown (.inr (fun e => by
                            have h1 := (World.ownsRow.lt HWp.out wb rfl).1
                            have h2 := HGL.out ⟨gg, 0, none⟩ rfl
                            have e2 : wb = gg := by simpa [Value.ownBlock] using e
                            simp only at h2
                            omega)))
                          obtain ⟨W1, hW1⟩ : ∃ W1, W1 = wp.drew.setCells gg (0 + q * 1) news := ⟨_, rfl⟩
                          have HW1 := Lib.hid hW1
                          have htk : ∀ W, (Instr.slice 58 (.slice (some ⟨gg, 0, none⟩) l.length gc) none (some (.int .i64 q)) none).run Tryz.prog W = .ok (.slice (some ⟨gg, 0, none⟩) q gc) W := run_takeY (by have := HDEL.out.fits; omega)
                          have wq1 : IntKind.i64.wrap ((q : Int) + 1) = (q : Int) + 1 := IntWalk.i64_in _ (by omega)
                          have hdr : ∀ W, (Instr.slice 58 (.slice (some ⟨gg, 0, none⟩) l.length gc) (some (.int .i64 ((q : Int) + 1))) none none).run Tryz.prog W = .ok (.slice (some A) (l.length - (q + 1)) (gc - (q + 1))) W := fun W => by
                            rw [show (q : Int) + 1 = ((q + 1 : Nat) : Int) from by omega]
                            rw [run_dropY (by omega)]
                            unfold sliced
                            have h := HDEL.out.at_
                            simp only [Nat.mul_one, Option.map_some, addr_add, Nat.zero_add]
                            rw [h]
                          obtain ⟨i0, hi0, hz0, hz1, hz2⟩ := info_parts Tryz.infoI
                          have hfit := HDEL.out.fits
                          have hRow := HDEL.out.row
                          have HROW := Lib.hid (show OwI wq.heap.size W1 (.slice (some ⟨gg, 0, none⟩) (l.eraseIdx q).length gc) (l.eraseIdx q) from by rw [hel, hW1]; exact hRow)
                          have HBX1 := Lib.hid (show Below wq.heap.size wq W1 from by rw [hW1]; exact HBX.out)
                          have HWX1 := Lib.hid (show OwI w7.heap.size W1 (.slice (some ⟨wb, wo, none⟩) WS.length wc8) WS from by rw [hW1]; exact HWX.out)
                          have hqI : (q : Int) < (l.length : Int) := by omega
                          clear hRow hW1 hdel
                          go_upto_region 33 with fail
                          go_region_law (refine step_append_room rfl (.tmp 115) (.tmp 119) 58 rfl 3 i0 1 Tryz.underlying58 hi0 hz1 gg 0 q gc (by simp [Act.eval, Act.put]) A (l.length - (q + 1)) (gc - (q + 1)) news (by simp [Act.eval, Act.put]) HDEL.out.len HDEL.out.src HDEL.out.one hfit HDEL.out.room ?_; rw [← HW1.out])
                          all_goals
                            go_wp2_with fail
                            exact ⟨⟨i + 1, l.eraseIdx q, some ⟨gg, 0, none⟩, gc, by omega, by go_num, rfl, by rw [hel], Lib.hid ⟨HROW.out, HSQ.out, by omega, HBX1.out, HWX1.out, HGL.out⟩⟩, by simp only [intOf]; omega⟩
                  · obtain rfl : i = WS.length := by omega
                    have HFN := Lib.hid (show leftL L WS = some l from by have h := HLF.out; rwa [List.take_length] at h)
                    by_cases hl0 : l = []
                    · have c0 : ((l.length : Int) == 0) = true := by rw [hl0]; rfl
                      have c0n : (l.length == 0) = true := by rw [hl0]; rfl
                      have HPN := Lib.hid (show ∀ k : Nat, k < key + 1 → PermK ts dn O k from fun k hk => by
                        rcases Nat.lt_or_ge k key with h | h
                        · exact HPK.out k h
                        · rw [show k = key by omega]
                          exact HPE.out.2 (leftL_nil.1 (by rw [HFN.out, hl0])))
                      clear hl0
                      go_wp2_with fail
                      exact ⟨⟨key + 1, true, by omega, by go_num, rfl, Lib.hid ⟨fun _ => ⟨HOK0.out, HPN.out⟩, fun h => (by cases h)⟩, HBpz.out⟩, by simp only [intOf]; omega⟩
                    · have hl1 : l.length ≠ 0 := fun h => hl0 (List.length_eq_zero_iff.1 h)
                      have c0 : ((l.length : Int) == 0) = false := beq_eq_false_iff_ne.2 (by omega)
                      have c0n : (l.length == 0) = false := beq_eq_false_iff_ne.2 hl1
                      have HNO := Lib.hid (show ¬ PermK ts dn O key from fun hp => by
                        have h2 := leftL_nil.2 (HPE.out.1 hp)
                        rw [HFN.out] at h2
                        exact hl0 (Option.some.inj h2))
                      have hle : l ≠ [] := hl0
                      clear hl0
                      go_wp2_with fail
                      exact ⟨⟨key + 1, false, by omega, by go_num, rfl, Lib.hid ⟨fun h => (by cases h), fun _ => .inr ⟨key, h16, HNO.out⟩⟩, HBpz.out⟩, by simp only [intOf]; omega⟩
              · obtain rfl : key = 16 := by omega
                have hfix := saidL_fix HOKF.out.2 (fun k hk => HPK.out k hk)
                have HFX := Lib.hid hfix.1
                have HPW := Lib.hid hfix.2
                have HFA := Lib.hid (hfix.1.faOk HG.out.uniq hfix.2)
                have HEF := Lib.hid (refE_edges HG.out HFA.out)
                have HHA := Lib.hid (fun (W : World) (hb : Below wq.heap.size wq W) => holds_anyP (.slice a es.length c) es ts (1 + y) da dc (some w1.heap.size) dn O W (HEq.out.later hb) hes HTS.out HLV.out (RdB.later HDq.out hb) (by omega) (HLOq.out.later hb))
                have HFC := Lib.hid (flaws_call (.slice a5 ts.length c5) ts wq HRq.out HG.out.ok (by omega))
                clear hfix
                by_cases hF : flawsM ts = []
                · have HF := Lib.hid hF
                  have HPB := Lib.hid ((passB_of (level := 1 + y) HFX.out HPW.out hF).trans (not_congr (brk_refP (level := 1 + y) HEF.out)))
                  have HRE := Lib.hid (fun (W : World) (hb : Below wq.heap.size wq W) => refEdges_call (.slice a5 ts.length c5) (.slice fa fn fc) ts (saidL ts dn O) W (HRq.out.later hb) HG.out.ok (HSDq.out.later hb) (by omega))
                  rw [hF] at HFC
                  clear hF
                  go_wp2_with (first
                    | (go_at_call 25; refine (HHA.out w12 HB12.out).mono ?_; rintro e13 w13 ⟨b13, rfl, hi13, hb13⟩; have hbb : b13 = !bb := (by cases b13 <;> cases bb <;> first | rfl | exact absurd (hi13.2 ⟨HOKF.out.1, HPB.out.2 (fun h => by have := HBB.out.2 h; cases this)⟩) (by decide) | exact absurd (HBB.out.1 rfl) (HPB.out.1 (hi13.1 rfl).2)); subst hbb; have HB13 := Lib.hid (HB12.out.trans (hb13.mono HB12.out.size)); clear hi13 hb13)
                    | (go_at_call 28; refine (bad_call ts.length (refE ts (saidL ts dn O)) _ (1 + y) w11 HO11.out (edges_in HEF.out) (by omega)).mono ?_; rintro e12 w12 ⟨bb, rfl, hbb, hb12⟩; have HBB := Lib.hid hbb; have HB12 := Lib.hid (HB11.out.trans (hb12.mono HB11.out.size)); have HXn := Lib.hid ((HB12.out.block _ hxq).trans HXq.out); have xn := fun j => cell_of HXn.out j; clear hbb hb12)
                    | (go_at_call 29; refine (HRE.out w10 HB10.out).mono ?_; rintro e11 w11 ⟨v11, rfl, ho11, hb11⟩; have HO11 := Lib.hid ho11.rd; have HB11 := Lib.hid (HB10.out.trans (hb11.mono HB10.out.size)); clear ho11 hb11)
                    | (go_at_call 21; refine HFC.out.mono ?_; rintro e10 w10 ⟨v10, rfl, ho10, hb10⟩; have HB10 := Lib.hid hb10; obtain ⟨a10, c10, rfl⟩ := Gr.own_shape (show World.ownsRow _ _ _ _ v10 0 _ from ho10); clear ho10 hb10))
                  go_ret
                  exact ⟨by cases bb <;> rfl, HBqz.out.trans (HB13.out.mono HBqz.out.size)⟩
                · have HNF := Lib.hid hF
                  have hl1 : (flawsM ts).length ≠ 0 := fun h => hF (List.length_eq_zero_iff.1 h)
                  have c0 : (((flawsM ts).length : Int) == 0) = false := beq_eq_false_iff_ne.2 (by omega)
                  have c0n : ((flawsM ts).length == 0) = false := beq_eq_false_iff_ne.2 hl1
                  clear hF hl1
                  go_wp2_with (first
                    | (go_at_call 25; refine (HHA.out w10 HB10.out).mono ?_; rintro e13 w13 ⟨b13, rfl, hi13, hb13⟩; have hbb : b13 = false := (by cases b13 with | false => rfl | true => exact absurd (hi13.1 rfl).2 (fun ⟨_, _, _, h, _⟩ => HNF.out h)); subst hbb; have HB13 := Lib.hid (HB10.out.trans (hb13.mono HB10.out.size)); clear hi13 hb13)
                    | (go_at_call 21; refine HFC.out.mono ?_; rintro e10 w10 ⟨v10, rfl, ho10, hb10⟩; have HB10 := Lib.hid hb10; have HXn := Lib.hid ((HB10.out.block _ hxq).trans HXq.out); have xn := fun j => cell_of HXn.out j; obtain ⟨a10, c10, rfl⟩ := Gr.own_shape (show World.ownsRow _ _ _ _ v10 (flawsM ts).length _ from ho10); clear ho10 hb10))
                  go_ret
                  exact ⟨rfl, HBqz.out.trans (HB13.out.mono HBqz.out.size)⟩
end certPasses
end Go.Proofs.YtnacoplokjdglaaGreat
