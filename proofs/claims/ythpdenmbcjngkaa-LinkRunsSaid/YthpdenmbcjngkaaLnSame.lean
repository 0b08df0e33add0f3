/- Rows of bytes as bytes: string(b), ref01.Same, ref01.Copy; how a row's argument []byte reads. -/
import Derived.Test.YthpdenmbcjngkaaLnNil
import Derived.Laws.IdiomStrings
import Derived.Laws.BytesArg
namespace Go.Proofs.Ythpdenmbcjngkaa
open Go.RowKit Go.Maps

def byteI (us : List UInt8) : List Int := us.map (fun b => (b.toNat : Int))
abbrev RdU (w : World) (v : Value) (us : List UInt8) : Prop := RdB8 w v (byteI us)
theorem byteI_inj {a b : List UInt8} (h : byteI a = byteI b) : a = b := by
  unfold byteI at h
  refine List.map_inj_right (fun x y hxy => ?_) |>.1 h
  exact UInt8.toNat_inj.1 (by omega)
theorem byteI_len (us : List UInt8) : (byteI us).length = us.length := by simp [byteI]

theorem conv_nil (w : World) (c : Nat) : (convert 30 9 (.slice none 0 c)).run Try.prog w = .ok (.string ⟨#[]⟩) w := by
  rw [run_convert_bytes_string w 30 9 5 none 0 c Try.underlying30 Try.underlying5 Try.underlying9]
  rfl
theorem conv_back {w : World} {v : Value} {us : List UInt8} (h : RdU w v us) : ∃ a c, v = .slice a us.length c ∧ (convert 30 9 (.slice a us.length c)).run Try.prog w = .ok (.string ⟨us.toArray⟩) w := by
  obtain ⟨a, len, c, rfl, rfl, -, hn, hc⟩ := h.at
  rw [byteI_len]
  cases a with
  | none =>
    obtain ⟨h0, rfl⟩ := hn rfl
    rw [byteI_len] at h0
    obtain rfl := List.length_eq_zero_iff.1 h0
    exact ⟨none, 0, rfl, conv_nil w 0⟩
  | some ad =>
    refine ⟨some ad, c, rfl, ?_⟩
    refine run_convert_bytes_back (P := Try.prog) w 30 9 5 ad c us Try.underlying30 Try.underlying5 Try.underlying9 (fun j hj => ?_)
    obtain ⟨b, off, hab, h1⟩ := hc j (us[j].toNat : Int) (by simp [byteI, List.getElem?_eq_getElem hj])
    cases hab
    rw [addr_add]; exact h1

set_option maxRecDepth 100000 in
set_option maxHeartbeats 1000000 in
theorem same_call {v v' : Value} {us us' : List UInt8} (w : World) (h : RdU w v us) (h' : RdU w v' us') :
    Calls Try.prog 16 #[v, v'] w fun e w' => e = .returned (.bool (us == us')) ∧ Below w.heap.size w w' := by
  obtain ⟨a, c, rfl, hr⟩ := conv_back h
  obtain ⟨a', c', rfl, hr'⟩ := conv_back h'
  have HE := Lib.hid (show ((ByteArray.mk us.toArray).toList == (ByteArray.mk us'.toArray).toList) = (us == us') by
    have e : ∀ l : List UInt8, (ByteArray.mk l.toArray).toList = l := fun l => by rw [Go.ByteArray.toList_eq]
    rw [e, e])
  clear h h'
  go_enter Try.func16, Try.ntmps16
  go_wp2_with fail
  go_ret
  exact ⟨by first | (rw [← HE.out]; rfl) | (simp; exact HE.out), Below.refl _ _⟩

theorem rdu_of_trod {H : Type} {enc : TypeId × Value → H} {P : Program} {w : World} {spare : Nat → Bool} {held : Bool} {t e : TypeId} {v : Value} {d : DataW H} {ps : List MemPlace}
    (ht : P.underlying t = some (.slice e)) (hu : P.underlying e = some (.int .u8)) (hn : P.cellsOf e = 1) (h : DataW.Trod enc P w 0 spare held t v d ps) (hv : ∃ a l c, v = .slice a l c) : ∃ us, RdU w v us := by
  obtain ⟨fuel, hf⟩ := h
  obtain ⟨a, l, c, rfl⟩ := hv
  obtain ⟨us, hus⟩ : ∃ us : List UInt8, RdS 1 (fun _ cs (b : UInt8) => cs = [u8 (b.toNat : Int)]) w (.slice a l c) us := rds_of_trod ht hn (by omega) hf fun m cs y _ hy => by
    obtain ⟨n, rfl, _, hw⟩ := DataW.trod_int hu hy
    have hb : 0 ≤ n ∧ n ≤ 255 := by simp [Lit.wf, IntKind.min, IntKind.max, IntKind.signed, IntKind.bits] at hw; omega
    refine ⟨UInt8.ofNat n.toNat, ?_⟩
    have : ((UInt8.ofNat n.toNat).toNat : Int) = n := by
      rw [UInt8.toNat_ofNat']; omega
    rw [this]
  refine ⟨us, ?_⟩
  obtain ⟨a', len, cap, h1, h2, h3, h4, h5, h6⟩ := hus
  refine ⟨a', len, cap, h1, by rw [byteI_len]; exact h2, by rw [byteI_len]; exact h3, h4, h5, fun j x hj => ?_⟩
  unfold byteI at hj
  rw [List.getElem?_map, Option.map_eq_some_iff] at hj
  obtain ⟨b, hb, rfl⟩ := hj
  exact h6 j b hb
theorem rdu_of_row {H : Type} {enc : TypeId × Value → H} {W : World} {base : Nat} {v : Value} {d : DataW H} {ps : List MemPlace} (hval : Value.okWide Try.prog W .any base 30 v) (h : DataW.Trod enc Try.prog W 0 (fun _ => true) true 30 v d ps) : ∃ us, RdU W v us :=
  rdu_of_trod Try.underlying30 Try.underlying5 (by kernel_rfl) h (Go.WideShapes.okWide_slice Try.underlying30 hval)
end Go.Proofs.Ythpdenmbcjngkaa
