/- (*bits.Writer).Bytes. -/
import Derived.Test.YtdkkpkgfiodlbaaBtInt
import Derived.Test.YtdkkpkgfiodlbaaCopyK
import Derived.Laws.MakeOwn
namespace Go.Proofs.Ytdkkpkgfiodlbaa
open Go.RowKit

theorem run_makeBytes (w : World) (n : Nat) (hn : n ≤ 1048576) : (Instr.makeSlice 39 (.int .i64 (n : Int)) (.int .i64 (n : Int))).run Try.prog w = .ok (.slice (some ⟨w.heap.size, 0, none⟩) n n) (w.alloc (.cells (Array.replicate n (u8 0)) 5)) := by
  obtain ⟨i, hi, h2⟩ := Option.map_eq_some_iff.1 Try.infoU8
  simp only [Prod.mk.injEq] at h2
  obtain ⟨hz, hs, hb⟩ := h2
  have := run_makeSlice (P := Try.prog) w 39 5 i (.int .u8 0) Try.underlying39 hi hz .i64 .i64 n n (by omega) (Int.le_refl _) (by rw [hs]; omega) (by rw [hb]; omega) (by omega)
  rw [this, hs]
  have e : madeCells (Value.int .u8 0).cells ((n : Int).toNat * 1) = (Array.replicate n (u8 0)) := by
    apply Array.toList_inj.1
    rw [show (Value.int IntKind.u8 0).cells = #[Value.int .u8 0] from rfl, toList_madeCells_one]
    simp
  rw [e]; simp
theorem run_copyB (w : World) (ty : TypeId) (b n : Nat) (v : Value) {base : Nat} {w0 : World} (cs : List Nat) (h : w0.ownsRow base 5 1 v n (cs.map u8)) (hbel : Below w0.heap.size w0 w)
    (hb : w.heap[b]? = some (.cells (Array.replicate n (u8 0)) 5)) :
    ∃ w', (Builtin.copy_ #[39, 39] ty #[.slice (some ⟨b, 0, none⟩) n n, v]).run Try.prog w = .ok (goInt (n : Nat)) w' ∧ Hid (w'.heap[b]? = some (.cells (cs.map u8).toArray 5) ∧ w.grownBy w' (some b) ∧ w'.heap.size = w.heap.size) := by
  have hl : cs.length = n := by simpa using h.1
  rcases h.2 with ⟨rfl, rfl⟩ | ⟨g, cap, cur, rfl, hg, hh, hn, hm, hs, ht⟩
  · have : cs = [] := List.length_eq_zero_iff.1 hl
    subst this
    obtain ⟨i, hi, h2⟩ := Option.map_eq_some_iff.1 Try.infoU8
    refine ⟨w, ?_, Lib.hid ⟨hb, ⟨rfl, rfl, rfl, Nat.le_refl _, fun _ _ _ => rfl⟩, rfl⟩⟩
    simp [Builtin.copy_, run_underlying Try.underlying39, Builtin.lenOf, Builtin.firstCells, sizeOf, typeInfo, hi]
    rfl
  · obtain ⟨i, hi, h2⟩ := Option.map_eq_some_iff.1 Try.infoU8
    simp only [Prod.mk.injEq] at h2
    have hmin : Nat.min n n = n := by simp
    have hgw : w.heap[g]? = some (.cells cur 5) := (hbel.block g (Array.getElem?_eq_some_iff.1 hh).1).trans hh
    obtain ⟨w', e, H⟩ := run_copyR (P := Try.prog) w 39 39 ty 5 1 b 0 n n (some ⟨g, 0, none⟩) n cap (cs.map u8) (Array.replicate n (u8 0)) 5 Try.underlying39 (by rw [hi]; simp [h2.2.1]) (by rw [hmin]; simp [hl]) hb
      ⟨⟨g, 0, none⟩, rfl, fun j u hj => by
        have h3 : cur[j]? = some u := by
          have hj2 : j < n := by have := (List.getElem?_eq_some_iff.1 hj).1; simp at this; omega
          rw [← ht, List.getElem?_take_of_lt (by omega), Array.getElem?_toList] at hj; exact hj
        rw [addr_add, Nat.zero_add, Bt.cell_of hgw]; exact h3⟩ (by simp [hl]) (by intro u hu; simp at hu; obtain ⟨a, _, rfl⟩ := hu; rfl)
    rw [hmin] at e
    refine ⟨w', e, Lib.hid ⟨?_, H.out.2⟩⟩
    rw [H.out.1]
    have : splice (Array.replicate n (u8 0)).toList 0 (cs.map u8) = cs.map u8 := by simp [splice, hl]
    rw [this]

def BytesQ (L : List Bool) (w : World) (e : Ending) (w' : World) : Prop :=
  ∃ v, e = .returned v ∧ OwU w.heap.size w' v (btBytes L) ∧ Below w.heap.size w w'
set_option maxRecDepth 100000 in
set_option maxHeartbeats 4000000 in
theorem bytes_call {base p : Nat} {L : List Bool} (w : World) (h : WrS base p L w) (hL : L.length ≤ 1048640) :
    Calls Try.prog 36 #[.pointer (some ⟨p, 0, none⟩)] w (BytesQ L w) := by
  obtain ⟨hbp, v, hp, ho⟩ := h
  obtain ⟨a, c, rfl⟩ := Bt.own_shape ho
  have hn : (btBytes L).length ≤ 1048576 := by rw [btBytes_length]; omega
  obtain ⟨bs, hbs⟩ : ∃ bs, bs = btBytes L := ⟨_, rfl⟩
  have HBS := Lib.hid hbs
  rw [← hbs] at ho hp hn
  have hlen : bs.length = bs.length := rfl
  clear hbs
  have HP := Lib.hid hp
  have HO := Lib.hid ho
  have c0 : w.cell? ⟨p, 0, none⟩ = some (.slice a bs.length c) := by rw [Bt.cell_of hp]; rfl
  have c1 : ∀ o, (w.alloc o).cell? ⟨p, 0, none⟩ = some (.slice a bs.length c) := fun o => cell_later ((Below.refl _ _).alloc (Nat.le_refl _) o) c0
  have hmk := run_makeBytes w bs.length hn
  have HN := Lib.hid hn
  clear hp ho hn
  go_enter Try.func36, Try.ntmps36
  obtain ⟨w2, hr, H2⟩ := run_copyB (w.alloc (.cells (Array.replicate bs.length (u8 0)) 5)) 3 w.heap.size bs.length (.slice a bs.length c) bs HO.out ((Below.refl _ _).alloc (Nat.le_refl _) _) (Bt.alloc_at _ _)
  go_wp2_with (refine wpList_copy_run rfl _ _ _ _ rfl _ _ rfl rfl hr ?_)
  go_ret
  obtain ⟨h1, h2, h3⟩ := H2.out
  have hcs : (bs.map u8).toArray.size = bs.length := by simp
  refine ⟨_, rfl, ?_, ?_⟩
  · show World.ownsRow _ _ _ _ _ _ _
    rw [← HBS.out]
    refine ⟨by simp, .inr ⟨w.heap.size, bs.length, (bs.map u8).toArray, rfl, Nat.le_refl _, h1, Nat.le_refl _, by unfold maxLen; have := HN.out; omega, by simp, by rw [Nat.mul_one]; exact List.take_of_length_le (by simp)⟩⟩
  · exact ⟨h2.os, h2.tape, h2.output, by rw [h3]; simp, fun j hj => (h2.block j (by simp; omega) (by simp; omega)).trans (Below.heap_alloc _ _ _ hj)⟩
end Go.Proofs.Ytdkkpkgfiodlbaa