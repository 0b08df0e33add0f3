/- The nil store's other methods; the law's head. -/
import Derived.Test.YtbadpfcjoobniaaMvWaits
namespace Go.Proofs.Ytbadpfcjoobniaa
open Go.RowKit Go.Shelf Go.Maps

section
set_option maxRecDepth 100000
set_option maxHeartbeats 1000000
theorem nil_read (txn key t : Int) (w : World) : Calls Try.prog 15 #[.pointer none, vi txn, vi key, vi t] w fun e w' => e = .returned (.tuple #[vi 0, vi 0, vi 1]) ∧ Below w.heap.size w w' := by
  go_enter Try.func15, Try.ntmps15
  go_wp2_with fail
  refine bodyPost_ret (v := .tuple #[vi 0, vi 0, vi 1]) (by simp [results, Try.results15, go_sem]) rfl ⟨rfl, ?_⟩
  exact (((((Below.refl _ _).alloc (Nat.le_refl _) _).alloc (by simp) _).alloc (by simp <;> omega) _).alloc (by simp <;> omega) _).alloc (by simp <;> omega) _
theorem nil_finish (x : EndM) (w : World) : Calls Try.prog 14 #[.pointer none, endV x] w fun e w' => e = .returned (vi 1) ∧ Below w.heap.size w w' := by
  unfold endV
  go_enter Try.func14, Try.ntmps14
  go_wp2_with fail
  go_ret
  exact ⟨rfl, (Below.refl _ _).alloc (Nat.le_refl _) _⟩
theorem nil_ended (txn : Int) (w : World) : Calls Try.prog 21 #[.pointer none, vi txn] w fun e w' => e = .returned (.tuple #[endV ⟨0, false, 0⟩, .bool false]) ∧ Below w.heap.size w w' := by
  go_enter Try.func21, Try.ntmps21
  go_wp2_with fail
  refine bodyPost_ret (v := .tuple #[endV ⟨0, false, 0⟩, .bool false]) (by simp [results, Try.results21, go_sem, endV]) rfl ⟨rfl, (Below.refl _ _).alloc (Nat.le_refl _) _⟩
end

theorem off_1 : offB 0 1 = true := by decide
theorem off_2 : offB 0 2 = true := by decide
theorem off_4 : offB 0 4 = true := by decide
abbrev hR1 : Rdy := ⟨1, 0, 5, [⟨2, 0, 8⟩], []⟩
theorem head_p1 {by_ err : Int} {R' : RdyL} (h : PrepM true 0 [] [] [] hR1 by_ err R') : by_ = 0 ∧ err = 0 ∧ ∃ wv rv, R' = [(1, ⟨wv, rv, hR1⟩)] := by
  rcases h with ⟨h, _⟩ | ⟨_, h, _⟩ | ⟨_, _, h, _⟩ | ⟨_, _, _, _, id, ok, hb, h⟩
  · cases h
  · cases h
  · rcases h with h | h <;> simp [lostW, lostR, lookP, laterB, verOf, curK, nilK, getM] at h
  · rcases hb with ⟨hb, _⟩ | ⟨x, hx, _⟩
    · cases hb
      rcases h with ⟨h, _⟩ | ⟨_, rfl, rfl, wv, rv, rfl⟩
      · cases h
      · exact ⟨rfl, rfl, wv, rv, rfl⟩
    · cases hx
theorem head_r1 {wv rv : Value} {v by_ err : Int} (h : ReadM [] [(1, ⟨wv, rv, hR1⟩)] 0 9 0 9 v by_ err) : err = 60 ∧ by_ = 1 := by
  obtain ⟨id, ok, hb, h⟩ := h
  have hq : (writesB hR1 0 && decide ((5 : Int) < 9)) = true := by decide
  rcases hb with ⟨hb, hn⟩ | ⟨x, hx, hne, hq2, he, hmin⟩
  · have := hn _ (List.mem_singleton.2 rfl) (show (1 : Int) ≠ 9 by decide)
    have h2 : (writesB hR1 0 && decide ((5 : Int) < 9)) = false := this
    rw [hq] at h2; cases h2
  · simp at hx; subst hx
    cases he
    rcases h with ⟨_, _, _, rfl, rfl⟩ | ⟨h, _⟩
    · exact ⟨rfl, rfl⟩
    · rcases h with h | h
      · cases h
      · rw [off_2] at h; cases h
theorem head_r2 {wv rv : Value} {v by_ err : Int} (h : ReadM [] [(1, ⟨wv, rv, hR1⟩)] 0 9 0 5 v by_ err) : err = 0 ∧ v = 0 := by
  obtain ⟨id, ok, hb, h⟩ := h
  have hq : (writesB hR1 0 && decide ((5 : Int) < 5)) = false := by decide
  rcases hb with ⟨hb, hn⟩ | ⟨x, hx, hne, hq2, he, hmin⟩
  · cases hb
    rcases h with ⟨h, _⟩ | ⟨_, rfl, _, rfl⟩
    · cases h
    · exact ⟨rfl, rfl⟩
  · simp at hx; subst hx
    have h2 : (writesB hR1 0 && decide ((5 : Int) < 5)) = true := hq2
    rw [hq] at h2; cases h2
theorem head_f {wv rv : Value} {K' : KeysL} {R' : RdyL} {E' : EndL} (h : FinM [] [(1, ⟨wv, rv, hR1⟩)] [] ⟨1, true, 7⟩ K' R' E') : R' = [] ∧ E' = [(1, ⟨1, true, 7⟩)] ∧ verOf K' 0 = [(7, 8)] ∧ (∀ key, Srt (verOf K' key)) ∧ ∀ key, (verOf K' key).length ≤ 1 := by
  rcases h with ⟨h, _⟩ | ⟨_, rfl, rfl, hk⟩
  · cases h
  · have hk' : ∀ key, verOf K' key = finV 7 key [⟨2, 0, 8⟩] [] := hk
    refine ⟨rfl, rfl, by rw [hk' 0]; rfl, fun key => by rw [hk' key]; exact finV_srt _ _ _ _ List.Pairwise.nil, fun key => ?_⟩
    rw [hk' key]
    exact finV_len _ _ _ _
theorem head_r3 {K' : KeysL} (hK : verOf K' 0 = [(7, 8)]) {v by_ err : Int} (h : ReadM K' [] 0 9 0 7 v by_ err) : err = 0 ∧ v = 8 := by
  obtain ⟨id, ok, hb, h⟩ := h
  rcases hb with ⟨hb, hn⟩ | ⟨x, hx, _⟩
  · cases hb
    rcases h with ⟨h, _⟩ | ⟨_, rfl, _, rfl⟩
    · cases h
    · exact ⟨rfl, by rw [hK]; rfl⟩
  · cases hx
theorem head_p2 {K' : KeysL} (hK : verOf K' 0 = [(7, 8)]) {by_ err : Int} {R' : RdyL} (h : PrepM true 0 K' [] [(1, ⟨1, true, 7⟩)] ⟨2, 0, 6, [⟨2, 0, 9⟩], []⟩ by_ err R') : err = 61 := by
  have hl : lostW K' 0 ⟨2, 0, 6, [⟨2, 0, 9⟩], []⟩ = true := by
    unfold lostW
    rw [off_1]
    simp [hK, laterB]
  rcases h with ⟨h, _⟩ | ⟨_, h, _⟩ | ⟨_, _, h, _, rfl, _⟩ | ⟨_, _, h, _⟩
  · simp [getM] at h
  · cases h
  · rfl
  · rw [hl] at h; cases h

theorem Turns.toBelow {bs : List Nat} {base : Nat} {a b : World} (h : Turns bs a b) (hs : base ≤ a.heap.size) (hb : ∀ k ∈ bs, base ≤ k) : Below base a b :=
  ⟨h.os, h.tape, h.output, h.size, fun k hk => h.block k (by omega) (fun hm => by have := hb k hm; omega)⟩
theorem MvS.bases {base p mk mr me : Nat} {serial : Bool} {bugs : Int} {K : KeysL} {R : RdyL} {E : EndL} {W : World} (h : MvS base p mk mr me serial bugs K R E W) : ∀ k ∈ [mk, mr, me], base ≤ k := by
  intro k hk
  simp at hk
  rcases hk with rfl | rfl | rfl
  · exact h.bk
  · exact h.br
  · exact h.be

theorem rdI_nil (w : World) : RdInts w (.slice none 0 0) [] := ⟨none, 0, 0, rfl, rfl, by simp, Nat.le_refl _, fun _ => ⟨rfl, rfl⟩, fun j x hj => by simp at hj⟩

set_option maxRecDepth 100000 in
set_option maxHeartbeats 4000000 in
theorem head_call (w : World) : Calls Try.prog 9 #[] w fun e w' => e = .returned (.bool true) ∧ Below w.heap.size w w' := by
  go_enter Try.func9, Try.ntmps9
  go_wp2_with fail
  refine (new_call true 0 w).mono ?_
  rintro e w1 ⟨p, mk, mr, me, rfl, hm1, hb1⟩
  have HM1 := Lib.hid hm1
  have HB1 := Lib.hid hb1
  clear hm1 hb1
  dsimp only
  go_wp2_with fail
  refine (w_call 0 8 w1).mono ?_
  rintro e w2 ⟨rfl, rfl⟩
  have HW2 := Lib.hid (w_rd 0 8 w1)
  have HB2 := Lib.hid (HB1.out.alloc HB1.out.size (.cells #[vi 2, vi 0, vi 8] 55))
  have HM2 := Lib.hid (HM1.out.later ((Below.refl w1.heap.size w1).alloc (Nat.le_refl _) (.cells #[vi 2, vi 0, vi 8] 55)))
  generalize w1.alloc (.cells #[vi 2, vi 0, vi 8] 55) = w2 at *
  dsimp only
  go_wp2_with fail
  refine (prep_call ⟨.slice (some ⟨w1.heap.size, 0, none⟩) 1 1, .slice none 0 0, hR1⟩ w2 HM2.out (by simp) ⟨HW2.out, rdI_nil _⟩ (show i64 1 by unfold i64; omega) (by intro o ho; simp at ho; subst ho; exact (show i64 0 by unfold i64; omega)) (by simp) (by simp)).mono ?_
  rintro e w3 ⟨by1, er1, R1, rfl, hp, hm3, hg3⟩
  obtain ⟨rfl, rfl, wv, rv, rfl⟩ := head_p1 hp
  have HM3 := Lib.hid hm3
  have HB3 := Lib.hid (HB2.out.grown hg3 HB2.out.size (fun j hj => by cases hj; exact hm3.br))
  clear hp hm3 hg3 HW2 HM2 HM1
  dsimp only
  go_wp2_with fail
  refine (read_call 9 0 9 w3 HM3.out (by simp) (show i64 0 by unfold i64; omega)).mono ?_
  rintro e w4 ⟨v1, by2, er2, rfl, hr, hb4⟩
  obtain ⟨rfl, rfl⟩ := head_r1 hr
  have HM4 := Lib.hid (HM3.out.later hb4)
  have HB4 := Lib.hid (HB3.out.trans (hb4.mono HB3.out.size))
  clear hr hb4
  dsimp only
  go_wp2_with fail
  refine (read_call 9 0 5 w4 HM4.out (by simp) (show i64 0 by unfold i64; omega)).mono ?_
  rintro e w5 ⟨v2, by3, er3, rfl, hr, hb5⟩
  obtain ⟨rfl, rfl⟩ := head_r2 hr
  have HM5 := Lib.hid (HM4.out.later hb5)
  have HB5 := Lib.hid (HB4.out.trans (hb5.mono HB4.out.size))
  clear hr hb5
  dsimp only
  go_wp2_with fail
  refine (finish_call ⟨1, true, 7⟩ w5 HM5.out (show i64 1 by unfold i64; omega) (show i64 7 by unfold i64; omega) (fun _ => List.Pairwise.nil) (fun _ => by simp [verOf, curK, getM, nilK]) (by intro y hy; simp at hy; subst hy; exact ⟨by simp, by intro o ho; simp at ho; subst ho; exact (show i64 0 by unfold i64; omega)⟩)).mono ?_
  rintro e w6 ⟨K2, R2, E2, rfl, hf, hm6, ht6⟩
  obtain ⟨rfl, rfl, hk2, hs2, hl2⟩ := head_f hf
  have HM6 := Lib.hid hm6
  have HK2 := Lib.hid hk2
  have HB6 := Lib.hid (HB5.out.trans (ht6.toBelow HB5.out.size hm6.bases))
  clear hf hm6 ht6 hk2 hs2 hl2
  dsimp only
  go_wp2_with fail
  refine (read_call 9 0 7 w6 HM6.out (by simp) (show i64 0 by unfold i64; omega)).mono ?_
  rintro e w7 ⟨v3, by4, er4, rfl, hr, hb7⟩
  obtain ⟨rfl, rfl⟩ := head_r3 HK2.out hr
  have HM7 := Lib.hid (HM6.out.later hb7)
  have HB7 := Lib.hid (HB6.out.trans (hb7.mono HB6.out.size))
  clear hr hb7
  dsimp only
  go_wp2_with fail
  refine (w_call 0 9 w7).mono ?_
  rintro e w8 ⟨rfl, rfl⟩
  have HW8 := Lib.hid (w_rd 0 9 w7)
  have HB8 := Lib.hid (HB7.out.alloc HB7.out.size (.cells #[vi 2, vi 0, vi 9] 55))
  have HM8 := Lib.hid (HM7.out.later ((Below.refl w7.heap.size w7).alloc (Nat.le_refl _) (.cells #[vi 2, vi 0, vi 9] 55)))
  generalize w7.alloc (.cells #[vi 2, vi 0, vi 9] 55) = w8 at *
  dsimp only
  go_wp2_with fail
  refine (prep_call ⟨.slice (some ⟨w7.heap.size, 0, none⟩) 1 1, .slice none 0 0, ⟨2, 0, 6, [⟨2, 0, 9⟩], []⟩⟩ w8 HM8.out (by simp) ⟨HW8.out, rdI_nil _⟩ (show i64 2 by unfold i64; omega) (by intro o ho; simp at ho; subst ho; exact (show i64 0 by unfold i64; omega)) (by simp) (by simp)).mono ?_
  rintro e w9 ⟨by5, er5, R5, rfl, hp, hm9, hg9⟩
  have h61 := head_p2 HK2.out hp
  subst h61
  have HB9 := Lib.hid (HB8.out.grown hg9 HB8.out.size (fun j hj => by cases hj; exact hm9.br))
  clear hp hm9 hg9
  dsimp only
  go_wp2_with fail
  go_ret
  exact ⟨rfl, HB9.out⟩
end Go.Proofs.Ytbadpfcjoobniaa
