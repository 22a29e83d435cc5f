/- Arm, New, the methods that only read; those of a nil plate. -/
import Derived.Test.YtbikplckehbcnaaDoorPlE
namespace Go.Proofs.YtbikplckehbcnaaDoor
open Go Go.RowKit

section
variable (w : World) (F : Nat → Prop) (p : Nat) (s : PSt)

theorem off_is (h : IsPlate w F p s) (h1 : s.life < 4611686018427387904) :
    Calls Tryd.prog 21 #[.pointer (some ⟨p, 0, none⟩)] w fun e w' => e = .returned (.tuple #[]) ∧ Left w w' F p s.off := by
  obtain ⟨m, qv, n, D, hP, hM, hD, hFp, hFm, hFq, hb, hok⟩ := h
  refine (off_any w p m qv s hP hok.l0 h1).mono ?_
  rintro e w' ⟨rfl, hP', hF⟩
  exact ⟨rfl, F, ⟨m, qv, n, D, hP', map_fr hM hF (map_blk_ne hM hP.blk), by rw [PSt.off_secs]; exact hD, hFp, hFm, hFq, by rw [PSt.off_queue, PSt.off_acts]; exact hb, PSt.ok_off hok⟩, hF.mono (fun k hk => by rw [show k = p from hk]; exact hFp), Sub.refl _ _⟩

theorem arm_is (n : Int) (h : IsPlate w F p s) (hn : n ≤ 9223372036854775807) :
    Calls Tryd.prog 18 #[.pointer (some ⟨p, 0, none⟩), .int .i64 n] w fun e w' => e = .returned (.tuple #[]) ∧ Left w w' F p (s.arm n) := by
  obtain ⟨m, qv, nn, D, hP, hM, hD, hFp, hFm, hFq, hb, hok⟩ := h
  have f5 := hP.blk.frozen 5
  have c5 := hP.blk.cell 5
  simp only [List.getElem?_toArray] at c5
  have HP := Lib.hid hP
  clear hP
  have fin : ∀ a : Int, a = (s.arm n).armed → 0 ≤ a → Left w (w.setCell ⟨p, 5, none⟩ (.int .i64 a)) F p (s.arm n) := fun a ha h0 => by
    have hF : Fr (One p) w (w.setCell ⟨p, 5, none⟩ (.int .i64 a)) := (Fr.refl (One p) w).one 5 _
    refine ⟨F, ⟨m, qv, nn, D, HP.out.keep hF rfl ?_, map_fr hM hF (map_blk_ne hM HP.out.blk), hD, hFp, hFm, hFq, hb, ?_⟩, hF.mono (fun k hk => by rw [show k = p from hk]; exact hFp), Sub.refl _ _⟩
    · rw [← ha]; exact HP.out.blk.set_ 5 _
    · refine ⟨hok.c1, hok.c2, by rw [← ha]; exact h0, ?_, hok.n0, hok.l0, hok.que⟩
      unfold PSt.arm; simp only; split <;> omega
  have FIN := Lib.hid fin
  clear fin
  by_cases h0 : n < 0
  · have ha : Hid ((0 : Int) = (s.arm n).armed) := by unfold PSt.arm; exact (if_pos h0).symm
    go_enter Tryd.func18, Tryd.ntmps18
    go_wp2_with fail
    all_goals (go_end0; exact ⟨rfl, FIN.out _ ha.out (by omega)⟩)
  · have ha : Hid (n = (s.arm n).armed) := by unfold PSt.arm; exact (if_neg h0).symm
    go_enter Tryd.func18, Tryd.ntmps18
    go_wp2_with fail
    all_goals (go_end0; exact ⟨rfl, FIN.out _ ha.out (by omega)⟩)

theorem down_is (h : IsPlate w F p s) : Calls Tryd.prog 35 #[.pointer (some ⟨p, 0, none⟩)] w fun e w' => e = .returned (.bool s.down) ∧ w = w' := by
  obtain ⟨m, qv, nn, D, hP, _⟩ := h
  have c5 := hP.blk.cell 3
  simp only [List.getElem?_toArray] at c5
  clear hP
  go_enter Tryd.func35, Tryd.ntmps35
  go_wp2_with fail
  go_ret
  exact ⟨rfl, rfl⟩
theorem sectors_is (h : IsPlate w F p s) : Calls Tryd.prog 34 #[.pointer (some ⟨p, 0, none⟩)] w fun e w' => e = .returned (.int .i64 s.count) ∧ w = w' := by
  obtain ⟨m, qv, nn, D, hP, _⟩ := h
  have c5 := hP.blk.cell 0
  simp only [List.getElem?_toArray] at c5
  clear hP
  go_enter Tryd.func34, Tryd.ntmps34
  go_wp2_with fail
  go_ret
  exact ⟨rfl, rfl⟩
theorem acts_is (h : IsPlate w F p s) : Calls Tryd.prog 15 #[.pointer (some ⟨p, 0, none⟩)] w fun e w' => e = .returned (.int .i64 s.acts) ∧ w = w' := by
  obtain ⟨m, qv, nn, D, hP, _⟩ := h
  have c5 := hP.blk.cell 4
  simp only [List.getElem?_toArray] at c5
  clear hP
  go_enter Tryd.func15, Tryd.ntmps15
  go_wp2_with fail
  go_ret
  exact ⟨rfl, rfl⟩
theorem life_is (h : IsPlate w F p s) : Calls Tryd.prog 36 #[.pointer (some ⟨p, 0, none⟩)] w fun e w' => e = .returned (.int .i64 s.life) ∧ w = w' := by
  obtain ⟨m, qv, nn, D, hP, _⟩ := h
  have c5 := hP.blk.cell 6
  simp only [List.getElem?_toArray] at c5
  clear hP
  go_enter Tryd.func36, Tryd.ntmps36
  go_wp2_with fail
  go_ret
  exact ⟨rfl, rfl⟩

theorem new_is (n : Int) : Calls Tryd.prog 11 #[.int .i64 n] w fun e w' =>
    e = .returned (.pointer (some ⟨w.heap.size + 1, 0, none⟩)) ∧ IsPlate w' (fun k => k = w.heap.size ∨ k = w.heap.size + 1) (w.heap.size + 1) (PSt.fresh n) ∧ Below w.heap.size w w' ∧ w.heap.size + 1 < w'.heap.size := by
  have hmm := @run_makeMap Tryd.prog
  have hfin : ∀ a : Int, a = min (max n 1) 16384 → ∀ w', w' = (w.alloc (.map #[] 0)).alloc (.cells #[.int .i64 a, .map (some w.heap.size), .slice none 0 0, .bool false, .int .i64 0, .int .i64 0, .int .i64 0] 82) →
      IsPlate w' (fun k => k = w.heap.size ∨ k = w.heap.size + 1) (w.heap.size + 1) (PSt.fresh n) ∧ Below w.heap.size w w' ∧ w.heap.size + 1 < w'.heap.size := by
    rintro a rfl w' rfl
    have hsz : (w.alloc (.map #[] 0)).heap.size = w.heap.size + 1 := by simp
    have hb := Blk.new (w.alloc (.map #[] 0)) 82 #[.int .i64 (min (max n 1) 16384), .map (some w.heap.size), .slice none 0 0, .bool false, .int .i64 0, .int .i64 0, .int .i64 0]
    rw [hsz] at hb
    refine ⟨⟨w.heap.size, .slice none 0 0, 0, .map [], ⟨hb, World.ownsRow_nil _ _ _ _⟩, (World.ownsMap_made w _ _ _).alloc _, ?_, .inr rfl, .inl rfl, fun g hg => by simp [Value.ownBlock] at hg, by simp [PSt.fresh], ?_⟩, ((Below.refl _ w).alloc (Nat.le_refl _) _).alloc (by simp) _, by simp⟩
    · intro k _; exact ⟨rfl, fun t ht => by simp [PSt.fresh] at ht⟩
    · refine ⟨by simp [PSt.fresh]; omega, by simp [PSt.fresh]; omega, by simp [PSt.fresh], by simp [PSt.fresh], by simp [PSt.fresh], by simp [PSt.fresh], by simp [PSt.fresh]⟩
  have FIN := Lib.hid hfin
  clear hfin
  by_cases h1 : n < 1
  · go_enter Tryd.func11, Tryd.ntmps11
    go_wp2_with fail
    all_goals (go_ret; exact ⟨rfl, FIN.out _ (by omega) _ rfl⟩)
  · by_cases h2 : n ≤ 16384
    · go_enter Tryd.func11, Tryd.ntmps11
      go_wp2_with fail
      all_goals (go_ret; exact ⟨rfl, FIN.out _ (by omega) _ rfl⟩)
    · go_enter Tryd.func11, Tryd.ntmps11
      go_wp2_with fail
      all_goals (go_ret; exact ⟨rfl, FIN.out _ (by omega) _ rfl⟩)

theorem down_nil : Calls Tryd.prog 35 #[.pointer none] w fun e w' => e = .returned (.bool true) ∧ w = w' := by
  go_enter Tryd.func35, Tryd.ntmps35
  go_wp2_with fail
  go_ret
  exact ⟨rfl, rfl⟩
theorem sectors_nil : Calls Tryd.prog 34 #[.pointer none] w fun e w' => e = .returned (.int .i64 0) ∧ w = w' := by
  go_enter Tryd.func34, Tryd.ntmps34
  go_wp2_with fail
  go_ret
  exact ⟨rfl, rfl⟩
theorem ready_nil (n : Int) : Calls Tryd.prog 69 #[.pointer none, .int .i64 n] w fun e w' => e = .returned (.int .i64 2) ∧ w = w' := by
  go_enter Tryd.func69, Tryd.ntmps69
  go_wp2_with fail
  go_ret
  exact ⟨rfl, rfl⟩
end

end Go.Proofs.YtbikplckehbcnaaDoor
