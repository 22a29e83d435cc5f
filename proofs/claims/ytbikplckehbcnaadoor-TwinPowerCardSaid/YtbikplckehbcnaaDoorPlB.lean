/- act, the small methods, New. -/
import Derived.Test.YtbikplckehbcnaaDoorPlA
set_option linter.unusedVariables false
set_option linter.unusedSimpArgs false
namespace Go.Proofs.YtbikplckehbcnaaDoor
open Go Go.RowKit

set_option maxHeartbeats 400000 in
theorem act_any (w : World) (p m : Nat) (qv : Value) (s : PSt) (h : Plate0 w p m qv s) (h0 : 0 ≤ s.life) (h1 : s.life < 4611686018427387904) (h2 : 0 ≤ s.acts) (h3 : s.acts < 4611686018427387904)
    (h4 : 0 ≤ s.armed) (h5 : s.armed ≤ 9223372036854775807) :
    Calls Tryd.prog 77 #[.pointer (some ⟨p, 0, none⟩)] w fun e w' => e = .returned (.int .i64 s.act.2) ∧ Plate0 w' p m qv s.act.1 ∧ Fr (One p) w w' := by
  have hblk := h.blk
  have c4 := h.blk.cell 4
  have c5 := h.blk.cell 5
  have f4 := h.blk.frozen 4
  have f5 := h.blk.frozen 5
  simp only [List.getElem?_toArray] at c4 c5
  have HK := Lib.hid h
  clear h
  have HB := Lib.hid hblk
  clear hblk
  by_cases ha : 0 < s.armed
  · by_cases hb : s.armed = 1
    · have HS : Hid (s.act = (({ s with acts := s.acts + 1, armed := 0 } : PSt).off, 10)) := by unfold PSt.act; rw [if_pos ha, if_pos hb]; exact rfl
      have hK1 : Hid (∀ W, Blk W p 82 #[.int .i64 s.count, .map (some m), qv, .bool s.down, .int .i64 (s.acts + 1), .int .i64 0, .int .i64 s.life] → Fr (One p) w W → Plate0 W p m qv { s with acts := s.acts + 1, armed := 0 }) :=
        fun W hW hF => HK.out.keep hF rfl hW
      have HB' := HB.out
      rw [hb] at HB' c5
      have HB2 := Lib.hid HB'
      clear HB' HB ha hb HK
      go_enter Tryd.func77, Tryd.ntmps77
      go_wp2_with fail
      have hP := hK1.out _ ((HB2.out.set_ 4 (.int .i64 (s.acts + 1))).set_ 5 (.int .i64 0)) (((Fr.refl _ _).one 4 _).one 5 _)
      refine (off_any _ p m qv _ hP h0 h1).mono ?_
      rintro e w1 ⟨rfl, hq, hF⟩
      have HQ := Lib.hid hq
      clear hq
      have HF := Lib.hid hF
      clear hF
      go_wp2_with fail
      go_ret
      rw [HS.out]
      exact ⟨rfl, HQ.out, (((Fr.refl _ _).one 4 _).one 5 _).trans HF.out (Sub.refl _ _)⟩
    · have HS : Hid (s.act = ({ s with acts := s.acts + 1, armed := s.armed - 1 }, 0)) := by unfold PSt.act; rw [if_pos ha, if_neg hb]; exact rfl
      have e1 : (s.armed - 1 == 0) = false := by rw [beq_eq_false_iff_ne]; omega
      go_enter Tryd.func77, Tryd.ntmps77
      go_wp2_with fail
      go_ret
      rw [HS.out]
      have hF : Fr (One p) w ((w.setCell ⟨p, 4, none⟩ (.int .i64 (s.acts + 1))).setCell ⟨p, 5, none⟩ (.int .i64 (s.armed - 1))) := ((Fr.refl _ _).one 4 _).one 5 _
      exact ⟨rfl, HK.out.keep hF rfl ((HB.out.set_ 4 _).set_ 5 _), hF⟩
  · have HS : Hid (s.act = ({ s with acts := s.acts + 1 }, 0)) := by unfold PSt.act; rw [if_neg ha]; exact rfl
    go_enter Tryd.func77, Tryd.ntmps77
    go_wp2_with fail
    go_ret
    rw [HS.out]
    have hF : Fr (One p) w (w.setCell ⟨p, 4, none⟩ (.int .i64 (s.acts + 1))) := (Fr.refl _ _).one 4 _
    exact ⟨rfl, HK.out.keep hF rfl (HB.out.set_ 4 _), hF⟩

end Go.Proofs.YtbikplckehbcnaaDoor
