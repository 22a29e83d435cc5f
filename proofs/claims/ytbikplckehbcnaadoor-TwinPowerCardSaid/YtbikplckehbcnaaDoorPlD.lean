/- Sync. -/
import Derived.Test.YtbikplckehbcnaaDoorPlM
namespace Go.Proofs.YtbikplckehbcnaaDoor
open Go Go.RowKit

theorem sync_end {w wr : World} {F : Nat → Prop} {p m n : Nat} {qv : Value} {D : DataW Unit} {s : PSt} (hFp : F p) (hFm : F m) (hP : Plate0 wr p m qv s.act.1) (hM : wr.ownsMap Tryd.prog 3 qelem m n D) (hD : MapFn D (PSt.puts s.secs s.queue))
    (hF : Fr F w wr) (hn : (n : Int) ≤ s.acts) (hok : s.Ok) :
    (Ending.returned (.int .i64 0) = .returned (.int .i64 (({ s.act.1 with secs := PSt.puts s.secs s.queue, queue := [] }, 0) : PSt × Int).2)) ∧ Left w (wr.setCell ⟨p, 2, none⟩ (.slice none 0 0)) F p (({ s.act.1 with secs := PSt.puts s.secs s.queue, queue := [] }, 0) : PSt × Int).1 := by
  refine ⟨rfl, F, ⟨m, .slice none 0 0, n, D, hP.empty rfl rfl, map_fr hM ((Fr.refl (One p) wr).one 2 _) (map_blk_ne hM hP.blk), hD, hFp, hFm, fun g hg => by simp [Value.ownBlock] at hg, ?_, ?_⟩, hF.set (.inl hFp) 2 _, Sub.refl _ _⟩
  · simp [PSt.act_acts]; omega
  · have h := PSt.ok_act hok
    exact ⟨h.c1, h.c2, h.a0, h.a1, h.n0, h.l0, by simp⟩

set_option maxHeartbeats 400000 in
theorem sync_any (w : World) (F : Nat → Prop) (p : Nat) (s : PSt) (h : IsPlate w F p s) (h1 : s.life < 4611686018427387904) (h3 : s.acts < 1099511627776) :
    Calls Tryd.prog 38 #[.pointer (some ⟨p, 0, none⟩)] w fun e w' => e = .returned (.int .i64 s.sync.2) ∧ Left w w' F p s.sync.1 := by
  obtain ⟨m, qv, nn, D, hP, hM, hD, hFp, hFm, hFq, hb, hok⟩ := h
  have h0 := hok.l0
  have h2 := hok.n0
  have h4 := hok.a0
  have h5 := hok.a1
  have HP := Lib.hid hP
  by_cases hr : s.rdy 0 = 0
  · have HR := Lib.hid hr
    by_cases ha : s.act.2 = 0
    · have HA := Lib.hid ha
      have HS : Hid (s.sync = ({ s.act.1 with secs := PSt.puts s.secs s.queue, queue := [] }, 0)) := by unfold PSt.sync; rw [if_neg (by omega), if_neg (by omega)]; exact rfl
      obtain ⟨A, c, hqv⟩ := own_slice hP.que
      subst hqv
      obtain ⟨g, hA0⟩ : ∃ g, s.queue.length = 0 ∨ A = some ⟨g, 0, none⟩ := by
        rcases Nat.eq_zero_or_pos s.queue.length with hz | hz
        · exact ⟨0, .inl hz⟩
        · obtain ⟨g, c', e, _⟩ := hP.que.form hz
          injection e with e1
          exact ⟨g, .inr e1⟩
      clear hr hP ha
      go_enter Tryd.func38, Tryd.ntmps38
      go_wp2_with fail
      refine (ready_any _ p m _ s 0 HP.out).mono ?_
      rw [HR.out]
      rintro e w' ⟨rfl, rfl⟩
      go_wp2_with fail
      refine (act_any _ p m _ _ HP.out h0 h1 h2 (by exact Int.lt_trans h3 (by decide)) h4 h5).mono ?_
      rw [HA.out]
      rintro e w1 ⟨rfl, hP1, hF1⟩
      have hq1 := hP1.blk.cell 2
      simp only [List.getElem?_toArray] at hq1
      have hq2 := hP1.blk.cell 1
      simp only [List.getElem?_toArray] at hq2
      have HP1 := Lib.hid hP1
      have HF1 := Lib.hid hF1
      clear hP1 hF1
      rcases hA0 with hz | hAg
      · have HM1 := map_fr hM HF1.out (map_blk_ne hM HP.out.blk)
        have HF : Fr F w w1 := HF1.out.mono (fun k hk => by rw [show k = p from hk]; exact hFp)
        have hnil : s.queue = [] := List.eq_nil_of_length_eq_zero hz
        have HN := Lib.hid hnil
        have hzz : ((s.queue.length : Int)) ≤ 0 := by omega
        clear hnil
        have hb1 := HP1.out.blk.frozen 2
        go_wp2_with fail
        refine wp_loop_rounds 1 ?_
        rw [rounds_succ]
        go_wp2_with fail
        go_ret
        rw [HS.out]
        exact sync_end hFp hFm HP1.out HM1 (by rw [HN.out]; exact hD) HF (by omega) hok
      · subst hAg
        go_wp2_with fail
        go_loopw [22] (fun i wr => ∃ (k n' : Nat) (D' : DataW Unit), k ≤ s.queue.length ∧ i = .int .i64 k ∧ wr.ownsMap Tryd.prog 3 qelem m n' D' ∧ MapFn D' (PSt.puts s.secs (s.queue.take k)) ∧ n' ≤ nn + k ∧
            Plate0 wr p m (.slice (some ⟨g, 0, none⟩) s.queue.length c) s.act.1 ∧ Fr F w wr) (fun i _ => s.queue.length - (intOf i).toNat)
        case atStart => exact ⟨0, nn, D, Nat.zero_le _, rfl, map_fr hM HF1.out (map_blk_ne hM HP.out.blk), by simpa [PSt.puts] using hD, by omega, HP1.out, HF1.out.mono (fun k hk => by rw [show k = p from hk]; exact hFp)⟩
        case round =>
          obtain ⟨k, n', D', hk, rfl, hM', hD', hn', hP', hF'⟩ := hrel
          by_cases hlt : k < s.queue.length
          · obtain ⟨x, hx⟩ : ∃ x, s.queue[k]? = some x := ⟨_, List.getElem?_eq_getElem hlt⟩
            have hx1 := hok.que x (List.mem_of_getElem? hx)
            have hqw := hP'.que
            rw [PSt.act_queue] at hqw
            obtain ⟨g', c', e, hc1, hc2⟩ := qrow hqw k x hx
            obtain rfl : g = g' := by injection e with e1; injection e1 with e1; injection e1
            have hb1 := hP'.blk.cell 1
            simp only [List.getElem?_toArray] at hb1
            have HPW := Lib.hid hP'
            have HM' := Lib.hid hM'
            have HD' := Lib.hid hD'
            have HX := Lib.hid hx
            clear hP' hM' hD' hx e hqw hM hD
            obtain ⟨w2, D2, hrun, hM2, hD2, hG2⟩ := map_store (W := (wr.alloc (.cells #[.int .i64 x.1, .string x.2] 94)).drew) ((HM'.out.alloc _).drew) HD'.out (by omega) x hx1.1 (by have := hok.c2; omega) (by omega)
            have HM2 := Lib.hid hM2
            have HD2 := Lib.hid hD2
            have HG2 := Lib.hid hG2
            have hb2 := (HPW.out.blk.alloc (.cells #[.int .i64 x.1, .string x.2] 94)).cell 1
            simp only [List.getElem?_toArray] at hb2
            clear hM2 hD2 hG2
            go_wp2_with fail
            go_region
            go_wp2_with fail
            go_roundw
            case rel =>
              refine ⟨k + 1, n' + 1, D2, by omega, by go_num, HM2.out, ?_, by omega, ?_, ?_⟩
              · rw [puts_take _ _ _ _ HX.out]; exact HD2.out
              · exact ((HPW.out.alloc _).drew).grown HG2.out (map_blk_ne HM'.out HPW.out.blk) (map_own_ne HM'.out HPW.out.que)
              · exact ((hF'.alloc _).drew).grown HG2.out (fun j hj => .inl (by cases hj; exact hFm))
            case measure => simp [intOf]; omega
          · obtain rfl : k = s.queue.length := by omega
            have hb1 := hP'.blk.frozen 2
            have hb2 := hP'.blk.cell 2
            simp only [List.getElem?_toArray] at hb2
            have HPW := Lib.hid hP'
            have HM' := Lib.hid hM'
            have HD' := Lib.hid hD'
            clear hP' hM' hD'
            go_wp2_with fail
            go_ret
            rw [HS.out]
            exact sync_end hFp hFm HPW.out HM'.out (by rw [← List.take_length (l := s.queue)]; exact HD'.out) hF' (by omega) hok
    · have HS : Hid (s.sync = s.act) := by unfold PSt.sync; rw [if_neg (by omega), if_pos ha]; exact rfl
      have e1 : (s.act.2 != 0) = true := by rw [bne_iff_ne]; exact ha
      clear hr hP ha
      go_enter Tryd.func38, Tryd.ntmps38
      go_wp2_with fail
      refine (ready_any _ p m _ s 0 HP.out).mono ?_
      rw [HR.out]
      rintro e w' ⟨rfl, rfl⟩
      go_wp2_with fail
      refine (act_any _ p m _ _ HP.out h0 h1 h2 (by exact Int.lt_trans h3 (by decide)) h4 h5).mono ?_
      rintro e w1 ⟨rfl, hP1, hF1⟩
      have HP1 := Lib.hid hP1
      have HF1 := Lib.hid hF1
      clear hP1 hF1
      go_wp2_with fail
      go_ret
      rw [HS.out]
      refine ⟨rfl, F, ⟨m, qv, nn, D, HP1.out, map_fr hM HF1.out (map_blk_ne hM HP.out.blk), by rw [PSt.act_secs]; exact hD, hFp, hFm, hFq, by rw [PSt.act_queue, PSt.act_acts]; omega, PSt.ok_act hok⟩, HF1.out.mono (fun k hk => by rw [show k = p from hk]; exact hFp), Sub.refl _ _⟩
  · have HS : Hid (s.sync = (s, s.rdy 0)) := by unfold PSt.sync; rw [if_pos hr]; exact rfl
    have e1 : (s.rdy 0 != 0) = true := by rw [bne_iff_ne]; exact hr
    clear hP hr
    go_enter Tryd.func38, Tryd.ntmps38
    go_wp2_with fail
    refine (ready_any _ p m _ s 0 HP.out).mono ?_
    rintro e w' ⟨rfl, rfl⟩
    go_wp2_with fail
    go_ret
    rw [HS.out]
    exact ⟨rfl, F, ⟨m, qv, nn, D, HP.out, hM, hD, hFp, hFm, hFq, hb, hok⟩, Fr.refl _ _, Sub.refl _ _⟩

end Go.Proofs.YtbikplckehbcnaaDoor
