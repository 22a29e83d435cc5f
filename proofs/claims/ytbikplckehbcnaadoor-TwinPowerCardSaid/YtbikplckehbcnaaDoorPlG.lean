/- On. -/
import Derived.Test.YtbikplckehbcnaaDoorPlE
namespace Go.Proofs.YtbikplckehbcnaaDoor
open Go Go.RowKit

theorem onto_snoc (l : List Int) (x : Int × ByteArray) : ∀ (q : List (Int × ByteArray)) (f : Int → Option ByteArray) (i : Nat), PSt.onto l f i (q ++ [x]) = PSt.fated (PSt.onto l f i q) l (i + q.length) x := by
  intro q
  induction q with
  | nil => intro f i; rfl
  | cons y q ih => intro f i; simp only [List.cons_append, PSt.onto, ih, List.length_cons]; rw [show i + 1 + q.length = i + (q.length + 1) by omega]
theorem onto_take (l : List Int) (f : Int → Option ByteArray) (q : List (Int × ByteArray)) (k : Nat) (x : Int × ByteArray) (hx : q[k]? = some x) :
    PSt.onto l f 0 (q.take (k + 1)) = PSt.fated (PSt.onto l f 0 (q.take k)) l k x := by
  have hk : k < q.length := (List.getElem?_eq_some_iff.1 hx).1
  rw [List.take_add_one, hx]
  simp only [Option.toList_some]
  rw [onto_snoc]
  rw [List.length_take, Nat.min_eq_left (by omega), Nat.zero_add]

theorem on_end {w wr : World} {F : Nat → Prop} {p m n : Nat} {qv : Value} {D : DataW Unit} {s : PSt} {l : List Int} (hFp : F p) (hFm : F m) (hP : Plate0 wr p m qv { s with down := false }) (hM : wr.ownsMap Tryd.prog 3 qelem m n D) (hD : MapFn D (PSt.onto l s.secs 0 s.queue))
    (hF : Fr F w wr) (hn : (n : Int) ≤ s.acts) (hok : s.Ok) :
    (Ending.returned (.tuple #[]) = .returned (.tuple #[])) ∧ Left w (wr.setCell ⟨p, 2, none⟩ (.slice none 0 0)) F p { s with down := false, secs := PSt.onto l s.secs 0 s.queue, queue := [] } := by
  refine ⟨rfl, F, ⟨m, .slice none 0 0, n, D, hP.empty rfl rfl, map_fr hM ((Fr.refl (One p) wr).one 2 _) (map_blk_ne hM hP.blk), hD, hFp, hFm, fun g hg => by simp [Value.ownBlock] at hg, ?_, ?_⟩, hF.set (.inl hFp) 2 _, Sub.refl _ _⟩
  · simp; omega
  · have h := hok
    exact ⟨h.c1, h.c2, h.a0, h.a1, h.n0, h.l0, by simp⟩

set_option maxHeartbeats 1600000 in
theorem on_any (w : World) (F : Nat → Prop) (p : Nat) (s : PSt) (A : Option Addr) (c : Nat) (l : List Int) (h : IsPlate w F p s) (h3 : s.acts < 1099511627776) (hl : Ints w F A l) :
    Calls Tryd.prog 20 #[.pointer (some ⟨p, 0, none⟩), .slice A l.length c] w fun e w' => e = .returned (.tuple #[]) ∧ Left w w' F p (s.on l) := by
  obtain ⟨m, qv, nn, D, hP, hM, hD, hFp, hFm, hFq, hb, hok⟩ := h
  have hpd := hP.blk.cell 3
  simp only [List.getElem?_toArray] at hpd
  have HP := Lib.hid hP
  by_cases hd : s.down = true
  · obtain ⟨Aq, cq, hqv⟩ := own_slice hP.que
    subst hqv
    have HS : Hid (s.on l = { s with down := false, secs := PSt.onto l s.secs 0 s.queue, queue := [] }) := by unfold PSt.on; rw [if_pos hd]; exact rfl
    rw [hd] at hpd
    have f3 := hP.blk.frozen 3
    have hq1 := hP.blk.cell 2
    simp only [List.getElem?_toArray] at hq1
    obtain ⟨g, hA0⟩ : ∃ g, s.queue.length = 0 ∨ Aq = some ⟨g, 0, none⟩ := by
      rcases Nat.eq_zero_or_pos s.queue.length with hz | hz
      · exact ⟨0, .inl hz⟩
      · obtain ⟨g, c', e, _⟩ := hP.que.form hz
        injection e with e1
        exact ⟨g, .inr e1⟩
    have hB1 : Plate0 (w.setCell ⟨p, 3, none⟩ (.bool false)) p m (.slice Aq s.queue.length cq) { s with down := false } := hP.keep ((Fr.refl (One p) w).one 3 _) rfl (hP.blk.set_ 3 _)
    have hM1 := map_fr hM ((Fr.refl (One p) w).one 3 (.bool false)) (map_blk_ne hM hP.blk)
    have HF : Fr F w (w.setCell ⟨p, 3, none⟩ (.bool false)) := (Fr.refl F w).set (.inl hFp) 3 _
    have hq2 := hB1.blk.cell 2
    simp only [List.getElem?_toArray] at hq2
    have f2 := hB1.blk.frozen 2
    have HB1 := Lib.hid hB1
    have HM1 := Lib.hid hM1
    clear hd hP hB1 hM1
    rcases hA0 with hz | hAg
    · have hnil : s.queue = [] := List.eq_nil_of_length_eq_zero hz
      have HN := Lib.hid hnil
      have hzz : ((s.queue.length : Int)) ≤ 0 := by omega
      clear hnil hz
      go_enter Tryd.func20, Tryd.ntmps20
      go_wp2_with fail
      refine wp_loop_rounds 1 ?_
      rw [rounds_succ]
      go_wp2_with fail
      go_end0
      rw [HS.out]
      exact on_end hFp hFm HB1.out HM1.out (by rw [HN.out]; exact hD) HF (by omega) hok
    · subst hAg
      go_enter Tryd.func20, Tryd.ntmps20
      go_wp2_with fail
      go_loopw [23] (fun i wr => ∃ (k n' : Nat) (D' : DataW Unit), k ≤ s.queue.length ∧ i = .int .i64 k ∧ wr.ownsMap Tryd.prog 3 qelem m n' D' ∧ MapFn D' (PSt.onto l s.secs 0 (s.queue.take k)) ∧ n' ≤ nn + k ∧
          Plate0 wr p m (.slice (some ⟨g, 0, none⟩) s.queue.length cq) { s with down := false } ∧ Fr F w wr) (fun i _ => s.queue.length - (intOf i).toNat)
      case atStart => exact ⟨0, nn, D, Nat.zero_le _, rfl, HM1.out, by simpa [PSt.onto] using hD, by omega, HB1.out, HF⟩
      case round =>
        obtain ⟨k, n', D', hk, rfl, hM', hD', hn', hP', hF'⟩ := hrel
        by_cases hlt : k < s.queue.length
        · obtain ⟨x, hx⟩ : ∃ x, s.queue[k]? = some x := ⟨_, List.getElem?_eq_getElem hlt⟩
          have hx1 := hok.que x (List.mem_of_getElem? hx)
          have hqw := hP'.que
          obtain ⟨g', c', e, hc1, hc2⟩ := qrow hqw k x hx
          obtain rfl : g = g' := by injection e with e1; injection e1 with e1; injection e1
          have hb1 := hP'.blk.cell 1
          simp only [List.getElem?_toArray] at hb1
          have HPW := Lib.hid hP'
          have HM' := Lib.hid hM'
          have HD' := Lib.hid hD'
          have HX := Lib.hid hx
          obtain ⟨f, hf⟩ : ∃ f, PSt.fate l k = f := ⟨_, rfl⟩
          have hLw : Ints (wr.alloc (.cells #[.int .i64 x.1, .string x.2] 94)) F A l := hl.fr (hF'.alloc _)
          have hfc := fate_any _ F A c l k hLw (by omega)
          rw [hf] at hfc
          have HFC := Lib.hid hfc
          have HFE := Lib.hid hf
          have hb2 := (HPW.out.blk.alloc (.cells #[.int .i64 x.1, .string x.2] 94)).cell 1
          simp only [List.getElem?_toArray] at hb2
          clear hP' hM' hD' hx e hqw hM hD hf hfc hLw
          by_cases hf1 : f = 1
          · obtain ⟨w2, D2, hrun, hM2, hD2, hG2⟩ := map_store (W := (wr.alloc (.cells #[.int .i64 x.1, .string x.2] 94)).drew) ((HM'.out.alloc _).drew) HD'.out (by omega) x hx1.1 (by have := hok.c2; omega) (by omega)
            have HM2 := Lib.hid hM2
            have HD2 := Lib.hid hD2
            have HG2 := Lib.hid hG2
            have e1 : (f == 1) = true := by rw [beq_iff_eq]; exact hf1
            have HF1 := Lib.hid hf1
            clear hM2 hD2 hG2 hf1
            go_wp2_with fail
            refine HFC.out.mono ?_
            rintro e w' ⟨rfl, rfl⟩
            go_wp2_with fail
            go_region
            go_wp2_with fail
            go_roundw
            case rel =>
              refine ⟨k + 1, n' + 1, D2, by omega, by go_num, HM2.out, ?_, by omega, ?_, ?_⟩
              · rw [onto_take _ _ _ _ _ HX.out, PSt.fated, if_pos (by rw [HFE.out]; exact HF1.out)]; exact HD2.out
              · exact ((HPW.out.alloc _).drew).grown HG2.out (map_blk_ne HM'.out HPW.out.blk) (map_own_ne HM'.out HPW.out.que)
              · exact ((hF'.alloc _).drew).grown HG2.out (fun j hj => .inl (by cases hj; exact hFm))
            case measure => simp [intOf]; omega
          · have e1 : (f == 1) = false := by rw [beq_eq_false_iff_ne]; exact hf1
            have HF1 := Lib.hid hf1
            clear hf1
            by_cases hf2 : f = 2
            · obtain ⟨w2, D2, hrun, hM2, hD2, hG2⟩ := map_store (W := (wr.alloc (.cells #[.int .i64 x.1, .string x.2] 94)).drew) ((HM'.out.alloc _).drew) HD'.out (by omega) (x.1, (⟨#[]⟩ : ByteArray)) hx1.1 (by have := hok.c2; simp; omega) (by simp [ByteArray.size])
              dsimp only at hrun
              have HM2 := Lib.hid hM2
              have HD2 := Lib.hid hD2
              have HG2 := Lib.hid hG2
              have e2 : (f == 2) = true := by rw [beq_iff_eq]; exact hf2
              have HF2 := Lib.hid hf2
              clear hM2 hD2 hG2 hf2
              go_wp2_with fail
              refine HFC.out.mono ?_
              rintro e w' ⟨rfl, rfl⟩
              go_wp2_with fail
              go_region
              go_wp2_with fail
              go_roundw
              case rel =>
                refine ⟨k + 1, n' + 1, D2, by omega, by go_num, HM2.out, ?_, by omega, ?_, ?_⟩
                · rw [onto_take _ _ _ _ _ HX.out, PSt.fated, if_neg (by rw [HFE.out]; exact HF1.out), if_pos (by rw [HFE.out]; exact HF2.out)]; exact HD2.out
                · exact ((HPW.out.alloc _).drew).grown HG2.out (map_blk_ne HM'.out HPW.out.blk) (map_own_ne HM'.out HPW.out.que)
                · exact ((hF'.alloc _).drew).grown HG2.out (fun j hj => .inl (by cases hj; exact hFm))
              case measure => simp [intOf]; omega
            · have e2 : (f == 2) = false := by rw [beq_eq_false_iff_ne]; exact hf2
              have HF2 := Lib.hid hf2
              clear hf2
              go_wp2_with fail
              refine HFC.out.mono ?_
              rintro e w' ⟨rfl, rfl⟩
              go_wp2_with fail
              go_roundw
              case rel =>
                refine ⟨k + 1, n', D', by omega, by go_num, HM'.out.alloc _, ?_, by omega, HPW.out.alloc _, hF'.alloc _⟩
                rw [onto_take _ _ _ _ _ HX.out, PSt.fated, if_neg (by rw [HFE.out]; exact HF1.out), if_neg (by rw [HFE.out]; exact HF2.out)]; exact HD'.out
              case measure => simp [intOf]; omega
        · obtain rfl : k = s.queue.length := by omega
          have hb1 := hP'.blk.frozen 2
          have hb2 := hP'.blk.cell 2
          simp only [List.getElem?_toArray] at hb2
          have HPW := Lib.hid hP'
          have HM' := Lib.hid hM'
          have HD' := Lib.hid hD'
          clear hP' hM' hD'
          go_wp2_with fail
          go_end0
          rw [HS.out]
          exact on_end hFp hFm HPW.out HM'.out (by rw [List.take_length] at HD'; exact HD'.out) hF' (by omega) hok
  · have HS : Hid (s.on l = s) := by unfold PSt.on; rw [if_neg hd]; exact rfl
    rw [Bool.eq_false_iff.2 hd] at hpd
    clear hP hd
    go_enter Tryd.func20, Tryd.ntmps20
    go_wp2_with fail
    refine bodyPost_ret (results_none rfl _ _ _) rfl ?_
    rw [HS.out]
    exact ⟨rfl, F, ⟨m, qv, nn, D, HP.out, hM, hD, hFp, hFm, hFq, hb, hok⟩, Fr.refl _ _, Sub.refl _ _⟩

end Go.Proofs.YtbikplckehbcnaaDoor
