/- twin.Open, whole: at arguments that can be, the power on. -/
import Derived.Test.YtbikplckehbcnaaDoorLoadW
set_option linter.unusedVariables false
set_option linter.unusedSimpArgs false
namespace Go.Proofs.YtbikplckehbcnaaDoor
open Go Go.RowKit

theorem write_keeps {s : PSt} {n : Int} {t : ByteArray} : (s.write n t).1.secs = s.secs ∧ (s.write n t).1.count = s.count := by
  unfold PSt.write
  split
  · exact ⟨rfl, rfl⟩
  · split
    · exact ⟨rfl, rfl⟩
    · refine ⟨PSt.act_secs _, ?_⟩
      unfold PSt.act PSt.off
      split <;> (try split) <;> (try split) <;> rfl
theorem loadP_ok {s s' : PSt} {frm tw n : Nat} {d d' : Bool} {x : Bool × Pg} {r : Int} (h : loadP s frm tw n d = (s', d', some x, r)) : r = 0 ∧ s'.secs = s.secs ∧ s'.count = s.count ∧ s'.life = s.life ∧ s.acts ≤ s'.acts ∧ s'.acts ≤ s.acts + 1 := by
  unfold loadP at h
  split at h
  · split at h <;> (cases h; exact ⟨rfl, rfl, rfl, rfl, by omega, by omega⟩)
  · split at h
    · cases h; exact ⟨rfl, rfl, rfl, rfl, by omega, by omega⟩
    · split at h
      · cases h
      · rename_i h0
        cases h
        obtain ⟨a, b⟩ := write_ok (Decidable.not_not.1 h0)
        obtain ⟨c, e⟩ := write_keeps (s := s) (n := ((frm + tw + n : Nat) : Int)) (t := sectS n _ _)
        exact ⟨rfl, c, e, a, by omega, by omega⟩
theorem openN_stop {s : PSt} {frm tw k : Nat} {x : PSt × Int} (h : openN s frm tw k = .inl x) : ∀ {n : Nat}, k ≤ n → openN s frm tw n = .inl x := by
  intro n hn
  induction n with
  | zero => obtain rfl : k = 0 := by omega
            exact h
  | succ n ih =>
    by_cases e : k = n + 1
    · rw [← e]; exact h
    · simp only [openN, ih (by omega)]
/-- What Open comes to; F: the plate's blocks before. -/
def OpenIs (lo : Nat) (w w' : World) (F : Nat → Prop) (p frm tw : Nat) (life : Int) (e : Ending) (R : PSt × Option (List Pg) × Int) : Prop :=
  (∃ s' r F', R = (s', none, r) ∧ e = .returned (.tuple #[.pointer none, .int .i64 r]) ∧ IsPlate w' F' p s' ∧ (∀ k, F' k → lo ≤ k ∧ k < w'.heap.size) ∧ Sub w F F') ∨
  (∃ s' ps q F' pv' qs, R = (s', some ps, 0) ∧ e = .returned (.tuple #[.pointer (some ⟨q, 0, none⟩), .int .i64 0]) ∧ StAt lo w' F' q p pv' frm tw life false s' qs ∧ qs.map PgM.pg = ps ∧ Sub w F (Ows F' q pv'))

/-- So far, k pages. -/
structure OpenK (lo : Nat) (w wr : World) (F : Nat → Prop) (p frm tw k : Nat) (s s1 : PSt) (d : Bool) (ps : List Pg) (wh : Bool) : Prop where
  ev : openN s frm tw k = .inr (s1, d, ps, wh)
  st : ∃ F1 pv1 qs, StAt lo wr F1 w.heap.size p pv1 frm tw s.life d s1 qs ∧ qs.map PgM.pg = ps ∧ Sub w F (Ows F1 w.heap.size pv1)
  be : Fr F w wr
  fu : Full s1
  li : s1.life = s.life
  ac : s1.acts ≤ s.acts + k
  ln : ps.length = k

set_option maxRecDepth 100000 in
set_option maxHeartbeats 4000000 in
theorem open_at {lo : Nat} (w : World) {F : Nat → Prop} {p : Nat} {s : PSt} (hF : IsPlate w F p s) (hFl : ∀ k, F k → lo ≤ k ∧ k < w.heap.size) (frm tw np : Nat) (h1 : 1 ≤ tw ∧ tw ≤ 64) (h2 : 1 ≤ np ∧ np ≤ 1024) (h3 : (frm : Int) + tw + np ≤ s.count) (hd : s.down = false) (hac : s.acts < 900000) (hlf : s.life < 900000) (hfu : Full s) :
    Calls Tryd.prog 12 #[.pointer (some ⟨p, 0, none⟩), .int .i64 (frm : Int), .int .i64 (tw : Int), .int .i64 (np : Int)] w fun e w' => OpenIs lo w w' F p frm tw s.life e (openP s frm tw np) ∧ Fr F w w' := by
  have HF := Lib.hid hF
  have HFL := Lib.hid hFl
  have HFU := Lib.hid hfu
  have hc2 := hF.ok.c2
  have hl0 := hF.ok.l0
  clear hF hFl hfu
  go_enter Tryd.func12, Tryd.ntmps12
  go_wp2_with fail
  refine (sectors_is w F p s HF.out).mono ?_
  rintro e w' ⟨rfl, rfl⟩
  have hw1 : wrap64 (s.count - (tw : Int)) = s.count - tw := by unfold wrap64; omega
  have hw2 : wrap64 (s.count - (tw : Int) - (np : Int)) = s.count - tw - np := by unfold wrap64; omega
  go_wp2_with fail
  refine (down_is w F p s HF.out).mono ?_
  rw [hd]
  rintro e w' ⟨rfl, rfl⟩
  go_wp2_with fail
  refine (life_is w F p s HF.out).mono ?_
  rintro e w' ⟨rfl, rfl⟩
  go_wp2_with fail
  have hlo : lo ≤ w.heap.size := by obtain ⟨m, qv, nn, D, hP, _, _, hFp, _⟩ := HF.out; have := HFL.out p hFp; omega
  have H0 : Hid (StAt lo (w.alloc (.cells #[.pointer (some ⟨p, 0, none⟩), .int .i64 (frm : Int), .int .i64 (tw : Int), .slice none 0 0, .int .i64 s.life, .bool false] 84)) F w.heap.size p (.slice none 0 0) frm tw s.life false s []) :=
    ⟨Blk.new w _ _, World.ownsRow_nil _ _ _ _, HF.out.fr ((Fr.refl Nope w).alloc _) (fun _ _ h => h), fun k hk => ⟨(HFL.out k hk).1, by have := (HFL.out k hk).2; simp; omega⟩, hlo, fun hk => by have := (HFL.out _ hk).2; omega, fun g hg => by simp [Value.ownBlock] at hg, fun m hm => by simp at hm⟩
  have HB0 := Lib.hid ((Fr.refl F w).alloc (.cells #[.pointer (some ⟨p, 0, none⟩), .int .i64 (frm : Int), .int .i64 (tw : Int), .slice none 0 0, .int .i64 s.life, .bool false] 84))
  clear hw1 hw2
  have hfrm : frm ≤ 16384 := by omega
  go_loopw [11, 59] (fun b i wr => ∃ (k : Nat) (s1 : PSt) (d : Bool) (ps : List Pg) (wh : Bool), b = .bool wh ∧ i = .int .i64 k ∧ k ≤ np ∧ Hid (OpenK lo w wr F p frm tw k s s1 d ps wh)) (fun _ i _ => np - (intOf i).toNat)
  case atStart => exact ⟨0, s, false, [], true, rfl, rfl, by omega, rfl, ⟨F, _, [], H0.out, rfl, fun k hk => by rcases hk with hk | hk | hk; exact .inl hk; exact .inr (by omega); simp [Value.ownBlock] at hk⟩, HB0.out, HFU.out, rfl, by omega, rfl⟩
  case round =>
    obtain ⟨k, s1, d, ps, wh, rfl, rfl, hk, hS⟩ := hrel
    have hli := hS.out.li
    have hac1 := hS.out.ac
    have hln := hS.out.ln
    have HLI := Lib.hid hli
    have HLN := Lib.hid hln
    have hlf1 : s1.life < 1000000 := by omega
    have hac2 : s1.acts < 1000000 := by omega
    clear hli hln hac1
    obtain ⟨F1, pv1, qs, hst, hqs, hsub⟩ := hS.out.st
    have HSUB := Lib.hid hsub
    have HST := Lib.hid hst
    have HQS := Lib.hid hqs
    have hql : qs.length ≤ 65536 := by have := HLN.out; rw [← hqs, List.length_map] at this; omega
    clear hst hqs hsub
    by_cases hlt : k < np
    · go_wp2_with fail
      refine (load_at _ HST.out k hfrm h1.2 (by omega) hql hac2 hlf1 hS.out.fu).mono ?_
      rw [HQS.out]
      rintro e w1 ⟨hL, b1⟩
      have HSZ := Lib.hid hS.out.be.size
      have HB1 := Lib.hid (hS.out.be.trans b1 HSUB.out)
      clear b1
      rcases hL with ⟨s', d', r, F', hR, hr, rfl, hpl, hfl', hsb'⟩ | ⟨s', d', ok, pg, F', pv', ps', hR, rfl, hst2, hmp2, hsb2⟩
      · have hr2 : (r != 0) = true := by rw [bne_iff_ne]; exact hr
        have HPL := Lib.hid (And.intro hpl (And.intro hfl' (show Sub w F F' from fun k hk => by rcases hsb' k hk with h | h; exact HSUB.out k h; exact .inr (Nat.le_trans HSZ.out h))))
        have HEV : Hid (openN s frm tw (k + 1) = .inl (s', r)) := by unfold Hid; simp only [openN, hS.out.ev, hR]
        have HEN : Hid (openN s frm tw np = .inl (s', r)) := openN_stop HEV.out (by omega)
        clear hr hR hpl hfl' hsb'
        go_wp2_with fail
        go_ret2
        exact ⟨.inl ⟨s', r, F', by unfold openP; rw [HEN.out], rfl, HPL.out⟩, HB1.out⟩
      · have HST2 : Hid (∃ F1 pv1 qs, StAt lo w1 F1 w.heap.size p pv1 frm tw s.life d' s' qs ∧ qs.map PgM.pg = ps ++ [pg] ∧ Sub w F (Ows F1 w.heap.size pv1)) := ⟨F', pv', ps', hst2, hmp2, fun k hk => by rcases hsb2 k hk with h | h; exact HSUB.out k h; exact .inr (Nat.le_trans HSZ.out h)⟩
        obtain ⟨_, a1, a2, a3, a4, a5⟩ := loadP_ok hR
        have HEV : Hid (openN s frm tw (k + 1) = .inr (s', d', ps ++ [pg], wh && ok)) := by unfold Hid; simp only [openN, hS.out.ev, hR]
        have HK : Hid (OpenK lo w w1 F p frm tw (k + 1) s s' d' (ps ++ [pg]) (wh && ok)) := ⟨HEV.out, HST2.out, HB1.out, fun n t h => hS.out.fu n t (by rw [← a1]; exact h), by rw [a3]; exact hS.out.li, by have := hS.out.ac; omega, by rw [List.length_append, HLN.out]; rfl⟩
        clear hst2 hmp2 hsb2 hR a1 a2 a3 a4 a5
        cases wh <;> cases ok
        all_goals
          go_wp2_with fail
          go_roundw
          case rel => exact ⟨k + 1, s', d', ps ++ [pg], _, rfl, by go_num, by omega, HK.out⟩
          case measure => simp [intOf]; omega
    · obtain rfl : k = np := by omega
      have hq5 := HST.out.st.cell 5
      have hqf5 := HST.out.st.frozen 5
      simp only [List.getElem?_toArray] at hq5
      cases d with
      | false =>
        cases wh with
        | true =>
          go_wp2_with fail
          go_ret2
          refine ⟨.inr ⟨s1, ps, w.heap.size, F1, pv1, qs, by unfold openP; rw [hS.out.ev]; simp, rfl, HST.out.mark false, HQS.out, HSUB.out⟩, hS.out.be.set (.inr (Nat.le_refl _)) 5 _⟩
        | false =>
          go_wp2_with fail
          go_ret2
          have hm := HST.out.mark false
          refine ⟨.inl ⟨s1, 4, F1, by unfold openP; rw [hS.out.ev]; simp, rfl, hm.pl, hm.fl, fun k hk => HSUB.out k (.inl hk)⟩, hS.out.be.set (.inr (Nat.le_refl _)) 5 _⟩
      | true =>
        obtain ⟨s2, hs2⟩ : ∃ s2, s1.sync.1 = s2 := ⟨_, rfl⟩
        obtain ⟨r2, hr2⟩ : ∃ r2, s1.sync.2 = r2 := ⟨_, rfl⟩
        have HSY := sync_any wr F1 p s1 HST.out.pl (by omega) (by omega)
        rw [hs2, hr2] at HSY
        have HSYN := Lib.hid HSY
        have HS2 := Lib.hid hs2
        have HR2 := Lib.hid hr2
        clear hs2 hr2 HSY hqf5
        go_wp2_with fail
        refine HSYN.out.mono ?_
        rintro e w2 ⟨rfl, hL2⟩
        obtain ⟨F2, h2s, hf2, hsb2⟩ := HST.out.left2 hL2
        have H2S := Lib.hid h2s
        have HB2 := Lib.hid (hS.out.be.trans hf2 (fun k hk => HSUB.out k (.inl hk)))
        have HSUB2 : Hid (Sub w F (Ows F2 w.heap.size pv1)) := fun k hk => by
          rcases hk with hk | hk
          · rcases hsb2 k hk with h | h
            · exact HSUB.out k (.inl h)
            · exact .inr (Nat.le_trans hS.out.be.size h)
          · exact HSUB.out k (.inr hk)
        clear hL2 h2s hf2 hsb2 hq5
        by_cases hr : r2 = 0
        · subst hr
          have hq5 := H2S.out.st.cell 5
          have hqf5 := H2S.out.st.frozen 5
          simp only [List.getElem?_toArray] at hq5
          cases wh with
          | true =>
            go_wp2_with fail
            go_ret2
            refine ⟨.inr ⟨s2, ps, w.heap.size, F2, pv1, qs, by unfold openP; rw [hS.out.ev]; simp [HR2.out, HS2.out], rfl, H2S.out.mark false, HQS.out, HSUB2.out⟩, HB2.out.set (.inr (Nat.le_refl _)) 5 _⟩
          | false =>
            go_wp2_with fail
            go_ret2
            have hm := H2S.out.mark false
            refine ⟨.inl ⟨s2, 4, F2, by unfold openP; rw [hS.out.ev]; simp [HR2.out, HS2.out], rfl, hm.pl, hm.fl, fun k hk => HSUB2.out k (.inl hk)⟩, HB2.out.set (.inr (Nat.le_refl _)) 5 _⟩
        · have hr3 : (r2 != 0) = true := by rw [bne_iff_ne]; exact hr
          have HR := Lib.hid hr
          clear hr
          go_wp2_with fail
          go_ret2
          exact ⟨.inl ⟨s2, r2, F2, by unfold openP; rw [hS.out.ev]; simp [HR2.out, HS2.out, HR.out], rfl, H2S.out.pl, H2S.out.fl, fun k hk => HSUB2.out k (.inl hk)⟩, HB2.out⟩

end Go.Proofs.YtbikplckehbcnaaDoor
