/- twin.Store: lay, at the copies' places. -/
import Derived.Test.YtbikplckehbcnaaDoorLay
import Derived.Deep.DeepCutAuto
import Derived.Deep.CutBlock
set_option linter.unusedVariables false
set_option linter.unusedSimpArgs false
namespace Go.Proofs.YtbikplckehbcnaaDoor
open Go Go.RowKit

/-- Writing, then Sync. -/
def layS (s : PSt) (l : List (Int × ByteArray)) : PSt × Int := if (layW s l).2 = 0 then (layW s l).1.sync else layW s l
def wr1 (frm : Nat) (ls : List LfM) : List (Int × ByteArray) := ls.mapIdx fun i m => (((frm + i : Nat) : Int), sectS m.n m.l m.xs)
theorem wr1_step {frm : Nat} {ls : List LfM} {k : Nat} {m : LfM} (hm : ls[k]? = some m) : wr1 frm (ls.take (k + 1)) = wr1 frm (ls.take k) ++ [(((frm + k : Nat) : Int), sectS m.n m.l m.xs)] := by
  have hk := (List.getElem?_eq_some_iff.1 hm).1
  unfold wr1
  rw [List.take_add_one, hm, Option.toList_some, List.mapIdx_append]
  simp
  omega

theorem act_ok {s : PSt} (h : s.act.2 = 0) : s.act.1.life = s.life ∧ s.act.1.acts = s.acts + 1 := by
  unfold PSt.act at h ⊢
  split
  · rename_i h1
    rw [if_pos h1] at h
    split
    · rename_i h2
      rw [if_pos h2] at h
      simp at h
    · exact ⟨rfl, rfl⟩
  · exact ⟨rfl, rfl⟩
theorem write_ok {s : PSt} {n : Int} {t : ByteArray} (h : (s.write n t).2 = 0) : (s.write n t).1.life = s.life ∧ (s.write n t).1.acts = s.acts + 1 := by
  unfold PSt.write at h ⊢
  split
  · rename_i h1
    rw [if_pos h1] at h
    exact absurd h h1
  · rename_i h1
    rw [if_neg h1] at h
    split
    · rename_i h2
      rw [if_pos h2] at h
      simp at h
    · rename_i h2
      rw [if_neg h2] at h
      exact act_ok h
theorem wr1_take (frm : Nat) (ls : List LfM) (j : Nat) : ∃ r, wr1 frm ls = wr1 frm (ls.take j) ++ r := by
  unfold wr1
  conv => rhs; ext r; lhs; rw [← List.take_append_drop j ls]
  rw [List.mapIdx_append]
  exact ⟨_, rfl⟩

set_option maxRecDepth 100000 in
set_option maxHeartbeats 4000000 in
theorem lay1_at {lo : Nat} (w : World) {F0 : Nat → Prop} {q p : Nat} {pv : Value} {frm tw : Nat} {life : Int} {s : PSt} {ps : List PgM} (h : StAt lo w F0 q p pv frm tw life false s ps)
    (bx : Nat) (hb : w.cell? ⟨bx, 0, none⟩ = some (.pointer (some ⟨q, 0, none⟩))) (hbl : bx < w.heap.size) (hbF : ¬ F0 bx) (hbq : bx ≠ q)
    (G : Nat → Prop) (hG : ∀ k, F0 k ∨ k = q → G k) (A : Option Addr) (c : Nat) (ls : List LfM) (hl : Leaves w G A ls) (hlen : ls.length ≤ 64) (hgood : ∀ m ∈ ls, goodP m.l m.xs = true)
    (h1 : frm ≤ 16384) (hlife : s.life < 2000000) (hacts : s.acts < 2000000) :
    Calls Tryd.prog 41 #[.pointer (some ⟨q, 0, none⟩), .slice A ls.length c, .func (.func 42) #[] #[.pointer (some ⟨bx, 0, none⟩)]] w
      fun e w' => ∃ s' r F', layS s (wr1 frm ls) = (s', r) ∧ e = .returned (.int .i64 r) ∧ StAt lo w' F' q p pv frm tw life (decide (r ≠ 0)) s' ps ∧ Fr (fun k => F0 k ∨ k = q) w w' ∧ Sub w F0 F' := by
  have H := Lib.hid h
  have HLS := Lib.hid hl
  have HGD := Lib.hid hgood
  have HBX := Lib.hid hb
  obtain ⟨b, off, hA⟩ : ∃ b off, ls.length = 0 ∨ A = some ⟨b, off, none⟩ := by
    rcases Nat.eq_zero_or_pos ls.length with hz | hz
    · exact ⟨0, 0, .inl hz⟩
    · obtain ⟨b, off, e, _⟩ := hl hz
      exact ⟨b, off, .inr e⟩
  clear h hl hgood hb
  go_enter Tryd.func41, Tryd.ntmps41
  go_wp2_with fail
  go_loopw [13] (fun i wr => ∃ (k : Nat) (s1 : PSt) (F1 : Nat → Prop), k ≤ ls.length ∧ i = .int .i64 k ∧ Hid (layW s (wr1 frm (ls.take k)) = (s1, 0)) ∧ s1.life < 2000000 ∧ s1.acts ≤ s.acts + k ∧ Hid (StAt lo wr F1 q p pv frm tw life false s1 ps ∧ Fr (fun k => F0 k ∨ k = q) w wr ∧ Sub w F0 F1)) (fun i _ => ls.length - (intOf i).toNat)
  case atStart => exact ⟨0, s, F0, by omega, rfl, by rw [List.take_zero]; rfl, hlife, by omega, H.out, Fr.refl _ _, Sub.refl _ _⟩
  case round =>
    obtain ⟨k, s1, F1, hk, rfl, hW, hlf, hac, hS⟩ := hrel
    by_cases hlt : k < ls.length
    · obtain ⟨m, hm⟩ : ∃ m, ls[k]? = some m := ⟨_, List.getElem?_eq_getElem hlt⟩
      rcases hA with hz | rfl
      · omega
      have hLr : Leaves wr G (some ⟨b, off, none⟩) ls := HLS.out.fr (hS.out.2.1.mono hG)
      obtain ⟨b', off', e', hbw, hnG, hc⟩ := hLr (by omega)
      obtain ⟨rfl, rfl⟩ : b = b' ∧ off = off' := by injection e' with e1; injection e1 with e1 e2; exact ⟨e1, e2⟩
      obtain ⟨hd1, hd2, hd3, hwf, hxl, hsl⟩ := hc k m hm
      have HSL := Lib.hid hsl
      have HM := Lib.hid hm
      have HGM := Lib.hid (HGD.out m (List.mem_of_getElem? hm))
      clear hc e' hsl hm hLr
      obtain ⟨n, l, Al, cl, xs⟩ := m
      have hxl : xs.length ≤ 4611686018427387904 := hxl
      have hbw4 := (Below.refl wr.heap.size wr).alloc (Nat.le_refl _) (.cells #[.int .i64 n, .int .i64 l, .slice Al xs.length cl] 27)
      have H4 := Lib.hid (hS.out.1.below hbw4)
      have HX4 := Lib.hid (Blk.new wr 27 #[.int .i64 n, .int .i64 l, .slice Al xs.length cl])
      have HSL4 := Lib.hid (HSL.out.fr ((Fr.refl G wr).alloc (.cells #[.int .i64 n, .int .i64 l, .slice Al xs.length cl] 27)))
      have HB4 := Lib.hid hbw4
      have hbxr : wr.cell? ⟨bx, 0, none⟩ = some (.pointer (some ⟨q, 0, none⟩)) := (hS.out.2.1.cell (p := ⟨bx, 0, none⟩) hbl (fun e => by rcases e with e | e; exact hbF e; exact hbq e)).trans HBX.out
      have HBX4 := Lib.hid ((hbw4.cell (p := ⟨bx, 0, none⟩) (Nat.lt_of_lt_of_le hbl hS.out.2.1.size)).trans hbxr)
      clear hbw4 hbxr
      go_upto_region 4 with fail
      clear hd1 hd2 hd3
      revert H4 HX4 HSL4 HB4 HBX4
      generalize wr.alloc (.cells #[.int .i64 n, .int .i64 l, .slice Al xs.length cl] 27) = W4
      intro H4 HX4 HSL4 HB4 HBX4
      have HKB : Hid (∀ W' : World, Below W4.heap.size W4 W' → (W'.cell? ⟨q, 0, none⟩ = some (.pointer (some ⟨p, 0, none⟩)) ∧ W'.cell? ⟨wr.heap.size, 0, none⟩ = some (.int .i64 n) ∧ W'.cell? ⟨wr.heap.size, 1, none⟩ = some (.int .i64 l) ∧ W'.cell? ⟨wr.heap.size, 2, none⟩ = some (.slice Al xs.length cl))) := fun W' hW => by
        have e := HX4.out.below hW HX4.out.lt
        have e2 := (H4.out.below hW).st
        exact ⟨e2.cell 0, e.cell 0, e.cell 1, e.cell 2⟩
      have HPL : Hid (∀ W' : World, Below W4.heap.size W4 W' → Calls Tryd.prog 42 #[.int .i64 (k : Int), .pointer (some ⟨bx, 0, none⟩)] W' fun e w' => e = .returned (.int .i64 ((frm + k : Nat) : Int)) ∧ Below W'.heap.size W' w') := fun W' hW => place1_at W' (H4.out.below hW) bx ((hW.cell (p := ⟨bx, 0, none⟩) (by have := hS.out.2.1.size; have := HB4.out.size; simp; omega)).trans HBX4.out) k h1 (by omega)
      have HSE : Hid (∀ W' : World, Below W4.heap.size W4 W' → Calls Tryd.prog 76 #[.int .i64 n, .agg #[.int .i64 l, .slice Al xs.length cl]] W' fun e w' => e = .returned (.string (sectS n l xs)) ∧ Below W'.heap.size W' w') := fun W' hW => sect_any W' G n l Al cl xs (HSL4.out.fr ((Fr.refl G W4).below hW)) HGM.out
      have hsz : (sectS n l xs).size = 256 := sectS_size (goodP_iff.1 HGM.out)
      have HWR : Hid (∀ W' : World, Below W4.heap.size W4 W' → Calls Tryd.prog 75 #[.pointer (some ⟨p, 0, none⟩), .int .i64 ((frm : Int) + (k : Int)), .string (sectS n l xs)] W' fun e w' => e = .returned (.int .i64 (s1.write ((frm + k : Nat) : Int) (sectS n l xs)).2) ∧ Left W' w' F1 p (s1.write ((frm + k : Nat) : Int) (sectS n l xs)).1) := fun W' hW => write_any W' F1 p s1 _ _ (H4.out.below hW).pl (by omega) (by omega) (by rw [hsz]; omega)
      have HW0 : Hid (Below W4.heap.size W4 W4.drew) := (Below.refl _ _).drew
      have HFW : Hid (∀ W1 W' : World, Below W4.heap.size W4 W1 → Left W1 W' F1 p (s1.write ((frm + k : Nat) : Int) (sectS n l xs)).1 → (W'.cell? ⟨q, 0, none⟩ = some (.pointer (some ⟨p, 0, none⟩)) ∧ W'.cell? ⟨wr.heap.size, 0, none⟩ = some (.int .i64 n) ∧ W'.cell? ⟨wr.heap.size, 1, none⟩ = some (.int .i64 l) ∧ W'.cell? ⟨wr.heap.size, 2, none⟩ = some (.slice Al xs.length cl))) := fun W1 W' hW hL => by
        obtain ⟨F', _, hf, _⟩ := hL
        have e := (HX4.out.below hW HX4.out.lt).fr hf (fun hF => by have := (hS.out.1.fl _ hF).2; omega)
        have e2 := ((H4.out.below hW).st).fr hf (H4.out.below hW).dq
        exact ⟨e2.cell 0, e.cell 0, e.cell 1, e.cell 2⟩
      obtain ⟨st, hst⟩ : ∃ st, sectS n l xs = st := ⟨_, rfl⟩
      have HST := Lib.hid hst
      rw [hst] at HSE HWR HFW
      clear hst hsz
      revert HWR HFW
      obtain ⟨s2, hs2⟩ : ∃ s2, (s1.write ((frm + k : Nat) : Int) st).1 = s2 := ⟨_, rfl⟩
      obtain ⟨r2, hr2⟩ : ∃ r2, (s1.write ((frm + k : Nat) : Int) st).2 = r2 := ⟨_, rfl⟩
      have HS2 := Lib.hid hs2
      have HR2 := Lib.hid hr2
      rw [hs2, hr2]
      clear hs2 hr2
      intro HFW HWR
      go_region_held3 (fun w' => w'.cell? ⟨q, 0, none⟩ = some (.pointer (some ⟨p, 0, none⟩)) ∧ w'.cell? ⟨wr.heap.size, 0, none⟩ = some (.int .i64 n) ∧ w'.cell? ⟨wr.heap.size, 1, none⟩ = some (.int .i64 l) ∧ w'.cell? ⟨wr.heap.size, 2, none⟩ = some (.slice Al xs.length cl))
        (first | exact HKB.out _ HW0.out | exact HKB.out _ HBP.out | exact HKB.out _ HBS.out | exact HFW.out _ _ HBS.out HLF.out)
        (first
          | (go_at_call 42; refine (HPL.out _ HW0.out).mono ?_; rintro e w5 ⟨rfl, b5⟩; have HBP := Lib.hid (HW0.out.trans (b5.mono HW0.out.size)); clear b5)
          | (go_at_call 76; refine (HSE.out _ HBP.out).mono ?_; rintro e w6 ⟨rfl, b6⟩; have HBS := Lib.hid (HBP.out.trans (b6.mono HBP.out.size)); clear b6)
          | (go_at_call 75; refine (HWR.out _ HBS.out).mono ?_; rintro e w7 ⟨rfl, hL7⟩; have HLF := Lib.hid hL7; clear hL7))
      obtain ⟨F7, h7, hf7, hs7⟩ := (H4.out.below HBS.out).left2 HLF.out
      have H7 := Lib.hid h7
      have HF7 := Lib.hid (((hS.out.2.1.below HB4.out).below HBS.out).trans hf7 (fun j hj => by rcases hS.out.2.2 j hj with e | e; exact .inl (.inl e); exact .inr e))
      have HS7 := Lib.hid (hS.out.2.2.trans hs7 (Nat.le_trans hS.out.2.1.size (Nat.le_trans HB4.out.size HBS.out.size)))
      have HWK : Hid (layW s (wr1 frm (ls.take (k + 1))) = (s2, r2)) := by
        unfold Hid
        rw [wr1_step HM.out, layW_snoc _ _ _ _ hW.out]
        show s1.write ((frm + k : Nat) : Int) (sectS n l xs) = _
        rw [HST.out, ← HS2.out, ← HR2.out]
      clear h7 hf7 hs7
      by_cases hr2 : r2 = 0
      · subst hr2
        have HOK : Hid (s2.life = s1.life ∧ s2.acts = s1.acts + 1) := by
          have := write_ok HR2.out
          rw [HS2.out] at this
          exact this
        have hl2 : s2.life < 2000000 := by have := HOK.out.1; omega
        have ha2 : s2.acts ≤ s.acts + (k + 1 : Nat) := by have := HOK.out.2; omega
        go_wp2_with fail
        go_roundw
        case rel => exact ⟨k + 1, s2, F7, by omega, by go_num, HWK, hl2, ha2, H7.out, HF7.out, HS7.out⟩
        case measure => simp [intOf]; omega
      · have hr2' : (r2 == 0) = false := by rw [beq_eq_false_iff_ne]; exact hr2
        have HR := Lib.hid hr2
        clear hr2
        have hq5 := H7.out.st.cell 5
        have hqf := H7.out.st.frozen 5
        simp only [List.getElem?_toArray] at hq5
        go_wp2_with fail
        go_ret
        obtain ⟨rr, hrr⟩ := wr1_take frm ls (k + 1)
        have hst := layW_stop (wr1 frm (ls.take (k + 1))) rr s s2 r2 HWK.out HR.out
        refine ⟨s2, r2, F7, ?_, rfl, ?_, HF7.out.set (.inl (.inr rfl)) 5 _, HS7.out⟩
        · unfold layS
          rw [hrr, hst, if_neg HR.out]
        · rw [decide_eq_true HR.out]
          exact H7.out.mark true
    · obtain rfl : k = ls.length := by omega
      have hq0 := hS.out.1.st.cell 0
      simp only [List.getElem?_toArray] at hq0
      have hWl := hW.out
      rw [List.take_length] at hWl
      have HWL := Lib.hid hWl
      clear hWl
      go_wp2_with fail
      refine (sync_any wr F1 p s1 hS.out.1.pl (by omega) (by omega)).mono ?_
      rintro e w7 ⟨rfl, hL7⟩
      obtain ⟨F7, h7, hf7, hs7⟩ := hS.out.1.left2 hL7
      have H7 := Lib.hid h7
      have HF7 := Lib.hid (hS.out.2.1.trans hf7 (fun j hj => by rcases hS.out.2.2 j hj with e | e; exact .inl (.inl e); exact .inr e))
      have HS7 := Lib.hid (hS.out.2.2.trans hs7 hS.out.2.1.size)
      clear h7 hf7 hs7 hL7 hq0
      have hq5 := H7.out.st.cell 5
      have hqf := H7.out.st.frozen 5
      simp only [List.getElem?_toArray] at hq5
      have HE : Hid (layS s (wr1 frm ls) = (s1.sync.1, s1.sync.2)) := by
        unfold Hid layS
        rw [HWL.out]
        rfl
      generalize s1.sync.2 = r2 at *
      go_wp2_with fail
      go_ret
      refine ⟨s1.sync.1, r2, F7, HE.out, rfl, ?_, HF7.out.set (.inl (.inr rfl)) 5 _, HS7.out⟩
      have := H7.out.mark (decide (r2 ≠ 0))
      rwa [show decide (r2 ≠ 0) = (r2 != 0) by rw [bne, Bool.eq_iff_iff]; simp] at this ⊢

end Go.Proofs.YtbikplckehbcnaaDoor
