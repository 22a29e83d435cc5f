/- twin.Store: Write. -/
import Derived.Test.YtbikplckehbcnaaDoorSet
set_option linter.unusedVariables false
set_option linter.unusedSimpArgs false
namespace Go.Proofs.YtbikplckehbcnaaDoor
open Go Go.RowKit

/-- The pages when leaves have been laid onto them. -/
def laidP (pgs : List (Int × List Slt)) (ls : List LfM) : List (Int × List Slt) := ls.foldl (fun a m => a.set m.n.toNat (m.l, m.xs)) pgs
/-- What Write comes to: the plate, whether the store is dead, the pages, the error. -/
def twWrite (dead : Bool) (s : PSt) (life : Int) (frm tw : Nat) (pgs : List (Int × List Slt)) (ls : List LfM) : Bool × PSt × List (Int × List Slt) × Int :=
  if tRdy dead s life ≠ 0 then (dead, s, pgs, tRdy dead s life)
  else if fitsP pgs.length ls = false ∨ tw < ls.length then (dead, s, pgs, 1)
  else if ls.length = 0 then (dead, s, pgs, 0)
  else if (layS s (wr1 frm ls)).2 ≠ 0 then (true, (layS s (wr1 frm ls)).1, pgs, (layS s (wr1 frm ls)).2)
  else if (layS (layS s (wr1 frm ls)).1 (wr2 frm tw ls)).2 ≠ 0 then (true, (layS (layS s (wr1 frm ls)).1 (wr2 frm tw ls)).1, pgs, (layS (layS s (wr1 frm ls)).1 (wr2 frm tw ls)).2)
  else (false, (layS (layS s (wr1 frm ls)).1 (wr2 frm tw ls)).1, laidP pgs ls, 0)

theorem Leaves.mono {w : World} {F F' : Nat → Prop} {A : Option Addr} {ls : List LfM} (h : Leaves w F A ls) (hF : ∀ k, k < w.heap.size → F' k → F k) : Leaves w F' A ls := fun hn => by
  obtain ⟨b, off, e, hb, hn', hc⟩ := h hn
  refine ⟨b, off, e, hb, fun hf => hn' (hF _ hb hf), fun j m hm => ?_⟩
  obtain ⟨h1, h2, h3, h4, h5, h6⟩ := hc j m hm
  exact ⟨h1, h2, h3, h4, h5, h6.mono hF⟩
theorem layW_ok : ∀ (l : List (Int × ByteArray)) (s : PSt), (layW s l).2 = 0 → (layW s l).1.life = s.life ∧ (layW s l).1.acts = s.acts + l.length := by
  intro l
  induction l with
  | nil => intro s _; exact ⟨rfl, by simp [layW]⟩
  | cons x l ih =>
    intro s h
    simp only [layW] at h ⊢
    split
    · rename_i h0
      rw [if_pos h0] at h
      obtain ⟨h1, h2⟩ := ih _ h
      obtain ⟨h3, h4⟩ := write_ok h0
      refine ⟨h1.trans h3, ?_⟩
      rw [h2, h4, List.length_cons]
      omega
    · rename_i h0
      rw [if_neg h0] at h
      exact absurd h h0
theorem layS_ok {s : PSt} {l : List (Int × ByteArray)} (h : (layS s l).2 = 0) : (layS s l).1.life = s.life ∧ (layS s l).1.acts = s.acts + l.length + 1 := by
  unfold layS at h ⊢
  split
  · rename_i h0
    rw [if_pos h0] at h
    obtain ⟨h1, h2⟩ := layW_ok l s h0
    unfold PSt.sync at h ⊢
    split
    · rename_i h3
      rw [if_pos h3] at h
      exact absurd h h3
    · rename_i h3
      rw [if_neg h3] at h
      split
      · rename_i h4
        rw [if_pos h4] at h
        exact absurd h h4
      · rename_i h4
        obtain ⟨h5, h6⟩ := act_ok (by simpa using h4 : (layW s l).1.act.2 = 0)
        exact ⟨h5.trans h1, by show (layW s l).1.act.1.acts = _; rw [h6, h2]⟩
  · rename_i h0
    rw [if_neg h0] at h
    exact absurd h h0

set_option maxRecDepth 100000 in
set_option maxHeartbeats 4000000 in
theorem twrite_at {lo : Nat} (w : World) {F0 : Nat → Prop} {q p : Nat} {pv : Value} {frm tw : Nat} {life : Int} {dead : Bool} {s : PSt} {ps : List PgM} (h : StAt lo w F0 q p pv frm tw life dead s ps)
    (G : Nat → Prop) (hG : ∀ k, (F0 k ∨ k = q ∨ pv.ownBlock = some k) → G k) (A : Option Addr) (c : Nat) (ls : List LfM) (hl : Leaves w G A ls) (hlen : ls.length ≤ 17592186044416)
    (h1 : frm ≤ 16384) (h2 : tw ≤ 64) (hps : ps.length ≤ 65536) (hlife : s.life < 1000000) (hacts : s.acts < 1000000) :
    Calls Tryd.prog 13 #[.pointer (some ⟨q, 0, none⟩), .slice A ls.length c] w
      fun e w' => ∃ dead' s' ps' r F', twWrite dead s life frm tw (ps.map PgM.pg) ls = (dead', s', ps'.map PgM.pg, r) ∧ e = .returned (.int .i64 r) ∧ StAt lo w' F' q p pv frm tw life dead' s' ps' ∧ Fr (fun k => F0 k ∨ k = q ∨ pv.ownBlock = some k) w w' ∧ Sub w F0 F' := by
  have H := Lib.hid h
  have HLS := Lib.hid hl
  have hbw := (Below.refl w.heap.size w).alloc (Nat.le_refl _) (.cells #[.pointer (some ⟨q, 0, none⟩)] 36)
  have hbw2 := hbw.alloc hbw.size (.cells #[.slice A ls.length c] 22)
  have HB2 := Lib.hid hbw2
  have hx2 := Lib.hid ((Blk.new w 36 #[.pointer (some ⟨q, 0, none⟩)]).alloc (.cells #[.slice A ls.length c] 22))
  have hx3' := Blk.new (w.alloc (.cells #[.pointer (some ⟨q, 0, none⟩)] 36)) 22 #[.slice A ls.length c]
  rw [World.size_alloc] at hx3'
  have hx3 := Lib.hid hx3'
  have H2 := Lib.hid (h.below hbw2)
  have HL2 := Lib.hid (hl.fr ((Fr.refl G w).below hbw2))
  clear h hl hbw hbw2 hx3'
  go_enter Tryd.func13, Tryd.ntmps13
  go_wp2_with fail
  revert HB2 hx2 hx3 H2 HL2
  generalize (w.alloc (.cells #[.pointer (some ⟨q, 0, none⟩)] 36)).alloc (.cells #[.slice A ls.length c] 22) = W2
  intro HB2 hx2 hx3 H2 HL2
  refine (tready_any _ H2.out).mono ?_
  rintro e w1 ⟨rfl, b1⟩
  have hw2 := b1.size
  have H3 := Lib.hid (H2.out.below b1)
  have HL3 := Lib.hid (HL2.out.fr ((Fr.refl G W2).below b1))
  have hx2c := (hx2.out.below b1 hx2.out.lt).cell 0
  have hx3c := (hx3.out.below b1 hx3.out.lt).cell 0
  have HX2 := Lib.hid (hx2.out.below b1 hx2.out.lt)
  have HX3 := Lib.hid (hx3.out.below b1 hx3.out.lt)
  simp only [List.getElem?_toArray] at hx2c hx3c
  have HB3 := Lib.hid (HB2.out.trans (b1.mono HB2.out.size))
  clear b1 hw2
  have HFB : Hid (∀ w' : World, Below w.heap.size w w' → Fr (fun k => F0 k ∨ k = q ∨ pv.ownBlock = some k) w w') := fun w' hb => (Fr.refl _ w).below hb
  obtain ⟨r, hr0⟩ : ∃ r, tRdy dead s life = r := ⟨_, rfl⟩
  have HR0 := Lib.hid hr0
  rw [hr0]
  clear hr0
  by_cases hr : r = 0
  · subst hr
    have HPL : Hid ((ps.map PgM.pg).length = ps.length) := List.length_map ..
    go_wp2_with fail
    refine (fits_at _ H3.out hps h2 G A c ls HL3.out hlen).mono ?_
    rintro e w4 ⟨rfl, b4⟩
    have H4 := Lib.hid (H3.out.below b4)
    have HL4 := Lib.hid (HL3.out.fr ((Fr.refl G w1).below b4))
    have HX24 := Lib.hid (HX2.out.below b4 HX2.out.lt)
    have HX34 := Lib.hid (HX3.out.below b4 HX3.out.lt)
    have HB4 := Lib.hid (HB3.out.trans (b4.mono HB3.out.size))
    clear b4 hx2c hx3c
    have hx2c := HX24.out.cell 0
    have hx3c := HX34.out.cell 0
    simp only [List.getElem?_toArray] at hx2c hx3c
    cases hfit : (fitsP ps.length ls && decide (ls.length ≤ tw)) with
    | false =>
      have HT : Hid (twWrite dead s life frm tw (ps.map PgM.pg) ls = (dead, s, ps.map PgM.pg, 1)) := by
        unfold Hid twWrite
        rw [HR0.out, if_neg (by simp), HPL.out, if_pos]
        rcases Bool.and_eq_false_iff.1 hfit with h | h
        · exact .inl h
        · exact .inr (by have := of_decide_eq_false h; omega)
      clear hfit
      go_wp2_with fail
      go_ret
      exact ⟨dead, s, ps, 1, F0, HT.out, rfl, H4.out, HFB.out _ HB4.out, Sub.refl _ _⟩
    | true =>
      have hft := Bool.and_eq_true_iff.1 hfit
      have HFT := Lib.hid (And.intro hft.1 (of_decide_eq_true hft.2))
      clear hfit hft
      by_cases hz : ls.length = 0
      · have HT : Hid (twWrite dead s life frm tw (ps.map PgM.pg) ls = (dead, s, ps.map PgM.pg, 0)) := by
          unfold Hid twWrite
          rw [HR0.out, if_neg (by simp), HPL.out, if_neg (by rw [HFT.out.1]; have := HFT.out.2; simp; omega), if_pos hz]
        go_wp2_with fail
        go_ret
        exact ⟨dead, s, ps, 0, F0, HT.out, rfl, H4.out, HFB.out _ HB4.out, Sub.refl _ _⟩
      · have hz' : ((ls.length : Int) == 0) = false := by rw [beq_eq_false_iff_ne]; omega
        have hdead : dead = false := by
          cases dead with
          | false => rfl
          | true => have := HR0.out; simp [tRdy] at this
        subst hdead
        have hFq := H.out.st.lt
        have hFl : ∀ k, F0 k → k < w.heap.size := fun k hk => (H.out.fl k hk).2
        have hs4 := HX34.out.lt
        have hgood : ∀ m ∈ ls, goodP m.l m.xs = true ∧ 0 ≤ m.n ∧ m.n < (ps.length : Int) := by
          intro m hm
          have h := (Bool.and_eq_true_iff.1 HFT.out.1).1
          have := List.all_eq_true.1 h m hm
          simp only [Bool.and_eq_true, decide_eq_true_eq] at this
          exact ⟨this.2, this.1.1, this.1.2⟩
        have HGD := Lib.hid hgood
        have hln : ls.length ≤ 64 := Nat.le_trans HFT.out.2 h2
        have HFL := Lib.hid hFl
        clear hgood hFl
        go_wp2_with fail
        refine (lay1_at w4 H4.out w.heap.size (HX24.out.cell 0) (by omega) (fun hF => by have := HFL.out _ hF; omega) (by omega) G (fun k hk => hG k (by rcases hk with hk | hk; exact .inl hk; exact .inr (.inl hk))) A c ls HL4.out hln (fun m hm => (HGD.out m hm).1) h1 (by omega) (by omega)).mono ?_
        rintro e w5 ⟨s5, r5, F5, hls5, rfl, h5, hf5, hsub5⟩
        have HLS5 := Lib.hid hls5
        have H5 := Lib.hid h5
        have HF5 := Lib.hid hf5
        have HSUB5 := Lib.hid hsub5
        clear hls5 h5 hf5 hsub5
        have HF04 : Hid (Fr (fun k => F0 k ∨ k = q ∨ pv.ownBlock = some k) w w4) := HFB.out _ HB4.out
        have HF05 := Lib.hid (HF04.out.trans (HF5.out.mono (F' := fun k => F0 k ∨ k = q ∨ pv.ownBlock = some k) (fun k hk => by rcases hk with hk | hk; exact .inl hk; exact .inr (.inl hk))) (Sub.refl _ _))
        have hsz4 := HB4.out.size
        have HSB5 : Hid (Sub w F0 F5) := fun k hk => (HSUB5.out k hk).imp id (fun h => Nat.le_trans hsz4 h)
        by_cases hr5 : r5 = 0
        · subst hr5
          have hx25 : w5.cell? ⟨w.heap.size, 0, none⟩ = some (.pointer (some ⟨q, 0, none⟩)) := (HF5.out.cell (p := ⟨w.heap.size, 0, none⟩) (by simp; omega) (fun e => by rcases e with e | e; exact absurd (HFL.out _ e) (by simp); exact absurd e (by simp; omega))).trans (HX24.out.cell 0)
          have hx35 : w5.cell? ⟨w.heap.size + 1, 0, none⟩ = some (.slice A ls.length c) := (HF5.out.cell (p := ⟨w.heap.size + 1, 0, none⟩) hs4 (fun e => by rcases e with e | e; exact absurd (HFL.out _ e) (by simp); exact absurd e (by simp; omega))).trans (HX34.out.cell 0)
          have HL5 : Hid (Leaves w5 (fun k => G k ∨ w4.heap.size ≤ k) A ls) := (HL4.out.mono (F' := fun k => G k ∨ w4.heap.size ≤ k) (fun k hk h => by rcases h with h | h; exact h; omega)).fr (HF5.out.mono (fun k hk => .inl (hG k (by rcases hk with hk | hk; exact .inl hk; exact .inr (.inl hk)))))
          have hok5 := layS_ok (s := s) (l := wr1 frm ls) (by rw [HLS5.out])
          rw [HLS5.out] at hok5
          have hw1l : (wr1 frm ls).length = ls.length := by simp [wr1]
          have hlf5 : s5.life < 2000000 := by have := hok5.1; simp only at this; omega
          have hac5 : s5.acts < 2000000 := by have := hok5.2; simp only at this; omega
          have hw5s := HF5.out.size
          clear hx2c hx3c hok5 hw1l
          go_wp2_with fail
          refine (lay2_at w5 (by simpa using H5.out) w.heap.size hx25 (by omega) (fun hF => by rcases HSUB5.out _ hF with h | h; exact absurd (HFL.out _ h) (by simp); omega) (by omega) (w.heap.size + 1) (by omega) (fun hF => by rcases HSUB5.out _ hF with h | h; exact absurd (HFL.out _ h) (by simp); omega) (by omega)
            (fun k => G k ∨ w4.heap.size ≤ k) (fun k hk => by rcases hk with hk | hk; (rcases HSUB5.out k hk with h | h; exact .inl (hG k (.inl h)); exact .inr h); exact .inl (hG k (.inr (.inl hk)))) A c ls hx35 (fun m hm => by have := HGD.out m hm; omega) h2 HL5.out hln (fun m hm => (HGD.out m hm).1) h1 hlf5 hac5).mono ?_
          rintro e w6 ⟨s6, r6, F6, hls6, rfl, h6, hf6, hsub6⟩
          have HLS6 := Lib.hid hls6
          have H6 := Lib.hid h6
          have HSUB6 : Hid (Sub w F0 F6) := Sub.trans HSB5.out hsub6 HF05.out.size
          have hf56 : Fr (fun k => G k ∨ w4.heap.size ≤ k) w5 w6 := hf6.mono (fun k hk => by rcases hk with hk | hk; (rcases HSUB5.out k hk with h | h; exact .inl (hG k (.inl h)); exact .inr h); exact .inl (hG k (.inr (.inl hk))))
          have HL6 := Lib.hid (HL5.out.fr hf56)
          have HF06 := Lib.hid (HF05.out.trans hf6 (fun k hk => by rcases hk with hk | hk; (rcases HSB5.out k hk with h | h; exact .inl (.inl h); exact .inr h); exact .inl (.inr (.inl hk))))
          have hx26 : w6.cell? ⟨w.heap.size, 0, none⟩ = some (.pointer (some ⟨q, 0, none⟩)) := (hf6.cell (p := ⟨w.heap.size, 0, none⟩) (by simp; omega) (fun e => by rcases e with e | e; (rcases HSUB5.out _ e with h | h; exact absurd (HFL.out _ h) (by simp); exact absurd h (by simp; omega)); exact absurd e (by simp; omega))).trans hx25
          have hx36 : w6.cell? ⟨w.heap.size + 1, 0, none⟩ = some (.slice A ls.length c) := (hf6.cell (p := ⟨w.heap.size + 1, 0, none⟩) (by simp; omega) (fun e => by rcases e with e | e; (rcases HSUB5.out _ e with h | h; exact absurd (HFL.out _ h) (by simp); exact absurd h (by simp; omega)); exact absurd e (by simp; omega))).trans hx35
          have hw6s := hf6.size
          clear hls6 h6 hf6 hsub6 hf56 hx25 hx35
          have HTB : Hid (∀ b : Prop, True) := fun _ => trivial
          by_cases hr6 : r6 = 0
          · subst hr6
            have HX26 := Lib.hid hx26
            have HX36 := Lib.hid hx36
            have H6' : Hid (StAt lo w6 F6 q p pv frm tw life false s6 ps) := (show StAt lo w6 F6 q p pv frm tw life false s6 ps by have := H6.out; simpa using this)
            obtain ⟨b, off, hAe, _⟩ := HL6.out (by omega)
            subst hAe
            go_wp2_with fail
            go_loopw [41] (fun i wr => ∃ (k : Nat) (qs : List PgM), k ≤ ls.length ∧ i = .int .i64 k ∧ qs.length = ps.length ∧ Hid (qs.map PgM.pg = laidP (ps.map PgM.pg) (ls.take k)) ∧ Hid (StAt lo wr F6 q p pv frm tw life false s6 qs ∧ Fr (fun j => F0 j ∨ j = q ∨ pv.ownBlock = some j) w wr ∧ Fr (fun j => pv.ownBlock = some j) w6 wr)) (fun i _ => ls.length - (intOf i).toNat)
            case atStart => exact ⟨0, ps, by omega, rfl, rfl, by rw [List.take_zero]; rfl, H6'.out, HF06.out, Fr.refl _ _⟩
            case round =>
              obtain ⟨k, qs, hk, rfl, hql, hQ, hS⟩ := hrel
              by_cases hlt : k < ls.length
              · obtain ⟨m, hm⟩ : ∃ m, ls[k]? = some m := ⟨_, List.getElem?_eq_getElem hlt⟩
                have hpvG : ∀ j, pv.ownBlock = some j → G j ∨ w4.heap.size ≤ j := fun j hj => .inl (hG j (.inr (.inr hj)))
                obtain ⟨b', off', e', hbw, hnG, hc⟩ := (HL6.out.fr (hS.out.2.2.mono hpvG)) (by omega)
                obtain ⟨rfl, rfl⟩ : b = b' ∧ off = off' := by injection e' with e1; injection e1 with e1 e2; exact ⟨e1, e2⟩
                obtain ⟨hd1, hd2, hd3, hwf, hxl, hsl⟩ := hc k m hm
                have HSL := Lib.hid hsl
                have HM := Lib.hid hm
                have hnm := HGD.out m (List.mem_of_getElem? hm)
                clear hc e' hsl hm hx26 hx36
                obtain ⟨n, l, Al, cl, xs⟩ := m
                have hgm : goodP l xs = true := hnm.1
                have hnm2 : 0 ≤ n ∧ n < (ps.length : Int) := hnm.2
                obtain ⟨N, rfl⟩ := Int.eq_ofNat_of_zero_le hnm2.1
                have hN : N < ps.length := by omega
                have hxn : xs.length ≤ 32 := (goodP_iff.1 hgm).n
                clear hnm hnm2 hgm
                have hbA := (Below.refl wr.heap.size wr).alloc (Nat.le_refl _) (.cells #[.int .i64 (N : Int), .int .i64 l, .slice Al xs.length cl] 27)
                have HXB := Lib.hid (Blk.new wr 27 #[.int .i64 (N : Int), .int .i64 l, .slice Al xs.length cl])
                have HSLa := Lib.hid (HSL.out.fr ((Fr.refl (fun k => G k ∨ w4.heap.size ≤ k) wr).alloc (.cells #[.int .i64 (N : Int), .int .i64 l, .slice Al xs.length cl] 27)))
                have HBA := Lib.hid hbA
                clear hbA
                go_wp2_with fail
                refine (clone_any _ _ Al cl xs HSLa.out (by omega)).mono ?_
                rintro e w8 ⟨⟨A', c', rfl, hsl8⟩, b8⟩
                have HXB8 := Lib.hid (HXB.out.below b8 HXB.out.lt)
                have hb2 := (HXB8.out).cell 2
                have hf2 := (HXB8.out).frozen 2
                have hb0 := (HXB8.out).cell 0
                have hb1 := (HXB8.out).cell 1
                simp only [List.getElem?_toArray] at hb0 hb1 hb2
                have hs8 := b8.size
                rw [World.size_alloc] at hs8
                have HB9 := Lib.hid ((HBA.out.trans (b8.mono HBA.out.size)).setCell (p := ⟨wr.heap.size, 2, none⟩) (Nat.le_refl _) (.slice A' xs.length c'))
                have HXB9 := Lib.hid (HXB8.out.set_ 2 (.slice A' xs.length c'))
                have HSL9 := Lib.hid (hsl8.fr ((Fr.refl (fun k => k < (wr.alloc (.cells #[.int .i64 (N : Int), .int .i64 l, .slice Al xs.length cl] 27)).heap.size) w8).set (g := wr.heap.size) (.inl (by simp)) 2 (.slice A' xs.length c')))
                clear hsl8 b8
                go_upto_region 18 with fail
                clear hb0 hb1 hb2 hf2 hd1 hd2 hd3
                revert HB9 HXB9 HSL9
                generalize w8.setCell ⟨wr.heap.size, 2, none⟩ (.slice A' xs.length c') = w9
                intro HB9 HXB9 HSL9
                have H9 := Lib.hid (hS.out.1.below HB9.out)
                have HF69 := Lib.hid (hS.out.2.2.below HB9.out)
                have HF09 := Lib.hid (hS.out.2.1.below HB9.out)
                obtain ⟨g, cv, hpv, _⟩ := H9.out.pg.form (by omega)
                have hgo : pv.ownBlock = some g := by rw [hpv]; rfl
                have hgs := hS.out.1.pg.lt g hgo
                have hgw := H.out.pg.lt g hgo
                have hx29 : w9.cell? ⟨w.heap.size, 0, none⟩ = some (.pointer (some ⟨q, 0, none⟩)) := (HF69.out.cell (p := ⟨w.heap.size, 0, none⟩) (by simp; omega) (fun e => by rw [hgo] at e; have := Option.some.inj e; simp at this; omega)).trans HX26.out
                have hq3 := H9.out.st.cell 3
                have hz0 := HXB9.out.cell 0
                have hz1 := HXB9.out.cell 1
                have hz2 := HXB9.out.cell 2
                have hrow := H9.out.pg
                rw [hpv] at hrow
                obtain ⟨y, hy⟩ : ∃ y, qs[N]? = some y := ⟨_, List.getElem?_eq_getElem (by omega)⟩
                obtain ⟨g0, g1⟩ := pgCells_get qs N
                rw [hy] at g0 g1
                have hc0 := hrow.cells (g := g) rfl _ _ g0
                have hc1 := hrow.cells (g := g) rfl _ _ g1
                rw [Addr.add_lit, Nat.zero_add] at hc0 hc1
                simp only [List.getElem?_toArray] at hq3 hz0 hz1 hz2
                have HPV := Lib.hid hpv
                rw [hpv] at hq3
                have hfz0 : w9.frozen? ⟨g, N * 2, none⟩ = false := by
                  rcases hrow.2 with ⟨h, _⟩ | ⟨g', cap, cur, h, _, hh, _⟩
                  · cases h
                  · cases h; exact frozen_of_row w9 g _ cur _ hh
                have hfz1 : w9.frozen? ⟨g, N * 2 + 1, none⟩ = false := by
                  rcases hrow.2 with ⟨h, _⟩ | ⟨g', cap, cur, h, _, hh, _⟩
                  · cases h
                  · cases h; exact frozen_of_row w9 g _ cur _ hh
                have hNq : N < qs.length := by omega
                clear hrow g0 g1 hy hpv hgo
                have HHG : Hid (pv.ownBlock = some g) := by unfold Hid; rw [HPV.out]; rfl
                have HPGS : Hid ((qs.set N ⟨l, A', c', xs⟩).map PgM.pg = laidP (ps.map PgM.pg) (ls.take (k + 1))) := by
                  unfold Hid
                  have h0 := hQ.out
                  unfold laidP at h0 ⊢
                  rw [List.take_add_one, HM.out, Option.toList_some, List.foldl_append, List.map_set, h0]
                  rfl
                go_region
                all_goals go_wp2_with fail
                all_goals go_roundw
                case rel =>
                  refine ⟨k + 1, qs.set N ⟨l, A', c', xs⟩, by omega, by go_num, by rw [List.length_set]; exact hql, HPGS.out, ⟨?_, ?_, ?_⟩⟩
                  · refine (H9.out.setPage g cv HPV.out N ⟨l, A', c', xs⟩ (by show xs.length ≤ 255; omega) ?_).below (Below.refl _ _).drew
                    refine HSL9.out.mono (fun j _ hj => ?_)
                    show j < (wr.alloc _).heap.size
                    rw [World.size_alloc]
                    rcases hj with hj | hj | hj
                    · have := (hS.out.1.fl _ hj).2; omega
                    · have := hS.out.1.st.lt; omega
                    · have := hS.out.1.pg.lt j hj; omega
                  · exact ((HF09.out.set (.inl (.inr (.inr HHG.out))) _ _).set (.inl (.inr (.inr HHG.out))) _ _).drew
                  · exact ((HF69.out.set (.inl HHG.out) _ _).set (.inl HHG.out) _ _).drew
                case measure => simp [intOf]; omega
              · obtain rfl : k = ls.length := by omega
                have HT : Hid (twWrite false s life frm tw (ps.map PgM.pg) ls = (false, s6, qs.map PgM.pg, 0)) := by
                  unfold Hid twWrite
                  rw [HR0.out, if_neg (by simp), HPL.out, if_neg (by rw [HFT.out.1]; have := HFT.out.2; simp; omega), if_neg hz, HLS5.out, if_neg (by simp), HLS6.out, if_neg (by simp), hQ.out, List.take_length]
                go_wp2_with fail
                go_ret
                exact ⟨false, s6, qs, 0, F6, HT.out, rfl, hS.out.1, hS.out.2.1, HSUB6.out⟩
          · have hr6' : (r6 == 0) = false := by rw [beq_eq_false_iff_ne]; exact hr6
            have HT : Hid (twWrite false s life frm tw (ps.map PgM.pg) ls = (true, s6, ps.map PgM.pg, r6)) := by
              unfold Hid twWrite
              rw [HR0.out, if_neg (by simp), HPL.out, if_neg (by rw [HFT.out.1]; have := HFT.out.2; simp; omega), if_neg hz, HLS5.out, if_neg (by simp), HLS6.out, if_pos hr6]
            have HR6 := Lib.hid hr6
            clear hr6
            go_wp2_with fail
            go_ret
            exact ⟨true, s6, ps, r6, F6, HT.out, rfl, by have := H6.out; rw [decide_eq_true HR6.out] at this; exact this, HF06.out, HSUB6.out⟩
        · have hr5' : (r5 == 0) = false := by rw [beq_eq_false_iff_ne]; exact hr5
          have HT : Hid (twWrite false s life frm tw (ps.map PgM.pg) ls = (true, s5, ps.map PgM.pg, r5)) := by
            unfold Hid twWrite
            rw [HR0.out, if_neg (by simp), HPL.out, if_neg (by rw [HFT.out.1]; have := HFT.out.2; simp; omega), if_neg hz, HLS5.out, if_pos hr5]
          have HR5 := Lib.hid hr5
          clear hr5
          go_wp2_with fail
          go_ret
          exact ⟨true, s5, ps, r5, F5, HT.out, rfl, by have := H5.out; rw [decide_eq_true HR5.out] at this; exact this, HF05.out, HSB5.out⟩
  · have hr' : (r == 0) = false := by rw [beq_eq_false_iff_ne]; exact hr
    have HR := Lib.hid hr
    clear hr
    go_wp2_with fail
    go_ret
    exact ⟨dead, s, ps, r, F0, by unfold twWrite; rw [HR0.out, if_pos HR.out], rfl, H3.out, HFB.out _ HB3.out, Sub.refl _ _⟩

end Go.Proofs.YtbikplckehbcnaaDoor
