/- twin.Store: load, whole. -/
import Derived.Test.YtbikplckehbcnaaDoorCop
set_option linter.unusedVariables false
set_option linter.unusedSimpArgs false
namespace Go.Proofs.YtbikplckehbcnaaDoor
open Go Go.RowKit

/-- What load comes to; G: the store's blocks before. -/
def LoadIs (lo : Nat) (w w' : World) (G : Nat → Prop) (q p frm tw : Nat) (life : Int) (pgs : List Pg) (e : Ending) (R : PSt × Bool × Option (Bool × Pg) × Int) : Prop :=
  (∃ s' d' r F', R = (s', d', none, r) ∧ r ≠ 0 ∧ e = .returned (.tuple #[.bool false, .int .i64 r]) ∧ IsPlate w' F' p s' ∧ (∀ k, F' k → lo ≤ k ∧ k < w'.heap.size) ∧ ∀ k, F' k → G k ∨ w.heap.size ≤ k) ∨
  (∃ s' d' ok pg F' pv' ps', R = (s', d', some (ok, pg), 0) ∧ e = .returned (.tuple #[.bool ok, .int .i64 0]) ∧ StAt lo w' F' q p pv' frm tw life d' s' ps' ∧ ps'.map PgM.pg = pgs ++ [pg] ∧ ∀ k, (F' k ∨ k = q ∨ pv'.ownBlock = some k) → G k ∨ w.heap.size ≤ k)
/-- A store's blocks. -/
def Ows (F : Nat → Prop) (q : Nat) (pv : Value) : Nat → Prop := fun k => F k ∨ k = q ∨ pv.ownBlock = some k
theorem StAt.growF {lo : Nat} {w w1 w9 : World} {F : Nat → Prop} {q p : Nat} {pv : Value} {frm tw : Nat} {life : Int} {dead : Bool} {s : PSt} {ps : List PgM} (h : StAt lo w F q p pv frm tw life dead s ps) (hb : Below w.heap.size w w1) {g c : Nat} {n : Nat} (hg : w1.grownBy w9 pv.ownBlock)
    (hat : some g = pv.ownBlock ∨ some g = some w1.heap.size) :
    Fr (Ows F q pv) w (w9.setCell ⟨q, 3, none⟩ (.slice (some ⟨g, 0, none⟩) n c)) ∧ ∀ k, Ows F q (.slice (some ⟨g, 0, none⟩) n c) k → Ows F q pv k ∨ w.heap.size ≤ k := by
  refine ⟨((((Fr.refl _ w).below hb).grown hg (fun k hk => .inl (.inr (.inr hk)))).set (.inl (.inr (.inl rfl))) 3 _), fun k hk => ?_⟩
  rcases hk with hk | hk | hk
  · exact .inl (.inl hk)
  · exact .inl (.inr (.inl hk))
  · have e : g = k := by simpa [Value.ownBlock] using hk
    subst e
    rcases hat with e | e
    · exact .inl (.inr (.inr e.symm))
    · have := hb.size; have := Option.some.inj e; exact .inr (by omega)
theorem StAt.own_lo {lo : Nat} {w : World} {F : Nat → Prop} {q p : Nat} {pv : Value} {frm tw : Nat} {life : Int} {dead : Bool} {s : PSt} {ps : List PgM} (h : StAt lo w F q p pv frm tw life dead s ps) : ∀ k, (F k ∨ k = q ∨ pv.ownBlock = some k) → lo ≤ k ∧ k < w.heap.size := by
  intro k hk
  rcases hk with hk | rfl | hk
  · exact h.fl k hk
  · exact ⟨h.lq, h.st.lt⟩
  · exact h.pg.lt k hk
theorem good_len {n : Int} {t : ByteArray} {l : Int} {xs : List Slt} (h : pgOf n t = some (l, xs)) : xs.length ≤ 32 ∧ goodP l xs = true := ⟨(pgOf_spec h).1.n, goodP_iff.2 (pgOf_spec h).1⟩
theorem copStep_good {s : PSt} {frm n : Nat} {b : Option Pg} {i : Nat} (hb : ∀ l xs, b = some (l, xs) → goodP l xs = true) : ∀ l xs, copStep s frm n b i = some (l, xs) → goodP l xs = true := by
  intro l xs h
  unfold copStep at h
  split at h
  · exact hb _ _ h
  · split at h
    · exact hb _ _ h
    · rename_i p hp
      split at h
      · exact (good_len (hp.trans h)).2
      · split at h
        · exact (good_len (hp.trans h)).2
        · exact hb _ _ h
theorem copP_good {s : PSt} {frm tw n : Nat} {l : Int} {xs : List Slt} (h : copP s frm tw n = some (l, xs)) : goodP l xs = true := by
  unfold copP at h
  have : ∀ (is : List Nat) (b : Option Pg), (∀ l xs, b = some (l, xs) → goodP l xs = true) → ∀ l xs, is.foldl (copStep s frm n) b = some (l, xs) → goodP l xs = true := by
    intro is
    induction is with
    | nil => intro b hb; exact hb
    | cons i is ih => intro b hb; exact ih _ (copStep_good hb)
  exact this _ none (by simp) _ _ h

set_option maxRecDepth 100000 in
set_option maxHeartbeats 8000000 in
theorem load_at {lo : Nat} (w : World) {F0 : Nat → Prop} {q p : Nat} {pv : Value} {frm tw : Nat} {life : Int} {dead : Bool} {s : PSt} {ps : List PgM} (h : StAt lo w F0 q p pv frm tw life dead s ps) (n : Nat) (h1 : frm ≤ 16384) (h2 : tw ≤ 64) (h3 : n ≤ 1048576) (hps : ps.length ≤ 65536) (hac : s.acts < 1000000) (hlf : s.life < 1000000) (hfu : Full s) :
    Calls Tryd.prog 37 #[.pointer (some ⟨q, 0, none⟩), .int .i64 (n : Int)] w fun e w' => LoadIs lo w w' (Ows F0 q pv) q p frm tw life (ps.map PgM.pg) e (loadP s frm tw n dead) ∧ Fr (Ows F0 q pv) w w' := by
  have H := Lib.hid h
  have HFU := Lib.hid hfu
  have HOK := Lib.hid h.pl.ok
  have hq0 := h.st.cell 0
  simp only [List.getElem?_toArray] at hq0
  clear h hfu
  go_enter Tryd.func37, Tryd.ntmps37
  have HHO : Hid (∀ W' : World, Below w.heap.size w W' → Calls Tryd.prog 44 #[.pointer (some ⟨q, 0, none⟩), .int .i64 (n : Int)] W' fun e w' => e = .returned (.int .i64 ((frm + tw + n : Nat) : Int)) ∧ Below W'.heap.size W' w') := fun W' hW => (home_at W' (H.out.below hW) n h1 h2 h3).mono fun e w' ⟨he, m, hm⟩ => ⟨he, by rw [hm]; exact ((Fr.refl Nope _).drewN _).toBelow (Nat.le_refl _) (fun _ h => h.elim)⟩
  obtain ⟨t, ht⟩ : ∃ t, (s.read ((frm + tw + n : Nat) : Int)).1 = t := ⟨_, rfl⟩
  obtain ⟨r, hr⟩ : ∃ r, (s.read ((frm + tw + n : Nat) : Int)).2 = r := ⟨_, rfl⟩
  have HRD : Hid (∀ W' : World, Below w.heap.size w W' → Calls Tryd.prog 33 #[.pointer (some ⟨p, 0, none⟩), .int .i64 ((frm : Int) + (tw : Int) + (n : Int))] W' fun e w' => e = .returned (.tuple #[.string t, .int .i64 r]) ∧ Below W'.heap.size W' w') := fun W' hW => by
    have := read_any W' F0 p s ((frm + tw + n : Nat) : Int) (H.out.below hW).pl (by omega)
    rw [ht, hr] at this
    exact this
  have HT := Lib.hid ht
  have HR := Lib.hid hr
  have HTS : Hid (r = 0 → t.size = 256) := fun h0 => by rw [← HT.out]; exact read_full HFU.out HOK.out (by rw [HR.out]; exact h0)
  have HKB : Hid (∀ W' : World, Below w.heap.size w W' → W'.cell? ⟨q, 0, none⟩ = some (.pointer (some ⟨p, 0, none⟩))) := fun W' hW => (H.out.below hW).st.cell 0
  have HW0 : Hid (Below w.heap.size w w.drew) := (Below.refl _ _).drew
  clear ht hr
  go_upto_region 1 with fail
  go_region_held3 (fun w' => w'.cell? ⟨q, 0, none⟩ = some (.pointer (some ⟨p, 0, none⟩)))
    (first | exact HKB.out _ HW0.out | exact HKB.out _ HBP.out | exact HKB.out _ HBS.out)
    (first
      | (go_at_call 44; refine (HHO.out _ HW0.out).mono ?_; rintro e w5 ⟨rfl, b5⟩; have HBP := Lib.hid (HW0.out.trans (b5.mono HW0.out.size)); clear b5)
      | (go_at_call 33; refine (HRD.out _ HBP.out).mono ?_; rintro e w6 ⟨rfl, b6⟩; have HBS := Lib.hid (HBP.out.trans (b6.mono HBP.out.size)); clear b6))
  have HX6 := Lib.hid (Blk.new w6 25 #[.int .i64 0, .slice none 0 0])
  have HB6 := Lib.hid (HBS.out.alloc HBS.out.size (.cells #[.int .i64 0, .slice none 0 0] 25))
  have hwlt : w.heap.size ≤ w6.heap.size := HBS.out.size
  have HLO := Lib.hid H.out.lt
  have HOWN := Lib.hid H.out.own_lo
  by_cases hr0 : r = 0
  · subst hr0
    have HTT := Lib.hid (HTS.out rfl)
    go_wp2_with fail
    refine (page_any _ (n : Int) t HTT.out).mono ?_
    rintro e w7 ⟨⟨v, rfl, hv⟩, b7⟩
    have HX7 := Lib.hid (HX6.out.below b7 HX6.out.lt)
    have HB7 := Lib.hid (HB6.out.trans (b7.mono HB6.out.size))
    have hx0 := HX7.out.cell 0
    have hx1 := HX7.out.cell 1
    have hf0 := HX7.out.frozen 0
    have hf1 := HX7.out.frozen 1
    simp only [List.getElem?_toArray] at hx0 hx1
    have hs7 := b7.size
    rw [World.size_alloc] at hs7
    clear b7
    rcases hv.pg with ⟨l8, xs8, A8, c8, hpg, rfl, hsl⟩ | ⟨hpg, rfl⟩
    · have HPG := Lib.hid hpg
      have HSL := Lib.hid hsl
      have HLN := Lib.hid (good_len hpg).1
      have hxl8 : xs8.length ≤ 32 := (good_len hpg).1
      clear hpg hsl hv
      go_upto_region 13 with fail
      have H8' := Lib.hid (H.out.below ((HB7.out.setCell (p := ⟨w6.heap.size, 0, none⟩) hwlt (.int .i64 l8)).setCell (p := ⟨w6.heap.size, 1, none⟩) hwlt (.slice A8 xs8.length c8)))
      have HB8' := Lib.hid ((HB7.out.setCell (p := ⟨w6.heap.size, 0, none⟩) hwlt (.int .i64 l8)).setCell (p := ⟨w6.heap.size, 1, none⟩) hwlt (.slice A8 xs8.length c8))
      have HX8' := Lib.hid ((HX7.out.set_ 0 (.int .i64 l8)).set_ 1 (.slice A8 xs8.length c8))
      have HS8' : Hid (Slots ((w7.setCell ⟨w6.heap.size, 0, none⟩ (.int .i64 l8)).setCell ⟨w6.heap.size, 1, none⟩ (.slice A8 xs8.length c8)) (fun k => F0 k ∨ k = q ∨ pv.ownBlock = some k) A8 xs8) :=
        ((HSL.out.mono (F' := fun j => j ≤ w6.heap.size) (fun j _ h => by simp; omega)).set2 _ _).mono (fun k _ hk => by have := (HOWN.out k hk).2; omega)
      clear hx0 hx1 hf0 hf1
      revert H8' HB8' HX8' HS8'
      generalize (w7.setCell ⟨w6.heap.size, 0, none⟩ (.int .i64 l8)).setCell ⟨w6.heap.size, 1, none⟩ (.slice A8 xs8.length c8) = W8
      intro H8 HB8w HX8 HS8
      have HB8 : Hid (Fr (Ows F0 q pv) w W8) := (Fr.refl _ w).below HB8w.out
      have HSUB8 : Hid (Sub w (Ows F0 q pv) (Ows F0 q pv)) := Sub.refl _ _
      have HEV : Hid (loadP s frm tw n dead = (s, dead, some (true, (l8, xs8)), 0)) := by unfold Hid loadP; rw [HR.out, HT.out, HPG.out, if_pos rfl]
      have HPL : Hid ((ps.map PgM.pg) ++ [((l8 : Int), (xs8 : List Slt))] = (ps ++ [(⟨l8, A8, c8, xs8⟩ : PgM)]).map PgM.pg) := by unfold Hid; simp [PgM.pg]
      have hq3 := H8.out.st.cell 3
      have hqf := H8.out.st.frozen 3
      have hy0 := HX8.out.cell 0
      have hy1 := HX8.out.cell 1
      have hq3a := (H8.out.st.alloc (.cells #[.int .i64 l8, .slice A8 xs8.length c8] 25)).cell 3
      simp only [List.getElem?_toArray] at hq3 hy0 hy1 hq3a
      have HOW := Lib.hid ((H8.out.pg.alloc (.cells #[.int .i64 l8, .slice A8 xs8.length c8] 25)).drew)
      have HLW := Lib.hid H8.out.lt
      go_region_law (refine step_appP (W := (W8.alloc (.cells #[.int .i64 l8, .slice A8 xs8.length c8] 25)).drew) rfl _ _ rfl lo pv ps ⟨l8, A8, c8, xs8⟩ rfl HOW.out ⟨W8.heap.size, 0, none⟩ rfl ((Blk.new W8 25 #[.int .i64 l8, .slice A8 xs8.length c8]).drew.cell 0) ((Blk.new W8 25 #[.int .i64 l8, .slice A8 xs8.length c8]).drew.cell 1) hps (by have := HLW.out; simp; omega) ?_; intro g9 c9 w9 hown9 hg9 hat9; have HO9 := Lib.hid hown9; have HG9 := Lib.hid hg9; have HA9 := Lib.hid hat9; have HQ9 := Lib.hid (((H8.out.st.alloc (.cells #[.int .i64 l8, .slice A8 xs8.length c8] 25)).drew).grown hg9 (fun e => H8.out.nqv e.symm)); have hq93 := HQ9.out.cell 3; have hqf9 := HQ9.out.frozen 3; simp only [List.getElem?_toArray] at hq93; clear hown9 hg9 hat9)
      all_goals
        go_wp2_with fail
        go_ret2
        have hgr := H8.out.grow (((Below.refl _ W8).alloc (Nat.le_refl _) (.cells #[.int .i64 l8, .slice A8 xs8.length c8] 25)).drew) ⟨l8, A8, c8, xs8⟩ (by show (xs8 : List Slt).length ≤ 255; omega) (HS8.out.fr ((((Fr.refl _ W8).alloc (.cells #[.int .i64 l8, .slice A8 xs8.length c8] 25)).drew))) HO9.out HG9.out (by rcases HA9.out with e | e; exact .inl e; exact .inr e)
        have hgf := H8.out.growF (n := ps.length + 1) (c := c9) (((Below.refl _ W8).alloc (Nat.le_refl _) (.cells #[.int .i64 l8, .slice A8 xs8.length c8] 25)).drew) HG9.out (by rcases HA9.out with e | e; exact .inl e; exact .inr e)
        refine ⟨.inr ⟨s, dead, true, _, _, _, _, HEV.out, rfl, hgr.1, HPL.out.symm, fun k hk => ?_⟩, HB8.out.trans hgf.1 HSUB8.out⟩
        rcases hgf.2 k hk with h | h
        · exact HSUB8.out k h
        · exact .inr (Nat.le_trans HB8.out.size h)
    · have HPG := Lib.hid hpg
      clear hpg hv
      go_wp2_with fail
      refine (trim_any _ t (by rw [HTT.out]; omega)).mono ?_
      rintro e w8 ⟨⟨rr, rfl, hre⟩, b8⟩
      have HRE := Lib.hid hre
      have HX8 := Lib.hid (((HX7.out.set_ 0 (.int .i64 0)).set_ 1 (.slice none 0 0)).below b8 (by simpa using HX7.out.lt))
      have HB8w := Lib.hid (((HB7.out.setCell (p := ⟨w6.heap.size, 0, none⟩) hwlt (.int .i64 0)).setCell (p := ⟨w6.heap.size, 1, none⟩) hwlt (.slice none 0 0)).trans (b8.mono (by have := HB7.out.size; simpa using this)))
      clear b8 hx0 hx1 hf0 hf1
      cases hz : rr.toList.isEmpty with
      | true =>
        have HAZ : Hid (allZ t = true) := by rw [← HRE.out]; exact hz
        clear hre
        go_upto_region 13 with fail
        have H8 := Lib.hid (H.out.below HB8w.out)
        have HB8 : Hid (Fr (Ows F0 q pv) w w8) := (Fr.refl _ w).below HB8w.out
        have HSUB8 : Hid (Sub w (Ows F0 q pv) (Ows F0 q pv)) := Sub.refl _ _
        have HS8 : Hid (Slots w8 (fun k => F0 k ∨ k = q ∨ pv.ownBlock = some k) none []) := Slots.nil _ _ _
        have HEV : Hid (loadP s frm tw n dead = (s, dead, some (true, (0, [])), 0)) := by unfold Hid loadP; rw [HR.out, HT.out, HPG.out, if_pos rfl, HAZ.out]
        have hxl8 : ([] : List Slt).length ≤ 32 := by simp
        obtain ⟨W8, rfl⟩ : ∃ W8, W8 = w8 := ⟨_, rfl⟩
        have HPL : Hid ((ps.map PgM.pg) ++ [((0 : Int), ([] : List Slt))] = (ps ++ [(⟨0, none, 0, []⟩ : PgM)]).map PgM.pg) := by unfold Hid; simp [PgM.pg]
        have hq3 := H8.out.st.cell 3
        have hqf := H8.out.st.frozen 3
        have hy0 := HX8.out.cell 0
        have hy1 := HX8.out.cell 1
        have hq3a := (H8.out.st.alloc (.cells #[.int .i64 0, .slice none 0 0] 25)).cell 3
        simp only [List.getElem?_toArray] at hq3 hy0 hy1 hq3a
        have HOW := Lib.hid ((H8.out.pg.alloc (.cells #[.int .i64 0, .slice none 0 0] 25)).drew)
        have HLW := Lib.hid H8.out.lt
        go_region_law (refine step_appP (W := (W8.alloc (.cells #[.int .i64 0, .slice none 0 0] 25)).drew) rfl _ _ rfl lo pv ps ⟨0, none, 0, []⟩ rfl HOW.out ⟨W8.heap.size, 0, none⟩ rfl ((Blk.new W8 25 #[.int .i64 0, .slice none 0 0]).drew.cell 0) ((Blk.new W8 25 #[.int .i64 0, .slice none 0 0]).drew.cell 1) hps (by have := HLW.out; simp; omega) ?_; intro g9 c9 w9 hown9 hg9 hat9; have HO9 := Lib.hid hown9; have HG9 := Lib.hid hg9; have HA9 := Lib.hid hat9; have HQ9 := Lib.hid (((H8.out.st.alloc (.cells #[.int .i64 0, .slice none 0 0] 25)).drew).grown hg9 (fun e => H8.out.nqv e.symm)); have hq93 := HQ9.out.cell 3; have hqf9 := HQ9.out.frozen 3; simp only [List.getElem?_toArray] at hq93; clear hown9 hg9 hat9)
        all_goals
          go_wp2_with fail
          go_ret2
          have hgr := H8.out.grow (((Below.refl _ W8).alloc (Nat.le_refl _) (.cells #[.int .i64 0, .slice none 0 0] 25)).drew) ⟨0, none, 0, []⟩ (by show ([] : List Slt).length ≤ 255; omega) (HS8.out.fr ((((Fr.refl _ W8).alloc (.cells #[.int .i64 0, .slice none 0 0] 25)).drew))) HO9.out HG9.out (by rcases HA9.out with e | e; exact .inl e; exact .inr e)
          have hgf := H8.out.growF (n := ps.length + 1) (c := c9) (((Below.refl _ W8).alloc (Nat.le_refl _) (.cells #[.int .i64 0, .slice none 0 0] 25)).drew) HG9.out (by rcases HA9.out with e | e; exact .inl e; exact .inr e)
          refine ⟨.inr ⟨s, dead, true, _, _, _, _, HEV.out, rfl, hgr.1, HPL.out.symm, fun k hk => ?_⟩, HB8.out.trans hgf.1 HSUB8.out⟩
          rcases hgf.2 k hk with h | h
          · exact HSUB8.out k h
          · exact .inr (Nat.le_trans HB8.out.size h)
      | false =>
        have HAZ : Hid (allZ t = false) := by rw [← HRE.out]; exact hz
        clear hre
        go_upto_region 13 with fail
        have H8 := Lib.hid (H.out.below HB8w.out)
        have HB8 : Hid (Fr (Ows F0 q pv) w w8) := (Fr.refl _ w).below HB8w.out
        have HSUB8 : Hid (Sub w (Ows F0 q pv) (Ows F0 q pv)) := Sub.refl _ _
        have HS8 : Hid (Slots w8 (fun k => F0 k ∨ k = q ∨ pv.ownBlock = some k) none []) := Slots.nil _ _ _
        have HEV : Hid (loadP s frm tw n dead = (s, dead, some (false, (0, [])), 0)) := by unfold Hid loadP; rw [HR.out, HT.out, HPG.out, if_pos rfl, HAZ.out]
        have hxl8 : ([] : List Slt).length ≤ 32 := by simp
        obtain ⟨W8, rfl⟩ : ∃ W8, W8 = w8 := ⟨_, rfl⟩
        have HPL : Hid ((ps.map PgM.pg) ++ [((0 : Int), ([] : List Slt))] = (ps ++ [(⟨0, none, 0, []⟩ : PgM)]).map PgM.pg) := by unfold Hid; simp [PgM.pg]
        have hq3 := H8.out.st.cell 3
        have hqf := H8.out.st.frozen 3
        have hy0 := HX8.out.cell 0
        have hy1 := HX8.out.cell 1
        have hq3a := (H8.out.st.alloc (.cells #[.int .i64 0, .slice none 0 0] 25)).cell 3
        simp only [List.getElem?_toArray] at hq3 hy0 hy1 hq3a
        have HOW := Lib.hid ((H8.out.pg.alloc (.cells #[.int .i64 0, .slice none 0 0] 25)).drew)
        have HLW := Lib.hid H8.out.lt
        go_region_law (refine step_appP (W := (W8.alloc (.cells #[.int .i64 0, .slice none 0 0] 25)).drew) rfl _ _ rfl lo pv ps ⟨0, none, 0, []⟩ rfl HOW.out ⟨W8.heap.size, 0, none⟩ rfl ((Blk.new W8 25 #[.int .i64 0, .slice none 0 0]).drew.cell 0) ((Blk.new W8 25 #[.int .i64 0, .slice none 0 0]).drew.cell 1) hps (by have := HLW.out; simp; omega) ?_; intro g9 c9 w9 hown9 hg9 hat9; have HO9 := Lib.hid hown9; have HG9 := Lib.hid hg9; have HA9 := Lib.hid hat9; have HQ9 := Lib.hid (((H8.out.st.alloc (.cells #[.int .i64 0, .slice none 0 0] 25)).drew).grown hg9 (fun e => H8.out.nqv e.symm)); have hq93 := HQ9.out.cell 3; have hqf9 := HQ9.out.frozen 3; simp only [List.getElem?_toArray] at hq93; clear hown9 hg9 hat9)
        all_goals
          go_wp2_with fail
          go_ret2
          have hgr := H8.out.grow (((Below.refl _ W8).alloc (Nat.le_refl _) (.cells #[.int .i64 0, .slice none 0 0] 25)).drew) ⟨0, none, 0, []⟩ (by show ([] : List Slt).length ≤ 255; omega) (HS8.out.fr ((((Fr.refl _ W8).alloc (.cells #[.int .i64 0, .slice none 0 0] 25)).drew))) HO9.out HG9.out (by rcases HA9.out with e | e; exact .inl e; exact .inr e)
          have hgf := H8.out.growF (n := ps.length + 1) (c := c9) (((Below.refl _ W8).alloc (Nat.le_refl _) (.cells #[.int .i64 0, .slice none 0 0] 25)).drew) HG9.out (by rcases HA9.out with e | e; exact .inl e; exact .inr e)
          refine ⟨.inr ⟨s, dead, false, _, _, _, _, HEV.out, rfl, hgr.1, HPL.out.symm, fun k hk => ?_⟩, HB8.out.trans hgf.1 HSUB8.out⟩
          rcases hgf.2 k hk with h | h
          · exact HSUB8.out k h
          · exact .inr (Nat.le_trans HB8.out.size h)
  · have hr1 : (r == 0) = false := by rw [beq_eq_false_iff_ne]; exact hr0
    have HR0 := Lib.hid hr0
    have H6 := Lib.hid (H.out.below HB6.out)
    clear hr0
    go_wp2_with fail
    refine (copied_at _ H6.out n h1 h2 hac HFU.out).mono ?_
    rintro e w7 ⟨hcop, b7⟩
    have HX7 := Lib.hid (HX6.out.below b7 HX6.out.lt)
    have HB7 := Lib.hid (HB6.out.trans (b7.mono HB6.out.size))
    have hx0 := HX7.out.cell 0
    have hx1 := HX7.out.cell 1
    have hf0 := HX7.out.frozen 0
    have hf1 := HX7.out.frozen 1
    simp only [List.getElem?_toArray] at hx0 hx1
    have hs7 := b7.size
    rw [World.size_alloc] at hs7
    clear b7
    rcases hcop with ⟨hcp, rfl⟩ | ⟨l8, xs8, A8, c8, hcp, rfl, hsl⟩
    · have HCP := Lib.hid hcp
      clear hcp
      go_upto_region 13 with fail
      have H8' := Lib.hid (H.out.below ((HB7.out.setCell (p := ⟨w6.heap.size, 0, none⟩) hwlt (.int .i64 0)).setCell (p := ⟨w6.heap.size, 1, none⟩) hwlt (.slice none 0 0)))
      have HB8' := Lib.hid ((HB7.out.setCell (p := ⟨w6.heap.size, 0, none⟩) hwlt (.int .i64 0)).setCell (p := ⟨w6.heap.size, 1, none⟩) hwlt (.slice none 0 0))
      have HX8' := Lib.hid ((HX7.out.set_ 0 (.int .i64 0)).set_ 1 (.slice none 0 0))
      clear hx0 hx1 hf0 hf1
      revert H8' HB8' HX8'
      generalize (w7.setCell ⟨w6.heap.size, 0, none⟩ (.int .i64 0)).setCell ⟨w6.heap.size, 1, none⟩ (.slice none 0 0) = W8
      intro H8 HB8w HX8
      have HB8 : Hid (Fr (Ows F0 q pv) w W8) := (Fr.refl _ w).below HB8w.out
      have HSUB8 : Hid (Sub w (Ows F0 q pv) (Ows F0 q pv)) := Sub.refl _ _
      have HS8 : Hid (Slots W8 (fun k => F0 k ∨ k = q ∨ pv.ownBlock = some k) none []) := Slots.nil _ _ _
      have HEV : Hid (loadP s frm tw n dead = (s, dead, some (false, (0, [])), 0)) := by unfold Hid loadP; rw [HR.out, HT.out, if_neg HR0.out, HCP.out]
      have hxl8 : ([] : List Slt).length ≤ 32 := by simp
      have HPL : Hid ((ps.map PgM.pg) ++ [((0 : Int), ([] : List Slt))] = (ps ++ [(⟨0, none, 0, []⟩ : PgM)]).map PgM.pg) := by unfold Hid; simp [PgM.pg]
      have hq3 := H8.out.st.cell 3
      have hqf := H8.out.st.frozen 3
      have hy0 := HX8.out.cell 0
      have hy1 := HX8.out.cell 1
      have hq3a := (H8.out.st.alloc (.cells #[.int .i64 0, .slice none 0 0] 25)).cell 3
      simp only [List.getElem?_toArray] at hq3 hy0 hy1 hq3a
      have HOW := Lib.hid ((H8.out.pg.alloc (.cells #[.int .i64 0, .slice none 0 0] 25)).drew)
      have HLW := Lib.hid H8.out.lt
      go_region_law (refine step_appP (W := (W8.alloc (.cells #[.int .i64 0, .slice none 0 0] 25)).drew) rfl _ _ rfl lo pv ps ⟨0, none, 0, []⟩ rfl HOW.out ⟨W8.heap.size, 0, none⟩ rfl ((Blk.new W8 25 #[.int .i64 0, .slice none 0 0]).drew.cell 0) ((Blk.new W8 25 #[.int .i64 0, .slice none 0 0]).drew.cell 1) hps (by have := HLW.out; simp; omega) ?_; intro g9 c9 w9 hown9 hg9 hat9; have HO9 := Lib.hid hown9; have HG9 := Lib.hid hg9; have HA9 := Lib.hid hat9; have HQ9 := Lib.hid (((H8.out.st.alloc (.cells #[.int .i64 0, .slice none 0 0] 25)).drew).grown hg9 (fun e => H8.out.nqv e.symm)); have hq93 := HQ9.out.cell 3; have hqf9 := HQ9.out.frozen 3; simp only [List.getElem?_toArray] at hq93; clear hown9 hg9 hat9)
      all_goals
        go_wp2_with fail
        go_ret2
        have hgr := H8.out.grow (((Below.refl _ W8).alloc (Nat.le_refl _) (.cells #[.int .i64 0, .slice none 0 0] 25)).drew) ⟨0, none, 0, []⟩ (by show ([] : List Slt).length ≤ 255; omega) (HS8.out.fr ((((Fr.refl _ W8).alloc (.cells #[.int .i64 0, .slice none 0 0] 25)).drew))) HO9.out HG9.out (by rcases HA9.out with e | e; exact .inl e; exact .inr e)
        have hgf := H8.out.growF (n := ps.length + 1) (c := c9) (((Below.refl _ W8).alloc (Nat.le_refl _) (.cells #[.int .i64 0, .slice none 0 0] 25)).drew) HG9.out (by rcases HA9.out with e | e; exact .inl e; exact .inr e)
        refine ⟨.inr ⟨s, dead, false, _, _, _, _, HEV.out, rfl, hgr.1, HPL.out.symm, fun k hk => ?_⟩, HB8.out.trans hgf.1 HSUB8.out⟩
        rcases hgf.2 k hk with h | h
        · exact HSUB8.out k h
        · exact .inr (Nat.le_trans HB8.out.size h)
    · have HCP := Lib.hid hcp
      have HSL := Lib.hid hsl
      have HGD := Lib.hid (copP_good hcp)
      have hxl8 : xs8.length ≤ 32 := (goodP_iff.1 HGD.out).n
      clear hcp hsl
      go_upto_region 9 with fail
      have H8' := Lib.hid (H.out.below ((HB7.out.setCell (p := ⟨w6.heap.size, 0, none⟩) hwlt (.int .i64 l8)).setCell (p := ⟨w6.heap.size, 1, none⟩) hwlt (.slice A8 xs8.length c8)))
      have HB8' := Lib.hid ((HB7.out.setCell (p := ⟨w6.heap.size, 0, none⟩) hwlt (.int .i64 l8)).setCell (p := ⟨w6.heap.size, 1, none⟩) hwlt (.slice A8 xs8.length c8))
      have HX8' := Lib.hid ((HX7.out.set_ 0 (.int .i64 l8)).set_ 1 (.slice A8 xs8.length c8))
      have HS8' : Hid (Slots ((w7.setCell ⟨w6.heap.size, 0, none⟩ (.int .i64 l8)).setCell ⟨w6.heap.size, 1, none⟩ (.slice A8 xs8.length c8)) (fun k => F0 k ∨ k = q ∨ pv.ownBlock = some k) A8 xs8) :=
        ((HSL.out.mono (F' := fun j => j ≤ w6.heap.size) (fun j _ h => by simp; omega)).set2 _ _).mono (fun k _ hk => by have := (HOWN.out k hk).2; omega)
      clear hx0 hx1 hf0 hf1
      revert H8' HB8' HX8' HS8'
      generalize (w7.setCell ⟨w6.heap.size, 0, none⟩ (.int .i64 l8)).setCell ⟨w6.heap.size, 1, none⟩ (.slice A8 xs8.length c8) = W7
      intro H7 HB7w HX7s HS7
      have HKP : Hid (∀ W' : World, Below W7.heap.size W7 W' → (W'.cell? ⟨q, 0, none⟩ = some (.pointer (some ⟨p, 0, none⟩)) ∧ W'.cell? ⟨w6.heap.size, 0, none⟩ = some (.int .i64 l8) ∧ W'.cell? ⟨w6.heap.size, 1, none⟩ = some (.slice A8 xs8.length c8))) := fun W' hW => by
        have e := HX7s.out.below hW HX7s.out.lt
        have e2 := (H7.out.below hW).st
        exact ⟨e2.cell 0, e.cell 0, e.cell 1⟩
      have HHOM : Hid (∀ W' : World, Below W7.heap.size W7 W' → Calls Tryd.prog 44 #[.pointer (some ⟨q, 0, none⟩), .int .i64 (n : Int)] W' fun e w' => e = .returned (.int .i64 ((frm + tw + n : Nat) : Int)) ∧ Below W'.heap.size W' w') := fun W' hW => (home_at W' (H7.out.below hW) n h1 h2 h3).mono fun e w' ⟨he, m, hm⟩ => ⟨he, by rw [hm]; exact ((Fr.refl Nope _).drewN _).toBelow (Nat.le_refl _) (fun _ h => h.elim)⟩
      have HSE : Hid (∀ W' : World, Below W7.heap.size W7 W' → Calls Tryd.prog 76 #[.int .i64 (n : Int), .agg #[.int .i64 l8, .slice A8 xs8.length c8]] W' fun e w' => e = .returned (.string (sectS n l8 xs8)) ∧ Below W'.heap.size W' w') := fun W' hW => sect_any W' _ n l8 A8 c8 xs8 (HS7.out.fr ((Fr.refl _ W7).below hW)) HGD.out
      have hsz : (sectS n l8 xs8).size = 256 := sectS_size (goodP_iff.1 HGD.out)
      have HWR : Hid (∀ W' : World, Below W7.heap.size W7 W' → Calls Tryd.prog 75 #[.pointer (some ⟨p, 0, none⟩), .int .i64 ((frm : Int) + (tw : Int) + (n : Int)), .string (sectS n l8 xs8)] W' fun e w' => e = .returned (.int .i64 (s.write ((frm + tw + n : Nat) : Int) (sectS n l8 xs8)).2) ∧ Left W' w' F0 p (s.write ((frm + tw + n : Nat) : Int) (sectS n l8 xs8)).1) := fun W' hW => write_any W' F0 p s ((frm + tw + n : Nat) : Int) _ (H7.out.below hW).pl (by omega) (by omega) (by rw [hsz]; omega)
      have HW7 : Hid (Below W7.heap.size W7 W7.drew) := (Below.refl _ _).drew
      have HFW : Hid (∀ W1 W' : World, Below W7.heap.size W7 W1 → Left W1 W' F0 p (s.write ((frm + tw + n : Nat) : Int) (sectS n l8 xs8)).1 → (W'.cell? ⟨q, 0, none⟩ = some (.pointer (some ⟨p, 0, none⟩)) ∧ W'.cell? ⟨w6.heap.size, 0, none⟩ = some (.int .i64 l8) ∧ W'.cell? ⟨w6.heap.size, 1, none⟩ = some (.slice A8 xs8.length c8))) := fun W1 W' hW hL => by
        obtain ⟨F', _, hf, _⟩ := hL
        have e := (HX7s.out.below hW HX7s.out.lt).fr hf (fun hF => by have := (H.out.fl _ hF).2; omega)
        have e2 := ((H7.out.below hW).st).fr hf (H7.out.below hW).dq
        exact ⟨e2.cell 0, e.cell 0, e.cell 1⟩
      obtain ⟨st, hst⟩ : ∃ st, sectS n l8 xs8 = st := ⟨_, rfl⟩
      have HST := Lib.hid hst
      rw [hst] at HSE HWR HFW
      clear hst hsz
      revert HWR HFW
      obtain ⟨s2, hs2⟩ : ∃ s2, (s.write ((frm + tw + n : Nat) : Int) st).1 = s2 := ⟨_, rfl⟩
      obtain ⟨r2, hr2⟩ : ∃ r2, (s.write ((frm + tw + n : Nat) : Int) st).2 = r2 := ⟨_, rfl⟩
      have HS2 := Lib.hid hs2
      have HR2 := Lib.hid hr2
      rw [hs2, hr2]
      clear hs2 hr2
      intro HFW HWR
      go_region_held3 (fun w' => w'.cell? ⟨q, 0, none⟩ = some (.pointer (some ⟨p, 0, none⟩)) ∧ w'.cell? ⟨w6.heap.size, 0, none⟩ = some (.int .i64 l8) ∧ w'.cell? ⟨w6.heap.size, 1, none⟩ = some (.slice A8 xs8.length c8))
        (first | exact HKP.out _ HW7.out | exact HKP.out _ HB1.out | exact HKP.out _ HB2.out | exact HFW.out _ _ HB2.out HLF.out | exact HKP.out _ HB3.out | exact HKP.out _ HB4.out | exact HFW.out _ _ HB4.out HLF.out)
        (first
          | (go_at_call 44; refine (HHOM.out _ HW7.out).mono ?_; rintro e w8 ⟨rfl, b8⟩; have HB1 := Lib.hid (HW7.out.trans (b8.mono HW7.out.size)); clear b8)
          | (go_at_call 76; refine (HSE.out _ HB1.out).mono ?_; rintro e w9 ⟨rfl, b9⟩; have HB2 := Lib.hid (HB1.out.trans (b9.mono HB1.out.size)); clear b9)
          | (go_at_call 75; refine (HWR.out _ HB2.out).mono ?_; rintro e w10 ⟨rfl, hL⟩; have HLF := Lib.hid hL; clear hL)
          | (go_at_call 76; refine (HSE.out _ HW7.out).mono ?_; rintro e w8 ⟨rfl, b8⟩; have HB3 := Lib.hid (HW7.out.trans (b8.mono HW7.out.size)); clear b8)
          | (go_at_call 44; refine (HHOM.out _ HB3.out).mono ?_; rintro e w9 ⟨rfl, b9⟩; have HB4 := Lib.hid (HB3.out.trans (b9.mono HB3.out.size)); clear b9)
          | (go_at_call 75; refine (HWR.out _ HB4.out).mono ?_; rintro e w10 ⟨rfl, hL⟩; have HLF := Lib.hid hL; clear hL))
      obtain ⟨F8, h8, hf8, hs8⟩ := (H7.out.below HB2.out).left2 HLF.out
      have H8a := Lib.hid h8
      have HFR := Lib.hid hf8
      have HB10 : Hid (Fr (Ows F0 q pv) w w10) := (((Fr.refl _ w).below HB7w.out).below HB2.out).trans hf8 (fun k hk => .inl (.inl hk))
      have HSUB8 : Hid (Sub w (Ows F0 q pv) (Ows F8 q pv)) := fun k hk => by
        rcases hk with hk | hk
        · rcases hs8 k hk with h | h
          · exact .inl (.inl h)
          · have := HB7w.out.size; have := HB2.out.size; exact .inr (by omega)
        · exact .inl (.inr hk)
      have HX10 := Lib.hid ((HX7s.out.below HB2.out HX7s.out.lt).fr hf8 (fun hF => by have := (HOWN.out _ (.inl hF)).2; omega))
      have HS10 : Hid (Slots w10 (fun k => F8 k ∨ k = q ∨ pv.ownBlock = some k) A8 xs8) := by
        have h0 := (HS7.out.fr ((Fr.refl _ W7).below HB2.out))
        have h1 := h0.mono (F' := fun k => (F0 k ∨ k = q ∨ pv.ownBlock = some k) ∨ F8 k) (fun k hk hk2 => by
          rcases hk2 with hk2 | hk2
          · exact hk2
          · rcases hs8 k hk2 with h3 | h3
            · exact .inl h3
            · omega)
        exact (h1.fr (hf8.mono (fun k hk => .inl (.inl hk)))).mono (fun k hk hk2 => by
          rcases hk2 with hk2 | hk2 | hk2
          · exact .inr hk2
          · exact .inl (.inr (.inl hk2))
          · exact .inl (.inr (.inr hk2)))
      clear h8 hf8 hs8
      by_cases hr2 : r2 = 0
      · subst hr2
        have hq5 := H8a.out.st.cell 5
        have hqf5 := H8a.out.st.frozen 5
        simp only [List.getElem?_toArray] at hq5
        go_upto_region 13 with fail
        have H8' := Lib.hid (H8a.out.mark true)
        have HX8' : Hid (Blk (w10.setCell ⟨q, 5, none⟩ (.bool true)) w6.heap.size 25 #[.int .i64 l8, .slice A8 xs8.length c8]) := HX10.out.far (p := ⟨q, 5, none⟩) (fun e => by have := (HOWN.out q (.inr (.inl rfl))).2; simp at e; omega) _
        have HS8' : Hid (Slots (w10.setCell ⟨q, 5, none⟩ (.bool true)) (fun k => F8 k ∨ k = q ∨ pv.ownBlock = some k) A8 xs8) := HS10.out.fr ((Fr.refl _ w10).set (.inl (.inr (.inl rfl))) 5 _)
        have HB8' := Lib.hid (HB10.out.set (g := q) (.inl (.inr (.inl rfl))) 5 (.bool true))
        clear hq5 hqf5
        revert H8' HX8' HS8' HB8'
        generalize w10.setCell ⟨q, 5, none⟩ (.bool true) = W8
        intro H8 HX8 HS8 HB8
        have HEV : Hid (loadP s frm tw n dead = (s2, true, some (true, (l8, xs8)), 0)) := by
          unfold Hid loadP
          rw [HR.out, HT.out, if_neg HR0.out, HCP.out]
          simp only [HST.out, HR2.out, HS2.out, ne_eq, not_true_eq_false, if_false]
        have HPL : Hid ((ps.map PgM.pg) ++ [((l8 : Int), (xs8 : List Slt))] = (ps ++ [(⟨l8, A8, c8, xs8⟩ : PgM)]).map PgM.pg) := by unfold Hid; simp [PgM.pg]
        have hq3 := H8.out.st.cell 3
        have hqf := H8.out.st.frozen 3
        have hy0 := HX8.out.cell 0
        have hy1 := HX8.out.cell 1
        have hq3a := (H8.out.st.alloc (.cells #[.int .i64 l8, .slice A8 xs8.length c8] 25)).cell 3
        simp only [List.getElem?_toArray] at hq3 hy0 hy1 hq3a
        have HOW := Lib.hid ((H8.out.pg.alloc (.cells #[.int .i64 l8, .slice A8 xs8.length c8] 25)).drew)
        have HLW := Lib.hid H8.out.lt
        go_region_law (refine step_appP (W := (W8.alloc (.cells #[.int .i64 l8, .slice A8 xs8.length c8] 25)).drew) rfl _ _ rfl lo pv ps ⟨l8, A8, c8, xs8⟩ rfl HOW.out ⟨W8.heap.size, 0, none⟩ rfl ((Blk.new W8 25 #[.int .i64 l8, .slice A8 xs8.length c8]).drew.cell 0) ((Blk.new W8 25 #[.int .i64 l8, .slice A8 xs8.length c8]).drew.cell 1) hps (by have := HLW.out; simp; omega) ?_; intro g9 c9 w9 hown9 hg9 hat9; have HO9 := Lib.hid hown9; have HG9 := Lib.hid hg9; have HA9 := Lib.hid hat9; have HQ9 := Lib.hid (((H8.out.st.alloc (.cells #[.int .i64 l8, .slice A8 xs8.length c8] 25)).drew).grown hg9 (fun e => H8.out.nqv e.symm)); have hq93 := HQ9.out.cell 3; have hqf9 := HQ9.out.frozen 3; simp only [List.getElem?_toArray] at hq93; clear hown9 hg9 hat9)
        all_goals
          go_wp2_with fail
          go_ret2
          have hgr := H8.out.grow (((Below.refl _ W8).alloc (Nat.le_refl _) (.cells #[.int .i64 l8, .slice A8 xs8.length c8] 25)).drew) ⟨l8, A8, c8, xs8⟩ (by show (xs8 : List Slt).length ≤ 255; omega) (HS8.out.fr ((((Fr.refl _ W8).alloc (.cells #[.int .i64 l8, .slice A8 xs8.length c8] 25)).drew))) HO9.out HG9.out (by rcases HA9.out with e | e; exact .inl e; exact .inr e)
          have hgf := H8.out.growF (n := ps.length + 1) (c := c9) (((Below.refl _ W8).alloc (Nat.le_refl _) (.cells #[.int .i64 l8, .slice A8 xs8.length c8] 25)).drew) HG9.out (by rcases HA9.out with e | e; exact .inl e; exact .inr e)
          refine ⟨.inr ⟨s2, true, true, _, _, _, _, HEV.out, rfl, hgr.1, HPL.out.symm, fun k hk => ?_⟩, HB8.out.trans hgf.1 HSUB8.out⟩
          rcases hgf.2 k hk with h | h
          · exact HSUB8.out k h
          · exact .inr (Nat.le_trans HB8.out.size h)
      · have hr3 : (r2 != 0) = true := by rw [bne_iff_ne]; exact hr2
        have HRN := Lib.hid hr2
        have HEV : Hid (loadP s frm tw n dead = (s2, dead, none, r2)) := by
          unfold Hid loadP
          rw [HR.out, HT.out, if_neg HR0.out, HCP.out]
          simp only [HST.out, HR2.out, HS2.out, ne_eq, hr2, not_false_eq_true, if_true]
        clear hr2
        go_wp2_with fail
        go_ret2
        exact ⟨.inl ⟨s2, dead, r2, F8, HEV.out, HRN.out, rfl, H8a.out.pl, H8a.out.fl, fun k hk => HSUB8.out k (.inl hk)⟩, HB10.out⟩

end Go.Proofs.YtbikplckehbcnaaDoor
