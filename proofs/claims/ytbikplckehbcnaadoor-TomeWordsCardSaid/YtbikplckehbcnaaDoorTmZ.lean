/- seneschalref23.Same, great: the walks. Printed by gen_same.py. -/
import Derived.Test.YtbikplckehbcnaaDoorTmG
set_option linter.unusedVariables false
set_option linter.unusedSimpArgs false
namespace Go.Proofs.YtbikplckehbcnaaDoor
open Go Go.RowKit

/-- What Same's loop finds in memory. -/
structure SmW (w : World) (bx bz : Nat) (cx cz : Array Value) (vx vz : Value) (xs zs : List Int) (W : World) : Prop where
  x : Blk W bx 60 cx
  z : Blk W bz 60 cz
  ix : Ints W vx xs
  iz : Ints W vz zs
  b : Below w.heap.size w W
theorem SmW.drew {w : World} {bx bz : Nat} {cx cz : Array Value} {vx vz : Value} {xs zs : List Int} {W : World} (h : SmW w bx bz cx cz vx vz xs zs W) : SmW w bx bz cx cz vx vz xs zs W.drew := ⟨h.x, h.z, h.ix, h.iz, ⟨h.b.os, h.b.tape, h.b.output, h.b.size, h.b.block⟩⟩

def SamePost (s s' : StepP) (w : World) (e : Ending) (w' : World) : Prop := e = .returned (.bool (decide (s = s'))) ∧ Below w.heap.size w w'
theorem sm_no {s s' : StepP} {w w' : World} (h : ¬ s = s') (hb : Below w.heap.size w w') : SamePost s s' w (.returned (.bool false)) w' := ⟨by rw [decide_eq_false h], hb⟩
theorem sm_yes {s s' : StepP} {w w' : World} (h : s = s') (hb : Below w.heap.size w w') : SamePost s s' w (.returned (.bool true)) w' := ⟨by rw [decide_eq_true h], hb⟩

set_option maxRecDepth 100000 in
set_option maxHeartbeats 16000000 in
theorem same_any (s s' : StepP) (vf vf' : Value) (w : World) (hI : Ints w vf s.fates) (hI' : Ints w vf' s'.fates) (hl : s.fates.length ≤ 1000000000) (hl' : s'.fates.length ≤ 1000000000) :
    Calls Tryd.prog 27 #[.agg (stC s vf), .agg (stC s' vf')] w (SamePost s s' w) := by
  obtain ⟨xk, xc, xu, xn, xf, ⟨xck, xpg, xsl, xdt⟩⟩ := s
  obtain ⟨k, cl, up, n, fs, ⟨ck, pg, sl, dt⟩⟩ := s'
  have HI := Lib.hid hI
  have HI' := Lib.hid hI'
  obtain ⟨A3, c3, hvf, _⟩ := hI
  obtain ⟨FA, fc, hvf', _⟩ := hI'
  subst hvf
  subst hvf'
  have hxl : xf.length ≤ 1000000000 := hl
  have hfl : fs.length ≤ 1000000000 := hl'
  clear hl hl'
  show Calls _ _ #[.agg #[.int .i64 xk, .int .i64 xc, .bool xu, .int .i64 xn, .slice A3 xf.length c3, .int .i64 xck, .int .i64 xpg, .int .i64 xsl, .string (ba xdt)], .agg #[.int .i64 k, .int .i64 cl, .bool up, .int .i64 n, .slice FA fs.length fc, .int .i64 ck, .int .i64 pg, .int .i64 sl, .string (ba dt)]] w _
  have HS : Hid (SmW w w.heap.size (w.heap.size + 1) #[.int .i64 xk, .int .i64 xc, .bool xu, .int .i64 xn, .slice A3 xf.length c3, .int .i64 xck, .int .i64 xpg, .int .i64 xsl, .string (ba xdt)] #[.int .i64 k, .int .i64 cl, .bool up, .int .i64 n, .slice FA fs.length fc, .int .i64 ck, .int .i64 pg, .int .i64 sl, .string (ba dt)] (.slice A3 xf.length c3) (.slice FA fs.length fc) xf fs ((w.alloc (.cells #[.int .i64 xk, .int .i64 xc, .bool xu, .int .i64 xn, .slice A3 xf.length c3, .int .i64 xck, .int .i64 xpg, .int .i64 xsl, .string (ba xdt)] 60)).alloc (.cells #[.int .i64 k, .int .i64 cl, .bool up, .int .i64 n, .slice FA fs.length fc, .int .i64 ck, .int .i64 pg, .int .i64 sl, .string (ba dt)] 60))) := by
    have hb : ∀ o1 o2, Below w.heap.size w ((w.alloc o1).alloc o2) := fun o1 o2 => ((Below.refl _ _).alloc (Nat.le_refl _) _).alloc (by simp) _
    have b1 := Blk.new (w.alloc (.cells #[.int .i64 xk, .int .i64 xc, .bool xu, .int .i64 xn, .slice A3 xf.length c3, .int .i64 xck, .int .i64 xpg, .int .i64 xsl, .string (ba xdt)] 60)) 60 #[.int .i64 k, .int .i64 cl, .bool up, .int .i64 n, .slice FA fs.length fc, .int .i64 ck, .int .i64 pg, .int .i64 sl, .string (ba dt)]
    rw [World.size_alloc] at b1
    exact ⟨(Blk.new w _ _).alloc _, b1, HI.out.below (hb _ _), HI'.out.below (hb _ _), hb _ _⟩
  clear HI HI'
  go_enter Tryd.func27, Tryd.ntmps27
  go_upto_region 1 with fail
  revert HS
  generalize ((w.alloc (.cells #[.int .i64 xk, .int .i64 xc, .bool xu, .int .i64 xn, .slice A3 xf.length c3, .int .i64 xck, .int .i64 xpg, .int .i64 xsl, .string (ba xdt)] 60)).alloc (.cells #[.int .i64 k, .int .i64 cl, .bool up, .int .i64 n, .slice FA fs.length fc, .int .i64 ck, .int .i64 pg, .int .i64 sl, .string (ba dt)] 60)) = W5
  generalize hby : w.heap.size + 1 = bz
  generalize hbx : w.heap.size = bx
  rw [hbx] at hby
  clear hby hbx
  intro HS
  by_cases h0 : xk = k
  · have h0 := h0.symm; subst h0
    by_cases h1 : xc = cl
    · have h1 := h1.symm; subst h1
      by_cases h2 : xu = up
      · have h2 := h2.symm; subst h2
        by_cases h3 : xn = n
        · have h3 := h3.symm; subst h3
          by_cases h4 : xck = ck
          · have h4 := h4.symm; subst h4
            by_cases h5 : xpg = pg
            · have h5 := h5.symm; subst h5
              by_cases h6 : xsl = sl
              · have h6 := h6.symm; subst h6
                by_cases h7 : xdt = dt
                · have h7 := h7.symm; subst h7
                  by_cases h8 : xf.length = fs.length
                  · have x0 := HS.out.x.cell 0
                    have x1 := HS.out.x.cell 1
                    have x2 := HS.out.x.cell 2
                    have x3 := HS.out.x.cell 3
                    have x4 := HS.out.x.cell 4
                    have x5 := HS.out.x.cell 5
                    have x6 := HS.out.x.cell 6
                    have x7 := HS.out.x.cell 7
                    have x8 := HS.out.x.cell 8
                    have y0 := HS.out.z.cell 0
                    have y1 := HS.out.z.cell 1
                    have y2 := HS.out.z.cell 2
                    have y3 := HS.out.z.cell 3
                    have y4 := HS.out.z.cell 4
                    have y5 := HS.out.z.cell 5
                    have y6 := HS.out.z.cell 6
                    have y7 := HS.out.z.cell 7
                    have y8 := HS.out.z.cell 8
                    simp only [List.getElem?_toArray] at x0 x1 x2 x3 x4 x5 x6 x7 x8 y0 y1 y2 y3 y4 y5 y6 y7 y8
                    have HL := Lib.hid h8
                    go_wp2_with fail
                    go_loopw [4, 5] (fun v4 v5 wr => ∃ i : Nat, v4 = .bool false ∧ v5 = .int .i64 i ∧ i ≤ xf.length ∧ Hid (SmW w bx bz #[.int .i64 k, .int .i64 cl, .bool up, .int .i64 n, .slice A3 xf.length c3, .int .i64 ck, .int .i64 pg, .int .i64 sl, .string (ba dt)] #[.int .i64 k, .int .i64 cl, .bool up, .int .i64 n, .slice FA fs.length fc, .int .i64 ck, .int .i64 pg, .int .i64 sl, .string (ba dt)] (.slice A3 xf.length c3) (.slice FA fs.length fc) xf fs wr ∧ ∀ j, j < i → xf.getD j 0 = fs.getD j 0)) (fun _ v5 _ => xf.length - (intOf v5).toNat)
                    case atStart => exact ⟨0, rfl, rfl, Nat.zero_le _, HS.out, fun j hj => absurd hj (Nat.not_lt_zero j)⟩
                    case round =>
                      obtain ⟨i, rfl, rfl, hile, hP⟩ := hrel
                      have x4 := hP.out.1.x.cell 4
                      have y4 := hP.out.1.z.cell 4
                      simp only [List.getElem?_toArray] at x4 y4
                      by_cases hlt : i < xf.length
                      · obtain ⟨A, c, e, hA⟩ := ints_some hP.out.1.ix
                        cases e
                        obtain ⟨A', c', e, hA'⟩ := ints_some hP.out.1.iz
                        cases e
                        rcases hA with hz | ⟨b, off, rfl, hc⟩
                        · omega
                        rcases hA' with hz | ⟨b', off', rfl, hc'⟩
                        · omega
                        have d1 := hc i hlt
                        have d2 := hc' i (by omega)
                        clear hc hc'
                        obtain ⟨a1, h1⟩ : ∃ a, xf.getD i 0 = a := ⟨_, rfl⟩
                        obtain ⟨a2, h2⟩ : ∃ a, fs.getD i 0 = a := ⟨_, rfl⟩
                        rw [h1] at d1
                        rw [h2] at d2
                        have H1 := Lib.hid h1
                        have H2 := Lib.hid h2
                        clear h1 h2
                        by_cases hv : a1 = a2
                        · subst hv
                          have HV := Lib.hid (H1.out.trans H2.out.symm)
                          go_upto_region 6 with fail
                          go_quiet (fail)
                          go_wp2_with fail
                          exact ⟨⟨i + 1, rfl, by simp, by omega, ⟨hP.out.1.x, hP.out.1.z, hP.out.1.ix, hP.out.1.iz, below_drewN hP.out.1.b _⟩, fun j hj => (Nat.lt_or_ge j i).elim (hP.out.2 j) (fun h => (show j = i by omega) ▸ HV.out)⟩, by simp [intOf]; omega⟩
                        · have hb : (a1 == a2) = false := by rw [beq_eq_false_iff_ne]; exact hv
                          have HNE : Hid (¬ ((⟨k, cl, up, n, xf, ⟨ck, pg, sl, dt⟩⟩ : StepP) = ⟨k, cl, up, n, fs, ⟨ck, pg, sl, dt⟩⟩)) := (fun h => by injection h with h1 h2 h3 h4 h5 h6; exact hv (by rw [← H1.out, ← H2.out, h5]))
                          go_upto_region 6 with fail
                          go_quiet (fail)
                          go_wp2_with fail
                          go_ret
                          exact sm_no HNE.out (below_drewN hP.out.1.b _)
                      · have HEQ : Hid ((⟨k, cl, up, n, xf, ⟨ck, pg, sl, dt⟩⟩ : StepP) = ⟨k, cl, up, n, fs, ⟨ck, pg, sl, dt⟩⟩) := by
                          have e : xf = fs := List.ext_getElem HL.out (fun j h1 h2 => by
                            have := hP.out.2 j (by omega)
                            rwa [List.getD_eq_getElem?_getD, List.getD_eq_getElem?_getD, List.getElem?_eq_getElem h1, List.getElem?_eq_getElem h2] at this)
                          rw [e]
                          exact rfl
                        go_wp2_with fail
                        go_ret
                        exact sm_yes HEQ.out hP.out.1.b
                  · have HN : ¬ xf.length = fs.length := h8
                    have x0 := HS.out.x.cell 0
                    have x1 := HS.out.x.cell 1
                    have x2 := HS.out.x.cell 2
                    have x3 := HS.out.x.cell 3
                    have x4 := HS.out.x.cell 4
                    have x5 := HS.out.x.cell 5
                    have x6 := HS.out.x.cell 6
                    have x7 := HS.out.x.cell 7
                    have x8 := HS.out.x.cell 8
                    have y0 := HS.out.z.cell 0
                    have y1 := HS.out.z.cell 1
                    have y2 := HS.out.z.cell 2
                    have y3 := HS.out.z.cell 3
                    have y4 := HS.out.z.cell 4
                    have y5 := HS.out.z.cell 5
                    have y6 := HS.out.z.cell 6
                    have y7 := HS.out.z.cell 7
                    have y8 := HS.out.z.cell 8
                    simp only [List.getElem?_toArray] at x0 x1 x2 x3 x4 x5 x6 x7 x8 y0 y1 y2 y3 y4 y5 y6 y7 y8
                    have HNE : Hid (¬ ((⟨k, cl, up, n, xf, ⟨ck, pg, sl, dt⟩⟩ : StepP) = ⟨k, cl, up, n, fs, ⟨ck, pg, sl, dt⟩⟩)) := fun h => by injection h with h1 h2 h3 h4 h5 h6; injection h6 with h6 h7 h8 h9; exact HN (by first | assumption | (rw [h5]))
                    go_wp2_with fail
                    go_ret
                    exact sm_no HNE.out HS.out.b
                · have HN : ¬ xdt = dt := h7
                  have hb7 : (xdt == dt) = false := by rw [beq_eq_false_iff_ne]; exact h7
                  have hc7 := toList_ne h7
                  have x0 := HS.out.x.cell 0
                  have x1 := HS.out.x.cell 1
                  have x2 := HS.out.x.cell 2
                  have x3 := HS.out.x.cell 3
                  have x4 := HS.out.x.cell 4
                  have x5 := HS.out.x.cell 5
                  have x6 := HS.out.x.cell 6
                  have x7 := HS.out.x.cell 7
                  have x8 := HS.out.x.cell 8
                  have y0 := HS.out.z.cell 0
                  have y1 := HS.out.z.cell 1
                  have y2 := HS.out.z.cell 2
                  have y3 := HS.out.z.cell 3
                  have y4 := HS.out.z.cell 4
                  have y5 := HS.out.z.cell 5
                  have y6 := HS.out.z.cell 6
                  have y7 := HS.out.z.cell 7
                  have y8 := HS.out.z.cell 8
                  simp only [List.getElem?_toArray] at x0 x1 x2 x3 x4 x5 x6 x7 x8 y0 y1 y2 y3 y4 y5 y6 y7 y8
                  have HNE : Hid (¬ ((⟨k, cl, up, n, xf, ⟨ck, pg, sl, xdt⟩⟩ : StepP) = ⟨k, cl, up, n, fs, ⟨ck, pg, sl, dt⟩⟩)) := fun h => by injection h with h1 h2 h3 h4 h5 h6; injection h6 with h6 h7 h8 h9; exact HN (by first | assumption | (rw [h5]))
                  go_wp2_with fail
                  go_ret
                  exact sm_no HNE.out HS.out.b
              · have HN : ¬ xsl = sl := h6
                have hb6 : (xsl == sl) = false := by rw [beq_eq_false_iff_ne]; exact h6
                have x0 := HS.out.x.cell 0
                have x1 := HS.out.x.cell 1
                have x2 := HS.out.x.cell 2
                have x3 := HS.out.x.cell 3
                have x4 := HS.out.x.cell 4
                have x5 := HS.out.x.cell 5
                have x6 := HS.out.x.cell 6
                have x7 := HS.out.x.cell 7
                have x8 := HS.out.x.cell 8
                have y0 := HS.out.z.cell 0
                have y1 := HS.out.z.cell 1
                have y2 := HS.out.z.cell 2
                have y3 := HS.out.z.cell 3
                have y4 := HS.out.z.cell 4
                have y5 := HS.out.z.cell 5
                have y6 := HS.out.z.cell 6
                have y7 := HS.out.z.cell 7
                have y8 := HS.out.z.cell 8
                simp only [List.getElem?_toArray] at x0 x1 x2 x3 x4 x5 x6 x7 x8 y0 y1 y2 y3 y4 y5 y6 y7 y8
                have HNE : Hid (¬ ((⟨k, cl, up, n, xf, ⟨ck, pg, xsl, xdt⟩⟩ : StepP) = ⟨k, cl, up, n, fs, ⟨ck, pg, sl, dt⟩⟩)) := fun h => by injection h with h1 h2 h3 h4 h5 h6; injection h6 with h6 h7 h8 h9; exact HN (by first | assumption | (rw [h5]))
                go_wp2_with fail
                go_ret
                exact sm_no HNE.out HS.out.b
            · have HN : ¬ xpg = pg := h5
              have hb5 : (xpg == pg) = false := by rw [beq_eq_false_iff_ne]; exact h5
              have x0 := HS.out.x.cell 0
              have x1 := HS.out.x.cell 1
              have x2 := HS.out.x.cell 2
              have x3 := HS.out.x.cell 3
              have x4 := HS.out.x.cell 4
              have x5 := HS.out.x.cell 5
              have x6 := HS.out.x.cell 6
              have x7 := HS.out.x.cell 7
              have x8 := HS.out.x.cell 8
              have y0 := HS.out.z.cell 0
              have y1 := HS.out.z.cell 1
              have y2 := HS.out.z.cell 2
              have y3 := HS.out.z.cell 3
              have y4 := HS.out.z.cell 4
              have y5 := HS.out.z.cell 5
              have y6 := HS.out.z.cell 6
              have y7 := HS.out.z.cell 7
              have y8 := HS.out.z.cell 8
              simp only [List.getElem?_toArray] at x0 x1 x2 x3 x4 x5 x6 x7 x8 y0 y1 y2 y3 y4 y5 y6 y7 y8
              have HNE : Hid (¬ ((⟨k, cl, up, n, xf, ⟨ck, xpg, xsl, xdt⟩⟩ : StepP) = ⟨k, cl, up, n, fs, ⟨ck, pg, sl, dt⟩⟩)) := fun h => by injection h with h1 h2 h3 h4 h5 h6; injection h6 with h6 h7 h8 h9; exact HN (by first | assumption | (rw [h5]))
              go_wp2_with fail
              go_ret
              exact sm_no HNE.out HS.out.b
          · have HN : ¬ xck = ck := h4
            have hb4 : (xck == ck) = false := by rw [beq_eq_false_iff_ne]; exact h4
            have x0 := HS.out.x.cell 0
            have x1 := HS.out.x.cell 1
            have x2 := HS.out.x.cell 2
            have x3 := HS.out.x.cell 3
            have x4 := HS.out.x.cell 4
            have x5 := HS.out.x.cell 5
            have x6 := HS.out.x.cell 6
            have x7 := HS.out.x.cell 7
            have x8 := HS.out.x.cell 8
            have y0 := HS.out.z.cell 0
            have y1 := HS.out.z.cell 1
            have y2 := HS.out.z.cell 2
            have y3 := HS.out.z.cell 3
            have y4 := HS.out.z.cell 4
            have y5 := HS.out.z.cell 5
            have y6 := HS.out.z.cell 6
            have y7 := HS.out.z.cell 7
            have y8 := HS.out.z.cell 8
            simp only [List.getElem?_toArray] at x0 x1 x2 x3 x4 x5 x6 x7 x8 y0 y1 y2 y3 y4 y5 y6 y7 y8
            have HNE : Hid (¬ ((⟨k, cl, up, n, xf, ⟨xck, xpg, xsl, xdt⟩⟩ : StepP) = ⟨k, cl, up, n, fs, ⟨ck, pg, sl, dt⟩⟩)) := fun h => by injection h with h1 h2 h3 h4 h5 h6; injection h6 with h6 h7 h8 h9; exact HN (by first | assumption | (rw [h5]))
            go_wp2_with fail
            go_ret
            exact sm_no HNE.out HS.out.b
        · have HN : ¬ xn = n := h3
          have hb3 : (xn == n) = false := by rw [beq_eq_false_iff_ne]; exact h3
          have x0 := HS.out.x.cell 0
          have x1 := HS.out.x.cell 1
          have x2 := HS.out.x.cell 2
          have x3 := HS.out.x.cell 3
          have x4 := HS.out.x.cell 4
          have x5 := HS.out.x.cell 5
          have x6 := HS.out.x.cell 6
          have x7 := HS.out.x.cell 7
          have x8 := HS.out.x.cell 8
          have y0 := HS.out.z.cell 0
          have y1 := HS.out.z.cell 1
          have y2 := HS.out.z.cell 2
          have y3 := HS.out.z.cell 3
          have y4 := HS.out.z.cell 4
          have y5 := HS.out.z.cell 5
          have y6 := HS.out.z.cell 6
          have y7 := HS.out.z.cell 7
          have y8 := HS.out.z.cell 8
          simp only [List.getElem?_toArray] at x0 x1 x2 x3 x4 x5 x6 x7 x8 y0 y1 y2 y3 y4 y5 y6 y7 y8
          have HNE : Hid (¬ ((⟨k, cl, up, xn, xf, ⟨xck, xpg, xsl, xdt⟩⟩ : StepP) = ⟨k, cl, up, n, fs, ⟨ck, pg, sl, dt⟩⟩)) := fun h => by injection h with h1 h2 h3 h4 h5 h6; injection h6 with h6 h7 h8 h9; exact HN (by first | assumption | (rw [h5]))
          go_wp2_with fail
          go_ret
          exact sm_no HNE.out HS.out.b
      · have HN : ¬ xu = up := h2
        have hb2 : (xu == up) = false := by rw [beq_eq_false_iff_ne]; exact h2
        have x0 := HS.out.x.cell 0
        have x1 := HS.out.x.cell 1
        have x2 := HS.out.x.cell 2
        have x3 := HS.out.x.cell 3
        have x4 := HS.out.x.cell 4
        have x5 := HS.out.x.cell 5
        have x6 := HS.out.x.cell 6
        have x7 := HS.out.x.cell 7
        have x8 := HS.out.x.cell 8
        have y0 := HS.out.z.cell 0
        have y1 := HS.out.z.cell 1
        have y2 := HS.out.z.cell 2
        have y3 := HS.out.z.cell 3
        have y4 := HS.out.z.cell 4
        have y5 := HS.out.z.cell 5
        have y6 := HS.out.z.cell 6
        have y7 := HS.out.z.cell 7
        have y8 := HS.out.z.cell 8
        simp only [List.getElem?_toArray] at x0 x1 x2 x3 x4 x5 x6 x7 x8 y0 y1 y2 y3 y4 y5 y6 y7 y8
        have HNE : Hid (¬ ((⟨k, cl, xu, xn, xf, ⟨xck, xpg, xsl, xdt⟩⟩ : StepP) = ⟨k, cl, up, n, fs, ⟨ck, pg, sl, dt⟩⟩)) := fun h => by injection h with h1 h2 h3 h4 h5 h6; injection h6 with h6 h7 h8 h9; exact HN (by first | assumption | (rw [h5]))
        go_wp2_with fail
        go_ret
        exact sm_no HNE.out HS.out.b
    · have HN : ¬ xc = cl := h1
      have hb1 : (xc == cl) = false := by rw [beq_eq_false_iff_ne]; exact h1
      have x0 := HS.out.x.cell 0
      have x1 := HS.out.x.cell 1
      have x2 := HS.out.x.cell 2
      have x3 := HS.out.x.cell 3
      have x4 := HS.out.x.cell 4
      have x5 := HS.out.x.cell 5
      have x6 := HS.out.x.cell 6
      have x7 := HS.out.x.cell 7
      have x8 := HS.out.x.cell 8
      have y0 := HS.out.z.cell 0
      have y1 := HS.out.z.cell 1
      have y2 := HS.out.z.cell 2
      have y3 := HS.out.z.cell 3
      have y4 := HS.out.z.cell 4
      have y5 := HS.out.z.cell 5
      have y6 := HS.out.z.cell 6
      have y7 := HS.out.z.cell 7
      have y8 := HS.out.z.cell 8
      simp only [List.getElem?_toArray] at x0 x1 x2 x3 x4 x5 x6 x7 x8 y0 y1 y2 y3 y4 y5 y6 y7 y8
      have HNE : Hid (¬ ((⟨k, xc, xu, xn, xf, ⟨xck, xpg, xsl, xdt⟩⟩ : StepP) = ⟨k, cl, up, n, fs, ⟨ck, pg, sl, dt⟩⟩)) := fun h => by injection h with h1 h2 h3 h4 h5 h6; injection h6 with h6 h7 h8 h9; exact HN (by first | assumption | (rw [h5]))
      go_wp2_with fail
      go_ret
      exact sm_no HNE.out HS.out.b
  · have HN : ¬ xk = k := h0
    have hb0 : (xk == k) = false := by rw [beq_eq_false_iff_ne]; exact h0
    have x0 := HS.out.x.cell 0
    have x1 := HS.out.x.cell 1
    have x2 := HS.out.x.cell 2
    have x3 := HS.out.x.cell 3
    have x4 := HS.out.x.cell 4
    have x5 := HS.out.x.cell 5
    have x6 := HS.out.x.cell 6
    have x7 := HS.out.x.cell 7
    have x8 := HS.out.x.cell 8
    have y0 := HS.out.z.cell 0
    have y1 := HS.out.z.cell 1
    have y2 := HS.out.z.cell 2
    have y3 := HS.out.z.cell 3
    have y4 := HS.out.z.cell 4
    have y5 := HS.out.z.cell 5
    have y6 := HS.out.z.cell 6
    have y7 := HS.out.z.cell 7
    have y8 := HS.out.z.cell 8
    simp only [List.getElem?_toArray] at x0 x1 x2 x3 x4 x5 x6 x7 x8 y0 y1 y2 y3 y4 y5 y6 y7 y8
    have HNE : Hid (¬ ((⟨xk, xc, xu, xn, xf, ⟨xck, xpg, xsl, xdt⟩⟩ : StepP) = ⟨k, cl, up, n, fs, ⟨ck, pg, sl, dt⟩⟩)) := fun h => by injection h with h1 h2 h3 h4 h5 h6; injection h6 with h6 h7 h8 h9; exact HN (by first | assumption | (rw [h5]))
    go_wp2_with fail
    go_ret
    exact sm_no HNE.out HS.out.b

end Go.Proofs.YtbikplckehbcnaaDoor
