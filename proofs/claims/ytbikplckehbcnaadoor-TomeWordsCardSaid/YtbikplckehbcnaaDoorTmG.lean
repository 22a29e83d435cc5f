/- tome.Print, seneschalref23.Same: the walks. Printed by gen_print.py. -/
import Derived.Test.YtbikplckehbcnaaDoorTmN
import Derived.Laws.StructEq
import Derived.RegionTactic
set_option linter.unusedVariables false
set_option linter.unusedSimpArgs false
namespace Go.Proofs.YtbikplckehbcnaaDoor
open Go Go.RowKit

theorem ints_some {w : World} {v : Value} {fs : List Int} (h : Ints w v fs) : ∃ A c, v = .slice A fs.length c ∧ ((fs.length = 0) ∨ ∃ b off, A = some ⟨b, off, none⟩ ∧ ∀ j, j < fs.length → w.cell? ⟨b, off + j, none⟩ = some (.int .i64 (fs.getD j 0))) := by
  obtain ⟨A, c, rfl, h⟩ := h
  refine ⟨A, c, rfl, ?_⟩
  rcases Nat.eq_zero_or_pos fs.length with hz | hz
  · exact .inl hz
  · obtain ⟨b, off, rfl, _, hc⟩ := h hz
    exact .inr ⟨b, off, rfl, fun j hj => hc j _ (by rw [List.getD_eq_getElem?_getD, List.getElem?_eq_getElem hj]; rfl)⟩
theorem intsEq_any (w : World) (v v' : Value) (fs gs : List Int) (h : Ints w v fs) (h' : Ints w v' gs) (hl : fs.length ≤ 1000000000) (hl' : gs.length ≤ 1000000000) :
    Calls Tryd.prog 64 #[v, v'] w fun e w' => e = .returned (.bool (decide (fs = gs))) ∧ ∃ q, w' = w.drewN q := by
  obtain ⟨A, c, rfl, hA⟩ := ints_some h
  obtain ⟨A', c', rfl, hA'⟩ := ints_some h'
  by_cases hn : fs.length = gs.length
  · rcases hA with hz | ⟨b, off, rfl, hc⟩
    · have e1 : fs = [] := List.length_eq_zero_iff.1 hz
      have e2 : gs = [] := List.length_eq_zero_iff.1 (by omega)
      subst e1; subst e2
      refine (Tryd.slices_Equal_int_empty A A' c 0 c' w (by decide)).mono ?_
      rintro e w' ⟨rfl, rfl⟩
      exact ⟨rfl, 0, rfl⟩
    · rcases hA' with hz | ⟨b', off', rfl, hc'⟩
      · have e1 : gs = [] := List.length_eq_zero_iff.1 hz
        have e2 : fs = [] := List.length_eq_zero_iff.1 (by omega)
        subst e1; subst e2
        refine (Tryd.slices_Equal_int_empty _ A' c 0 c' w (by decide)).mono ?_
        rintro e w' ⟨rfl, rfl⟩
        exact ⟨rfl, 0, rfl⟩
      · refine (Tryd.slices_Equal_int b off fs.length c b' off' gs.length c' fs gs w (Nat.le_refl _) (Nat.le_refl _) (by omega) (by omega) hc hc').mono ?_
        rintro e w' ⟨rfl, hw⟩
        refine ⟨?_, hw⟩
        rw [List.take_of_length_le (Nat.le_refl _), List.take_of_length_le (Nat.le_refl _)]
        congr 2
        rw [Bool.eq_iff_iff]
        simp
  · refine (Tryd.slices_Equal_int_lens A A' fs.length c gs.length c' w hn).mono ?_
    rintro e w' ⟨rfl, rfl⟩
    refine ⟨?_, 0, rfl⟩
    rw [decide_eq_false (fun e => hn (by rw [e]))]

theorem toList_ne {a b : Bs} (h : ¬ a = b) : ¬ (ba a).toList = (ba b).toList := by rw [ByteArray.toList_eq, ByteArray.toList_eq]; exact h
theorem join_any (ws : List Bs) (h0 : 0 < ws.length) (v : Value) (w : World) (base : Nat) (hv : w.ownsRow base 9 1 v ws.length (strC ws)) (hl : ws.length ≤ 1048577) (hj : (Lib.join ws [32]).length ≤ 131072) :
    Calls Tryd.prog 62 #[v, .string ⟨#[32]⟩] w fun e w' => e = .returned (.string (ba (Lib.join ws [32]))) ∧ Below w.heap.size w w' := by
  rcases hv.2 with ⟨rfl, hz⟩ | ⟨g, cap, cur, rfl, _, hg, h1, h2, h3, h4⟩
  · omega
  · have hm : (ws.map ba).map (fun b => b.data.toList) = ws := by
      rw [List.map_map]
      conv => rhs; rw [← List.map_id ws]
      exact List.map_congr_left fun x _ => rfl
    have hj' := Tryd.strings_Join g 0 cap (ws.map ba) ⟨#[32]⟩ w (fun j x hx => by
      rw [Nat.zero_add, cell_of_row w g j cur _ _ hg]
      rw [List.getElem?_map] at hx
      obtain ⟨y, hy, rfl⟩ := Option.map_eq_some_iff.1 hx
      have hjl := (List.getElem?_eq_some_iff.1 hy).1
      have e : (cur.toList.take (ws.length * 1))[j]? = (strC ws)[j]? := by rw [h4]
      rw [List.getElem?_take, if_pos (by omega), strC, List.getElem?_map, hy] at e
      rw [← Array.getElem?_toList, e]
      rfl) ((Array.getElem?_eq_some_iff.1 hg).1) (by rw [List.length_map]; omega) (by rw [List.length_map]; omega) (by rw [hm]; exact Nat.le_trans hj (by decide))
    rw [hm, List.length_map] at hj'
    exact hj'

theorem written_len {s : StepP} (h : StOk s) : (writtenP s).length ≤ 1048577 := by
  have h1 := h.fl
  unfold writtenP
  simp only [List.length_append, List.length_map, List.length_singleton]
  have : (restP s).length ≤ 5 := by
    unfold restP
    have := called_len s.call
    split
    · simp; omega
    · split
      · simp
      · split
        · simp
        · split <;> simp
  omega
theorem num_rest (r : Rd) : (numR r).2.1.length ≤ r.1.length := num_len_le r
theorem fates_len (l : List Bs) (b : Bool) : (fatesR l b).1.length = l.length := by
  induction l generalizing b with
  | nil => rfl
  | cons y l ih => simp [fatesR, ih]
theorem parse_fates_len {t : Bs} {o : Option StepP} (h : parseP (cutAt 32 t) = o) (hl : t.length ≤ 131072) : (o.getD noStep).fates.length ≤ 1000000 := by
  cases o with
  | none => simp [noStep]
  | some s =>
    have hw := congrArg List.length (parse_written h)
    unfold writtenP at hw
    simp only [List.length_append, List.length_map, List.length_singleton] at hw
    have := cut_count 32 t
    simp
    omega

theorem below_drewN {B : Nat} {a b : World} (h : Below B a b) (n : Nat) : Below B a (b.drewN n) := ⟨h.os, h.tape, h.output, h.size, h.block⟩
/-- Print's error. -/
def priE (o : Option Bs) : Int := if o.isSome then 0 else 1
theorem print_none {s : StepP} (h : parseP (cutAt 32 (lineOf s)) ≠ some s) : printP s = none := by unfold printP; rw [if_neg h]
theorem print_some {s : StepP} (h : parseP (cutAt 32 (lineOf s)) = some s) : printP s = some (lineOf s) := by unfold printP; rw [if_pos h]
def PrintPost (s : StepP) (w : World) (e : Ending) (w' : World) : Prop := e = .returned (.tuple #[.string (ba ((printP s).getD [])), .int .i64 (priE (printP s))]) ∧ Below w.heap.size w w'
theorem pp_none {s : StepP} {w w' : World} (h : printP s = none) (hb : Below w.heap.size w w') : PrintPost s w (.returned (.tuple #[.string ⟨#[]⟩, .int .i64 1])) w' := ⟨by rw [h]; rfl, hb⟩
theorem pp_some {s : StepP} {w w' : World} {t : Bs} (h : printP s = some t) (hb : Below w.heap.size w w') : PrintPost s w (.returned (.tuple #[.string (ba t), .int .i64 0])) w' := ⟨by rw [h]; rfl, hb⟩

set_option maxRecDepth 100000 in
set_option maxHeartbeats 16000000 in
theorem print_any (s : StepP) (vf : Value) (w : World) (hT : Tabs w) (hI : Ints w vf s.fates) (hs : StOk s) (hl : (lineOf s).length ≤ 131072) :
    Calls Tryd.prog 31 #[.agg (stC s vf)] w (PrintPost s w) := by
  have HOK := Lib.hid hs
  have HI := Lib.hid hI
  have HT := Lib.hid hT
  have HL := Lib.hid hl
  have hT0 := hT.size
  obtain ⟨FA, fc, hvf, _⟩ := hI
  clear hs hl hT
  obtain ⟨k, cl, up, n, fs, ⟨ck, pg, sl, dt⟩⟩ := s
  subst hvf
  have B0 : Hid (Blk (w.alloc (.cells (stC ⟨k, cl, up, n, fs, ⟨ck, pg, sl, dt⟩⟩ (.slice FA fs.length fc)) 60)) w.heap.size 60 (stC ⟨k, cl, up, n, fs, ⟨ck, pg, sl, dt⟩⟩ (.slice FA fs.length fc))) := Blk.new _ _ _
  have W0 : Hid (Below w.heap.size w (w.alloc (.cells (stC ⟨k, cl, up, n, fs, ⟨ck, pg, sl, dt⟩⟩ (.slice FA fs.length fc)) 60))) := (Below.refl _ _).alloc (Nat.le_refl _) _
  unfold stC at B0 W0
  show Calls _ _ #[.agg #[.int .i64 k, .int .i64 cl, .bool up, .int .i64 n, .slice FA fs.length fc, .int .i64 ck, .int .i64 pg, .int .i64 sl, .string (ba dt)]] w _
  have hld := step_load _ _ _ _ _ _ _ _ _ _ _ _ B0.out
  go_enter Tryd.func31, Tryd.ntmps31
  go_wp2_with fail
  have hw := written_any ⟨k, cl, up, n, fs, ⟨ck, pg, sl, dt⟩⟩ (.slice FA fs.length fc) _ (HT.out.below hT0 W0.out) (HI.out.below W0.out) HOK.out
  unfold stC at hw
  refine hw.mono ?_
  rintro e w1 ⟨⟨v1, rfl, ho1⟩, b1⟩
  have hws := Lib.hid ho1
  have B1 := Lib.hid (B0.out.below b1 B0.out.lt)
  have W1 := Lib.hid (W0.out.trans (b1.mono W0.out.size))
  clear ho1 b1 hld B0 W0 hw
  go_wp2_with fail
  refine (join_any _ (by simp [writtenP]) v1 _ _ hws.out (written_len HOK.out) HL.out).mono ?_
  rintro e w2 ⟨rfl, b2⟩
  have B2 := Lib.hid (B1.out.below b2 B1.out.lt)
  have W2 := Lib.hid (W1.out.trans (b2.mono W1.out.size))
  clear b2 B1 W1 hws
  obtain ⟨t, ht⟩ : ∃ t, lineOf ⟨k, cl, up, n, fs, ⟨ck, pg, sl, dt⟩⟩ = t := ⟨_, rfl⟩
  rw [show Lib.join (writtenP ⟨k, cl, up, n, fs, ⟨ck, pg, sl, dt⟩⟩) [32] = t from ht]
  rw [ht] at HL
  have HTL := Lib.hid ht
  clear ht
  go_wp2_with fail
  refine (parse_any t HL.out _ (HT.out.below hT0 W2.out)).mono ?_
  rintro e w3 ⟨⟨v3, rfl, hO3⟩, b3⟩
  have hI3 := OwnI.ints hO3
  have HI3 := Lib.hid hI3
  clear hO3
  have B3 := Lib.hid (B2.out.below b3 B2.out.lt)
  have W3 := Lib.hid (W2.out.trans (b3.mono W2.out.size))
  have HIs := Lib.hid (HI.out.below W3.out)
  obtain ⟨A3, c3, hv3, _⟩ := hI3
  clear b3 B2 W2
  obtain ⟨o, ho⟩ : ∃ o, parseP (cutAt 32 t) = o := ⟨_, rfl⟩
  rw [ho] at HI3 hv3 ⊢
  have HO := Lib.hid ho
  clear ho
  have HXL : Hid ((o.getD noStep).fates.length ≤ 1000000) := parse_fates_len HO.out HL.out
  subst hv3
  obtain ⟨⟨xk, xc, xu, xn, xf, ⟨xck, xpg, xsl, xdt⟩⟩, hx⟩ : ∃ x, o.getD noStep = x := ⟨_, rfl⟩
  rw [hx] at HI3 HXL ⊢
  have HX := Lib.hid hx
  have he : (parE o = 0 ∧ o = some ⟨xk, xc, xu, xn, xf, ⟨xck, xpg, xsl, xdt⟩⟩) ∨ (parE o = 50 ∧ o = none) := by
    cases o with
    | none => exact .inr ⟨rfl, rfl⟩
    | some x => exact .inl ⟨rfl, by rw [← hx]; rfl⟩
  clear hx
  obtain ⟨er, her⟩ : ∃ er, parE o = er := ⟨_, rfl⟩
  rw [her] at he ⊢
  clear her
  unfold stC
  have BX := Lib.hid (Blk.new w3 60 #[.int .i64 xk, .int .i64 xc, .bool xu, .int .i64 xn, .slice A3 xf.length c3, .int .i64 xck, .int .i64 xpg, .int .i64 xsl, .string (ba xdt)])
  have B4 := Lib.hid (B3.out.alloc (.cells #[.int .i64 xk, .int .i64 xc, .bool xu, .int .i64 xn, .slice A3 xf.length c3, .int .i64 xck, .int .i64 xpg, .int .i64 xsl, .string (ba xdt)] 60))
  have W4 := Lib.hid (W3.out.alloc W3.out.size (.cells #[.int .i64 xk, .int .i64 xc, .bool xu, .int .i64 xn, .slice A3 xf.length c3, .int .i64 xck, .int .i64 xpg, .int .i64 xsl, .string (ba xdt)] 60))
  have HIx := Lib.hid (HI3.out.below ((Below.refl _ _).alloc (Nat.le_refl _) (.cells #[.int .i64 xk, .int .i64 xc, .bool xu, .int .i64 xn, .slice A3 xf.length c3, .int .i64 xck, .int .i64 xpg, .int .i64 xsl, .string (ba xdt)] 60)))
  have HIy := Lib.hid (HIs.out.below ((Below.refl _ _).alloc (Nat.le_refl _) (.cells #[.int .i64 xk, .int .i64 xc, .bool xu, .int .i64 xn, .slice A3 xf.length c3, .int .i64 xck, .int .i64 xpg, .int .i64 xsl, .string (ba xdt)] 60)))
  have hfl : fs.length ≤ 1000000000 := by have : fs.length ≤ 1000000 := HOK.out.fl; omega
  have hxl : xf.length ≤ 1000000000 := by have : xf.length ≤ 1000000 := HXL.out; omega
  clear B3 W3 HI3 HIs HI HT
  go_upto_region 3 with fail
  revert BX B4 W4 HIx HIy
  generalize w3.alloc (.cells #[.int .i64 xk, .int .i64 xc, .bool xu, .int .i64 xn, .slice A3 xf.length c3, .int .i64 xck, .int .i64 xpg, .int .i64 xsl, .string (ba xdt)] 60) = W5
  generalize w3.heap.size = bx
  intro BX B4 W4 HIx HIy
  by_cases h0 : xk = k
  · have h0 := h0.symm; subst h0
    by_cases h1 : xc = cl
    · have h1 := h1.symm; subst h1
      by_cases h2 : xu = up
      · have h2 := h2.symm; subst h2
        by_cases h3 : xn = n
        · have h3 := h3.symm; subst h3
          by_cases h4 : xck = ck
          · have h4 := h4.symm; subst h4
            by_cases h5 : xpg = pg
            · have h5 := h5.symm; subst h5
              by_cases h6 : xsl = sl
              · have h6 := h6.symm; subst h6
                by_cases h7 : xdt = dt
                · have h7 := h7.symm; subst h7
                  have x0 := BX.out.cell 0
                  have x1 := BX.out.cell 1
                  have x2 := BX.out.cell 2
                  have x3 := BX.out.cell 3
                  have x4 := BX.out.cell 4
                  have x5 := BX.out.cell 5
                  have x6 := BX.out.cell 6
                  have x7 := BX.out.cell 7
                  have x8 := BX.out.cell 8
                  have y0 := B4.out.cell 0
                  have y1 := B4.out.cell 1
                  have y2 := B4.out.cell 2
                  have y3 := B4.out.cell 3
                  have y4 := B4.out.cell 4
                  have y5 := B4.out.cell 5
                  have y6 := B4.out.cell 6
                  have y7 := B4.out.cell 7
                  have y8 := B4.out.cell 8
                  simp only [List.getElem?_toArray] at x0 x1 x2 x3 x4 x5 x6 x7 x8 y0 y1 y2 y3 y4 y5 y6 y7 y8
                  have HE1 : Hid (decide (xf = fs) = true → er = 0 → printP ⟨k, cl, up, n, fs, ⟨ck, pg, sl, dt⟩⟩ = some t) := fun h1 h2 => by
                    have h1 := of_decide_eq_true h1
                    have hoo : o = some ⟨k, cl, up, n, fs, ⟨ck, pg, sl, dt⟩⟩ := by
                      rcases he with ⟨_, e⟩ | ⟨e, _⟩
                      · rw [e, h1]
                      · omega
                    rw [print_some (by rw [HTL.out, HO.out]; exact hoo), HTL.out]
                  have HE2 : Hid (decide (xf = fs) = false ∨ er = 50 → printP ⟨k, cl, up, n, fs, ⟨ck, pg, sl, dt⟩⟩ = none) := fun h1 => by
                    refine print_none ?_
                    rw [HTL.out, HO.out]
                    rcases he with ⟨h2, e⟩ | ⟨_, e⟩
                    · rw [e]; intro h; injection h with h; injection h with h3 h4 h5 h6 h7 h8
                      rcases h1 with h1 | h1
                      · exact of_decide_eq_false h1 h7
                      · omega
                    · rw [e]; intro h; cases h
                  have heq := intsEq_any W5 _ _ xf fs HIx.out HIy.out hxl hfl
                  have HEQ := Lib.hid heq
                  clear heq
                  have her : er = 0 ∨ er = 50 := by rcases he with ⟨h, _⟩ | ⟨h, _⟩ <;> omega
                  clear he
                  go_wp2_with fail
                  refine HEQ.out.mono ?_
                  rintro e w6 ⟨rfl, q, rfl⟩
                  have W6 := Lib.hid (below_drewN W4.out q)
                  cases hd : decide (xf = fs) with
                  | true =>
                    rw [hd] at HE1 HE2
                    clear hd
                    rcases her with rfl | rfl
                    · go_wp2_with fail
                      go_ret2
                      exact pp_some (HE1.out (by first | rfl | trivial) (by first | rfl | trivial)) W6.out
                    · go_wp2_with fail
                      go_ret2
                      exact pp_none (HE2.out (.inr (by first | rfl | trivial))) W6.out
                  | false =>
                    rw [hd] at HE1 HE2
                    clear hd
                    rcases her with rfl | rfl
                    all_goals
                      go_wp2_with fail
                      go_ret2
                      exact pp_none (HE2.out (.inl (by first | rfl | trivial))) W6.out
                · have HN : ¬ xdt = dt := h7
                  have hb7 : (xdt == dt) = false := by rw [beq_eq_false_iff_ne]; exact h7
                  have hc7 := toList_ne h7
                  have x0 := BX.out.cell 0
                  have x1 := BX.out.cell 1
                  have x2 := BX.out.cell 2
                  have x3 := BX.out.cell 3
                  have x4 := BX.out.cell 4
                  have x5 := BX.out.cell 5
                  have x6 := BX.out.cell 6
                  have x7 := BX.out.cell 7
                  have x8 := BX.out.cell 8
                  have y0 := B4.out.cell 0
                  have y1 := B4.out.cell 1
                  have y2 := B4.out.cell 2
                  have y3 := B4.out.cell 3
                  have y4 := B4.out.cell 4
                  have y5 := B4.out.cell 5
                  have y6 := B4.out.cell 6
                  have y7 := B4.out.cell 7
                  have y8 := B4.out.cell 8
                  simp only [List.getElem?_toArray] at x0 x1 x2 x3 x4 x5 x6 x7 x8 y0 y1 y2 y3 y4 y5 y6 y7 y8
                  have HNE : Hid (printP ⟨k, cl, up, n, fs, ⟨ck, pg, sl, dt⟩⟩ = none) := by
                    refine print_none ?_
                    rw [HTL.out, HO.out]
                    rcases he with ⟨_, e⟩ | ⟨_, e⟩
                    · rw [e]; intro h; injection h with h; injection h with h1 h2 h3 h4 h5 h6; injection h6 with h6 h7 h8 h9; exact HN (by assumption)
                    · rw [e]; intro h; cases h
                  rcases he with ⟨rfl, _⟩ | ⟨rfl, _⟩
                  all_goals
                    go_wp2_with fail
                    go_ret2
                    exact pp_none HNE.out W4.out
              · have HN : ¬ xsl = sl := h6
                have hb6 : (xsl == sl) = false := by rw [beq_eq_false_iff_ne]; exact h6
                have x0 := BX.out.cell 0
                have x1 := BX.out.cell 1
                have x2 := BX.out.cell 2
                have x3 := BX.out.cell 3
                have x4 := BX.out.cell 4
                have x5 := BX.out.cell 5
                have x6 := BX.out.cell 6
                have x7 := BX.out.cell 7
                have x8 := BX.out.cell 8
                have y0 := B4.out.cell 0
                have y1 := B4.out.cell 1
                have y2 := B4.out.cell 2
                have y3 := B4.out.cell 3
                have y4 := B4.out.cell 4
                have y5 := B4.out.cell 5
                have y6 := B4.out.cell 6
                have y7 := B4.out.cell 7
                have y8 := B4.out.cell 8
                simp only [List.getElem?_toArray] at x0 x1 x2 x3 x4 x5 x6 x7 x8 y0 y1 y2 y3 y4 y5 y6 y7 y8
                have HNE : Hid (printP ⟨k, cl, up, n, fs, ⟨ck, pg, sl, dt⟩⟩ = none) := by
                  refine print_none ?_
                  rw [HTL.out, HO.out]
                  rcases he with ⟨_, e⟩ | ⟨_, e⟩
                  · rw [e]; intro h; injection h with h; injection h with h1 h2 h3 h4 h5 h6; injection h6 with h6 h7 h8 h9; exact HN (by assumption)
                  · rw [e]; intro h; cases h
                rcases he with ⟨rfl, _⟩ | ⟨rfl, _⟩
                all_goals
                  go_wp2_with fail
                  go_ret2
                  exact pp_none HNE.out W4.out
            · have HN : ¬ xpg = pg := h5
              have hb5 : (xpg == pg) = false := by rw [beq_eq_false_iff_ne]; exact h5
              have x0 := BX.out.cell 0
              have x1 := BX.out.cell 1
              have x2 := BX.out.cell 2
              have x3 := BX.out.cell 3
              have x4 := BX.out.cell 4
              have x5 := BX.out.cell 5
              have x6 := BX.out.cell 6
              have x7 := BX.out.cell 7
              have x8 := BX.out.cell 8
              have y0 := B4.out.cell 0
              have y1 := B4.out.cell 1
              have y2 := B4.out.cell 2
              have y3 := B4.out.cell 3
              have y4 := B4.out.cell 4
              have y5 := B4.out.cell 5
              have y6 := B4.out.cell 6
              have y7 := B4.out.cell 7
              have y8 := B4.out.cell 8
              simp only [List.getElem?_toArray] at x0 x1 x2 x3 x4 x5 x6 x7 x8 y0 y1 y2 y3 y4 y5 y6 y7 y8
              have HNE : Hid (printP ⟨k, cl, up, n, fs, ⟨ck, pg, sl, dt⟩⟩ = none) := by
                refine print_none ?_
                rw [HTL.out, HO.out]
                rcases he with ⟨_, e⟩ | ⟨_, e⟩
                · rw [e]; intro h; injection h with h; injection h with h1 h2 h3 h4 h5 h6; injection h6 with h6 h7 h8 h9; exact HN (by assumption)
                · rw [e]; intro h; cases h
              rcases he with ⟨rfl, _⟩ | ⟨rfl, _⟩
              all_goals
                go_wp2_with fail
                go_ret2
                exact pp_none HNE.out W4.out
          · have HN : ¬ xck = ck := h4
            have hb4 : (xck == ck) = false := by rw [beq_eq_false_iff_ne]; exact h4
            have x0 := BX.out.cell 0
            have x1 := BX.out.cell 1
            have x2 := BX.out.cell 2
            have x3 := BX.out.cell 3
            have x4 := BX.out.cell 4
            have x5 := BX.out.cell 5
            have x6 := BX.out.cell 6
            have x7 := BX.out.cell 7
            have x8 := BX.out.cell 8
            have y0 := B4.out.cell 0
            have y1 := B4.out.cell 1
            have y2 := B4.out.cell 2
            have y3 := B4.out.cell 3
            have y4 := B4.out.cell 4
            have y5 := B4.out.cell 5
            have y6 := B4.out.cell 6
            have y7 := B4.out.cell 7
            have y8 := B4.out.cell 8
            simp only [List.getElem?_toArray] at x0 x1 x2 x3 x4 x5 x6 x7 x8 y0 y1 y2 y3 y4 y5 y6 y7 y8
            have HNE : Hid (printP ⟨k, cl, up, n, fs, ⟨ck, pg, sl, dt⟩⟩ = none) := by
              refine print_none ?_
              rw [HTL.out, HO.out]
              rcases he with ⟨_, e⟩ | ⟨_, e⟩
              · rw [e]; intro h; injection h with h; injection h with h1 h2 h3 h4 h5 h6; injection h6 with h6 h7 h8 h9; exact HN (by assumption)
              · rw [e]; intro h; cases h
            rcases he with ⟨rfl, _⟩ | ⟨rfl, _⟩
            all_goals
              go_wp2_with fail
              go_ret2
              exact pp_none HNE.out W4.out
        · have HN : ¬ xn = n := h3
          have hb3 : (xn == n) = false := by rw [beq_eq_false_iff_ne]; exact h3
          have x0 := BX.out.cell 0
          have x1 := BX.out.cell 1
          have x2 := BX.out.cell 2
          have x3 := BX.out.cell 3
          have x4 := BX.out.cell 4
          have x5 := BX.out.cell 5
          have x6 := BX.out.cell 6
          have x7 := BX.out.cell 7
          have x8 := BX.out.cell 8
          have y0 := B4.out.cell 0
          have y1 := B4.out.cell 1
          have y2 := B4.out.cell 2
          have y3 := B4.out.cell 3
          have y4 := B4.out.cell 4
          have y5 := B4.out.cell 5
          have y6 := B4.out.cell 6
          have y7 := B4.out.cell 7
          have y8 := B4.out.cell 8
          simp only [List.getElem?_toArray] at x0 x1 x2 x3 x4 x5 x6 x7 x8 y0 y1 y2 y3 y4 y5 y6 y7 y8
          have HNE : Hid (printP ⟨k, cl, up, n, fs, ⟨ck, pg, sl, dt⟩⟩ = none) := by
            refine print_none ?_
            rw [HTL.out, HO.out]
            rcases he with ⟨_, e⟩ | ⟨_, e⟩
            · rw [e]; intro h; injection h with h; injection h with h1 h2 h3 h4 h5 h6; injection h6 with h6 h7 h8 h9; exact HN (by assumption)
            · rw [e]; intro h; cases h
          rcases he with ⟨rfl, _⟩ | ⟨rfl, _⟩
          all_goals
            go_wp2_with fail
            go_ret2
            exact pp_none HNE.out W4.out
      · have HN : ¬ xu = up := h2
        have hb2 : (xu == up) = false := by rw [beq_eq_false_iff_ne]; exact h2
        have x0 := BX.out.cell 0
        have x1 := BX.out.cell 1
        have x2 := BX.out.cell 2
        have x3 := BX.out.cell 3
        have x4 := BX.out.cell 4
        have x5 := BX.out.cell 5
        have x6 := BX.out.cell 6
        have x7 := BX.out.cell 7
        have x8 := BX.out.cell 8
        have y0 := B4.out.cell 0
        have y1 := B4.out.cell 1
        have y2 := B4.out.cell 2
        have y3 := B4.out.cell 3
        have y4 := B4.out.cell 4
        have y5 := B4.out.cell 5
        have y6 := B4.out.cell 6
        have y7 := B4.out.cell 7
        have y8 := B4.out.cell 8
        simp only [List.getElem?_toArray] at x0 x1 x2 x3 x4 x5 x6 x7 x8 y0 y1 y2 y3 y4 y5 y6 y7 y8
        have HNE : Hid (printP ⟨k, cl, up, n, fs, ⟨ck, pg, sl, dt⟩⟩ = none) := by
          refine print_none ?_
          rw [HTL.out, HO.out]
          rcases he with ⟨_, e⟩ | ⟨_, e⟩
          · rw [e]; intro h; injection h with h; injection h with h1 h2 h3 h4 h5 h6; injection h6 with h6 h7 h8 h9; exact HN (by assumption)
          · rw [e]; intro h; cases h
        rcases he with ⟨rfl, _⟩ | ⟨rfl, _⟩
        all_goals
          go_wp2_with fail
          go_ret2
          exact pp_none HNE.out W4.out
    · have HN : ¬ xc = cl := h1
      have hb1 : (xc == cl) = false := by rw [beq_eq_false_iff_ne]; exact h1
      have x0 := BX.out.cell 0
      have x1 := BX.out.cell 1
      have x2 := BX.out.cell 2
      have x3 := BX.out.cell 3
      have x4 := BX.out.cell 4
      have x5 := BX.out.cell 5
      have x6 := BX.out.cell 6
      have x7 := BX.out.cell 7
      have x8 := BX.out.cell 8
      have y0 := B4.out.cell 0
      have y1 := B4.out.cell 1
      have y2 := B4.out.cell 2
      have y3 := B4.out.cell 3
      have y4 := B4.out.cell 4
      have y5 := B4.out.cell 5
      have y6 := B4.out.cell 6
      have y7 := B4.out.cell 7
      have y8 := B4.out.cell 8
      simp only [List.getElem?_toArray] at x0 x1 x2 x3 x4 x5 x6 x7 x8 y0 y1 y2 y3 y4 y5 y6 y7 y8
      have HNE : Hid (printP ⟨k, cl, up, n, fs, ⟨ck, pg, sl, dt⟩⟩ = none) := by
        refine print_none ?_
        rw [HTL.out, HO.out]
        rcases he with ⟨_, e⟩ | ⟨_, e⟩
        · rw [e]; intro h; injection h with h; injection h with h1 h2 h3 h4 h5 h6; injection h6 with h6 h7 h8 h9; exact HN (by assumption)
        · rw [e]; intro h; cases h
      rcases he with ⟨rfl, _⟩ | ⟨rfl, _⟩
      all_goals
        go_wp2_with fail
        go_ret2
        exact pp_none HNE.out W4.out
  · have HN : ¬ xk = k := h0
    have hb0 : (xk == k) = false := by rw [beq_eq_false_iff_ne]; exact h0
    have x0 := BX.out.cell 0
    have x1 := BX.out.cell 1
    have x2 := BX.out.cell 2
    have x3 := BX.out.cell 3
    have x4 := BX.out.cell 4
    have x5 := BX.out.cell 5
    have x6 := BX.out.cell 6
    have x7 := BX.out.cell 7
    have x8 := BX.out.cell 8
    have y0 := B4.out.cell 0
    have y1 := B4.out.cell 1
    have y2 := B4.out.cell 2
    have y3 := B4.out.cell 3
    have y4 := B4.out.cell 4
    have y5 := B4.out.cell 5
    have y6 := B4.out.cell 6
    have y7 := B4.out.cell 7
    have y8 := B4.out.cell 8
    simp only [List.getElem?_toArray] at x0 x1 x2 x3 x4 x5 x6 x7 x8 y0 y1 y2 y3 y4 y5 y6 y7 y8
    have HNE : Hid (printP ⟨k, cl, up, n, fs, ⟨ck, pg, sl, dt⟩⟩ = none) := by
      refine print_none ?_
      rw [HTL.out, HO.out]
      rcases he with ⟨_, e⟩ | ⟨_, e⟩
      · rw [e]; intro h; injection h with h; injection h with h1 h2 h3 h4 h5 h6; injection h6 with h6 h7 h8 h9; exact HN (by assumption)
      · rw [e]; intro h; cases h
    rcases he with ⟨rfl, _⟩ | ⟨rfl, _⟩
    all_goals
      go_wp2_with fail
      go_ret2
      exact pp_none HNE.out W4.out

end Go.Proofs.YtbikplckehbcnaaDoor
