/- tome.written: the walk. -/
import Derived.Test.YtbikplckehbcnaaDoorTmO
set_option linter.unusedVariables false
set_option linter.unusedSimpArgs false
namespace Go.Proofs.YtbikplckehbcnaaDoor
open Go Go.RowKit

/-- What a step's numbers and text are held to. -/
structure StOk (s : StepP) : Prop where
  k : inI s.kind
  c : inI s.client
  n : inI s.n
  ck : inI s.call.kind
  cp : inI s.call.page
  cs : inI s.call.slot
  d : s.call.data.length ≤ 1000000
  f : ∀ x ∈ s.fates, inI x
  fl : s.fates.length ≤ 1000000

theorem called_len (c : ClP) : (calledP c).length ≤ 4 := by
  unfold calledP
  simp only [List.length_append]
  have h : ∀ (b : Bool) (x : Bs), (if b then [x] else []).length ≤ 1 := fun b x => by cases b <;> simp
  have := h (pagedP c.kind) (Lib.itoa c.page)
  have := h (slotP c.kind) (Lib.itoa c.slot)
  have := h (dataP c.kind) (wordP c.data)
  simp only [List.length_singleton]
  omega
theorem called_pos (c : ClP) : 0 < (calledP c).length := by
  unfold calledP
  simp only [List.length_append, List.length_singleton]
  omega
theorem row_some {w : World} {base : Nat} {v : Value} {ws : List Bs} (h : w.ownsRow base 9 1 v ws.length (strC ws)) (hp : 0 < ws.length) : ∃ g c, v = .slice (some ⟨g, 0, none⟩) ws.length c ∧ base ≤ g ∧ g < w.heap.size ∧ ∀ (j : Nat) (y : Bs), ws[j]? = some y → w.cell? (Addr.add ⟨g, 0, none⟩ j) = some (.string (ba y)) := by
  obtain ⟨A, c, hv, hs⟩ := Strs.own h
  rcases h.2 with ⟨rfl, h0⟩ | ⟨g, cap, cur, rfl, hb, hg, _⟩
  · omega
  · obtain ⟨b, off, e1, hl, hc⟩ := hs hp
    injection hv with h1 h2 h3
    rw [e1] at h1
    injection h1 with h1
    injection h1 with h1 h4
    subst h1
    subst h4
    exact ⟨g, cap, rfl, hb, hl, fun j y hy => by rw [Addr.add_lit]; exact hc j y hy⟩

theorem rows_keep {u w5 : World} {g : Nat} {ws : List Bs} {row : Option Nat} {lo m : Nat} (hc : ∀ (j : Nat) (y : Bs), ws[j]? = some y → u.cell? (Addr.add ⟨g, 0, none⟩ j) = some (.string (ba y))) (hg : u.grownBy w5 row) (hlt : ∀ k, row = some k → lo ≤ k ∧ k < m) (h1 : m < g) (h2 : g < u.heap.size) :
    ∀ (j : Nat) (y : Bs), ws[j]? = some y → w5.cell? (Addr.add ⟨g, 0, none⟩ j) = some (.string (ba y)) := fun j y hy => by
  have := hc j y hy
  rw [Addr.add_lit] at this ⊢
  exact (World.cell?_of_block (hg.block g h2 (fun e => by have := hlt g e.symm; omega))).trans this
theorem rows_keep2 {u w5 : World} {o : Obj} {g : Nat} {ws : List Bs} {row : Option Nat} {lo m : Nat} (hc : ∀ (j : Nat) (y : Bs), ws[j]? = some y → u.cell? (Addr.add ⟨g, 0, none⟩ j) = some (.string (ba y))) (hg : (u.alloc o).grownBy w5 row) (hlt : ∀ k, row = some k → lo ≤ k ∧ k < m) (h1 : m < g) (h2 : g < u.heap.size) :
    ∀ (j : Nat) (y : Bs), ws[j]? = some y → w5.cell? (Addr.add ⟨g, 0, none⟩ j) = some (.string (ba y)) :=
  rows_keep (u := u.alloc o) (fun j y hy => by
    have := hc j y hy
    rw [Addr.add_lit] at this ⊢
    exact (World.cell?_of_block (Below.heap_alloc u o g h2)).trans this) hg hlt h1 (by simp; omega)
theorem word_keep (W : World) (x : Bs) {u : World} (hb : Below (W.alloc (.cells #[.string (ba x)] 9)).drew.heap.size (W.alloc (.cells #[.string (ba x)] 9)).drew u) (j : Nat) (z : Bs) (h : [x][j]? = some z) : u.cell? (Addr.add ⟨W.heap.size, 0, none⟩ j) = some (.string (ba z)) := by
  have := one_word W x j z h
  rw [Addr.add_lit] at this ⊢
  exact (hb.cell (p := ⟨W.heap.size, 0 + j, none⟩) (by simp)).trans this
theorem words1 (wr : World) (a : Bs) (j : Nat) (z : Bs) (h : [a][j]? = some z) : (wr.alloc (.cells #[.string (ba a)] 9)).cell? (Addr.add ⟨wr.heap.size, 0, none⟩ j) = some (.string (ba z)) := one_word wr a j z h
theorem words2 (wr : World) (a b : Bs) (j : Nat) (z : Bs) (h : [a, b][j]? = some z) : (wr.alloc (.cells #[.string (ba a), .string (ba b)] 9)).cell? (Addr.add ⟨wr.heap.size, 0, none⟩ j) = some (.string (ba z)) := by
  match j, h with
  | 0, h => obtain rfl : a = z := by simpa using h
            exact (Blk.new wr 9 #[.string (ba a), .string (ba b)]).cell 0
  | 1, h => obtain rfl : b = z := by simpa using h
            exact (Blk.new wr 9 #[.string (ba a), .string (ba b)]).cell 1
theorem words3 (wr : World) (a b c : Bs) (j : Nat) (z : Bs) (h : [a, b, c][j]? = some z) : (wr.alloc (.cells #[.string (ba a), .string (ba b), .string (ba c)] 9)).cell? (Addr.add ⟨wr.heap.size, 0, none⟩ j) = some (.string (ba z)) := by
  match j, h with
  | 0, h => obtain rfl : a = z := by simpa using h
            exact (Blk.new wr 9 #[.string (ba a), .string (ba b), .string (ba c)]).cell 0
  | 1, h => obtain rfl : b = z := by simpa using h
            exact (Blk.new wr 9 #[.string (ba a), .string (ba b), .string (ba c)]).cell 1
  | 2, h => obtain rfl : c = z := by simpa using h
            exact (Blk.new wr 9 #[.string (ba a), .string (ba b), .string (ba c)]).cell 2

set_option maxRecDepth 100000 in
set_option maxHeartbeats 16000000 in
theorem written_any (s : StepP) (vf : Value) (w : World) (hT : Tabs w) (hI : Ints w vf s.fates) (hs : StOk s) :
    Calls Tryd.prog 63 #[.agg (stC s vf)] w fun e w' => (∃ v, e = .returned v ∧ w'.ownsRow (w.heap.size + 1) 9 1 v (writtenP s).length (strC (writtenP s))) ∧ Below w.heap.size w w' := by
  obtain ⟨FA, fc, rfl, hI⟩ := hI
  obtain ⟨k, cl, up, n, fs, c⟩ := s
  have HOK := Lib.hid hs
  have hfl : fs.length ≤ 1000000 := hs.fl
  obtain ⟨fb, foff, hFA⟩ : ∃ b off, fs.length = 0 ∨ FA = some ⟨b, off, none⟩ := by
    rcases Nat.eq_zero_or_pos fs.length with hz | hz
    · exact ⟨0, 0, .inl hz⟩
    · obtain ⟨b, off, e, _⟩ := hI hz
      exact ⟨b, off, .inr e⟩
  have HI := Lib.hid hI
  have hT0 := hT.size
  have HT := Lib.hid hT
  have S0 : Hid (OSt w (w.alloc (.cells (stC ⟨k, cl, up, n, fs, c⟩ (.slice FA fs.length fc)) 60)) 60 (stC ⟨k, cl, up, n, fs, c⟩ (.slice FA fs.length fc)) (.slice none 0 0) []) :=
    ⟨Blk.new _ _ _, World.ownsRow_nil _ _ _ _, (Below.refl _ _).alloc (Nat.le_refl _) _, hT.below hT.size ((Below.refl _ _).alloc (Nat.le_refl _) _), hT.size, by decide⟩
  clear hs hT hI
  obtain ⟨ck, pg, sl, dt⟩ := c
  unfold stC at S0
  show Calls _ _ #[.agg #[.int .i64 k, .int .i64 cl, .bool up, .int .i64 n, .slice FA fs.length fc, .int .i64 ck, .int .i64 pg, .int .i64 sl, .string (ba dt)]] w _
  go_enter Tryd.func63, Tryd.ntmps63
  go_wp2_with fail
  refine (wordOf_any stepT_is k HOK.out.k.1 HOK.out.k.2 _ S0.out.tabs).mono ?_
  rintro e w1 ⟨rfl, b1⟩
  obtain ⟨y, hy⟩ : ∃ y, wordAt stepW k = y := ⟨_, rfl⟩
  rw [hy]
  have HY := Lib.hid hy
  have S1 : Hid (OSt w (w1.alloc (.cells #[.string (ba y)] 9)) 60 #[.int .i64 k, .int .i64 cl, .bool up, .int .i64 n, .slice FA fs.length fc, .int .i64 ck, .int .i64 pg, .int .i64 sl, .string (ba dt)] (.slice (some ⟨w1.heap.size, 0, none⟩) 1 1) [y]) := by
    have h := (S0.out.below b1).alloc (.cells #[.string (ba y)] 9)
    exact ⟨h.x, ⟨rfl, .inr ⟨w1.heap.size, 1, _, rfl, (S0.out.below b1).base, Blk.new _ _ _, Nat.le_refl _, by decide, rfl, rfl⟩⟩, h.fr, h.tabs, h.h8, h.ht⟩
  clear b1 hy S0 HT
  go_upto_region 2 with fail
  revert S1
  generalize w1.alloc (.cells #[.string (ba y)] 9) = W1
  generalize Value.slice (some ⟨w1.heap.size, 0, none⟩) 1 1 = v1
  intro S1
  have x1 := S1.out.x.cell 1
  have x3 := S1.out.x.cell 3
  have x1d := S1.out.drew.x.cell 1
  have x3d := S1.out.drew.x.cell 3
  simp only [List.getElem?_toArray] at x1 x3 x1d x3d
  have HCL : Hid (inI cl) := HOK.out.c
  have HNN : Hid (inI n) := HOK.out.n
  go_cut [4, 5] (fun a b wx => a = .string (ba (Lib.itoa cl)) ∧ b = .string (ba (Lib.itoa n)) ∧ Below W1.heap.size W1 wx)
  case first =>
    go_region_law (first
      | (go_simp; go_at_call 83; refine (itoa_any cl HCL.out.1 HCL.out.2 _ (by first | exact P5.out.tabs | exact S1.out.drew.tabs)).mono ?_; rintro e u5 ⟨rfl, b5⟩
         first | have P6 := Lib.hid (P5.out.below b5) | have P5 := Lib.hid (S1.out.drew.below b5)
         first | have p61 := P6.out.x.cell 1 | have p51 := P5.out.x.cell 1
         first | have p63 := P6.out.x.cell 3 | have p53 := P5.out.x.cell 3
         first | simp only [List.getElem?_toArray] at p61 p63 | simp only [List.getElem?_toArray] at p51 p53
         first | have K6 := Lib.hid (K5.out.trans (b5.mono K5.out.size)) | have K5 := Lib.hid (((Below.refl W1.heap.size W1).drew).trans b5)
         clear b5)
      | (go_simp; go_at_call 83; refine (itoa_any n HNN.out.1 HNN.out.2 _ (by first | exact P5.out.tabs | exact S1.out.drew.tabs)).mono ?_; rintro e u5 ⟨rfl, b5⟩
         first | have P6 := Lib.hid (P5.out.below b5) | have P5 := Lib.hid (S1.out.drew.below b5)
         first | have p61 := P6.out.x.cell 1 | have p51 := P5.out.x.cell 1
         first | have p63 := P6.out.x.cell 3 | have p53 := P5.out.x.cell 3
         first | simp only [List.getElem?_toArray] at p61 p63 | simp only [List.getElem?_toArray] at p51 p53
         first | have K6 := Lib.hid (K5.out.trans (b5.mono K5.out.size)) | have K5 := Lib.hid (((Below.refl W1.heap.size W1).drew).trans b5)
         clear b5))
    all_goals (go_wp2_with fail; go_meet)
    all_goals exact ⟨rfl, rfl, K6.out⟩
  case rest =>
    obtain ⟨rfl, rfl, hB2⟩ := hcut
    have S2 := Lib.hid (S1.out.below hB2)
    clear hB2 x1 x3 x1d x3d S1
    have x0 := S2.out.x.cell 0
    have x1 := S2.out.x.cell 1
    have x2 := S2.out.x.cell 2
    have x3 := S2.out.x.cell 3
    have x4 := S2.out.x.cell 4
    have x5 := S2.out.x.cell 5
    have x6 := S2.out.x.cell 6
    have x7 := S2.out.x.cell 7
    have x8 := S2.out.x.cell 8
    simp only [List.getElem?_toArray] at x0 x1 x2 x3 x4 x5 x6 x7 x8
    have hks : k < 1 ∨ k = 1 ∨ k = 2 ∨ k = 3 ∨ k = 4 ∨ k = 5 ∨ k = 6 ∨ k = 7 ∨ k = 8 ∨ 8 < k := by omega
    rcases hks with hk | hk | hk | hk | hk | hk | hk | hk | hk | hk
    · cases up
      · have HWR : Hid (writtenP ⟨k, cl, false, n, fs, ⟨ck, pg, sl, dt⟩⟩ = [y] ++ fs.map Lib.itoa) := by
          have e1 : ¬ (k = 1) := by omega
          have e2 : ¬ (k = 2 ∨ k = 3 ∨ k = 4) := by omega
          have e3 : ¬ (k = 5 ∨ k = 8) := by omega
          have e4 : ¬ (k = 6 ∨ k = 7) := by omega
          unfold Hid; rw [← HY.out]; simp [writtenP, restP, e1, e2, e3, e4]
        have e1 : (k == 1) = false := by rw [beq_eq_false_iff_ne]; omega
        have e2 : (k == 2) = false := by rw [beq_eq_false_iff_ne]; omega
        have e3 : (k == 3) = false := by rw [beq_eq_false_iff_ne]; omega
        have e4 : (k == 4) = false := by rw [beq_eq_false_iff_ne]; omega
        have e5 : (k == 5) = false := by rw [beq_eq_false_iff_ne]; omega
        have e6 : (k == 6) = false := by rw [beq_eq_false_iff_ne]; omega
        have e7 : (k == 7) = false := by rw [beq_eq_false_iff_ne]; omega
        have e8 : (k == 8) = false := by rw [beq_eq_false_iff_ne]; omega
        have HWL : Hid ([y].length ≤ 10) := by unfold Hid; simp
        go_wp2_with fail
        clear x0 x1 x2 x3 x4 x5 x6 x7 x8
        go_loopw [3, 61] (fun vo vi wr => ∃ j : Nat, vi = .int .i64 j ∧ j ≤ fs.length ∧ Hid (OSt w wr 60 #[.int .i64 k, .int .i64 cl, .bool false, .int .i64 n, .slice FA fs.length fc, .int .i64 ck, .int .i64 pg, .int .i64 sl, .string (ba dt)] vo ([y] ++ (fs.take j).map Lib.itoa))) (fun _ vi _ => fs.length - (intOf vi).toNat)
        case atStart => exact ⟨0, rfl, by omega, by rw [List.take_zero, List.map_nil, List.append_nil]; exact S2.out⟩
        case round =>
          obtain ⟨j, rfl, hj, hP⟩ := hrel
          by_cases hlt : j < fs.length
          · obtain ⟨f, hf⟩ : ∃ f, fs[j]? = some f := ⟨_, List.getElem?_eq_getElem hlt⟩
            rcases hFA with hz | rfl
            · omega
            obtain ⟨b', off', e', hbw, hc⟩ := HI.out (by omega)
            obtain ⟨rfl, rfl⟩ : fb = b' ∧ foff = off' := by injection e' with e1; injection e1 with e1 e2; exact ⟨e1, e2⟩
            have hcell := (hP.out.fr.cell (p := ⟨fb, foff + j, none⟩) hbw).trans (hc j f hf)
            have HF := Lib.hid (HOK.out.f f (List.mem_of_getElem? hf))
            have HTK : Hid ((fs.take (j + 1)).map Lib.itoa = (fs.take j).map Lib.itoa ++ [Lib.itoa f]) := by unfold Hid; rw [List.take_add_one, hf]; simp
            clear hc e' hf
            go_wp2_with fail
            refine (itoa_any f HF.out.1 HF.out.2 _ hP.out.tabs).mono ?_
            rintro e w9 ⟨rfl, b9⟩
            have P9 := Lib.hid (hP.out.below b9)
            have HL9 : Hid (([y] ++ (fs.take j).map Lib.itoa).length ≤ 1048576) := by unfold Hid; rw [List.length_append, List.length_map, List.length_take]; have := HWL.out; omega
            clear b9 hcell
            go_wp2_with (at_builtin; refine wpList_appStr rfl _ _ rfl (w.heap.size + 1) _ _ rfl (P9.out.alloc _).own ⟨w9.heap.size, 0, none⟩ [Lib.itoa f] 1 1 rfl rfl (one_word _ _) HL9.out (by simp) (by have := P9.out.base; simp; omega) ?_; intro t9 q9 ho9 hg9; have Q9 := Lib.hid ((P9.out.alloc (.cells #[.string (ba (Lib.itoa f))] 9)).grown ho9 hg9); clear ho9 hg9)
            go_roundw
            case rel => exact ⟨j + 1, by go_num, by omega, by rw [HTK.out, ← List.append_assoc]; exact Q9.out⟩
            case measure => simp [intOf]; omega
          · obtain rfl : j = fs.length := by omega
            have HX := Lib.hid hP.out
            clear hP
            go_wp2_with fail
            go_ret
            refine ⟨⟨_, rfl, ?_⟩, HX.out.fr⟩
            rw [HWR.out]
            have h9 := HX.out.own
            rw [List.take_length] at h9
            exact h9
      · have HWR : Hid (writtenP ⟨k, cl, true, n, fs, ⟨ck, pg, sl, dt⟩⟩ = [y] ++ fs.map Lib.itoa) := by
          have e1 : ¬ (k = 1) := by omega
          have e2 : ¬ (k = 2 ∨ k = 3 ∨ k = 4) := by omega
          have e3 : ¬ (k = 5 ∨ k = 8) := by omega
          have e4 : ¬ (k = 6 ∨ k = 7) := by omega
          unfold Hid; rw [← HY.out]; simp [writtenP, restP, e1, e2, e3, e4]
        have e1 : (k == 1) = false := by rw [beq_eq_false_iff_ne]; omega
        have e2 : (k == 2) = false := by rw [beq_eq_false_iff_ne]; omega
        have e3 : (k == 3) = false := by rw [beq_eq_false_iff_ne]; omega
        have e4 : (k == 4) = false := by rw [beq_eq_false_iff_ne]; omega
        have e5 : (k == 5) = false := by rw [beq_eq_false_iff_ne]; omega
        have e6 : (k == 6) = false := by rw [beq_eq_false_iff_ne]; omega
        have e7 : (k == 7) = false := by rw [beq_eq_false_iff_ne]; omega
        have e8 : (k == 8) = false := by rw [beq_eq_false_iff_ne]; omega
        have HWL : Hid ([y].length ≤ 10) := by unfold Hid; simp
        go_wp2_with fail
        clear x0 x1 x2 x3 x4 x5 x6 x7 x8
        go_loopw [3, 61] (fun vo vi wr => ∃ j : Nat, vi = .int .i64 j ∧ j ≤ fs.length ∧ Hid (OSt w wr 60 #[.int .i64 k, .int .i64 cl, .bool true, .int .i64 n, .slice FA fs.length fc, .int .i64 ck, .int .i64 pg, .int .i64 sl, .string (ba dt)] vo ([y] ++ (fs.take j).map Lib.itoa))) (fun _ vi _ => fs.length - (intOf vi).toNat)
        case atStart => exact ⟨0, rfl, by omega, by rw [List.take_zero, List.map_nil, List.append_nil]; exact S2.out⟩
        case round =>
          obtain ⟨j, rfl, hj, hP⟩ := hrel
          by_cases hlt : j < fs.length
          · obtain ⟨f, hf⟩ : ∃ f, fs[j]? = some f := ⟨_, List.getElem?_eq_getElem hlt⟩
            rcases hFA with hz | rfl
            · omega
            obtain ⟨b', off', e', hbw, hc⟩ := HI.out (by omega)
            obtain ⟨rfl, rfl⟩ : fb = b' ∧ foff = off' := by injection e' with e1; injection e1 with e1 e2; exact ⟨e1, e2⟩
            have hcell := (hP.out.fr.cell (p := ⟨fb, foff + j, none⟩) hbw).trans (hc j f hf)
            have HF := Lib.hid (HOK.out.f f (List.mem_of_getElem? hf))
            have HTK : Hid ((fs.take (j + 1)).map Lib.itoa = (fs.take j).map Lib.itoa ++ [Lib.itoa f]) := by unfold Hid; rw [List.take_add_one, hf]; simp
            clear hc e' hf
            go_wp2_with fail
            refine (itoa_any f HF.out.1 HF.out.2 _ hP.out.tabs).mono ?_
            rintro e w9 ⟨rfl, b9⟩
            have P9 := Lib.hid (hP.out.below b9)
            have HL9 : Hid (([y] ++ (fs.take j).map Lib.itoa).length ≤ 1048576) := by unfold Hid; rw [List.length_append, List.length_map, List.length_take]; have := HWL.out; omega
            clear b9 hcell
            go_wp2_with (at_builtin; refine wpList_appStr rfl _ _ rfl (w.heap.size + 1) _ _ rfl (P9.out.alloc _).own ⟨w9.heap.size, 0, none⟩ [Lib.itoa f] 1 1 rfl rfl (one_word _ _) HL9.out (by simp) (by have := P9.out.base; simp; omega) ?_; intro t9 q9 ho9 hg9; have Q9 := Lib.hid ((P9.out.alloc (.cells #[.string (ba (Lib.itoa f))] 9)).grown ho9 hg9); clear ho9 hg9)
            go_roundw
            case rel => exact ⟨j + 1, by go_num, by omega, by rw [HTK.out, ← List.append_assoc]; exact Q9.out⟩
            case measure => simp [intOf]; omega
          · obtain rfl : j = fs.length := by omega
            have HX := Lib.hid hP.out
            clear hP
            go_wp2_with fail
            go_ret
            refine ⟨⟨_, rfl, ?_⟩, HX.out.fr⟩
            rw [HWR.out]
            have h9 := HX.out.own
            rw [List.take_length] at h9
            exact h9
    · subst hk
      cases up
      · have HWR : Hid (writtenP ⟨1, cl, false, n, fs, ⟨ck, pg, sl, dt⟩⟩ = ([y] ++ [Lib.itoa cl] ++ calledP ⟨ck, pg, sl, dt⟩) ++ fs.map Lib.itoa) := by unfold Hid; rw [← HY.out]; simp [writtenP, restP]
        have HWL : Hid (([y] ++ [Lib.itoa cl] ++ calledP ⟨ck, pg, sl, dt⟩).length ≤ 10) := by unfold Hid; have := called_len ⟨ck, pg, sl, dt⟩; simp; omega
        go_wp2_with fail
        clear x0 x1 x2 x3 x4
        have xd5 := S2.out.drew.x.cell 5
        have xd6 := S2.out.drew.x.cell 6
        have xd7 := S2.out.drew.x.cell 7
        have xd8 := S2.out.drew.x.cell 8
        have xe5 := ((S2.out.alloc (.cells #[.string (ba (Lib.itoa cl))] 9)).drew).x.cell 5
        have xe6 := ((S2.out.alloc (.cells #[.string (ba (Lib.itoa cl))] 9)).drew).x.cell 6
        have xe7 := ((S2.out.alloc (.cells #[.string (ba (Lib.itoa cl))] 9)).drew).x.cell 7
        have xe8 := ((S2.out.alloc (.cells #[.string (ba (Lib.itoa cl))] 9)).drew).x.cell 8
        simp only [List.getElem?_toArray] at xd5 xd6 xd7 xd8 xe5 xe6 xe7 xe8
        go_region_law (first
          | (refine step_appStr rfl _ _ rfl (w.heap.size + 1) v1 [y] rfl ?ho1 _ [Lib.itoa cl] 1 1 rfl rfl ?hc1 (by simp) (by simp) ?hl1 ?_
             case ho1 => first | exact ((S2.out.alloc _).drew).own | exact (U6.out.alloc _).own | exact U6.out.own
             case hc1 => first | exact one_word _ _ | exact C6.out | exact fun j z h => one_word wc (Lib.itoa cl) j z h | exact fun j z h => one_word u6 (Lib.itoa cl) j z h
             case hl1 => first | exact ((S2.out.alloc _).drew).base | exact (U6.out.alloc _).base | exact U6.out.base
             intro v5 w5 ho5 hg5
             first | have Q5 := Lib.hid (((S2.out.alloc (.cells #[.string (ba (Lib.itoa cl))] 9)).drew).grown ho5 hg5) | have Q5 := Lib.hid ((U6.out.alloc (.cells #[.string (ba (Lib.itoa cl))] 9)).grown ho5 hg5) | have Q5 := Lib.hid (U6.out.grown ho5 hg5)
             have q55 := Q5.out.x.cell 5
             have q56 := Q5.out.x.cell 6
             have q57 := Q5.out.x.cell 7
             have q58 := Q5.out.x.cell 8
             simp only [List.getElem?_toArray] at q55 q56 q57 q58
             first | have K5 := Lib.hid (rows_keep2 HCC.out hg5 (S2.out.own.lt) HGC.out.1 HGC.out.2) | have K5 := Lib.hid (rows_keep HCC.out hg5 (S2.out.own.lt) HGC.out.1 HGC.out.2) | skip
             clear ho5 hg5)
          | (go_simp; go_at_call 94; refine (called_any ⟨ck, pg, sl, dt⟩ HOK.out.ck HOK.out.cp HOK.out.cs HOK.out.d _ (by first | exact Q5.out.tabs | exact ((S2.out.alloc _).drew).tabs | exact S2.out.drew.tabs)).mono ?_; rintro e u6 ⟨⟨vC, rfl, hoC⟩, b6⟩
             obtain ⟨gC, cC, rfl, hgC, hlC, hcC⟩ := row_some hoC (called_pos _)
             have HCC := Lib.hid hcC
             first | have HGC : Hid (wc.heap.size < gC ∧ gC < u6.heap.size) := ⟨by have := Q5.out.base; have := S2.out.base; simp at hgC; omega, hlC⟩ | have HGC : Hid (wc.heap.size < gC ∧ gC < u6.heap.size) := ⟨by simp at hgC; omega, hlC⟩ | have HGC := Lib.hid (And.intro hgC hlC)
             first | have U6 := Lib.hid (Q5.out.below b6) | (have U6 := Lib.hid (((S2.out.alloc (.cells #[.string (ba (Lib.itoa cl))] 9)).drew).below b6); have C6 := Lib.hid (word_keep wc (Lib.itoa cl) b6)) | have U6 := Lib.hid (S2.out.drew.below b6)
             clear hcC hoC b6 hgC hlC)
          | (refine step_appStr rfl _ _ rfl (w.heap.size + 1) v5 ([y] ++ [Lib.itoa cl]) rfl ?ho2 ⟨gC, 0, none⟩ (calledP ⟨ck, pg, sl, dt⟩) _ cC rfl rfl ?hc2 (by simp) (by have := called_len ⟨ck, pg, sl, dt⟩; omega) ?hl2 ?_
             case ho2 => first | exact U6.out.own | exact Q5.out.own
             case hc2 => first | exact HCC.out | exact K5.out
             case hl2 => first | exact U6.out.base | exact Q5.out.base
             intro v7 w7 ho7 hg7
             first | have Z9 := Lib.hid (U6.out.grown ho7 hg7) | have Z9 := Lib.hid (Q5.out.grown ho7 hg7)
             clear ho7 hg7))
        all_goals
          have S3 := Lib.hid Z9.out
          clear xd5 xd6 xd7 xd8 xe5 xe6 xe7 xe8 x5 x6 x7 x8 Z9 q55 q56 q57 q58
          try clear U6
          try clear Q5
          have x4 := S3.out.x.cell 4
          simp only [List.getElem?_toArray] at x4
          go_wp2_with fail
          clear x4
          go_loopw [3, 61] (fun vo vi wr => ∃ j : Nat, vi = .int .i64 j ∧ j ≤ fs.length ∧ Hid (OSt w wr 60 #[.int .i64 1, .int .i64 cl, .bool false, .int .i64 n, .slice FA fs.length fc, .int .i64 ck, .int .i64 pg, .int .i64 sl, .string (ba dt)] vo (([y] ++ [Lib.itoa cl] ++ calledP ⟨ck, pg, sl, dt⟩) ++ (fs.take j).map Lib.itoa))) (fun _ vi _ => fs.length - (intOf vi).toNat)
          case atStart => exact ⟨0, rfl, by omega, by rw [List.take_zero, List.map_nil, List.append_nil]; exact S3.out⟩
          case round =>
            obtain ⟨j, rfl, hj, hP⟩ := hrel
            by_cases hlt : j < fs.length
            · obtain ⟨f, hf⟩ : ∃ f, fs[j]? = some f := ⟨_, List.getElem?_eq_getElem hlt⟩
              rcases hFA with hz | rfl
              · omega
              obtain ⟨b', off', e', hbw, hc⟩ := HI.out (by omega)
              obtain ⟨rfl, rfl⟩ : fb = b' ∧ foff = off' := by injection e' with e1; injection e1 with e1 e2; exact ⟨e1, e2⟩
              have hcell := (hP.out.fr.cell (p := ⟨fb, foff + j, none⟩) hbw).trans (hc j f hf)
              have HF := Lib.hid (HOK.out.f f (List.mem_of_getElem? hf))
              have HTK : Hid ((fs.take (j + 1)).map Lib.itoa = (fs.take j).map Lib.itoa ++ [Lib.itoa f]) := by unfold Hid; rw [List.take_add_one, hf]; simp
              clear hc e' hf
              go_wp2_with fail
              refine (itoa_any f HF.out.1 HF.out.2 _ hP.out.tabs).mono ?_
              rintro e w9 ⟨rfl, b9⟩
              have P9 := Lib.hid (hP.out.below b9)
              have HL9 : Hid ((([y] ++ [Lib.itoa cl] ++ calledP ⟨ck, pg, sl, dt⟩) ++ (fs.take j).map Lib.itoa).length ≤ 1048576) := by unfold Hid; rw [List.length_append, List.length_map, List.length_take]; have := HWL.out; omega
              clear b9 hcell
              go_wp2_with (at_builtin; refine wpList_appStr rfl _ _ rfl (w.heap.size + 1) _ _ rfl (P9.out.alloc _).own ⟨w9.heap.size, 0, none⟩ [Lib.itoa f] 1 1 rfl rfl (one_word _ _) HL9.out (by simp) (by have := P9.out.base; simp; omega) ?_; intro t9 q9 ho9 hg9; have Q9 := Lib.hid ((P9.out.alloc (.cells #[.string (ba (Lib.itoa f))] 9)).grown ho9 hg9); clear ho9 hg9)
              go_roundw
              case rel => exact ⟨j + 1, by go_num, by omega, by rw [HTK.out, ← List.append_assoc]; exact Q9.out⟩
              case measure => simp [intOf]; omega
            · obtain rfl : j = fs.length := by omega
              have HX := Lib.hid hP.out
              clear hP
              go_wp2_with fail
              go_ret
              refine ⟨⟨_, rfl, ?_⟩, HX.out.fr⟩
              rw [HWR.out]
              have h9 := HX.out.own
              rw [List.take_length] at h9
              exact h9
      · have HWR : Hid (writtenP ⟨1, cl, true, n, fs, ⟨ck, pg, sl, dt⟩⟩ = ([y] ++ [Lib.itoa cl] ++ calledP ⟨ck, pg, sl, dt⟩) ++ fs.map Lib.itoa) := by unfold Hid; rw [← HY.out]; simp [writtenP, restP]
        have HWL : Hid (([y] ++ [Lib.itoa cl] ++ calledP ⟨ck, pg, sl, dt⟩).length ≤ 10) := by unfold Hid; have := called_len ⟨ck, pg, sl, dt⟩; simp; omega
        go_wp2_with fail
        clear x0 x1 x2 x3 x4
        have xd5 := S2.out.drew.x.cell 5
        have xd6 := S2.out.drew.x.cell 6
        have xd7 := S2.out.drew.x.cell 7
        have xd8 := S2.out.drew.x.cell 8
        have xe5 := ((S2.out.alloc (.cells #[.string (ba (Lib.itoa cl))] 9)).drew).x.cell 5
        have xe6 := ((S2.out.alloc (.cells #[.string (ba (Lib.itoa cl))] 9)).drew).x.cell 6
        have xe7 := ((S2.out.alloc (.cells #[.string (ba (Lib.itoa cl))] 9)).drew).x.cell 7
        have xe8 := ((S2.out.alloc (.cells #[.string (ba (Lib.itoa cl))] 9)).drew).x.cell 8
        simp only [List.getElem?_toArray] at xd5 xd6 xd7 xd8 xe5 xe6 xe7 xe8
        go_region_law (first
          | (refine step_appStr rfl _ _ rfl (w.heap.size + 1) v1 [y] rfl ?ho1 _ [Lib.itoa cl] 1 1 rfl rfl ?hc1 (by simp) (by simp) ?hl1 ?_
             case ho1 => first | exact ((S2.out.alloc _).drew).own | exact (U6.out.alloc _).own | exact U6.out.own
             case hc1 => first | exact one_word _ _ | exact C6.out | exact fun j z h => one_word wc (Lib.itoa cl) j z h | exact fun j z h => one_word u6 (Lib.itoa cl) j z h
             case hl1 => first | exact ((S2.out.alloc _).drew).base | exact (U6.out.alloc _).base | exact U6.out.base
             intro v5 w5 ho5 hg5
             first | have Q5 := Lib.hid (((S2.out.alloc (.cells #[.string (ba (Lib.itoa cl))] 9)).drew).grown ho5 hg5) | have Q5 := Lib.hid ((U6.out.alloc (.cells #[.string (ba (Lib.itoa cl))] 9)).grown ho5 hg5) | have Q5 := Lib.hid (U6.out.grown ho5 hg5)
             have q55 := Q5.out.x.cell 5
             have q56 := Q5.out.x.cell 6
             have q57 := Q5.out.x.cell 7
             have q58 := Q5.out.x.cell 8
             simp only [List.getElem?_toArray] at q55 q56 q57 q58
             first | have K5 := Lib.hid (rows_keep2 HCC.out hg5 (S2.out.own.lt) HGC.out.1 HGC.out.2) | have K5 := Lib.hid (rows_keep HCC.out hg5 (S2.out.own.lt) HGC.out.1 HGC.out.2) | skip
             clear ho5 hg5)
          | (go_simp; go_at_call 94; refine (called_any ⟨ck, pg, sl, dt⟩ HOK.out.ck HOK.out.cp HOK.out.cs HOK.out.d _ (by first | exact Q5.out.tabs | exact ((S2.out.alloc _).drew).tabs | exact S2.out.drew.tabs)).mono ?_; rintro e u6 ⟨⟨vC, rfl, hoC⟩, b6⟩
             obtain ⟨gC, cC, rfl, hgC, hlC, hcC⟩ := row_some hoC (called_pos _)
             have HCC := Lib.hid hcC
             first | have HGC : Hid (wc.heap.size < gC ∧ gC < u6.heap.size) := ⟨by have := Q5.out.base; have := S2.out.base; simp at hgC; omega, hlC⟩ | have HGC : Hid (wc.heap.size < gC ∧ gC < u6.heap.size) := ⟨by simp at hgC; omega, hlC⟩ | have HGC := Lib.hid (And.intro hgC hlC)
             first | have U6 := Lib.hid (Q5.out.below b6) | (have U6 := Lib.hid (((S2.out.alloc (.cells #[.string (ba (Lib.itoa cl))] 9)).drew).below b6); have C6 := Lib.hid (word_keep wc (Lib.itoa cl) b6)) | have U6 := Lib.hid (S2.out.drew.below b6)
             clear hcC hoC b6 hgC hlC)
          | (refine step_appStr rfl _ _ rfl (w.heap.size + 1) v5 ([y] ++ [Lib.itoa cl]) rfl ?ho2 ⟨gC, 0, none⟩ (calledP ⟨ck, pg, sl, dt⟩) _ cC rfl rfl ?hc2 (by simp) (by have := called_len ⟨ck, pg, sl, dt⟩; omega) ?hl2 ?_
             case ho2 => first | exact U6.out.own | exact Q5.out.own
             case hc2 => first | exact HCC.out | exact K5.out
             case hl2 => first | exact U6.out.base | exact Q5.out.base
             intro v7 w7 ho7 hg7
             first | have Z9 := Lib.hid (U6.out.grown ho7 hg7) | have Z9 := Lib.hid (Q5.out.grown ho7 hg7)
             clear ho7 hg7))
        all_goals
          have S3 := Lib.hid Z9.out
          clear xd5 xd6 xd7 xd8 xe5 xe6 xe7 xe8 x5 x6 x7 x8 Z9 q55 q56 q57 q58
          try clear U6
          try clear Q5
          have x4 := S3.out.x.cell 4
          simp only [List.getElem?_toArray] at x4
          go_wp2_with fail
          clear x4
          go_loopw [3, 61] (fun vo vi wr => ∃ j : Nat, vi = .int .i64 j ∧ j ≤ fs.length ∧ Hid (OSt w wr 60 #[.int .i64 1, .int .i64 cl, .bool true, .int .i64 n, .slice FA fs.length fc, .int .i64 ck, .int .i64 pg, .int .i64 sl, .string (ba dt)] vo (([y] ++ [Lib.itoa cl] ++ calledP ⟨ck, pg, sl, dt⟩) ++ (fs.take j).map Lib.itoa))) (fun _ vi _ => fs.length - (intOf vi).toNat)
          case atStart => exact ⟨0, rfl, by omega, by rw [List.take_zero, List.map_nil, List.append_nil]; exact S3.out⟩
          case round =>
            obtain ⟨j, rfl, hj, hP⟩ := hrel
            by_cases hlt : j < fs.length
            · obtain ⟨f, hf⟩ : ∃ f, fs[j]? = some f := ⟨_, List.getElem?_eq_getElem hlt⟩
              rcases hFA with hz | rfl
              · omega
              obtain ⟨b', off', e', hbw, hc⟩ := HI.out (by omega)
              obtain ⟨rfl, rfl⟩ : fb = b' ∧ foff = off' := by injection e' with e1; injection e1 with e1 e2; exact ⟨e1, e2⟩
              have hcell := (hP.out.fr.cell (p := ⟨fb, foff + j, none⟩) hbw).trans (hc j f hf)
              have HF := Lib.hid (HOK.out.f f (List.mem_of_getElem? hf))
              have HTK : Hid ((fs.take (j + 1)).map Lib.itoa = (fs.take j).map Lib.itoa ++ [Lib.itoa f]) := by unfold Hid; rw [List.take_add_one, hf]; simp
              clear hc e' hf
              go_wp2_with fail
              refine (itoa_any f HF.out.1 HF.out.2 _ hP.out.tabs).mono ?_
              rintro e w9 ⟨rfl, b9⟩
              have P9 := Lib.hid (hP.out.below b9)
              have HL9 : Hid ((([y] ++ [Lib.itoa cl] ++ calledP ⟨ck, pg, sl, dt⟩) ++ (fs.take j).map Lib.itoa).length ≤ 1048576) := by unfold Hid; rw [List.length_append, List.length_map, List.length_take]; have := HWL.out; omega
              clear b9 hcell
              go_wp2_with (at_builtin; refine wpList_appStr rfl _ _ rfl (w.heap.size + 1) _ _ rfl (P9.out.alloc _).own ⟨w9.heap.size, 0, none⟩ [Lib.itoa f] 1 1 rfl rfl (one_word _ _) HL9.out (by simp) (by have := P9.out.base; simp; omega) ?_; intro t9 q9 ho9 hg9; have Q9 := Lib.hid ((P9.out.alloc (.cells #[.string (ba (Lib.itoa f))] 9)).grown ho9 hg9); clear ho9 hg9)
              go_roundw
              case rel => exact ⟨j + 1, by go_num, by omega, by rw [HTK.out, ← List.append_assoc]; exact Q9.out⟩
              case measure => simp [intOf]; omega
            · obtain rfl : j = fs.length := by omega
              have HX := Lib.hid hP.out
              clear hP
              go_wp2_with fail
              go_ret
              refine ⟨⟨_, rfl, ?_⟩, HX.out.fr⟩
              rw [HWR.out]
              have h9 := HX.out.own
              rw [List.take_length] at h9
              exact h9
    · subst hk
      cases up
      · have HWR : Hid (writtenP ⟨2, cl, false, n, fs, ⟨ck, pg, sl, dt⟩⟩ = ([y] ++ [downW, Lib.itoa cl, Lib.itoa n]) ++ fs.map Lib.itoa) := by unfold Hid; rw [← HY.out]; rfl
        have HWL : Hid (([y] ++ [downW, Lib.itoa cl, Lib.itoa n]).length ≤ 10) := by unfold Hid; simp
        go_wp2_with (at_builtin; refine wpList_appStr rfl _ _ rfl (w.heap.size + 1) _ [y] rfl (S2.out.alloc _).own ⟨wc.heap.size, 0, none⟩ [downW, Lib.itoa cl, Lib.itoa n] 3 3 rfl rfl (words3 _ _ _ _) (by simp) (by simp) (by have := S2.out.base; simp; omega) ?_; intro t5 q5 ho5 hg5; have Q5 := Lib.hid ((S2.out.alloc (.cells #[.string (ba (downW)), .string (ba (Lib.itoa cl)), .string (ba (Lib.itoa n))] 9)).grown ho5 hg5); have z4 := Q5.out.x.cell 4; simp only [List.getElem?_toArray] at z4; clear ho5 hg5)
        clear z4 x0 x1 x2 x3 x4 x5 x6 x7 x8
        go_loopw [3, 61] (fun vo vi wr => ∃ j : Nat, vi = .int .i64 j ∧ j ≤ fs.length ∧ Hid (OSt w wr 60 #[.int .i64 2, .int .i64 cl, .bool false, .int .i64 n, .slice FA fs.length fc, .int .i64 ck, .int .i64 pg, .int .i64 sl, .string (ba dt)] vo (([y] ++ [downW, Lib.itoa cl, Lib.itoa n]) ++ (fs.take j).map Lib.itoa))) (fun _ vi _ => fs.length - (intOf vi).toNat)
        case atStart => exact ⟨0, rfl, by omega, by rw [List.take_zero, List.map_nil, List.append_nil]; exact Q5.out⟩
        case round =>
          obtain ⟨j, rfl, hj, hP⟩ := hrel
          by_cases hlt : j < fs.length
          · obtain ⟨f, hf⟩ : ∃ f, fs[j]? = some f := ⟨_, List.getElem?_eq_getElem hlt⟩
            rcases hFA with hz | rfl
            · omega
            obtain ⟨b', off', e', hbw, hc⟩ := HI.out (by omega)
            obtain ⟨rfl, rfl⟩ : fb = b' ∧ foff = off' := by injection e' with e1; injection e1 with e1 e2; exact ⟨e1, e2⟩
            have hcell := (hP.out.fr.cell (p := ⟨fb, foff + j, none⟩) hbw).trans (hc j f hf)
            have HF := Lib.hid (HOK.out.f f (List.mem_of_getElem? hf))
            have HTK : Hid ((fs.take (j + 1)).map Lib.itoa = (fs.take j).map Lib.itoa ++ [Lib.itoa f]) := by unfold Hid; rw [List.take_add_one, hf]; simp
            clear hc e' hf
            go_wp2_with fail
            refine (itoa_any f HF.out.1 HF.out.2 _ hP.out.tabs).mono ?_
            rintro e w9 ⟨rfl, b9⟩
            have P9 := Lib.hid (hP.out.below b9)
            have HL9 : Hid ((([y] ++ [downW, Lib.itoa cl, Lib.itoa n]) ++ (fs.take j).map Lib.itoa).length ≤ 1048576) := by unfold Hid; rw [List.length_append, List.length_map, List.length_take]; have := HWL.out; omega
            clear b9 hcell
            go_wp2_with (at_builtin; refine wpList_appStr rfl _ _ rfl (w.heap.size + 1) _ _ rfl (P9.out.alloc _).own ⟨w9.heap.size, 0, none⟩ [Lib.itoa f] 1 1 rfl rfl (one_word _ _) HL9.out (by simp) (by have := P9.out.base; simp; omega) ?_; intro t9 q9 ho9 hg9; have Q9 := Lib.hid ((P9.out.alloc (.cells #[.string (ba (Lib.itoa f))] 9)).grown ho9 hg9); clear ho9 hg9)
            go_roundw
            case rel => exact ⟨j + 1, by go_num, by omega, by rw [HTK.out, ← List.append_assoc]; exact Q9.out⟩
            case measure => simp [intOf]; omega
          · obtain rfl : j = fs.length := by omega
            have HX := Lib.hid hP.out
            clear hP
            go_wp2_with fail
            go_ret
            refine ⟨⟨_, rfl, ?_⟩, HX.out.fr⟩
            rw [HWR.out]
            have h9 := HX.out.own
            rw [List.take_length] at h9
            exact h9
      · have HWR : Hid (writtenP ⟨2, cl, true, n, fs, ⟨ck, pg, sl, dt⟩⟩ = ([y] ++ [upW, Lib.itoa cl, Lib.itoa n]) ++ fs.map Lib.itoa) := by unfold Hid; rw [← HY.out]; rfl
        have HWL : Hid (([y] ++ [upW, Lib.itoa cl, Lib.itoa n]).length ≤ 10) := by unfold Hid; simp
        go_wp2_with (at_builtin; refine wpList_appStr rfl _ _ rfl (w.heap.size + 1) _ [y] rfl (S2.out.alloc _).own ⟨wc.heap.size, 0, none⟩ [upW, Lib.itoa cl, Lib.itoa n] 3 3 rfl rfl (words3 _ _ _ _) (by simp) (by simp) (by have := S2.out.base; simp; omega) ?_; intro t5 q5 ho5 hg5; have Q5 := Lib.hid ((S2.out.alloc (.cells #[.string (ba (upW)), .string (ba (Lib.itoa cl)), .string (ba (Lib.itoa n))] 9)).grown ho5 hg5); have z4 := Q5.out.x.cell 4; simp only [List.getElem?_toArray] at z4; clear ho5 hg5)
        clear z4 x0 x1 x2 x3 x4 x5 x6 x7 x8
        go_loopw [3, 61] (fun vo vi wr => ∃ j : Nat, vi = .int .i64 j ∧ j ≤ fs.length ∧ Hid (OSt w wr 60 #[.int .i64 2, .int .i64 cl, .bool true, .int .i64 n, .slice FA fs.length fc, .int .i64 ck, .int .i64 pg, .int .i64 sl, .string (ba dt)] vo (([y] ++ [upW, Lib.itoa cl, Lib.itoa n]) ++ (fs.take j).map Lib.itoa))) (fun _ vi _ => fs.length - (intOf vi).toNat)
        case atStart => exact ⟨0, rfl, by omega, by rw [List.take_zero, List.map_nil, List.append_nil]; exact Q5.out⟩
        case round =>
          obtain ⟨j, rfl, hj, hP⟩ := hrel
          by_cases hlt : j < fs.length
          · obtain ⟨f, hf⟩ : ∃ f, fs[j]? = some f := ⟨_, List.getElem?_eq_getElem hlt⟩
            rcases hFA with hz | rfl
            · omega
            obtain ⟨b', off', e', hbw, hc⟩ := HI.out (by omega)
            obtain ⟨rfl, rfl⟩ : fb = b' ∧ foff = off' := by injection e' with e1; injection e1 with e1 e2; exact ⟨e1, e2⟩
            have hcell := (hP.out.fr.cell (p := ⟨fb, foff + j, none⟩) hbw).trans (hc j f hf)
            have HF := Lib.hid (HOK.out.f f (List.mem_of_getElem? hf))
            have HTK : Hid ((fs.take (j + 1)).map Lib.itoa = (fs.take j).map Lib.itoa ++ [Lib.itoa f]) := by unfold Hid; rw [List.take_add_one, hf]; simp
            clear hc e' hf
            go_wp2_with fail
            refine (itoa_any f HF.out.1 HF.out.2 _ hP.out.tabs).mono ?_
            rintro e w9 ⟨rfl, b9⟩
            have P9 := Lib.hid (hP.out.below b9)
            have HL9 : Hid ((([y] ++ [upW, Lib.itoa cl, Lib.itoa n]) ++ (fs.take j).map Lib.itoa).length ≤ 1048576) := by unfold Hid; rw [List.length_append, List.length_map, List.length_take]; have := HWL.out; omega
            clear b9 hcell
            go_wp2_with (at_builtin; refine wpList_appStr rfl _ _ rfl (w.heap.size + 1) _ _ rfl (P9.out.alloc _).own ⟨w9.heap.size, 0, none⟩ [Lib.itoa f] 1 1 rfl rfl (one_word _ _) HL9.out (by simp) (by have := P9.out.base; simp; omega) ?_; intro t9 q9 ho9 hg9; have Q9 := Lib.hid ((P9.out.alloc (.cells #[.string (ba (Lib.itoa f))] 9)).grown ho9 hg9); clear ho9 hg9)
            go_roundw
            case rel => exact ⟨j + 1, by go_num, by omega, by rw [HTK.out, ← List.append_assoc]; exact Q9.out⟩
            case measure => simp [intOf]; omega
          · obtain rfl : j = fs.length := by omega
            have HX := Lib.hid hP.out
            clear hP
            go_wp2_with fail
            go_ret
            refine ⟨⟨_, rfl, ?_⟩, HX.out.fr⟩
            rw [HWR.out]
            have h9 := HX.out.own
            rw [List.take_length] at h9
            exact h9
    · subst hk
      cases up
      · have HWR : Hid (writtenP ⟨3, cl, false, n, fs, ⟨ck, pg, sl, dt⟩⟩ = ([y] ++ [downW, Lib.itoa cl, Lib.itoa n]) ++ fs.map Lib.itoa) := by unfold Hid; rw [← HY.out]; rfl
        have HWL : Hid (([y] ++ [downW, Lib.itoa cl, Lib.itoa n]).length ≤ 10) := by unfold Hid; simp
        go_wp2_with (at_builtin; refine wpList_appStr rfl _ _ rfl (w.heap.size + 1) _ [y] rfl (S2.out.alloc _).own ⟨wc.heap.size, 0, none⟩ [downW, Lib.itoa cl, Lib.itoa n] 3 3 rfl rfl (words3 _ _ _ _) (by simp) (by simp) (by have := S2.out.base; simp; omega) ?_; intro t5 q5 ho5 hg5; have Q5 := Lib.hid ((S2.out.alloc (.cells #[.string (ba (downW)), .string (ba (Lib.itoa cl)), .string (ba (Lib.itoa n))] 9)).grown ho5 hg5); have z4 := Q5.out.x.cell 4; simp only [List.getElem?_toArray] at z4; clear ho5 hg5)
        clear z4 x0 x1 x2 x3 x4 x5 x6 x7 x8
        go_loopw [3, 61] (fun vo vi wr => ∃ j : Nat, vi = .int .i64 j ∧ j ≤ fs.length ∧ Hid (OSt w wr 60 #[.int .i64 3, .int .i64 cl, .bool false, .int .i64 n, .slice FA fs.length fc, .int .i64 ck, .int .i64 pg, .int .i64 sl, .string (ba dt)] vo (([y] ++ [downW, Lib.itoa cl, Lib.itoa n]) ++ (fs.take j).map Lib.itoa))) (fun _ vi _ => fs.length - (intOf vi).toNat)
        case atStart => exact ⟨0, rfl, by omega, by rw [List.take_zero, List.map_nil, List.append_nil]; exact Q5.out⟩
        case round =>
          obtain ⟨j, rfl, hj, hP⟩ := hrel
          by_cases hlt : j < fs.length
          · obtain ⟨f, hf⟩ : ∃ f, fs[j]? = some f := ⟨_, List.getElem?_eq_getElem hlt⟩
            rcases hFA with hz | rfl
            · omega
            obtain ⟨b', off', e', hbw, hc⟩ := HI.out (by omega)
            obtain ⟨rfl, rfl⟩ : fb = b' ∧ foff = off' := by injection e' with e1; injection e1 with e1 e2; exact ⟨e1, e2⟩
            have hcell := (hP.out.fr.cell (p := ⟨fb, foff + j, none⟩) hbw).trans (hc j f hf)
            have HF := Lib.hid (HOK.out.f f (List.mem_of_getElem? hf))
            have HTK : Hid ((fs.take (j + 1)).map Lib.itoa = (fs.take j).map Lib.itoa ++ [Lib.itoa f]) := by unfold Hid; rw [List.take_add_one, hf]; simp
            clear hc e' hf
            go_wp2_with fail
            refine (itoa_any f HF.out.1 HF.out.2 _ hP.out.tabs).mono ?_
            rintro e w9 ⟨rfl, b9⟩
            have P9 := Lib.hid (hP.out.below b9)
            have HL9 : Hid ((([y] ++ [downW, Lib.itoa cl, Lib.itoa n]) ++ (fs.take j).map Lib.itoa).length ≤ 1048576) := by unfold Hid; rw [List.length_append, List.length_map, List.length_take]; have := HWL.out; omega
            clear b9 hcell
            go_wp2_with (at_builtin; refine wpList_appStr rfl _ _ rfl (w.heap.size + 1) _ _ rfl (P9.out.alloc _).own ⟨w9.heap.size, 0, none⟩ [Lib.itoa f] 1 1 rfl rfl (one_word _ _) HL9.out (by simp) (by have := P9.out.base; simp; omega) ?_; intro t9 q9 ho9 hg9; have Q9 := Lib.hid ((P9.out.alloc (.cells #[.string (ba (Lib.itoa f))] 9)).grown ho9 hg9); clear ho9 hg9)
            go_roundw
            case rel => exact ⟨j + 1, by go_num, by omega, by rw [HTK.out, ← List.append_assoc]; exact Q9.out⟩
            case measure => simp [intOf]; omega
          · obtain rfl : j = fs.length := by omega
            have HX := Lib.hid hP.out
            clear hP
            go_wp2_with fail
            go_ret
            refine ⟨⟨_, rfl, ?_⟩, HX.out.fr⟩
            rw [HWR.out]
            have h9 := HX.out.own
            rw [List.take_length] at h9
            exact h9
      · have HWR : Hid (writtenP ⟨3, cl, true, n, fs, ⟨ck, pg, sl, dt⟩⟩ = ([y] ++ [upW, Lib.itoa cl, Lib.itoa n]) ++ fs.map Lib.itoa) := by unfold Hid; rw [← HY.out]; rfl
        have HWL : Hid (([y] ++ [upW, Lib.itoa cl, Lib.itoa n]).length ≤ 10) := by unfold Hid; simp
        go_wp2_with (at_builtin; refine wpList_appStr rfl _ _ rfl (w.heap.size + 1) _ [y] rfl (S2.out.alloc _).own ⟨wc.heap.size, 0, none⟩ [upW, Lib.itoa cl, Lib.itoa n] 3 3 rfl rfl (words3 _ _ _ _) (by simp) (by simp) (by have := S2.out.base; simp; omega) ?_; intro t5 q5 ho5 hg5; have Q5 := Lib.hid ((S2.out.alloc (.cells #[.string (ba (upW)), .string (ba (Lib.itoa cl)), .string (ba (Lib.itoa n))] 9)).grown ho5 hg5); have z4 := Q5.out.x.cell 4; simp only [List.getElem?_toArray] at z4; clear ho5 hg5)
        clear z4 x0 x1 x2 x3 x4 x5 x6 x7 x8
        go_loopw [3, 61] (fun vo vi wr => ∃ j : Nat, vi = .int .i64 j ∧ j ≤ fs.length ∧ Hid (OSt w wr 60 #[.int .i64 3, .int .i64 cl, .bool true, .int .i64 n, .slice FA fs.length fc, .int .i64 ck, .int .i64 pg, .int .i64 sl, .string (ba dt)] vo (([y] ++ [upW, Lib.itoa cl, Lib.itoa n]) ++ (fs.take j).map Lib.itoa))) (fun _ vi _ => fs.length - (intOf vi).toNat)
        case atStart => exact ⟨0, rfl, by omega, by rw [List.take_zero, List.map_nil, List.append_nil]; exact Q5.out⟩
        case round =>
          obtain ⟨j, rfl, hj, hP⟩ := hrel
          by_cases hlt : j < fs.length
          · obtain ⟨f, hf⟩ : ∃ f, fs[j]? = some f := ⟨_, List.getElem?_eq_getElem hlt⟩
            rcases hFA with hz | rfl
            · omega
            obtain ⟨b', off', e', hbw, hc⟩ := HI.out (by omega)
            obtain ⟨rfl, rfl⟩ : fb = b' ∧ foff = off' := by injection e' with e1; injection e1 with e1 e2; exact ⟨e1, e2⟩
            have hcell := (hP.out.fr.cell (p := ⟨fb, foff + j, none⟩) hbw).trans (hc j f hf)
            have HF := Lib.hid (HOK.out.f f (List.mem_of_getElem? hf))
            have HTK : Hid ((fs.take (j + 1)).map Lib.itoa = (fs.take j).map Lib.itoa ++ [Lib.itoa f]) := by unfold Hid; rw [List.take_add_one, hf]; simp
            clear hc e' hf
            go_wp2_with fail
            refine (itoa_any f HF.out.1 HF.out.2 _ hP.out.tabs).mono ?_
            rintro e w9 ⟨rfl, b9⟩
            have P9 := Lib.hid (hP.out.below b9)
            have HL9 : Hid ((([y] ++ [upW, Lib.itoa cl, Lib.itoa n]) ++ (fs.take j).map Lib.itoa).length ≤ 1048576) := by unfold Hid; rw [List.length_append, List.length_map, List.length_take]; have := HWL.out; omega
            clear b9 hcell
            go_wp2_with (at_builtin; refine wpList_appStr rfl _ _ rfl (w.heap.size + 1) _ _ rfl (P9.out.alloc _).own ⟨w9.heap.size, 0, none⟩ [Lib.itoa f] 1 1 rfl rfl (one_word _ _) HL9.out (by simp) (by have := P9.out.base; simp; omega) ?_; intro t9 q9 ho9 hg9; have Q9 := Lib.hid ((P9.out.alloc (.cells #[.string (ba (Lib.itoa f))] 9)).grown ho9 hg9); clear ho9 hg9)
            go_roundw
            case rel => exact ⟨j + 1, by go_num, by omega, by rw [HTK.out, ← List.append_assoc]; exact Q9.out⟩
            case measure => simp [intOf]; omega
          · obtain rfl : j = fs.length := by omega
            have HX := Lib.hid hP.out
            clear hP
            go_wp2_with fail
            go_ret
            refine ⟨⟨_, rfl, ?_⟩, HX.out.fr⟩
            rw [HWR.out]
            have h9 := HX.out.own
            rw [List.take_length] at h9
            exact h9
    · subst hk
      cases up
      · have HWR : Hid (writtenP ⟨4, cl, false, n, fs, ⟨ck, pg, sl, dt⟩⟩ = ([y] ++ [downW, Lib.itoa cl, Lib.itoa n]) ++ fs.map Lib.itoa) := by unfold Hid; rw [← HY.out]; rfl
        have HWL : Hid (([y] ++ [downW, Lib.itoa cl, Lib.itoa n]).length ≤ 10) := by unfold Hid; simp
        go_wp2_with (at_builtin; refine wpList_appStr rfl _ _ rfl (w.heap.size + 1) _ [y] rfl (S2.out.alloc _).own ⟨wc.heap.size, 0, none⟩ [downW, Lib.itoa cl, Lib.itoa n] 3 3 rfl rfl (words3 _ _ _ _) (by simp) (by simp) (by have := S2.out.base; simp; omega) ?_; intro t5 q5 ho5 hg5; have Q5 := Lib.hid ((S2.out.alloc (.cells #[.string (ba (downW)), .string (ba (Lib.itoa cl)), .string (ba (Lib.itoa n))] 9)).grown ho5 hg5); have z4 := Q5.out.x.cell 4; simp only [List.getElem?_toArray] at z4; clear ho5 hg5)
        clear z4 x0 x1 x2 x3 x4 x5 x6 x7 x8
        go_loopw [3, 61] (fun vo vi wr => ∃ j : Nat, vi = .int .i64 j ∧ j ≤ fs.length ∧ Hid (OSt w wr 60 #[.int .i64 4, .int .i64 cl, .bool false, .int .i64 n, .slice FA fs.length fc, .int .i64 ck, .int .i64 pg, .int .i64 sl, .string (ba dt)] vo (([y] ++ [downW, Lib.itoa cl, Lib.itoa n]) ++ (fs.take j).map Lib.itoa))) (fun _ vi _ => fs.length - (intOf vi).toNat)
        case atStart => exact ⟨0, rfl, by omega, by rw [List.take_zero, List.map_nil, List.append_nil]; exact Q5.out⟩
        case round =>
          obtain ⟨j, rfl, hj, hP⟩ := hrel
          by_cases hlt : j < fs.length
          · obtain ⟨f, hf⟩ : ∃ f, fs[j]? = some f := ⟨_, List.getElem?_eq_getElem hlt⟩
            rcases hFA with hz | rfl
            · omega
            obtain ⟨b', off', e', hbw, hc⟩ := HI.out (by omega)
            obtain ⟨rfl, rfl⟩ : fb = b' ∧ foff = off' := by injection e' with e1; injection e1 with e1 e2; exact ⟨e1, e2⟩
            have hcell := (hP.out.fr.cell (p := ⟨fb, foff + j, none⟩) hbw).trans (hc j f hf)
            have HF := Lib.hid (HOK.out.f f (List.mem_of_getElem? hf))
            have HTK : Hid ((fs.take (j + 1)).map Lib.itoa = (fs.take j).map Lib.itoa ++ [Lib.itoa f]) := by unfold Hid; rw [List.take_add_one, hf]; simp
            clear hc e' hf
            go_wp2_with fail
            refine (itoa_any f HF.out.1 HF.out.2 _ hP.out.tabs).mono ?_
            rintro e w9 ⟨rfl, b9⟩
            have P9 := Lib.hid (hP.out.below b9)
            have HL9 : Hid ((([y] ++ [downW, Lib.itoa cl, Lib.itoa n]) ++ (fs.take j).map Lib.itoa).length ≤ 1048576) := by unfold Hid; rw [List.length_append, List.length_map, List.length_take]; have := HWL.out; omega
            clear b9 hcell
            go_wp2_with (at_builtin; refine wpList_appStr rfl _ _ rfl (w.heap.size + 1) _ _ rfl (P9.out.alloc _).own ⟨w9.heap.size, 0, none⟩ [Lib.itoa f] 1 1 rfl rfl (one_word _ _) HL9.out (by simp) (by have := P9.out.base; simp; omega) ?_; intro t9 q9 ho9 hg9; have Q9 := Lib.hid ((P9.out.alloc (.cells #[.string (ba (Lib.itoa f))] 9)).grown ho9 hg9); clear ho9 hg9)
            go_roundw
            case rel => exact ⟨j + 1, by go_num, by omega, by rw [HTK.out, ← List.append_assoc]; exact Q9.out⟩
            case measure => simp [intOf]; omega
          · obtain rfl : j = fs.length := by omega
            have HX := Lib.hid hP.out
            clear hP
            go_wp2_with fail
            go_ret
            refine ⟨⟨_, rfl, ?_⟩, HX.out.fr⟩
            rw [HWR.out]
            have h9 := HX.out.own
            rw [List.take_length] at h9
            exact h9
      · have HWR : Hid (writtenP ⟨4, cl, true, n, fs, ⟨ck, pg, sl, dt⟩⟩ = ([y] ++ [upW, Lib.itoa cl, Lib.itoa n]) ++ fs.map Lib.itoa) := by unfold Hid; rw [← HY.out]; rfl
        have HWL : Hid (([y] ++ [upW, Lib.itoa cl, Lib.itoa n]).length ≤ 10) := by unfold Hid; simp
        go_wp2_with (at_builtin; refine wpList_appStr rfl _ _ rfl (w.heap.size + 1) _ [y] rfl (S2.out.alloc _).own ⟨wc.heap.size, 0, none⟩ [upW, Lib.itoa cl, Lib.itoa n] 3 3 rfl rfl (words3 _ _ _ _) (by simp) (by simp) (by have := S2.out.base; simp; omega) ?_; intro t5 q5 ho5 hg5; have Q5 := Lib.hid ((S2.out.alloc (.cells #[.string (ba (upW)), .string (ba (Lib.itoa cl)), .string (ba (Lib.itoa n))] 9)).grown ho5 hg5); have z4 := Q5.out.x.cell 4; simp only [List.getElem?_toArray] at z4; clear ho5 hg5)
        clear z4 x0 x1 x2 x3 x4 x5 x6 x7 x8
        go_loopw [3, 61] (fun vo vi wr => ∃ j : Nat, vi = .int .i64 j ∧ j ≤ fs.length ∧ Hid (OSt w wr 60 #[.int .i64 4, .int .i64 cl, .bool true, .int .i64 n, .slice FA fs.length fc, .int .i64 ck, .int .i64 pg, .int .i64 sl, .string (ba dt)] vo (([y] ++ [upW, Lib.itoa cl, Lib.itoa n]) ++ (fs.take j).map Lib.itoa))) (fun _ vi _ => fs.length - (intOf vi).toNat)
        case atStart => exact ⟨0, rfl, by omega, by rw [List.take_zero, List.map_nil, List.append_nil]; exact Q5.out⟩
        case round =>
          obtain ⟨j, rfl, hj, hP⟩ := hrel
          by_cases hlt : j < fs.length
          · obtain ⟨f, hf⟩ : ∃ f, fs[j]? = some f := ⟨_, List.getElem?_eq_getElem hlt⟩
            rcases hFA with hz | rfl
            · omega
            obtain ⟨b', off', e', hbw, hc⟩ := HI.out (by omega)
            obtain ⟨rfl, rfl⟩ : fb = b' ∧ foff = off' := by injection e' with e1; injection e1 with e1 e2; exact ⟨e1, e2⟩
            have hcell := (hP.out.fr.cell (p := ⟨fb, foff + j, none⟩) hbw).trans (hc j f hf)
            have HF := Lib.hid (HOK.out.f f (List.mem_of_getElem? hf))
            have HTK : Hid ((fs.take (j + 1)).map Lib.itoa = (fs.take j).map Lib.itoa ++ [Lib.itoa f]) := by unfold Hid; rw [List.take_add_one, hf]; simp
            clear hc e' hf
            go_wp2_with fail
            refine (itoa_any f HF.out.1 HF.out.2 _ hP.out.tabs).mono ?_
            rintro e w9 ⟨rfl, b9⟩
            have P9 := Lib.hid (hP.out.below b9)
            have HL9 : Hid ((([y] ++ [upW, Lib.itoa cl, Lib.itoa n]) ++ (fs.take j).map Lib.itoa).length ≤ 1048576) := by unfold Hid; rw [List.length_append, List.length_map, List.length_take]; have := HWL.out; omega
            clear b9 hcell
            go_wp2_with (at_builtin; refine wpList_appStr rfl _ _ rfl (w.heap.size + 1) _ _ rfl (P9.out.alloc _).own ⟨w9.heap.size, 0, none⟩ [Lib.itoa f] 1 1 rfl rfl (one_word _ _) HL9.out (by simp) (by have := P9.out.base; simp; omega) ?_; intro t9 q9 ho9 hg9; have Q9 := Lib.hid ((P9.out.alloc (.cells #[.string (ba (Lib.itoa f))] 9)).grown ho9 hg9); clear ho9 hg9)
            go_roundw
            case rel => exact ⟨j + 1, by go_num, by omega, by rw [HTK.out, ← List.append_assoc]; exact Q9.out⟩
            case measure => simp [intOf]; omega
          · obtain rfl : j = fs.length := by omega
            have HX := Lib.hid hP.out
            clear hP
            go_wp2_with fail
            go_ret
            refine ⟨⟨_, rfl, ?_⟩, HX.out.fr⟩
            rw [HWR.out]
            have h9 := HX.out.own
            rw [List.take_length] at h9
            exact h9
    · subst hk
      cases up
      · have HWR : Hid (writtenP ⟨5, cl, false, n, fs, ⟨ck, pg, sl, dt⟩⟩ = ([y] ++ [Lib.itoa cl]) ++ fs.map Lib.itoa) := by unfold Hid; rw [← HY.out]; rfl
        have HWL : Hid (([y] ++ [Lib.itoa cl]).length ≤ 10) := by unfold Hid; simp
        go_wp2_with (at_builtin; refine wpList_appStr rfl _ _ rfl (w.heap.size + 1) _ [y] rfl (S2.out.alloc _).own ⟨wc.heap.size, 0, none⟩ [Lib.itoa cl] 1 1 rfl rfl (words1 _ _) (by simp) (by simp) (by have := S2.out.base; simp; omega) ?_; intro t5 q5 ho5 hg5; have Q5 := Lib.hid ((S2.out.alloc (.cells #[.string (ba (Lib.itoa cl))] 9)).grown ho5 hg5); have z4 := Q5.out.x.cell 4; simp only [List.getElem?_toArray] at z4; clear ho5 hg5)
        clear z4 x0 x1 x2 x3 x4 x5 x6 x7 x8
        go_loopw [3, 61] (fun vo vi wr => ∃ j : Nat, vi = .int .i64 j ∧ j ≤ fs.length ∧ Hid (OSt w wr 60 #[.int .i64 5, .int .i64 cl, .bool false, .int .i64 n, .slice FA fs.length fc, .int .i64 ck, .int .i64 pg, .int .i64 sl, .string (ba dt)] vo (([y] ++ [Lib.itoa cl]) ++ (fs.take j).map Lib.itoa))) (fun _ vi _ => fs.length - (intOf vi).toNat)
        case atStart => exact ⟨0, rfl, by omega, by rw [List.take_zero, List.map_nil, List.append_nil]; exact Q5.out⟩
        case round =>
          obtain ⟨j, rfl, hj, hP⟩ := hrel
          by_cases hlt : j < fs.length
          · obtain ⟨f, hf⟩ : ∃ f, fs[j]? = some f := ⟨_, List.getElem?_eq_getElem hlt⟩
            rcases hFA with hz | rfl
            · omega
            obtain ⟨b', off', e', hbw, hc⟩ := HI.out (by omega)
            obtain ⟨rfl, rfl⟩ : fb = b' ∧ foff = off' := by injection e' with e1; injection e1 with e1 e2; exact ⟨e1, e2⟩
            have hcell := (hP.out.fr.cell (p := ⟨fb, foff + j, none⟩) hbw).trans (hc j f hf)
            have HF := Lib.hid (HOK.out.f f (List.mem_of_getElem? hf))
            have HTK : Hid ((fs.take (j + 1)).map Lib.itoa = (fs.take j).map Lib.itoa ++ [Lib.itoa f]) := by unfold Hid; rw [List.take_add_one, hf]; simp
            clear hc e' hf
            go_wp2_with fail
            refine (itoa_any f HF.out.1 HF.out.2 _ hP.out.tabs).mono ?_
            rintro e w9 ⟨rfl, b9⟩
            have P9 := Lib.hid (hP.out.below b9)
            have HL9 : Hid ((([y] ++ [Lib.itoa cl]) ++ (fs.take j).map Lib.itoa).length ≤ 1048576) := by unfold Hid; rw [List.length_append, List.length_map, List.length_take]; have := HWL.out; omega
            clear b9 hcell
            go_wp2_with (at_builtin; refine wpList_appStr rfl _ _ rfl (w.heap.size + 1) _ _ rfl (P9.out.alloc _).own ⟨w9.heap.size, 0, none⟩ [Lib.itoa f] 1 1 rfl rfl (one_word _ _) HL9.out (by simp) (by have := P9.out.base; simp; omega) ?_; intro t9 q9 ho9 hg9; have Q9 := Lib.hid ((P9.out.alloc (.cells #[.string (ba (Lib.itoa f))] 9)).grown ho9 hg9); clear ho9 hg9)
            go_roundw
            case rel => exact ⟨j + 1, by go_num, by omega, by rw [HTK.out, ← List.append_assoc]; exact Q9.out⟩
            case measure => simp [intOf]; omega
          · obtain rfl : j = fs.length := by omega
            have HX := Lib.hid hP.out
            clear hP
            go_wp2_with fail
            go_ret
            refine ⟨⟨_, rfl, ?_⟩, HX.out.fr⟩
            rw [HWR.out]
            have h9 := HX.out.own
            rw [List.take_length] at h9
            exact h9
      · have HWR : Hid (writtenP ⟨5, cl, true, n, fs, ⟨ck, pg, sl, dt⟩⟩ = ([y] ++ [Lib.itoa cl]) ++ fs.map Lib.itoa) := by unfold Hid; rw [← HY.out]; rfl
        have HWL : Hid (([y] ++ [Lib.itoa cl]).length ≤ 10) := by unfold Hid; simp
        go_wp2_with (at_builtin; refine wpList_appStr rfl _ _ rfl (w.heap.size + 1) _ [y] rfl (S2.out.alloc _).own ⟨wc.heap.size, 0, none⟩ [Lib.itoa cl] 1 1 rfl rfl (words1 _ _) (by simp) (by simp) (by have := S2.out.base; simp; omega) ?_; intro t5 q5 ho5 hg5; have Q5 := Lib.hid ((S2.out.alloc (.cells #[.string (ba (Lib.itoa cl))] 9)).grown ho5 hg5); have z4 := Q5.out.x.cell 4; simp only [List.getElem?_toArray] at z4; clear ho5 hg5)
        clear z4 x0 x1 x2 x3 x4 x5 x6 x7 x8
        go_loopw [3, 61] (fun vo vi wr => ∃ j : Nat, vi = .int .i64 j ∧ j ≤ fs.length ∧ Hid (OSt w wr 60 #[.int .i64 5, .int .i64 cl, .bool true, .int .i64 n, .slice FA fs.length fc, .int .i64 ck, .int .i64 pg, .int .i64 sl, .string (ba dt)] vo (([y] ++ [Lib.itoa cl]) ++ (fs.take j).map Lib.itoa))) (fun _ vi _ => fs.length - (intOf vi).toNat)
        case atStart => exact ⟨0, rfl, by omega, by rw [List.take_zero, List.map_nil, List.append_nil]; exact Q5.out⟩
        case round =>
          obtain ⟨j, rfl, hj, hP⟩ := hrel
          by_cases hlt : j < fs.length
          · obtain ⟨f, hf⟩ : ∃ f, fs[j]? = some f := ⟨_, List.getElem?_eq_getElem hlt⟩
            rcases hFA with hz | rfl
            · omega
            obtain ⟨b', off', e', hbw, hc⟩ := HI.out (by omega)
            obtain ⟨rfl, rfl⟩ : fb = b' ∧ foff = off' := by injection e' with e1; injection e1 with e1 e2; exact ⟨e1, e2⟩
            have hcell := (hP.out.fr.cell (p := ⟨fb, foff + j, none⟩) hbw).trans (hc j f hf)
            have HF := Lib.hid (HOK.out.f f (List.mem_of_getElem? hf))
            have HTK : Hid ((fs.take (j + 1)).map Lib.itoa = (fs.take j).map Lib.itoa ++ [Lib.itoa f]) := by unfold Hid; rw [List.take_add_one, hf]; simp
            clear hc e' hf
            go_wp2_with fail
            refine (itoa_any f HF.out.1 HF.out.2 _ hP.out.tabs).mono ?_
            rintro e w9 ⟨rfl, b9⟩
            have P9 := Lib.hid (hP.out.below b9)
            have HL9 : Hid ((([y] ++ [Lib.itoa cl]) ++ (fs.take j).map Lib.itoa).length ≤ 1048576) := by unfold Hid; rw [List.length_append, List.length_map, List.length_take]; have := HWL.out; omega
            clear b9 hcell
            go_wp2_with (at_builtin; refine wpList_appStr rfl _ _ rfl (w.heap.size + 1) _ _ rfl (P9.out.alloc _).own ⟨w9.heap.size, 0, none⟩ [Lib.itoa f] 1 1 rfl rfl (one_word _ _) HL9.out (by simp) (by have := P9.out.base; simp; omega) ?_; intro t9 q9 ho9 hg9; have Q9 := Lib.hid ((P9.out.alloc (.cells #[.string (ba (Lib.itoa f))] 9)).grown ho9 hg9); clear ho9 hg9)
            go_roundw
            case rel => exact ⟨j + 1, by go_num, by omega, by rw [HTK.out, ← List.append_assoc]; exact Q9.out⟩
            case measure => simp [intOf]; omega
          · obtain rfl : j = fs.length := by omega
            have HX := Lib.hid hP.out
            clear hP
            go_wp2_with fail
            go_ret
            refine ⟨⟨_, rfl, ?_⟩, HX.out.fr⟩
            rw [HWR.out]
            have h9 := HX.out.own
            rw [List.take_length] at h9
            exact h9
    · subst hk
      cases up
      · have HWR : Hid (writtenP ⟨6, cl, false, n, fs, ⟨ck, pg, sl, dt⟩⟩ = ([y] ++ [Lib.itoa cl, Lib.itoa n]) ++ fs.map Lib.itoa) := by unfold Hid; rw [← HY.out]; rfl
        have HWL : Hid (([y] ++ [Lib.itoa cl, Lib.itoa n]).length ≤ 10) := by unfold Hid; simp
        go_wp2_with (at_builtin; refine wpList_appStr rfl _ _ rfl (w.heap.size + 1) _ [y] rfl (S2.out.alloc _).own ⟨wc.heap.size, 0, none⟩ [Lib.itoa cl, Lib.itoa n] 2 2 rfl rfl (words2 _ _ _) (by simp) (by simp) (by have := S2.out.base; simp; omega) ?_; intro t5 q5 ho5 hg5; have Q5 := Lib.hid ((S2.out.alloc (.cells #[.string (ba (Lib.itoa cl)), .string (ba (Lib.itoa n))] 9)).grown ho5 hg5); have z4 := Q5.out.x.cell 4; simp only [List.getElem?_toArray] at z4; clear ho5 hg5)
        clear z4 x0 x1 x2 x3 x4 x5 x6 x7 x8
        go_loopw [3, 61] (fun vo vi wr => ∃ j : Nat, vi = .int .i64 j ∧ j ≤ fs.length ∧ Hid (OSt w wr 60 #[.int .i64 6, .int .i64 cl, .bool false, .int .i64 n, .slice FA fs.length fc, .int .i64 ck, .int .i64 pg, .int .i64 sl, .string (ba dt)] vo (([y] ++ [Lib.itoa cl, Lib.itoa n]) ++ (fs.take j).map Lib.itoa))) (fun _ vi _ => fs.length - (intOf vi).toNat)
        case atStart => exact ⟨0, rfl, by omega, by rw [List.take_zero, List.map_nil, List.append_nil]; exact Q5.out⟩
        case round =>
          obtain ⟨j, rfl, hj, hP⟩ := hrel
          by_cases hlt : j < fs.length
          · obtain ⟨f, hf⟩ : ∃ f, fs[j]? = some f := ⟨_, List.getElem?_eq_getElem hlt⟩
            rcases hFA with hz | rfl
            · omega
            obtain ⟨b', off', e', hbw, hc⟩ := HI.out (by omega)
            obtain ⟨rfl, rfl⟩ : fb = b' ∧ foff = off' := by injection e' with e1; injection e1 with e1 e2; exact ⟨e1, e2⟩
            have hcell := (hP.out.fr.cell (p := ⟨fb, foff + j, none⟩) hbw).trans (hc j f hf)
            have HF := Lib.hid (HOK.out.f f (List.mem_of_getElem? hf))
            have HTK : Hid ((fs.take (j + 1)).map Lib.itoa = (fs.take j).map Lib.itoa ++ [Lib.itoa f]) := by unfold Hid; rw [List.take_add_one, hf]; simp
            clear hc e' hf
            go_wp2_with fail
            refine (itoa_any f HF.out.1 HF.out.2 _ hP.out.tabs).mono ?_
            rintro e w9 ⟨rfl, b9⟩
            have P9 := Lib.hid (hP.out.below b9)
            have HL9 : Hid ((([y] ++ [Lib.itoa cl, Lib.itoa n]) ++ (fs.take j).map Lib.itoa).length ≤ 1048576) := by unfold Hid; rw [List.length_append, List.length_map, List.length_take]; have := HWL.out; omega
            clear b9 hcell
            go_wp2_with (at_builtin; refine wpList_appStr rfl _ _ rfl (w.heap.size + 1) _ _ rfl (P9.out.alloc _).own ⟨w9.heap.size, 0, none⟩ [Lib.itoa f] 1 1 rfl rfl (one_word _ _) HL9.out (by simp) (by have := P9.out.base; simp; omega) ?_; intro t9 q9 ho9 hg9; have Q9 := Lib.hid ((P9.out.alloc (.cells #[.string (ba (Lib.itoa f))] 9)).grown ho9 hg9); clear ho9 hg9)
            go_roundw
            case rel => exact ⟨j + 1, by go_num, by omega, by rw [HTK.out, ← List.append_assoc]; exact Q9.out⟩
            case measure => simp [intOf]; omega
          · obtain rfl : j = fs.length := by omega
            have HX := Lib.hid hP.out
            clear hP
            go_wp2_with fail
            go_ret
            refine ⟨⟨_, rfl, ?_⟩, HX.out.fr⟩
            rw [HWR.out]
            have h9 := HX.out.own
            rw [List.take_length] at h9
            exact h9
      · have HWR : Hid (writtenP ⟨6, cl, true, n, fs, ⟨ck, pg, sl, dt⟩⟩ = ([y] ++ [Lib.itoa cl, Lib.itoa n]) ++ fs.map Lib.itoa) := by unfold Hid; rw [← HY.out]; rfl
        have HWL : Hid (([y] ++ [Lib.itoa cl, Lib.itoa n]).length ≤ 10) := by unfold Hid; simp
        go_wp2_with (at_builtin; refine wpList_appStr rfl _ _ rfl (w.heap.size + 1) _ [y] rfl (S2.out.alloc _).own ⟨wc.heap.size, 0, none⟩ [Lib.itoa cl, Lib.itoa n] 2 2 rfl rfl (words2 _ _ _) (by simp) (by simp) (by have := S2.out.base; simp; omega) ?_; intro t5 q5 ho5 hg5; have Q5 := Lib.hid ((S2.out.alloc (.cells #[.string (ba (Lib.itoa cl)), .string (ba (Lib.itoa n))] 9)).grown ho5 hg5); have z4 := Q5.out.x.cell 4; simp only [List.getElem?_toArray] at z4; clear ho5 hg5)
        clear z4 x0 x1 x2 x3 x4 x5 x6 x7 x8
        go_loopw [3, 61] (fun vo vi wr => ∃ j : Nat, vi = .int .i64 j ∧ j ≤ fs.length ∧ Hid (OSt w wr 60 #[.int .i64 6, .int .i64 cl, .bool true, .int .i64 n, .slice FA fs.length fc, .int .i64 ck, .int .i64 pg, .int .i64 sl, .string (ba dt)] vo (([y] ++ [Lib.itoa cl, Lib.itoa n]) ++ (fs.take j).map Lib.itoa))) (fun _ vi _ => fs.length - (intOf vi).toNat)
        case atStart => exact ⟨0, rfl, by omega, by rw [List.take_zero, List.map_nil, List.append_nil]; exact Q5.out⟩
        case round =>
          obtain ⟨j, rfl, hj, hP⟩ := hrel
          by_cases hlt : j < fs.length
          · obtain ⟨f, hf⟩ : ∃ f, fs[j]? = some f := ⟨_, List.getElem?_eq_getElem hlt⟩
            rcases hFA with hz | rfl
            · omega
            obtain ⟨b', off', e', hbw, hc⟩ := HI.out (by omega)
            obtain ⟨rfl, rfl⟩ : fb = b' ∧ foff = off' := by injection e' with e1; injection e1 with e1 e2; exact ⟨e1, e2⟩
            have hcell := (hP.out.fr.cell (p := ⟨fb, foff + j, none⟩) hbw).trans (hc j f hf)
            have HF := Lib.hid (HOK.out.f f (List.mem_of_getElem? hf))
            have HTK : Hid ((fs.take (j + 1)).map Lib.itoa = (fs.take j).map Lib.itoa ++ [Lib.itoa f]) := by unfold Hid; rw [List.take_add_one, hf]; simp
            clear hc e' hf
            go_wp2_with fail
            refine (itoa_any f HF.out.1 HF.out.2 _ hP.out.tabs).mono ?_
            rintro e w9 ⟨rfl, b9⟩
            have P9 := Lib.hid (hP.out.below b9)
            have HL9 : Hid ((([y] ++ [Lib.itoa cl, Lib.itoa n]) ++ (fs.take j).map Lib.itoa).length ≤ 1048576) := by unfold Hid; rw [List.length_append, List.length_map, List.length_take]; have := HWL.out; omega
            clear b9 hcell
            go_wp2_with (at_builtin; refine wpList_appStr rfl _ _ rfl (w.heap.size + 1) _ _ rfl (P9.out.alloc _).own ⟨w9.heap.size, 0, none⟩ [Lib.itoa f] 1 1 rfl rfl (one_word _ _) HL9.out (by simp) (by have := P9.out.base; simp; omega) ?_; intro t9 q9 ho9 hg9; have Q9 := Lib.hid ((P9.out.alloc (.cells #[.string (ba (Lib.itoa f))] 9)).grown ho9 hg9); clear ho9 hg9)
            go_roundw
            case rel => exact ⟨j + 1, by go_num, by omega, by rw [HTK.out, ← List.append_assoc]; exact Q9.out⟩
            case measure => simp [intOf]; omega
          · obtain rfl : j = fs.length := by omega
            have HX := Lib.hid hP.out
            clear hP
            go_wp2_with fail
            go_ret
            refine ⟨⟨_, rfl, ?_⟩, HX.out.fr⟩
            rw [HWR.out]
            have h9 := HX.out.own
            rw [List.take_length] at h9
            exact h9
    · subst hk
      cases up
      · have HWR : Hid (writtenP ⟨7, cl, false, n, fs, ⟨ck, pg, sl, dt⟩⟩ = ([y] ++ [Lib.itoa cl, Lib.itoa n]) ++ fs.map Lib.itoa) := by unfold Hid; rw [← HY.out]; rfl
        have HWL : Hid (([y] ++ [Lib.itoa cl, Lib.itoa n]).length ≤ 10) := by unfold Hid; simp
        go_wp2_with (at_builtin; refine wpList_appStr rfl _ _ rfl (w.heap.size + 1) _ [y] rfl (S2.out.alloc _).own ⟨wc.heap.size, 0, none⟩ [Lib.itoa cl, Lib.itoa n] 2 2 rfl rfl (words2 _ _ _) (by simp) (by simp) (by have := S2.out.base; simp; omega) ?_; intro t5 q5 ho5 hg5; have Q5 := Lib.hid ((S2.out.alloc (.cells #[.string (ba (Lib.itoa cl)), .string (ba (Lib.itoa n))] 9)).grown ho5 hg5); have z4 := Q5.out.x.cell 4; simp only [List.getElem?_toArray] at z4; clear ho5 hg5)
        clear z4 x0 x1 x2 x3 x4 x5 x6 x7 x8
        go_loopw [3, 61] (fun vo vi wr => ∃ j : Nat, vi = .int .i64 j ∧ j ≤ fs.length ∧ Hid (OSt w wr 60 #[.int .i64 7, .int .i64 cl, .bool false, .int .i64 n, .slice FA fs.length fc, .int .i64 ck, .int .i64 pg, .int .i64 sl, .string (ba dt)] vo (([y] ++ [Lib.itoa cl, Lib.itoa n]) ++ (fs.take j).map Lib.itoa))) (fun _ vi _ => fs.length - (intOf vi).toNat)
        case atStart => exact ⟨0, rfl, by omega, by rw [List.take_zero, List.map_nil, List.append_nil]; exact Q5.out⟩
        case round =>
          obtain ⟨j, rfl, hj, hP⟩ := hrel
          by_cases hlt : j < fs.length
          · obtain ⟨f, hf⟩ : ∃ f, fs[j]? = some f := ⟨_, List.getElem?_eq_getElem hlt⟩
            rcases hFA with hz | rfl
            · omega
            obtain ⟨b', off', e', hbw, hc⟩ := HI.out (by omega)
            obtain ⟨rfl, rfl⟩ : fb = b' ∧ foff = off' := by injection e' with e1; injection e1 with e1 e2; exact ⟨e1, e2⟩
            have hcell := (hP.out.fr.cell (p := ⟨fb, foff + j, none⟩) hbw).trans (hc j f hf)
            have HF := Lib.hid (HOK.out.f f (List.mem_of_getElem? hf))
            have HTK : Hid ((fs.take (j + 1)).map Lib.itoa = (fs.take j).map Lib.itoa ++ [Lib.itoa f]) := by unfold Hid; rw [List.take_add_one, hf]; simp
            clear hc e' hf
            go_wp2_with fail
            refine (itoa_any f HF.out.1 HF.out.2 _ hP.out.tabs).mono ?_
            rintro e w9 ⟨rfl, b9⟩
            have P9 := Lib.hid (hP.out.below b9)
            have HL9 : Hid ((([y] ++ [Lib.itoa cl, Lib.itoa n]) ++ (fs.take j).map Lib.itoa).length ≤ 1048576) := by unfold Hid; rw [List.length_append, List.length_map, List.length_take]; have := HWL.out; omega
            clear b9 hcell
            go_wp2_with (at_builtin; refine wpList_appStr rfl _ _ rfl (w.heap.size + 1) _ _ rfl (P9.out.alloc _).own ⟨w9.heap.size, 0, none⟩ [Lib.itoa f] 1 1 rfl rfl (one_word _ _) HL9.out (by simp) (by have := P9.out.base; simp; omega) ?_; intro t9 q9 ho9 hg9; have Q9 := Lib.hid ((P9.out.alloc (.cells #[.string (ba (Lib.itoa f))] 9)).grown ho9 hg9); clear ho9 hg9)
            go_roundw
            case rel => exact ⟨j + 1, by go_num, by omega, by rw [HTK.out, ← List.append_assoc]; exact Q9.out⟩
            case measure => simp [intOf]; omega
          · obtain rfl : j = fs.length := by omega
            have HX := Lib.hid hP.out
            clear hP
            go_wp2_with fail
            go_ret
            refine ⟨⟨_, rfl, ?_⟩, HX.out.fr⟩
            rw [HWR.out]
            have h9 := HX.out.own
            rw [List.take_length] at h9
            exact h9
      · have HWR : Hid (writtenP ⟨7, cl, true, n, fs, ⟨ck, pg, sl, dt⟩⟩ = ([y] ++ [Lib.itoa cl, Lib.itoa n]) ++ fs.map Lib.itoa) := by unfold Hid; rw [← HY.out]; rfl
        have HWL : Hid (([y] ++ [Lib.itoa cl, Lib.itoa n]).length ≤ 10) := by unfold Hid; simp
        go_wp2_with (at_builtin; refine wpList_appStr rfl _ _ rfl (w.heap.size + 1) _ [y] rfl (S2.out.alloc _).own ⟨wc.heap.size, 0, none⟩ [Lib.itoa cl, Lib.itoa n] 2 2 rfl rfl (words2 _ _ _) (by simp) (by simp) (by have := S2.out.base; simp; omega) ?_; intro t5 q5 ho5 hg5; have Q5 := Lib.hid ((S2.out.alloc (.cells #[.string (ba (Lib.itoa cl)), .string (ba (Lib.itoa n))] 9)).grown ho5 hg5); have z4 := Q5.out.x.cell 4; simp only [List.getElem?_toArray] at z4; clear ho5 hg5)
        clear z4 x0 x1 x2 x3 x4 x5 x6 x7 x8
        go_loopw [3, 61] (fun vo vi wr => ∃ j : Nat, vi = .int .i64 j ∧ j ≤ fs.length ∧ Hid (OSt w wr 60 #[.int .i64 7, .int .i64 cl, .bool true, .int .i64 n, .slice FA fs.length fc, .int .i64 ck, .int .i64 pg, .int .i64 sl, .string (ba dt)] vo (([y] ++ [Lib.itoa cl, Lib.itoa n]) ++ (fs.take j).map Lib.itoa))) (fun _ vi _ => fs.length - (intOf vi).toNat)
        case atStart => exact ⟨0, rfl, by omega, by rw [List.take_zero, List.map_nil, List.append_nil]; exact Q5.out⟩
        case round =>
          obtain ⟨j, rfl, hj, hP⟩ := hrel
          by_cases hlt : j < fs.length
          · obtain ⟨f, hf⟩ : ∃ f, fs[j]? = some f := ⟨_, List.getElem?_eq_getElem hlt⟩
            rcases hFA with hz | rfl
            · omega
            obtain ⟨b', off', e', hbw, hc⟩ := HI.out (by omega)
            obtain ⟨rfl, rfl⟩ : fb = b' ∧ foff = off' := by injection e' with e1; injection e1 with e1 e2; exact ⟨e1, e2⟩
            have hcell := (hP.out.fr.cell (p := ⟨fb, foff + j, none⟩) hbw).trans (hc j f hf)
            have HF := Lib.hid (HOK.out.f f (List.mem_of_getElem? hf))
            have HTK : Hid ((fs.take (j + 1)).map Lib.itoa = (fs.take j).map Lib.itoa ++ [Lib.itoa f]) := by unfold Hid; rw [List.take_add_one, hf]; simp
            clear hc e' hf
            go_wp2_with fail
            refine (itoa_any f HF.out.1 HF.out.2 _ hP.out.tabs).mono ?_
            rintro e w9 ⟨rfl, b9⟩
            have P9 := Lib.hid (hP.out.below b9)
            have HL9 : Hid ((([y] ++ [Lib.itoa cl, Lib.itoa n]) ++ (fs.take j).map Lib.itoa).length ≤ 1048576) := by unfold Hid; rw [List.length_append, List.length_map, List.length_take]; have := HWL.out; omega
            clear b9 hcell
            go_wp2_with (at_builtin; refine wpList_appStr rfl _ _ rfl (w.heap.size + 1) _ _ rfl (P9.out.alloc _).own ⟨w9.heap.size, 0, none⟩ [Lib.itoa f] 1 1 rfl rfl (one_word _ _) HL9.out (by simp) (by have := P9.out.base; simp; omega) ?_; intro t9 q9 ho9 hg9; have Q9 := Lib.hid ((P9.out.alloc (.cells #[.string (ba (Lib.itoa f))] 9)).grown ho9 hg9); clear ho9 hg9)
            go_roundw
            case rel => exact ⟨j + 1, by go_num, by omega, by rw [HTK.out, ← List.append_assoc]; exact Q9.out⟩
            case measure => simp [intOf]; omega
          · obtain rfl : j = fs.length := by omega
            have HX := Lib.hid hP.out
            clear hP
            go_wp2_with fail
            go_ret
            refine ⟨⟨_, rfl, ?_⟩, HX.out.fr⟩
            rw [HWR.out]
            have h9 := HX.out.own
            rw [List.take_length] at h9
            exact h9
    · subst hk
      cases up
      · have HWR : Hid (writtenP ⟨8, cl, false, n, fs, ⟨ck, pg, sl, dt⟩⟩ = ([y] ++ [Lib.itoa cl]) ++ fs.map Lib.itoa) := by unfold Hid; rw [← HY.out]; rfl
        have HWL : Hid (([y] ++ [Lib.itoa cl]).length ≤ 10) := by unfold Hid; simp
        go_wp2_with (at_builtin; refine wpList_appStr rfl _ _ rfl (w.heap.size + 1) _ [y] rfl (S2.out.alloc _).own ⟨wc.heap.size, 0, none⟩ [Lib.itoa cl] 1 1 rfl rfl (words1 _ _) (by simp) (by simp) (by have := S2.out.base; simp; omega) ?_; intro t5 q5 ho5 hg5; have Q5 := Lib.hid ((S2.out.alloc (.cells #[.string (ba (Lib.itoa cl))] 9)).grown ho5 hg5); have z4 := Q5.out.x.cell 4; simp only [List.getElem?_toArray] at z4; clear ho5 hg5)
        clear z4 x0 x1 x2 x3 x4 x5 x6 x7 x8
        go_loopw [3, 61] (fun vo vi wr => ∃ j : Nat, vi = .int .i64 j ∧ j ≤ fs.length ∧ Hid (OSt w wr 60 #[.int .i64 8, .int .i64 cl, .bool false, .int .i64 n, .slice FA fs.length fc, .int .i64 ck, .int .i64 pg, .int .i64 sl, .string (ba dt)] vo (([y] ++ [Lib.itoa cl]) ++ (fs.take j).map Lib.itoa))) (fun _ vi _ => fs.length - (intOf vi).toNat)
        case atStart => exact ⟨0, rfl, by omega, by rw [List.take_zero, List.map_nil, List.append_nil]; exact Q5.out⟩
        case round =>
          obtain ⟨j, rfl, hj, hP⟩ := hrel
          by_cases hlt : j < fs.length
          · obtain ⟨f, hf⟩ : ∃ f, fs[j]? = some f := ⟨_, List.getElem?_eq_getElem hlt⟩
            rcases hFA with hz | rfl
            · omega
            obtain ⟨b', off', e', hbw, hc⟩ := HI.out (by omega)
            obtain ⟨rfl, rfl⟩ : fb = b' ∧ foff = off' := by injection e' with e1; injection e1 with e1 e2; exact ⟨e1, e2⟩
            have hcell := (hP.out.fr.cell (p := ⟨fb, foff + j, none⟩) hbw).trans (hc j f hf)
            have HF := Lib.hid (HOK.out.f f (List.mem_of_getElem? hf))
            have HTK : Hid ((fs.take (j + 1)).map Lib.itoa = (fs.take j).map Lib.itoa ++ [Lib.itoa f]) := by unfold Hid; rw [List.take_add_one, hf]; simp
            clear hc e' hf
            go_wp2_with fail
            refine (itoa_any f HF.out.1 HF.out.2 _ hP.out.tabs).mono ?_
            rintro e w9 ⟨rfl, b9⟩
            have P9 := Lib.hid (hP.out.below b9)
            have HL9 : Hid ((([y] ++ [Lib.itoa cl]) ++ (fs.take j).map Lib.itoa).length ≤ 1048576) := by unfold Hid; rw [List.length_append, List.length_map, List.length_take]; have := HWL.out; omega
            clear b9 hcell
            go_wp2_with (at_builtin; refine wpList_appStr rfl _ _ rfl (w.heap.size + 1) _ _ rfl (P9.out.alloc _).own ⟨w9.heap.size, 0, none⟩ [Lib.itoa f] 1 1 rfl rfl (one_word _ _) HL9.out (by simp) (by have := P9.out.base; simp; omega) ?_; intro t9 q9 ho9 hg9; have Q9 := Lib.hid ((P9.out.alloc (.cells #[.string (ba (Lib.itoa f))] 9)).grown ho9 hg9); clear ho9 hg9)
            go_roundw
            case rel => exact ⟨j + 1, by go_num, by omega, by rw [HTK.out, ← List.append_assoc]; exact Q9.out⟩
            case measure => simp [intOf]; omega
          · obtain rfl : j = fs.length := by omega
            have HX := Lib.hid hP.out
            clear hP
            go_wp2_with fail
            go_ret
            refine ⟨⟨_, rfl, ?_⟩, HX.out.fr⟩
            rw [HWR.out]
            have h9 := HX.out.own
            rw [List.take_length] at h9
            exact h9
      · have HWR : Hid (writtenP ⟨8, cl, true, n, fs, ⟨ck, pg, sl, dt⟩⟩ = ([y] ++ [Lib.itoa cl]) ++ fs.map Lib.itoa) := by unfold Hid; rw [← HY.out]; rfl
        have HWL : Hid (([y] ++ [Lib.itoa cl]).length ≤ 10) := by unfold Hid; simp
        go_wp2_with (at_builtin; refine wpList_appStr rfl _ _ rfl (w.heap.size + 1) _ [y] rfl (S2.out.alloc _).own ⟨wc.heap.size, 0, none⟩ [Lib.itoa cl] 1 1 rfl rfl (words1 _ _) (by simp) (by simp) (by have := S2.out.base; simp; omega) ?_; intro t5 q5 ho5 hg5; have Q5 := Lib.hid ((S2.out.alloc (.cells #[.string (ba (Lib.itoa cl))] 9)).grown ho5 hg5); have z4 := Q5.out.x.cell 4; simp only [List.getElem?_toArray] at z4; clear ho5 hg5)
        clear z4 x0 x1 x2 x3 x4 x5 x6 x7 x8
        go_loopw [3, 61] (fun vo vi wr => ∃ j : Nat, vi = .int .i64 j ∧ j ≤ fs.length ∧ Hid (OSt w wr 60 #[.int .i64 8, .int .i64 cl, .bool true, .int .i64 n, .slice FA fs.length fc, .int .i64 ck, .int .i64 pg, .int .i64 sl, .string (ba dt)] vo (([y] ++ [Lib.itoa cl]) ++ (fs.take j).map Lib.itoa))) (fun _ vi _ => fs.length - (intOf vi).toNat)
        case atStart => exact ⟨0, rfl, by omega, by rw [List.take_zero, List.map_nil, List.append_nil]; exact Q5.out⟩
        case round =>
          obtain ⟨j, rfl, hj, hP⟩ := hrel
          by_cases hlt : j < fs.length
          · obtain ⟨f, hf⟩ : ∃ f, fs[j]? = some f := ⟨_, List.getElem?_eq_getElem hlt⟩
            rcases hFA with hz | rfl
            · omega
            obtain ⟨b', off', e', hbw, hc⟩ := HI.out (by omega)
            obtain ⟨rfl, rfl⟩ : fb = b' ∧ foff = off' := by injection e' with e1; injection e1 with e1 e2; exact ⟨e1, e2⟩
            have hcell := (hP.out.fr.cell (p := ⟨fb, foff + j, none⟩) hbw).trans (hc j f hf)
            have HF := Lib.hid (HOK.out.f f (List.mem_of_getElem? hf))
            have HTK : Hid ((fs.take (j + 1)).map Lib.itoa = (fs.take j).map Lib.itoa ++ [Lib.itoa f]) := by unfold Hid; rw [List.take_add_one, hf]; simp
            clear hc e' hf
            go_wp2_with fail
            refine (itoa_any f HF.out.1 HF.out.2 _ hP.out.tabs).mono ?_
            rintro e w9 ⟨rfl, b9⟩
            have P9 := Lib.hid (hP.out.below b9)
            have HL9 : Hid ((([y] ++ [Lib.itoa cl]) ++ (fs.take j).map Lib.itoa).length ≤ 1048576) := by unfold Hid; rw [List.length_append, List.length_map, List.length_take]; have := HWL.out; omega
            clear b9 hcell
            go_wp2_with (at_builtin; refine wpList_appStr rfl _ _ rfl (w.heap.size + 1) _ _ rfl (P9.out.alloc _).own ⟨w9.heap.size, 0, none⟩ [Lib.itoa f] 1 1 rfl rfl (one_word _ _) HL9.out (by simp) (by have := P9.out.base; simp; omega) ?_; intro t9 q9 ho9 hg9; have Q9 := Lib.hid ((P9.out.alloc (.cells #[.string (ba (Lib.itoa f))] 9)).grown ho9 hg9); clear ho9 hg9)
            go_roundw
            case rel => exact ⟨j + 1, by go_num, by omega, by rw [HTK.out, ← List.append_assoc]; exact Q9.out⟩
            case measure => simp [intOf]; omega
          · obtain rfl : j = fs.length := by omega
            have HX := Lib.hid hP.out
            clear hP
            go_wp2_with fail
            go_ret
            refine ⟨⟨_, rfl, ?_⟩, HX.out.fr⟩
            rw [HWR.out]
            have h9 := HX.out.own
            rw [List.take_length] at h9
            exact h9
    · cases up
      · have HWR : Hid (writtenP ⟨k, cl, false, n, fs, ⟨ck, pg, sl, dt⟩⟩ = [y] ++ fs.map Lib.itoa) := by
          have e1 : ¬ (k = 1) := by omega
          have e2 : ¬ (k = 2 ∨ k = 3 ∨ k = 4) := by omega
          have e3 : ¬ (k = 5 ∨ k = 8) := by omega
          have e4 : ¬ (k = 6 ∨ k = 7) := by omega
          unfold Hid; rw [← HY.out]; simp [writtenP, restP, e1, e2, e3, e4]
        have e1 : (k == 1) = false := by rw [beq_eq_false_iff_ne]; omega
        have e2 : (k == 2) = false := by rw [beq_eq_false_iff_ne]; omega
        have e3 : (k == 3) = false := by rw [beq_eq_false_iff_ne]; omega
        have e4 : (k == 4) = false := by rw [beq_eq_false_iff_ne]; omega
        have e5 : (k == 5) = false := by rw [beq_eq_false_iff_ne]; omega
        have e6 : (k == 6) = false := by rw [beq_eq_false_iff_ne]; omega
        have e7 : (k == 7) = false := by rw [beq_eq_false_iff_ne]; omega
        have e8 : (k == 8) = false := by rw [beq_eq_false_iff_ne]; omega
        have HWL : Hid ([y].length ≤ 10) := by unfold Hid; simp
        go_wp2_with fail
        clear x0 x1 x2 x3 x4 x5 x6 x7 x8
        go_loopw [3, 61] (fun vo vi wr => ∃ j : Nat, vi = .int .i64 j ∧ j ≤ fs.length ∧ Hid (OSt w wr 60 #[.int .i64 k, .int .i64 cl, .bool false, .int .i64 n, .slice FA fs.length fc, .int .i64 ck, .int .i64 pg, .int .i64 sl, .string (ba dt)] vo ([y] ++ (fs.take j).map Lib.itoa))) (fun _ vi _ => fs.length - (intOf vi).toNat)
        case atStart => exact ⟨0, rfl, by omega, by rw [List.take_zero, List.map_nil, List.append_nil]; exact S2.out⟩
        case round =>
          obtain ⟨j, rfl, hj, hP⟩ := hrel
          by_cases hlt : j < fs.length
          · obtain ⟨f, hf⟩ : ∃ f, fs[j]? = some f := ⟨_, List.getElem?_eq_getElem hlt⟩
            rcases hFA with hz | rfl
            · omega
            obtain ⟨b', off', e', hbw, hc⟩ := HI.out (by omega)
            obtain ⟨rfl, rfl⟩ : fb = b' ∧ foff = off' := by injection e' with e1; injection e1 with e1 e2; exact ⟨e1, e2⟩
            have hcell := (hP.out.fr.cell (p := ⟨fb, foff + j, none⟩) hbw).trans (hc j f hf)
            have HF := Lib.hid (HOK.out.f f (List.mem_of_getElem? hf))
            have HTK : Hid ((fs.take (j + 1)).map Lib.itoa = (fs.take j).map Lib.itoa ++ [Lib.itoa f]) := by unfold Hid; rw [List.take_add_one, hf]; simp
            clear hc e' hf
            go_wp2_with fail
            refine (itoa_any f HF.out.1 HF.out.2 _ hP.out.tabs).mono ?_
            rintro e w9 ⟨rfl, b9⟩
            have P9 := Lib.hid (hP.out.below b9)
            have HL9 : Hid (([y] ++ (fs.take j).map Lib.itoa).length ≤ 1048576) := by unfold Hid; rw [List.length_append, List.length_map, List.length_take]; have := HWL.out; omega
            clear b9 hcell
            go_wp2_with (at_builtin; refine wpList_appStr rfl _ _ rfl (w.heap.size + 1) _ _ rfl (P9.out.alloc _).own ⟨w9.heap.size, 0, none⟩ [Lib.itoa f] 1 1 rfl rfl (one_word _ _) HL9.out (by simp) (by have := P9.out.base; simp; omega) ?_; intro t9 q9 ho9 hg9; have Q9 := Lib.hid ((P9.out.alloc (.cells #[.string (ba (Lib.itoa f))] 9)).grown ho9 hg9); clear ho9 hg9)
            go_roundw
            case rel => exact ⟨j + 1, by go_num, by omega, by rw [HTK.out, ← List.append_assoc]; exact Q9.out⟩
            case measure => simp [intOf]; omega
          · obtain rfl : j = fs.length := by omega
            have HX := Lib.hid hP.out
            clear hP
            go_wp2_with fail
            go_ret
            refine ⟨⟨_, rfl, ?_⟩, HX.out.fr⟩
            rw [HWR.out]
            have h9 := HX.out.own
            rw [List.take_length] at h9
            exact h9
      · have HWR : Hid (writtenP ⟨k, cl, true, n, fs, ⟨ck, pg, sl, dt⟩⟩ = [y] ++ fs.map Lib.itoa) := by
          have e1 : ¬ (k = 1) := by omega
          have e2 : ¬ (k = 2 ∨ k = 3 ∨ k = 4) := by omega
          have e3 : ¬ (k = 5 ∨ k = 8) := by omega
          have e4 : ¬ (k = 6 ∨ k = 7) := by omega
          unfold Hid; rw [← HY.out]; simp [writtenP, restP, e1, e2, e3, e4]
        have e1 : (k == 1) = false := by rw [beq_eq_false_iff_ne]; omega
        have e2 : (k == 2) = false := by rw [beq_eq_false_iff_ne]; omega
        have e3 : (k == 3) = false := by rw [beq_eq_false_iff_ne]; omega
        have e4 : (k == 4) = false := by rw [beq_eq_false_iff_ne]; omega
        have e5 : (k == 5) = false := by rw [beq_eq_false_iff_ne]; omega
        have e6 : (k == 6) = false := by rw [beq_eq_false_iff_ne]; omega
        have e7 : (k == 7) = false := by rw [beq_eq_false_iff_ne]; omega
        have e8 : (k == 8) = false := by rw [beq_eq_false_iff_ne]; omega
        have HWL : Hid ([y].length ≤ 10) := by unfold Hid; simp
        go_wp2_with fail
        clear x0 x1 x2 x3 x4 x5 x6 x7 x8
        go_loopw [3, 61] (fun vo vi wr => ∃ j : Nat, vi = .int .i64 j ∧ j ≤ fs.length ∧ Hid (OSt w wr 60 #[.int .i64 k, .int .i64 cl, .bool true, .int .i64 n, .slice FA fs.length fc, .int .i64 ck, .int .i64 pg, .int .i64 sl, .string (ba dt)] vo ([y] ++ (fs.take j).map Lib.itoa))) (fun _ vi _ => fs.length - (intOf vi).toNat)
        case atStart => exact ⟨0, rfl, by omega, by rw [List.take_zero, List.map_nil, List.append_nil]; exact S2.out⟩
        case round =>
          obtain ⟨j, rfl, hj, hP⟩ := hrel
          by_cases hlt : j < fs.length
          · obtain ⟨f, hf⟩ : ∃ f, fs[j]? = some f := ⟨_, List.getElem?_eq_getElem hlt⟩
            rcases hFA with hz | rfl
            · omega
            obtain ⟨b', off', e', hbw, hc⟩ := HI.out (by omega)
            obtain ⟨rfl, rfl⟩ : fb = b' ∧ foff = off' := by injection e' with e1; injection e1 with e1 e2; exact ⟨e1, e2⟩
            have hcell := (hP.out.fr.cell (p := ⟨fb, foff + j, none⟩) hbw).trans (hc j f hf)
            have HF := Lib.hid (HOK.out.f f (List.mem_of_getElem? hf))
            have HTK : Hid ((fs.take (j + 1)).map Lib.itoa = (fs.take j).map Lib.itoa ++ [Lib.itoa f]) := by unfold Hid; rw [List.take_add_one, hf]; simp
            clear hc e' hf
            go_wp2_with fail
            refine (itoa_any f HF.out.1 HF.out.2 _ hP.out.tabs).mono ?_
            rintro e w9 ⟨rfl, b9⟩
            have P9 := Lib.hid (hP.out.below b9)
            have HL9 : Hid (([y] ++ (fs.take j).map Lib.itoa).length ≤ 1048576) := by unfold Hid; rw [List.length_append, List.length_map, List.length_take]; have := HWL.out; omega
            clear b9 hcell
            go_wp2_with (at_builtin; refine wpList_appStr rfl _ _ rfl (w.heap.size + 1) _ _ rfl (P9.out.alloc _).own ⟨w9.heap.size, 0, none⟩ [Lib.itoa f] 1 1 rfl rfl (one_word _ _) HL9.out (by simp) (by have := P9.out.base; simp; omega) ?_; intro t9 q9 ho9 hg9; have Q9 := Lib.hid ((P9.out.alloc (.cells #[.string (ba (Lib.itoa f))] 9)).grown ho9 hg9); clear ho9 hg9)
            go_roundw
            case rel => exact ⟨j + 1, by go_num, by omega, by rw [HTK.out, ← List.append_assoc]; exact Q9.out⟩
            case measure => simp [intOf]; omega
          · obtain rfl : j = fs.length := by omega
            have HX := Lib.hid hP.out
            clear hP
            go_wp2_with fail
            go_ret
            refine ⟨⟨_, rfl, ?_⟩, HX.out.fr⟩
            rw [HWR.out]
            have h9 := HX.out.own
            rw [List.take_length] at h9
            exact h9

end Go.Proofs.YtbikplckehbcnaaDoor
