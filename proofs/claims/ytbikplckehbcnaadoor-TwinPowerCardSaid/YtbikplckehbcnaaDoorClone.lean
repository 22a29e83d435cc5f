/- slices.Clone over slots; seneschalref03.Same; image. -/
import Derived.Test.YtbikplckehbcnaaDoorSect
import Derived.ArgAppend
set_option linter.unusedVariables false
set_option linter.unusedSimpArgs false
namespace Go.Proofs.YtbikplckehbcnaaDoor
open Go Go.RowKit

def slCells (xs : List Slt) : List Value := xs.flatMap fun x => [.bool x.1, .string x.2]
theorem slCells_length (xs : List Slt) : (slCells xs).length = xs.length * 2 := by
  induction xs with
  | nil => rfl
  | cons x xs ih => simp only [slCells, List.flatMap_cons, List.length_append, List.length_cons, List.length_nil] at ih ⊢; omega
theorem slCells_get (xs : List Slt) : ∀ q, (slCells xs)[q * 2]? = (xs[q]?).map (fun x => Value.bool x.1) ∧ (slCells xs)[q * 2 + 1]? = (xs[q]?).map (fun x => Value.string x.2) := by
  induction xs with
  | nil => intro q; simp [slCells]
  | cons x xs ih =>
    intro q
    have e : slCells (x :: xs) = Value.bool x.1 :: Value.string x.2 :: slCells xs := rfl
    rw [e]
    cases q with
    | zero => simp
    | succ q =>
      rw [show (q + 1) * 2 = q * 2 + 1 + 1 by omega, show q * 2 + 1 + 1 + 1 = (q * 2 + 1) + 1 + 1 by omega]
      simp only [List.getElem?_cons_succ]
      exact ih q
theorem slCells_oneCell (xs : List Slt) : ∀ u ∈ slCells xs, u.oneCell' = true := by
  intro u hu
  obtain ⟨x, _, hx⟩ := List.mem_flatMap.1 hu
  simp at hx
  rcases hx with rfl | rfl <;> rfl
theorem Slots.cells {w : World} {F : Nat → Prop} {b off : Nat} {xs : List Slt} (h : ∀ (j : Nat) (x : Slt), xs[j]? = some x → w.cell? ⟨b, off + j * 2, none⟩ = some (.bool x.1) ∧ w.cell? ⟨b, off + j * 2 + 1, none⟩ = some (.string x.2) ∧ x.2.size ≤ maxLen) :
    ∀ j u, (slCells xs)[j]? = some u → w.cell? (Addr.add ⟨b, off, none⟩ j) = some u := by
  intro j u hu
  rw [Addr.add_lit]
  have hj := (List.getElem?_eq_some_iff.1 hu).1
  rw [slCells_length] at hj
  obtain ⟨x, hx⟩ : ∃ x, xs[j / 2]? = some x := ⟨_, List.getElem?_eq_getElem (by omega)⟩
  obtain ⟨h0, h1, _⟩ := h _ x hx
  obtain ⟨g0, g1⟩ := slCells_get xs (j / 2)
  rcases Nat.mod_two_eq_zero_or_one j with e | e
  · rw [show j / 2 * 2 = j by omega] at g0 h0
    rw [h0, ← hu, g0, hx]; rfl
  · rw [show j / 2 * 2 + 1 = j by omega] at g1
    rw [show off + j / 2 * 2 + 1 = off + j by omega] at h1
    rw [h1, ← hu, g1, hx]; rfl
theorem Slots.of_row {w : World} {F : Nat → Prop} {lo : Nat} {v : Value} {xs : List Slt} (h : w.ownsRow lo 78 2 v xs.length (slCells xs)) (hF : ∀ k, lo ≤ k → ¬ F k) (hs : ∀ x ∈ xs, x.2.size ≤ maxLen) : ∃ A c, v = .slice A xs.length c ∧ Slots w F A xs := by
  rcases Nat.eq_zero_or_pos xs.length with hz | hz
  · obtain ⟨A, c, e⟩ := own_slice h
    obtain rfl := List.length_eq_zero_iff.1 hz
    exact ⟨A, c, e, Slots.nil _ _ _⟩
  · obtain ⟨g, c, e, _⟩ := h.form hz
    subst e
    refine ⟨_, c, rfl, fun _ => ⟨g, 0, rfl, (h.lt g rfl).2, hF g (h.lt g rfl).1, fun j x hx => ?_⟩⟩
    obtain ⟨g0, g1⟩ := slCells_get xs j
    rw [hx] at g0 g1
    have h0 := h.cells (g := g) rfl (j * 2) _ g0
    have h1 := h.cells (g := g) rfl (j * 2 + 1) _ g1
    rw [Addr.add_lit] at h0 h1
    exact ⟨h0, by rw [← Nat.add_assoc] at h1; exact h1, hs x (List.mem_of_getElem? hx)⟩
theorem Slots.sizes {w : World} {F : Nat → Prop} {A : Option Addr} {xs : List Slt} (h : Slots w F A xs) : ∀ x ∈ xs, x.2.size ≤ maxLen := by
  intro x hx
  obtain ⟨j, hj⟩ := List.getElem?_of_mem hx
  obtain ⟨b, off, _, _, _, hc⟩ := h (List.length_pos_of_mem hx)
  exact (hc j x hj).2.2

theorem slot_info : ((Tryd.prog.info? 78).map fun i => (i.zero, i.size, i.bytes)) = some (some (.agg #[.bool false, .string ⟨#[]⟩]), 2, 24) := by kernel_rfl

set_option maxRecDepth 100000 in
set_option maxHeartbeats 1000000 in
theorem clone_any (w : World) (F : Nat → Prop) (A : Option Addr) (c : Nat) (xs : List Slt) (hx : Slots w F A xs) (hl : xs.length ≤ 1099511627776) :
    Calls Tryd.prog 45 #[.slice A xs.length c] w fun e w' => (∃ A' c', e = .returned (.slice A' xs.length c') ∧ Slots w' (fun k => k < w.heap.size) A' xs) ∧ Below w.heap.size w w' := by
  obtain ⟨i0, hi, hz⟩ := Option.map_eq_some_iff.1 slot_info
  simp only [Prod.mk.injEq] at hz
  have HX := Lib.hid hx
  have HZ := Lib.hid hz
  have HI := Lib.hid hi
  clear hx hz hi
  have he : ∀ (W : World) (a : Option Addr) (n c : Nat), (binOp .eql 23 (.slice a n c) (.slice none 0 0)).run Tryd.prog W = .ok (.bool a.isNone) W := fun W a n c => Lib.run_eql_slice_nil W _ _ a n c 0 0 Tryd.underlying23
  have HE := Lib.hid he
  clear he
  cases A with
  | none =>
    have h1 : xs.length = 0 := by
      rcases Nat.eq_zero_or_pos xs.length with h | h
      · exact h
      · obtain ⟨b, off, e, _⟩ := HX.out h; cases e
    have H1 := Lib.hid h1
    clear h1
    have he : ∀ W : World, (binOp .eql 23 (.slice none xs.length c) (.slice none 0 0)).run Tryd.prog W = .ok (.bool true) W := fun W => HE.out W none _ _
    go_enter Tryd.func45, Tryd.ntmps45
    go_wp2_with fail
    go_ret
    exact ⟨⟨none, 0, by rw [H1.out]; rfl, fun h => by have := H1.out; omega⟩, Below.refl _ _⟩
  | some a =>
    have he : ∀ W : World, (binOp .eql 23 (.slice (some a) xs.length c) (.slice none 0 0)).run Tryd.prog W = .ok (.bool false) W := fun W => HE.out W (some a) _ _
    have hc : ∀ j u, (slCells xs)[j]? = some u → (w.alloc (.cells #[] 78)).cell? (a.add j) = some u := by
      intro j u hu
      have hpos : 0 < xs.length := by have := (List.getElem?_eq_some_iff.1 hu).1; rw [slCells_length] at this; omega
      obtain ⟨b, off, e, hb, _, hcell⟩ := HX.out hpos
      obtain rfl : a = ⟨b, off, none⟩ := Option.some.inj e
      exact (((Fr.refl Nope w).alloc _).cell (p := Addr.add ⟨b, off, none⟩ j) (by rw [Addr.add_lit]; exact hb) (fun h => h)).trans (Slots.cells (F := F) hcell j u hu)
    have HC := Lib.hid hc
    have HL := Lib.hid hl
    clear hc hl
    have HBel : Hid (Below w.heap.size w (w.alloc (.cells #[] 78))) := (Below.refl _ _).alloc (Nat.le_refl _) _
    rcases Nat.eq_zero_or_pos xs.length with hz | hz
    · obtain rfl : xs = [] := List.length_eq_zero_iff.1 hz
      simp only [List.length_nil] at he
      go_enter Tryd.func45, Tryd.ntmps45
      go_wp2_with (at_builtin; refine wpList_append_arg _ rfl _ _ 23 rfl 78 i0 (.agg #[.bool false, .string ⟨#[]⟩]) 2 24 Tryd.underlying23 HI.out HZ.out.1 HZ.out.2.1 HZ.out.2.2 rfl (by decide) w.heap.size 0 0 0 [] rfl rfl (by simp) a 0 c (slCells []) rfl rfl HC.out (slCells_oneCell []) ?h1 ?h2 ?h3 ?h4 ?h5; (case h1 => intro _ j hj; simp [slCells] at hj); (case h2 => decide); (case h3 => decide); (case h5 => intro h; omega); intro _)
      go_ret
      exact ⟨⟨some ⟨w.heap.size, 0, none⟩, 0, rfl, fun h => by simp at h⟩, HBel.out⟩
    · go_enter Tryd.func45, Tryd.ntmps45
      go_wp2_with (at_builtin; refine wpList_append_arg _ rfl _ _ 23 rfl 78 i0 (.agg #[.bool false, .string ⟨#[]⟩]) 2 24 Tryd.underlying23 HI.out HZ.out.1 HZ.out.2.1 HZ.out.2.2 rfl (by decide) w.heap.size 0 0 0 [] rfl rfl (by simp) a xs.length c (slCells xs) rfl (slCells_length xs) HC.out (slCells_oneCell xs) ?g1 ?g2 ?g3 ?g4 ?g5; (case g1 => intro h; omega); (case g2 => have := HL.out; simp only [maxLen]; omega); (case g3 => have := HL.out; omega); (case g4 => intro h; omega); intro _ v' w' hown hgrow; have HOWN := Lib.hid hown; have HGROW := Lib.hid hgrow; clear hown hgrow)
      go_ret
      have ho := HOWN.out
      rw [Nat.zero_add, List.nil_append] at ho
      obtain ⟨A', c', rfl, hsl⟩ := Slots.of_row (F := fun k => k < w.heap.size) ho (fun k hk => by simp at hk; omega) HX.out.sizes
      exact ⟨⟨A', c', rfl, hsl⟩, HBel.out.trans ((((Fr.refl Nope _).grown HGROW.out (fun k hk => by cases hk)).toBelow (Nat.le_refl _) (fun k hk => hk.elim)).mono HBel.out.size)⟩

/-! ### results that are a page -/
theorem page_info : ((Tryd.prog.info? 25).map (·.size)) = some 2 := by kernel_rfl
theorem pg_load (W : World) (g : Nat) (t : TypeId) (u v : Value) (hb : Blk W g t #[u, v]) : (loadVar 25 ⟨g, 0, none⟩).run Tryd.prog W = .ok (.agg #[u, v]) W :=
  run_loadVar_row W g t 25 #[u, v] (0, 0) _ hb Tryd.underlying25 rfl page_info
theorem pg_results {fn : Func} {p : Tmp} (h : fn.results = #[.cell p 25]) (tmps : Array Value) (W : World) (g : Nat) (t : TypeId) (u v : Value) (hp : tmps.getD p undef = .pointer (some ⟨g, 0, none⟩)) (hb : Blk W g t #[u, v]) :
    (results fn tmps).run Tryd.prog W = .ok (.agg #[u, v]) W :=
  results_cell_row h tmps W g t #[u, v] (0, 0) _ hp hb Tryd.underlying25 rfl page_info
theorem pg_results2 {fn : Func} {p q : Tmp} (h : fn.results = #[.cell p 25, .tmp q]) (tmps : Array Value) (W : World) (g : Nat) (t : TypeId) (u v x : Value) (hp : tmps.getD p undef = .pointer (some ⟨g, 0, none⟩)) (hq : tmps.getD q undef = x) (hb : Blk W g t #[u, v]) :
    (results fn tmps).run Tryd.prog W = .ok (.tuple #[.agg #[u, v], x]) W := by
  rw [results_cell_tmp h, hp, hq]
  simp [asAddr, pg_load W g t u v hb]

set_option maxRecDepth 100000 in
theorem image_any (w : World) (l : Int) (t : ByteArray) (ht : t.size ≤ maxLen) :
    Calls Tryd.prog 14 #[.int .i64 l, .string t] w fun e w' => e = .returned (.agg #[.int .i64 l, .slice (some ⟨w.heap.size + 1, 0, none⟩) 1 1]) ∧ Slots w' (fun k => k < w.heap.size) (some ⟨w.heap.size + 1, 0, none⟩) [(true, t)] ∧ Below w.heap.size w w' := by
  go_enter Tryd.func14, Tryd.ntmps14
  go_wp2_with fail
  have hb := (Blk.new w 25 #[.int .i64 l, .slice (some ⟨w.heap.size + 1, 0, none⟩) 1 1]).alloc (.cells #[.bool true, .string t] 78)
  have hc := Blk.new (w.alloc (.cells #[.int .i64 l, .slice (some ⟨w.heap.size + 1, 0, none⟩) 1 1] 25)) 78 #[.bool true, .string t]
  rw [show (w.alloc (.cells #[.int .i64 l, .slice (some ⟨w.heap.size + 1, 0, none⟩) 1 1] 25)).heap.size = w.heap.size + 1 by simp] at hc
  refine bodyPost_ret (pg_results rfl _ _ _ _ _ _ rfl hb) rfl ?_
  refine ⟨rfl, fun _ => ⟨_, 0, rfl, hc.lt, by omega, fun j x hx => ?_⟩, ((Below.refl _ _).alloc (Nat.le_refl _) _).alloc (by simp) _⟩
  match j, hx with
  | 0, hx =>
    simp at hx
    subst hx
    exact ⟨hc.cell 0, hc.cell 1, ht⟩

def sameP (l l' : Int) (xs ys : List Slt) : Bool := decide (l = l') && decide (xs = ys)
theorem toList_beq (t u : ByteArray) : (t.toList == u.toList) = decide (t = u) := by
  rw [Bool.eq_iff_iff, beq_iff_eq, decide_eq_true_eq, ByteArray.toList_eq, ByteArray.toList_eq]
  constructor
  · intro h; cases t; cases u; congr 1; exact Array.ext' h
  · intro h; rw [h]
set_option maxRecDepth 100000 in
set_option maxHeartbeats 1000000 in
theorem same_at (w : World) (F : Nat → Prop) (l l' : Int) (A A' : Option Addr) (n m c c' : Nat) (xs ys : List Slt) (HX : Hid (Slots w F A xs)) (HY : Hid (Slots w F A' ys)) (HN : Hid (xs.length = n)) (HM : Hid (ys.length = m)) (hl : n ≤ 4611686018427387904) (hl' : m ≤ 4611686018427387904) :
    Calls Tryd.prog 17 #[.agg #[.int .i64 l, .slice A n c], .agg #[.int .i64 l', .slice A' m c']] w fun e w' => e = .returned (.bool (sameP l l' xs ys)) ∧ Below w.heap.size w w' := by
  have HBel : Hid (Below w.heap.size w ((w.alloc (.cells #[.int .i64 l, .slice A n c] 25)).alloc (.cells #[.int .i64 l', .slice A' m c'] 25))) := ((Below.refl _ _).alloc (Nat.le_refl _) _).alloc (by simp) _
  by_cases h1 : l = l'
  · subst h1
    by_cases h2 : n = m
    · subst h2
      go_enter Tryd.func17, Tryd.ntmps17
      go_wp2_with fail
      have hbx := (Blk.new w 25 #[.int .i64 l, .slice A n c]).alloc (.cells #[.int .i64 l, .slice A' n c'] 25)
      have hby := Blk.new (w.alloc (.cells #[.int .i64 l, .slice A n c] 25)) 25 #[.int .i64 l, .slice A' n c']
      rw [World.size_alloc] at hby
      have HBX := Lib.hid hbx
      have HBY := Lib.hid hby
      clear hbx hby
      generalize (w.alloc (.cells #[.int .i64 l, .slice A n c] 25)).alloc (.cells #[.int .i64 l, .slice A' n c'] 25) = w2 at *
      go_loopw [5] (fun i wr => ∃ k : Nat, k ≤ n ∧ i = .int .i64 k ∧ Hid (xs.take k = ys.take k) ∧ Below w2.heap.size w2 wr) (fun i _ => n - (intOf i).toNat)
      case atStart => exact ⟨0, by omega, rfl, by rw [List.take_zero, List.take_zero]; rfl, Below.refl _ _⟩
      case round =>
        obtain ⟨k, hk, rfl, hn, hB⟩ := hrel
        have hg1 := (HBX.out.below hB HBX.out.lt).cell 1
        have hg2 := (HBY.out.below hB HBY.out.lt).cell 1
        simp only [List.getElem?_toArray] at hg1 hg2
        by_cases hlt : k < n
        · obtain ⟨x, hxk⟩ : ∃ x, xs[k]? = some x := ⟨_, List.getElem?_eq_getElem (by rw [HN.out]; exact hlt)⟩
          obtain ⟨y, hyk⟩ : ∃ y, ys[k]? = some y := ⟨_, List.getElem?_eq_getElem (by rw [HM.out]; exact hlt)⟩
          obtain ⟨b, off, rfl, hbw, _, hc⟩ := HX.out (by rw [HN.out]; omega)
          obtain ⟨b', off', rfl, hbw', _, hc'⟩ := HY.out (by rw [HM.out]; omega)
          obtain ⟨hc1, hc2, _⟩ := hc k x hxk
          obtain ⟨hd1, hd2, _⟩ := hc' k y hyk
          have hBw := Lib.hid (HBel.out.trans (hB.mono HBel.out.size))
          have hx1 : wr.cell? ⟨b, off + k * 2, none⟩ = some (.bool x.1) := (hBw.out.cell (p := ⟨b, off + k * 2, none⟩) hbw).trans hc1
          have hx2 : wr.cell? ⟨b, off + k * 2 + 1, none⟩ = some (.string x.2) := (hBw.out.cell (p := ⟨b, off + k * 2 + 1, none⟩) hbw).trans hc2
          have hy1 : wr.cell? ⟨b', off' + k * 2, none⟩ = some (.bool y.1) := (hBw.out.cell (p := ⟨b', off' + k * 2, none⟩) hbw').trans hd1
          have hy2 : wr.cell? ⟨b', off' + k * 2 + 1, none⟩ = some (.string y.2) := (hBw.out.cell (p := ⟨b', off' + k * 2 + 1, none⟩) hbw').trans hd2
          have HXK := Lib.hid hxk
          have HYK := Lib.hid hyk
          clear hc hc' hc1 hc2 hd1 hd2 hxk hyk
          obtain ⟨u, t⟩ := x
          obtain ⟨u', t'⟩ := y
          have hfin : ∀ (W : World), (u, t) ≠ (u', t') → Ending.returned (Value.bool false) = Ending.returned (Value.bool (sameP l l xs ys)) := by
            intro W hne
            have : sameP l l xs ys = false := by
              unfold sameP
              rw [decide_eq_false (p := xs = ys) (fun h => hne (by have h1 := HXK.out; rw [h, HYK.out] at h1; exact (Option.some.inj h1).symm))]
              simp
            exact (congrArg (fun b => Ending.returned (Value.bool b)) this).symm
          have HFIN := Lib.hid hfin
          clear hfin
          by_cases hu : u = u'
          · by_cases ht : t.toList = t'.toList
            · obtain rfl : t = t' := by have := toList_beq t t'; rw [beq_iff_eq.2 ht] at this; simpa using this.symm
              subst hu
              clear ht
              have HNX : Hid (xs.take (k + 1) = ys.take (k + 1)) := by
                unfold Hid
                rw [List.take_add_one, List.take_add_one, hn.out, HXK.out, HYK.out]
              clear HFIN
              go_upto_region 6 with fail
              go_region
              all_goals go_wp2_with fail
              all_goals go_roundw
              case rel => exact ⟨k + 1, by omega, by go_num, HNX, hB.drew⟩
              case measure => simp [intOf]; omega
            · subst hu
              have HT := Lib.hid ht
              go_upto_region 6 with fail
              go_region
              all_goals go_wp2_with fail
              go_ret
              exact ⟨HFIN.out wr (fun h => HT.out (by rw [(Prod.mk.inj h).2])), hBw.out.drew⟩
          · have HU := Lib.hid hu
            go_upto_region 6 with fail
            go_region
            all_goals go_wp2_with fail
            go_ret
            exact ⟨HFIN.out wr (fun h => HU.out (Prod.mk.inj h).1), hBw.out.drew⟩
        · obtain rfl : k = n := by omega
          go_wp2_with fail
          go_ret
          refine ⟨?_, HBel.out.trans (hB.mono HBel.out.size)⟩
          have h3 := hn.out
          rw [List.take_of_length_le (Nat.le_of_eq HN.out), List.take_of_length_le (Nat.le_of_eq HM.out)] at h3
          have : sameP l l xs ys = true := by unfold sameP; rw [decide_eq_true rfl, decide_eq_true h3]; rfl
          exact (congrArg (fun b => Ending.returned (Value.bool b)) this).symm
    · have h2' : ((n : Int) == (m : Int)) = false := by rw [beq_eq_false_iff_ne]; omega
      have H2 := Lib.hid h2
      clear h2
      go_enter Tryd.func17, Tryd.ntmps17
      go_wp2_with fail
      go_ret
      refine ⟨?_, HBel.out⟩
      have : sameP l l xs ys = false := by unfold sameP; rw [decide_eq_false (p := xs = ys) (fun h => H2.out (by rw [← HN.out, ← HM.out, h]))]; simp
      exact (congrArg (fun b => Ending.returned (Value.bool b)) this).symm
  · have h1' : (l == l') = false := by rw [beq_eq_false_iff_ne]; exact h1
    have H1 := Lib.hid h1
    clear h1
    go_enter Tryd.func17, Tryd.ntmps17
    go_wp2_with fail
    go_ret
    refine ⟨?_, HBel.out⟩
    have : sameP l l' xs ys = false := by unfold sameP; rw [decide_eq_false H1.out]; rfl
    exact (congrArg (fun b => Ending.returned (Value.bool b)) this).symm
theorem same_any (w : World) (F : Nat → Prop) (l l' : Int) (A A' : Option Addr) (c c' : Nat) (xs ys : List Slt) (hx : Slots w F A xs) (hy : Slots w F A' ys) (hl : xs.length ≤ 4611686018427387904) (hl' : ys.length ≤ 4611686018427387904) :
    Calls Tryd.prog 17 #[.agg #[.int .i64 l, .slice A xs.length c], .agg #[.int .i64 l', .slice A' ys.length c']] w fun e w' => e = .returned (.bool (sameP l l' xs ys)) ∧ Below w.heap.size w w' :=
  same_at w F l l' A A' _ _ c c' xs ys hx hy rfl rfl hl hl'

end Go.Proofs.YtbikplckehbcnaaDoor
