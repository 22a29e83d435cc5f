/- tome.Script: the walk. -/
import Derived.Test.YtbikplckehbcnaaDoorTmP
import Derived.Test.YtbikplckehbcnaaDoorTmV
set_option linter.unusedVariables false
set_option linter.unusedSimpArgs false
namespace Go.Proofs.YtbikplckehbcnaaDoor
open Go Go.RowKit Go.Shelf

attribute [local go_sem] Oper.semAt_some

/-- The cells of steps that lie one behind the other. -/
def stL (ps : List (StepP × Value)) : List Value := ps.flatMap fun p => (stC p.1 p.2).toList
theorem stL_snoc (ps : List (StepP × Value)) (p : StepP × Value) : stL (ps ++ [p]) = stL ps ++ (stC p.1 p.2).toList := by simp [stL]
/-- The steps ss lie behind v. -/
def StepsAt (w : World) (base : Nat) (v : Value) (ss : List StepP) : Prop :=
  ∃ ps : List (StepP × Value), ps.map (·.1) = ss ∧ w.ownsRow base 60 9 v ps.length (stL ps) ∧ ∀ p ∈ ps, OwnI w base p.2 p.1.fates

theorem row_cells {w : World} {base : Nat} {e : TypeId} {size : Nat} {v : Value} {n : Nat} {xs : List Value} (h : w.ownsRow base e size v n xs) : ∀ g, v.ownBlock = some g → ∃ cs, w.heap[g]? = some (.cells cs e (0, 0)) := fun g hg => by
  rcases h.2 with ⟨rfl, _⟩ | ⟨g', cap, cur, rfl, _, hh, _⟩
  · simp [Value.ownBlock] at hg
  · have : g' = g := by simpa [Value.ownBlock] using hg
    subst this
    exact ⟨_, hh⟩
theorem keeps_fr {B : Nat} {F : Nat → Prop} {W W' : World} (hf : Fr F W W') (hF : ∀ k o, W.heap[k]? = some o → o.isCells = false → ¬ F k) : KeepsFrom B W W' :=
  ⟨hf.size, fun k o _ hk hc => (hf.block k (Array.getElem?_eq_some_iff.1 hk).1 (hF k o hk hc)).trans hk⟩

/-- What holds when the lines pre have been gone through. -/
structure SX (w : World) (pre : List Bs) (W : World) (v : Value) (y : ByteArray) (ps : List (StepP × Value)) : Prop where
  b1 : Blk W w.heap.size 67 #[v]
  b2 : Blk W (w.heap.size + 1) 3 #[.int .i64 (skipsP pre : Int)]
  b3 : Blk W (w.heap.size + 2) 9 #[.string y]
  e : ps.map (·.1) = stepsP pre
  ho : W.ownsRow (w.heap.size + 5) 60 9 v ps.length (stL ps)
  hi : ∀ p ∈ ps, OwnI W (w.heap.size + 5) p.2 p.1.fates
  hb : Below w.heap.size w W
  ht : Tabs W
  h8 : 8 ≤ w.heap.size
  sz : w.heap.size + 5 ≤ W.heap.size
def SI (w : World) (pre : List Bs) (W : World) : Prop := ∃ v y ps, SX w pre W v y ps

theorem SX.fr {w W W' : World} {pre : List Bs} {v : Value} {y : ByteArray} {ps : List (StepP × Value)} {F : Nat → Prop} (h : SX w pre W v y ps) (hf : Fr F W W') (hF : ∀ k t cs fr, W.heap[k]? = some (.cells cs t fr) → ¬ F k) (h3 : ∀ k, F k → w.heap.size ≤ k) : SX w pre W' v y ps where
  b1 := h.b1.fr hf (hF _ _ _ _ h.b1)
  b2 := h.b2.fr hf (hF _ _ _ _ h.b2)
  b3 := h.b3.fr hf (hF _ _ _ _ h.b3)
  e := h.e
  ho := own_fr h.ho hf (fun g hg => by obtain ⟨cs, hc⟩ := row_cells h.ho g hg; exact hF _ _ _ _ hc)
  hi := fun p hp => own_fr (h.hi p hp) hf (fun g hg => by obtain ⟨cs, hc⟩ := row_cells (h.hi p hp) g hg; exact hF _ _ _ _ hc)
  hb := h.hb.trans (hf.toBelow h.hb.size h3)
  ht := h.ht.fr hf (fun b hb8 hfb => by have := h3 b hfb; have := h.h8; omega)
  h8 := h.h8
  sz := Nat.le_trans h.sz hf.size
theorem SX.below {w W W' : World} {pre : List Bs} {v : Value} {y : ByteArray} {ps : List (StepP × Value)} (h : SX w pre W v y ps) (hb : Below W.heap.size W W') : SX w pre W' v y ps := h.fr (F := Nope) ((Fr.refl _ _).below hb) (fun _ _ _ _ _ h => h) (fun _ h => h.elim)
/-- A cell of the call's own, below the rows, is written. -/
theorem SX.rows {w W : World} {pre : List Bs} {v : Value} {y : ByteArray} {ps : List (StepP × Value)} (h : SX w pre W v y ps) (g : Nat) (hg : w.heap.size ≤ g) (hg5 : g < w.heap.size + 5) (u : Value) :
    (W.setCell ⟨g, 0, none⟩ u).ownsRow (w.heap.size + 5) 60 9 v ps.length (stL ps) ∧ (∀ p ∈ ps, OwnI (W.setCell ⟨g, 0, none⟩ u) (w.heap.size + 5) p.2 p.1.fates) ∧ Below w.heap.size w (W.setCell ⟨g, 0, none⟩ u) ∧ Tabs (W.setCell ⟨g, 0, none⟩ u) := by
  have hf : Fr (One g) W (W.setCell ⟨g, 0, none⟩ u) := (Fr.refl _ W).one 0 _
  exact ⟨own_fr h.ho hf (fun k hk e => by have := own_row_ge h.ho k hk; have : k = g := e; omega), fun p hp => own_fr (h.hi p hp) hf (fun k hk e => by have := own_row_ge (h.hi p hp) k hk; have : k = g := e; omega), h.hb.setCell (p := ⟨g, 0, none⟩) hg _, h.ht.fr hf (fun b hb8 hfb => by have : b = g := hfb; have := h.h8; omega)⟩
theorem SX.cell {w W : World} {pre : List Bs} {v : Value} {y : ByteArray} {ps : List (StepP × Value)} (h : SX w pre W v y ps) (x : ByteArray) : SX w pre (W.setCell ⟨w.heap.size + 2, 0, none⟩ (.string x)) v x ps := by
  obtain ⟨r1, r2, r3, r4⟩ := h.rows (w.heap.size + 2) (by omega) (by omega) (.string x)
  exact ⟨h.b1.far (by simp) _, h.b2.far (by simp) _, h.b3.set_ 0 _, h.e, r1, r2, r3, r4, h.h8, by simpa [World.setCell] using h.sz⟩
theorem SX.skip {w W : World} {pre : List Bs} {v : Value} {y : ByteArray} {ps : List (StepP × Value)} {x : Bs} (h : SX w pre W v y ps) (hs : lineP x = []) (hk : skipP x = 0) : SX w (pre ++ [x]) W v y ps := by
  have e1 : skipsP (pre ++ [x]) = skipsP pre := by simp [skipsP, hk]
  have e2 : stepsP (pre ++ [x]) = stepsP pre := by simp [stepsP, hs]
  exact ⟨h.b1, by rw [e1]; exact h.b2, h.b3, by rw [e2]; exact h.e, h.ho, h.hi, h.hb, h.ht, h.h8, h.sz⟩
theorem SX.junk {w W : World} {pre : List Bs} {v : Value} {y : ByteArray} {ps : List (StepP × Value)} {x : Bs} (h : SX w pre W v y ps) (hs : lineP x = []) (hk : skipP x = 1) : SX w (pre ++ [x]) (W.setCell ⟨w.heap.size + 1, 0, none⟩ (.int .i64 ((skipsP pre : Int) + 1))) v y ps := by
  have e1 : (skipsP (pre ++ [x]) : Int) = (skipsP pre : Int) + 1 := by simp [skipsP, hk]
  have e2 : stepsP (pre ++ [x]) = stepsP pre := by simp [stepsP, hs]
  obtain ⟨r1, r2, r3, r4⟩ := h.rows (w.heap.size + 1) (by omega) (by omega) (.int .i64 ((skipsP pre : Int) + 1))
  exact ⟨h.b1.far (by simp) _, by rw [e1]; exact h.b2.set_ 0 _, h.b3.far (by simp) _, by rw [e2]; exact h.e, r1, r2, r3, r4, h.h8, by simpa [World.setCell] using h.sz⟩
theorem SX.add {w W W7 : World} {pre : List Bs} {v v7 v5 : Value} {y : ByteArray} {ps : List (StepP × Value)} {x : Bs} {s : StepP} (h : SX w pre W v y ps) (hs : lineP x = [s]) (hk : skipP x = 0) (hO : OwnI W (w.heap.size + 5) v5 s.fates) (hg : W.grownBy W7 v.ownBlock)
    (ho7 : W7.ownsRow (w.heap.size + 5) 60 9 v7 (ps.length + 1) (stL ps ++ (stC s v5).toList)) : SX w (pre ++ [x]) (W7.setCell ⟨w.heap.size, 0, none⟩ v7) v7 y (ps ++ [(s, v5)]) := by
  have hf : Fr (fun k => v.ownBlock = some k) W W7 := (Fr.refl _ _).grown hg (fun k hk => .inl hk)
  have hge := own_row_ge h.ho
  have hty : ∀ k t cs, Blk W k t cs → t ≠ 60 → ¬ (v.ownBlock = some k) := fun k t cs hb ht e => own_blk_ne h.ho hb (fun e2 => ht e2.symm) e
  have hrow : ∀ (v' : Value) (fs : List Int), OwnI W (w.heap.size + 5) v' fs → OwnI W7 (w.heap.size + 5) v' fs := fun v' fs ho => own_fr ho hf (fun g hg' e => by
    obtain ⟨cs, hc⟩ := row_cells ho g hg'
    exact hty g _ cs hc (by decide) e)
  have e1 : skipsP (pre ++ [x]) = skipsP pre := by simp [skipsP, hk]
  have e2 : stepsP (pre ++ [x]) = stepsP pre ++ [s] := by simp [stepsP, hs]
  have b1 : Blk W7 w.heap.size 67 #[v] := h.b1.fr hf (fun e => by have := hge _ e; omega)
  have b2 := h.b2.fr hf (fun e => by have := hge _ e; omega)
  have b3 := h.b3.fr hf (fun e => by have := hge _ e; omega)
  have hf2 : Fr (One w.heap.size) W7 (W7.setCell ⟨w.heap.size, 0, none⟩ v7) := (Fr.refl _ _).one 0 _
  have hlow : ∀ {v' : Value} {e' : TypeId} {sz n : Nat} {xs : List Value}, W7.ownsRow (w.heap.size + 5) e' sz v' n xs → ∀ g, v'.ownBlock = some g → ¬ One w.heap.size g := fun ho g hg' e => by
    have := own_row_ge ho g hg'
    have : g = w.heap.size := e
    omega
  refine ⟨b1.set_ 0 _, by rw [e1]; exact b2.far (by simp) _, b3.far (by simp) _, by rw [List.map_append, h.e, e2]; rfl, ?_, ?_, ?_, ?_, h.h8, ?_⟩
  · have := own_fr ho7 hf2 (hlow ho7)
    rw [List.length_append, stL_snoc]
    exact this
  · intro p hp
    rcases List.mem_append.1 hp with hp | hp
    · exact own_fr (hrow _ _ (h.hi p hp)) hf2 (hlow (hrow _ _ (h.hi p hp)))
    · obtain rfl : p = (s, v5) := by simpa using hp
      exact own_fr (hrow _ _ hO) hf2 (hlow (hrow _ _ hO))
  · exact (h.hb.trans (hf.toBelow h.hb.size (fun k hk => by have := hge _ hk; omega))).setCell (p := ⟨w.heap.size, 0, none⟩) (Nat.le_refl _) _
  · exact (h.ht.fr hf (fun b hb e => by have := hge _ e; have := h.h8; omega)).fr hf2 (fun b hb e => by have : b = w.heap.size := e; have := h.h8; omega)
  · have := hf.size
    have := h.sz
    simp [World.setCell]
    omega

theorem lineP_note {x : Bs} (h : isNote x = true) : lineP x = [] ∧ skipP x = 0 := by simp [lineP, skipP, h]
theorem lineP_none {x : Bs} (h : isNote x = false) (hp : parseP (cutAt 32 x) = none) : lineP x = [] ∧ skipP x = 1 := by simp [lineP, skipP, h, hp]
theorem lineP_some {x : Bs} {s : StepP} (h : isNote x = false) (hp : parseP (cutAt 32 x) = some s) : lineP x = [s] ∧ skipP x = 0 := by simp [lineP, skipP, h, hp]
theorem skipP_le (x : Bs) : skipP x ≤ 1 := by unfold skipP; split <;> (try split) <;> omega
theorem skips_le : ∀ l : List Bs, skipsP l ≤ l.length
  | [] => Nat.le_refl _
  | x :: l => by
    have := skips_le l
    have := skipP_le x
    simp only [skipsP, List.map_cons, List.sum_cons, List.length_cons] at *
    omega
theorem lineP_len (x : Bs) : (lineP x).length ≤ 1 := by
  unfold lineP
  split
  · simp
  · cases parseP (cutAt 32 x) <;> simp
theorem steps_le : ∀ l : List Bs, (stepsP l).length ≤ l.length
  | [] => Nat.le_refl _
  | x :: l => by
    have := steps_le l
    have := lineP_len x
    simp only [stepsP, List.flatMap_cons, List.length_append, List.length_cons] at *
    omega

/-- What Script leaves. -/
def ScriptPost (t : Bs) (w : World) (e : Ending) (w' : World) : Prop :=
  (∃ v, e = .returned (.tuple #[v, .int .i64 (scriptP t).2.1, .int .i64 (scriptP t).2.2]) ∧ StepsAt w' w.heap.size v (scriptP t).1) ∧ Below w.heap.size w w'

theorem step_info3 : ((Tryd.prog.info? 60).map fun i => (i.zero, i.size, i.bytes)) = some (some (.agg #[.int .i64 0, .int .i64 0, .bool false, .int .i64 0, .slice none 0 0, .int .i64 0, .int .i64 0, .int .i64 0, .string ⟨#[]⟩]), 9, 96) := by kernel_rfl
/-- The world in which Script's loop begins. -/
def scW (w : World) (t : Bs) : World := ((((w.alloc (.cells #[.slice none 0 0] 67)).alloc (.cells #[.int .i64 0] 3)).alloc (.cells #[.string (ba t)] 9)).alloc (.cells #[.string ⟨#[10]⟩] 9)).alloc (.cells #[.int .i64 0] 3)
theorem scW_size (w : World) (t : Bs) : (scW w t).heap.size = w.heap.size + 5 := by simp [scW]
theorem scW_below (w : World) (t : Bs) : Below w.heap.size w (scW w t) := by
  unfold scW
  exact (((((Below.refl _ w).alloc (Nat.le_refl _) _).alloc (by simp) _).alloc (by simp; omega) _).alloc (by simp; omega) _).alloc (by simp; omega) _
theorem scW_blk (w : World) (t : Bs) : Blk (scW w t) w.heap.size 67 #[.slice none 0 0] ∧ Blk (scW w t) (w.heap.size + 1) 3 #[.int .i64 0] ∧ Blk (scW w t) (w.heap.size + 2) 9 #[.string (ba t)] ∧ Blk (scW w t) (w.heap.size + 3) 9 #[.string ⟨#[10]⟩] ∧ Blk (scW w t) (w.heap.size + 4) 3 #[.int .i64 0] := by
  unfold scW
  have b0 := Blk.new w 67 #[.slice none 0 0]
  have b1 := Blk.new (w.alloc (.cells #[.slice none 0 0] 67)) 3 #[.int .i64 0]
  have b2 := Blk.new ((w.alloc (.cells #[.slice none 0 0] 67)).alloc (.cells #[.int .i64 0] 3)) 9 #[.string (ba t)]
  have b3 := Blk.new (((w.alloc (.cells #[.slice none 0 0] 67)).alloc (.cells #[.int .i64 0] 3)).alloc (.cells #[.string (ba t)] 9)) 9 #[.string ⟨#[10]⟩]
  have b4 := Blk.new ((((w.alloc (.cells #[.slice none 0 0] 67)).alloc (.cells #[.int .i64 0] 3)).alloc (.cells #[.string (ba t)] 9)).alloc (.cells #[.string ⟨#[10]⟩] 9)) 3 #[.int .i64 0]
  simp only [World.size_alloc] at b1 b2 b3 b4
  exact ⟨(((b0.alloc _).alloc _).alloc _).alloc _, ((b1.alloc _).alloc _).alloc _, (b2.alloc _).alloc _, b3.alloc _, b4⟩
theorem sx_start (w : World) (t : Bs) (hT : Tabs w) : SX w [] (scW w t) (.slice none 0 0) (ba t) [] := by
  obtain ⟨b0, b1, b2, _, _⟩ := scW_blk w t
  exact ⟨b0, b1, b2, rfl, World.ownsRow_nil _ _ _ _, by simp, scW_below w t, hT.below hT.size (scW_below w t), hT.size, by rw [scW_size]; omega⟩
/-- What a round of Script finds: the line in its slot. -/
def scA (w : World) (t x : Bs) : Act := { tmps := #[.string (ba t), undef, .pointer (some ⟨w.heap.size, 0, none⟩), .pointer (some ⟨w.heap.size + 1, 0, none⟩), .int .i64 0, .string (ba x), undef, undef, .string (ba t), .int .i64 t.length, .bool false, .string (ba t), .func (.func 126) #[] #[.pointer (some ⟨w.heap.size + 1 + 1 + 1, 0, none⟩), .pointer (some ⟨w.heap.size + 1 + 1, 0, none⟩), .pointer (some ⟨w.heap.size + 1 + 1 + 2, 0, none⟩)], .string (ba x), undef, undef, undef, undef, undef, undef, undef, undef, undef, undef, undef, undef, undef, undef, undef, undef, undef, undef, undef, undef, undef, undef, undef, undef, undef], defers := [] }

theorem sc_results (W : World) (tmps : Array Value) (b2 b3 : Nat) (v : Value) (k e : Int) (h2 : tmps[2]?.getD undef = .pointer (some ⟨b2, 0, none⟩)) (h3 : tmps[3]?.getD undef = .pointer (some ⟨b3, 0, none⟩)) (h4 : tmps[4]?.getD undef = .int .i64 e)
    (c2 : W.cell? ⟨b2, 0, none⟩ = some v) (c3 : W.cell? ⟨b3, 0, none⟩ = some (.int .i64 k)) (hv : v.oneCell' = true) : (results Tryd.f28 tmps).run Tryd.prog W = .ok (.tuple #[v, .int .i64 k, .int .i64 e]) W := by
  simp [results, Tryd.f28, go_sem, h2, h3, h4, c2, c3]
theorem sc_close {w W : World} {pre : List Bs} {v : Value} {y : ByteArray} {ps : List (StepP × Value)} {D : Nat} (h : SX w pre W v y ps) (v' : Value) (k : Int) (hD : w.heap.size ≤ D) (hK : W.heap[D]? = some (.deferred (some [])))
    (W1 : World) (hW : W1 = ((W.setCell ⟨w.heap.size, 0, none⟩ v').setCell ⟨w.heap.size + 1, 0, none⟩ (.int .i64 k)).putObj D (.deferred none)) :
    ((W.setCell ⟨w.heap.size, 0, none⟩ v').setCell ⟨w.heap.size + 1, 0, none⟩ (.int .i64 k)).heap[D]? = some (.deferred (some [])) ∧ W1.cell? ⟨w.heap.size, 0, none⟩ = some v' ∧ W1.cell? ⟨w.heap.size + 1, 0, none⟩ = some (.int .i64 k) ∧ Below w.heap.size w W1 ∧ StepsAt W1 w.heap.size v (stepsP pre) := by
  subst hW
  have hK1 := (KeepsOthers.setCell W ⟨w.heap.size, 0, none⟩ v').same D _ hK rfl
  have hK2 := (KeepsOthers.setCell (W.setCell ⟨w.heap.size, 0, none⟩ v') ⟨w.heap.size + 1, 0, none⟩ (.int .i64 k)).same D _ hK1 rfl
  have C4 := ((h.b1.set_ 0 v').far (p := ⟨w.heap.size + 1, 0, none⟩) (by simp) (.int .i64 k)).cell 0
  have C5 := ((h.b2.far (p := ⟨w.heap.size, 0, none⟩) (by simp) v').set_ 0 (.int .i64 k)).cell 0
  have hf : Fr (fun g => g = w.heap.size ∨ g = w.heap.size + 1) W ((W.setCell ⟨w.heap.size, 0, none⟩ v').setCell ⟨w.heap.size + 1, 0, none⟩ (.int .i64 k)) := ((Fr.refl _ W).set (.inl (.inl rfl)) 0 v').set (.inl (.inr rfl)) 0 (.int .i64 k)
  have hrow : ∀ {v2 : Value} {e : TypeId} {sz n : Nat} {xs : List Value}, W.ownsRow (w.heap.size + 5) e sz v2 n xs → (((W.setCell ⟨w.heap.size, 0, none⟩ v').setCell ⟨w.heap.size + 1, 0, none⟩ (.int .i64 k)).putObj D (.deferred none)).ownsRow w.heap.size e sz v2 n xs := fun ho =>
    ownsRow_putObj (own_base0 (own_fr ho hf (fun g hg e => by have := own_row_ge ho g hg; omega)) (fun g hg => by have := own_row_ge ho g hg; omega)) _ hK2 rfl
  refine ⟨hK2, cell_kept C4 (grownBy_putObj' _ D (.deferred none)) (fun r e => by cases e; exact ⟨_, hK2, rfl⟩), cell_kept C5 (grownBy_putObj' _ D (.deferred none)) (fun r e => by cases e; exact ⟨_, hK2, rfl⟩), ?_, ps, h.e, hrow h.ho, fun p hp => hrow (h.hi p hp)⟩
  exact ((h.hb.setCell (p := ⟨w.heap.size, 0, none⟩) (Nat.le_refl _) _).setCell (p := ⟨w.heap.size + 1, 0, none⟩) (by simp) _).trans (belowK_b (w := w) (Nat.le_refl _) _ D _ _ hD hK2 rfl rfl)

theorem steps_nil (W : World) (b : Nat) : StepsAt W b (.slice none 0 0) [] := ⟨[], rfl, World.ownsRow_nil _ _ _ _, by simp⟩
theorem sc_close_drew {w W : World} {pre : List Bs} {v : Value} {y : ByteArray} {ps : List (StepP × Value)} {D : Nat} (h : SX w pre W v y ps) (v' : Value) (k : Int) (hD : w.heap.size ≤ D) (hK : W.heap[D]? = some (.deferred (some [])))
    (W1 : World) (hW : W1 = ((W.setCell ⟨w.heap.size, 0, none⟩ v').setCell ⟨w.heap.size + 1, 0, none⟩ (.int .i64 k)).drew.putObj D (.deferred none)) :
    ((W.setCell ⟨w.heap.size, 0, none⟩ v').setCell ⟨w.heap.size + 1, 0, none⟩ (.int .i64 k)).drew.heap[D]? = some (.deferred (some [])) ∧ W1.cell? ⟨w.heap.size, 0, none⟩ = some v' ∧ W1.cell? ⟨w.heap.size + 1, 0, none⟩ = some (.int .i64 k) ∧ Below w.heap.size w W1 ∧ StepsAt W1 w.heap.size v (stepsP pre) := by
  subst hW
  obtain ⟨h1, h2, h3, h4, ps', h5, h6, h7⟩ := sc_close h v' k hD hK _ rfl
  exact ⟨h1, h2, h3, ⟨h4.os, h4.tape, h4.output, h4.size, h4.block⟩, ps', h5, h6.drew, fun p hp => World.ownsRow.drew (h7 p hp)⟩

set_option maxRecDepth 100000 in
set_option maxHeartbeats 16000000 in
theorem script_short (t : Bs) (ht : t.length ≤ 131072) (w : World) (hT : Tabs w) :
    Calls Tryd.prog 28 #[.string (ba t)] w (ScriptPost t w) := by
  have h8 := hT.size
  have S0 := Lib.hid (sx_start w t hT)
  have HT := Lib.hid hT
  clear hT
  refine (callsIn_wide (n := 4)).1 ?_
  refine callsIn_of_wp_marks Tryd.func28 rfl trivial ?_ rfl
  simp only [Tryd.ntmps28, List.size_toArray, List.length_cons, List.length_nil, Nat.reduceAdd, Nat.reduceSub, Array.replicate_succ, Array.replicate_zero, List.push_toArray, List.append_toArray, List.nil_append, List.cons_append]
  have hsz : (ba t).size = t.length := rfl
  have hdec : decide (131072 < (t.length : Int)) = false := by rw [decide_eq_false_iff_not]; omega
  gi_wp2_with (refine ⟨trivial, ?_⟩; gi_at_call 61; refine (callsIn_wide.2 (splitSeq_any _ _ _)).mono ?_; rintro e w' ⟨rfl, rfl⟩)
  have hW0 := scW_blk w t
  have hz0 := scW_size w t
  rw [show ((((w.alloc (.cells #[.slice none 0 0] 67)).alloc (.cells #[.int .i64 0] 3)).alloc (.cells #[.string (ba t)] 9)).alloc (.cells #[.string ⟨#[10]⟩] 9)).alloc (.cells #[.int .i64 0] 3) = scW w t from rfl]
  obtain ⟨W0, hW⟩ : ∃ W0, scW w t = W0 := ⟨_, rfl⟩
  rw [hW] at hW0 hz0 S0 ⊢
  clear hW
  obtain ⟨_, _, k2, k3, k4⟩ := hW0
  refine wpIn_rangeCell rfl (by omega) (gf := 126) (lb := #[.pointer (some ⟨w.heap.size + 3, 0, none⟩), .pointer (some ⟨w.heap.size + 2, 0, none⟩), .pointer (some ⟨w.heap.size + 4, 0, none⟩)]) rfl trivial (enters_of Tryd.func126 (by kernel_rfl) rfl)
    (split_cells (4 - 1) (by omega) (w.heap.size + 3) (w.heap.size + 2) (w.heap.size + 4) t ht W0 (by omega) (by omega) k3 k2 k4) (by omega) Keep3.trans
    (fun W l o o' hl hh _ _ => ⟨World.putObj_heap_other (by omega), World.putObj_heap_other (by omega), World.putObj_heap_other (by omega)⟩) (Below.refl _ _) (fun _ => rfl)
    (fun pre W => SI w pre W)
    (fun pre W W' row hs hg hr => by
      obtain ⟨v, y, ps, h⟩ := hs
      exact ⟨v, y, ps, h.fr (F := fun k => row = some k) ((Fr.refl _ _).grown hg (fun k hk => .inl hk)) (fun k t cs fr hc hk => by obtain ⟨_, o, ho, hn⟩ := hr k hk; rw [hc] at ho; cases ho; cases hn) (fun k hk => by have := (hr k hk).1; omega)⟩)
    (fun pre W x hs => by obtain ⟨v, y, ps, h⟩ := hs; exact ⟨v, x, ps, h.cell x⟩)
    ⟨_, _, _, S0.out⟩
    (fun x a' W => a' = scA w t x) (fun x a' _ _ _ _ hs _ _ => hs) ?assign ?body ?done
  case assign =>
    rintro l pre x W K hI hK
    dsimp only [encL]
    gi_wp2
    exact hK _ _ (KeepsFrom.refl _ _) ⟨rfl, rfl, rfl⟩ hI rfl
  case body =>
    rintro l pre x suf a' W hl ⟨v, y, ps, hS⟩ rfl hx
    unfold scA
    have hxl : x.length ≤ 131072 := Nat.le_trans (cut_len 10 t x (by rw [hx]; simp)) ht
    have hpl : pre.length ≤ 131073 := by have := cut_count 10 t; rw [hx] at this; simp at this; omega
    have hsk : skipsP pre ≤ 131073 := Nat.le_trans (skips_le pre) hpl
    have hps : ps.length ≤ 131073 := by have h1 := congrArg List.length hS.e; rw [List.length_map] at h1; have := steps_le pre; omega
    have HS := Lib.hid hS
    obtain ⟨VA, vc, rfl⟩ := own_slice hS.ho
    have c1 := hS.b1.cell 0
    have c2 := hS.b2.cell 0
    have f1 := hS.b1.frozen 0
    have f2 := hS.b2.frozen 0
    simp only [List.getElem?_toArray] at c1 c2
    clear hS k2 k3 k4 hx
    cases hn : isNote x with
    | true =>
      have HN := Lib.hid (lineP_note hn)
      cases x with
      | nil =>
        have he1 : (ba []).toList = [] := by rw [ByteArray.toList_eq]; rfl
        have he2 : (ba []).toList.isEmpty = true := by rw [he1]; rfl
        clear hn
        gi_wp2
        exact ⟨KeepsFrom.refl _ _, ⟨rfl, rfl, rfl⟩, _, _, _, HS.out.skip HN.out.1 HN.out.2⟩
      | cons b r =>
        have hb : b = 35 := by simpa [isNote] using hn
        subst hb
        have hemp : (ba (35 :: r)).toList.isEmpty = false := by rw [ByteArray.toList_eq]; rfl
        have hpos : 0 < (ba (35 :: r)).size := Nat.succ_pos r.length
        have hget : (ba (35 :: r))[0]'hpos = 35 := rfl
        clear hn
        gi_wp2
        exact ⟨KeepsFrom.refl _ _, ⟨rfl, rfl, rfl⟩, _, _, _, HS.out.skip HN.out.1 HN.out.2⟩
    | false =>
      have HNB := Lib.hid hn
      cases x with
      | nil => cases hn
      | cons b r =>
        have hb : ¬ b = 35 := by simpa [isNote] using hn
        have hemp : (ba (b :: r)).toList.isEmpty = false := by rw [ByteArray.toList_eq]; rfl
        have hpos : 0 < (ba (b :: r)).size := Nat.succ_pos r.length
        have hget : (ba (b :: r))[0]'hpos = b := rfl
        have hb35 : ((b.toNat : Int) == 35) = false := by
          rw [beq_eq_false_iff_ne]; intro e; exact hb (UInt8.toNat_inj.1 (by show b.toNat = 35; omega))
        have HXL := Lib.hid hxl
        clear hn hb hxl
        gi_wp2_with fail
        refine ⟨trivial, ?_⟩
        first
          | refine ⟨fun _ => by omega, (CallsIn.inRound l (callsIn_wide.2 (parse_any (b :: r) HXL.out _ HS.out.ht))).mono ?_⟩
          | refine (CallsIn.inRound l (callsIn_wide.2 (parse_any (b :: r) HXL.out _ HS.out.ht))).mono ?_
        rintro e w5 ⟨⟨v5, rfl, hO5⟩, b5⟩
        have HO5 := Lib.hid hO5
        have HB5 := Lib.hid b5
        clear hO5 b5 hemp hpos hget hb35 c1 c2 f1 f2
        have S5 := Lib.hid (HS.out.below HB5.out)
        unfold stC
        cases hp : parseP (cutAt 32 (b :: r)) with
        | none =>
          have HL := Lib.hid (lineP_none HNB.out hp)
          have hO5 := HO5.out
          rw [hp] at hO5
          clear hp HO5
          have HO5 : Hid (OwnI w5 W.heap.size v5 noStep.fates) := hO5
          clear hO5
          obtain ⟨n5, A5, c5, rfl⟩ : ∃ n A c, v5 = .slice A n c := ⟨_, own_slice HO5.out⟩
          have S6 := Lib.hid (S5.out.below ((Below.refl _ _).alloc (Nat.le_refl _) (.cells #[.int .i64 0, .int .i64 0, .bool false, .int .i64 0, .slice A5 n5 c5, .int .i64 0, .int .i64 0, .int .i64 0, .string (ba [])] 60)))
          have HF := Lib.hid ((((Fr.refl (One (w.heap.size + 1)) W).below HB5.out).alloc (.cells #[.int .i64 0, .int .i64 0, .bool false, .int .i64 0, .slice A5 n5 c5, .int .i64 0, .int .i64 0, .int .i64 0, .string (ba [])] 60)).one 0 (.int .i64 ((skipsP pre : Int) + 1)))
          have d2 := S6.out.b2.cell 0
          have g2 := S6.out.b2.frozen 0
          simp only [List.getElem?_toArray] at d2
          dsimp only [Option.getD_none, noStep, noCall, parE, Option.isSome_none]
          gi_wp2
          exact ⟨keeps_fr HF.out (fun k o hk hc e => by obtain rfl : k = _ := e; rw [HS.out.b2] at hk; cases hk; cases hc), Keep3.fr HF.out ⟨by have := HS.out.sz; omega, fun e => by have : _ = _ := e; omega⟩ ⟨by have := HS.out.sz; omega, fun e => by have : _ = _ := e; omega⟩ ⟨by have := HS.out.sz; omega, fun e => by have : _ = _ := e; omega⟩, _, _, _, S6.out.junk HL.out.1 HL.out.2⟩
        | some s =>
          have HL := Lib.hid (lineP_some HNB.out hp)
          have hO5 := HO5.out
          rw [hp] at hO5
          clear hp HO5
          have hO5' : OwnI w5 W.heap.size v5 s.fates := hO5
          have HO5 : Hid (OwnI w5 (w.heap.size + 5) v5 s.fates) := own_base0 hO5' (fun g hg => Nat.le_trans HS.out.sz (own_row_ge hO5' g hg))
          clear hO5 hO5'
          obtain ⟨n5, A5, c5, rfl⟩ : ∃ n A c, v5 = .slice A n c := ⟨_, own_slice HO5.out⟩
          have hbel : ∀ o1 o2, Below w5.heap.size w5 ((w5.alloc o1).alloc o2) := fun o1 o2 => ((Below.refl _ _).alloc (Nat.le_refl _) _).alloc (by simp) _
          have S6 := Lib.hid (S5.out.below ((Below.refl _ _).alloc (Nat.le_refl _) (.cells #[.int .i64 s.kind, .int .i64 s.client, .bool s.up, .int .i64 s.n, .slice A5 n5 c5, .int .i64 s.call.kind, .int .i64 s.call.page, .int .i64 s.call.slot, .string (ba s.call.data)] 60)))
          have S7 := Lib.hid (S5.out.below (hbel (.cells #[.int .i64 s.kind, .int .i64 s.client, .bool s.up, .int .i64 s.n, .slice A5 n5 c5, .int .i64 s.call.kind, .int .i64 s.call.page, .int .i64 s.call.slot, .string (ba s.call.data)] 60) (.cells #[.int .i64 s.kind, .int .i64 s.client, .bool s.up, .int .i64 s.n, .slice A5 n5 c5, .int .i64 s.call.kind, .int .i64 s.call.page, .int .i64 s.call.slot, .string (ba s.call.data)] 60)))
          have O7 := Lib.hid (own_fr HO5.out (((Fr.refl Nope w5).alloc (.cells #[.int .i64 s.kind, .int .i64 s.client, .bool s.up, .int .i64 s.n, .slice A5 n5 c5, .int .i64 s.call.kind, .int .i64 s.call.page, .int .i64 s.call.slot, .string (ba s.call.data)] 60)).alloc (.cells #[.int .i64 s.kind, .int .i64 s.client, .bool s.up, .int .i64 s.n, .slice A5 n5 c5, .int .i64 s.call.kind, .int .i64 s.call.page, .int .i64 s.call.slot, .string (ba s.call.data)] 60)) (fun _ _ h => h.elim))
          have hld := step_load (w5.alloc (.cells #[.int .i64 s.kind, .int .i64 s.client, .bool s.up, .int .i64 s.n, .slice A5 n5 c5, .int .i64 s.call.kind, .int .i64 s.call.page, .int .i64 s.call.slot, .string (ba s.call.data)] 60)) w5.heap.size 60 _ _ _ _ _ _ _ _ _ (Blk.new _ _ _)
          clear hbel
          have d1 := S6.out.b1.cell 0
          simp only [List.getElem?_toArray] at d1
          obtain ⟨i0, hi, hz⟩ := Option.map_eq_some_iff.1 step_info3
          simp only [Prod.mk.injEq] at hz
          have HZ := Lib.hid hz
          have HI := Lib.hid hi
          clear hz hi
          dsimp only [Option.getD_some, parE, Option.isSome_some]
          gi_wp2_with (gi_at_builtin; refine Hid.out ?_)
          refine Lib.hid ?_
          refine wpListIn_append_own _ rfl _ _ 67 rfl (w.heap.size + 5) 60 i0 _ 9 96 Tryd.underlying67 HI.out HZ.out.1 HZ.out.2.1 HZ.out.2.2 rfl (by decide) _ ps.length (stL ps) rfl ?hown ⟨w5.heap.size + 1, 0, none⟩ 1 1 [.int .i64 s.kind, .int .i64 s.client, .bool s.up, .int .i64 s.n, .slice A5 n5 c5, .int .i64 s.call.kind, .int .i64 s.call.page, .int .i64 s.call.slot, .string (ba s.call.data)] ?hx rfl ?c1 ?c2 ?c3 ?c4 ?c5 ?_
          case hown => exact S7.out.ho
          case hx => rfl
          case c1 => exact World.news_of_block (cs := stC s (.slice A5 n5 c5)) (t := 60) (fr := (0, 0)) (by have h := heap_alloc_new (w5.alloc (.cells #[.int .i64 s.kind, .int .i64 s.client, .bool s.up, .int .i64 s.n, .slice A5 n5 c5, .int .i64 s.call.kind, .int .i64 s.call.page, .int .i64 s.call.slot, .string (ba s.call.data)] 60)) (.cells #[.int .i64 s.kind, .int .i64 s.client, .bool s.up, .int .i64 s.n, .slice A5 n5 c5, .int .i64 s.call.kind, .int .i64 s.call.page, .int .i64 s.call.slot, .string (ba s.call.data)] 60); rw [World.size_alloc] at h; exact h)
          case c2 => intro u hu; simp at hu; rcases hu with rfl | rfl | rfl | rfl | rfl | rfl | rfl | rfl | rfl <;> rfl
          case c3 => unfold maxLen; omega
          case c4 => omega
          case c5 => have := HB5.out.size; have := HS.out.sz; simp; omega
          intro v7 w7 hown7 hg7 _
          obtain ⟨n7, A7, c7, rfl⟩ : ∃ n A c, v7 = .slice A n c := ⟨_, own_slice hown7⟩
          have SA := Lib.hid (S7.out.add HL.out.1 HL.out.2 O7.out hg7 hown7)
          have HF := Lib.hid (((((Fr.refl (fun k => k = w.heap.size ∨ Value.ownBlock (.slice VA ps.length vc) = some k) W).below HB5.out).alloc (.cells #[.int .i64 s.kind, .int .i64 s.client, .bool s.up, .int .i64 s.n, .slice A5 n5 c5, .int .i64 s.call.kind, .int .i64 s.call.page, .int .i64 s.call.slot, .string (ba s.call.data)] 60)).alloc (.cells #[.int .i64 s.kind, .int .i64 s.client, .bool s.up, .int .i64 s.n, .slice A5 n5 c5, .int .i64 s.call.kind, .int .i64 s.call.page, .int .i64 s.call.slot, .string (ba s.call.data)] 60)).grown hg7 (fun k hk => .inl (.inr hk)))
          have d3 := (S7.out.b1.fr ((Fr.refl (fun k => Value.ownBlock (.slice VA ps.length vc) = some k) _).grown hg7 (fun k hk => .inl hk)) (fun e => by have := own_row_ge S7.out.ho _ e; omega))
          have d31 := d3.cell 0
          have d32 := d3.frozen 0
          simp only [List.getElem?_toArray] at d31
          have HG := Lib.hid (own_row_ge HS.out.ho)
          clear hown7 hg7 d3
          gi_wp2
          refine ⟨keeps_fr (HF.out.set (g := w.heap.size) (.inl (.inl rfl)) 0 (.slice A7 n7 c7)) (fun k o hk hc e => ?_), Keep3.fr (HF.out.set (g := w.heap.size) (.inl (.inl rfl)) 0 (.slice A7 n7 c7)) ⟨by have := HS.out.sz; omega, fun e => ?_⟩ ⟨by have := HS.out.sz; omega, fun e => ?_⟩ ⟨by have := HS.out.sz; omega, fun e => ?_⟩, _, _, _, SA.out⟩
          · rcases e with rfl | e
            · rw [HS.out.b1] at hk; cases hk; cases hc
            · obtain ⟨cs, h⟩ := row_cells HS.out.ho k e
              rw [h] at hk; cases hk; cases hc
          · rcases e with e | e
            · omega
            · have := HG.out _ e; omega
          · rcases e with e | e
            · omega
            · have := HG.out _ e; omega
          · rcases e with e | e
            · omega
            · have := HG.out _ e; omega
  case done =>
    rintro D W hD ⟨v, y, ps, hS⟩ hK
    have HS := Lib.hid hS
    obtain ⟨VA, vc, rfl⟩ := own_slice hS.ho
    have hlen : ps.length = (stepsP (cutAt 10 t)).length := by rw [← hS.e, List.length_map]
    have c1 := hS.b1.cell 0
    have c2 := hS.b2.cell 0
    have f1 := hS.b1.frozen 0
    have f2 := hS.b2.frozen 0
    simp only [List.getElem?_toArray] at c1 c2
    clear hS k2 k3 k4
    by_cases h6 : 600 < ps.length
    · have hsc : Hid (scriptP t = ([], 0, 51)) := by unfold Hid scriptP; rw [if_neg (by omega), if_pos (by omega)]
      clear hlen
      gi_wp2
      have hZ := sc_close HS.out (.slice none 0 0) 0 (by omega) hK _ rfl
      refine ⟨by simp, .inl ⟨_, _, rfl, run_takeDeferred hZ.1, ?_⟩⟩
      exact ⟨_, sc_results _ _ w.heap.size (w.heap.size + 1) _ _ _ rfl rfl rfl hZ.2.1 hZ.2.2.1 rfl, ⟨_, by rw [hsc.out]; rfl, by rw [hsc.out]; exact steps_nil _ _⟩, hZ.2.2.2.1⟩
    · have hsc : Hid (scriptP t = (stepsP (cutAt 10 t), skipsP (cutAt 10 t), 0)) := by unfold Hid scriptP; rw [if_neg (by omega), if_neg (by omega)]
      clear hlen
      gi_wp2_with fail
      gi_region
      gi_wp2
      have hZ := sc_close_drew HS.out (.slice VA ps.length vc) (skipsP (cutAt 10 t) : Int) (by omega) hK _ rfl
      refine ⟨by simp, .inl ⟨_, _, rfl, run_takeDeferred hZ.1, ?_⟩⟩
      exact ⟨_, sc_results _ _ w.heap.size (w.heap.size + 1) _ _ _ rfl rfl rfl hZ.2.1 hZ.2.2.1 rfl, ⟨_, by rw [hsc.out], by rw [hsc.out]; exact hZ.2.2.2.2⟩, hZ.2.2.2.1⟩

theorem script_any (t : Bs) (w : World) (hT : Tabs w) (hm : t.length ≤ maxLen) : Calls Tryd.prog 28 #[.string (ba t)] w (ScriptPost t w) := by
  by_cases ht : t.length ≤ 131072
  · exact script_short t ht w hT
  · have hsc : Hid (scriptP t = ([], 0, 5)) := by unfold Hid scriptP; rw [if_pos (by omega)]
    have hsz : (ba t).size = t.length := rfl
    have hdec : decide (131072 < (t.length : Int)) = true := by rw [decide_eq_true_iff]; omega
    go_enter Tryd.func28, Tryd.ntmps28
    go_wp2
    have b0 := Blk.new w 67 #[.slice none 0 0]
    have b1 := Blk.new (w.alloc (.cells #[.slice none 0 0] 67)) 3 #[.int .i64 0]
    simp only [World.size_alloc] at b1
    refine bodyPost_ret (sc_results _ _ w.heap.size (w.heap.size + 1) _ _ _ rfl rfl rfl ((b0.alloc _).cell 0) (b1.cell 0) rfl) rfl ⟨⟨_, by rw [hsc.out]; rfl, by rw [hsc.out]; exact steps_nil _ _⟩, ((Below.refl _ w).alloc (Nat.le_refl _) _).alloc (by simp) _⟩

end Go.Proofs.YtbikplckehbcnaaDoor
