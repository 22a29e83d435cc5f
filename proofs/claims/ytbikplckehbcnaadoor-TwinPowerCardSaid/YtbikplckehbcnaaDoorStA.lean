/- A store in memory. -/
import Derived.Test.YtbikplckehbcnaaDoorPage
import Derived.Test.YtbikplckehbcnaaDoorPlU
import Derived.Deep.QuietTactic
set_option linter.unusedVariables false
set_option linter.unusedSimpArgs false
namespace Go.Proofs.YtbikplckehbcnaaDoor
open Go Go.RowKit

/-- A page as it lies in memory. -/
structure PgM where
  l : Int
  A : Option Addr
  c : Nat
  xs : List Slt
def pgCells (ps : List PgM) : List Value := ps.flatMap fun m => [.int .i64 m.l, .slice m.A m.xs.length m.c]
theorem pgCells_length (ps : List PgM) : (pgCells ps).length = ps.length * 2 := by
  induction ps with
  | nil => rfl
  | cons x xs ih => simp only [pgCells, List.flatMap_cons, List.length_append, List.length_cons, List.length_nil] at ih ⊢; omega
theorem pgCells_get (ps : List PgM) : ∀ q, (pgCells ps)[q * 2]? = (ps[q]?).map (fun m => Value.int .i64 m.l) ∧ (pgCells ps)[q * 2 + 1]? = (ps[q]?).map (fun m => Value.slice m.A m.xs.length m.c) := by
  induction ps with
  | nil => intro q; simp [pgCells]
  | cons x xs ih =>
    intro q
    have e : pgCells (x :: xs) = Value.int .i64 x.l :: Value.slice x.A x.xs.length x.c :: pgCells xs := rfl
    rw [e]
    cases q with
    | zero => simp
    | succ q =>
      rw [show (q + 1) * 2 = q * 2 + 1 + 1 by omega, show q * 2 + 1 + 1 + 1 = (q * 2 + 1) + 1 + 1 by omega]
      simp only [List.getElem?_cons_succ]
      exact ih q
theorem pgCells_snoc (ps : List PgM) (m : PgM) : pgCells (ps ++ [m]) = pgCells ps ++ [.int .i64 m.l, .slice m.A m.xs.length m.c] := by simp [pgCells]

/-- What a page says. -/
def PgM.pg (m : PgM) : Int × List Slt := (m.l, m.xs)

theorem Fr.mono' {F F' : Nat → Prop} {a b : World} (h : Fr F a b) (hs : ∀ k, k < a.heap.size → F k → F' k) : Fr F' a b := ⟨h.os, h.tape, h.output, h.size, fun i hi hn => h.block i hi (fun hf => hn (hs i hi hf))⟩

/-- A store at block q, its plate at p, its row of pages pv; F: the plate's blocks; all from lo on. -/
structure StAt (lo : Nat) (w : World) (F : Nat → Prop) (q p : Nat) (pv : Value) (frm tw : Nat) (life : Int) (dead : Bool) (s : PSt) (ps : List PgM) : Prop where
  st : Blk w q 84 #[.pointer (some ⟨p, 0, none⟩), .int .i64 frm, .int .i64 tw, pv, .int .i64 life, .bool dead]
  pg : w.ownsRow lo 25 2 pv ps.length (pgCells ps)
  pl : IsPlate w F p s
  fl : ∀ k, F k → lo ≤ k ∧ k < w.heap.size
  lq : lo ≤ q
  dq : ¬ F q
  dv : ∀ g, pv.ownBlock = some g → ¬ F g
  sl : ∀ m ∈ ps, m.xs.length ≤ 255 ∧ Slots w (fun k => F k ∨ k = q ∨ pv.ownBlock = some k) m.A m.xs
def Store (lo : Nat) (w : World) (q p frm tw : Nat) (life : Int) (dead : Bool) (s : PSt) (pgs : List (Int × List Slt)) : Prop := ∃ F pv ps, StAt lo w F q p pv frm tw life dead s ps ∧ ps.map PgM.pg = pgs

section
variable {lo : Nat} {w w' : World} {F : Nat → Prop} {q p : Nat} {pv : Value} {frm tw : Nat} {life : Int} {dead : Bool} {s s' : PSt} {ps : List PgM} {pgs : List (Int × List Slt)}
theorem StAt.nqv (h : StAt lo w F q p pv frm tw life dead s ps) : pv.ownBlock ≠ some q := own_blk_ne h.pg h.st (by decide)
theorem StAt.lt (h : StAt lo w F q p pv frm tw life dead s ps) : lo ≤ w.heap.size := by have := h.st.lt; have := h.lq; omega
theorem Store.lt (h : Store lo w q p frm tw life dead s pgs) : lo ≤ w.heap.size := by obtain ⟨F, pv, ps, h, _⟩ := h; exact h.lt

/-- Nothing of it was touched. -/
theorem StAt.below (h : StAt lo w F q p pv frm tw life dead s ps) (hb : Below w.heap.size w w') : StAt lo w' F q p pv frm tw life dead s ps := by
  have hf := (Fr.refl Nope w).below hb
  exact ⟨h.st.fr hf (fun h => h), own_fr h.pg hf (fun _ _ h => h), h.pl.fr hf (fun _ _ h => h), fun k hk => ⟨(h.fl k hk).1, Nat.lt_of_lt_of_le (h.fl k hk).2 hb.size⟩, h.lq, h.dq, h.dv, fun m hm => ⟨(h.sl m hm).1, (h.sl m hm).2.fr (hf.mono (fun _ h => h.elim))⟩⟩
theorem Store.below (h : Store lo w q p frm tw life dead s pgs) (hb : Below w.heap.size w w') : Store lo w' q p frm tw life dead s pgs := by
  obtain ⟨F, pv, ps, h, e⟩ := h
  exact ⟨F, pv, ps, h.below hb, e⟩
/-- The plate alone was touched. -/
theorem StAt.left (h : StAt lo w F q p pv frm tw life dead s ps) (hL : Left w w' F p s') : (∃ F', StAt lo w' F' q p pv frm tw life dead s' ps) ∧ Below lo w w' := by
  obtain ⟨F', hp, hf, hs⟩ := hL
  have hq := h.st.lt
  refine ⟨⟨fun k => F' k ∧ k < w'.heap.size, h.st.fr hf h.dq, own_fr h.pg hf h.dv, hp.shrink, fun k hk => ⟨?_, hk.2⟩, h.lq, ?_, ?_, ?_⟩, hf.toBelow h.lt (fun k hk => (h.fl k hk).1)⟩
  · rcases hs k hk.1 with h3 | h3
    · exact (h.fl k h3).1
    · have := h.lt; omega
  · intro hk
    rcases hs q hk.1 with h3 | h3
    · exact h.dq h3
    · omega
  · intro g hg hk
    rcases hs g hk.1 with h3 | h3
    · exact h.dv g hg h3
    · have := (h.pg.lt g hg).2; omega
  · intro m hm
    obtain ⟨h1, h2⟩ := h.sl m hm
    refine ⟨h1, (h2.mono (F' := fun k => (F k ∨ k = q ∨ pv.ownBlock = some k) ∨ (F' k ∧ k < w'.heap.size)) (fun k hk hk2 => ?_)).fr (hf.mono (fun k hk => .inl (.inl hk))) |>.mono (fun k hk hk2 => ?_)⟩
    · rcases hk2 with hk2 | hk2
      · exact hk2
      · rcases hs k hk2.1 with h3 | h3
        · exact .inl h3
        · omega
    · rcases hk2 with hk2 | hk2
      · exact .inr hk2
      · exact .inl (.inr hk2)
theorem Store.left (h : StAt lo w F q p pv frm tw life dead s ps) (hL : Left w w' F p s') : Store lo w' q p frm tw life dead s' (ps.map PgM.pg) ∧ Below lo w w' := by
  obtain ⟨⟨F', h1⟩, h2⟩ := h.left hL
  exact ⟨⟨F', pv, ps, h1, rfl⟩, h2⟩
end

/-! ### ready -/
def tRdy (dead : Bool) (s : PSt) (life : Int) : Int := if dead = true ∨ s.down = true ∨ s.life ≠ life then 10 else 0

set_option maxRecDepth 100000 in
set_option maxHeartbeats 1000000 in
theorem tready_any {lo : Nat} (w : World) {F : Nat → Prop} {q p : Nat} {pv : Value} {frm tw : Nat} {life : Int} {dead : Bool} {s : PSt} {ps : List PgM} (h : StAt lo w F q p pv frm tw life dead s ps) :
    Calls Tryd.prog 39 #[.pointer (some ⟨q, 0, none⟩)] w fun e w' => e = .returned (.int .i64 (tRdy dead s life)) ∧ Below w.heap.size w w' := by
  have H := Lib.hid h
  have hx0 := h.st.cell 0
  have hx4 := h.st.cell 4
  have hx5 := h.st.cell 5
  simp only [List.getElem?_toArray] at hx0 hx4 hx5
  clear h
  have HF := fun (n : Nat) => (H.out.pl.fr ((Fr.refl Nope w).drewN n) (fun _ _ h => h) : IsPlate (w.drewN n) F p s)
  have HD : Hid (∀ n : Nat, Calls Tryd.prog 35 #[.pointer (some ⟨p, 0, none⟩)] (w.drewN n) fun e w' => e = .returned (.bool s.down) ∧ w' = w.drewN n) := fun n => (down_is _ F p s (HF n)).mono fun e w' ⟨h1, h2⟩ => ⟨h1, h2.symm⟩
  have HL : Hid (∀ n : Nat, Calls Tryd.prog 36 #[.pointer (some ⟨p, 0, none⟩)] (w.drewN n) fun e w' => e = .returned (.int .i64 s.life) ∧ w' = w.drewN n) := fun n => (life_is _ F p s (HF n)).mono fun e w' ⟨h1, h2⟩ => ⟨h1, h2.symm⟩
  clear HF H
  go_enter Tryd.func39, Tryd.ntmps39
  cases dead with
  | true =>
    go_upto_region 3 with fail
    go_region
    all_goals go_wp2_with fail
    go_ret
    exact ⟨rfl, (Below.refl _ _).drew⟩
  | false =>
    cases hd : s.down with
    | true =>
      rw [hd] at HD
      go_upto_region 3 with fail
      go_quiet (first | (go_at_call 35; exact Calls.quiet_of_same (HD.out _)))
      all_goals
        go_wp2_with fail
        go_ret
        exact ⟨by unfold tRdy; rw [if_pos (.inr (.inl hd))]; rfl, ((Fr.refl Nope w).drewN _).toBelow (Nat.le_refl _) (fun _ h => h.elim)⟩
    | false =>
      rw [hd] at HD
      by_cases hl : s.life = life
      · have hl' : (s.life == life) = true := by rw [beq_iff_eq]; exact hl
        have HLF := Lib.hid hl
        clear hl
        go_upto_region 3 with fail
        go_quiet (first
          | (go_at_call 35; exact Calls.quiet_of_same (HD.out _))
          | (go_at_call 36; exact Calls.quiet_of_same (HL.out _)))
        all_goals
          go_wp2_with fail
          go_ret
          exact ⟨by unfold tRdy; rw [if_neg (by rw [hd, HLF.out]; simp)]; rfl, ((Fr.refl Nope w).drewN _).toBelow (Nat.le_refl _) (fun _ h => h.elim)⟩
      · have hl' : (s.life == life) = false := by rw [beq_eq_false_iff_ne]; exact hl
        have HLF := Lib.hid hl
        clear hl
        go_upto_region 3 with fail
        go_quiet (first
          | (go_at_call 35; exact Calls.quiet_of_same (HD.out _))
          | (go_at_call 36; exact Calls.quiet_of_same (HL.out _)))
        all_goals
          go_wp2_with fail
          go_ret
          exact ⟨by unfold tRdy; rw [if_pos (.inr (.inr HLF.out))]; rfl, ((Fr.refl Nope w).drewN _).toBelow (Nat.le_refl _) (fun _ h => h.elim)⟩

end Go.Proofs.YtbikplckehbcnaaDoor
