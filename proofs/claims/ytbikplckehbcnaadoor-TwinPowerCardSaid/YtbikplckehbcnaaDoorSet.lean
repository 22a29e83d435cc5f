/- A page of the store is set. -/
import Derived.Test.YtbikplckehbcnaaDoorLayV
import Derived.Laws.OwnMore
set_option linter.unusedVariables false
set_option linter.unusedSimpArgs false
namespace Go.Proofs.YtbikplckehbcnaaDoor
open Go Go.RowKit

theorem pgCells_set : ∀ (ps : List PgM) (k : Nat) (m : PgM), pgCells (ps.set k m) = ((pgCells ps).set (k * 2) (.int .i64 m.l)).set (k * 2 + 1) (.slice m.A m.xs.length m.c) := by
  intro ps
  induction ps with
  | nil => intro k m; rfl
  | cons x ps ih =>
    intro k m
    have e : ∀ (y : PgM) (l : List PgM), pgCells (y :: l) = Value.int .i64 y.l :: Value.slice y.A y.xs.length y.c :: pgCells l := fun _ _ => rfl
    cases k with
    | zero => simp [e]
    | succ k =>
      rw [List.set_cons_succ, e, e, ih k m, show (k + 1) * 2 = k * 2 + 1 + 1 by omega, show k * 2 + 1 + 1 + 1 = (k * 2 + 1) + 1 + 1 by omega]
      simp only [List.set_cons_succ]

theorem StAt.setPage {lo : Nat} {w : World} {F : Nat → Prop} {q p : Nat} {pv : Value} {frm tw : Nat} {life : Int} {dead : Bool} {s : PSt} {ps : List PgM} (h : StAt lo w F q p pv frm tw life dead s ps) (g c : Nat) (hv : pv = .slice (some ⟨g, 0, none⟩) ps.length c) (k : Nat) (m : PgM) (hm : m.xs.length ≤ 255)
    (hs : Slots w (fun k => F k ∨ k = q ∨ pv.ownBlock = some k) m.A m.xs) : StAt lo ((w.setCell ⟨g, k * 2, none⟩ (.int .i64 m.l)).setCell ⟨g, k * 2 + 1, none⟩ (.slice m.A m.xs.length m.c)) F q p pv frm tw life dead s (ps.set k m) := by
  have hgq : q ≠ g := fun e => h.nqv (by rw [hv, e]; rfl)
  have hgo : pv.ownBlock = some g := by rw [hv]; rfl
  have hf : Fr (One g) w ((w.setCell ⟨g, k * 2, none⟩ (.int .i64 m.l)).setCell ⟨g, k * 2 + 1, none⟩ (.slice m.A m.xs.length m.c)) := ((Fr.refl _ w).one (k * 2) _).one (k * 2 + 1) _
  refine ⟨(h.st.far hgq _).far hgq _, ?_, h.pl.fr hf (fun j hj e => h.dv g hgo ((show j = g from e) ▸ hj)), fun j hj => ⟨(h.fl j hj).1, Nat.lt_of_lt_of_le (h.fl j hj).2 hf.size⟩, h.lq, h.dq, h.dv, ?_⟩
  · rw [pgCells_set, List.length_set]
    have h0 := h.pg
    subst hv
    exact ((h0.stored (k * 2) _).1.stored (k * 2 + 1) _).1
  · intro m' hm'
    have hfr : Fr (fun k => F k ∨ k = q ∨ pv.ownBlock = some k) w ((w.setCell ⟨g, k * 2, none⟩ (.int .i64 m.l)).setCell ⟨g, k * 2 + 1, none⟩ (.slice m.A m.xs.length m.c)) := hf.mono (fun j hj => .inr (.inr (by rw [show j = g from hj]; exact hgo)))
    rcases List.mem_or_eq_of_mem_set hm' with h1 | h1
    · exact ⟨(h.sl m' h1).1, (h.sl m' h1).2.fr hfr⟩
    · subst h1
      exact ⟨hm, hs.fr hfr⟩

end Go.Proofs.YtbikplckehbcnaaDoor
