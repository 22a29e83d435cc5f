/- append(pages, page), as a step of a region that draws. -/
import Derived.Test.YtbikplckehbcnaaDoorWrite
import Derived.Deep.RegionLaw
set_option linter.unusedVariables false
set_option linter.unusedSimpArgs false
namespace Go.Proofs.YtbikplckehbcnaaDoor
open Go Go.RowKit

theorem page_info3 : ((Tryd.prog.info? 25).map fun i => (i.zero, i.size, i.bytes)) = some (some (.agg #[.int .i64 0, .slice none 0 0]), 2, 32) := by kernel_rfl
set_option maxRecDepth 100000 in
theorem step_appP {ops : Array Oper} {o : Oper} {a : Act} {W : World} {K : Act → World → Prop} {Q : Exit → Act → World → Prop} {E : Prop} (hgd : o.guard = none) (s x : Operand)
    (ho : o.op = .call { callee := .builtin .append, args := #[s, x], argTypes := #[49, 49] })
    (lo : Nat) (v : Value) (ps : List PgM) (m : PgM) (hs : a.eval s = v) (hown : W.ownsRow lo 25 2 v ps.length (pgCells ps)) (ad : Addr) (hx : a.eval x = .slice (some ad) 1 1)
    (hc : W.cell? ad = some (.int .i64 m.l)) (hc1 : W.cell? (ad.add 1) = some (.slice m.A m.xs.length m.c)) (hl : ps.length ≤ 65536) (hlo : lo ≤ W.heap.size)
    (h : ∀ (g c' : Nat) (w' : World), w'.ownsRow lo 25 2 (.slice (some ⟨g, 0, none⟩) (ps.length + 1) c') (ps ++ [m]).length (pgCells (ps ++ [m])) → W.grownBy w' v.ownBlock → (some g = v.ownBlock ∨ some g = some W.heap.size) → K (a.put o.dst (.slice (some ⟨g, 0, none⟩) (ps.length + 1) c')) w') :
    if Region.wanted o (yielded ops a.tmps) = true then Oper.wp Tryd.prog o a W K Q else E := by
  rw [if_pos (by simp [Region.wanted, hgd])]
  obtain ⟨i0, hi, hz⟩ := Option.map_eq_some_iff.1 page_info3
  simp only [Prod.mk.injEq] at hz
  obtain ⟨v', w', hr, h2, h3, _, h5⟩ := run_append_own_at (P := Tryd.prog) W lo 49 o.type 25 i0 (.agg #[.int .i64 0, .slice none 0 0]) 2 32 Tryd.underlying49 hi hz.1 hz.2.1 hz.2.2 rfl (by omega) v ps.length (pgCells ps) hown ad 1 1 [.int .i64 m.l, .slice m.A m.xs.length m.c] rfl
    (fun j u hu => by
      match j, hu with
      | 0, hu => simp at hu; subst hu; rw [show ad.add 0 = ad by simp [Addr.add]]; exact hc
      | 1, hu => simp at hu; subst hu; exact hc1) (by intro u hu; simp at hu; rcases hu with rfl | rfl <;> rfl) (by simp only [maxLen]; omega) (by omega) hlo
  obtain ⟨g, c', hv', _⟩ := h2.form (by omega)
  subst hv'
  unfold Oper.wp execOp
  simp only [ho, resolve, invoke, builtin, Sem.run_bind, Sem.run_pure, Result.andThen_ok, List.map_toArray, List.map_cons, List.map_nil, hs, hx, hr]
  exact h g c' w' (by rw [pgCells_snoc, List.length_append]; exact h2) h3 h5

end Go.Proofs.YtbikplckehbcnaaDoor
