/- PROVED: seneschallaw08.TwinRefuses returns true for every input, its arguments as they were; the tied card. Conditions: none but what the card's row lists (variables of Go's library, tied). -/
import Derived.Test.YtbikplckehbcnaaDoorShapeT
import Derived.Test.YtbikplckehbcnaaDoorPostL
import Derived.Test.YtbikplckehbcnaaDoorCards
import Derived.Test.YtbikplckehbcnaaDoorTie
set_option linter.unusedVariables false
namespace Go.Proofs.YtbikplckehbcnaaDoor
open Go Go.ChangeShapes Go.WideShapes Go.ChangeAt Go.RowKit

set_option maxRecDepth 100000 in
theorem ref_lifted (os : Os) (started : os.Started) (H : Type) (enc : TypeId × Value → H) :
    ReturnsInHanded {} Tryd.checked os 3 .any (fun w args => (Rows.twinRefusesSpec.pre enc Tryd.prog Tryd.f3 Rows.twinRefusesRow.domain false w args ∧ laidMetH Tryd.prog Rows.twinRefusesRow.laid w) ∧ sizedMet enc Tryd.prog Tryd.f3 (OpenSpec.ofChange Rows.twinRefusesSpec) false w args)
      (Rows.twinRefusesSpec.post enc Tryd.prog Tryd.f3 false true false false) := by
  refine law_liftedL started (by kernel_rfl) Tryd.func3 (by kernel_rfl) rfl (by kernel_rfl) (fun ds hds => ?_)
    (ChangeSpec.witness_shaped (enc := enc) (C := Tryd.checked) (os := os) (X := fun w _ => laidMetH Tryd.prog Rows.twinRefusesRow.laid w) false (World.laidAll Tryd.prog os Rows.twinRefusesRow.laid) #[.slice none 0 0, .agg #[.int .i64 0, .int .i64 0, .slice none 0 0]] 8 (World.laidAll_os _ _ _)
      (World.shaped_of_ZipB (by kernel_rfl) (by kernel_rfl)) (by kernel_rfl) (by kernel_rfl) (by kernel_rfl)
      (by rw [MakeChecks.laidMetH_plain _ _ _ (by kernel_rfl)]; exact laidMet_laidAll _ (by kernel_rfl) (by kernel_rfl))) ?_
  · rw [show Tryd.f3.params.size = 2 from by kernel_rfl] at hds
    match ds, hds with
    | [d1, d2], _ => rfl
  · intro W base args ds p hval hA hsz _ _
    rw [Tryd.params3] at hA hval hsz
    obtain ⟨v0, vs0, d0, ds0, p0, q0, hargs, rfl, rfl, h0, r0⟩ := trodAll_cons hA
    obtain ⟨v1, vs1, d1, ds1, p1, q1, rfl, rfl, rfl, h1, r1⟩ := trodAll_cons r0
    obtain ⟨rfl, rfl, rfl⟩ := trodAll_nil r1
    obtain rfl : args = #[v0, v1] := by cases args; simp_all
    obtain ⟨A, len, cap, rfl⟩ := okWide_slice Tryd.underlying22 (hval 0 22 v0 rfl rfl)
    obtain ⟨n0, g0⟩ := h0
    obtain ⟨ls, rfl, hlen, hl⟩ := leaves_of g0 (light_of hsz (j := 0) rfl rfl)
    have hv1 := hval 1 27 v1 rfl rfl
    simp only [Value.okWide, Tryd.underlying27] at hv1
    obtain ⟨cs, rfl, hcs, _⟩ := hv1
    rw [show Tryd.prog.cellsOf 27 = 3 from by kernel_rfl] at hcs
    obtain ⟨n1, g1⟩ := h1
    obtain ⟨m, hm, hwf, hxl, hsl⟩ := leaf_cells (by simpa [Value.cells] using hcs) g1 (light_of hsz (j := 1) rfl rfl)
    obtain rfl : cs = #[.int .i64 m.n, .int .i64 m.l, .slice m.A m.xs.length m.c] := by cases cs; simp [Value.cells] at hm; rw [hm]
    exact refuses_any W A cap ls hl (by omega) m.n m.l m.A m.c m.xs hsl hwf hxl

theorem twinRefuses_over : Rows.TwinRefusesSaid :=
  OpenClaim.holds_of_wide 3 Tryd.f3 rfl rfl rfl rfl rfl rfl rfl ⟨rfl, rfl, rfl, rfl, rfl⟩ rfl rfl rfl rfl rfl (by kernel_rfl) Tryd.func3 (by kernel_rfl)
    (of_decide_eq_true (by kernel_rfl)) (by unfold Func.isWrapper; first | (rw [if_pos (by decide +kernel)]; kernel_rfl) | (rw [if_neg (by decide +kernel)]; exact ⟨rfl, rfl⟩))
    (fun os started H enc _ => ref_lifted os started H enc)

theorem ref_plain (f : FuncId) (fn : Func) (hf : Tryd.pinned.checked.prog.funcNamed "seneschal/seneschallaw08.TwinRefuses" = some f) (hfn : Tryd.pinned.checked.prog.funcs[f]? = some fn) :
    true = Tryd.pinned.checked.prog.looks [] ∧ ∀ (j : Nat) t, fn.params[j]? = some t → Tryd.pinned.checked.prog.wantsStandIn t = false := by
  obtain rfl : f = 3 := Option.some.inj ((show Tryd.prog.funcNamed "seneschal/seneschallaw08.TwinRefuses" = some 3 by kernel_rfl).symm.trans hf) |>.symm
  obtain rfl : fn = Tryd.f3 := (Option.some.inj (Tryd.func3.symm.trans hfn)).symm
  refine ⟨by kernel_rfl, fun j t ht => ?_⟩
  rw [Tryd.params3] at ht
  have hm : t ∈ [22, 27] := by simpa using Array.mem_of_getElem? ht
  have hall : ([22, 27].all fun u => !Tryd.prog.wantsStandIn u) = true := by kernel_rfl
  exact (show Tryd.prog.wantsStandIn t = false by simpa using List.all_eq_true.1 hall t hm)

theorem twinRefuses_proved : Rows.TwinRefusesCardSaid :=
  Claim7.holds_tied_plain_at .later [] _ _ _ _ twinRefuses_over (fun _ h => by cases h) (by kernel_rfl) (fun _ h => by cases h) twinRefuses_row_tie rfl ⟨rfl, rfl⟩ (by kernel_rfl) rfl ref_plain (by kernel_rfl)
#print axioms twinRefuses_proved

end Go.Proofs.YtbikplckehbcnaaDoor
