/- PROVED: seneschallaw23.TomeWords returns true for every input, its arguments as they were; the tied card. Conditions: none but what the card's row lists (variables of Go's library, tied). -/
import Derived.Test.YtbikplckehbcnaaDoorTmL
import Derived.Test.YtbikplckehbcnaaDoorTmH
import Derived.Test.YtbikplckehbcnaaDoorCards
import Derived.Test.YtbikplckehbcnaaDoorTie
set_option linter.unusedVariables false
namespace Go.Proofs.YtbikplckehbcnaaDoor
open Go Go.ChangeShapes Go.WideShapes Go.ChangeAt Go.RowKit

set_option maxRecDepth 100000 in
theorem str_of {W : World} {base : Nat} {v : Value} (h : Value.okWide Tryd.prog W .any base 9 v) : ∃ l : Bs, v = .string (ba l) := by
  obtain ⟨s, rfl⟩ := okWide_string Tryd.underlying9 h
  exact ⟨s.data.toList, rfl⟩

set_option maxRecDepth 100000 in
theorem words_lifted (os : Os) (started : os.Started) (H : Type) (enc : TypeId × Value → H) :
    ReturnsInHanded {} Tryd.checked os 8 .any (fun w args => (Rows.tomeWordsSpec.pre enc Tryd.prog Tryd.f8 Rows.tomeWordsRow.domain false w args ∧ laidMetH Tryd.prog Rows.tomeWordsRow.laid w) ∧ sizedMet enc Tryd.prog Tryd.f8 (OpenSpec.ofChange Rows.tomeWordsSpec) false w args)
      (Rows.tomeWordsSpec.post enc Tryd.prog Tryd.f8 false true false false) := by
  refine law_lifted23 started (by kernel_rfl) Tryd.func8 (by kernel_rfl) rfl (by kernel_rfl) (fun ds hds => ?_)
    (ChangeSpec.witness_shaped (enc := enc) (C := Tryd.checked) (os := os) (X := fun w _ => laidMetH Tryd.prog Rows.tomeWordsRow.laid w) false (World.laidAll Tryd.prog os Rows.tomeWordsRow.laid) #[.string ⟨#[]⟩, .string ⟨#[]⟩, .string ⟨#[]⟩] 8 (World.laidAll_os _ _ _)
      (World.shaped_of_ZipB (by kernel_rfl) (by kernel_rfl)) (by kernel_rfl) (by kernel_rfl) (by kernel_rfl)
      (by rw [MakeChecks.laidMetH_plain _ _ _ (by kernel_rfl)]; exact laidMet_laidAll _ (by kernel_rfl) (by kernel_rfl))) ?_
  · rw [show Tryd.f8.params.size = 3 from by kernel_rfl] at hds
    match ds, hds with
    | [d1, d2, d3], _ => rfl
  · intro W base args ds p hval hA hsz hT
    rw [Tryd.params8] at hA hval hsz
    obtain ⟨v0, vs0, d0, ds0, p0, q0, hargs, rfl, rfl, h0, r0⟩ := trodAll_cons hA
    obtain ⟨v1, vs1, d1, ds1, p1, q1, rfl, rfl, rfl, h1, r1⟩ := trodAll_cons r0
    obtain ⟨v2, vs2, d2, ds2, p2, q2, rfl, rfl, rfl, h2, r2⟩ := trodAll_cons r1
    obtain ⟨rfl, rfl, rfl⟩ := trodAll_nil r2
    obtain rfl : args = #[v0, v1, v2] := by cases args; simp_all
    obtain ⟨l0, rfl⟩ := str_of (hval 0 9 v0 rfl rfl)
    obtain ⟨l1, rfl⟩ := str_of (hval 1 9 v1 rfl rfl)
    obtain ⟨l2, rfl⟩ := str_of (hval 2 9 v2 rfl rfl)
    exact words_any l0 l1 l2 W hT

theorem words_over : Rows.TomeWordsSaid :=
  OpenClaim.holds_of_wide 8 Tryd.f8 rfl rfl rfl rfl rfl rfl rfl ⟨rfl, rfl, rfl, rfl, rfl⟩ rfl rfl rfl rfl rfl (by kernel_rfl) Tryd.func8 (by kernel_rfl)
    (of_decide_eq_true (by kernel_rfl)) (by unfold Func.isWrapper; first | (rw [if_pos (by decide +kernel)]; kernel_rfl) | (rw [if_neg (by decide +kernel)]; exact ⟨rfl, rfl⟩))
    (fun os started H enc _ => words_lifted os started H enc)

theorem words_plain (f : FuncId) (fn : Func) (hf : Tryd.pinned.checked.prog.funcNamed "seneschal/seneschallaw23.TomeWords" = some f) (hfn : Tryd.pinned.checked.prog.funcs[f]? = some fn) :
    true = Tryd.pinned.checked.prog.looks [] ∧ ∀ (j : Nat) t, fn.params[j]? = some t → Tryd.pinned.checked.prog.wantsStandIn t = false := by
  obtain rfl : f = 8 := Option.some.inj ((show Tryd.prog.funcNamed "seneschal/seneschallaw23.TomeWords" = some 8 by kernel_rfl).symm.trans hf) |>.symm
  obtain rfl : fn = Tryd.f8 := (Option.some.inj (Tryd.func8.symm.trans hfn)).symm
  refine ⟨by kernel_rfl, fun j t ht => ?_⟩
  rw [Tryd.params8] at ht
  have hm : t ∈ [9, 9, 9] := by simpa using Array.mem_of_getElem? ht
  have hall : ([9, 9, 9].all fun u => !Tryd.prog.wantsStandIn u) = true := by kernel_rfl
  exact (show Tryd.prog.wantsStandIn t = false by simpa using List.all_eq_true.1 hall t hm)

theorem tomeWords_proved : Rows.TomeWordsCardSaid :=
  Claim7.holds_tied_plain_at .later [] _ _ _ _ words_over (fun _ h => by cases h) (by kernel_rfl) (fun _ h => by cases h) tomeWords_row_tie rfl ⟨rfl, rfl⟩ (by kernel_rfl) rfl words_plain (by kernel_rfl)
#print axioms tomeWords_proved

end Go.Proofs.YtbikplckehbcnaaDoor
