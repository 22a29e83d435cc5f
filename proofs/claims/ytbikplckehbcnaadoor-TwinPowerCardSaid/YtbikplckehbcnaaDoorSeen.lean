/- The map of numbers that have been seen. -/
import Derived.Test.YtbikplckehbcnaaDoorStB
import Derived.Test.YtbikplckehbcnaaDoorPlM
set_option linter.unusedVariables false
set_option linter.unusedSimpArgs false
namespace Go.Proofs.YtbikplckehbcnaaDoor
open Go Go.RowKit

noncomputable def belem (v : Value) : Option (DataW Unit × List MemPlace) := plainElem Tryd.prog 4 v
def SeenIs (D : DataW Unit) (ns : List Int) : Prop := ∀ n : Int, (Lit.int .i64 n).wf = true → D.atKey (.int .i64 n) (.lit (.bool false)) = .lit (.bool (decide (n ∈ ns)))
set_option maxRecDepth 100000 in
theorem plainElem_bool_inv {v : Value} {z : DataW Unit × List MemPlace} (h : belem v = some z) : ∃ b, v = .bool b ∧ z = (.lit (.bool b), []) := by
  unfold belem plainElem at h
  rw [Tryd.underlying4] at h
  cases v <;> simp at h
  subst h
  exact ⟨_, rfl, rfl⟩
theorem zero_bool (w : World) : (zeroValue 4).run Tryd.prog w = .ok (.bool false) w := by kernel_rfl
set_option maxRecDepth 100000 in
theorem seen_look {W : World} {m k : Nat} {D : DataW Unit} {ns : List Int} (h : W.ownsMap Tryd.prog 3 belem m k D) (hs : SeenIs D ns) (n : Int) (hw : (Lit.int .i64 n).wf = true) :
    (Instr.lookup 143 (.map (some m)) (.int .i64 n) false).run Tryd.prog W = .ok (.bool (decide (n ∈ ns))) W := by
  obtain ⟨v, ps, hr, hv⟩ := h.lookup law_int Tryd.underlying143 (zero_bool W) (plainElem_bool Tryd.underlying4 false) (Maps.keyOf_int_mk Tryd.underlying3 hw)
  obtain ⟨b, rfl, hb⟩ := plainElem_bool_inv hv
  rw [hr]
  have := hs n hw
  simp only [Prod.mk.injEq] at hb
  rw [hb.1] at this
  injection this with this
  injection this with this
  rw [this]
set_option maxRecDepth 100000 in
theorem seen_store {W : World} {m k : Nat} {D : DataW Unit} {ns : List Int} (h : W.ownsMap Tryd.prog 3 belem m k D) (hs : SeenIs D ns) (hk : k < 4611686018427387904) (n : Int) (hw : (Lit.int .i64 n).wf = true) :
    ∃ w' D', (Instr.mapUpdate 143 (.map (some m)) (.int .i64 n) (.bool true)).run Tryd.prog W = .ok () w' ∧ w'.ownsMap Tryd.prog 3 belem m (k + 1) D' ∧ SeenIs D' (n :: ns) ∧ W.grownBy w' (some m) := by
  obtain ⟨w', hr, ho, hg⟩ := h.update law_int Tryd.underlying143 (by simp only [maxLen]; omega) (Maps.keyOf_int_mk Tryd.underlying3 hw) (plainElem_bool Tryd.underlying4 true)
  have hm : Maps.IsMap D := by obtain ⟨es, clock, _, _, _, rfl⟩ := h; exact ⟨_, rfl⟩
  refine ⟨w', _, hr, ho, ?_, hg⟩
  intro x hx
  by_cases e : x = n
  · subst e
    rw [Maps.atKey_put_same hm (keyLit_int _)]
    simp
  · rw [Maps.atKey_put_other (fun h => e (by injection h)), hs x hx]
    simp [e]

end Go.Proofs.YtbikplckehbcnaaDoor
