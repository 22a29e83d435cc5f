/- What the rows of layer 23 need of their worlds: the library's tables out of the row's list; a row out of its walk, the world's shape handed on. -/
import Derived.Test.YtbikplckehbcnaaDoorTmA
import Derived.Test.YtbikplckehbcnaaDoorPost
import Derived.Test.YtbikplckehbcnaaDoorRows
import Derived.LaidMore
import Derived.Lay
import Derived.Stop.Joined
import Derived.Stop.LaidErr
import Derived.Lib.LaidTab
import Derived.Shelf.Vars
import Derived.SevenTiedAt
set_option linter.unusedVariables false
namespace Go.Proofs.YtbikplckehbcnaaDoor
open Go Go.ChangeShapes Go.WideShapes Go.ChangeAt Go.RowKit

/-- The list of the rows. -/
def laid23 : List (String × DataW Unit) := Rows.tomeWordsRow.laid
theorem typeES (u : TypeId) (h : Tryd.prog.typeName? 3 u = some "*errors.errorString") : u = 220 :=
  typeName_ptr_named (nm := "errors.errorString") (by rw [show "*" ++ "errors.errorString" = "*errors.errorString" by decide]; kernel_rfl) (by kernel_rfl) (by decide) u (by rw [show "*" ++ "errors.errorString" = "*errors.errorString" by decide]; exact h)

set_option maxRecDepth 100000 in
theorem tab_pw : laid23.drop 2 = ("internal/strconv.uint64pow10", Lib.tabData .u64 Lib.pow10Tab) :: laid23.drop 3 := by kernel_rfl
set_option maxRecDepth 100000 in
theorem tab_sp : laid23.drop 7 = ("strings.asciiSpace", Lib.tabData .u8 Lib.asciiSpaceTab) :: laid23.drop 8 := by kernel_rfl
set_option maxRecDepth 100000 in
theorem laid_er : laid23.drop 4 = ("strconv.ErrRange", Rows.laid_strconv_ErrRange) :: laid23.drop 5 := by kernel_rfl
set_option maxRecDepth 100000 in
theorem laid_es : laid23.drop 5 = ("strconv.ErrSyntax", Rows.laid_strconv_ErrSyntax) :: laid23.drop 6 := by kernel_rfl
theorem drop1 {W : World} {n : Nat} (h : laidMet Tryd.prog (laid23.drop n) W) (hn : n < laid23.length) : laidMet Tryd.prog (laid23.drop (n + 1)) W := by
  rw [List.drop_eq_getElem_cons hn] at h
  exact h.tail
theorem laid23_len : laid23.length = 9 := by kernel_rfl

theorem tabs_of {W : World} (hL : laidMetH Tryd.prog laid23 W) (hsh : W.ShapedOpen Tryd.prog) : Tabs W := by
  have h0 : laidMet Tryd.prog (laid23.drop 0) W := by
    rw [MakeChecks.laidMetH_plain _ _ _ (by kernel_rfl)] at hL
    exact hL
  have hl := laid23_len
  have h2 := drop1 (drop1 h0 (by omega)) (by omega)
  have h4 := drop1 (drop1 h2 (by omega)) (by omega)
  have h5 := drop1 h4 (by omega)
  have h7 := drop1 (drop1 h5 (by omega)) (by omega)
  rw [tab_pw] at h2
  rw [laid_er] at h4
  rw [laid_es] at h5
  rw [tab_sp] at h7
  obtain ⟨a0, s0, hv0, -, -, -⟩ := laid_sentinel h4 glob_er (by kernel_rfl) Tryd.underlying114 typeES Tryd.underlying220 Tryd.underlying222 rfl rfl Tryd.underlying9 (by kernel_rfl) (by kernel_rfl)
  obtain ⟨a1, s1, hv1, -, -, -⟩ := laid_sentinel h5 glob_es (by kernel_rfl) Tryd.underlying114 typeES Tryd.underlying220 Tryd.underlying222 rfl rfl Tryd.underlying9 (by kernel_rfl) (by kernel_rfl)
  refine ⟨Lib.tabIs_of_head (t := 170) (e := 5) (n := 256) glob_sp (by kernel_rfl) Tryd.underlying170 Tryd.underlying5 (by kernel_rfl) (by kernel_rfl) h7, Lib.tabIs_of_head (t := 230) (e := 112) (n := 20) glob_pw (by kernel_rfl) Tryd.underlying230 Tryd.underlying112 (by kernel_rfl) (by kernel_rfl) h2, ⟨_, _, hv1⟩, ⟨_, _, hv0⟩, ?_⟩
  exact cell_of_shapedOpen_int (t := 3) (zero := #[.int .i64 0]) hsh (by decide +kernel) (by kernel_rfl) rfl (by kernel_rfl) (by kernel_rfl) Tryd.underlying3

section
variable {H : Type} {enc : TypeId × Value → H}
/-- 'returnsInHanded_of_change_and', the world's shape handed to the contract too. -/
theorem handed_and_shaped {a : Assume} {C : Checked} {os : Os} {f : FuncId} {fn : Func} {s : ChangeSpec} {conds : List PathCond} {apart fresh handsOn again : Bool} {X : World → Array Value → Prop}
    (hX : ∀ (w w' : World) (args : Array Value), w.heap = w'.heap → X w args → X w' args)
    (own : ownKnob C.prog.godebug = none) (started : os.Started) (noInit : C.prog.inits.idxOf? f = none) (hfn : C.prog.funcs[f]? = some fn)
    (witness : ∃ (w : World) (tape : Tape) (i : Input), w.os = os ∧ (w.forCall tape i).Shaped C.prog ∧ i.vars = [] ∧ Input.okWide C.prog (w.forCall tape i) .any w.heap.size f i ∧
      ((s.pre enc C.prog fn conds apart (w.forCall tape i).memory i.args ∧ X (w.forCall tape i).memory i.args) ∧ sizedMet enc C.prog fn (OpenSpec.ofChange s) apart (w.forCall tape i).memory i.args) ∧ a.holds C.prog (lone (Frame.enter C.prog f i.args .normal) [] (w.forCall tape i)))
    (contract : ∀ (W : World) (base : Nat) (args : Array Value) (ds gs : List (DataW H)) (before : List MemPlace),
      (∀ (j : Nat) t v, fn.params[j]? = some t → args[j]? = some v → Value.okWide C.prog W .any base t v) →
      DataW.Whole enc C.prog fn.params.toList s.vars apart W args.toList ds gs before →
      conds.all (PathCond.test C.prog ⟨fn.params.toList, ds, s.plain.varTypes C.prog, gs⟩) = true →
      (DataW.weightsEach C.prog (fn.params.toList ++ s.plain.varTypes C.prog) (ds ++ gs)).all (· ≤ reachBytes) = true → X W args → W.ShapedOpen C.prog →
      Calls C.prog f args W fun e W' => ∃ v, e = .returned v ∧ s.post enc C.prog fn apart fresh handsOn again W args v W') :
    ReturnsInHanded a C os f .any (fun w args => (s.pre enc C.prog fn conds apart w args ∧ X w args) ∧ sizedMet enc C.prog fn (OpenSpec.ofChange s) apart w args) (s.post enc C.prog fn apart fresh handsOn again) := by
  refine returnsInHanded_of_calls own started noInit witness ?_
  intro w tape i _ hsh _ hok hpre hholds
  obtain ⟨_, _, _, fn', hfn', _, _, _, _, hval⟩ := hok
  have e : fn' = fn := Option.some.inj (hfn'.symm.trans hfn)
  subst e
  obtain ⟨⟨⟨ds, gs, before, hw, hc⟩, hx⟩, hz⟩ := hpre
  have hw' := DataW.Whole.of_heap (w' := w.forCall tape i) (by rfl) hw
  refine (contract (w.forCall tape i) w.heap.size i.args ds gs before hval hw' hc (hz.weights hw) (hX _ _ _ (by rfl) hx) hsh).mono fun e W' ⟨v, he, hp⟩ => ?_
  subst he
  exact ChangeSpec.post_blind hp

set_option maxRecDepth 100000 in
theorem law_lifted23 {os : Os} (started : os.Started) {s : ChangeSpec} {f : FuncId} {fn : Func} (noInit : Tryd.prog.inits.idxOf? f = none) (hfn : Tryd.prog.funcs[f]? = some fn) (hres : fn.resultTypes = #[4]) (hvars : s.vars = [])
    (hps : fn.params.toList.all (fun t => Tryd.prog.readableRec t && decide (t < Tryd.prog.types.size)) = true) (hspec : ∀ ds : List (DataW H), ds.length = fn.params.size → s.fn H ds = { results := [.lit (.bool true)], args := ds })
    (witness : ∃ (w : World) (tape : Tape) (i : Input), w.os = os ∧ (w.forCall tape i).Shaped Tryd.checked.prog ∧ i.vars = [] ∧ Input.okWide Tryd.checked.prog (w.forCall tape i) .any w.heap.size f i ∧
      ((s.pre enc Tryd.checked.prog fn [] false (w.forCall tape i).memory i.args ∧ laidMetH Tryd.prog laid23 (w.forCall tape i).memory) ∧ sizedMet enc Tryd.checked.prog fn (OpenSpec.ofChange s) false (w.forCall tape i).memory i.args) ∧ ({} : Assume).holds Tryd.checked.prog (lone (Frame.enter Tryd.checked.prog f i.args .normal) [] (w.forCall tape i)))
    (walk : ∀ (W : World) (base : Nat) (args : Array Value) (ds : List (DataW H)) (p : List MemPlace), (∀ (j : Nat) t v, fn.params[j]? = some t → args[j]? = some v → Value.okWide Tryd.prog W .any base t v) →
      DataW.TrodAll enc Tryd.prog W 0 (fun _ => true) true fn.params.toList args.toList ds p → (DataW.weightsEach Tryd.prog fn.params.toList ds).all (· ≤ reachBytes) = true → Tabs W →
      Calls Tryd.prog f args W fun e w' => e = .returned (.bool true) ∧ Below W.heap.size W w') :
    ReturnsInHanded {} Tryd.checked os f .any (fun w args => (s.pre enc Tryd.prog fn [] false w args ∧ laidMetH Tryd.prog laid23 w) ∧ sizedMet enc Tryd.prog fn (OpenSpec.ofChange s) false w args) (s.post enc Tryd.prog fn false true false false) := by
  refine handed_and_shaped (C := Tryd.checked) (X := fun w _ => laidMetH Tryd.prog laid23 w) (fun _ _ _ hh h => h.of_heap hh) own_knob started noInit hfn witness ?_
  intro W base args ds gs before hval hW hcnd hsz hL hsh
  have hW' := hW
  obtain ⟨p, q, hA, hV, rfl, hfz, hnd⟩ := hW
  rw [hvars] at hV
  obtain ⟨rfl, rfl⟩ := trodVars_none hV
  have hsz' : (DataW.weightsEach Tryd.prog fn.params.toList ds).all (· ≤ reachBytes) = true := by
    have e : s.plain.varTypes Tryd.checked.prog = [] := by simp [DataSpec.varTypes, ChangeSpec.plain, hvars]
    rw [e, List.append_nil, List.append_nil] at hsz
    exact hsz
  have hlen : ds.length = fn.params.size := by
    have aux : ∀ (ts : List TypeId) (vs : List Value) (ds : List (DataW H)) (ps : List MemPlace), DataW.TrodAll enc Tryd.prog W 0 (fun _ => true) true ts vs ds ps → ds.length = ts.length := by
      intro ts
      induction ts with
      | nil => intro vs ds ps h; obtain ⟨_, rfl, _⟩ := trodAll_nil h; rfl
      | cons t ts ih => intro vs ds ps h; obtain ⟨v, vs', d, ds', p, q, _, rfl, _, _, h2⟩ := trodAll_cons h; simp [ih _ _ _ h2]
    have := aux _ _ _ _ hA
    simpa using this
  refine (walk W base args ds p hval hA hsz' (tabs_of hL hsh)).mono fun e W' ⟨he, hb⟩ => ?_
  subst he
  exact ⟨_, rfl, law_post hres hvars hps hW' (by rw [List.append_nil]; exact hspec ds hlen) hb⟩
end

end Go.Proofs.YtbikplckehbcnaaDoor
