/- PROVED: seneschallaw08.TwinPower returns true for every input, its arguments as they were; the tied card. Conditions: none but what the card's row lists (variables of Go's library, tied). -/
import Derived.Test.YtbikplckehbcnaaDoorShapeT
import Derived.Test.YtbikplckehbcnaaDoorPow
import Derived.Test.YtbikplckehbcnaaDoorPostL
import Derived.Test.YtbikplckehbcnaaDoorCards
import Derived.Test.YtbikplckehbcnaaDoorTie
set_option linter.unusedVariables false
namespace Go.Proofs.YtbikplckehbcnaaDoor
open Go Go.ChangeShapes Go.WideShapes Go.ChangeAt Go.RowKit Go.Deep

section
variable {H : Type} {enc : TypeId × Value → H} {W : World}
theorem ints_of {n : Nat} {A : Option Addr} {len cap : Nat} {d : DataW H} {ps : List MemPlace} (h : DataW.trod enc Tryd.prog W 0 (fun _ => true) true n 30 [.slice A len cap] = some (d, ps)) (hl : Light 30 d) :
    ∃ xs : List Int, xs.length = len ∧ Ints W (fun k => W.heap.size ≤ k) A xs := by
  obtain ⟨xs, h1, h2, h3⟩ := row_len (fun a (x : Int) => W.cell? a = some (.int .i64 x)) 1 Tryd.underlying30 (by kernel_rfl) (fun a cs n d ps h1 h2 h3 _ => by
    match cs, h1 with
    | [c0], _ =>
      obtain ⟨x, e, _⟩ := DataW.trod_int Tryd.underlying3 h3
      simp at e
      have := h2 0 (by omega)
      rw [show a.add 0 = a by simp [Addr.add]] at this
      exact ⟨x, by rw [this, e]; rfl⟩) h hl
  rw [show Tryd.prog.bytesOf 3 = 8 from by kernel_rfl] at h2
  simp only [reachBytes] at h2
  refine ⟨xs, h1, by omega, fun hp => ?_⟩
  obtain ⟨a, rfl, h4⟩ := h3 (by omega)
  obtain ⟨x0, hx0⟩ : ∃ x, xs[0]? = some x := ⟨_, List.getElem?_eq_getElem hp⟩
  have g0 := h4 0 x0 hx0
  obtain ⟨b, off, rfl, hb⟩ := spot_of (a := a) (by simpa [Addr.add] using g0)
  refine ⟨_, rfl, hb, (show ¬ W.heap.size ≤ b from by omega), fun j hj => ?_⟩
  obtain ⟨x, hx⟩ : ∃ x, xs[j]? = some x := ⟨_, List.getElem?_eq_getElem hj⟩
  have := h4 j x hx
  rw [Nat.mul_one] at this
  rw [this, List.getD_eq_getElem?_getD, hx]
  rfl

set_option maxRecDepth 100000 in
theorem group_cells {cs : List Value} {n : Nat} {d : DataW H} {ps : List MemPlace} (hlen : cs.length = 2) (h : DataW.trod enc Tryd.prog W 0 (fun _ => true) true n 54 cs = some (d, ps)) (hl : Light 54 d) :
    ∃ m : GrM, cs = [.slice m.A m.xs.length m.c, .int .u8 m.b] ∧ Ints W (fun k => W.heap.size ≤ k) m.A m.xs ∧ 0 ≤ m.b ∧ m.b < 256 := by
  obtain ⟨xs, m, _, hd, _, hxl, hx⟩ := DataW.trod_struct Tryd.underlying54 h
  match cs, hlen with
  | [c0, c1], _ =>
    have hb : Tryd.prog.cellsOf 5 = 1 := by kernel_rfl
    have hs : Tryd.prog.cellsOf 30 = 1 := by kernel_rfl
    match xs, hxl with
    | [x0, x1], _ =>
      have g0 := hx 0 _ rfl
      have g1 := hx 1 _ rfl
      simp [hb, hs] at g0 g1
      simp at hd
      obtain ⟨rfl, _⟩ := hd
      obtain ⟨A, len, cap, rfl⟩ := trod_slice_form Tryd.underlying30 g0
      obtain ⟨ys, h1, h2⟩ := ints_of (d := x0.1) (ps := x0.2) g0 (light_struct Tryd.underlying54 hl (i := 0) rfl rfl)
      obtain ⟨b, e1, _, hwf⟩ := DataW.trod_int Tryd.underlying5 g1
      simp at e1
      have hbb := bounds_u8 hwf
      exact ⟨⟨A, cap, ys, b⟩, by rw [e1, h1], h2, hbb.1, (show b < 256 from by omega)⟩

theorem groups_of {n : Nat} {A : Option Addr} {len cap : Nat} {d : DataW H} {ps : List MemPlace} (h : DataW.trod enc Tryd.prog W 0 (fun _ => true) true n 47 [.slice A len cap] = some (d, ps)) (hl : Light 47 d) :
    ∃ gs : List GrM, gs.length = len ∧ gs.length ≤ 17592186044416 ∧ Grps W A gs := by
  let R : Addr → GrM → Prop := fun a m => W.cell? (a.add 0) = some (.slice m.A m.xs.length m.c) ∧ W.cell? (a.add 1) = some (.int .u8 m.b) ∧ Ints W (fun k => W.heap.size ≤ k) m.A m.xs ∧ 0 ≤ m.b ∧ m.b < 256
  haveI : Inhabited GrM := ⟨⟨none, 0, [], 0⟩⟩
  obtain ⟨xs, h1, h2, h3⟩ := row_len R 2 Tryd.underlying47 (by kernel_rfl) (fun a cs n d ps h1 h2 h3 h4 => by
    obtain ⟨m, rfl, h5, h6, h7⟩ := group_cells h1 h3 h4
    exact ⟨m, h2 0 (by omega), h2 1 (by omega), h5, h6, h7⟩) h hl
  rw [show Tryd.prog.bytesOf 54 = 32 from by kernel_rfl] at h2
  simp only [reachBytes] at h2
  refine ⟨xs, h1, by omega, fun hp => ?_⟩
  obtain ⟨a, rfl, h4⟩ := h3 (by omega)
  obtain ⟨x0, hx0⟩ : ∃ x, xs[0]? = some x := ⟨_, List.getElem?_eq_getElem hp⟩
  obtain ⟨g0, _⟩ := h4 0 x0 hx0
  obtain ⟨b, off, rfl, hb⟩ := spot_of (a := a) (by simpa [Addr.add] using g0)
  refine ⟨b, off, rfl, hb, fun j x hj => ?_⟩
  obtain ⟨g1, g2, g3, g4⟩ := h4 j x hj
  simp only [Addr.add_lit, Nat.add_zero] at g1 g2
  exact ⟨g1, g2, g3, g4⟩

set_option maxRecDepth 100000 in
theorem two_of {v : Value} {d : DataW H} {p : List MemPlace} {base : Nat} (hv : Value.okWide Tryd.prog W .any base 48 v) (h : DataW.Trod enc Tryd.prog W 0 (fun _ => true) true 48 v d p) (hl : Light 48 d) :
    ∃ (A : Option Addr) (c : Nat) (xs : List Int) (B : Option Addr) (e : Nat) (ys : List Int), v = .agg #[.slice A xs.length c, .slice B ys.length e] ∧ Ints W (fun k => W.heap.size ≤ k) A xs ∧ Ints W (fun k => W.heap.size ≤ k) B ys := by
  have hc : Tryd.prog.cellsOf 48 = 2 := by kernel_rfl
  have hc1 : Tryd.prog.cellsOf 30 = 1 := by kernel_rfl
  simp only [Value.okWide, Tryd.underlying48] at hv
  obtain ⟨cs, rfl, h2, _⟩ := hv
  rw [hc] at h2
  obtain ⟨fuel, hf⟩ := h
  obtain ⟨xs, m, _, hd, _, hxl, hx⟩ := DataW.trod_array Tryd.underlying48 hf
  obtain ⟨l⟩ := cs
  match l, h2 with
  | [c0, c1], _ =>
    match xs, hxl with
    | [x0, x1], _ =>
      have g0 := hx 0 (by omega)
      have g1 := hx 1 (by omega)
      simp [hc1, Value.cells] at g0 g1
      simp at hd
      obtain ⟨rfl, _⟩ := hd
      obtain ⟨A, len, cap, rfl⟩ := trod_slice_form Tryd.underlying30 g0
      obtain ⟨B, len', cap', rfl⟩ := trod_slice_form Tryd.underlying30 g1
      obtain ⟨ys, h1, h2⟩ := ints_of (d := x0.1) (ps := x0.2) g0 (light_array Tryd.underlying48 hl (by simp))
      obtain ⟨zs, h3, h4⟩ := ints_of (d := x1.1) (ps := x1.2) g1 (light_array Tryd.underlying48 hl (by simp))
      exact ⟨A, cap, ys, B, cap', zs, by rw [h1, h3], h2, h4⟩
end

set_option maxRecDepth 100000 in
theorem pow_lifted (os : Os) (started : os.Started) (H : Type) (enc : TypeId × Value → H) :
    ReturnsInHanded {} Tryd.checked os 4 .any (fun w args => (Rows.twinPowerSpec.pre enc Tryd.prog Tryd.f4 Rows.twinPowerRow.domain false w args ∧ laidMetH Tryd.prog Rows.twinPowerRow.laid w) ∧ sizedMet enc Tryd.prog Tryd.f4 (OpenSpec.ofChange Rows.twinPowerSpec) false w args)
      (Rows.twinPowerSpec.post enc Tryd.prog Tryd.f4 false true false false) := by
  refine law_liftedL started (by kernel_rfl) Tryd.func4 (by kernel_rfl) rfl (by kernel_rfl) (fun ds hds => ?_)
    (ChangeSpec.witness_shaped (enc := enc) (C := Tryd.checked) (os := os) (X := fun w _ => laidMetH Tryd.prog Rows.twinPowerRow.laid w) false (World.laidAll Tryd.prog os Rows.twinPowerRow.laid) #[.slice none 0 0, .agg #[.slice none 0 0, .slice none 0 0]] 8 (World.laidAll_os _ _ _)
      (World.shaped_of_ZipB (by kernel_rfl) (by kernel_rfl)) (by kernel_rfl) (by kernel_rfl) (by kernel_rfl)
      (by rw [MakeChecks.laidMetH_plain _ _ _ (by kernel_rfl)]; exact laidMet_laidAll _ (by kernel_rfl) (by kernel_rfl))) ?_
  · rw [show Tryd.f4.params.size = 2 from by kernel_rfl] at hds
    match ds, hds with
    | [d1, d2], _ => rfl
  · intro W base args ds p hval hA hsz _ _
    rw [Tryd.params4] at hA hval hsz
    obtain ⟨v0, vs0, d0, ds0, p0, q0, hargs, rfl, rfl, h0, r0⟩ := trodAll_cons hA
    obtain ⟨v1, vs1, d1, ds1, p1, q1, rfl, rfl, rfl, h1, r1⟩ := trodAll_cons r0
    obtain ⟨rfl, rfl, rfl⟩ := trodAll_nil r1
    obtain rfl : args = #[v0, v1] := by cases args; simp_all
    obtain ⟨A, len, cap, rfl⟩ := okWide_slice Tryd.underlying47 (hval 0 47 v0 rfl rfl)
    obtain ⟨n0, g0⟩ := h0
    obtain ⟨gs, rfl, hlen, hg⟩ := groups_of g0 (light_of hsz (j := 0) rfl rfl)
    obtain ⟨pA, pc, pxs, fA, fc, fxs, rfl, hp, hf⟩ := two_of (hval 1 48 v1 rfl rfl) h1 (light_of hsz (j := 1) rfl rfl)
    exact power_any W A cap gs hg hlen pA pc pxs hp fA fc fxs hf

theorem twinPower_over : Rows.TwinPowerSaid :=
  OpenClaim.holds_of_wide 4 Tryd.f4 rfl rfl rfl rfl rfl rfl rfl ⟨rfl, rfl, rfl, rfl, rfl⟩ rfl rfl rfl rfl rfl (by kernel_rfl) Tryd.func4 (by kernel_rfl)
    (of_decide_eq_true (by kernel_rfl)) (by unfold Func.isWrapper; first | (rw [if_pos (by decide +kernel)]; kernel_rfl) | (rw [if_neg (by decide +kernel)]; exact ⟨rfl, rfl⟩))
    (fun os started H enc _ => pow_lifted os started H enc)

theorem pow_plain (f : FuncId) (fn : Func) (hf : Tryd.pinned.checked.prog.funcNamed "seneschal/seneschallaw08.TwinPower" = some f) (hfn : Tryd.pinned.checked.prog.funcs[f]? = some fn) :
    true = Tryd.pinned.checked.prog.looks [] ∧ ∀ (j : Nat) t, fn.params[j]? = some t → Tryd.pinned.checked.prog.wantsStandIn t = false := by
  obtain rfl : f = 4 := Option.some.inj ((show Tryd.prog.funcNamed "seneschal/seneschallaw08.TwinPower" = some 4 by kernel_rfl).symm.trans hf) |>.symm
  obtain rfl : fn = Tryd.f4 := (Option.some.inj (Tryd.func4.symm.trans hfn)).symm
  refine ⟨by kernel_rfl, fun j t ht => ?_⟩
  rw [Tryd.params4] at ht
  have hm : t ∈ [47, 48] := by simpa using Array.mem_of_getElem? ht
  have hall : ([47, 48].all fun u => !Tryd.prog.wantsStandIn u) = true := by kernel_rfl
  exact (show Tryd.prog.wantsStandIn t = false by simpa using List.all_eq_true.1 hall t hm)

theorem twinPower_proved : Rows.TwinPowerCardSaid :=
  Claim7.holds_tied_plain_at .later [] _ _ _ _ twinPower_over (fun _ h => by cases h) (by kernel_rfl) (fun _ h => by cases h) twinPower_row_tie rfl ⟨rfl, rfl⟩ (by kernel_rfl) rfl pow_plain (by kernel_rfl)
#print axioms twinPower_proved

end Go.Proofs.YtbikplckehbcnaaDoor
