/- PROVED: seneschallaw06.PlateArms returns true for every input, its arguments as they were. Conditions: none. -/
import Derived.Test.YtbikplckehbcnaaArms
import Derived.Test.YtbikplckehbcnaaPost
import Derived.Deep.SlicePairs
set_option linter.unusedVariables false
namespace Go.Proofs.Ytbikplckehbcnaa
open Go Go.ChangeShapes Go.WideShapes Go.ChangeAt Go.RowKit Go.Deep

section
variable {H : Type} {enc : TypeId × Value → H}
theorem writes_of {W : World} {v : Value} {d : DataW H} {p : List MemPlace} {ts : List TypeId} {ds : List (DataW H)} {j : Nat} (h : DataW.Trod enc Try.prog W 0 (fun _ => true) true 35 v d p) (hv : ∃ a len cap, v = .slice a len cap)
    (hsz : (DataW.weightsEach Try.prog ts ds).all (· ≤ reachBytes) = true) (ht : ts[j]? = some 35) (hd : ds[j]? = some d) :
    ∃ A c xs, v = .slice A xs.length c ∧ Writes W A xs := by
  obtain ⟨a, len, cap, rfl⟩ := hv
  obtain ⟨fuel, hf⟩ := h
  rcases open_slice_pairs Try.underlying35 Try.underlying40 (by kernel_rfl) rfl rfl (by kernel_rfl) (by kernel_rfl) hf with ⟨hcs, hx⟩ | ⟨a', len', cap', m, n, V0, V1, D0, D1, P0, P1, hcs, _, hlc, hcm, hm, hx, hcell⟩
  · simp [Value.cells] at hcs
    obtain ⟨rfl, rfl, rfl⟩ := hcs
    exact ⟨none, 0, [], rfl, by simp, fun h => by simp at h⟩
  · simp [Value.cells] at hcs
    obtain ⟨rfl, rfl, rfl⟩ := hcs
    simp only [if_true] at hm
    subst hm
    have hnum : ∀ i, i < len → ∃ x : Int × Int, W.cell? (a'.add (i * 2)) = some (.int .i64 x.1) ∧ W.cell? (a'.add (i * 2 + 1)) = some (.int .u8 x.2) := by
      intro i hi
      obtain ⟨h0, h1, t0, t1⟩ := hcell i (by omega)
      obtain ⟨n0, e0, _⟩ := DataW.trod_int Try.underlying3 t0
      obtain ⟨n1, e1, _⟩ := DataW.trod_int Try.underlying5 t1
      simp at e0 e1
      exact ⟨(n0, n1), by rw [h0, e0], by rw [h1, e1]⟩
    obtain ⟨f, hfx⟩ : ∃ f : Nat → Int × Int, ∀ i, i < len → W.cell? (a'.add (i * 2)) = some (.int .i64 (f i).1) ∧ W.cell? (a'.add (i * 2 + 1)) = some (.int .u8 (f i).2) := by
      refine ⟨fun i => if h : i < len then (hnum i h).choose else (0, 0), fun i hi => ?_⟩
      simp only [dif_pos hi]
      exact (hnum i hi).choose_spec
    have hlen : len ≤ 1099511627776000 := by
      simp only [Prod.mk.injEq] at hx
      have hs := sized_slice hsz (j := j) (t := 35) (e := 41) ht (by rw [hd, hx.1]) Try.underlying35
      rw [show Try.prog.bytesOf 41 = 16 from by kernel_rfl] at hs
      simp only [List.length_map, List.length_range, reachBytes] at hs
      omega
    refine ⟨some a', m, (List.range len).map f, by simp, by simpa using hlen, fun hn => ?_⟩
    have hpos : 0 < len := by simpa using hn
    obtain ⟨b, off, spot⟩ := a'
    have hspot : spot = none := by simpa [Addr.add] using World.cell?_spot (hfx 0 hpos).1
    subst hspot
    refine ⟨b, off, rfl, ?_, fun j x hj => ?_⟩
    · have := World.block_lt_of_cell? W _ (hfx 0 hpos).1
      simpa [Addr.add] using this
    · have hj' : j < len := by have := (List.getElem?_eq_some_iff.1 hj).1; simpa using this
      have hx' : f j = x := by simpa [hj'] using hj
      have := hfx j hj'
      rw [Addr.add_lit, Addr.add_lit, hx'] at this
      exact this
end

set_option maxRecDepth 100000 in
theorem arms_lifted (os : Os) (started : os.Started) (H : Type) (enc : TypeId × Value → H) :
    ReturnsInHanded {} Try.checked os 5 .any (Rows.plateArmsSpec.pre6 enc Try.prog Try.f5 Rows.plateArmsRow.domain false) (Rows.plateArmsSpec.post enc Try.prog Try.f5 false true false false) := by
  refine law_lifted started (by kernel_rfl) Try.func5 (by kernel_rfl) rfl (by kernel_rfl) (fun ds hds => ?_)
    (ChangeSpec.witness6 (enc := enc) (C := Try.checked) false ⟨#[], #[.int .i64 0, .slice none 0 0], []⟩ 8 (by kernel_rfl) (by kernel_rfl) (by kernel_rfl) (by kernel_rfl)) ?_
  · rw [show Try.f5.params.size = 2 from by kernel_rfl] at hds
    match ds, hds with
    | [d1, d2], _ => rfl
  · intro W base args ds p hval hA hsz _
    rw [Try.params5] at hA hval hsz
    obtain ⟨v0, vs0, d0, ds0, p0, q0, hargs, rfl, rfl, h0, r0⟩ := trodAll_cons hA
    obtain ⟨v1, vs1, d1, ds1, p1, q1, rfl, rfl, rfl, h1, r1⟩ := trodAll_cons r0
    obtain ⟨rfl, rfl, rfl⟩ := trodAll_nil r1
    obtain rfl : args = #[v0, v1] := by cases args; simp_all
    obtain ⟨a0, rfl, rfl, rfl, w0⟩ := open_int Try.underlying3 (hval 0 3 v0 rfl rfl) h0
    obtain ⟨A, c, xs, rfl, hw⟩ := writes_of h1 (okWide_slice Try.underlying35 (hval 1 35 v1 rfl rfl)) hsz (j := 1) rfl rfl
    exact arms_any W a0 A c xs hw

theorem plateArms_over : Rows.plateArmsRow.holds Try.pinned (OpenSpec.ofChange Rows.plateArmsSpec) :=
  OpenClaim.holds_of_wide 5 Try.f5 rfl rfl rfl rfl rfl rfl rfl ⟨rfl, rfl, rfl, rfl, rfl⟩ rfl rfl rfl rfl rfl (by kernel_rfl) Try.func5 (by kernel_rfl)
    (of_decide_eq_true (by kernel_rfl)) (by unfold Func.isWrapper; first | (rw [if_pos (by decide +kernel)]; kernel_rfl) | (rw [if_neg (by decide +kernel)]; exact ⟨rfl, rfl⟩))
    (fun os started H enc _ => arms_lifted os started H enc)

theorem plateArms_proved : Rows.PlateArmsSaid := plateArms_over
#print axioms plateArms_proved

end Go.Proofs.Ytbikplckehbcnaa
