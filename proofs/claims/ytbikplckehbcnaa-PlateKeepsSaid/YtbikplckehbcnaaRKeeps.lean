/- PROVED: seneschallaw06.PlateKeeps returns true for every input, its arguments as they were. Conditions: none. -/
import Derived.Test.YtbikplckehbcnaaKeeps
import Derived.Test.YtbikplckehbcnaaRArms
import Derived.OpenShut
set_option linter.unusedVariables false
namespace Go.Proofs.Ytbikplckehbcnaa
open Go Go.ChangeShapes Go.WideShapes Go.ChangeAt Go.RowKit Go.Deep

section
variable {H : Type} {enc : TypeId × Value → H}
theorem pair_of {W : World} {v : Value} {d : DataW H} {p : List MemPlace} {r : Reach} {base : Nat} (hv : Value.okWide Try.prog W r base 36 v) (h : DataW.Trod enc Try.prog W 0 (fun _ => true) true 36 v d p) :
    ∃ a b, v = .agg #[.int .i64 a, .int .i64 b] := by
  have hc : Try.prog.cellsOf 36 = 2 := by kernel_rfl
  have hc1 : Try.prog.cellsOf 3 = 1 := by kernel_rfl
  simp only [Value.okWide, Try.underlying36] at hv
  obtain ⟨cs, rfl, h2, _⟩ := hv
  rw [hc] at h2
  obtain ⟨fuel, hf⟩ := h
  obtain ⟨xs, m, _, _, _, hl, hx⟩ := DataW.trod_array Try.underlying36 hf
  obtain ⟨l⟩ := cs
  match l, h2 with
  | [c0, c1], _ =>
    match xs, hl with
    | [x0, x1], _ =>
      have g0 := hx 0 (by omega)
      have g1 := hx 1 (by omega)
      simp [hc1, Value.cells] at g0 g1
      obtain ⟨n0, e0, _⟩ := DataW.trod_int Try.underlying3 g0
      obtain ⟨n1, e1, _⟩ := DataW.trod_int Try.underlying3 g1
      simp at e0 e1
      exact ⟨n0, n1, by rw [e0, e1]⟩
theorem ints_of {W : World} {v : Value} {d : DataW H} {p : List MemPlace} {ts : List TypeId} {ds : List (DataW H)} {j : Nat} (h : DataW.Trod enc Try.prog W 0 (fun _ => true) true 31 v d p) (hv : ∃ a len cap, v = .slice a len cap)
    (hsz : (DataW.weightsEach Try.prog ts ds).all (· ≤ reachBytes) = true) (ht : ts[j]? = some 31) (hd : ds[j]? = some d) :
    ∃ A c xs, v = .slice A xs.length c ∧ Ints W (fun k => W.heap.size ≤ k) A xs := by
  obtain ⟨a, len, cap, rfl⟩ := hv
  obtain ⟨fuel, hf⟩ := h
  rcases open_ints Try.underlying31 Try.underlying3 (by kernel_rfl) hf with ⟨hcs, hx⟩ | ⟨a', len', cap', zs, hcs, _, hlc, hcm, hm, hx, hcell, _⟩
  · simp [Value.cells] at hcs
    obtain ⟨rfl, rfl, rfl⟩ := hcs
    exact ⟨none, 0, [], rfl, Ints.nil _ _ _⟩
  · simp [Value.cells] at hcs
    obtain ⟨rfl, rfl, rfl⟩ := hcs
    simp only [if_true] at hm
    subst hm
    have hlen : len ≤ 1099511627776000 := by
      simp only [Prod.mk.injEq] at hx
      have hs := sized_slice hsz (j := j) (t := 31) (e := 3) ht (by rw [hd, hx.1]) Try.underlying31
      rw [show Try.prog.bytesOf 3 = 8 from by kernel_rfl] at hs
      simp only [ChangeShapes.lits, List.length_map, List.length_take, reachBytes] at hs
      rw [Nat.min_eq_left hlc] at hs
      omega
    refine ⟨some a', zs.length, zs.take len, by simp [hlc], by simp; omega, fun hn => ?_⟩
    have hpos : 0 < len := by simp at hn; omega
    refine ⟨a', rfl, ?_, ?_, fun i hi => ?_⟩
    · have := World.block_lt_of_cell? W _ (hcell 0 (by omega))
      simpa [add_block] using this
    · have := World.block_lt_of_cell? W _ (hcell 0 (by omega))
      have : a'.block < W.heap.size := by simpa [add_block] using this
      omega
    · have hi' : i < len := by simp at hi; omega
      rw [hcell i (by omega)]
      congr 2
      simp [List.getD_eq_getElem?_getD, hi']
end

set_option maxRecDepth 100000 in
theorem keeps_lifted (os : Os) (started : os.Started) (H : Type) (enc : TypeId × Value → H) :
    ReturnsInHanded {} Try.checked os 4 .any (Rows.plateKeepsSpec.pre6 enc Try.prog Try.f4 Rows.plateKeepsRow.domain false) (Rows.plateKeepsSpec.post enc Try.prog Try.f4 false true false false) := by
  refine law_lifted started (by kernel_rfl) Try.func4 (by kernel_rfl) rfl (by kernel_rfl) (fun ds hds => ?_)
    (ChangeSpec.witness6 (enc := enc) (C := Try.checked) false ⟨#[], #[.slice none 0 0, .agg #[.int .i64 0, .int .i64 0], .slice none 0 0], []⟩ 8 (by kernel_rfl) (by kernel_rfl) (by kernel_rfl) (by kernel_rfl)) ?_
  · rw [show Try.f4.params.size = 3 from by kernel_rfl] at hds
    match ds, hds with
    | [d1, d2, d3], _ => rfl
  · intro W base args ds p hval hA hsz _
    rw [Try.params4] at hA hval hsz
    obtain ⟨v0, vs0, d0, ds0, p0, q0, hargs, rfl, rfl, h0, r0⟩ := trodAll_cons hA
    obtain ⟨v1, vs1, d1, ds1, p1, q1, rfl, rfl, rfl, h1, r1⟩ := trodAll_cons r0
    obtain ⟨v2, vs2, d2, ds2, p2, q2, rfl, rfl, rfl, h2, r2⟩ := trodAll_cons r1
    obtain ⟨rfl, rfl, rfl⟩ := trodAll_nil r2
    obtain rfl : args = #[v0, v1, v2] := by cases args; simp_all
    obtain ⟨A, c, xs, rfl, hw⟩ := writes_of h0 (okWide_slice Try.underlying35 (hval 0 35 v0 rfl rfl)) hsz (j := 0) rfl rfl
    obtain ⟨wa, wb, rfl⟩ := pair_of (hval 1 36 v1 rfl rfl) h1
    obtain ⟨A2, c2, fs, rfl, hf⟩ := ints_of h2 (okWide_slice Try.underlying31 (hval 2 31 v2 rfl rfl)) hsz (j := 2) rfl rfl
    exact keeps_any W A c xs hw wa wb A2 c2 fs hf

theorem plateKeeps_over : Rows.plateKeepsRow.holds Try.pinned (OpenSpec.ofChange Rows.plateKeepsSpec) :=
  OpenClaim.holds_of_wide 4 Try.f4 rfl rfl rfl rfl rfl rfl rfl ⟨rfl, rfl, rfl, rfl, rfl⟩ rfl rfl rfl rfl rfl (by kernel_rfl) Try.func4 (by kernel_rfl)
    (of_decide_eq_true (by kernel_rfl)) (by unfold Func.isWrapper; first | (rw [if_pos (by decide +kernel)]; kernel_rfl) | (rw [if_neg (by decide +kernel)]; exact ⟨rfl, rfl⟩))
    (fun os started H enc _ => keeps_lifted os started H enc)

theorem plateKeeps_proved : Rows.PlateKeepsSaid := plateKeeps_over
#print axioms plateKeeps_proved

end Go.Proofs.Ytbikplckehbcnaa
