/- Arguments opened by their shape: a slice's elements, each by what its cells say. -/
import Derived.Test.YtbikplckehbcnaaDoorPost
import Derived.Deep.Slices
import Derived.Lib.SmallJoins
namespace Go.Proofs.YtbikplckehbcnaaDoor
open Go Go.ChangeShapes Go.WideShapes Go.ChangeAt Go.RowKit Go.Deep
set_option linter.unusedVariables false

section
variable {H : Type} {enc : TypeId × Value → H} {W : World}

/-- Nothing in the datum is longer than the reach. -/
def Light (t : TypeId) (d : DataW H) : Prop := ∀ n ∈ d.weights Tryd.prog t, n ≤ reachBytes
theorem light_of {ts : List TypeId} {ds : List (DataW H)} (h : (DataW.weightsEach Tryd.prog ts ds).all (· ≤ reachBytes) = true) {j : Nat} {t : TypeId} {d : DataW H} (ht : ts[j]? = some t) (hd : ds[j]? = some d) : Light t d := fun n hn => by
  have := List.all_eq_true.1 h _ (DataW.weights_mem_each ht hd n hn)
  simpa using this
theorem mem_weightsAll {P : Program} {e : TypeId} : ∀ {ds : List (DataW H)} {d : DataW H}, d ∈ ds → ∀ n ∈ d.weights P e, n ∈ DataW.weightsAll P e ds
  | d0 :: ds, d, hd, n, hn => by
    simp only [DataW.weightsAll, List.mem_append]
    rcases List.mem_cons.1 hd with rfl | hd
    · exact .inl hn
    · exact .inr (mem_weightsAll hd n hn)
theorem light_slice {t e : TypeId} {elems spare : List (DataW H)} (hu : Tryd.prog.underlying t = some (.slice e)) (h : Light t (.slice elems spare)) : elems.length * Tryd.prog.bytesOf e ≤ reachBytes ∧ ∀ d ∈ elems, Light e d := by
  have h1 := h ((elems.length + spare.length) * Tryd.prog.bytesOf e) (by simp [DataW.weights, hu])
  refine ⟨Nat.le_trans (Nat.mul_le_mul_right _ (Nat.le_add_right _ _)) h1, fun d hd n hn => h n ?_⟩
  simp only [DataW.weights, hu, List.mem_cons, List.mem_append]
  exact .inr (.inl (mem_weightsAll hd n hn))
theorem light_struct {t : TypeId} {fs : Array Field} {parts : List (DataW H)} (hu : Tryd.prog.underlying t = some (.struct fs)) (h : Light t (.agg parts)) {i : Nat} {f : Field} {d : DataW H} (hf : fs[i]? = some f) (hd : parts[i]? = some d) : Light f.type d := fun n hn => h n (by
  simp only [DataW.weights, hu]
  exact DataW.weights_mem_each (by simp [hf]) hd n hn)
theorem light_array {t e : TypeId} {m : Nat} {parts : List (DataW H)} (hu : Tryd.prog.underlying t = some (.array m e)) (h : Light t (.agg parts)) {d : DataW H} (hd : d ∈ parts) : Light e d := fun n hn => h n (by
  simp only [DataW.weights, hu]
  exact mem_weightsAll hd n hn)

/-- A slice: each element by what its k cells say. -/
theorem slice_rel {X : Type} [Inhabited X] (R : Addr → X → Prop) {t e : TypeId} (k : Nat) (ht : Tryd.prog.underlying t = some (.slice e)) (hk : Tryd.prog.cellsOf e = k)
    (he : ∀ (a : Addr) (cs : List Value) (n : Nat) (d : DataW H) (ps : List MemPlace), cs.length = k → (∀ i, i < k → W.cell? (a.add i) = cs[i]?) → DataW.trod enc Tryd.prog W 0 (fun _ => true) true n e cs = some (d, ps) → Light e d → ∃ x, R a x)
    {fuel len cap : Nat} {A : Option Addr} {d : DataW H} {ps : List MemPlace} (h : DataW.trod enc Tryd.prog W 0 (fun _ => true) true fuel t [.slice A len cap] = some (d, ps)) (hl : Light t d) :
    (A = none ∧ len = 0 ∧ cap = 0) ∨ ∃ (a : Addr) (xs : List X), A = some a ∧ xs.length = len ∧ len ≤ cap ∧ len * Tryd.prog.bytesOf e ≤ reachBytes ∧ ∀ j x, xs[j]? = some x → R (a.add (j * k)) x := by
  rcases open_slice ht h with ⟨hcs, hx⟩ | ⟨a, len', cap', m, n, D, Pl, hcs, _, hlc, hcm, hm, hx, hc⟩
  · left
    simp at hcs
    exact hcs
  · right
    simp at hcs
    obtain ⟨rfl, rfl, rfl⟩ := hcs
    simp only [if_true] at hm
    subst hm
    simp only [Prod.mk.injEq] at hx
    obtain ⟨rfl, _⟩ := hx
    obtain ⟨h1, h2⟩ := light_slice ht hl
    have each : ∀ j, j < len → ∃ x, R (a.add (j * k)) x := by
      intro j hj
      obtain ⟨cs', hc1, hc2⟩ := hc j (by omega)
      rw [hk] at hc1
      obtain ⟨_, hlen, hcell⟩ := World.cells?_some hc1
      exact he _ cs' n (D j) (Pl j) hlen hcell hc2 (h2 _ (List.mem_map.2 ⟨j, List.mem_range.2 hj, rfl⟩))
    refine ⟨a, (List.range len).map fun j => if h : j < len then (each j h).choose else default, rfl, by simp, hlc, by simpa using h1, fun j x hx => ?_⟩
    have hj : j < len := by have := (List.getElem?_eq_some_iff.1 hx).1; simpa using this
    simp [hj] at hx
    rw [← hx]
    exact (each j hj).choose_spec
theorem row_len {X : Type} [Inhabited X] (R : Addr → X → Prop) {t e : TypeId} (k : Nat) (ht : Tryd.prog.underlying t = some (.slice e)) (hk : Tryd.prog.cellsOf e = k)
    (he : ∀ (a : Addr) (cs : List Value) (n : Nat) (d : DataW H) (ps : List MemPlace), cs.length = k → (∀ i, i < k → W.cell? (a.add i) = cs[i]?) → DataW.trod enc Tryd.prog W 0 (fun _ => true) true n e cs = some (d, ps) → Light e d → ∃ x, R a x)
    {fuel len cap : Nat} {A : Option Addr} {d : DataW H} {ps : List MemPlace} (h : DataW.trod enc Tryd.prog W 0 (fun _ => true) true fuel t [.slice A len cap] = some (d, ps)) (hl : Light t d) :
    ∃ xs : List X, xs.length = len ∧ len * Tryd.prog.bytesOf e ≤ reachBytes ∧ (0 < len → ∃ a : Addr, A = some a ∧ ∀ j x, xs[j]? = some x → R (a.add (j * k)) x) := by
  rcases slice_rel R k ht hk he h hl with ⟨rfl, rfl, rfl⟩ | ⟨a, xs, rfl, h1, _, h2, h3⟩
  · exact ⟨[], rfl, by simp, fun h => by omega⟩
  · exact ⟨xs, h1, h2, fun _ => ⟨a, rfl, h3⟩⟩
theorem spot_of {a : Addr} {v : Value} (h : W.cell? a = some v) : ∃ b off, a = ⟨b, off, none⟩ ∧ b < W.heap.size := by
  obtain ⟨b, off, spot⟩ := a
  have hs : spot = none := by simpa using World.cell?_spot h
  subst hs
  exact ⟨b, off, rfl, by simpa using World.block_lt_of_cell? W _ h⟩
end

end Go.Proofs.YtbikplckehbcnaaDoor
