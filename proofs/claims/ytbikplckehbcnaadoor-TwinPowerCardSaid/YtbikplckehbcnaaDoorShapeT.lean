/- Leaves and pages as arguments. -/
import Derived.Test.YtbikplckehbcnaaDoorShape
import Derived.Test.YtbikplckehbcnaaDoorFits
namespace Go.Proofs.YtbikplckehbcnaaDoor
open Go Go.ChangeShapes Go.WideShapes Go.ChangeAt Go.RowKit Go.Deep
set_option linter.unusedVariables false

section
variable {H : Type} {enc : TypeId × Value → H} {W : World}

theorem trod_slice_form {t e : TypeId} {n : Nat} {c : Value} {x : DataW H × List MemPlace} (ht : Tryd.prog.underlying t = some (.slice e)) (h : DataW.trod enc Tryd.prog W 0 (fun _ => true) true n t [c] = some x) : ∃ A len cap, c = .slice A len cap := by
  rcases open_slice ht h with ⟨hcs, _⟩ | ⟨a, len, cap, m, n, D, Pl, hcs, _⟩
  · simp at hcs; exact ⟨_, _, _, hcs⟩
  · simp at hcs; exact ⟨_, _, _, hcs⟩

set_option maxRecDepth 100000 in
theorem slot_cells (a : Addr) (cs : List Value) (n : Nat) (d : DataW H) (ps : List MemPlace) (hlen : cs.length = 2) (hc : ∀ i, i < 2 → W.cell? (a.add i) = cs[i]?) (h : DataW.trod enc Tryd.prog W 0 (fun _ => true) true n 78 cs = some (d, ps)) :
    ∃ x : Slt, W.cell? (a.add 0) = some (.bool x.1) ∧ W.cell? (a.add 1) = some (.string x.2) ∧ x.2.size ≤ maxLen := by
  obtain ⟨xs, m, _, _, _, hl, hx⟩ := DataW.trod_struct Tryd.underlying78 h
  match cs, hlen with
  | [c0, c1], _ =>
    have hb : Tryd.prog.cellsOf 4 = 1 := by kernel_rfl
    have hs : Tryd.prog.cellsOf 9 = 1 := by kernel_rfl
    match xs, hl with
    | [x0, x1], _ =>
      have g0 := hx 0 _ rfl
      have g1 := hx 1 _ rfl
      simp [hb, hs] at g0 g1
      obtain ⟨b, e0, _⟩ := DataW.trod_bool Tryd.underlying4 g0
      obtain ⟨s, e1, _, hsz⟩ := DataW.trod_string Tryd.underlying9 g1
      simp at e0 e1
      exact ⟨(b, s), by rw [hc 0 (by omega)]; simp [e0], by rw [hc 1 (by omega)]; simp [e1], hsz⟩

theorem slots_of {n : Nat} {A : Option Addr} {len cap : Nat} {d : DataW H} {ps : List MemPlace} (h : DataW.trod enc Tryd.prog W 0 (fun _ => true) true n 23 [.slice A len cap] = some (d, ps)) (hl : Light 23 d) :
    ∃ xs : List Slt, xs.length = len ∧ xs.length ≤ 4611686018427387904 ∧ Slots W (fun k => W.heap.size ≤ k) A xs := by
  obtain ⟨xs, h1, h2, h3⟩ := row_len (fun a (x : Slt) => W.cell? (a.add 0) = some (.bool x.1) ∧ W.cell? (a.add 1) = some (.string x.2) ∧ x.2.size ≤ maxLen) 2 Tryd.underlying23 (by kernel_rfl) (fun a cs n d ps h1 h2 h3 _ => slot_cells a cs n d ps h1 h2 h3) h hl
  rw [show Tryd.prog.bytesOf 78 = 24 from by kernel_rfl] at h2
  simp only [reachBytes] at h2
  refine ⟨xs, h1, by omega, fun hp => ?_⟩
  obtain ⟨a, rfl, h4⟩ := h3 (by omega)
  obtain ⟨x0, hx0⟩ : ∃ x, xs[0]? = some x := ⟨_, List.getElem?_eq_getElem hp⟩
  obtain ⟨g0, _, _⟩ := h4 0 x0 hx0
  obtain ⟨b, off, rfl, hb⟩ := spot_of (a := a) (by simpa [Addr.add] using g0)
  refine ⟨b, off, rfl, hb, by omega, fun j x hj => ?_⟩
  obtain ⟨g1, g2, g3⟩ := h4 j x hj
  simp only [Addr.add_lit, Nat.add_zero] at g1 g2
  exact ⟨g1, g2, g3⟩

set_option maxRecDepth 100000 in
theorem page_cells {cs : List Value} {n : Nat} {d : DataW H} {ps : List MemPlace} (hlen : cs.length = 2) (h : DataW.trod enc Tryd.prog W 0 (fun _ => true) true n 25 cs = some (d, ps)) (hl : Light 25 d) :
    ∃ (l : Int) (A : Option Addr) (c : Nat) (xs : List Slt), cs = [.int .i64 l, .slice A xs.length c] ∧ xs.length ≤ 4611686018427387904 ∧ Slots W (fun k => W.heap.size ≤ k) A xs ∧ (Lit.int .i64 l).wf = true := by
  obtain ⟨xs, m, _, hd, _, hxl, hx⟩ := DataW.trod_struct Tryd.underlying25 h
  match cs, hlen with
  | [c0, c1], _ =>
    have hb : Tryd.prog.cellsOf 3 = 1 := by kernel_rfl
    have hs : Tryd.prog.cellsOf 23 = 1 := by kernel_rfl
    match xs, hxl with
    | [x0, x1], _ =>
      have g0 := hx 0 _ rfl
      have g1 := hx 1 _ rfl
      simp [hb, hs] at g0 g1
      obtain ⟨l, e0, _, hwf⟩ := DataW.trod_int Tryd.underlying3 g0
      simp at e0 hd
      obtain ⟨A, len, cap, rfl⟩ := trod_slice_form Tryd.underlying23 g1
      obtain ⟨rfl, _⟩ := hd
      obtain ⟨ys, h1, h2, h3⟩ := slots_of (d := x1.1) (ps := x1.2) g1 (light_struct Tryd.underlying25 hl (i := 1) rfl rfl)
      exact ⟨l, A, cap, ys, by rw [e0, h1], h2, h3, hwf⟩

set_option maxRecDepth 100000 in
theorem leaf_cells {cs : List Value} {n : Nat} {d : DataW H} {ps : List MemPlace} (hlen : cs.length = 3) (h : DataW.trod enc Tryd.prog W 0 (fun _ => true) true n 27 cs = some (d, ps)) (hl : Light 27 d) :
    ∃ m : LfM, cs = [.int .i64 m.n, .int .i64 m.l, .slice m.A m.xs.length m.c] ∧ (Lit.int .i64 m.n).wf = true ∧ m.xs.length ≤ 4611686018427387904 ∧ Slots W (fun k => W.heap.size ≤ k) m.A m.xs := by
  obtain ⟨xs, m, _, hd, _, hxl, hx⟩ := DataW.trod_struct Tryd.underlying27 h
  match cs, hlen with
  | [c0, c1, c2], _ =>
    have hb : Tryd.prog.cellsOf 3 = 1 := by kernel_rfl
    have hs : Tryd.prog.cellsOf 25 = 2 := by kernel_rfl
    match xs, hxl with
    | [x0, x1], _ =>
      have g0 := hx 0 _ rfl
      have g1 := hx 1 _ rfl
      simp [hb, hs] at g0 g1
      obtain ⟨nn, e0, _, hwf⟩ := DataW.trod_int Tryd.underlying3 g0
      simp at e0 hd
      obtain ⟨rfl, _⟩ := hd
      obtain ⟨l, A, c, ys, he, h2, h3, _⟩ := page_cells (d := x1.1) (ps := x1.2) rfl g1 (light_struct Tryd.underlying27 hl (i := 1) rfl rfl)
      simp at he
      exact ⟨⟨nn, l, A, c, ys⟩, by rw [e0, he.1, he.2], hwf, h2, h3⟩

theorem leaves_of {n : Nat} {A : Option Addr} {len cap : Nat} {d : DataW H} {ps : List MemPlace} (h : DataW.trod enc Tryd.prog W 0 (fun _ => true) true n 22 [.slice A len cap] = some (d, ps)) (hl : Light 22 d) :
    ∃ ls : List LfM, ls.length = len ∧ ls.length ≤ 17592186044416 ∧ Leaves W (fun k => W.heap.size ≤ k) A ls := by
  let R : Addr → LfM → Prop := fun a m => W.cell? (a.add 0) = some (.int .i64 m.n) ∧ W.cell? (a.add 1) = some (.int .i64 m.l) ∧ W.cell? (a.add 2) = some (.slice m.A m.xs.length m.c) ∧ (Lit.int .i64 m.n).wf = true ∧ m.xs.length ≤ 4611686018427387904 ∧ Slots W (fun k => W.heap.size ≤ k) m.A m.xs
  haveI : Inhabited LfM := ⟨⟨0, 0, none, 0, []⟩⟩
  obtain ⟨xs, h1, h2, h3⟩ := row_len R 3 Tryd.underlying22 (by kernel_rfl) (fun a cs n d ps h1 h2 h3 h4 => by
    obtain ⟨m, rfl, h5, h6, h7⟩ := leaf_cells h1 h3 h4
    exact ⟨m, h2 0 (by omega), h2 1 (by omega), h2 2 (by omega), h5, h6, h7⟩) h hl
  rw [show Tryd.prog.bytesOf 27 = 40 from by kernel_rfl] at h2
  simp only [reachBytes] at h2
  refine ⟨xs, h1, by omega, fun hp => ?_⟩
  obtain ⟨a, rfl, h4⟩ := h3 (by omega)
  obtain ⟨x0, hx0⟩ : ∃ x, xs[0]? = some x := ⟨_, List.getElem?_eq_getElem hp⟩
  obtain ⟨g0, _⟩ := h4 0 x0 hx0
  obtain ⟨b, off, rfl, hb⟩ := spot_of (a := a) (by simpa [Addr.add] using g0)
  refine ⟨b, off, rfl, hb, by omega, fun j x hj => ?_⟩
  obtain ⟨g1, g2, g3, g4, g5, g6⟩ := h4 j x hj
  simp only [Addr.add_lit, Nat.add_zero] at g1 g2 g3
  exact ⟨g1, g2, g3, g4, g5, g6⟩
end

end Go.Proofs.YtbikplckehbcnaaDoor
