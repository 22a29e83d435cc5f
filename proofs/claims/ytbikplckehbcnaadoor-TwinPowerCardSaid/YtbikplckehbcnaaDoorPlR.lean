/- slices.Backward over what waits: its contract; Read. -/
import Derived.RangeFuncNested
import Derived.RangeFuncBound
import Derived.RangeFuncCalls
import Derived.RangeFuncLeaves
import Derived.Shelf.Abstract
import Derived.Shelf.RegionOpen
import Derived.OwnWalkIn
import Derived.TacticsInMore
import Derived.LoopNIn
import Derived.LoopIn
import Derived.Test.YtbikplckehbcnaaDoorPlM
set_option linter.unusedVariables false
set_option linter.unusedSimpArgs false
namespace Go.Proofs.YtbikplckehbcnaaDoor
open Go Go.RowKit Go.Shelf

attribute [local go_sem] Oper.semAt_some

/-- What has come when k rounds are over. -/
def upto {α : Type} (f : Nat → α) (k : Nat) : List α := (List.range k).map f
theorem upto_succ {α : Type} (f : Nat → α) (k : Nat) : upto f (k + 1) = upto f k ++ [f k] := by simp [upto, List.range_succ]
theorem upto_length {α : Type} (f : Nat → α) (k : Nat) : (upto f k).length = k := by simp [upto]

abbrev QX := Nat × (Int × ByteArray)
/-- The j-th that comes: from the last one on. -/
def bwd (q : List (Int × ByteArray)) (j : Nat) : QX := (q.length - 1 - j, q.getD (q.length - 1 - j) (0, ByteArray.empty))
def encQ (x : QX) : Array Value := #[.int .i64 (x.1 : Int), .agg #[.int .i64 x.2.1, .string x.2.2]]

set_option maxRecDepth 100000 in
set_option maxHeartbeats 2000000 in
theorem bwd_in (F : Fence) (n : Nat) (h7 : F.fn 96) (hro : F.round = none) (hn : 1 ≤ n) (l Bs n₀ g cap : Nat) (q : List (Int × ByteArray)) (hl : q.length < 4611686018427387904) (hb : g < n₀) (hBs0 : Bs < n₀) (J Jx : List QX → World → Prop)
    (hY : ∀ pre x W, J pre W → pre.length < q.length → YieldAt F (n - 1) Tryd.prog l (encQ x) W fun e W' =>
      (e = .returned (.bool true) ∧ J (pre ++ [x]) W' ∧ Below n₀ W W') ∨ (e = .returned (.bool false) ∧ Jx (pre ++ [x]) W'))
    (W : World) (hBs : W.cell? ⟨Bs, 0, none⟩ = some (.slice (some ⟨g, 0, none⟩) q.length cap))
    (hc : ∀ j x, q[j]? = some x → W.cell? ⟨g, j * 2, none⟩ = some (.int .i64 x.1) ∧ W.cell? ⟨g, j * 2 + 1, none⟩ = some (.string x.2)) (h0 : J [] W) :
    CallsIn F n Tryd.prog 96 #[.func (.yield l) #[] #[], .pointer (some ⟨Bs, 0, none⟩)] W fun e W' => (∃ v, e = .returned v) ∧
      ((∃ ys, ys = upto (bwd q) q.length ∧ J ys W') ∨ (∃ pre, (∃ k, k ≤ q.length ∧ pre = upto (bwd q) k) ∧ Jx pre W')) := by
  refine callsIn_of_wp Tryd.func96 rfl h7 ?_ hro
  simp only [Tryd.ntmps96, List.size_toArray, List.length_cons, List.length_nil, Nat.reduceAdd, Nat.reduceSub, Array.replicate_succ, Array.replicate_zero, List.push_toArray, List.append_toArray, List.nil_append, List.cons_append]
  have HC := Lib.hid hc
  clear hc
  gi_wp2
  gi_loopw [3] (fun i wr => ∃ z : Int, -1 ≤ z ∧ z < q.length ∧ i = .int .i64 z ∧ J (upto (bwd q) (q.length - 1 - z).toNat) wr ∧ Below n₀ W wr)
    (fun i _ => (intOf i + 1).toNat)
  case atStart => exact ⟨(q.length : Int) - 1, by omega, by omega, rfl, by rw [show ((q.length : Int) - 1 - ((q.length : Int) - 1)).toNat = 0 by omega]; exact h0, Below.refl _ _⟩
  case round =>
    obtain ⟨z, hz0, hz1, rfl, hJs, hnx⟩ := hrel
    have hBs1 : wr.cell? ⟨Bs, 0, none⟩ = some (.slice (some ⟨g, 0, none⟩) q.length cap) := (hnx.cell (p := ⟨Bs, 0, none⟩) hBs0).trans hBs
    by_cases hz : 0 ≤ z
    · obtain ⟨j, rfl⟩ := Int.eq_ofNat_of_zero_le hz
      obtain ⟨x, hx⟩ : ∃ x, q[j]? = some x := ⟨_, List.getElem?_eq_getElem (by omega)⟩
      have hcx := HC.out j x hx
      have hc1 : wr.cell? ⟨g, j * 2, none⟩ = some (.int .i64 x.1) := (hnx.cell (p := ⟨g, j * 2, none⟩) hb).trans hcx.1
      have hc2 : wr.cell? ⟨g, j * 2 + 1, none⟩ = some (.string x.2) := (hnx.cell (p := ⟨g, j * 2 + 1, none⟩) hb).trans hcx.2
      obtain ⟨fn, tmps, assign, body, hy, hR⟩ := hY _ (j, x) wr hJs (by rw [upto_length]; omega)
      dsimp only [encQ] at hy
      have HN : Hid (upto (bwd q) ((q.length : Int) - 1 - j).toNat ++ [(j, x)] = upto (bwd q) ((q.length : Int) - 1 - j).toNat.succ) := by
        rw [Nat.succ_eq_add_one, upto_succ]
        congr 2
        unfold bwd
        rw [show q.length - 1 - ((q.length : Int) - 1 - j).toNat = j by omega, List.getD_eq_getElem?_getD, hx]; rfl
      have HK : Hid (((q.length : Int) - 1 - j).toNat.succ = ((q.length : Int) - 1 - ((j : Int) - 1)).toNat) := by show _ + 1 = _; omega
      clear hx hcx
      gi_wp2
      refine hR.mono ?_
      rintro e W3 (⟨rfl, hJ3, hk3⟩ | ⟨rfl, hJx3⟩)
      · gi_wp2
        go_roundw
        case rel => exact ⟨(j : Int) - 1, by omega, by omega, rfl, by rw [← HK.out, ← HN.out]; exact hJ3, hnx.trans hk3⟩
        case measure => first | (simp [intOf]; done) | (simp [intOf]; omega)
      · gi_wp2
        refine bodyPost_ret (results_none rfl _ _ _) rfl ?_
        exact ⟨⟨_, rfl⟩, .inr ⟨_, ⟨_, by omega, HN.out⟩, hJx3⟩⟩
    · obtain rfl : z = -1 := by omega
      gi_wp2
      go_end0
      exact ⟨⟨_, rfl⟩, .inl (by rw [show ((q.length : Int) - 1 - -1).toNat = q.length by omega] at hJs; exact hJs)⟩

set_option maxRecDepth 100000 in
set_option maxHeartbeats 1000000 in
theorem bwd_nil_in (F : Fence) (n : Nat) (h7 : F.fn 96) (hro : F.round = none) (l Bs : Nat) (A : Option Addr) (c : Nat) (J : List QX → World → Prop) (W : World) (hBs : W.cell? ⟨Bs, 0, none⟩ = some (.slice A 0 c)) (h0 : J [] W) :
    CallsIn F n Tryd.prog 96 #[.func (.yield l) #[] #[], .pointer (some ⟨Bs, 0, none⟩)] W fun e W' => (∃ v, e = .returned v) ∧ J [] W' := by
  refine callsIn_of_wp Tryd.func96 rfl h7 ?_ hro
  simp only [Tryd.ntmps96, List.size_toArray, List.length_cons, List.length_nil, Nat.reduceAdd, Nat.reduceSub, Array.replicate_succ, Array.replicate_zero, List.push_toArray, List.append_toArray, List.nil_append, List.cons_append]
  gi_wp2
  gi_loopw [3] (fun i wr => i = .int .i64 (-1) ∧ J [] wr) (fun _ _ => 0)
  case atStart => exact ⟨rfl, h0⟩
  case round =>
    obtain ⟨rfl, hJs⟩ := hrel
    gi_wp2
    go_end0
    exact ⟨⟨_, rfl⟩, hJs⟩

set_option maxHeartbeats 1000000 in
theorem backward_in (F : Fence) (n : Nat) (h5 : F.fn 70) (hro : F.round = none) (a : Option Addr) (len cap : Nat) (w : World) :
    CallsIn F n Tryd.prog 70 #[.slice a len cap] w fun e w' => e = .returned (.func (.func 96) #[] #[.pointer (some ⟨w.heap.size, 0, none⟩)]) ∧ w' = w.alloc (.cells #[.slice a len cap] 80) := by
  refine callsIn_of_wp Tryd.func70 rfl h5 ?_ hro
  simp only [Tryd.ntmps70, List.size_toArray, List.length_cons, List.length_nil, Nat.reduceAdd, Nat.reduceSub, Array.replicate_succ, Array.replicate_zero, List.push_toArray, List.append_toArray, List.nil_append, List.cons_append]
  gi_wp2
  go_ret
  exact ⟨rfl, rfl⟩

/-- What waits, in memory below n₀. -/
def QAt (n₀ : Nat) (W : World) (qv : Value) (q : List (Int × ByteArray)) : Prop :=
  q.length < 4611686018427387904 ∧ ((∃ A c, qv = .slice A 0 c ∧ q = []) ∨ ∃ g c, qv = .slice (some ⟨g, 0, none⟩) q.length c ∧ g < n₀ ∧ ∀ j x, q[j]? = some x → W.cell? ⟨g, j * 2, none⟩ = some (.int .i64 x.1) ∧ W.cell? ⟨g, j * 2 + 1, none⟩ = some (.string x.2))
theorem QAt.below {n₀ : Nat} {A B : World} (h : Below n₀ A B) {qv : Value} {q : List (Int × ByteArray)} (hq : QAt n₀ A qv q) : QAt n₀ B qv q := by
  refine ⟨hq.1, ?_⟩
  rcases hq.2 with h1 | ⟨g, c, e, hg, hc⟩
  · exact .inl h1
  · exact .inr ⟨g, c, e, hg, fun j x hx => ⟨(h.cell (p := ⟨g, j * 2, none⟩) hg).trans (hc j x hx).1, (h.cell (p := ⟨g, j * 2 + 1, none⟩) hg).trans (hc j x hx).2⟩⟩
theorem QAt.of {w : World} {qv : Value} {q : List (Int × ByteArray)} (hl : q.length < 4611686018427387904) (h : w.ownsRow 0 94 2 qv q.length (qcells q)) : QAt w.heap.size w qv q := by
  refine ⟨hl, ?_⟩
  rcases Nat.eq_zero_or_pos q.length with hz | hz
  · obtain ⟨A, c, e⟩ := own_slice h
    exact .inl ⟨A, c, by rw [e, hz], List.eq_nil_of_length_eq_zero hz⟩
  · obtain ⟨g, c, e, _, hlt⟩ := h.form hz
    refine .inr ⟨g, c, e, hlt, fun j x hx => ?_⟩
    obtain ⟨g', c', e', h1, h2⟩ := qrow h j x hx
    rw [e] at e'
    injection e' with e1
    injection e1 with e1
    injection e1 with e1
    subst e1
    exact ⟨h1, h2⟩

theorem bwd_stops (F : Fence) (n : Nat) (h7 : F.fn 96) (hro : F.round = none) (hn : 1 ≤ n) (Bs n₀ : Nat) (qv : Value) (q : List (Int × ByteArray)) (w : World) (hBs : Bs < w.heap.size) (hBn : Bs < n₀) (hn₀ : n₀ ≤ w.heap.size)
    (hc : w.cell? ⟨Bs, 0, none⟩ = some qv) (hI : QAt n₀ w qv q) :
    SeqStopsK F n Tryd.prog 96 #[.pointer (some ⟨Bs, 0, none⟩)] encQ (Below n₀) (fun ys => ys = upto (bwd q) q.length) (fun pre => ∃ k, k ≤ q.length ∧ pre = upto (bwd q) k) q.length w := fun l J Jx W hW _ _ hY h0 => by
  have hc' := (hW.cell (p := ⟨Bs, 0, none⟩) hBs).trans hc
  have hI' := hI.below (hW.mono hn₀)
  rcases hI'.2 with ⟨A, c, rfl, rfl⟩ | ⟨g, c, rfl, hg, hcs⟩
  · exact (bwd_nil_in F n h7 hro l Bs A c J W hc' h0).mono fun e W' ⟨he, hj⟩ => ⟨he, .inl ⟨_, rfl, hj⟩⟩
  · exact bwd_in F n h7 hro hn l Bs n₀ g c q hI.1 hg hBn J Jx hY W hc' hcs h0

/-! ### the last write of a sector -/
theorem upto_bwd (q : List (Int × ByteArray)) : (upto (bwd q) q.length).map (·.2) = q.reverse := by
  apply List.ext_getElem
  · simp [upto]
  · intro i h1 h2
    have hi : i < q.length := by simpa [upto] using h1
    simp only [upto, List.map_map, List.getElem_map, List.getElem_range, Function.comp, bwd, List.getElem_reverse]
    rw [List.getD_eq_getElem?_getD, List.getElem?_eq_getElem (by omega)]
    rfl
theorem upto_prefix {α : Type} (f : Nat → α) {k n : Nat} (h : k ≤ n) : upto f k <+: upto f n := by
  obtain ⟨m, rfl⟩ : ∃ m, n = k + m := ⟨n - k, by omega⟩
  refine ⟨(List.range m).map fun j => f (k + j), ?_⟩
  simp only [upto]
  rw [List.range_add, List.map_append, List.map_map]
  rfl
theorem last_some (q : List (Int × ByteArray)) (n : Int) (k : Nat) (hk : k ≤ q.length) (pre : List QX) (x : QX) (hp : pre ++ [x] = upto (bwd q) k) (hne : ∀ y ∈ pre, y.2.1 ≠ n) (hx : x.2.1 = n) : PSt.last q n = some x.2.2 := by
  obtain ⟨r, hr⟩ := upto_prefix (bwd q) hk
  unfold PSt.last
  rw [← upto_bwd, ← hr, ← hp, List.map_append, List.map_append, List.append_assoc, List.find?_append]
  have h1 : (pre.map (·.2)).find? (fun x => x.1 == n) = none := by
    rw [List.find?_eq_none]
    intro y hy
    obtain ⟨z, hz, rfl⟩ := List.mem_map.1 hy
    have := hne z hz
    simpa using this
  rw [h1]
  simp [hx]
theorem last_none (q : List (Int × ByteArray)) (n : Int) (hne : ∀ y ∈ upto (bwd q) q.length, y.2.1 ≠ n) : PSt.last q n = none := by
  unfold PSt.last
  rw [← upto_bwd]
  rw [List.find?_eq_none.2 ?_]
  · rfl
  · intro y hy
    obtain ⟨z, hz, rfl⟩ := List.mem_map.1 hy
    have := hne z hz
    simpa using this

end Go.Proofs.YtbikplckehbcnaaDoor
