/- high.Put: a number as bytes, the highest first. -/
import Derived.Test.YtbikplckehbcnaaDoorSlab
import Derived.Laws.BytesArg
set_option linter.unusedVariables false
set_option linter.unusedSimpArgs false
namespace Go.Proofs.YtbikplckehbcnaaDoor
open Go Go.RowKit

/-- The byte i of a number, from the lowest on. -/
def byteAt (n : Int) (i : Nat) : Int := n / 2 ^ (8 * i) % 256
/-- A number in k bytes. -/
def putB (n : Int) (k : Nat) : List Int := (List.range k).map fun j => byteAt n (k - 1 - j)
theorem putB_length (n : Int) (k : Nat) : (putB n k).length = k := by simp [putB]
/-- The cells when i bytes have been laid. -/
def putC (n : Int) (k i : Nat) : Array Value := ((List.range k).map fun j => Value.int .u8 (if k - i ≤ j then byteAt n (k - 1 - j) else 0)).toArray
theorem putC_get (n : Int) (k i j : Nat) (hj : j < k) : (putC n k i)[j]? = some (.int .u8 (if k - i ≤ j then byteAt n (k - 1 - j) else 0)) := by simp [putC, hj]
theorem putC_zero (n : Int) (k : Nat) : putC n k 0 = madeCells #[.int .u8 0] k := by
  apply Array.ext
  · simp [putC, madeCells]
  · intro i h1 h2
    have hi : i < k := by simpa [putC] using h1
    simp [putC, madeCells, Nat.mod_one]
    intro h; omega
theorem putC_set (n : Int) (k i : Nat) (hi : i < k) : (putC n k i).setIfInBounds (k - 1 - i) (.int .u8 (byteAt n i)) = putC n k (i + 1) := by
  apply Array.ext
  · simp [putC]
  · intro j h1 h2
    have hj : j < k := by simpa [putC] using h2
    rw [Array.getElem_setIfInBounds]
    · by_cases e : k - 1 - i = j
      · subst e
        simp only [putC, if_true, List.getElem_toArray, List.getElem_map, List.getElem_range]
        rw [if_pos (by omega), show k - 1 - (k - 1 - i) = i by omega]
      · rw [if_neg e]
        simp only [putC, List.getElem_toArray, List.getElem_map, List.getElem_range]
        congr 1
        by_cases h : k - i ≤ j
        · rw [if_pos h, if_pos (by omega)]
        · rw [if_neg h, if_neg (by omega)]
    · simpa [putC] using hj

set_option maxRecDepth 100000 in
theorem run_mk8 (w : World) (n : Int) (k : Nat) (hk : k ≤ 8) : (Instr.makeSlice 92 (.int .i64 (k : Int)) (.int .i64 (k : Int))).run Tryd.prog w = .ok (.slice (some ⟨w.heap.size, 0, none⟩) k k) (w.alloc (.cells (putC n k 0) 5)) := by
  rw [putC_zero]
  obtain ⟨i, hi, hz⟩ : ∃ i, Tryd.prog.info? 5 = some i ∧ (i.zero, i.size, i.bytes) = (some (.int .u8 0), 1, 1) := by
    refine Option.map_eq_some_iff.1 ?_
    exact (by kernel_rfl : (Tryd.prog.info? 5).map (fun i => (i.zero, i.size, i.bytes)) = some (some (.int .u8 0), 1, 1))
  simp only [Prod.mk.injEq] at hz
  have := run_make (P := Tryd.prog) w 92 5 i (.int .u8 0) Tryd.underlying92 hi hz.1 .i64 .i64 k k (by omega) (by omega) (by rw [hz.2.2]; omega) (by omega)
  rw [hz.2.1, Int.toNat_natCast, Nat.mul_one] at this
  exact this

set_option maxRecDepth 100000 in
set_option maxHeartbeats 1000000 in
theorem put_any (w : World) (n : Int) (k : Nat) (hk : k ≤ 8) :
    Calls Tryd.prog 109 #[.int .u64 n, .int .i64 (k : Int)] w fun e w' => e = .returned (.string (strOfNums (putB n k))) ∧ Below w.heap.size w w' := by
  have hmk := fun W => run_mk8 W n k hk
  go_enter Tryd.func109, Tryd.ntmps109
  go_wp2_with fail
  clear hmk
  go_loopw [10] (fun i wr => ∃ m : Nat, m ≤ k ∧ i = .int .i64 m ∧ Blk wr w.heap.size 5 (putC n k m) ∧ Below w.heap.size w wr) (fun i _ => k - (intOf i).toNat)
  case atStart => exact ⟨0, by omega, rfl, Blk.new _ _ _, (Below.refl _ _).alloc (Nat.le_refl _) _⟩
  case round =>
    obtain ⟨m, hm, rfl, hb, hB⟩ := hrel
    by_cases hlt : m < k
    · have hw1 : wrap64 ((k : Int) - 1) = ((k - 1 : Nat) : Int) := by unfold wrap64; omega
      have hw2 : wrap64 (((k - 1 : Nat) : Int) - (m : Int)) = ((k - 1 - m : Nat) : Int) := by unfold wrap64; omega
      have hw3 : wrap64 (8 * (m : Int)) = ((8 * m : Nat) : Int) := by unfold wrap64; omega
      have hc : wr.cell? ⟨w.heap.size, k - 1 - m, none⟩ = some (.int .u8 0) := by rw [hb.cell, putC_get n k m _ (by omega), if_neg (by omega)]
      have hf := hb.frozen (k - 1 - m)
      have HB := Lib.hid hb
      have hlt2 : k - 1 - m < k := by omega
      clear hb
      go_wp2_with fail
      go_roundw
      case rel => exact ⟨m + 1, by omega, by go_num, by rw [← putC_set n k m hlt]; exact HB.out.set_ _ _, hB.setCell (p := ⟨w.heap.size, k - 1 - m, none⟩) (Nat.le_refl _) _⟩
      case measure => simp [intOf]; omega
    · obtain rfl : m = k := by omega
      have hcv := run_convert_bytes_arg (P := Tryd.prog) wr 92 5 Tryd.underlying92 Tryd.underlying5 w.heap.size 0 m m (putB n m) (putB_length _ _) (fun i hi => by
        rw [Nat.zero_add, hb.cell i, putC_get n m m i hi, if_pos (by omega), List.getD_eq_getElem?_getD]; simp [putB, hi]) 9 Tryd.underlying9
      go_wp2_with fail
      go_ret
      exact ⟨rfl, hB⟩

end Go.Proofs.YtbikplckehbcnaaDoor
