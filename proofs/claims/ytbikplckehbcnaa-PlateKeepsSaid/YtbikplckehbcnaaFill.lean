/- filled: a sector of one byte. -/
import Derived.Test.YtbikplckehbcnaaBase
import Derived.Test.YtbikplckehbcnaaChecked
import Derived.Outline
import Derived.Laws.BytesArg
set_option linter.unusedVariables false
set_option linter.unusedSimpArgs false
namespace Go.Proofs.Ytbikplckehbcnaa
open Go Go.RowKit

/-- The cells of a sector of which k bytes have been filled. -/
def fillC (x : Int) (k : Nat) : Array Value := ((List.range 256).map fun j => Value.int .u8 (if j < k then x else 0)).toArray
def fillS (x : Int) : ByteArray := strOfNums (List.replicate 256 x)
theorem fillS_size (x : Int) : (fillS x).size = 256 := by rw [fillS, strOfNums_size, List.length_replicate]
theorem fillC_get (x : Int) (k j : Nat) (hj : j < 256) : (fillC x k)[j]? = some (.int .u8 (if j < k then x else 0)) := by simp [fillC, hj]
theorem fillC_zero (x : Int) : fillC x 0 = madeCells #[.int .u8 0] 256 := by
  apply Array.ext
  · simp [fillC, madeCells]
  · intro i h1 h2
    simp [fillC, madeCells, Nat.mod_one]
theorem fillC_set (x : Int) (k : Nat) : (fillC x k).setIfInBounds k (.int .u8 x) = fillC x (k + 1) := by
  apply Array.ext
  · simp [fillC]
  · intro i h1 h2
    have hi : i < 256 := by simpa [fillC] using h2
    rw [Array.getElem_setIfInBounds]
    · by_cases e : k = i
      · subst e; simp [fillC]
      · rw [if_neg e]
        simp only [fillC, List.getElem_toArray, List.getElem_map, List.getElem_range]
        congr 1
        by_cases h : i < k
        · rw [if_pos h, if_pos (by omega)]
        · rw [if_neg h, if_neg (by omega)]
    · simpa [fillC] using hi

theorem run_mk256 (w : World) (x : Int) : (Instr.makeSlice 38 (.int .i64 256) (.int .i64 256)).run Try.prog w = .ok (.slice (some ⟨w.heap.size, 0, none⟩) 256 256) (w.alloc (.cells (fillC x 0) 5)) := by
  rw [fillC_zero]
  obtain ⟨i, hi, hz⟩ : ∃ i, Try.prog.info? 5 = some i ∧ (i.zero, i.size, i.bytes) = (some (.int .u8 0), 1, 1) := by
    refine Option.map_eq_some_iff.1 ?_
    exact (by kernel_rfl : (Try.prog.info? 5).map (fun i => (i.zero, i.size, i.bytes)) = some (some (.int .u8 0), 1, 1))
  simp only [Prod.mk.injEq] at hz
  have := run_make (P := Try.prog) w 38 5 i (.int .u8 0) Try.underlying38 hi hz.1 .i64 .i64 256 256 (by omega) (by omega) (by rw [hz.2.2]; omega) (by omega)
  rw [hz.2.1] at this
  exact this

set_option maxRecDepth 100000 in
theorem filled_any (w : World) (x : Int) :
    Calls Try.prog 9 #[.int .u8 x] w fun e w' => e = .returned (.string (fillS x)) ∧ Below w.heap.size w w' := by
  have hmk := fun W => run_mk256 W x
  go_enter Try.func9, Try.ntmps9
  go_wp2
  clear hmk
  go_loopw [4] (fun i wr => ∃ k : Nat, k ≤ 256 ∧ i = .int .i64 k ∧ Blk wr w.heap.size 5 (fillC x k) ∧ Below w.heap.size w wr) (fun i _ => 256 - (intOf i).toNat)
  case atStart => exact ⟨0, by omega, rfl, Blk.new _ _ _, (Below.refl _ _).alloc (Nat.le_refl _) _⟩
  case round =>
    obtain ⟨k, hk, rfl, hb, hB⟩ := hrel
    by_cases hlt : k < 256
    · have hc : wr.cell? ⟨w.heap.size, k, none⟩ = some (.int .u8 0) := by rw [hb.cell k, fillC_get x k k hlt, if_neg (by omega)]
      have hf := hb.frozen k
      have HB := Lib.hid hb
      clear hb
      go_wp2
      go_roundw
      case rel => exact ⟨k + 1, by omega, by go_num, by rw [← fillC_set]; exact HB.out.set_ k _, hB.setCell (p := ⟨w.heap.size, k, none⟩) (Nat.le_refl _) _⟩
      case measure => simp [intOf]; omega
    · obtain rfl : k = 256 := by omega
      have hcv := run_convert_bytes_arg (P := Try.prog) wr 38 5 Try.underlying38 Try.underlying5 w.heap.size 0 256 256 (List.replicate 256 x) (by rw [List.length_replicate]) (fun i hi => by
        rw [Nat.zero_add, hb.cell i, fillC_get x 256 i hi, if_pos hi, List.getD_eq_getElem?_getD, List.getElem?_replicate, if_pos hi]; rfl) 9 Try.underlying9
      have HS : Hid (strOfNums (List.replicate 256 x) = fillS x) := rfl
      rw [HS.out] at hcv
      go_wp2
      go_ret
      exact ⟨rfl, hB⟩

end Go.Proofs.Ytbikplckehbcnaa
