/- high.Get. -/
import Derived.Test.YtbikplckehbcnaaDoorDecS
import Derived.Lib.ConvBytes
import Derived.Laws.Bits64b
set_option linter.unusedVariables false
set_option linter.unusedSimpArgs false
namespace Go.Proofs.YtbikplckehbcnaaDoor
open Go Go.RowKit

theorem numsT_get (t : ByteArray) (j : Nat) : (numsT t)[j]? = (t.data.toList[j]?).map fun b => (b.toNat : Int) := by simp [numsT]
theorem bytes_below (w : World) (e : TypeId) (t : ByteArray) : Below w.heap.size w (Lib.bytesWorld w e t) :=
  ⟨rfl, rfl, rfl, by rw [Lib.bytesWorld_size]; omega, fun k hk => Lib.bytesWorld_at_old w e t k hk⟩
theorem or_byte (n : Int) (b : Nat) (h0 : 0 ≤ n) (h1 : n < 72057594037927936) (b1 : (b : Int) < 256) : bits .or .u64 (IntKind.u64.wrap (n * 256)) (b : Int) = n * 256 + b := by
  obtain ⟨m, rfl⟩ := Int.eq_ofNat_of_zero_le h0
  have e : IntKind.u64.wrap ((m : Int) * 256) = ((m <<< 8 : Nat) : Int) := by
    rw [Nat.shiftLeft_eq]
    simp only [IntKind.wrap, IntKind.bits, IntKind.signed, Bool.false_and, Bool.false_eq_true, if_false]
    omega
  have hm : m <<< 8 = m * 256 := Nat.shiftLeft_eq m 8
  rw [e, bits_or_u64_nat _ _ (by omega) (by omega), ← Nat.shiftLeft_add_eq_or_of_lt (by omega : b < 2 ^ 8), hm]
  omega
theorem pow_le (k : Nat) (h : k < 8) : (256 : Int) ^ k ≤ 72057594037927936 := by
  match k, h with
  | 0, _ => decide
  | 1, _ => decide
  | 2, _ => decide
  | 3, _ => decide
  | 4, _ => decide
  | 5, _ => decide
  | 6, _ => decide
  | 7, _ => decide

set_option maxRecDepth 100000 in
set_option maxHeartbeats 1000000 in
theorem get_any (w : World) (t : ByteArray) (ht : t.size = 8) :
    Calls Tryd.prog 133 #[.string t] w fun e w' => e = .returned (.int .u64 (getN (numsT t))) ∧ Below w.heap.size w w' := by
  have hcv := Lib.run_convert_string_bytes (P := Tryd.prog) w 9 92 5 t Tryd.underlying9 Tryd.underlying92 Tryd.underlying5
  rw [ht] at hcv
  have HC : Hid (∀ j, j < 8 → (Lib.bytesWorld w 5 t).cell? ⟨w.heap.size, j, none⟩ = some (.int .u8 (t.data.toList.getD j 0).toNat)) := fun j hj => Lib.bytesWorld_cell w 5 t j (by omega)
  have HB := Lib.hid (bytes_below w 5 t)
  have HT := Lib.hid ht
  clear ht
  revert hcv HC HB
  generalize Lib.bytesWorld w 5 t = W0
  generalize grownCap w 8 0 5 = cp
  intro hcv HC HB
  go_enter Tryd.func133, Tryd.ntmps133
  go_wp2_with fail
  clear hcv
  go_loopw [3, 9] (fun nv i wr => ∃ k : Nat, k ≤ 8 ∧ i = .int .i64 k ∧ (∃ n : Int, nv = .int .u64 n ∧ Hid (n = getN ((numsT t).take k)) ∧ 0 ≤ n ∧ n < 256 ^ k) ∧ wr = W0) (fun _ i _ => 8 - (intOf i).toNat)
  case atStart => exact ⟨0, by omega, rfl, ⟨0, rfl, by rw [List.take_zero]; rfl, by omega, by omega⟩, rfl⟩
  case round =>
    obtain ⟨k, hk, rfl, ⟨n, rfl, hn, n0, n1⟩, rfl⟩ := hrel
    by_cases hlt : k < 8
    · have hc := HC.out k hlt
      have hb : (numsT t)[k]? = some (((t.data.toList.getD k 0).toNat : Nat) : Int) := by
        have hl : k < t.data.toList.length := by have := HT.out; rw [Array.length_toList]; show k < t.size; omega
        rw [numsT_get, List.getElem?_eq_getElem hl, List.getD_eq_getElem?_getD, List.getElem?_eq_getElem hl]
        rfl
      have hbb : ((t.data.toList.getD k 0).toNat : Int) < 256 := by have := (t.data.toList.getD k 0).toNat_lt; omega
      revert hc hb hbb
      generalize ((t.data.toList.getD k 0).toNat) = bb
      intro hc hb hbb
      have HN : Hid (n * 256 + bb = getN ((numsT t).take (k + 1))) := by
        unfold Hid
        rw [List.take_add_one, hb, Option.toList_some, getN_snoc, ← hn.out]
      have hor := or_byte n bb n0 (Int.lt_of_lt_of_le n1 (pow_le k hlt)) hbb
      have HP : Hid (n * 256 + bb < 256 ^ (k + 1)) := by
        unfold Hid
        rw [Int.pow_succ]
        omega
      have HN1 := Lib.hid n1
      clear hb n1
      go_wp2_with fail
      go_roundw
      case rel => exact ⟨k + 1, by omega, by go_num, ⟨_, rfl, HN, by omega, HP.out⟩, trivial⟩
      case measure => simp [intOf]; omega
    · obtain rfl : k = 8 := by omega
      go_wp2_with fail
      go_ret
      refine ⟨?_, HB.out⟩
      have h := hn.out
      rw [List.take_of_length_le (by rw [numsT_length, HT.out]; exact Nat.le_refl _)] at h
      exact congrArg (fun n => Ending.returned (Value.int .u64 n)) h

end Go.Proofs.YtbikplckehbcnaaDoor
