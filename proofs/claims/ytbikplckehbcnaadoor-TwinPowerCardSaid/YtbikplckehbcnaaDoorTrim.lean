/- strings.Trim(t, "\x00"): what is left is empty just where all bytes are zero. -/
import Derived.Test.YtbikplckehbcnaaDoorDec
import Derived.Deep.RegionWith
set_option linter.unusedVariables false
set_option linter.unusedSimpArgs false
namespace Go.Proofs.YtbikplckehbcnaaDoor
open Go Go.RowKit

def allZ (t : ByteArray) : Bool := (numsT t).all fun b => b == 0
theorem numsT_snoc {t : ByteArray} (h : t.size - 1 < t.size) : numsT t = numsT (t.extract 0 (t.size - 1)) ++ [(((t[t.size - 1]'h).toNat : Nat) : Int)] := by
  rw [numsT_extract, Nat.sub_zero, List.drop_zero]
  have hl : t.size - 1 < (numsT t).length := by rw [numsT_length]; exact h
  have e : numsT t = (numsT t).take (t.size - 1 + 1) := by rw [List.take_of_length_le (by rw [numsT_length]; omega)]
  have e2 : (numsT t)[t.size - 1] = (((t[t.size - 1]'h).toNat : Nat) : Int) := by simp [numsT]; rfl
  conv => lhs; rw [e, List.take_add_one, List.getElem?_eq_getElem hl, e2]
  rfl

set_option maxRecDepth 100000 in
theorem trimR_any (w : World) (t : ByteArray) (ht : t.size ≤ 65536) :
    Calls Tryd.prog 102 #[.string t, .int .u8 0] w fun e w' => (∃ r : ByteArray, e = .returned (.string r) ∧ r.size ≤ t.size ∧ allZ r = allZ t ∧ (0 < r.size → allZ r = false)) ∧ w = w' := by
  go_enter Tryd.func102, Tryd.ntmps102
  go_wp2_with fail
  go_loopw [0] (fun v wr => ∃ r : ByteArray, v = .string r ∧ r.size ≤ t.size ∧ Hid (allZ r = allZ t) ∧ wr = w) (fun v _ => match v with | .string r => r.size | _ => 0)
  case atStart => exact ⟨t, rfl, Nat.le_refl _, rfl, rfl⟩
  case round =>
    obtain ⟨r, rfl, hr, hz, rfl⟩ := hrel
    by_cases h0 : r.size = 0
    · obtain rfl := size_zero h0
      go_wp2_with fail
      go_ret
      exact ⟨⟨_, rfl, Nat.zero_le _, hz.out, fun h => absurd h (by decide)⟩, rfl⟩
    · have hpos : 0 < r.size := by omega
      have hl1 : r.size - 1 < r.size := by omega
      have HS := Lib.hid (numsT_snoc hl1)
      cases hb : ((((r[r.size - 1]'hl1).toNat : Nat) : Int) == 0) with
      | true =>
        have HB : Hid (allZ (r.extract 0 (r.size - 1)) = allZ r) := by
          unfold Hid allZ
          conv => rhs; rw [HS.out]
          rw [List.all_append, List.all_cons, hb]
          simp
        go_wp2_with fail
        go_roundw
        case rel => exact ⟨_, rfl, by rw [size_extract' _ _ _ (by omega) (by omega)]; omega, HB.out.trans hz.out, trivial⟩
        case measure =>
          show (r.extract 0 (r.size - 1)).size < r.size
          rw [size_extract' _ _ _ (by omega) (by omega)]
          omega
      | false =>
        have HB : Hid (allZ r = false) := by
          unfold Hid allZ
          rw [HS.out, List.all_append, List.all_cons, hb]
          simp
        go_wp2_with fail
        go_ret
        exact ⟨⟨_, rfl, hr, hz.out, fun _ => HB.out⟩, rfl⟩

set_option maxRecDepth 100000 in
theorem trimL_any (w : World) (t : ByteArray) (ht : t.size ≤ 65536) (hnz : 0 < t.size → allZ t = false) :
    Calls Tryd.prog 101 #[.string t, .int .u8 0] w fun e w' => (∃ r : ByteArray, e = .returned (.string r) ∧ r.size ≤ t.size ∧ (r.size = 0 ↔ t.size = 0)) ∧ w = w' := by
  have HNZ := Lib.hid hnz
  clear hnz
  go_enter Tryd.func101, Tryd.ntmps101
  go_wp2_with fail
  go_loopw [0] (fun v wr => ∃ r : ByteArray, v = .string r ∧ r.size ≤ t.size ∧ Hid (0 < t.size → allZ r = false) ∧ wr = w) (fun v _ => match v with | .string r => r.size | _ => 0)
  case atStart => exact ⟨t, rfl, Nat.le_refl _, HNZ.out, rfl⟩
  case round =>
    obtain ⟨r, rfl, hr, hz, rfl⟩ := hrel
    by_cases h0 : r.size = 0
    · obtain rfl := size_zero h0
      go_wp2_with fail
      go_ret
      refine ⟨⟨_, rfl, Nat.zero_le _, fun _ => ?_, fun _ => rfl⟩, rfl⟩
      rcases Nat.eq_zero_or_pos t.size with h | h
      · exact h
      · exact absurd (hz.out h) (by decide)
    · have hpos : 0 < r.size := by omega
      have HS := Lib.hid (numsT_cons hpos)
      cases hb : ((((r[0]'hpos).toNat : Nat) : Int) == 0) with
      | true =>
        have HB : Hid (allZ (r.extract 1 r.size) = allZ r) := by
          unfold Hid allZ
          conv => rhs; rw [HS.out]
          rw [List.all_cons, hb]
          simp
        go_wp2_with fail
        go_roundw
        case rel => exact ⟨_, rfl, by rw [size_extract' _ _ _ (by omega) (Nat.le_refl _)]; omega, fun h => HB.out.trans (hz.out h), trivial⟩
        case measure =>
          show (r.extract 1 r.size).size < r.size
          rw [size_extract' _ _ _ (by omega) (Nat.le_refl _)]
          omega
      | false =>
        go_wp2_with fail
        go_ret
        exact ⟨⟨_, rfl, hr, by omega⟩, rfl⟩

set_option maxRecDepth 100000 in
theorem trim_any (w : World) (t : ByteArray) (ht : t.size ≤ 65536) :
    Calls Tryd.prog 73 #[.string t, .string ⟨#[0]⟩] w fun e w' => (∃ r : ByteArray, e = .returned (.string r) ∧ (r.toList.isEmpty = allZ t)) ∧ Below w.heap.size w w' := by
  by_cases h0 : t.size = 0
  · obtain rfl := size_zero h0
    go_enter Tryd.func73, Tryd.ntmps73
    go_wp2_with fail
    go_ret
    exact ⟨⟨_, rfl, by rw [empty_size]; rfl⟩, Below.refl _ _⟩
  · have hne : t.toList.isEmpty = false := by rw [empty_size]; simpa using h0
    have HT := Lib.hid ht
    go_enter Tryd.func73, Tryd.ntmps73
    go_upto_region 4 with fail
    go_region_with (first
      | (go_at_call 102; refine (trimR_any _ t HT.out).mono ?_; rintro e w' ⟨⟨r, rfl, hr1, hr2, hr3⟩, rfl⟩; have HR := Lib.hid (And.intro hr1 (And.intro hr2 hr3)); clear hr1 hr2 hr3)
      | (go_at_call 101; refine (trimL_any _ _ (Nat.le_trans HR.out.1 HT.out) HR.out.2.2).mono ?_; rintro e w' ⟨⟨r2, rfl, hq1, hq2⟩, rfl⟩; have HQ := Lib.hid (And.intro hq1 hq2); clear hq1 hq2))
    all_goals
      go_wp2_with fail
      go_ret
      refine ⟨⟨_, rfl, ?_⟩, (Below.refl _ _).drew⟩
      rw [empty_size, ← HR.out.2.1]
      rcases Nat.eq_zero_or_pos r.size with h | h
      · rw [HQ.out.2.2 h, size_zero h]; rfl
      · rw [HR.out.2.2 h, beq_eq_false_iff_ne]; exact fun e => by have := HQ.out.2.1 e; omega

end Go.Proofs.YtbikplckehbcnaaDoor
