/- fate, On, Arm, New, the methods that only read. -/
import Derived.Test.YtbikplckehbcnaaDoorPlD
namespace Go.Proofs.YtbikplckehbcnaaDoor
open Go Go.RowKit

/-- The slice at A reads as xs, in memory that is none of F's. -/
def Ints (w : World) (F : Nat → Prop) (A : Option Addr) (xs : List Int) : Prop :=
  xs.length ≤ 1099511627776000 ∧ (0 < xs.length → ∃ ad : Addr, A = some ad ∧ ad.block < w.heap.size ∧ ¬ F ad.block ∧ ∀ j, j < xs.length → w.cell? (ad.add j) = some (.int .i64 (xs.getD j 0)))

theorem add_block (a : Addr) (n : Nat) : (a.add n).block = a.block := by unfold Addr.add; split <;> rfl
theorem Ints.fr {w w' : World} {F : Nat → Prop} {A : Option Addr} {xs : List Int} (h : Ints w F A xs) (hf : Fr F w w') : Ints w' F A xs :=
  ⟨h.1, fun hn => by
    obtain ⟨ad, e, hb, hF, hc⟩ := h.2 hn
    exact ⟨ad, e, Nat.lt_of_lt_of_le hb hf.size, hF, fun j hj => (hf.cell (p := ad.add j) (by rw [add_block]; exact hb) (by rw [add_block]; exact hF)).trans (hc j hj)⟩⟩
theorem Ints.nil (w : World) (F : Nat → Prop) (A : Option Addr) : Ints w F A [] := ⟨by simp, fun h => by simp at h⟩

theorem tmod3 (x : Int) : -3 < x.tmod 3 ∧ x.tmod 3 < 3 := ⟨by have := Int.lt_tmod_of_pos x (show (0:Int) < 3 by omega); omega, Int.tmod_lt_of_pos x (by omega)⟩

set_option maxHeartbeats 400000 in
theorem fate_any (w : World) (F : Nat → Prop) (A : Option Addr) (c : Nat) (xs : List Int) (i : Nat) (h : Ints w F A xs) (hi : i < 4611686018427387904) :
    Calls Tryd.prog 46 #[.slice A xs.length c, .int .i64 i] w fun e w' => e = .returned (.int .i64 (PSt.fate xs i)) ∧ w = w' := by
  by_cases hz : xs.length = 0
  · have HS : Hid (PSt.fate xs i = 0) := by unfold PSt.fate; rw [if_pos hz]; exact rfl
    have e1 : ((xs.length : Int) == 0) = true := by rw [beq_iff_eq]; omega
    clear h hz
    go_enter Tryd.func46, Tryd.ntmps46
    go_wp2_with fail
    go_ret
    rw [HS.out]
    exact ⟨rfl, rfl⟩
  · obtain ⟨ad, rfl, _, _, hc⟩ := h.2 (by omega)
    have hl := h.1
    have hm : i % xs.length < xs.length := Nat.mod_lt _ (by omega)
    have hx := hc _ hm
    obtain ⟨x, hxe⟩ : ∃ x, xs.getD (i % xs.length) 0 = x := ⟨_, rfl⟩
    rw [hxe] at hx
    have ht := tmod3 x
    have e1 : ((xs.length : Int) == 0) = false := by rw [beq_eq_false_iff_ne]; omega
    have hr : (i : Int).tmod (xs.length : Int) = ((i % xs.length : Nat) : Int) := by rw [Int.tmod_eq_emod_of_nonneg (by omega)]; exact (Int.natCast_emod ..).symm
    by_cases hn : x.tmod 3 < 0
    · have HS : Hid (PSt.fate xs i = x.tmod 3 + 3) := by unfold PSt.fate; rw [if_neg hz, hxe]; exact if_pos hn
      clear h hc hxe hz
      go_enter Tryd.func46, Tryd.ntmps46
      go_wp2_with fail
      go_ret
      rw [HS.out]
      exact ⟨rfl, rfl⟩
    · have HS : Hid (PSt.fate xs i = x.tmod 3) := by unfold PSt.fate; rw [if_neg hz, hxe]; exact if_neg hn
      clear h hc hxe hz
      go_enter Tryd.func46, Tryd.ntmps46
      go_wp2_with fail
      go_ret
      rw [HS.out]
      exact ⟨rfl, rfl⟩

end Go.Proofs.YtbikplckehbcnaaDoor
