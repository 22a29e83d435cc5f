/- strconv.ParseUint(s, 16, 8) of at most two bytes. -/
import Derived.Test.YtbikplckehbcnaaDoorTmW
import Derived.Test.YtbikplckehbcnaaDoorTmShelf
import Derived.Lib.ConvBytes
import Derived.Lib.AtoiAllMem
import Derived.Lib.Hide
import Derived.Laws.Strings3
import Derived.Laws.Closers25
import Derived.Laws.Closers25b
import Derived.BigCall
import Derived.BigGuard
set_option linter.unusedVariables false
set_option linter.unusedSimpArgs false
namespace Go.Proofs.YtbikplckehbcnaaDoor
open Go Go.RowKit

/-- The small letter. -/
def lowN (c : UInt8) : Nat := (c ||| 32).toNat
theorem low_bits : ∀ c : UInt8, bits .or .u8 (c.toNat : Int) 32 = (lowN c : Int) := byte_all (by decide +kernel)
theorem low_dash {c : UInt8} (h : c.toNat = 95) : lowN c = 127 := by
  obtain rfl : c = 95 := UInt8.toNat_inj.1 h
  decide
theorem low_lt (c : UInt8) : lowN c < 256 := (c ||| 32).toNat_lt
/-- A digit of base 16, either letter. -/
def hxV (c : UInt8) : Option Nat := if 48 ≤ c.toNat ∧ c.toNat ≤ 57 then some (c.toNat - 48) else if 97 ≤ lowN c ∧ lowN c ≤ 102 then some (lowN c - 87) else none
def hxF : Nat → Bs → Option Nat
  | acc, [] => some acc
  | acc, c :: r => match hxV c with
    | none => none
    | some d => hxF (acc * 16 + d) r
def hexP (l : Bs) : Option Nat := if l = [] then none else hxF 0 l
theorem hxV_lt {c : UInt8} {d : Nat} (h : hxV c = some d) : d < 16 := by
  unfold hxV at h
  split at h
  · injection h with h; omega
  · split at h
    · injection h with h; omega
    · cases h
theorem hex_pair : ∀ c : UInt8, hexP [hexD (c >>> 4), hexD (c &&& 15)] = some c.toNat := byte_all (by decide +kernel)
/-- What ParseUint hands back. -/
def hexV (r : Option Nat) : Value := match r with
  | some n => .tuple #[.int .u64 n, .nilIface]
  | none => .tuple #[.int .u64 0, .iface 173 (.int .i64 2)]

theorem lower_any (c : UInt8) (w : World) : Calls Tryd.prog 120 #[.int .u8 (c.toNat : Int)] w fun e w' => e = .returned (.int .u8 (lowN c : Int)) ∧ w = w' :=
  (Tryd.internal_strconv_lower _ w).mono fun e w' ⟨he, hw⟩ => ⟨by rw [he, low_bits], hw.symm⟩

theorem bw_below (B : Nat) (w : World) (e : TypeId) (s : ByteArray) (h : B ≤ w.heap.size) : Below B w (Lib.bytesWorld w e s) :=
  ⟨rfl, rfl, rfl, by rw [Lib.bytesWorld_size]; omega, fun k hk => Lib.bytesWorld_at_old w e s k (by omega)⟩

set_option maxHeartbeats 1000000 in
set_option maxRecDepth 100000 in
theorem iparse_any (t : ByteArray) (hmax : t.size ≤ 2) (w : World) :
    Calls Tryd.prog 88 #[.string t, .int .i64 16, .int .i64 8] w fun e w' => e = .returned (hexV (hexP t.data.toList)) ∧ Below w.heap.size w w' := by
  by_cases hne : t.size = 0
  · have he : t = ⟨#[]⟩ := by
      cases t with | mk d => have : d.size = 0 := hne; rw [Array.size_eq_zero_iff.1 this]
    subst he
    go_enter Tryd.func88, Tryd.ntmps88
    go_wp2
    go_ret2
    exact ⟨rfl, Below.refl _ _⟩
  · have hemp : t.toList.isEmpty = false := by
      rw [← decide_eq_emptyBytes]
      exact decide_eq_false (fun h => hne (by rw [h]; rfl))
    have hcv := Lib.run_convert_string_bytes (P := Tryd.prog) w 9 92 5 t (u := .string) Tryd.underlying9 Tryd.underlying92 Tryd.underlying5
    have hB : ∀ j, j < t.size → (Lib.bytesWorld w 5 t).cell? ⟨w.heap.size, j, none⟩ = some (.int .u8 (t.data.toList.getD j 0).toNat) := fun j hj => Lib.bytesWorld_cell w 5 t j hj
    have HW : Hid (Below w.heap.size w (Lib.bytesWorld w 5 t)) := bw_below _ _ _ _ (Nat.le_refl _)
    obtain ⟨W1, hW1⟩ : ∃ W1, W1 = Lib.bytesWorld w 5 t := ⟨_, rfl⟩
    rw [← hW1] at hcv hB HW
    clear hW1
    obtain ⟨bs, hL⟩ : ∃ bs, bs = t.data.toList := ⟨_, rfl⟩
    have hLn : bs.length = t.size := by rw [hL, Lib.size_eq]
    have HP : Hid (hexP t.data.toList = hxF 0 bs) := by
      unfold Hid hexP
      rw [← hL, if_neg]
      rintro rfl
      exact hne hLn.symm
    rw [← hL] at hB
    clear hL
    go_enter Tryd.func88, Tryd.ntmps88
    go_wp2
    go_loopw [12, 13, 101] (fun vu vn vi wr => ∃ (k acc : Nat) (a : Int), vu = .bool false ∧ vn = .int .u64 a ∧ vi = .int .i64 k ∧ k ≤ t.size ∧ 0 ≤ a ∧ a < 256 ∧ Hid (a = (acc : Int) ∧ (k = 0 → a = 0) ∧ (k < 2 → a < 16) ∧ hxF 0 bs = hxF acc (bs.drop k)) ∧ wr = W1)
      (fun _ _ vi _ => t.size - (intOf vi).toNat)
    case atStart => exact ⟨0, 0, 0, rfl, rfl, rfl, by omega, by omega, by omega, ⟨rfl, fun _ => rfl, fun _ => by omega, rfl⟩, rfl⟩
    case round =>
      obtain ⟨k, acc, a, rfl, rfl, rfl, hk, ha0, ha1, hh, rfl⟩ := hrel
      by_cases hkn : k < t.size
      · have hacc16 : a < 16 := hh.out.2.2.1 (by omega)
        have hc := hB k hkn
        have hdrop : bs.drop k = bs[k]'(by omega) :: bs.drop (k + 1) := List.drop_eq_getElem_cons (by omega)
        have hget : bs.getD k 0 = bs[k]'(by omega) := by simp [List.getD, List.getElem?_eq_getElem (show k < bs.length by omega)]
        have hdec := hh.out.2.2.2
        have hk0 := hh.out.2.1
        have HAC := Lib.hid hh.out.1
        rw [hdrop] at hdec
        rw [hget] at hc
        generalize bs[k]'(by omega) = c at hc hdec
        have hc256 : (c.toNat : Int) < 256 := by have := c.toNat_lt; omega
        have hc0 : 0 ≤ (c.toNat : Int) := by omega
        have hl256 : (lowN c : Int) < 256 := by have := low_lt c; omega
        have hl0 : 0 ≤ (lowN c : Int) := by omega
        have HLO := Lib.hid (fun W => lower_any c W)
        clear hB hdrop hget hh
        by_cases hdig : 48 ≤ c.toNat ∧ c.toNat ≤ 57
        · obtain ⟨hd0, hd1⟩ := hdig
          have hF : hxF acc (c :: bs.drop (k + 1)) = hxF (acc * 16 + (c.toNat - 48)) (bs.drop (k + 1)) := by simp [hxF, hxV, hd0, hd1]
          have HN : Hid (a * 16 + ((c.toNat : Int) - 48) = ((acc * 16 + (c.toNat - 48) : Nat) : Int) ∧ (k + 1 = 0 → a * 16 + ((c.toNat : Int) - 48) = 0) ∧ (k + 1 < 2 → a * 16 + ((c.toNat : Int) - 48) < 16) ∧ hxF 0 bs = hxF (acc * 16 + (c.toNat - 48)) (bs.drop (k + 1))) := ⟨by have := HAC.out; omega, fun h => by omega, fun h => by have := hk0 (by omega); omega, hdec.trans hF⟩
          have hd0 : 48 ≤ (c.toNat : Int) := by omega
          have hd1 : (c.toNat : Int) ≤ 57 := by omega
          clear hF hdec HAC HLO hl256 hl0 hk0
          generalize hxx : (c.toNat : Int) = x at hc hd0 hd1 hc256 hc0 HN
          clear hxx
          go_wp2
          go_roundw
          case rel => exact ⟨k + 1, _, _, rfl, rfl, by go_num, by omega, by omega, by omega, HN, trivial⟩
          case measure => simp [intOf]; omega
        · by_cases hlow : 97 ≤ lowN c ∧ lowN c ≤ 102
          · obtain ⟨hd0, hd1⟩ := hlow
            have hF : hxF acc (c :: bs.drop (k + 1)) = hxF (acc * 16 + (lowN c - 87)) (bs.drop (k + 1)) := by simp [hxF, hxV, hdig, hd0, hd1]
            have HN : Hid (a * 16 + ((lowN c : Int) - 97 + 10) = ((acc * 16 + (lowN c - 87) : Nat) : Int) ∧ (k + 1 = 0 → a * 16 + ((lowN c : Int) - 97 + 10) = 0) ∧ (k + 1 < 2 → a * 16 + ((lowN c : Int) - 97 + 10) < 16) ∧ hxF 0 bs = hxF (acc * 16 + (lowN c - 87)) (bs.drop (k + 1))) := ⟨by have := HAC.out; omega, fun h => by omega, fun h => by have := hk0 (by omega); omega, hdec.trans hF⟩
            have hd0 : 97 ≤ (lowN c : Int) := by omega
            have hd1 : (lowN c : Int) ≤ 102 := by omega
            have hdg : (c.toNat : Int) < 48 ∨ 57 < (c.toNat : Int) := by omega
            have h95 : ((c.toNat : Int) == 95) = false := by
              rw [beq_eq_false_iff_ne]; intro e; have := low_dash (by omega : c.toNat = 95); omega
            clear hF hdec HAC hk0 hdig
            generalize hyy : (lowN c : Int) = y at hd0 hd1 hl256 hl0 HN HLO
            generalize hxx : (c.toNat : Int) = x at hc hc256 hc0 hdg HLO h95
            clear hxx hyy
            rcases hdg with hdg | hdg
            all_goals
              go_wp2_with (go_at_call 120; refine (HLO.out _).mono ?_; rintro e w' ⟨rfl, rfl⟩)
              all_goals
                go_roundw
                case rel => exact ⟨k + 1, _, _, rfl, rfl, by go_num, by omega, by omega, by omega, HN, trivial⟩
                case measure => simp [intOf]; omega
          · have hF : hxF acc (c :: bs.drop (k + 1)) = none := by simp [hxF, hxV, hdig, hlow]
            have HN : Hid (hexP t.data.toList = none) := by unfold Hid; rw [HP.out]; exact hdec.trans hF
            have hdg : (c.toNat : Int) < 48 ∨ 57 < (c.toNat : Int) := by omega
            have hlw : (lowN c : Int) < 97 ∨ (102 < (lowN c : Int) ∧ (lowN c : Int) ≤ 122) ∨ 122 < (lowN c : Int) := by omega
            have h95 : ((c.toNat : Int) == 95) = false ∨ c.toNat = 95 := by
              by_cases e : c.toNat = 95
              · exact .inr e
              · left; rw [beq_eq_false_iff_ne]; omega
            clear hF hdec HAC hk0 hdig hlow
            rcases h95 with h95 | h95
            · generalize hyy : (lowN c : Int) = y at hlw hl256 hl0 HLO
              generalize hxx : (c.toNat : Int) = x at hc hc256 hc0 hdg HLO h95
              clear hxx hyy
              rcases hdg with hdg | hdg <;> rcases hlw with hlw | ⟨hlw, hlw2⟩ | hlw
              all_goals
                go_wp2_with (go_at_call 120; refine (HLO.out _).mono ?_; rintro e w' ⟨rfl, rfl⟩)
                all_goals
                  go_ret2
                  exact ⟨by rw [HN.out]; rfl, HW.out⟩
            rw [low_dash h95] at HLO
            rw [h95] at hc HLO
            clear h95 hl256 hl0 hlw hdg hc256 hc0
            · go_wp2_with (go_at_call 120; refine (HLO.out _).mono ?_; rintro e w' ⟨rfl, rfl⟩)
              all_goals
                go_ret2
                exact ⟨by rw [HN.out]; rfl, HW.out⟩
      · have hkk : k = t.size := by omega
        subst hkk
        have HF : Hid (hexP t.data.toList = some acc) := by
          unfold Hid
          rw [HP.out, hh.out.2.2.2, List.drop_eq_nil_of_le (by omega)]; rfl
        obtain rfl := hh.out.1
        clear hh ha0 ha1
        go_wp2
        go_ret2
        exact ⟨by rw [HF.out]; rfl, HW.out⟩

end Go.Proofs.YtbikplckehbcnaaDoor
