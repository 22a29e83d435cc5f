/- tome.Word, tome.Text: the walks. -/
import Derived.Test.YtbikplckehbcnaaDoorTmU
import Derived.StillTailTactics
import Derived.Deep.QuietTactic
import Derived.BigQuiet
set_option linter.unusedVariables false
set_option linter.unusedSimpArgs false
namespace Go.Proofs.YtbikplckehbcnaaDoor
open Go Go.RowKit

theorem plain_int (c : UInt8) : plainB c = (decide (32 < (c.toNat : Int)) && decide ((c.toNat : Int) ≤ 126) && !((c.toNat : Int) == 37)) := by
  revert c
  exact byte_all (by decide +kernel)

set_option maxRecDepth 100000 in
theorem isPlain_any (c : UInt8) (w : World) : Calls Tryd.prog 65 #[.int .u8 (c.toNat : Int)] w fun e w' => e = .returned (.bool (plainB c)) ∧ w = w' := by
  have HP := Lib.hid (plain_int c)
  generalize plainB c = v at HP ⊢
  have hx : (c.toNat : Int) < 256 := by have := c.toNat_lt; omega
  have hx0 : 0 ≤ (c.toNat : Int) := by omega
  generalize (c.toNat : Int) = x at HP hx hx0 ⊢
  cases h1 : decide (32 < x) <;> cases h2 : decide (x ≤ 126) <;> cases h3 : (x == 37)
  all_goals
    have h1' : decide (32 < x) = _ := h1
    have h2' := h2
    have h3' := h3
    have HV := Lib.hid (HP.out.trans (by rw [h1, h2, h3]))
    clear h1' h2' h3' HP
    simp only [decide_eq_true_eq, decide_eq_false_iff_not] at h1 h2
    go_enter Tryd.func65, Tryd.ntmps65
    go_wp2_with fail
    go_ret
    refine ⟨?_, rfl⟩
    first
      | (show Ending.returned (.bool (x != 37)) = _; rw [HV.out, bne, h3]; rfl)
      | (show Ending.returned (.bool false) = _; rw [HV.out]; rfl)

/-! ### Word -/
theorem cells_snoc (l : Bs) (c : UInt8) : Lib.byteCells (l ++ [c]) = Lib.byteCells l ++ [Value.int .u8 (c.toNat : Int)] := by simp [Lib.byteCells]
theorem flat_snoc {s : Bs} {k : Nat} {c : UInt8} (h : s[k]? = some c) : (s.take (k + 1)).flatMap encB = (s.take k).flatMap encB ++ encB c := by
  rw [List.take_add_one, h]
  simp
theorem and_bits : ∀ c : UInt8, bits .and .u8 (c.toNat : Int) 15 = ((c.toNat % 16 : Nat) : Int) := byte_all (by decide +kernel)
def digT : ByteArray := ⟨#[48, 49, 50, 51, 52, 53, 54, 55, 56, 57, 65, 66, 67, 68, 69, 70]⟩

theorem hex_str : ∀ c : UInt8, ((⟨#[37]⟩ : ByteArray) ++ digT.extract (c.toNat / 16) (c.toNat / 16 + 1) ++ digT.extract (c.toNat % 16) (c.toNat % 16 + 1)).data.toList = [37, hexD (c >>> 4), hexD (c &&& 15)] := byte_all (by decide +kernel)
theorem dig_slice (h : Nat) (hl : h < 16) (wx : World) : (Instr.slice 9 (.string ⟨#[48, 49, 50, 51, 52, 53, 54, 55, 56, 57, 65, 66, 67, 68, 69, 70]⟩) (some (.int .u8 (h : Int))) (some (.int .u8 ((h : Int) + 1))) none).run Tryd.prog wx = .ok (.string (digT.extract h (h + 1))) wx := by
  have hs : (⟨#[48, 49, 50, 51, 52, 53, 54, 55, 56, 57, 65, 66, 67, 68, 69, 70]⟩ : ByteArray).size = 16 := rfl
  have := run_slice_string (P := Tryd.prog) wx 9 ⟨#[48, 49, 50, 51, 52, 53, 54, 55, 56, 57, 65, 66, 67, 68, 69, 70]⟩ .u8 .u8 (h : Int) ((h : Int) + 1) Tryd.underlying9 (by omega) (by omega) (by rw [hs]; omega)
  rw [show ((h : Int) + 1).toNat = h + 1 by omega, Int.toNat_natCast] at this
  exact this
theorem add_str (a b : ByteArray) (h : a.size + b.size ≤ 9223372036854775807) (wx : World) : (Op.stringOp .add a b).run Tryd.prog wx = .ok (.string (a ++ b)) wx := run_string_add_sum wx a b h
theorem dig_size (h : Nat) : (digT.extract h (h + 1)).size ≤ 16 := by
  have hs : digT.size = 16 := rfl
  rw [ByteArray.size_extract]
  omega
theorem strCells_of {s : ByteArray} {l : Bs} (h : s.data.toList = l) : Lib.strCells s = Lib.byteCells l := by
  rw [← h]
  rfl

set_option maxRecDepth 100000 in
set_option maxHeartbeats 1000000 in
theorem word_any (s : Bs) (hs : s.length ≤ 1048576) (w : World) :
    Calls Tryd.prog 32 #[.string (ba s)] w fun e w' => e = .returned (.string (ba (wordP s))) ∧ Below w.heap.size w w' := by
  by_cases h0 : s = []
  · subst h0
    show Calls _ _ #[.string ⟨#[]⟩] w _
    go_enter Tryd.func32, Tryd.ntmps32
    go_wp2_with fail
    go_ret
    exact ⟨rfl, Below.refl _ _⟩
  · have hemp : (ba s).toList.isEmpty = false := by
      rw [ByteArray.toList_eq]
      show s.isEmpty = false
      simpa using h0
    have hsz : (ba s).size = s.length := rfl
    have HW : Hid (wordP s = s.flatMap encB) := by unfold Hid wordP; rw [if_neg]; simpa using h0
    clear h0
    have hcv := Lib.run_convert_string_bytes (P := Tryd.prog) (w.alloc (.cells #[.pointer none, .slice none 0 0] 126)) 9 92 5 (ba s) (u := .string) Tryd.underlying9 Tryd.underlying92 Tryd.underlying5
    have hB : ∀ j, j < s.length → (Lib.bytesWorld (w.alloc (.cells #[.pointer none, .slice none 0 0] 126)) 5 (ba s)).cell? ⟨w.heap.size + 1, j, none⟩ = some (.int .u8 (s.getD j 0).toNat) := fun j hj => by
      have := Lib.bytesWorld_cell (w.alloc (.cells #[.pointer none, .slice none 0 0] 126)) 5 (ba s) j hj
      rw [World.size_alloc] at this
      exact this
    have HF : Hid (Below w.heap.size w (Lib.bytesWorld (w.alloc (.cells #[.pointer none, .slice none 0 0] 126)) 5 (ba s)) ∧ Bld w.heap.size (w.heap.size + 2) [] (Lib.bytesWorld (w.alloc (.cells #[.pointer none, .slice none 0 0] 126)) 5 (ba s)) ∧ (Lib.bytesWorld (w.alloc (.cells #[.pointer none, .slice none 0 0] 126)) 5 (ba s)).heap.size = w.heap.size + 2) := by
      have hb := bw_below (w.heap.size + 1) (w.alloc (.cells #[.pointer none, .slice none 0 0] 126)) 5 (ba s) (by simp)
      refine ⟨((Below.refl _ _).alloc (Nat.le_refl _) _).trans (hb.mono (by omega)), ?_, by rw [Lib.bytesWorld_size]; simp⟩
      exact (Bld.new w _).fr (F := Nope) ((Fr.refl _ _).below (by simpa using hb)) (fun h => h.elim) (fun _ _ h => h.elim)
    rw [World.size_alloc] at hcv
    obtain ⟨W1, hW1⟩ : ∃ W1, W1 = Lib.bytesWorld (w.alloc (.cells #[.pointer none, .slice none 0 0] 126)) 5 (ba s) := ⟨_, rfl⟩
    rw [← hW1] at hcv hB HF
    clear hW1
    have HB := Lib.hid hB
    clear hB
    go_enter Tryd.func32, Tryd.ntmps32
    go_wp2_with fail
    clear hcv
    go_loopw [11] (fun vi wr => ∃ k : Nat, vi = .int .i64 k ∧ k ≤ s.length ∧ Hid (Bld w.heap.size (w.heap.size + 2) (Lib.byteCells ((s.take k).flatMap encB)) wr ∧ Fr (BldF w.heap.size (w.heap.size + 2)) W1 wr)) (fun vi _ => s.length - (intOf vi).toNat)
    case atStart => exact ⟨0, rfl, by omega, HF.out.2.1, Fr.refl _ _⟩
    case round =>
      obtain ⟨k, rfl, hk, hP⟩ := hrel
      by_cases hlt : k < s.length
      · obtain ⟨c, hc⟩ : ∃ c, s[k]? = some c := ⟨_, List.getElem?_eq_getElem hlt⟩
        have hcell : wr.cell? ⟨w.heap.size + 1, k, none⟩ = some (.int .u8 (c.toNat : Int)) := by
          rw [hP.out.2.cell (p := ⟨w.heap.size + 1, k, none⟩) (by rw [HF.out.2.2]; show w.heap.size + 1 < _; omega) (by show ¬ (w.heap.size + 1 = w.heap.size ∨ w.heap.size + 2 ≤ w.heap.size + 1); omega), HB.out k hlt]
          simp [List.getD, hc]
        have HN := Lib.hid (flat_snoc hc)
        have HL : Hid ((Lib.byteCells ((s.take k).flatMap encB)).length ≤ 3145728) := by
          unfold Hid
          have := flat_len (s.take k)
          have h2 : (s.take k).length ≤ s.length := by rw [List.length_take]; omega
          simp only [Lib.byteCells, List.length_map]
          omega
        have HS : Hid (w.heap.size + 2 ≤ wr.heap.size) := by
          unfold Hid
          have := hP.out.2.size
          have := HF.out.2.2
          omega
        clear hc
        go_wp2_with fail
        refine (isPlain_any c _).mono ?_
        rintro e w1 ⟨rfl, rfl⟩
        cases hp : plainB c with
        | true =>
          have HE := Lib.hid (enc_one c hp)
          clear hp
          go_wp2_with fail
          refine (wbyte_any _ _ _ _ _ hP.out.1 (by have := HL.out; omega) HS.out).mono ?_
          rintro e w2 ⟨rfl, h2, f2⟩
          have H2 : Hid (Bld w.heap.size (w.heap.size + 2) (Lib.byteCells ((s.take (k + 1)).flatMap encB)) w2 ∧ Fr (BldF w.heap.size (w.heap.size + 2)) W1 w2) := by
            refine ⟨?_, hP.out.2.trans f2 (Sub.refl _ _)⟩
            rw [HN.out, HE.out, cells_snoc]
            exact h2
          clear h2 f2
          go_wp2_with fail
          go_roundw
          case rel => exact ⟨k + 1, by go_num, by omega, H2⟩
          case measure => simp [intOf]; omega
        | false =>
          have HE := Lib.hid (enc_three c hp)
          clear hp
          have HX := Lib.hid (hex_str c)
          have e1 : (c.toNat : Int) / 16 = ((c.toNat / 16 : Nat) : Int) := by omega
          have e2 := and_bits c
          have h1 : c.toNat / 16 < 16 := by have := c.toNat_lt; omega
          have h2 : c.toNat % 16 < 16 := by omega
          have HS2 := Lib.hid (congrArg Lib.byteCells HE.out)
          generalize c.toNat / 16 = hh at HX e1 h1
          generalize c.toNat % 16 = ll at HX e2 h2
          have e3 : IntKind.u8.wrap ((hh : Int) + 1) = ((hh + 1 : Nat) : Int) := by rw [IntKind.wrap_u8]; omega
          have e4 : IntKind.u8.wrap ((ll : Int) + 1) = ((ll + 1 : Nat) : Int) := by rw [IntKind.wrap_u8]; omega
          have s1 := dig_slice hh h1
          have s2 := dig_slice ll h2
          have q1 := dig_size hh
          have q2 := dig_size ll
          have hs1 : (⟨#[37]⟩ : ByteArray).size = 1 := rfl
          have s3 := add_str ⟨#[37]⟩ (digT.extract hh (hh + 1)) (by omega)
          have s4 := add_str (⟨#[37]⟩ ++ digT.extract hh (hh + 1)) (digT.extract ll (ll + 1)) (by rw [ByteArray.size_append]; omega)
          have HQ : Hid ((⟨#[37]⟩ ++ digT.extract hh (hh + 1) ++ digT.extract ll (ll + 1) : ByteArray).size ≤ 33) := by unfold Hid; rw [ByteArray.size_append, ByteArray.size_append]; omega
          clear h1 h2 HE q1 q2 hs1
          go_wp2_with fail
          go_still_tail 14, (by kernel_rfl)
          generalize (⟨#[37]⟩ ++ digT.extract hh (hh + 1) ++ digT.extract ll (ll + 1) : ByteArray) = z at HQ HX
          change wpList _ _ _ _ _ wr.drew
          have HP2 : Hid (Bld w.heap.size (w.heap.size + 2) (Lib.byteCells ((s.take k).flatMap encB)) wr.drew ∧ Fr (BldF w.heap.size (w.heap.size + 2)) W1 wr.drew ∧ w.heap.size + 2 ≤ wr.drew.heap.size) := ⟨hP.out.1, hP.out.2.drew, HS.out⟩
          clear s1 s2 s3 s4 e1 e2 e3 e4 hcell hP HS
          revert HP2
          generalize wr.drew = wd
          intro HP2
          go_wp2_with fail
          refine (wstr_any _ _ _ z _ HP2.out.1 (by have := HL.out; have := HQ.out; omega) HP2.out.2.2).mono ?_
          rintro e w2 ⟨rfl, h2, f2⟩
          have H2 : Hid (Bld w.heap.size (w.heap.size + 2) (Lib.byteCells ((s.take (k + 1)).flatMap encB)) w2 ∧ Fr (BldF w.heap.size (w.heap.size + 2)) W1 w2) := by
            refine ⟨?_, HP2.out.2.1.trans f2 (Sub.refl _ _)⟩
            rw [HN.out]
            have e : Lib.byteCells ((s.take k).flatMap encB ++ encB c) = Lib.byteCells ((s.take k).flatMap encB) ++ Lib.strCells z := by
              rw [strCells_of HX.out, ← HS2.out]
              simp [Lib.byteCells]
            rw [e]
            exact h2
          clear h2 f2
          go_wp2_with fail
          go_roundw
          case rel => exact ⟨k + 1, by go_num, by omega, H2⟩
          case measure => simp [intOf]; omega
      · obtain rfl : k = s.length := by omega
        go_wp2_with fail
        refine (Tryd.Builder_String_any _ _ _ _ (hP.out.1.is (by omega)) (by have := hP.out.2.size; have := HF.out.2.2; omega)).mono ?_
        rintro e w2 ⟨rfl, b2⟩
        have HB2 := Lib.hid (Below.trans (HF.out.1.trans (hP.out.2.toBelow (B := w.heap.size) (by have := HF.out.2.2; omega) (fun k hk => by rcases hk with h | h <;> omega))) b2)
        clear b2
        go_wp2_with fail
        go_ret
        refine ⟨?_, HB2.out⟩
        rw [HW.out]
        rfl

end Go.Proofs.YtbikplckehbcnaaDoor
