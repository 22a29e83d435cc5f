/- tome.kindOf, tome.wordOf: the walks. -/
import Derived.Test.YtbikplckehbcnaaDoorTmR
import Derived.Lib.SlicesS
set_option linter.unusedVariables false
set_option linter.unusedSimpArgs false
namespace Go.Proofs.YtbikplckehbcnaaDoor
open Go Go.RowKit

/-- client move drop twice tick crash start notice check calm -/
def stepT : ByteArray := ⟨#[99, 108, 105, 101, 110, 116, 32, 109, 111, 118, 101, 32, 100, 114, 111, 112, 32, 116, 119, 105, 99, 101, 32, 116, 105, 99, 107, 32, 99, 114, 97, 115, 104, 32, 115, 116, 97, 114, 116, 32, 110, 111, 116, 105, 99, 101, 32, 99, 104, 101, 99, 107, 32, 99, 97, 108, 109]⟩
/-- begin read insert update delete save back commit rollback -/
def callT : ByteArray := ⟨#[98, 101, 103, 105, 110, 32, 114, 101, 97, 100, 32, 105, 110, 115, 101, 114, 116, 32, 117, 112, 100, 97, 116, 101, 32, 100, 101, 108, 101, 116, 101, 32, 115, 97, 118, 101, 32, 98, 97, 99, 107, 32, 99, 111, 109, 109, 105, 116, 32, 114, 111, 108, 108, 98, 97, 99, 107]⟩
theorem stepT_fields : Lib.fields stepT.data.toList = stepW := by decide +kernel
theorem callT_fields : Lib.fields callT.data.toList = callW := by decide +kernel

theorem idx_kind (w : Bs) : ∀ (l : List Bs) (i : Nat), Lib.idxFromS (l.map ba) (ba w) i = if kindP l w = 0 then -1 else (i : Int) + (kindP l w : Int) - 1
  | [], i => by simp [Lib.idxFromS, kindP]
  | x :: l, i => by
    have ih := idx_kind w l (i + 1)
    simp only [List.map_cons, Lib.idxFromS]
    by_cases hx : x = w
    · subst hx
      simp [kindP]
    · have h1 : ¬ ba x = ba w := fun e => hx (ba_inj e)
      have h2 : (x == w) = false := by simpa using hx
      unfold kindP
      rw [if_neg (by simpa using h1), ih, h2]
      simp only [Bool.false_eq_true, if_false]
      cases hk : kindP l w with
      | zero => simp
      | succ k => simp; omega

/-- The words of a text that is all letters and blanks. -/
structure IsWords (T : ByteArray) (l : List Bs) : Prop where
  fields : Lib.fields T.data.toList = l
  ascii : ∀ (j : Nat) b, T.data.toList[j]? = some b → b.toNat < 128
  small : T.size ≤ 1000
  few : l.length ≤ 1000
  some : 0 < l.length
theorem ascii_all {T : ByteArray} (h : T.data.toList.all (fun b => decide (b.toNat < 128)) = true) (j : Nat) (b : UInt8) (hb : T.data.toList[j]? = some b) : b.toNat < 128 := by
  have := List.all_eq_true.1 h b (List.mem_of_getElem? hb)
  simpa using this
theorem stepT_is : IsWords stepT stepW := ⟨stepT_fields, ascii_all (by decide +kernel), by decide, by decide, by decide⟩
theorem callT_is : IsWords callT callW := ⟨callT_fields, ascii_all (by decide +kernel), by decide, by decide, by decide⟩

theorem fields_any {T : ByteArray} {l : List Bs} (hl : IsWords T l) (w : World) (hT : Tabs w) :
    Calls Tryd.prog 81 #[.string T] w fun e w' => e = .returned (.slice (some ⟨w.heap.size, 0, none⟩) l.length l.length) ∧ w' = w.alloc (.cells (l.map fun x => Value.string (ba x)).toArray 9) := by
  have := Tryd.strings_Fields T w (by have := hl.small; omega) hl.ascii hT.sp
  rw [hl.fields] at this
  exact this

set_option maxRecDepth 100000 in
theorem kindOf_any {T : ByteArray} {l : List Bs} (hl : IsWords T l) (x : Bs) (w : World) (hT : Tabs w) :
    Calls Tryd.prog 48 #[.string T, .string (ba x)] w fun e w' => e = .returned (.int .i64 (kindP l x : Int)) ∧ Below w.heap.size w w' := by
  have HL := Lib.hid hl
  have HT := Lib.hid hT
  have hk := kindP_le l x
  have hf := hl.few
  have HI := Lib.hid (idx_kind x l 0)
  clear hl hT
  go_enter Tryd.func48, Tryd.ntmps48
  go_wp2_with fail
  refine (fields_any HL.out _ HT.out).mono ?_
  rintro e w1 ⟨rfl, rfl⟩
  go_wp2_with fail
  have HB := Lib.hid (Blk.new w 9 (l.map fun x => Value.string (ba x)).toArray)
  refine (Tryd.slices_Index_string w.heap.size 0 l.length l.length (l.map ba) (ba x) _ (by simp) (by omega) (fun j hj => ?_)).mono ?_
  · rw [Nat.zero_add, HB.out.cell j]
    have hj' : j < l.length := by simpa using hj
    simp [List.getD, hj']
  rintro e w2 ⟨rfl, rfl⟩
  have HX : Hid (Lib.idxOfS ((l.map ba).take l.length) (ba x) = (kindP l x : Int) - 1) := by
    unfold Hid Lib.idxOfS
    rw [List.take_of_length_le (by simp), HI.out]
    split <;> omega
  rw [HX.out]
  go_wp2_with fail
  go_ret
  exact ⟨rfl, (Below.refl _ _).alloc (Nat.le_refl _) _⟩

set_option maxRecDepth 100000 in
theorem wordOf_any {T : ByteArray} {l : List Bs} (hl : IsWords T l) (k : Int) (h0 : -9223372036854775808 ≤ k) (h1 : k ≤ 9223372036854775807) (w : World) (hT : Tabs w) :
    Calls Tryd.prog 93 #[.string T, .int .i64 k] w fun e w' => e = .returned (.string (ba (wordAt l k))) ∧ Below w.heap.size w w' := by
  have HL := Lib.hid hl
  have HT := Lib.hid hT
  have hf := hl.few
  have hs := hl.some
  clear hl hT
  go_enter Tryd.func93, Tryd.ntmps93
  go_wp2_with fail
  refine (fields_any HL.out _ HT.out).mono ?_
  rintro e w1 ⟨rfl, rfl⟩
  have HB := Lib.hid (Blk.new w 9 (l.map fun x => Value.string (ba x)).toArray)
  by_cases hk : 1 ≤ k ∧ k ≤ l.length
  · obtain ⟨n, rfl⟩ : ∃ n : Nat, k = (n : Int) + 1 := ⟨(k - 1).toNat, by omega⟩
    have hn : n < l.length := by omega
    have hc := HB.out.cell n
    have hx : l[n]? = some (wordAt l ((n : Int) + 1)) := by
      unfold wordAt
      rw [if_neg (by omega), show ((n : Int) + 1 - 1).toNat = n by omega, List.getD, List.getElem?_eq_getElem hn]
      rfl
    rw [List.getElem?_toArray, List.getElem?_map, hx] at hc
    simp only [Option.map_some] at hc
    obtain ⟨y, hy⟩ : ∃ y, wordAt l ((n : Int) + 1) = y := ⟨_, rfl⟩
    rw [hy] at hc
    have HY := Lib.hid hy
    clear hy
    clear hx hk h0 h1
    go_wp2_with fail
    go_ret
    rw [HY.out]
    exact ⟨rfl, (Below.refl _ _).alloc (Nat.le_refl _) _⟩
  · have HX : Hid (wordAt l k = []) := by
      unfold Hid wordAt
      split
      · rfl
      · rw [List.getD, List.getElem?_eq_none (by omega)]; rfl
    have hk' : k < 1 ∨ (l.length : Int) < k := by omega
    clear hk h0 h1
    rcases hk' with hk | hk
    all_goals
      go_wp2_with fail
      go_ret
      rw [HX.out]
      exact ⟨rfl, (Below.refl _ _).alloc (Nat.le_refl _) _⟩

end Go.Proofs.YtbikplckehbcnaaDoor
