/- TomeWords: the walk. -/
import Derived.Test.YtbikplckehbcnaaDoorTmA
set_option linter.unusedVariables false
set_option linter.unusedSimpArgs false
namespace Go.Proofs.YtbikplckehbcnaaDoor
open Go Go.RowKit

theorem flat_ge : ∀ s : Bs, s.length ≤ (s.flatMap encB).length
  | [] => by simp
  | c :: t => by
    rw [List.flatMap_cons, List.length_append, List.length_cons]
    have := flat_ge t
    have : 0 < (encB c).length := List.length_pos_iff.2 (enc_pos c)
    omega
theorem word_ge (s : Bs) : s.length ≤ (wordP s).length := by
  unfold wordP
  split
  · rename_i h
    rw [List.isEmpty_iff.1 h]
    simp
  · exact flat_ge s
theorem text_len {x y : Bs} (h : textP x = some y) {n : Nat} (hn : x.length ≤ n) : y.length ≤ n := by
  have := text_iff.1 h
  have hl := word_ge y
  rw [this] at hl
  omega

/-- The law's answer. -/
def TruePost (w : World) (e : Ending) (w' : World) : Prop := e = .returned (.bool true) ∧ Below w.heap.size w w'

set_option maxRecDepth 100000 in
set_option maxHeartbeats 16000000 in
theorem words_main (s t x : Bs) (w : World) (hT : Tabs w) (h1 : s.length ≤ 8192) (h2 : t.length ≤ 8192) (h3 : x.length ≤ 8192) :
    Calls Tryd.prog 8 #[.string (ba s), .string (ba t), .string (ba x)] w (TruePost w) := by
  have h8 := hT.size
  have HT := Lib.hid hT
  clear hT
  have z1 : (ba s).size = s.length := rfl
  have z2 : (ba t).size = t.length := rfl
  have z3 : (ba x).size = x.length := rfl
  have e1 : decide (8192 < (s.length : Int)) = false := decide_eq_false (by omega)
  have e2 : decide (8192 < (t.length : Int)) = false := decide_eq_false (by omega)
  have e3 : decide (8192 < (x.length : Int)) = false := decide_eq_false (by omega)
  have HW := Lib.hid (word_len s)
  have HWT := Lib.hid (text_word s)
  have HIN := Lib.hid (fun c (h : c ∈ wordP s) => word_in h)
  have HNE := Lib.hid (word_ne s)
  have HINJ : Hid (s = t ↔ wordP s = wordP t) := ⟨fun h => by rw [h], word_inj⟩
  go_enter Tryd.func8, Tryd.ntmps8
  go_wp2_with fail
  refine (awake_any w HT.out).mono ?_
  rintro e w1 ⟨rfl, b1⟩
  have W1 := Lib.hid b1
  clear b1
  go_wp2_with fail
  refine (word_any s (by omega) w1).mono ?_
  rintro e w2 ⟨rfl, b2⟩
  have W2 := Lib.hid (W1.out.trans (b2.mono W1.out.size))
  obtain ⟨ws, hws⟩ : ∃ ws, wordP s = ws := ⟨_, rfl⟩
  rw [hws] at HW HWT HIN HNE HINJ ⊢
  clear b2 hws
  have zw : (ba ws).size = ws.length := rfl
  have hwl := HW.out
  have hwe : (ba ws).toList.isEmpty = false := by
    rw [ByteArray.toList_eq]
    cases h : (ba ws).data.toList with
    | nil => exact absurd h HNE.out
    | cons a l => rfl
  go_wp2_with fail
  refine (text_any ws (by omega) w2 (HT.out.below h8 W2.out)).mono ?_
  rw [HWT.out]
  rintro e w3 ⟨rfl, b3⟩
  rw [show (some s).getD [] = s from rfl, show textE (some s) = 0 from rfl]
  have W3 := Lib.hid (W2.out.trans (b3.mono W2.out.size))
  clear b3
  go_wp2_with fail
  refine (word_any t (by omega) w3).mono ?_
  rintro e w4 ⟨rfl, b4⟩
  have W4 := Lib.hid (W3.out.trans (b4.mono W3.out.size))
  obtain ⟨wt, hwt⟩ : ∃ wt, wordP t = wt := ⟨_, rfl⟩
  rw [hwt] at HINJ ⊢
  clear b4 hwt
  have hst : ∃ b : Bool, ((ba s).toList == (ba t).toList) = b ∧ ((ba ws).toList == (ba wt).toList) = b := by
    rw [ByteArray.toList_eq, ByteArray.toList_eq, ByteArray.toList_eq, ByteArray.toList_eq]
    show ∃ b, (s == t) = b ∧ (ws == wt) = b
    by_cases h : s = t
    · exact ⟨true, by simp [h], by simp [HINJ.out.1 h]⟩
    · exact ⟨false, by simp [h], by simp; exact fun e => h (HINJ.out.2 e)⟩
  obtain ⟨b, hb1, hb2⟩ := hst
  go_wp2_with fail
  clear hb1 hb2 hwe HINJ
  have h8 := h8
  go_loopw [6, 10] (fun v6 vi wr => v6 = .bool false ∧ ∃ i : Nat, vi = .int .i64 i ∧ i ≤ ws.length ∧ Below w.heap.size w wr) (fun _ vi _ => ws.length - (intOf vi).toNat)
  case atStart => exact ⟨rfl, 0, rfl, Nat.zero_le _, W4.out⟩
  case round =>
    obtain ⟨rfl, i, rfl, hile, hb⟩ := hrel
    have WR := Lib.hid hb
    clear hb
    by_cases hlt : i < ws.length
    · obtain ⟨c, hc⟩ : ∃ c, ws[i]? = some c := ⟨_, List.getElem?_eq_getElem hlt⟩
      have hin := HIN.out c (List.mem_of_getElem? hc)
      have hget : (ba ws)[i]'(by rw [zw]; exact hlt) = c := byte_get hc (by rw [zw]; exact hlt)
      clear hc
      obtain ⟨hc1, hc2⟩ := hin
      have d1 : decide ((c.toNat : Int) ≤ 32) = false := decide_eq_false (by omega)
      have d2 : decide (127 ≤ (c.toNat : Int)) = false := decide_eq_false (by omega)
      go_wp2_with fail
      exact ⟨⟨rfl, i + 1, by simp, by omega, WR.out⟩, by simp [intOf]; omega⟩
    · go_wp2_with fail
      have hp3 := text_any x (by omega) wr (HT.out.below h8 WR.out)
      refine hp3.mono ?_
      rintro e w5 ⟨rfl, b5⟩
      have W5 := Lib.hid (WR.out.trans (b5.mono WR.out.size))
      clear b5 hp3
      cases hx : textP x with
      | none =>
        rw [show (none : Option Bs).getD [] = [] from rfl, show textE none = 4 from rfl]
        clear hx
        have he : (ba []).toList.isEmpty = true := by rw [ByteArray.toList_eq]; rfl
        go_wp2_with fail
        go_ret
        exact ⟨rfl, W5.out⟩
      | some y =>
        rw [show (some y).getD [] = y from rfl, show textE (some y) = 0 from rfl]
        have hy : wordP y = x := text_iff.1 hx
        have hyl : y.length ≤ 8192 := text_len hx h3
        clear hx
        go_wp2_with fail
        refine (word_any y (by omega) w5).mono ?_
        rw [hy]
        rintro e w6 ⟨rfl, b6⟩
        have W6 := Lib.hid (W5.out.trans (b6.mono W5.out.size))
        clear b6 hy
        go_wp2_with fail
        go_ret
        exact ⟨rfl, W6.out⟩

set_option maxRecDepth 100000 in
set_option maxHeartbeats 16000000 in
theorem words_any (s t x : Bs) (w : World) (hT : Tabs w) : Calls Tryd.prog 8 #[.string (ba s), .string (ba t), .string (ba x)] w (TruePost w) := by
  by_cases h1 : s.length ≤ 8192
  · by_cases h2 : t.length ≤ 8192
    · by_cases h3 : x.length ≤ 8192
      · exact words_main s t x w hT h1 h2 h3
      · have z1 : (ba s).size = s.length := rfl
        have z2 : (ba t).size = t.length := rfl
        have z3 : (ba x).size = x.length := rfl
        have ds : decide (8192 < (s.length : Int)) = false := decide_eq_false (by omega)
        have dt : decide (8192 < (t.length : Int)) = false := decide_eq_false (by omega)
        have dx : decide (8192 < (x.length : Int)) = true := decide_eq_true (by omega)
        go_enter Tryd.func8, Tryd.ntmps8
        go_wp2_with fail
        refine (awake_any w hT).mono ?_
        rintro e w1 ⟨rfl, b1⟩
        go_wp2_with fail
        go_ret
        exact ⟨rfl, b1⟩
    · have z1 : (ba s).size = s.length := rfl
      have z2 : (ba t).size = t.length := rfl
      have z3 : (ba x).size = x.length := rfl
      have ds : decide (8192 < (s.length : Int)) = false := decide_eq_false (by omega)
      have dt : decide (8192 < (t.length : Int)) = true := decide_eq_true (by omega)
      go_enter Tryd.func8, Tryd.ntmps8
      go_wp2_with fail
      refine (awake_any w hT).mono ?_
      rintro e w1 ⟨rfl, b1⟩
      go_wp2_with fail
      go_ret
      exact ⟨rfl, b1⟩
  · have z1 : (ba s).size = s.length := rfl
    have z2 : (ba t).size = t.length := rfl
    have z3 : (ba x).size = x.length := rfl
    have ds : decide (8192 < (s.length : Int)) = true := decide_eq_true (by omega)
    go_enter Tryd.func8, Tryd.ntmps8
    go_wp2_with fail
    refine (awake_any w hT).mono ?_
    rintro e w1 ⟨rfl, b1⟩
    go_wp2_with fail
    go_ret
    exact ⟨rfl, b1⟩

end Go.Proofs.YtbikplckehbcnaaDoor
