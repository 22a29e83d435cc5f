/- great, awake of the statements of layer 23: the walks. -/
import Derived.Test.YtbikplckehbcnaaDoorTmY
import Derived.Test.YtbikplckehbcnaaDoorTmZ
set_option linter.unusedVariables false
set_option linter.unusedSimpArgs false
namespace Go.Proofs.YtbikplckehbcnaaDoor
open Go Go.RowKit

/-- Whether a step is more than is asked. -/
def greatP (s : StepP) : Bool := decide (4096 < s.call.data.length) || decide (100 < s.fates.length)

set_option maxRecDepth 100000 in
set_option maxHeartbeats 4000000 in
theorem great_any (s : StepP) (A : Option Addr) (c : Nat) (w : World) (hl : s.fates.length ≤ 4611686018427387904) (hd : s.call.data.length ≤ 4611686018427387904) :
    Calls Tryd.prog 30 #[.agg (stC s (.slice A s.fates.length c))] w fun e w' => e = .returned (.bool (greatP s)) ∧ Below w.heap.size w w' := by
  obtain ⟨k, cl, up, n, fs, ⟨ck, pg, sl, dt⟩⟩ := s
  have hl : fs.length ≤ 4611686018427387904 := hl
  have hd : dt.length ≤ 4611686018427387904 := hd
  have hsz : (ba dt).size = dt.length := rfl
  have HW : Hid (Below w.heap.size w (w.alloc (.cells #[.int .i64 k, .int .i64 cl, .bool up, .int .i64 n, .slice A fs.length c, .int .i64 ck, .int .i64 pg, .int .i64 sl, .string (ba dt)] 60))) := (Below.refl _ _).alloc (Nat.le_refl _) _
  show Calls _ _ #[.agg #[.int .i64 k, .int .i64 cl, .bool up, .int .i64 n, .slice A fs.length c, .int .i64 ck, .int .i64 pg, .int .i64 sl, .string (ba dt)]] w _
  by_cases h1 : 4096 < dt.length
  · have HG : Hid (greatP ⟨k, cl, up, n, fs, ⟨ck, pg, sl, dt⟩⟩ = true) := by simp [Hid, greatP, h1]
    rw [HG.out]
    have e1 : decide (4096 < (dt.length : Int)) = true := decide_eq_true (by omega)
    go_enter Tryd.func30, Tryd.ntmps30
    go_wp2_with fail
    go_ret
    exact ⟨rfl, HW.out⟩
  · have e1 : decide (4096 < (dt.length : Int)) = false := decide_eq_false (by omega)
    by_cases h2 : 100 < fs.length
    · have HG : Hid (greatP ⟨k, cl, up, n, fs, ⟨ck, pg, sl, dt⟩⟩ = true) := by simp [Hid, greatP, h2]
      rw [HG.out]
      have e2 : decide (100 < (fs.length : Int)) = true := decide_eq_true (by omega)
      go_enter Tryd.func30, Tryd.ntmps30
      go_wp2_with fail
      go_ret
      exact ⟨rfl, HW.out⟩
    · have HG : Hid (greatP ⟨k, cl, up, n, fs, ⟨ck, pg, sl, dt⟩⟩ = false) := by simp [Hid, greatP, h1, h2]
      rw [HG.out]
      have e2 : decide (100 < (fs.length : Int)) = false := decide_eq_false (by omega)
      go_enter Tryd.func30, Tryd.ntmps30
      go_wp2_with fail
      go_ret
      exact ⟨rfl, HW.out⟩

theorem aw2_st : StOk aw2S where
  k := by unfold inI aw2S; decide
  c := by unfold inI aw2S; decide
  n := by unfold inI aw2S; decide
  ck := by unfold inI aw2S; decide
  cp := by unfold inI aw2S; decide
  cs := by unfold inI aw2S; decide
  d := by decide
  f := by unfold inI aw2S; decide
  fl := by decide
theorem below_new {B : Nat} {w W : World} (h : Below B w W) (hB : B ≤ w.heap.size) (o : Obj) : Below B w (W.alloc o) := h.alloc (Nat.le_trans hB h.size) o

set_option maxRecDepth 100000 in
set_option maxHeartbeats 16000000 in
theorem awake_any (w : World) (hT : Tabs w) : Calls Tryd.prog 22 #[] w fun e w' => e = .returned (.bool true) ∧ Below w.heap.size w w' := by
  have h8 := hT.size
  have HT := Lib.hid hT
  clear hT
  go_enter Tryd.func22, Tryd.ntmps22
  go_wp2_with fail
  refine (parse_any aw1 (by decide) w HT.out).mono ?_
  rintro e w1 ⟨⟨v1, rfl, hO1⟩, b1⟩
  rw [aw1_ok] at hO1 ⊢
  have HB1 := Lib.hid b1
  obtain ⟨n1, A1, c1, rfl⟩ : ∃ n A c, v1 = .slice A n c := ⟨_, own_slice hO1⟩
  clear hO1 b1
  have hst : stC ((some aw1S).getD noStep) (.slice A1 n1 c1) = #[.int .i64 1, .int .i64 2, .bool false, .int .i64 0, .slice A1 n1 c1, .int .i64 3, .int .i64 3, .int .i64 0, .string ⟨#[97, 32, 98]⟩] := rfl
  rw [hst, show parE (some aw1S) = 0 from rfl]
  clear hst
  have B2 : Hid (Blk (w1.alloc (.cells #[.int .i64 1, .int .i64 2, .bool false, .int .i64 0, .slice A1 n1 c1, .int .i64 3, .int .i64 3, .int .i64 0, .string ⟨#[97, 32, 98]⟩] 60)) w1.heap.size 60 #[.int .i64 1, .int .i64 2, .bool false, .int .i64 0, .slice A1 n1 c1, .int .i64 3, .int .i64 3, .int .i64 0, .string ⟨#[97, 32, 98]⟩]) := Blk.new _ _ _
  have W2 := Lib.hid (HB1.out.alloc HB1.out.size (.cells #[.int .i64 1, .int .i64 2, .bool false, .int .i64 0, .slice A1 n1 c1, .int .i64 3, .int .i64 3, .int .i64 0, .string ⟨#[97, 32, 98]⟩] 60))
  go_upto_region 2 with fail
  revert B2 W2
  generalize w1.alloc (.cells #[.int .i64 1, .int .i64 2, .bool false, .int .i64 0, .slice A1 n1 c1, .int .i64 3, .int .i64 3, .int .i64 0, .string ⟨#[97, 32, 98]⟩] 60) = W
  generalize w1.heap.size = bx
  intro B2 W2
  go_wp2_with fail
  have hI3 : Ints (W.alloc (.cells #[.int .i64 1, .int .i64 2] 3)) (.slice (some ⟨W.heap.size, 0, none⟩) 2 2) aw2S.fates := by
    have hb := Blk.new W 3 #[.int .i64 1, .int .i64 2]
    exact ⟨_, 2, rfl, fun _ => ⟨W.heap.size, 0, rfl, hb.lt, fun j x hj => by
      match j, hj with
      | 0, hj => obtain rfl : 1 = x := by simpa [aw2S] using hj
                 exact hb.cell 0
      | 1, hj => obtain rfl : 2 = x := by simpa [aw2S] using hj
                 exact hb.cell 1⟩⟩
  have W3 := Lib.hid (W2.out.alloc W2.out.size (.cells #[.int .i64 1, .int .i64 2] 3))
  refine (print_any aw2S (.slice (some ⟨W.heap.size, 0, none⟩) 2 2) _ (HT.out.below h8 W3.out) hI3 aw2_st (by decide +kernel)).mono ?_
  rintro e w4 ⟨rfl, b4⟩
  rw [aw2_ok, show priE (some aw2) = 0 from rfl, show (some aw2).getD [] = aw2 from rfl]
  have W4 := Lib.hid (W3.out.trans (b4.mono W3.out.size))
  have B4 := Lib.hid ((B2.out.alloc (.cells #[.int .i64 1, .int .i64 2] 3)).below b4 (B2.out.alloc (.cells #[.int .i64 1, .int .i64 2] 3)).lt)
  clear hI3 b4
  go_wp2_with fail
  refine (script_any aw3 w4 (HT.out.below h8 W4.out) (by decide)).mono ?_
  rintro e w5 ⟨⟨v5, rfl, hS⟩, b5⟩
  rw [aw3_ok] at hS ⊢
  have W5 := Lib.hid (W4.out.trans (b5.mono W4.out.size))
  have B5 := Lib.hid (B4.out.below b5 B4.out.lt)
  obtain ⟨ps, hps, hS, _⟩ := hS
  have hlen : ps.length = 2 := by have := congrArg List.length hps; simpa using this
  rw [hlen] at hS
  obtain ⟨A5, c5, rfl⟩ := own_slice hS
  clear hS hps hlen b5
  have x1 := B5.out.cell 1
  have x5 := B5.out.cell 5
  have x6 := B5.out.cell 6
  have x7 := B5.out.cell 7
  have x8 := B5.out.cell 8
  simp only [List.getElem?_toArray] at x1 x5 x6 x7 x8
  have e2 : ((ba aw2).toList == (⟨#[115, 116, 97, 114, 116, 32, 48, 32, 48, 32, 49, 32, 50]⟩ : ByteArray).toList) = true := by rw [ByteArray.toList_eq, ByteArray.toList_eq]; decide +kernel
  have e3 : ((ba aw2).toList == [115, 116, 97, 114, 116, 32, 48, 32, 48, 32, 49, 32, 50]) = true := by rw [ByteArray.toList_eq]; decide +kernel
  go_upto_region 4 with fail
  go_wp2_with fail
  have hwd : Calls Tryd.prog 32 #[.string ⟨#[]⟩] w5 fun e w' => e = .returned (.string ⟨#[37]⟩) ∧ Below w5.heap.size w5 w' := word_any [] (by decide) w5
  refine hwd.mono ?_
  rintro e w6 ⟨rfl, b6⟩
  have W6 := Lib.hid (W5.out.trans (b6.mono W5.out.size))
  clear hwd b6
  go_wp2_with fail
  go_ret
  exact ⟨rfl, W6.out⟩

end Go.Proofs.YtbikplckehbcnaaDoor
