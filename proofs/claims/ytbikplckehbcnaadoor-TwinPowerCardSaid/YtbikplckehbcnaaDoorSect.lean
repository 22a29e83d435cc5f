/- twin.sector: a page's sector. -/
import Derived.Test.YtbikplckehbcnaaDoorEnc
set_option linter.unusedVariables false
set_option linter.unusedSimpArgs false
namespace Go.Proofs.YtbikplckehbcnaaDoor
open Go Go.RowKit

def pageT : ByteArray := ⟨#[80, 65, 71, 69]⟩
/-- A page's sector. -/
def sectS (n : Int) (l : Int) (xs : List Slt) : ByteArray := ((encS l xs ++ pageT) ++ strOfNums (putB (IntKind.u64.wrap n) 4)) ++ strOfNums (putB 0 8)
theorem sectS_size {n l : Int} {xs : List Slt} (h : GoodP l xs) : (sectS n l xs).size = 256 := by
  unfold sectS
  rw [ByteArray.size_append, ByteArray.size_append, ByteArray.size_append, encS_size h, strOfNums_size, strOfNums_size, putB_length, putB_length]
  rfl

set_option maxRecDepth 100000 in
set_option maxHeartbeats 2000000 in
theorem sect_any (w : World) (F : Nat → Prop) (n l : Int) (A : Option Addr) (c : Nat) (xs : List Slt) (hx : Slots w F A xs) (hg : goodP l xs = true) :
    Calls Tryd.prog 76 #[.int .i64 n, .agg #[.int .i64 l, .slice A xs.length c]] w fun e w' => e = .returned (.string (sectS n l xs)) ∧ Below w.heap.size w w' := by
  have HX := Lib.hid hx
  have HG := Lib.hid hg
  have HP := Lib.hid (goodP_iff.1 hg)
  have hes : (encS l xs).size = 240 := encS_size HP.out
  have HB : Hid (Below w.heap.size w (w.alloc (.cells #[.int .i64 l, .slice A xs.length c] 25))) := (Below.refl _ _).alloc (Nat.le_refl _) _
  have HPUT : Hid (∀ W : World, Calls Tryd.prog 109 #[.int .u64 (IntKind.u64.wrap n), .int .i64 4] W fun e w' => e = .returned (.string (strOfNums (putB (IntKind.u64.wrap n) 4))) ∧ Below W.heap.size W w') := fun W => put_any W _ 4 (by omega)
  have HPUT0 : Hid (∀ W : World, Calls Tryd.prog 109 #[.int .u64 0, .int .i64 8] W fun e w' => e = .returned (.string (strOfNums (putB 0 8))) ∧ Below W.heap.size W w') := fun W => put_any W _ 8 (by omega)
  have hs4 : (strOfNums (putB (IntKind.u64.wrap n) 4)).size = 4 := by rw [strOfNums_size, putB_length]
  have hs8 : (strOfNums (putB 0 8)).size = 8 := by rw [strOfNums_size, putB_length]
  have HS : Hid (sectS n l xs = ((encS l xs ++ ⟨#[80, 65, 71, 69]⟩) ++ strOfNums (putB (IntKind.u64.wrap n) 4)) ++ strOfNums (putB 0 8)) := rfl
  have HENC : Hid (∀ W : World, Slots W F A xs → Calls Tryd.prog 108 #[.agg #[.int .i64 l, .slice A xs.length c]] W fun e w' => e = .returned (.tuple #[.string (encS l xs), .int .i64 0]) ∧ Below W.heap.size W w') := fun W h => enc_any W F l A c xs h HG.out
  revert HPUT HPUT0 hs4 hs8 HS hes HENC
  generalize strOfNums (putB (IntKind.u64.wrap n) 4) = s4
  generalize strOfNums (putB 0 8) = s8
  generalize encS l xs = es
  intro hes HPUT HPUT0 hs4 hs8 HS HENC
  have hz1 : (es ++ (⟨#[80, 65, 71, 69]⟩ : ByteArray)).size = 244 := by rw [ByteArray.size_append, hes]; rfl
  have hz2 : ((es ++ (⟨#[80, 65, 71, 69]⟩ : ByteArray)) ++ s4).size = 248 := by rw [ByteArray.size_append, hz1, hs4]
  clear hx hg
  go_enter Tryd.func76, Tryd.ntmps76
  go_wp2_with fail
  refine (HENC.out _ (HX.out.fr ((Fr.refl F w).alloc _))).mono ?_
  rintro e w1 ⟨rfl, b1⟩
  go_wp2_with fail
  refine (HPUT.out _).mono ?_
  rintro e w2 ⟨rfl, b2⟩
  go_wp2_with fail
  refine (HPUT0.out _).mono ?_
  rintro e w3 ⟨rfl, b3⟩
  go_wp2_with fail
  go_ret
  have h1 : Below w.heap.size w w1 := HB.out.trans (b1.mono HB.out.size)
  have h2 := h1.trans (b2.mono h1.size)
  exact ⟨(congrArg (fun b => Ending.returned (Value.string b)) HS.out).symm, h2.trans (b3.mono h2.size)⟩

end Go.Proofs.YtbikplckehbcnaaDoor
