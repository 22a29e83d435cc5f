/- awake of the statements of layer 8. -/
import Derived.Test.YtbikplckehbcnaaDoorTo
set_option linter.unusedVariables false
set_option linter.unusedSimpArgs false
namespace Go.Proofs.YtbikplckehbcnaaDoor
open Go Go.RowKit

/-- One leaf of the call's own. -/
theorem leaves_one {w : World} {G : Nat → Prop} {n l : Int} {A : Option Addr} {c : Nat} {xs : List Slt} (hs : Slots w G A xs) (hn : (Lit.int .i64 n).wf = true) (hx : xs.length ≤ 4611686018427387904) (hG : ¬ G w.heap.size) :
    Leaves (w.alloc (.cells #[.int .i64 n, .int .i64 l, .slice A xs.length c] 27)) G (some ⟨w.heap.size, 0, none⟩) [⟨n, l, A, c, xs⟩] := by
  intro _
  have hb := Blk.new w 27 #[.int .i64 n, .int .i64 l, .slice A xs.length c]
  refine ⟨_, 0, rfl, hb.lt, hG, fun j m hm => ?_⟩
  match j, hm with
  | 0, hm =>
    obtain rfl : (⟨n, l, A, c, xs⟩ : LfM) = m := by simpa using hm
    exact ⟨hb.cell 0, hb.cell 1, hb.cell 2, hn, hx, hs.fr ((Fr.refl G w).alloc _)⟩

def pgX : List Slt := [(true, ⟨#[120]⟩)]
def pgA : List Slt := [(true, ⟨#[97]⟩)]
theorem goodX : goodP 7 pgX = true := by decide +kernel
theorem goodA : goodP 1 pgA = true := by decide +kernel
theorem sectX : (sectS 3 7 pgX).extract 240 248 = ⟨#[80, 65, 71, 69, 0, 0, 0, 3]⟩ := by decide +kernel
theorem sizeX (n : Int) : (sectS n 7 pgX).size = 256 := sectS_size (goodP_iff.1 goodX)
theorem sizeA (n : Int) : (sectS n 1 pgA).size = 256 := sectS_size (goodP_iff.1 goodA)

def twA : PSt := ⟨20, fun _ => none, [], false, 0, 0, 0⟩
def twS : Int → Option ByteArray := PSt.put (fun _ => none) (2, sectS 3 7 pgX)
def twB : PSt := ⟨20, PSt.put twS (7, sectS 3 7 pgX), [], false, 4, 0, 0⟩
theorem tw0 : PSt.fresh 20 = twA := by unfold PSt.fresh twA; rw [show min (max (20 : Int) 1) 16384 = 20 by decide]
theorem tw1 (A : Option Addr) (c : Nat) : twWrite false twA 0 2 2 (List.replicate 4 (0, [])) [⟨3, 7, A, c, pgX⟩] = (false, twB, [(0, []), (0, []), (0, []), (7, pgX)], 0) := by
  have h1 := sizeX 3
  have hg := goodX
  have hf : fitsP 4 [⟨3, 7, A, c, pgX⟩] = true := by simp [fitsP, hg]
  simp only [twWrite, tRdy, twA, List.length_replicate, hf, List.length_singleton]
  simp [wr1, wr2, layS, layW, PSt.write, PSt.rdy, PSt.act, PSt.sync, PSt.puts, h1, twB, twS, laidP]
theorem tw2 : twB.read 7 = (sectS 3 7 pgX, 0) := by
  have h1 := sizeX 3
  simp [PSt.read, PSt.rdy, twB, PSt.last, PSt.put, h1]

theorem tw3 (n : Nat) (hn : n < 4) : twA.read ((2 + 2 + n : Nat) : Int) = (PSt.zeros, 0) := by
  have h1 : ((2 + 2 + n : Nat) : Int) = 4 + (n : Int) := by omega
  have h2 : ¬ (20 : Int) ≤ 4 + (n : Int) := by omega
  have h3 : ¬ 4 + (n : Int) < 0 := by omega
  rw [h1]
  simp [PSt.read, PSt.rdy, twA, PSt.last, h2, h3]

/-- What Read leaves is a block of its own. -/
theorem Slots.up {w : World} {xs : List Slt} {A : Option Addr} {F : Nat → Prop} (h : Slots w F A xs) (k : Nat → Prop) (hk : ∀ j, j < w.heap.size → k j → F j) : Slots w k A xs := h.mono (fun j hj hj2 => hk j hj hj2)

set_option maxRecDepth 100000 in
set_option maxHeartbeats 2000000 in
theorem awakeT_any (w : World) : Calls Tryd.prog 9 #[] w fun e w' => e = .returned (.bool true) ∧ Below w.heap.size w w' := by
  go_enter Tryd.func9, Tryd.ntmps9
  go_wp2_with fail
  refine (new_to _ 20 _ tw0).mono ?_
  rintro e w1 ⟨rfl, h1, b1⟩
  go_wp2_with fail
  refine (open0_at w1 h1 2 2 4 (by omega) (by omega) (by decide) rfl (by decide) tw3).mono ?_
  rintro e w2 ⟨q, rfl, h2, b2⟩
  clear h1
  go_wp2_with fail
  refine (image_any _ 7 ⟨#[120]⟩ (by decide)).mono ?_
  rintro e w3 ⟨rfl, hs3, b3⟩
  have H2 := Lib.hid h2
  have HB2 := Lib.hid (b1.trans b2)
  have HB3 := Lib.hid (b3.alloc b3.size (.cells #[.int .i64 3, .int .i64 7, .slice (some ⟨w2.heap.size + 1, 0, none⟩) 1 1] 27))
  have HL3 := Lib.hid (leaves_one (n := 3) (l := 7) (c := 1) (hs3.mono (F' := fun k => w.heap.size ≤ k ∧ k < w2.heap.size) (fun _ _ h => h.2)) (by decide) (by decide) (by have := b3.size; omega))
  clear h2 hs3 b1 b2 b3
  go_wp2_with fail
  refine (twrite_to w2 _ H2.out HB3.out _ 1 _ HL3.out (by simp) (by omega) (by omega) (by simp) (by decide) (by decide) _ _ _ _ (tw1 _ _)).mono ?_
  rintro e w4 ⟨rfl, h4, b4⟩
  have H4 := Lib.hid h4
  have HB4 := Lib.hid (HB2.out.trans ((HB3.out.mono (by have := HB2.out.size; omega)).trans b4))
  clear h4 b4
  go_wp2_with fail
  refine (tread_ok w4 H4.out rfl 3 7 pgX rfl (by decide)).mono ?_
  rintro e w5 ⟨⟨A5, c5, rfl, hs5⟩, b5⟩
  have H5 := Lib.hid (H4.out.below b5)
  have HB5 := Lib.hid (HB4.out.trans (b5.mono HB4.out.size))
  clear b5 hs5
  have HP5 := Lib.hid ((H5.out.plate).alloc (.cells #[.int .i64 7, .slice A5 1 c5] 25))
  have HX5 := Lib.hid (Blk.new w5 25 #[.int .i64 7, .slice A5 1 c5])
  have HW5 := Lib.hid ((Below.refl w5.heap.size w5).alloc (Nat.le_refl _) (.cells #[.int .i64 7, .slice A5 1 c5] 25))
  go_wp2_with fail
  refine (pread_to _ _ _ _ 7 _ _ tw2 HP5.out (by decide)).mono ?_
  rintro e w6 ⟨rfl, b6⟩
  have hb6 := HW5.out.trans (b6.mono HW5.out.size)
  have H6 := Lib.hid (H5.out.below hb6)
  have HX6 := Lib.hid (HX5.out.below b6 HX5.out.lt)
  have HB6 := Lib.hid (HB5.out.trans (hb6.mono HB5.out.size))
  have HW6 := Lib.hid HX6.out.lt
  clear b6 hb6
  go_wp2_with fail
  refine (tread_ok w6 H6.out rfl 0 0 [] rfl (by decide)).mono ?_
  rintro e w7 ⟨⟨A7, c7, rfl, hs7⟩, b7⟩
  have H7 := Lib.hid ((H6.out.below b7).plate.alloc (.cells #[.int .i64 0, .slice A7 0 c7] 25))
  have HX7 := Lib.hid ((HX6.out.below b7 HX6.out.lt).alloc (.cells #[.int .i64 0, .slice A7 0 c7] 25))
  have HY7 := Lib.hid (Blk.new w7 25 #[.int .i64 0, .slice A7 0 c7])
  have HB7 := Lib.hid ((HB6.out.trans (b7.mono HB6.out.size)).alloc (HB6.out.trans (b7.mono HB6.out.size)).size (.cells #[.int .i64 0, .slice A7 0 c7] 25))
  have hx0 := HX7.out.cell 0
  have hx1 := HX7.out.cell 1
  have hy0 := HY7.out.cell 0
  have hy1 := HY7.out.cell 1
  simp only [List.getElem?_toArray] at hx0 hx1 hy0 hy1
  clear b7 hs7
  have hz1 : (sectS 3 7 pgX).size = 256 := sizeX 3
  have hz2 : ((sectS 3 7 pgX).extract 240 248).toList = [80, 65, 71, 69, 0, 0, 0, 3] := by rw [sectX, ByteArray.toList_eq]
  obtain ⟨F8, hF8, _⟩ := H7.out
  have HA := acts_is _ F8 _ twB hF8
  rw [show twB.acts = 4 from rfl] at HA
  have HAH := Lib.hid HA
  clear HA hF8
  go_wp2_with fail
  refine HAH.out.mono ?_
  rintro e w' ⟨rfl, rfl⟩
  go_wp2_with fail
  go_ret
  exact ⟨rfl, HB7.out⟩

end Go.Proofs.YtbikplckehbcnaaDoor
