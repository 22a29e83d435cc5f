/- awake of the statements of layer 6. -/
import Derived.Test.YtbikplckehbcnaaPlU
set_option linter.unusedVariables false
set_option linter.unusedSimpArgs false
namespace Go.Proofs.Ytbikplckehbcnaa
open Go Go.RowKit

def awA : PSt := ⟨8, fun _ => none, [], false, 0, 0, 0⟩
def awB : PSt := ⟨8, fun _ => none, [(3, fillS 97)], false, 1, 0, 0⟩
def awC : PSt := ⟨8, PSt.put (fun _ => none) (3, fillS 97), [], false, 2, 0, 0⟩
def awD : PSt := ⟨8, PSt.put (fun _ => none) (3, fillS 97), [(3, fillS 98)], false, 3, 0, 0⟩
def awE : PSt := ⟨8, PSt.put (fun _ => none) (3, fillS 97), [(3, fillS 98)], true, 3, 0, 1⟩
def awF : PSt := ⟨8, PSt.put (fun _ => none) (3, fillS 97), [], false, 3, 0, 1⟩
theorem aw0 : PSt.fresh 8 = awA := by unfold PSt.fresh awA; rw [show min (max (8 : Int) 1) 16384 = 8 by decide]
theorem aw1 : awA.write 3 (fillS 97) = (awB, 0) := by simp [PSt.write, PSt.rdy, PSt.act, awA, awB, fillS_size]
theorem aw2 : awB.sync = (awC, 0) := by simp [PSt.sync, PSt.rdy, PSt.act, awB, awC, PSt.puts]
theorem aw3 : awC.write 3 (fillS 98) = (awD, 0) := by simp [PSt.write, PSt.rdy, PSt.act, awC, awD, fillS_size]
theorem aw4 : awD.off = awE := by simp [PSt.off, awD, awE]
theorem aw5 : awE.read 3 = (ByteArray.empty, 10) := by simp [PSt.read, PSt.rdy, awE]
theorem aw6 : awE.on [0] = awF := by simp [PSt.on, awE, awF, PSt.onto, PSt.fated, PSt.fate]
theorem aw7 : awF.read 3 = (fillS 97, 0) := by simp [PSt.read, PSt.rdy, awF, PSt.last, PSt.put, fillS_size]
theorem aw8 : awF.write 3 ⟨#[115, 104, 111, 114, 116]⟩ = (awF, 1) := by simp [PSt.write, PSt.rdy, awF, ByteArray.size]

set_option maxRecDepth 100000 in
set_option maxHeartbeats 1000000 in
theorem awake_any (w : World) : Calls Try.prog 6 #[] w fun e w' => e = .returned (.bool true) ∧ Below w.heap.size w w' := by
  go_enter Try.func6, Try.ntmps6
  go_wp2_with fail
  refine (new_to _ 8 _ aw0).mono ?_
  rintro e w1 ⟨rfl, h1, b1⟩
  go_wp2_with fail
  refine (filled_to _ _ _ _ 97 h1).mono ?_
  rintro e w2 ⟨rfl, h2, b2⟩
  clear h1
  go_wp2_with fail
  refine (write_to _ _ _ _ _ 3 _ _ aw1 h2 (by decide) (by decide) (by rw [fillS_size]; omega)).mono ?_
  rintro e w3 ⟨rfl, h3, b3⟩
  clear h2
  go_wp2_with fail
  refine (sync_to _ _ _ _ _ _ aw2 h3 (by decide) (by decide)).mono ?_
  rintro e w4 ⟨rfl, h4, b4⟩
  clear h3
  go_wp2_with fail
  refine (filled_to _ _ _ _ 98 h4).mono ?_
  rintro e w5 ⟨rfl, h5, b5⟩
  clear h4
  go_wp2_with fail
  refine (write_to _ _ _ _ _ 3 _ _ aw3 h5 (by decide) (by decide) (by rw [fillS_size]; omega)).mono ?_
  rintro e w6 ⟨rfl, h6, b6⟩
  clear h5
  go_wp2_with fail
  refine (waits_is _ _ _ _ h6.choose_spec.1).mono ?_
  rintro e w' ⟨rfl, rfl⟩
  have hq : awD.queue.length = 1 := rfl
  rw [hq]
  clear hq
  go_wp2_with fail
  refine (off_to _ _ _ _ _ aw4 h6 (by decide)).mono ?_
  rintro e w7 ⟨rfl, h7, b7⟩
  clear h6
  go_wp2_with fail
  refine (read_to _ _ _ _ 3 _ _ aw5 h7 (by decide)).mono ?_
  rintro e w8 ⟨rfl, h8, b8⟩
  clear h7
  go_wp2_with fail
  refine (on_one_to _ _ _ _ _ 0 aw6 h8 (by decide)).mono ?_
  rintro e w9 ⟨rfl, h9, b9⟩
  clear h8
  go_wp2_with fail
  refine (read_to _ _ _ _ 3 _ _ aw7 h9 (by decide)).mono ?_
  rintro e w10 ⟨rfl, h10, b10⟩
  clear h9
  go_wp2_with fail
  refine (write_to _ _ _ _ _ 3 _ _ aw8 h10 (by decide) (by decide) (by decide)).mono ?_
  rintro e w11 ⟨rfl, h11, b11⟩
  clear h10
  go_wp2_with fail
  refine (filled_to _ _ _ _ 97 h11).mono ?_
  rintro e w12 ⟨rfl, h12, b12⟩
  clear h11
  go_wp2_with fail
  refine (acts_is _ _ _ _ h12.choose_spec.1).mono ?_
  rintro e w' ⟨rfl, rfl⟩
  rw [show awF.acts = 3 from rfl]
  go_wp2_with fail
  refine (life_is _ _ _ _ h12.choose_spec.1).mono ?_
  rintro e w' ⟨rfl, rfl⟩
  rw [show awF.life = 1 from rfl]
  go_wp2_with fail
  refine (sectors_is _ _ _ _ h12.choose_spec.1).mono ?_
  rintro e w' ⟨rfl, rfl⟩
  rw [show awF.count = 8 from rfl]
  go_wp2_with fail
  refine (down_is _ _ _ _ h12.choose_spec.1).mono ?_
  rintro e w' ⟨rfl, rfl⟩
  rw [show awF.down = false from rfl]
  go_wp2_with fail
  go_ret
  exact ⟨rfl, b1.trans (b2.trans (b3.trans (b4.trans (b5.trans (b6.trans (b7.trans (b8.trans (b9.trans (b10.trans (b11.trans b12))))))))))⟩

end Go.Proofs.Ytbikplckehbcnaa
