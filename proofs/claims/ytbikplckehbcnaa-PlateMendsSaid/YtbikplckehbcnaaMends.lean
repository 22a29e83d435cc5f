/- PlateMends: a torn sector can be read as soon as it is written again; all others are as they were: the walk. -/
import Derived.Test.YtbikplckehbcnaaPlV
set_option linter.unusedVariables false
set_option linter.unusedSimpArgs false
namespace Go.Proofs.Ytbikplckehbcnaa
open Go Go.RowKit

section
variable (m a b : Int)
def meA : PSt := ⟨32, fun _ => none, [], false, 0, 0, 0⟩
def meB : PSt := ⟨32, fun _ => none, [(0, fillS a)], false, 1, 0, 0⟩
def meC : PSt := ⟨32, fun _ => none, [(0, fillS a), (m, fillS a)], false, 2, 0, 0⟩
def meS : Int → Option ByteArray := PSt.put (PSt.put (fun _ => none) (0, fillS a)) (m, fillS a)
def meD : PSt := ⟨32, meS m a, [], false, 3, 0, 0⟩
def meE : PSt := ⟨32, meS m a, [(m, fillS b)], false, 4, 0, 0⟩
def meF : PSt := ⟨32, meS m a, [(m, fillS b)], true, 4, 0, 1⟩
def meT : Int → Option ByteArray := PSt.put (meS m a) (m, ByteArray.empty)
def meG : PSt := ⟨32, meT m a, [], false, 4, 0, 1⟩
def meH : PSt := ⟨32, meT m a, [(m, fillS b)], false, 5, 0, 1⟩
def meU : Int → Option ByteArray := PSt.put (meT m a) (m, fillS b)
def meI : PSt := ⟨32, meU m a b, [], false, 6, 0, 1⟩
def meJ : PSt := ⟨32, meU m a b, [], true, 6, 0, 2⟩
def meK : PSt := ⟨32, meU m a b, [], false, 6, 0, 2⟩
theorem me0 : PSt.fresh 32 = meA := by unfold PSt.fresh meA; rw [show min (max (32 : Int) 1) 16384 = 32 by decide]
theorem me1 : meA.write 0 (fillS a) = (meB a, 0) := by simp [PSt.write, PSt.rdy, PSt.act, meA, meB, fillS_size]
variable {m} (h1 : 1 ≤ m) (h2 : m ≤ 30)
include h1 h2
theorem me2 : (meB a).write m (fillS a) = (meC m a, 0) := by
  have e1 : ¬ m < 0 := by omega
  have e2 : ¬ 32 ≤ m := by omega
  simp [PSt.write, PSt.rdy, PSt.act, meB, meC, fillS_size, e1, e2]
omit h1 h2 in
theorem me3 : (meC m a).sync = (meD m a, 0) := by simp [PSt.sync, PSt.rdy, PSt.act, meC, meD, PSt.puts, meS]
theorem me4 : (meD m a).write m (fillS b) = (meE m a b, 0) := by
  have e1 : ¬ m < 0 := by omega
  have e2 : ¬ 32 ≤ m := by omega
  simp [PSt.write, PSt.rdy, PSt.act, meD, meE, fillS_size, e1, e2]
omit h1 h2 in
theorem me5 : (meE m a b).off = meF m a b := by simp [PSt.off, meE, meF]
omit h1 h2 in
theorem me6 : (meF m a b).on [2] = meG m a := by
  have : Int.tmod 2 3 = 2 := by decide
  simp [PSt.on, meF, meG, PSt.onto, PSt.fated, PSt.fate, meT, this]
theorem me7 : (meG m a).read m = (ByteArray.empty, 20) := by
  have e1 : ¬ m < 0 := by omega
  have e2 : ¬ 32 ≤ m := by omega
  simp [PSt.read, PSt.rdy, meG, PSt.last, meT, PSt.put, e1, e2]
theorem me8 : (meG m a).write m (fillS b) = (meH m a b, 0) := by
  have e1 : ¬ m < 0 := by omega
  have e2 : ¬ 32 ≤ m := by omega
  simp [PSt.write, PSt.rdy, PSt.act, meG, meH, fillS_size, e1, e2]
theorem me9 : (meH m a b).read m = (fillS b, 0) := by
  have e1 : ¬ m < 0 := by omega
  have e2 : ¬ 32 ≤ m := by omega
  simp [PSt.read, PSt.rdy, meH, PSt.last, e1, e2]
omit h1 h2 in
theorem me10 : (meH m a b).sync = (meI m a b, 0) := by simp [PSt.sync, PSt.rdy, PSt.act, meH, meI, PSt.puts, meU]
omit h1 h2 in
theorem me11 : (meI m a b).off = meJ m a b := by simp [PSt.off, meI, meJ]
omit h1 h2 in
theorem me12 : (meJ m a b).on [] = meK m a b := by simp [PSt.on, meJ, meK, PSt.onto]
theorem me13 : (meK m a b).read m = (fillS b, 0) := by
  have e1 : ¬ m < 0 := by omega
  have e2 : ¬ 32 ≤ m := by omega
  simp [PSt.read, PSt.rdy, meK, PSt.last, meU, PSt.put, e1, e2, fillS_size]
theorem me14 : (meK m a b).read 0 = (fillS a, 0) := by
  have e1 : ¬ (0 : Int) = m := by omega
  simp [PSt.read, PSt.rdy, meK, PSt.last, meU, meT, meS, PSt.put, e1, fillS_size]
end

set_option maxRecDepth 100000 in
set_option maxHeartbeats 2000000 in
theorem mends_any (w : World) (n a b : Int) :
    Calls Try.prog 3 #[.int .i64 n, .int .u8 a, .int .u8 b] w fun e w' => e = .returned (.bool true) ∧ Below w.heap.size w w' := by
  obtain ⟨u1, u2, u3⟩ := umod n 30 (by omega) (by omega)
  have hr : Hid (1 ≤ wrap64 (1 + wrap64 ((IntKind.u64.wrap n).tmod 30)) ∧ wrap64 (1 + wrap64 ((IntKind.u64.wrap n).tmod 30)) ≤ 30) := by
    unfold Hid
    rw [u3]
    generalize (IntKind.u64.wrap n).tmod 30 = x at *
    unfold wrap64
    omega
  clear u1 u2 u3
  go_enter Try.func3, Try.ntmps3
  go_wp2_with fail
  refine (awake_any _).mono ?_
  rintro e w0 ⟨rfl, b0⟩
  go_wp2_with fail
  revert hr
  generalize wrap64 (1 + wrap64 ((IntKind.u64.wrap n).tmod 30)) = m
  intro hr
  obtain ⟨r1, r2⟩ := hr.out
  refine (new_to _ 32 _ me0).mono ?_
  rintro e w1 ⟨rfl, h1, b1⟩
  go_wp2_with fail
  refine (filled_to _ _ _ _ a h1).mono ?_
  rintro e w2 ⟨rfl, h2, b2⟩
  clear h1
  go_wp2_with fail
  refine (write_to _ _ _ _ _ 0 _ _ (me1 a) h2 (by dsimp only [meA, meB, meC, meD, meE, meF, meG, meH, meI, meJ, meK]; decide) (by dsimp only [meA, meB, meC, meD, meE, meF, meG, meH, meI, meJ, meK]; decide) (by rw [fillS_size]; omega)).mono ?_
  rintro e w3 ⟨rfl, h3, b3⟩
  clear h2
  go_wp2_with fail
  refine (filled_to _ _ _ _ a h3).mono ?_
  rintro e w4 ⟨rfl, h4, b4⟩
  clear h3
  go_wp2_with fail
  refine (write_to _ _ _ _ _ m _ _ (me2 a r1 r2) h4 (by dsimp only [meA, meB, meC, meD, meE, meF, meG, meH, meI, meJ, meK]; decide) (by dsimp only [meA, meB, meC, meD, meE, meF, meG, meH, meI, meJ, meK]; decide) (by rw [fillS_size]; omega)).mono ?_
  rintro e w5 ⟨rfl, h5, b5⟩
  clear h4
  go_wp2_with fail
  refine (sync_to _ _ _ _ _ _ (me3 (m := m) a) h5 (by dsimp only [meA, meB, meC, meD, meE, meF, meG, meH, meI, meJ, meK]; decide) (by dsimp only [meA, meB, meC, meD, meE, meF, meG, meH, meI, meJ, meK]; decide)).mono ?_
  rintro e w6 ⟨rfl, h6, b6⟩
  clear h5
  go_wp2_with fail
  refine (filled_to _ _ _ _ b h6).mono ?_
  rintro e w7 ⟨rfl, h7, b7⟩
  clear h6
  go_wp2_with fail
  refine (write_to _ _ _ _ _ m _ _ (me4 a b r1 r2) h7 (by dsimp only [meA, meB, meC, meD, meE, meF, meG, meH, meI, meJ, meK]; decide) (by dsimp only [meA, meB, meC, meD, meE, meF, meG, meH, meI, meJ, meK]; decide) (by rw [fillS_size]; omega)).mono ?_
  rintro e w8 ⟨rfl, h8, b8⟩
  clear h7
  go_wp2_with fail
  refine (off_to _ _ _ _ _ (me5 (m := m) a b) h8 (by dsimp only [meA, meB, meC, meD, meE, meF, meG, meH, meI, meJ, meK]; decide)).mono ?_
  rintro e w9 ⟨rfl, h9, b9⟩
  clear h8
  go_wp2_with fail
  refine (on_one_to _ _ _ _ _ 2 (me6 (m := m) a b) h9 (by dsimp only [meA, meB, meC, meD, meE, meF, meG, meH, meI, meJ, meK]; decide)).mono ?_
  rintro e w10 ⟨rfl, h10, b10⟩
  clear h9
  go_wp2_with fail
  refine (read_to _ _ _ _ m _ _ (me7 a r1 r2) h10 (by dsimp only [meA, meB, meC, meD, meE, meF, meG, meH, meI, meJ, meK]; decide)).mono ?_
  rintro e w11 ⟨rfl, h11, b11⟩
  clear h10
  go_wp2_with fail
  refine (filled_to _ _ _ _ b h11).mono ?_
  rintro e w12 ⟨rfl, h12, b12⟩
  clear h11
  go_wp2_with fail
  refine (write_to _ _ _ _ _ m _ _ (me8 a b r1 r2) h12 (by dsimp only [meA, meB, meC, meD, meE, meF, meG, meH, meI, meJ, meK]; decide) (by dsimp only [meA, meB, meC, meD, meE, meF, meG, meH, meI, meJ, meK]; decide) (by rw [fillS_size]; omega)).mono ?_
  rintro e w13 ⟨rfl, h13, b13⟩
  clear h12
  go_wp2_with fail
  refine (read_to _ _ _ _ m _ _ (me9 a b r1 r2) h13 (by dsimp only [meA, meB, meC, meD, meE, meF, meG, meH, meI, meJ, meK]; decide)).mono ?_
  rintro e w14 ⟨rfl, h14, b14⟩
  clear h13
  go_wp2_with fail
  refine (sync_to _ _ _ _ _ _ (me10 (m := m) a b) h14 (by dsimp only [meA, meB, meC, meD, meE, meF, meG, meH, meI, meJ, meK]; decide) (by dsimp only [meA, meB, meC, meD, meE, meF, meG, meH, meI, meJ, meK]; decide)).mono ?_
  rintro e w15 ⟨rfl, h15, b15⟩
  clear h14
  go_wp2_with fail
  refine (off_to _ _ _ _ _ (me11 (m := m) a b) h15 (by dsimp only [meA, meB, meC, meD, meE, meF, meG, meH, meI, meJ, meK]; decide)).mono ?_
  rintro e w16 ⟨rfl, h16, b16⟩
  clear h15
  go_wp2_with fail
  refine (on_nil_to _ _ _ _ _ (me12 (m := m) a b) h16 (by dsimp only [meA, meB, meC, meD, meE, meF, meG, meH, meI, meJ, meK]; decide)).mono ?_
  rintro e w17 ⟨rfl, h17, b17⟩
  clear h16
  go_wp2_with fail
  refine (read_to _ _ _ _ m _ _ (me13 a b r1 r2) h17 (by dsimp only [meA, meB, meC, meD, meE, meF, meG, meH, meI, meJ, meK]; decide)).mono ?_
  rintro e w18 ⟨rfl, h18, b18⟩
  clear h17
  go_wp2_with fail
  refine (read_to _ _ _ _ 0 _ _ (me14 a b r1 r2) h18 (by dsimp only [meA, meB, meC, meD, meE, meF, meG, meH, meI, meJ, meK]; decide)).mono ?_
  rintro e w19 ⟨rfl, h19, b19⟩
  clear h18
  go_wp2_with fail
  refine (filled_to _ _ _ _ b h19).mono ?_
  rintro e w20 ⟨rfl, h20, b20⟩
  clear h19
  go_wp2_with fail
  refine (filled_to _ _ _ _ a h20).mono ?_
  rintro e w21 ⟨rfl, h21, b21⟩
  clear h20
  go_wp2_with fail
  go_ret
  refine ⟨rfl, b0.trans ?_⟩
  exact (b1.trans (b2.trans (b3.trans (b4.trans (b5.trans (b6.trans (b7.trans (b8.trans (b9.trans (b10.trans (b11.trans (b12.trans (b13.trans (b14.trans (b15.trans (b16.trans (b17.trans (b18.trans (b19.trans (b20.trans (b21))))))))))))))))))))).mono b0.size

end Go.Proofs.Ytbikplckehbcnaa
