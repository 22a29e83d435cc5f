/- The plate in memory; its small methods. -/
import Derived.Test.YtbikplckehbcnaaDoorPlS
import Derived.Test.YtbikplckehbcnaaDoorChecked
import Derived.Outline
set_option linter.unusedVariables false
set_option linter.unusedSimpArgs false
namespace Go.Proofs.YtbikplckehbcnaaDoor
open Go Go.RowKit

def qcells (l : List (Int × ByteArray)) : List Value := l.flatMap fun x => [.int .i64 x.1, .string x.2]
noncomputable def qelem (v : Value) : Option (DataW Unit × List MemPlace) := plainElem Tryd.prog 9 v
/-- What the map holds, key by key. -/
noncomputable def MapFn (D : DataW Unit) (f : Int → Option ByteArray) : Prop :=
  ∀ n : Int, (Lit.int .i64 n).wf = true → (Maps.has D (.int .i64 n) = (f n).isSome ∧ ∀ t, f n = some t → ∀ z, D.atKey (.int .i64 n) z = .lit (.string t.data.toList))

/-- The plate's block holds the state s; m: the map's block, qv: the queue. -/
structure Plate0 (w : World) (p m : Nat) (qv : Value) (s : PSt) : Prop where
  blk : Blk w p 82 #[.int .i64 s.count, .map (some m), qv, .bool s.down, .int .i64 s.acts, .int .i64 s.armed, .int .i64 s.life]
  que : w.ownsRow 0 94 2 qv s.queue.length (qcells s.queue)

theorem ready_any (w : World) (p m : Nat) (qv : Value) (s : PSt) (n : Int) (h : Plate0 w p m qv s) :
    Calls Tryd.prog 69 #[.pointer (some ⟨p, 0, none⟩), .int .i64 n] w fun e w' => e = .returned (.int .i64 (s.rdy n)) ∧ w = w' := by
  have c0 := h.blk.cell 0
  have c3 := h.blk.cell 3
  simp only [List.getElem?_toArray] at c0 c3
  clear h
  unfold PSt.rdy
  by_cases hd : s.down = true
  · rw [hd] at c3
    rw [if_pos hd]
    clear hd
    go_enter Tryd.func69, Tryd.ntmps69
    go_wp2
    go_ret
    exact ⟨rfl, rfl⟩
  · rw [if_neg hd]
    rw [Bool.eq_false_iff.2 hd] at c3
    clear hd
    by_cases h0 : n < 0
    · rw [if_pos h0]
      go_enter Tryd.func69, Tryd.ntmps69
      go_wp2
      go_ret
      exact ⟨rfl, rfl⟩
    · rw [if_neg h0]
      by_cases h1 : s.count ≤ n
      · rw [if_pos h1]
        go_enter Tryd.func69, Tryd.ntmps69
        go_wp2
        go_ret
        exact ⟨rfl, rfl⟩
      · rw [if_neg h1]
        go_enter Tryd.func69, Tryd.ntmps69
        go_wp2
        go_ret
        exact ⟨rfl, rfl⟩

theorem Plate0.keep {w w' : World} {p m : Nat} {qv : Value} {s s' : PSt} (h : Plate0 w p m qv s) (hf : Fr (One p) w w') (hq : s'.queue = s.queue)
    (hb : Blk w' p 82 #[.int .i64 s'.count, .map (some m), qv, .bool s'.down, .int .i64 s'.acts, .int .i64 s'.armed, .int .i64 s'.life]) : Plate0 w' p m qv s' :=
  ⟨hb, by rw [hq]; exact own_fr h.que hf (fun g hg e => own_blk_ne h.que h.blk (by decide) (by rw [hg, e]))⟩

theorem off_any (w : World) (p m : Nat) (qv : Value) (s : PSt) (h : Plate0 w p m qv s) (h0 : 0 ≤ s.life) (h1 : s.life < 4611686018427387904) :
    Calls Tryd.prog 21 #[.pointer (some ⟨p, 0, none⟩)] w fun e w' => e = .returned (.tuple #[]) ∧ Plate0 w' p m qv s.off ∧ Fr (One p) w w' := by
  have hblk := h.blk
  have c3 := h.blk.cell 3
  have c5 := h.blk.cell 5
  have c6 := h.blk.cell 6
  have f3 := h.blk.frozen 3
  have f5 := h.blk.frozen 5
  have f6 := h.blk.frozen 6
  simp only [List.getElem?_toArray] at c3 c5 c6
  by_cases hd : s.down = true
  · have hs : s.off = s := by unfold PSt.off; rw [if_pos hd]
    have HK : Hid (Plate0 w p m qv s.off) := by rw [hs]; exact h
    clear hs h hblk
    rw [hd] at c3
    clear hd
    go_enter Tryd.func21, Tryd.ntmps21
    go_wp2
    go_end0
    exact ⟨rfl, HK.out, Fr.refl _ _⟩
  · have hs : s.off = { s with down := true, armed := 0, life := s.life + 1 } := by unfold PSt.off; rw [if_neg hd]
    have HS := Lib.hid hs
    clear hs
    have HK := Lib.hid h
    clear h
    have HB := Lib.hid hblk
    clear hblk
    rw [Bool.eq_false_iff.2 hd] at c3
    clear hd
    go_enter Tryd.func21, Tryd.ntmps21
    go_wp2
    go_end0
    refine ⟨rfl, ?_, ?_⟩
    · rw [HS.out]
      refine HK.out.keep ((((Fr.refl _ _).one 3 _).one 5 _).one 6 _) rfl ?_
      exact ((HB.out.set_ 3 _).set_ 5 _).set_ 6 _
    · exact (((Fr.refl _ _).one 3 _).one 5 _).one 6 _

end Go.Proofs.YtbikplckehbcnaaDoor
