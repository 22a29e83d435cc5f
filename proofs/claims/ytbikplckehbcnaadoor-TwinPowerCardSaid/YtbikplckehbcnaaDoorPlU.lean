/- A plate of the call's own, from block lo on: each method by what it comes to. -/
import Derived.Test.YtbikplckehbcnaaDoorPlT
import Derived.Test.YtbikplckehbcnaaDoorPlG
set_option linter.unusedVariables false
set_option linter.unusedSimpArgs false
namespace Go.Proofs.YtbikplckehbcnaaDoor
open Go Go.RowKit

/-- A plate in the state s at block p, all of whose blocks are from lo on. -/
def PlateLo (lo : Nat) (w : World) (p : Nat) (s : PSt) : Prop := ∃ F, IsPlate w F p s ∧ ∀ k, F k → lo ≤ k ∧ k < w.heap.size

theorem IsPlate.shrink {w : World} {F : Nat → Prop} {p : Nat} {s : PSt} (h : IsPlate w F p s) : IsPlate w (fun k => F k ∧ k < w.heap.size) p s := by
  obtain ⟨m, qv, n, D, h0, hm, hD, hFp, hFm, hFq, hb, hok⟩ := h
  exact ⟨m, qv, n, D, h0, hm, hD, ⟨hFp, h0.blk.lt⟩, ⟨hFm, hm.lt⟩, fun g hg => ⟨hFq g hg, (h0.que.lt g hg).2⟩, hb, hok⟩

section
variable {lo : Nat} {w w' : World} {p : Nat} {s s' : PSt}
theorem PlateLo.lt (h : PlateLo lo w p s) : lo ≤ w.heap.size := by
  obtain ⟨F, h1, h2⟩ := h
  obtain ⟨m, qv, n, D, h0, hm, hD, hFp, _⟩ := h1
  have := h2 p hFp
  omega
theorem PlateLo.ok (h : PlateLo lo w p s) : s.Ok := by obtain ⟨F, h1, _⟩ := h; exact h1.ok
theorem PlateLo.left {F : Nat → Prop} (h2 : ∀ k, F k → lo ≤ k ∧ k < w.heap.size) (hl : lo ≤ w.heap.size) (h : Left w w' F p s') : PlateLo lo w' p s' ∧ Below lo w w' := by
  obtain ⟨F', hp, hf, hs⟩ := h
  refine ⟨⟨_, hp.shrink, fun k hk => ⟨?_, hk.2⟩⟩, hf.toBelow hl (fun k hk => (h2 k hk).1)⟩
  rcases hs k hk.1 with h3 | h3
  · exact (h2 k h3).1
  · omega
theorem PlateLo.below (h : PlateLo lo w p s) (hb : Below w.heap.size w w') : PlateLo lo w' p s := by
  obtain ⟨F, h1, h2⟩ := h
  exact ⟨F, h1.fr (G := Nope) ((Fr.refl Nope w).below hb) (fun _ _ h => h), fun k hk => ⟨(h2 k hk).1, Nat.lt_of_lt_of_le (h2 k hk).2 hb.size⟩⟩
theorem PlateLo.alloc (h : PlateLo lo w p s) (o : Obj) : PlateLo lo (w.alloc o) p s := h.below ((Below.refl _ w).alloc (Nat.le_refl _) o)

theorem write_to (lo : Nat) (w : World) (p : Nat) (s s' : PSt) (n : Int) (t : ByteArray) (r : Int) (ev : s.write n t = (s', r)) (h : PlateLo lo w p s) (h1 : s.life < 4611686018427387904) (h3 : s.acts < 1099511627776) (ht : t.size ≤ 9223372036854775807) :
    Calls Tryd.prog 75 #[.pointer (some ⟨p, 0, none⟩), .int .i64 n, .string t] w fun e w' => e = .returned (.int .i64 r) ∧ PlateLo lo w' p s' ∧ Below lo w w' := by
  have hl := h.lt
  obtain ⟨F, hp, hF⟩ := h
  refine (write_any w F p s n t hp h1 h3 ht).mono ?_
  rw [ev]
  rintro e w' ⟨rfl, hL⟩
  exact ⟨rfl, PlateLo.left hF hl hL⟩
theorem sync_to (lo : Nat) (w : World) (p : Nat) (s s' : PSt) (r : Int) (ev : s.sync = (s', r)) (h : PlateLo lo w p s) (h1 : s.life < 4611686018427387904) (h3 : s.acts < 1099511627776) :
    Calls Tryd.prog 38 #[.pointer (some ⟨p, 0, none⟩)] w fun e w' => e = .returned (.int .i64 r) ∧ PlateLo lo w' p s' ∧ Below lo w w' := by
  have hl := h.lt
  obtain ⟨F, hp, hF⟩ := h
  refine (sync_any w F p s hp h1 h3).mono ?_
  rw [ev]
  rintro e w' ⟨rfl, hL⟩
  exact ⟨rfl, PlateLo.left hF hl hL⟩
theorem off_to (lo : Nat) (w : World) (p : Nat) (s s' : PSt) (ev : s.off = s') (h : PlateLo lo w p s) (h1 : s.life < 4611686018427387904) :
    Calls Tryd.prog 21 #[.pointer (some ⟨p, 0, none⟩)] w fun e w' => e = .returned (.tuple #[]) ∧ PlateLo lo w' p s' ∧ Below lo w w' := by
  have hl := h.lt
  obtain ⟨F, hp, hF⟩ := h
  refine (off_is w F p s hp h1).mono ?_
  rw [ev]
  rintro e w' ⟨rfl, hL⟩
  exact ⟨rfl, PlateLo.left hF hl hL⟩
theorem arm_to (lo : Nat) (w : World) (p : Nat) (s s' : PSt) (n : Int) (ev : s.arm n = s') (h : PlateLo lo w p s) (hn : n ≤ 9223372036854775807) :
    Calls Tryd.prog 18 #[.pointer (some ⟨p, 0, none⟩), .int .i64 n] w fun e w' => e = .returned (.tuple #[]) ∧ PlateLo lo w' p s' ∧ Below lo w w' := by
  have hl := h.lt
  obtain ⟨F, hp, hF⟩ := h
  refine (arm_is w F p s n hp hn).mono ?_
  rw [ev]
  rintro e w' ⟨rfl, hL⟩
  exact ⟨rfl, PlateLo.left hF hl hL⟩
theorem on_nil_to (lo : Nat) (w : World) (p : Nat) (s s' : PSt) (ev : s.on [] = s') (h : PlateLo lo w p s) (h3 : s.acts < 1099511627776) :
    Calls Tryd.prog 20 #[.pointer (some ⟨p, 0, none⟩), .slice none 0 0] w fun e w' => e = .returned (.tuple #[]) ∧ PlateLo lo w' p s' ∧ Below lo w w' := by
  have hl := h.lt
  obtain ⟨F, hp, hF⟩ := h
  refine (on_any w F p s none 0 [] hp h3 (Ints.nil w F none)).mono ?_
  rw [ev]
  rintro e w' ⟨rfl, hL⟩
  exact ⟨rfl, PlateLo.left hF hl hL⟩
/-- On([]int{x}). -/
theorem on_one_to (lo : Nat) (w : World) (p : Nat) (s s' : PSt) (x : Int) (ev : s.on [x] = s') (h : PlateLo lo w p s) (h3 : s.acts < 1099511627776) :
    Calls Tryd.prog 20 #[.pointer (some ⟨p, 0, none⟩), .slice (some ⟨w.heap.size, 0, none⟩) 1 1] (w.alloc (.cells #[.int .i64 x] 3)) fun e w' => e = .returned (.tuple #[]) ∧ PlateLo lo w' p s' ∧ Below lo w w' := by
  have hl := h.lt
  obtain ⟨F, hp, hF⟩ := h
  have hb := (Below.refl w.heap.size w).alloc (Nat.le_refl _) (.cells #[.int .i64 x] 3)
  have hI : Ints (w.alloc (.cells #[.int .i64 x] 3)) F (some ⟨w.heap.size, 0, none⟩) [x] := by
    refine ⟨by simp, fun _ => ⟨_, rfl, by simp, fun hk => by have := (hF _ hk).2; simp at this, ?_⟩⟩
    intro j hj
    have : j = 0 := by simp at hj; omega
    subst this
    exact (Blk.new w 3 #[.int .i64 x]).cell 0
  refine (on_any _ F p s _ 1 [x] (hp.fr (G := Nope) ((Fr.refl Nope w).below hb) (fun _ _ h => h)) h3 hI).mono ?_
  rw [ev]
  rintro e w' ⟨rfl, hL⟩
  have := PlateLo.left (lo := lo) (fun k hk => ⟨(hF k hk).1, Nat.lt_of_lt_of_le (hF k hk).2 hb.size⟩) (Nat.le_trans hl hb.size) hL
  exact ⟨rfl, this.1, (hb.mono hl).trans this.2⟩
theorem read_to (lo : Nat) (w : World) (p : Nat) (s : PSt) (n : Int) (t : ByteArray) (r : Int) (ev : s.read n = (t, r)) (h : PlateLo lo w p s) (h3 : s.acts < 1099511627776) :
    Calls Tryd.prog 33 #[.pointer (some ⟨p, 0, none⟩), .int .i64 n] w fun e w' => e = .returned (.tuple #[.string t, .int .i64 r]) ∧ PlateLo lo w' p s ∧ Below lo w w' := by
  have hl := h.lt
  have h' := h
  obtain ⟨F, hp, hF⟩ := h
  refine (read_any w F p s n hp h3).mono ?_
  rw [ev]
  rintro e w' ⟨rfl, hL⟩
  exact ⟨rfl, h'.below hL, hL.mono hl⟩
theorem new_to (w : World) (n : Int) (s : PSt) (ev : PSt.fresh n = s) : Calls Tryd.prog 11 #[.int .i64 n] w fun e w' =>
    e = .returned (.pointer (some ⟨w.heap.size + 1, 0, none⟩)) ∧ PlateLo w.heap.size w' (w.heap.size + 1) s ∧ Below w.heap.size w w' := by
  refine (new_is w n).mono ?_
  rw [ev]
  rintro e w' ⟨rfl, h, hb, hs⟩
  exact ⟨rfl, ⟨_, h, fun k hk => by rcases hk with rfl | rfl <;> omega⟩, hb⟩
end

end Go.Proofs.YtbikplckehbcnaaDoor
