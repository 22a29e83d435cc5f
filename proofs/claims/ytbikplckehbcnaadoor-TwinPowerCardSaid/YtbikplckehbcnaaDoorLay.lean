/- twin.Store: where sectors are laid, and laying. -/
import Derived.Test.YtbikplckehbcnaaDoorFits
import Derived.Deep.RegionHeld3
set_option linter.unusedVariables false
set_option linter.unusedSimpArgs false
namespace Go.Proofs.YtbikplckehbcnaaDoor
open Go Go.RowKit

set_option maxRecDepth 100000 in
theorem home_at {lo : Nat} (w : World) {F : Nat → Prop} {q p : Nat} {pv : Value} {frm tw : Nat} {life : Int} {dead : Bool} {s : PSt} {ps : List PgM} (h : StAt lo w F q p pv frm tw life dead s ps) (n : Nat) (h1 : frm ≤ 16384) (h2 : tw ≤ 64) (h3 : n ≤ 1048576) :
    Calls Tryd.prog 44 #[.pointer (some ⟨q, 0, none⟩), .int .i64 (n : Int)] w fun e w' => e = .returned (.int .i64 ((frm + tw + n : Nat) : Int)) ∧ ∃ m, w' = w.drewN m := by
  have hx1 := h.st.cell 1
  have hx2 := h.st.cell 2
  simp only [List.getElem?_toArray] at hx1 hx2
  clear h
  go_enter Tryd.func44, Tryd.ntmps44
  go_upto_region 1 with fail
  go_quiet (fail)
  go_wp2_with fail
  go_ret
  exact ⟨rfl, _, rfl⟩


set_option maxRecDepth 100000 in
theorem place1_at {lo : Nat} (w : World) {F : Nat → Prop} {q p : Nat} {pv : Value} {frm tw : Nat} {life : Int} {dead : Bool} {s : PSt} {ps : List PgM} (h : StAt lo w F q p pv frm tw life dead s ps) (bx : Nat) (hb : w.cell? ⟨bx, 0, none⟩ = some (.pointer (some ⟨q, 0, none⟩))) (i : Nat) (h1 : frm ≤ 16384) (h3 : i ≤ 1048576) :
    Calls Tryd.prog 42 #[.int .i64 (i : Int), .pointer (some ⟨bx, 0, none⟩)] w fun e w' => e = .returned (.int .i64 ((frm + i : Nat) : Int)) ∧ Below w.heap.size w w' := by
  have hx1 := h.st.cell 1
  simp only [List.getElem?_toArray] at hx1
  clear h
  go_enter Tryd.func42, Tryd.ntmps42
  go_wp2_with fail
  go_ret
  exact ⟨rfl, Below.refl _ _⟩
theorem StAt.drewN {lo : Nat} {w : World} {F : Nat → Prop} {q p : Nat} {pv : Value} {frm tw : Nat} {life : Int} {dead : Bool} {s : PSt} {ps : List PgM} (h : StAt lo w F q p pv frm tw life dead s ps) (n : Nat) : StAt lo (w.drewN n) F q p pv frm tw life dead s ps :=
  h.below (((Fr.refl Nope w).drewN n).toBelow (Nat.le_refl _) (fun _ h => h.elim))

set_option maxRecDepth 100000 in
set_option maxHeartbeats 1000000 in
theorem place2_at {lo : Nat} (w : World) {F : Nat → Prop} {q p : Nat} {pv : Value} {frm tw : Nat} {life : Int} {dead : Bool} {s : PSt} {ps : List PgM} (h : StAt lo w F q p pv frm tw life dead s ps) (bx b3 : Nat) (hb : w.cell? ⟨bx, 0, none⟩ = some (.pointer (some ⟨q, 0, none⟩)))
    (G : Nat → Prop) (b off c : Nat) (len : Nat) (hb3 : w.cell? ⟨b3, 0, none⟩ = some (.slice (some ⟨b, off, none⟩) len c)) (i n : Nat) (hi : i < len) (hlen : len ≤ 65536) (hc : w.cell? ⟨b, off + i * 3, none⟩ = some (.int .i64 (n : Int))) (h1 : frm ≤ 16384) (h2 : tw ≤ 64) (h3 : n ≤ 1048576) :
    Calls Tryd.prog 43 #[.int .i64 (i : Int), .pointer (some ⟨bx, 0, none⟩), .pointer (some ⟨b3, 0, none⟩)] w fun e w' => e = .returned (.int .i64 ((frm + tw + n : Nat) : Int)) ∧ Below w.heap.size w w' := by
  have H := Lib.hid h
  clear h
  have HH : Hid (∀ m : Nat, Calls Tryd.prog 44 #[.pointer (some ⟨q, 0, none⟩), .int .i64 (n : Int)] (w.drewN m) fun e w' => e = .returned (.int .i64 ((frm + tw + n : Nat) : Int)) ∧ ∃ j, w' = (w.drewN m).drewN j) := fun m => home_at _ (H.out.drewN m) n h1 h2 h3
  go_enter Tryd.func43, Tryd.ntmps43
  go_upto_region 1 with fail
  go_quiet (first | (go_at_call 44; exact Calls.quiet_of (HH.out _)))
  go_wp2_with fail
  go_ret
  exact ⟨rfl, ((Fr.refl Nope _).drewN _).toBelow (Nat.le_refl _) (fun _ h => h.elim)⟩

/-- The plate alone was touched: its blocks are those of before, and new ones. -/
theorem StAt.left2 {lo : Nat} {w w' : World} {F : Nat → Prop} {q p : Nat} {pv : Value} {frm tw : Nat} {life : Int} {dead : Bool} {s s' : PSt} {ps : List PgM} (h : StAt lo w F q p pv frm tw life dead s ps) (hL : Left w w' F p s') :
    ∃ F', StAt lo w' F' q p pv frm tw life dead s' ps ∧ Fr F w w' ∧ Sub w F F' := by
  obtain ⟨F', hp, hf, hs⟩ := hL
  have hq := h.st.lt
  refine ⟨fun k => F' k ∧ k < w'.heap.size, ⟨h.st.fr hf h.dq, own_fr h.pg hf h.dv, hp.shrink, fun k hk => ⟨?_, hk.2⟩, h.lq, ?_, ?_, ?_⟩, hf, fun k hk => hs k hk.1⟩
  · rcases hs k hk.1 with h3 | h3
    · exact (h.fl k h3).1
    · have := h.lt; omega
  · intro hk
    rcases hs q hk.1 with h3 | h3
    · exact h.dq h3
    · omega
  · intro g hg hk
    rcases hs g hk.1 with h3 | h3
    · exact h.dv g hg h3
    · have := (h.pg.lt g hg).2; omega
  · intro m hm
    obtain ⟨h1, h2⟩ := h.sl m hm
    refine ⟨h1, (h2.mono (F' := fun k => (F k ∨ k = q ∨ pv.ownBlock = some k) ∨ (F' k ∧ k < w'.heap.size)) (fun k hk hk2 => ?_)).fr (hf.mono (fun k hk => .inl (.inl hk))) |>.mono (fun k hk hk2 => ?_)⟩
    · rcases hk2 with hk2 | hk2
      · exact hk2
      · rcases hs k hk2.1 with h3 | h3
        · exact .inl h3
        · omega
    · rcases hk2 with hk2 | hk2
      · exact .inr hk2
      · exact .inl (.inr hk2)
/-- The store is marked. -/
theorem StAt.mark {lo : Nat} {w : World} {F : Nat → Prop} {q p : Nat} {pv : Value} {frm tw : Nat} {life : Int} {dead : Bool} {s : PSt} {ps : List PgM} (h : StAt lo w F q p pv frm tw life dead s ps) (d : Bool) : StAt lo (w.setCell ⟨q, 5, none⟩ (.bool d)) F q p pv frm tw life d s ps := by
  have hf : Fr (One q) w (w.setCell ⟨q, 5, none⟩ (.bool d)) := (Fr.refl _ w).one 5 _
  exact ⟨h.st.set_ 5 _, own_fr h.pg hf (fun g hg e => h.nqv (by rw [hg, show g = q from e])), h.pl.fr hf (fun k hk e => h.dq ((show k = q from e) ▸ hk)), fun k hk => ⟨(h.fl k hk).1, Nat.lt_of_lt_of_le (h.fl k hk).2 hf.size⟩, h.lq, h.dq, h.dv, fun m hm => ⟨(h.sl m hm).1, (h.sl m hm).2.fr (hf.mono (fun k hk => .inr (.inl hk)))⟩⟩

/-- Writes, one behind the other, till one fails. -/
def layW : PSt → List (Int × ByteArray) → PSt × Int
  | s, [] => (s, 0)
  | s, x :: r => if (s.write x.1 x.2).2 = 0 then layW (s.write x.1 x.2).1 r else s.write x.1 x.2
theorem layW_snoc : ∀ (l : List (Int × ByteArray)) (s s' : PSt) (x : Int × ByteArray), layW s l = (s', 0) → layW s (l ++ [x]) = (s'.write x.1 x.2) := by
  intro l
  induction l with
  | nil => intro s s' x h; cases h; simp only [List.nil_append, layW]; split <;> rename_i h <;> first | rfl | (rw [← h])
  | cons y l ih =>
    intro s s' x h
    simp only [List.cons_append, layW] at h ⊢
    split
    · rename_i h0
      rw [if_pos h0] at h
      exact ih _ _ _ h
    · rename_i h0
      rw [if_neg h0] at h
      rw [h] at h0
      exact absurd rfl h0
theorem layW_stop : ∀ (l m : List (Int × ByteArray)) (s s' : PSt) (e : Int), layW s l = (s', e) → e ≠ 0 → layW s (l ++ m) = (s', e) := by
  intro l
  induction l with
  | nil => intro m s s' e h he; cases h; exact absurd rfl he
  | cons y l ih =>
    intro m s s' e h he
    simp only [List.cons_append, layW] at h ⊢
    split
    · rename_i h0
      rw [if_pos h0] at h
      exact ih _ _ _ _ h he
    · rename_i h0
      rw [if_neg h0] at h
      exact h

end Go.Proofs.YtbikplckehbcnaaDoor
