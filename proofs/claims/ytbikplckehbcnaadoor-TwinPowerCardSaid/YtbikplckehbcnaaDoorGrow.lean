/- The store's row has grown by a page. -/
import Derived.Test.YtbikplckehbcnaaDoorAppP
set_option linter.unusedVariables false
set_option linter.unusedSimpArgs false
namespace Go.Proofs.YtbikplckehbcnaaDoor
open Go Go.RowKit

theorem StAt.grow {lo : Nat} {w w1 w9 : World} {F : Nat → Prop} {q p : Nat} {pv : Value} {frm tw : Nat} {life : Int} {dead : Bool} {s : PSt} {ps : List PgM} (h : StAt lo w F q p pv frm tw life dead s ps) (hb : Below w.heap.size w w1) (m : PgM) (hm : m.xs.length ≤ 255)
    (hs : Slots w1 (fun k => F k ∨ k = q ∨ pv.ownBlock = some k) m.A m.xs) {g c : Nat} (ho : w9.ownsRow lo 25 2 (.slice (some ⟨g, 0, none⟩) (ps.length + 1) c) (ps ++ [m]).length (pgCells (ps ++ [m]))) (hg : w1.grownBy w9 pv.ownBlock)
    (hat : some g = pv.ownBlock ∨ some g = some w1.heap.size) :
    StAt lo (w9.setCell ⟨q, 3, none⟩ (.slice (some ⟨g, 0, none⟩) (ps.length + 1) c)) F q p (.slice (some ⟨g, 0, none⟩) (ps.length + 1) c) frm tw life dead s (ps ++ [m]) ∧ Below lo w (w9.setCell ⟨q, 3, none⟩ (.slice (some ⟨g, 0, none⟩) (ps.length + 1) c)) := by
  have h1 := h.below hb
  have hf : Fr (fun k => pv.ownBlock = some k) w1 w9 := (Fr.refl _ w1).grown hg (fun k hk => .inl hk)
  have hf2 : Fr (One q) w9 (w9.setCell ⟨q, 3, none⟩ (.slice (some ⟨g, 0, none⟩) (ps.length + 1) c)) := (Fr.refl _ w9).one 3 _
  have hgF : ¬ F g := fun hF => by
    rcases hat with e | e
    · exact h1.dv g e.symm hF
    · have := (h1.fl g hF).2; have := Option.some.inj e; omega
  have hgq : g ≠ q := by
    rcases hat with e | e
    · exact fun e2 => h1.nqv (by rw [← e, e2])
    · have := Option.some.inj e; have := h1.st.lt; omega
  have hsl : ∀ m' : PgM, (m'.xs.length ≤ 255 ∧ Slots w1 (fun k => F k ∨ k = q ∨ pv.ownBlock = some k) m'.A m'.xs) → m'.xs.length ≤ 255 ∧ Slots (w9.setCell ⟨q, 3, none⟩ (.slice (some ⟨g, 0, none⟩) (ps.length + 1) c)) (fun k => F k ∨ k = q ∨ (Value.slice (some ⟨g, 0, none⟩) (ps.length + 1) c).ownBlock = some k) m'.A m'.xs := by
    rintro m' ⟨h2, h3⟩
    refine ⟨h2, ?_⟩
    have h4 : Slots w1 (fun k => (F k ∨ k = q ∨ pv.ownBlock = some k) ∨ k = g) m'.A m'.xs := h3.mono (fun k hk hk2 => by
      rcases hk2 with hk2 | hk2
      · exact hk2
      · subst hk2
        rcases hat with e | e
        · exact .inr (.inr e.symm)
        · have := Option.some.inj e; omega)
    have h5 := (h4.fr (hf.mono (fun k hk => .inl (.inr (.inr hk))))).fr (hf2.mono (F' := fun k => (F k ∨ k = q ∨ pv.ownBlock = some k) ∨ k = g) (fun k hk => .inl (.inr (.inl hk))))
    exact h5.mono (fun k _ hk => by
      rcases hk with hk | hk | hk
      · exact .inl (.inl hk)
      · exact .inl (.inr (.inl hk))
      · exact .inr (Option.some.inj hk).symm)
  refine ⟨⟨?_, ?_, (h1.pl.fr hf (fun k hk e => h1.dv k e hk)).fr hf2 (fun k hk e => h1.dq ((show k = q from e) ▸ hk)), fun k hk => ⟨(h1.fl k hk).1, Nat.lt_of_lt_of_le (h1.fl k hk).2 (Nat.le_trans hf.size hf2.size)⟩, h1.lq, h1.dq, ?_, ?_⟩, ?_⟩
  · exact (h1.st.fr hf (fun e => h1.nqv e)).set_ 3 _
  · exact own_fr ho hf2 (fun j hj e => hgq (by rw [← (show j = q from e)]; exact Option.some.inj hj))
  · intro j hj
    rw [← Option.some.inj hj]
    exact hgF
  · intro m' hm'
    rcases List.mem_append.1 hm' with h2 | h2
    · exact hsl m' (h1.sl m' h2)
    · rw [List.mem_singleton.1 h2]
      exact hsl m ⟨hm, hs⟩
  · refine ((hb.mono h.lt).trans ((hf.toBelow h1.lt (fun k hk => (h1.pg.lt k hk).1)).trans (hf2.toBelow (Nat.le_trans h1.lt hf.size) (fun k hk => by rw [show k = q from hk]; exact h1.lq))))

end Go.Proofs.YtbikplckehbcnaaDoor
