/- The plate's map: what a store does to what it tells; the round of Sync. -/
import Derived.Test.YtbikplckehbcnaaDoorPlC
import Derived.RegionTactic
namespace Go.Proofs.YtbikplckehbcnaaDoor
open Go Go.RowKit

theorem wf_small {n : Int} (h0 : 0 ≤ n) (h1 : n < 16384) : (Lit.int .i64 n).wf = true := WalkArith.wf_i64 (by omega)

theorem keyLit_int (n : Int) : WideAt.IsKeyLit (.int .i64 n) := by simp [WideAt.IsKeyLit]

theorem MapFn.put {D : DataW Unit} {f : Int → Option ByteArray} (h : MapFn D f) (hm : Maps.IsMap D) (x : Int × ByteArray) :
    MapFn (D.put (.int .i64 x.1) (.lit (.string x.2.data.toList))) (PSt.put f x) := by
  intro n hn
  unfold PSt.put
  by_cases e : n = x.1
  · subst e
    rw [if_pos rfl]
    refine ⟨by rw [Maps.has_put_same hm (keyLit_int _)]; rfl, ?_⟩
    intro t ht z
    rw [Maps.atKey_put_same hm (keyLit_int _)]
    cases ht
    rfl
  · rw [if_neg e]
    have hne : (Lit.int .i64 n) ≠ (.int .i64 x.1) := fun h => e (by injection h)
    rw [Maps.has_put_other hne]
    refine ⟨(h n hn).1, fun t ht z => ?_⟩
    rw [Maps.atKey_put_other hne]
    exact (h n hn).2 t ht z

theorem law_int : Maps.Keyed Tryd.prog 3 := Maps.int_keyed Tryd.underlying3

theorem owns_isMap {w : World} {b n : Nat} {D : DataW Unit} (h : w.ownsMap Tryd.prog 3 qelem b n D) : Maps.IsMap D := by
  obtain ⟨es, clock, _, _, _, rfl⟩ := h
  exact ⟨_, rfl⟩

/-- A store into the plate's map. -/
theorem map_store {W : World} {m n : Nat} {D : DataW Unit} {f : Int → Option ByteArray} (h : W.ownsMap Tryd.prog 3 qelem m n D) (hf : MapFn D f) (hn : n < 4611686018427387904)
    (x : Int × ByteArray) (h0 : 0 ≤ x.1) (h1 : x.1 < 16384) (h2 : x.2.size ≤ 9223372036854775807) :
    ∃ w' D', (Instr.mapUpdate 79 (.map (some m)) (.int .i64 x.1) (.string x.2)).run Tryd.prog W = .ok () w' ∧ w'.ownsMap Tryd.prog 3 qelem m (n + 1) D' ∧ MapFn D' (PSt.put f x) ∧ W.grownBy w' (some m) := by
  obtain ⟨w', hr, ho, hg⟩ := h.update law_int Tryd.underlying79 (by simp only [maxLen]; omega) (Maps.keyOf_int_mk Tryd.underlying3 (wf_small h0 h1)) (plainElem_string Tryd.underlying9 (by simp only [maxLen]; exact h2))
  exact ⟨w', _, hr, ho, hf.put (owns_isMap h) x, hg⟩

theorem qcell (l : List (Int × ByteArray)) : ∀ (k : Nat) (x : Int × ByteArray), l[k]? = some x → (qcells l)[k * 2]? = some (.int .i64 x.1) ∧ (qcells l)[k * 2 + 1]? = some (.string x.2) := by
  induction l with
  | nil => intro k x h; simp at h
  | cons y l ih =>
    intro k x h
    cases k with
    | zero => simp at h; subst h; simp [qcells]
    | succ k =>
      simp at h
      have := ih k x h
      rw [show (k + 1) * 2 = k * 2 + 2 by omega]
      simpa [qcells] using this

theorem qrow {w : World} {qv : Value} {l : List (Int × ByteArray)} (h : w.ownsRow 0 94 2 qv l.length (qcells l)) (k : Nat) (x : Int × ByteArray) (hk : l[k]? = some x) :
    ∃ g c, qv = .slice (some ⟨g, 0, none⟩) l.length c ∧ w.cell? ⟨g, k * 2, none⟩ = some (.int .i64 x.1) ∧ w.cell? ⟨g, k * 2 + 1, none⟩ = some (.string x.2) := by
  have hlt : k < l.length := (List.getElem?_eq_some_iff.1 hk).1
  obtain ⟨g, c, rfl, _⟩ := h.form (by omega)
  have hc := h.cells (g := g) rfl
  have hx := qcell l k x hk
  refine ⟨g, c, rfl, ?_, ?_⟩
  · have := hc _ _ hx.1
    rwa [show (⟨g, 0, none⟩ : Addr).add (k * 2) = ⟨g, k * 2, none⟩ by unfold Addr.add; split <;> simp_all] at this
  · have := hc _ _ hx.2
    rwa [show (⟨g, 0, none⟩ : Addr).add (k * 2 + 1) = ⟨g, k * 2 + 1, none⟩ by unfold Addr.add; split <;> simp_all] at this

theorem Plate0.alloc {w : World} {p m : Nat} {qv : Value} {s : PSt} (h : Plate0 w p m qv s) (o : Obj) : Plate0 (w.alloc o) p m qv s := ⟨h.blk.alloc o, h.que.alloc o⟩
theorem Plate0.drew {w : World} {p m : Nat} {qv : Value} {s : PSt} (h : Plate0 w p m qv s) : Plate0 w.drew p m qv s := ⟨h.blk, h.que⟩
theorem Plate0.grown {w w' : World} {p m : Nat} {qv : Value} {s : PSt} (h : Plate0 w p m qv s) (hg : w.grownBy w' (some m)) (h1 : m ≠ p) (h2 : qv.ownBlock ≠ some m) : Plate0 w' p m qv s :=
  ⟨h.blk.grown hg (fun e => h1 (by injection e with e; exact e.symm)), h.que.kept hg (.inr h2)⟩
theorem puts_take (f : Int → Option ByteArray) (l : List (Int × ByteArray)) (k : Nat) (x : Int × ByteArray) (hx : l[k]? = some x) : PSt.puts f (l.take (k + 1)) = PSt.put (PSt.puts f (l.take k)) x := by
  rw [List.take_add_one, hx]
  simp [PSt.puts, List.foldl_append]
theorem Plate0.empty {w w' : World} {p m : Nat} {qv : Value} {s s' : PSt} (h : Plate0 w p m qv s) (hf : w' = w.setCell ⟨p, 2, none⟩ (.slice none 0 0)) (hs : s' = { s with queue := [], secs := s'.secs }) : Plate0 w' p m (.slice none 0 0) s' := by
  subst hf
  rw [hs]
  exact ⟨h.blk.set_ 2 _, World.ownsRow_nil _ _ _ _⟩

end Go.Proofs.YtbikplckehbcnaaDoor
